/- What is proved: the law on valid lines and circles. No conditions beyond those in the statements. -/
import Derived.Test.YtdapdeamkhldjaaGreatUm
set_option linter.unusedVariables false
set_option linter.unusedSimpArgs false
set_option maxHeartbeats 4000000
set_option maxRecDepth 8000
/-
The law on valid lines and circles.
-/
namespace Go.Pi
open Go Go.Proofs Num
theorem iValid_r {n : Bool} {l : List Int} (hu : U32 l) (hn : l.length ≤ 1000000000) : Rq 115 [.agg [.bool n, .sl false (us l)]] = some (.bool (dec (∃ v, n = ng v ∧ l = lm v))) := by
  refine RL_of (f := 115) (fn := Tryz.f115) Tryz.func115 rfl rfl rfl (Nat.le_of_ble_eq_true rfl) ?_
  simp -implicitDefEqProofs only [go_sem]
  generalize hL : execL _ _ _ _ _ (.loop _) _ = L
  obtain ⟨⟨e, r, ⟨m, nx⟩⟩, rfl, H⟩ := loop_of hL (fun k s => ∃ i : Nat, (k = l.length - i ∧ i ≤ l.length ∧ Lm (l.take i)) ∧ s.M.m 0 = .live true 28 [.bool n, .sl false (us l)] ∧ s.r 1 = .ptr 0 0 ∧ s.r 7 = .sl false (us l) ∧ s.r 8 = .int .i64 l.length ∧ s.r 9 = .int .i64 i ∧ s.r 2 = .bool false)
    (fun y => (y.1 = .ret ∧ y.2.r 2 = .bool false ∧ ¬ Lm l) ∨ (y.1 = .exit 0 ∧ Lm l ∧ y.2.M.m 0 = .live true 28 [.bool n, .sl false (us l)] ∧ y.2.r 1 = .ptr 0 0)) ⟨l.length, by
    simp -implicitDefEqProofs (maxSteps := 5000000) (disch := omega) only [go_sem, if_pos, if_neg, dec_t, dec_f, IntWalk.i64_in, IntWalk.u32_in, IntWalk.u64_in, beq_no]
    exact ⟨0, ⟨by omega, by omega, by rw [List.take_zero]; exact lm_nil⟩, rfl⟩⟩ (by
    rintro k ⟨r, ⟨m, nx⟩⟩ ⟨i, ⟨rfl, hi, hl⟩, hm, h1, h7, h8, h9, h2⟩
    dsimp only at hm h1 h7 h8 h9 h2
    have e1 : (i : Int).toNat = i := by omega
    by_cases hlt : i < l.length
    · have hx := hu (l.getD i 0) (by rw [List.getD_eq_getElem?_getD, List.getElem?_eq_getElem hlt]; exact List.getElem_mem hlt)
      by_cases hb : l.getD i 0 < 1000000000
      · have h' : ¬ l.getD i 0 ≥ 1000000000 := by omega
        simp -implicitDefEqProofs (maxSteps := 5000000) (disch := omega) only [go_sem, hm, h1, h7, h8, h9, h2, e1, us_get, if_pos, if_neg, dec_t, dec_f, IntWalk.i64_in, IntWalk.u32_in, IntWalk.u64_in, beq_no]
        refine ⟨_, by omega, i + 1, ⟨rfl, by omega, ?_⟩, by rfl⟩
        rw [take_succ' _ _ hlt]
        exact lm_append.2 ⟨hl, lm_cons.2 ⟨by omega, lm_nil⟩⟩
      · simp -implicitDefEqProofs (maxSteps := 5000000) (disch := omega) only [go_sem, hm, h1, h7, h8, h9, h2, e1, us_get, if_pos, if_neg, dec_t, dec_f, IntWalk.i64_in, IntWalk.u32_in, IntWalk.u64_in, beq_no]
        left
        intro h
        have := lm_getD h i
        omega
    · have : i = l.length := by omega
      subst this
      rw [List.take_length] at hl
      simp -implicitDefEqProofs (maxSteps := 5000000) (disch := omega) only [go_sem, hm, h1, h7, h8, h9, h2, e1, if_pos, if_neg, dec_t, dec_f, IntWalk.i64_in, IntWalk.u32_in, IntWalk.u64_in, beq_no]
      exact .inr hl)
  rcases H with ⟨rfl, h2, hn⟩ | ⟨rfl, hl, hm, h1⟩
  · dsimp only at h2
    rw [dec_f (p := ∃ v, n = ng v ∧ l = lm v) (by rintro ⟨v, rfl, rfl⟩; exact hn (lm_lm v))]
    simp -implicitDefEqProofs (maxSteps := 5000000) (disch := omega) only [go_sem, h2, if_pos, if_neg, dec_t, dec_f, IntWalk.i64_in, IntWalk.u32_in, IntWalk.u64_in, beq_no]
  · dsimp only at hm h1
    by_cases h0 : 0 < l.length
    · have e1 : ((l.length : Int) - 1).toNat = l.length - 1 := by omega
      by_cases hz : l.getD (l.length - 1) 0 = 0
      · rw [dec_f (p := ∃ v, n = ng v ∧ l = lm v) (by
          rintro ⟨v, rfl, rfl⟩
          exact lm_last (v := v) (by intro e; rw [e] at h0; simp at h0) hz)]
        simp -implicitDefEqProofs (maxSteps := 5000000) (disch := omega) only [go_sem, hm, h1, e1, us_get, hz, if_pos, if_neg, dec_t, dec_f, IntWalk.i64_in, IntWalk.u32_in, IntWalk.u64_in, beq_no]
      · have e := eq_lm hl (.inr hz)
        rw [dec_t (p := ∃ v, n = ng v ∧ l = lm v) (by
          cases n with
          | false => exact ⟨vl l, by rw [ng_nn (vl_nonneg hl)], e⟩
          | true =>
            have h4 : vl l ≠ 0 := fun z => by rw [z, lm_zero] at e; rw [e] at h0; simp at h0
            have := vl_nonneg hl
            exact ⟨-(vl l), by rw [ng_neg (by omega)], by rw [lm_neg]; exact e⟩)]
        simp -implicitDefEqProofs (maxSteps := 5000000) (disch := omega) only [go_sem, hm, h1, e1, us_get, hz, if_pos, if_neg, dec_t, dec_f, IntWalk.i64_in, IntWalk.u32_in, IntWalk.u64_in, beq_no]
    · have : l = [] := List.eq_nil_of_length_eq_zero (by omega)
      subst this
      cases n with
      | false =>
        rw [dec_t (p := ∃ v, false = ng v ∧ [] = lm v) ⟨0, by rw [ng_nn (Int.le_refl 0)], lm_zero.symm⟩]
        simp -implicitDefEqProofs (maxSteps := 5000000) (disch := omega) only [go_sem, hm, h1, us_nil, if_pos, if_neg, dec_t, dec_f, IntWalk.i64_in, IntWalk.u32_in, IntWalk.u64_in, beq_no]
      | true =>
        rw [dec_f (p := ∃ v, true = ng v ∧ [] = lm v) (by
          rintro ⟨v, h1, h2⟩
          have := lm_eq_nil.1 h2.symm
          subst this
          rw [ng_nn (Int.le_refl 0)] at h1; cases h1)]
        simp -implicitDefEqProofs (maxSteps := 5000000) (disch := omega) only [go_sem, hm, h1, us_nil, if_pos, if_neg, dec_t, dec_f, IntWalk.i64_in, IntWalk.u32_in, IntWalk.u64_in, beq_no]
theorem qValid_r {n : Bool} {a : List Int} {m : Bool} {b : List Int} (h1 : U32 a) (h2 : U32 b) (l1 : a.length ≤ 100000000) (l2 : b.length ≤ 100000000) :
    Rq 81 [.agg [.bool n, .sl false (us a), .bool m, .sl false (us b)]] = some (.bool (dec (∃ q : Rat, n = ng q.num ∧ a = lm q.num ∧ m = false ∧ b = lm (q.den : Int)))) := by
  refine RL_of (f := 81) (fn := Tryz.f81) Tryz.func81 rfl rfl rfl (Nat.le_of_ble_eq_true rfl) ?_
  have v1 := iValid_r (n := n) h1 (by omega)
  have v2 := iValid_r (n := m) h2 (by omega)
  have iff := ok_iff n a m b
  by_cases k1 : ∃ v, n = ng v ∧ a = lm v
  · rw [dec_t k1] at v1
    by_cases k2 : ∃ v, m = ng v ∧ b = lm v
    · rw [dec_t k2] at v2
      obtain ⟨u, rfl, rfl⟩ := k1
      obtain ⟨v, rfl, rfl⟩ := k2
      have lu := length_lm u
      have lv := length_lm v
      have s := sign_r v (by omega)
      simp only [zI_eq] at s
      have inj : ∀ x y : Int, ng x = ng y → lm x = lm y → x = y := fun x y h k => by
        have := congrArg vl k
        rw [vl_lm', vl_lm'] at this
        by_cases hx : x < 0
        · rw [ng_neg hx] at h
          by_cases hy : y < 0
          · rw [if_pos hx, if_pos hy] at this; omega
          · rw [ng_nn (by omega)] at h; cases h
        · rw [ng_nn (by omega)] at h
          by_cases hy : y < 0
          · rw [ng_neg hy] at h; cases h
          · rw [if_neg hx, if_neg hy] at this; omega
      by_cases k3 : 0 < v
      · rw [Int.sign_eq_one_of_pos k3] at s
        have g := gcd_r (a := u) (b := v) (by omega) (by omega)
        have gq : ll (Int.gcd u v : Int) ≤ 100000000 := Nat.le_trans (ll_mono (b := v) (by
          rw [Int.natAbs_natCast]
          exact Nat.le_of_dvd (by omega) (Int.gcd_dvd_natAbs_right u v))) (by omega)
        have un := unit_r
        have l1 := ll_small (v := 1) (by omega) (by omega)
        have sm := cmp_r (a := (Int.gcd u v : Int)) (b := 1) (by omega) (by omega)
        simp only [zI_eq] at g un sm
        by_cases k4 : Int.gcd u v = 1
        · rw [dec_t (iff.2 ⟨u, v, rfl, rfl, rfl, rfl, k3, k4⟩)]
          have z : ((Int.gcd u v : Int) - 1).sign = 0 := by rw [k4]; rfl
          rw [z] at sm
          simp -implicitDefEqProofs (maxSteps := 5000000) (disch := omega) only [go_sem, v1, v2, s, g, un, sm, if_pos, if_neg, dec_t, dec_f, IntWalk.i64_in, IntWalk.u32_in, IntWalk.u64_in, beq_no]
        · rw [dec_f (fun h => by
            obtain ⟨u', v', e1, e2, e3, e4, e5, e6⟩ := iff.1 h
            have := inj _ _ e1 e2
            have := inj _ _ e3 e4
            subst_vars
            exact k4 e6)]
          have z : ¬ ((Int.gcd u v : Int) - 1).sign = 0 := by rw [Int.sign_eq_zero_iff_zero]; omega
          simp -implicitDefEqProofs (maxSteps := 5000000) (disch := omega) only [go_sem, v1, v2, s, g, un, sm, z, if_pos, if_neg, dec_t, dec_f, IntWalk.i64_in, IntWalk.u32_in, IntWalk.u64_in, beq_no]
      · have sn : v.sign ≤ 0 := by
          have := Int.sign_nonpos_iff.2 (show v ≤ 0 by omega); exact this
        rw [dec_f (fun h => by
            obtain ⟨u', v', e1, e2, e3, e4, e5, e6⟩ := iff.1 h
            have := inj _ _ e3 e4
            omega)]
        simp -implicitDefEqProofs (maxSteps := 5000000) (disch := omega) only [go_sem, v1, v2, s, sn, if_pos, if_neg, dec_t, dec_f, IntWalk.i64_in, IntWalk.u32_in, IntWalk.u64_in, beq_no]
    · rw [dec_f k2] at v2
      rw [dec_f (fun h => by
        obtain ⟨u', v', e1, e2, e3, e4, e5, e6⟩ := iff.1 h
        exact k2 ⟨v', e3, e4⟩)]
      simp -implicitDefEqProofs (maxSteps := 5000000) (disch := omega) only [go_sem, v1, v2, if_pos, if_neg, dec_t, dec_f, IntWalk.i64_in, IntWalk.u32_in, IntWalk.u64_in, beq_no]
  · rw [dec_f k1] at v1
    rw [dec_f (fun h => by
        obtain ⟨u', v', e1, e2, e3, e4, e5, e6⟩ := iff.1 h
        exact k1 ⟨u', e1, e2⟩)]
    simp -implicitDefEqProofs (maxSteps := 5000000) (disch := omega) only [go_sem, v1, if_pos, if_neg, dec_t, dec_f, IntWalk.i64_in, IntWalk.u32_in, IntWalk.u64_in, beq_no]
/-- The same answer of both on a fraction. -/
theorem both_v (x : RA) (hw : x.Wf) (l1 : x.a.length ≤ 6) (l2 : x.b.length ≤ 6) :
    (∃ q, x.cs = zQ q ∧ rl q ≤ 6 ∧ Rq 81 [.agg x.cs] = some (.bool true) ∧ Rq 25 [.agg x.cs] = some (.bool true)) ∨
    (Rq 81 [.agg x.cs] = some (.bool false) ∧ Rq 25 [.agg x.cs] = some (.bool false)) := by
  have v1 := qValid_r (n := x.n) (a := x.a) (m := x.m) (b := x.b) hw.1 hw.2 (by omega) (by omega)
  have v2 := qValid'_r (n := x.n) (a := x.a) (m := x.m) (b := x.b) hw.1 hw.2 (by omega) (by omega)
  by_cases c3 : x.Ok
  · left
    obtain ⟨q, hq, k1, k2⟩ := c3.cs
    rw [dec_t (show ∃ q : Rat, x.n = ng q.num ∧ x.a = lm q.num ∧ x.m = false ∧ x.b = lm (q.den : Int) from c3)] at v1 v2
    exact ⟨q, hq, by unfold rl; omega, v1, v2⟩
  · right
    rw [dec_f (show ¬ ∃ q : Rat, x.n = ng q.num ∧ x.a = lm q.num ∧ x.m = false ∧ x.b = lm (q.den : Int) from c3)] at v1 v2
    exact ⟨v1, v2⟩
theorem lineV {x y z : RA} (hx : x.Wf) (hy : y.Wf) (hz : z.Wf) (l1 : x.a.length ≤ 6) (l2 : x.b.length ≤ 6) (l3 : y.a.length ≤ 6) (l4 : y.b.length ≤ 6) (l5 : z.a.length ≤ 6) (l6 : z.b.length ≤ 6) :
    ∃ b, Rq 43 [.agg (x.cs ++ (y.cs ++ z.cs))] = some (.bool b) ∧ Rq 44 [.agg (x.cs ++ (y.cs ++ z.cs))] = some (.bool b) := by
  rcases both_v x hx l1 l2 with ⟨A, eA, lA, a1, a2⟩ | ⟨a1, a2⟩
  · rcases both_v y hy l3 l4 with ⟨B, eB, lB, b1, b2⟩ | ⟨b1, b2⟩
    · rcases both_v z hz l5 l6 with ⟨C, eC, lC, c1, c2⟩ | ⟨c1, c2⟩
      · refine ⟨dec (A ≠ 0 ∨ B ≠ 0), ?_, ?_⟩
        · refine RL_of (f := 43) (fn := Tryz.f43) Tryz.func43 rfl rfl rfl (Nat.le_of_ble_eq_true rfl) ?_
          rw [eA] at a1 ⊢
          rw [eB] at b1 ⊢
          rw [eC] at c1 ⊢
          simp only [zQ_eq] at a1 b1 c1
          by_cases k1 : A = 0
          · by_cases k2 : B = 0
            · rw [dec_f (show ¬ (A ≠ 0 ∨ B ≠ 0) by rintro (h | h); exact h k1; exact h k2)]
              simp -implicitDefEqProofs (maxSteps := 5000000) (disch := first | omega | (with_reducible apply Nat.le_trans; (focus (repeat' (first | with_reducible assumption | with_reducible apply rb_mul | with_reducible apply rb_add | with_reducible apply rb_sub | with_reducible apply rb_neg | with_reducible apply rb_div | with_reducible apply rb_divInt | with_reducible apply rb_int | with_reducible apply lb_mul | with_reducible apply lb_add | with_reducible apply lb_sub | with_reducible apply lb_neg | exact Nat.le_refl _))); omega)) only [go_sem, a1, b1, c1, dec_t k1, dec_t k2, if_pos, if_neg, dec_t, dec_f, IntWalk.i64_in, IntWalk.u32_in, IntWalk.u64_in, beq_no]
            · rw [dec_t (show A ≠ 0 ∨ B ≠ 0 from .inr k2)]
              simp -implicitDefEqProofs (maxSteps := 5000000) (disch := first | omega | (with_reducible apply Nat.le_trans; (focus (repeat' (first | with_reducible assumption | with_reducible apply rb_mul | with_reducible apply rb_add | with_reducible apply rb_sub | with_reducible apply rb_neg | with_reducible apply rb_div | with_reducible apply rb_divInt | with_reducible apply rb_int | with_reducible apply lb_mul | with_reducible apply lb_add | with_reducible apply lb_sub | with_reducible apply lb_neg | exact Nat.le_refl _))); omega)) only [go_sem, a1, b1, c1, dec_t k1, dec_f k2, if_pos, if_neg, dec_t, dec_f, IntWalk.i64_in, IntWalk.u32_in, IntWalk.u64_in, beq_no]
          · rw [dec_t (show A ≠ 0 ∨ B ≠ 0 from .inl k1)]
            simp -implicitDefEqProofs (maxSteps := 5000000) (disch := first | omega | (with_reducible apply Nat.le_trans; (focus (repeat' (first | with_reducible assumption | with_reducible apply rb_mul | with_reducible apply rb_add | with_reducible apply rb_sub | with_reducible apply rb_neg | with_reducible apply rb_div | with_reducible apply rb_divInt | with_reducible apply rb_int | with_reducible apply lb_mul | with_reducible apply lb_add | with_reducible apply lb_sub | with_reducible apply lb_neg | exact Nat.le_refl _))); omega)) only [go_sem, a1, b1, c1, dec_f k1, if_pos, if_neg, dec_t, dec_f, IntWalk.i64_in, IntWalk.u32_in, IntWalk.u64_in, beq_no]
        · refine RL_of (f := 44) (fn := Tryz.f44) Tryz.func44 rfl rfl rfl (Nat.le_of_ble_eq_true rfl) ?_
          rw [eA] at a2 ⊢
          rw [eB] at b2 ⊢
          rw [eC] at c2 ⊢
          simp only [zQ_eq] at a2 b2 c2
          by_cases k1 : A = 0
          · have s1 := sg_zero k1
            by_cases k2 : B = 0
            · have s2 := sg_zero k2
              rw [dec_f (show ¬ (A ≠ 0 ∨ B ≠ 0) by rintro (h | h); exact h k1; exact h k2)]
              simp -implicitDefEqProofs (maxSteps := 5000000) (disch := first | omega | (with_reducible apply Nat.le_trans; (focus (repeat' (first | with_reducible assumption | with_reducible apply rb_mul | with_reducible apply rb_add | with_reducible apply rb_sub | with_reducible apply rb_neg | with_reducible apply rb_div | with_reducible apply rb_divInt | with_reducible apply rb_int | with_reducible apply lb_mul | with_reducible apply lb_add | with_reducible apply lb_sub | with_reducible apply lb_neg | exact Nat.le_refl _))); omega)) only [go_sem, a2, b2, c2, s1, s2, if_pos, if_neg, dec_t, dec_f, IntWalk.i64_in, IntWalk.u32_in, IntWalk.u64_in, beq_no]
            · have s2 : ¬ sg B = 0 := fun e => k2 (sg_eq.1 e)
              rw [dec_t (show A ≠ 0 ∨ B ≠ 0 from .inr k2)]
              simp -implicitDefEqProofs (maxSteps := 5000000) (disch := first | omega | (with_reducible apply Nat.le_trans; (focus (repeat' (first | with_reducible assumption | with_reducible apply rb_mul | with_reducible apply rb_add | with_reducible apply rb_sub | with_reducible apply rb_neg | with_reducible apply rb_div | with_reducible apply rb_divInt | with_reducible apply rb_int | with_reducible apply lb_mul | with_reducible apply lb_add | with_reducible apply lb_sub | with_reducible apply lb_neg | exact Nat.le_refl _))); omega)) only [go_sem, a2, b2, c2, s1, s2, if_pos, if_neg, dec_t, dec_f, IntWalk.i64_in, IntWalk.u32_in, IntWalk.u64_in, beq_no]
          · have s1 : ¬ sg A = 0 := fun e => k1 (sg_eq.1 e)
            rw [dec_t (show A ≠ 0 ∨ B ≠ 0 from .inl k1)]
            simp -implicitDefEqProofs (maxSteps := 5000000) (disch := first | omega | (with_reducible apply Nat.le_trans; (focus (repeat' (first | with_reducible assumption | with_reducible apply rb_mul | with_reducible apply rb_add | with_reducible apply rb_sub | with_reducible apply rb_neg | with_reducible apply rb_div | with_reducible apply rb_divInt | with_reducible apply rb_int | with_reducible apply lb_mul | with_reducible apply lb_add | with_reducible apply lb_sub | with_reducible apply lb_neg | exact Nat.le_refl _))); omega)) only [go_sem, a2, b2, c2, s1, if_pos, if_neg, dec_t, dec_f, IntWalk.i64_in, IntWalk.u32_in, IntWalk.u64_in, beq_no]
      · refine ⟨false, ?_, ?_⟩
        · refine RL_of (f := 43) (fn := Tryz.f43) Tryz.func43 rfl rfl rfl (Nat.le_of_ble_eq_true rfl) ?_
          simp only [RA.cs] at a1 b1 c1 ⊢
          simp -implicitDefEqProofs (maxSteps := 5000000) (disch := omega) only [go_sem, a1, b1, c1, if_pos, if_neg, dec_t, dec_f, IntWalk.i64_in, IntWalk.u32_in, IntWalk.u64_in, beq_no]
        · refine RL_of (f := 44) (fn := Tryz.f44) Tryz.func44 rfl rfl rfl (Nat.le_of_ble_eq_true rfl) ?_
          simp only [RA.cs] at a2 b2 c2 ⊢
          simp -implicitDefEqProofs (maxSteps := 5000000) (disch := omega) only [go_sem, a2, b2, c2, if_pos, if_neg, dec_t, dec_f, IntWalk.i64_in, IntWalk.u32_in, IntWalk.u64_in, beq_no]
    · refine ⟨false, ?_, ?_⟩
      · refine RL_of (f := 43) (fn := Tryz.f43) Tryz.func43 rfl rfl rfl (Nat.le_of_ble_eq_true rfl) ?_
        simp only [RA.cs] at a1 b1 ⊢
        simp -implicitDefEqProofs (maxSteps := 5000000) (disch := omega) only [go_sem, a1, b1, if_pos, if_neg, dec_t, dec_f, IntWalk.i64_in, IntWalk.u32_in, IntWalk.u64_in, beq_no]
      · refine RL_of (f := 44) (fn := Tryz.f44) Tryz.func44 rfl rfl rfl (Nat.le_of_ble_eq_true rfl) ?_
        simp only [RA.cs] at a2 b2 ⊢
        simp -implicitDefEqProofs (maxSteps := 5000000) (disch := omega) only [go_sem, a2, b2, if_pos, if_neg, dec_t, dec_f, IntWalk.i64_in, IntWalk.u32_in, IntWalk.u64_in, beq_no]
  · refine ⟨false, ?_, ?_⟩
    · refine RL_of (f := 43) (fn := Tryz.f43) Tryz.func43 rfl rfl rfl (Nat.le_of_ble_eq_true rfl) ?_
      simp only [RA.cs] at a1 ⊢
      simp -implicitDefEqProofs (maxSteps := 5000000) (disch := omega) only [go_sem, a1, if_pos, if_neg, dec_t, dec_f, IntWalk.i64_in, IntWalk.u32_in, IntWalk.u64_in, beq_no]
    · refine RL_of (f := 44) (fn := Tryz.f44) Tryz.func44 rfl rfl rfl (Nat.le_of_ble_eq_true rfl) ?_
      simp only [RA.cs] at a2 ⊢
      simp -implicitDefEqProofs (maxSteps := 5000000) (disch := omega) only [go_sem, a2, if_pos, if_neg, dec_t, dec_f, IntWalk.i64_in, IntWalk.u32_in, IntWalk.u64_in, beq_no]
theorem circleV {x y z : RA} (hx : x.Wf) (hy : y.Wf) (hz : z.Wf) (l1 : x.a.length ≤ 6) (l2 : x.b.length ≤ 6) (l3 : y.a.length ≤ 6) (l4 : y.b.length ≤ 6) (l5 : z.a.length ≤ 6) (l6 : z.b.length ≤ 6) :
    ∃ b, Rq 45 [.agg (x.cs ++ (y.cs ++ z.cs))] = some (.bool b) ∧ Rq 33 [.agg (x.cs ++ (y.cs ++ z.cs))] = some (.bool b) ∧
      (b = true → ∃ A B C, x.cs = zQ A ∧ y.cs = zQ B ∧ z.cs = zQ C ∧ rl A ≤ 6 ∧ rl B ≤ 6 ∧ rl C ≤ 6) := by
  rcases both_v x hx l1 l2 with ⟨A, eA, lA, a1, a2⟩ | ⟨a1, a2⟩
  · rcases both_v y hy l3 l4 with ⟨B, eB, lB, b1, b2⟩ | ⟨b1, b2⟩
    · rcases both_v z hz l5 l6 with ⟨C, eC, lC, c1, c2⟩ | ⟨c1, c2⟩
      · refine ⟨dec (0 < C), ?_, ?_, fun _ => ⟨A, B, C, eA, eB, eC, lA, lB, lC⟩⟩
        · refine RL_of (f := 45) (fn := Tryz.f45) Tryz.func45 rfl rfl rfl (Nat.le_of_ble_eq_true rfl) ?_
          rw [eA] at a1 ⊢
          rw [eB] at b1 ⊢
          rw [eC] at c1 ⊢
          simp only [zQ_eq] at a1 b1 c1
          by_cases k1 : 0 < C
          · have s1 := sg_pos k1
            rw [dec_t k1]
            simp -implicitDefEqProofs (maxSteps := 5000000) (disch := first | omega | (with_reducible apply Nat.le_trans; (focus (repeat' (first | with_reducible assumption | with_reducible apply rb_mul | with_reducible apply rb_add | with_reducible apply rb_sub | with_reducible apply rb_neg | with_reducible apply rb_div | with_reducible apply rb_divInt | with_reducible apply rb_int | with_reducible apply lb_mul | with_reducible apply lb_add | with_reducible apply lb_sub | with_reducible apply lb_neg | exact Nat.le_refl _))); omega)) only [go_sem, a1, b1, c1, s1, if_pos, if_neg, dec_t, dec_f, IntWalk.i64_in, IntWalk.u32_in, IntWalk.u64_in, beq_no]
          · have s1 : ¬ 0 < sg C := fun e => k1 (sg_gt.1 e)
            rw [dec_f k1]
            simp -implicitDefEqProofs (maxSteps := 5000000) (disch := first | omega | (with_reducible apply Nat.le_trans; (focus (repeat' (first | with_reducible assumption | with_reducible apply rb_mul | with_reducible apply rb_add | with_reducible apply rb_sub | with_reducible apply rb_neg | with_reducible apply rb_div | with_reducible apply rb_divInt | with_reducible apply rb_int | with_reducible apply lb_mul | with_reducible apply lb_add | with_reducible apply lb_sub | with_reducible apply lb_neg | exact Nat.le_refl _))); omega)) only [go_sem, a1, b1, c1, s1, if_pos, if_neg, dec_t, dec_f, IntWalk.i64_in, IntWalk.u32_in, IntWalk.u64_in, beq_no]
        · refine RL_of (f := 33) (fn := Tryz.f33) Tryz.func33 rfl rfl rfl (Nat.le_of_ble_eq_true rfl) ?_
          rw [eA] at a2 ⊢
          rw [eB] at b2 ⊢
          rw [eC] at c2 ⊢
          simp only [zQ_eq] at a2 b2 c2
          by_cases k1 : 0 < C
          · have s1 := sg_pos k1
            rw [dec_t k1]
            simp -implicitDefEqProofs (maxSteps := 5000000) (disch := first | omega | (with_reducible apply Nat.le_trans; (focus (repeat' (first | with_reducible assumption | with_reducible apply rb_mul | with_reducible apply rb_add | with_reducible apply rb_sub | with_reducible apply rb_neg | with_reducible apply rb_div | with_reducible apply rb_divInt | with_reducible apply rb_int | with_reducible apply lb_mul | with_reducible apply lb_add | with_reducible apply lb_sub | with_reducible apply lb_neg | exact Nat.le_refl _))); omega)) only [go_sem, a2, b2, c2, s1, if_pos, if_neg, dec_t, dec_f, IntWalk.i64_in, IntWalk.u32_in, IntWalk.u64_in, beq_no]
          · have s1 : ¬ 0 < sg C := fun e => k1 (sg_gt.1 e)
            rw [dec_f k1]
            simp -implicitDefEqProofs (maxSteps := 5000000) (disch := first | omega | (with_reducible apply Nat.le_trans; (focus (repeat' (first | with_reducible assumption | with_reducible apply rb_mul | with_reducible apply rb_add | with_reducible apply rb_sub | with_reducible apply rb_neg | with_reducible apply rb_div | with_reducible apply rb_divInt | with_reducible apply rb_int | with_reducible apply lb_mul | with_reducible apply lb_add | with_reducible apply lb_sub | with_reducible apply lb_neg | exact Nat.le_refl _))); omega)) only [go_sem, a2, b2, c2, s1, if_pos, if_neg, dec_t, dec_f, IntWalk.i64_in, IntWalk.u32_in, IntWalk.u64_in, beq_no]
      · refine ⟨false, ?_, ?_, fun h => by cases h⟩
        · refine RL_of (f := 45) (fn := Tryz.f45) Tryz.func45 rfl rfl rfl (Nat.le_of_ble_eq_true rfl) ?_
          simp only [RA.cs] at a1 b1 c1 ⊢
          simp -implicitDefEqProofs (maxSteps := 5000000) (disch := omega) only [go_sem, a1, b1, c1, if_pos, if_neg, dec_t, dec_f, IntWalk.i64_in, IntWalk.u32_in, IntWalk.u64_in, beq_no]
        · refine RL_of (f := 33) (fn := Tryz.f33) Tryz.func33 rfl rfl rfl (Nat.le_of_ble_eq_true rfl) ?_
          simp only [RA.cs] at a2 b2 c2 ⊢
          simp -implicitDefEqProofs (maxSteps := 5000000) (disch := omega) only [go_sem, a2, b2, c2, if_pos, if_neg, dec_t, dec_f, IntWalk.i64_in, IntWalk.u32_in, IntWalk.u64_in, beq_no]
    · refine ⟨false, ?_, ?_, fun h => by cases h⟩
      · refine RL_of (f := 45) (fn := Tryz.f45) Tryz.func45 rfl rfl rfl (Nat.le_of_ble_eq_true rfl) ?_
        simp only [RA.cs] at a1 b1 ⊢
        simp -implicitDefEqProofs (maxSteps := 5000000) (disch := omega) only [go_sem, a1, b1, if_pos, if_neg, dec_t, dec_f, IntWalk.i64_in, IntWalk.u32_in, IntWalk.u64_in, beq_no]
      · refine RL_of (f := 33) (fn := Tryz.f33) Tryz.func33 rfl rfl rfl (Nat.le_of_ble_eq_true rfl) ?_
        simp only [RA.cs] at a2 b2 ⊢
        simp -implicitDefEqProofs (maxSteps := 5000000) (disch := omega) only [go_sem, a2, b2, if_pos, if_neg, dec_t, dec_f, IntWalk.i64_in, IntWalk.u32_in, IntWalk.u64_in, beq_no]
  · refine ⟨false, ?_, ?_, fun h => by cases h⟩
    · refine RL_of (f := 45) (fn := Tryz.f45) Tryz.func45 rfl rfl rfl (Nat.le_of_ble_eq_true rfl) ?_
      simp only [RA.cs] at a1 ⊢
      simp -implicitDefEqProofs (maxSteps := 5000000) (disch := omega) only [go_sem, a1, if_pos, if_neg, dec_t, dec_f, IntWalk.i64_in, IntWalk.u32_in, IntWalk.u64_in, beq_no]
    · refine RL_of (f := 33) (fn := Tryz.f33) Tryz.func33 rfl rfl rfl (Nat.le_of_ble_eq_true rfl) ?_
      simp only [RA.cs] at a2 ⊢
      simp -implicitDefEqProofs (maxSteps := 5000000) (disch := omega) only [go_sem, a2, if_pos, if_neg, dec_t, dec_f, IntWalk.i64_in, IntWalk.u32_in, IntWalk.u64_in, beq_no]
end Go.Pi

set_option linter.unusedVariables false
set_option linter.unusedSimpArgs false
set_option maxHeartbeats 4000000
set_option maxRecDepth 8000
/-
The law on valid lines and circles.
-/
namespace Go.Pi
open Go Go.Proofs Num
@[go_sem] theorem ti_Rats : ti Pq 79 = some ⟨.slice 30, 1, 24, [.sl true []]⟩ := by kernel_rfl
theorem arg_Line {p : PV} (h : ArgT Pq 9 35 p) : ∃ x y z : RA, p = .agg (x.cs ++ (y.cs ++ z.cs)) ∧ x.Wf ∧ y.Wf ∧ z.Wf := by
  obtain ⟨cs, rfl, p, q, rfl, h1, p', q', rfl, h2, p'', q'', rfl, h3, rfl⟩ := arg_struct (d := 8) Tryz.underlying35 h
  obtain ⟨x, rfl, hx⟩ := typ_Rat (d := 4) h1
  obtain ⟨y, rfl, hy⟩ := typ_Rat (d := 4) h2
  obtain ⟨z, rfl, hz⟩ := typ_Rat (d := 4) h3
  exact ⟨x, y, z, by rw [List.append_nil], hx, hy, hz⟩
theorem arg_Circle {p : PV} (h : ArgT Pq 9 57 p) : ∃ x y z : RA, p = .agg (x.cs ++ (y.cs ++ z.cs)) ∧ x.Wf ∧ y.Wf ∧ z.Wf := by
  obtain ⟨cs, rfl, p, q, rfl, h1, p', q', rfl, h2, p'', q'', rfl, h3, rfl⟩ := arg_struct (d := 8) Tryz.underlying57 h
  obtain ⟨x, rfl, hx⟩ := typ_Rat (d := 4) h1
  obtain ⟨y, rfl, hy⟩ := typ_Rat (d := 4) h2
  obtain ⟨z, rfl, hz⟩ := typ_Rat (d := 4) h3
  exact ⟨x, y, z, by rw [List.append_nil], hx, hy, hz⟩
def RA.Short (x : RA) : Prop := x.a.length ≤ 6 ∧ x.b.length ≤ 6
theorem valid_loop {c : Code} (hc : lpAt Tryz.f10 0 = some c) {xs : List RA} (h6 : xs.length = 6) {b0 b1 b2 : Blk} {r : Nat → PV} {m : Nat → Blk} {nx : Nat} (hm0 : m 0 = b0) (hm1 : m 1 = b1) (hm2 : m 2 = b2) (hnx : 2 < nx)
    (h24 : r 24 = .sl true (xs.map fun x => .agg x.cs)) (h25 : r 25 = .int .i64 6) (h26 : r 26 = .int .i64 0) (h3 : r 3 = .ptr 0 0) (h4 : r 4 = .ptr 1 0) (h5 : r 5 = .ptr 2 0) :
    ∀ L, execL Pq Xq sq cq 10 (.loop c) ⟨r, ⟨m, nx⟩⟩ = L → (∃ st, L = some (.ret, st) ∧ st.r 6 = .bool true) ∨ (∃ st, L = some (.exit 0, st) ∧ (∀ x, x ∈ xs → x.Short) ∧ st.M.m 0 = b0 ∧ st.M.m 1 = b1 ∧ st.M.m 2 = b2 ∧ 2 < st.M.nx ∧ st.r 3 = .ptr 0 0 ∧ st.r 4 = .ptr 1 0 ∧ st.r 5 = .ptr 2 0) := by
  obtain rfl := Option.some.inj (show some _ = some c from hc)
  intro L hL
  obtain ⟨⟨e, st⟩, rfl, H⟩ := loop_of hL (fun j s => ∃ i : Nat, (j = 6 - i ∧ i ≤ 6 ∧ ∀ x, x ∈ xs.take i → x.Short) ∧ s.M.m 0 = b0 ∧ s.M.m 1 = b1 ∧ s.M.m 2 = b2 ∧ 2 < s.M.nx ∧ s.r 24 = .sl true (xs.map fun x => .agg x.cs) ∧ s.r 25 = .int .i64 6 ∧ s.r 26 = .int .i64 i ∧ s.r 3 = .ptr 0 0 ∧ s.r 4 = .ptr 1 0 ∧ s.r 5 = .ptr 2 0)
    (fun y => (y.1 = .ret ∧ y.2.r 6 = .bool true) ∨ (y.1 = .exit 0 ∧ (∀ x, x ∈ xs → x.Short) ∧ y.2.M.m 0 = b0 ∧ y.2.M.m 1 = b1 ∧ y.2.M.m 2 = b2 ∧ 2 < y.2.M.nx ∧ y.2.r 3 = .ptr 0 0 ∧ y.2.r 4 = .ptr 1 0 ∧ y.2.r 5 = .ptr 2 0)) ⟨6, 0, ⟨by omega, by omega, by simp⟩, hm0, hm1, hm2, hnx, h24, h25, h26, h3, h4, h5⟩ (by
    clear hc hL hm0 hm1 hm2 hnx h24 h25 h26 h3 h4 h5
    rintro j ⟨r, ⟨m, nx⟩⟩ ⟨i, ⟨rfl, hi, hs⟩, hm0, hm1, hm2, hnx, h24, h25, h26, h3, h4, h5⟩
    dsimp only at hm0 hm1 hm2 hnx h24 h25 h26 h3 h4 h5
    have e1 : (i : Int).toNat = i := by omega
    by_cases hlt : i < 6
    · have hlt' : i < xs.length := by omega
      have hm : xs[i] ∈ xs := List.getElem_mem hlt'
      have hg : (xs.map fun x => PV.agg x.cs)[i]? = some (.agg (xs[i]).cs) := by rw [List.getElem?_map, List.getElem?_eq_getElem hlt']; rfl
      have hstep : xs.take (i + 1) = xs.take i ++ [xs[i]] := by rw [List.take_add_one, List.getElem?_eq_getElem hlt']; rfl
      generalize xs[i] = x at *
      rw [RA.cs] at hg
      by_cases c1 : (6 : Int) < x.a.length
      · simp -implicitDefEqProofs (maxSteps := 5000000) (disch := omega) only [go_sem, hm0, hm1, hm2, h24, h25, h26, h3, h4, h5, e1, hg, if_pos, if_neg, dec_t, dec_f, IntWalk.i64_in, IntWalk.u32_in, IntWalk.u64_in, beq_no]
      · by_cases c2 : (6 : Int) < x.b.length
        · simp -implicitDefEqProofs (maxSteps := 5000000) (disch := omega) only [go_sem, hm0, hm1, hm2, h24, h25, h26, h3, h4, h5, e1, hg, if_pos, if_neg, dec_t, dec_f, IntWalk.i64_in, IntWalk.u32_in, IntWalk.u64_in, beq_no]
        · simp -implicitDefEqProofs (maxSteps := 5000000) (disch := omega) only [go_sem, hm0, hm1, hm2, h24, h25, h26, h3, h4, h5, e1, hg, if_pos, if_neg, dec_t, dec_f, IntWalk.i64_in, IntWalk.u32_in, IntWalk.u64_in, beq_no]
          refine ⟨_, by omega, i + 1, ⟨rfl, by omega, ?_⟩, by omega, by rfl⟩
          intro y hy
          rw [hstep] at hy
          rcases List.mem_append.1 hy with hy | hy
          · exact hs y hy
          · rw [List.mem_singleton.1 hy]
            exact ⟨by omega, by omega⟩
    · have : i = 6 := by omega
      subst this
      rw [← h6, List.take_length] at hs
      simp -implicitDefEqProofs (maxSteps := 5000000) (disch := omega) only [go_sem, hm0, hm1, hm2, h24, h25, h26, h3, h4, h5, if_pos, if_neg, dec_t, dec_f, IntWalk.i64_in, IntWalk.u32_in, IntWalk.u64_in, beq_no]
      exact .inr ⟨hs, by omega⟩)
  rcases H with ⟨rfl, h⟩ | ⟨rfl, h⟩
  · exact .inl ⟨st, rfl, h⟩
  · exact .inr ⟨st, rfl, h⟩
theorem valid_law {p q t : PV} (h : ArgT Pq 9 35 p) (h' : ArgT Pq 9 57 q) (h'' : ArgT Pq 9 54 t) : Rq 10 [p, q, t] = some (.bool true) := by
  obtain ⟨x, y, z, rfl, hx, hy, hz⟩ := arg_Line h
  obtain ⟨x', y', z', rfl, hx', hy', hz'⟩ := arg_Circle h'
  obtain ⟨a', b', c', d', rfl, ha', hb', hc', hd'⟩ := arg_Round h''
  obtain ⟨X, Y, Q, cr, -, lX, lY, lQ⟩ := circle8_s ha' hb' hc' hd'
  refine RL_of (f := 10) (fn := Tryz.f10) Tryz.func10 rfl rfl rfl (Nat.le_of_ble_eq_true rfl) ?_
  have aw := awake8_r
  clear h h' h''
  have LV := lineV hx hy hz
  have CV := circleV hx' hy' hz'
  simp only [RA.cs, List.cons_append, List.nil_append] at LV CV ⊢
  simp -implicitDefEqProofs (maxSteps := 5000000) (disch := omega) only [go_sem, aw, if_pos, if_neg, dec_t, dec_f, IntWalk.i64_in, IntWalk.u32_in, IntWalk.u64_in, beq_no]
  generalize hL : execL _ _ _ _ _ (.loop _) _ = L
  rcases valid_loop (c := _) rfl (xs := [x, y, z, x', y', z']) rfl (by simp -implicitDefEqProofs only [go_sem]; rfl) (by simp -implicitDefEqProofs only [go_sem]; rfl) (by simp -implicitDefEqProofs only [go_sem]; rfl) (by omega) (by simp -implicitDefEqProofs only [go_sem, List.map_cons, List.map_nil, RA.cs]) (by simp -implicitDefEqProofs only [go_sem]; rfl) (by simp -implicitDefEqProofs only [go_sem]) (by simp -implicitDefEqProofs only [go_sem]) (by simp -implicitDefEqProofs only [go_sem]) (by simp -implicitDefEqProofs only [go_sem]) L hL with ⟨⟨r, ⟨m, nx⟩⟩, rfl, g6⟩ | ⟨⟨r, ⟨m, nx⟩⟩, rfl, hs, hm0, hm1, hm2, hnx, g3, g4, g5⟩
  · dsimp only at g6
    simp -implicitDefEqProofs (maxSteps := 5000000) (disch := omega) only [go_sem, g6, if_pos, if_neg, dec_t, dec_f, IntWalk.i64_in, IntWalk.u32_in, IntWalk.u64_in, beq_no]
  · dsimp only at hm0 hm1 hm2 hnx g3 g4 g5
    clear hL
    obtain ⟨b, v1, v2⟩ := LV (hs x (by simp)).1 (hs x (by simp)).2 (hs y (by simp)).1 (hs y (by simp)).2 (hs z (by simp)).1 (hs z (by simp)).2
    obtain ⟨b', w1, w2, w3⟩ := CV (hs x' (by simp)).1 (hs x' (by simp)).2 (hs y' (by simp)).1 (hs y' (by simp)).2 (hs z' (by simp)).1 (hs z' (by simp)).2
    have sc := sameCircle_s (A := X) (B := Y) (C := Q) (D := X) (E := Y) (F := Q) (by omega) (by omega) (by omega) (by omega) (by omega) (by omega)
    rw [dec_t ⟨rfl, rfl, rfl⟩] at sc
    simp only [zR_eq] at cr
    cases b' with
    | false =>
      cases b
      · simp -implicitDefEqProofs (maxSteps := 5000000) (disch := omega) only [go_sem, hm0, hm1, hm2, g3, g4, g5, v1, v2, w1, w2, cr, sc, if_pos, if_neg, dec_t, dec_f, IntWalk.i64_in, IntWalk.u32_in, IntWalk.u64_in, beq_no]
      · simp -implicitDefEqProofs (maxSteps := 5000000) (disch := omega) only [go_sem, hm0, hm1, hm2, g3, g4, g5, v1, v2, w1, w2, cr, sc, if_pos, if_neg, dec_t, dec_f, IntWalk.i64_in, IntWalk.u32_in, IntWalk.u64_in, beq_no]
    | true =>
      obtain ⟨A, B, C, e1, e2, e3, l1, l2, l3⟩ := w3 rfl
      rw [zQ_eq] at e1 e2 e3
      simp only [RA.cs, List.cons.injEq, PV.bool.injEq, PV.sl.injEq, true_and, and_true] at e1 e2 e3
      obtain ⟨i1, i2, i3, i4⟩ := e1
      obtain ⟨j1, j2, j3, j4⟩ := e2
      obtain ⟨k1, k2, k3, k4⟩ := e3
      have s1 := sameCircle_s (A := A) (B := B) (C := C) (D := X) (E := Y) (F := Q) (by omega) (by omega) (by omega) (by omega) (by omega) (by omega)
      have s2 := sameCircle8_s (A := A) (B := B) (C := C) (D := X) (E := Y) (F := Q) (by omega) (by omega) (by omega) (by omega) (by omega) (by omega)
      rw [i1, i2, i3, i4, j1, j2, j3, j4, k1, k2, k3, k4] at hm1 w1 w2
      clear hs w3 i1 i2 i3 i4 j1 j2 j3 j4 k1 k2 k3 k4
      generalize dec (A = X ∧ B = Y ∧ C = Q) = f at *
      cases b <;> cases f
      · simp -implicitDefEqProofs (maxSteps := 5000000) (disch := omega) only [go_sem, hm0, hm1, hm2, g3, g4, g5, v1, v2, w1, w2, cr, sc, s1, s2, if_pos, if_neg, dec_t, dec_f, IntWalk.i64_in, IntWalk.u32_in, IntWalk.u64_in, beq_no]
      · simp -implicitDefEqProofs (maxSteps := 5000000) (disch := omega) only [go_sem, hm0, hm1, hm2, g3, g4, g5, v1, v2, w1, w2, cr, sc, s1, s2, if_pos, if_neg, dec_t, dec_f, IntWalk.i64_in, IntWalk.u32_in, IntWalk.u64_in, beq_no]
      · simp -implicitDefEqProofs (maxSteps := 5000000) (disch := omega) only [go_sem, hm0, hm1, hm2, g3, g4, g5, v1, v2, w1, w2, cr, sc, s1, s2, if_pos, if_neg, dec_t, dec_f, IntWalk.i64_in, IntWalk.u32_in, IntWalk.u64_in, beq_no]
      · simp -implicitDefEqProofs (maxSteps := 5000000) (disch := omega) only [go_sem, hm0, hm1, hm2, g3, g4, g5, v1, v2, w1, w2, cr, sc, s1, s2, if_pos, if_neg, dec_t, dec_f, IntWalk.i64_in, IntWalk.u32_in, IntWalk.u64_in, beq_no]
end Go.Pi
