/- What is proved: the law on parts of intervals. No conditions beyond those in the statements. -/
import Derived.Test.YtekdboalpckloaaTe
set_option linter.unusedVariables false
set_option linter.unusedSimpArgs false
set_option maxHeartbeats 4000000
set_option maxRecDepth 8000
/-
The law on parts of intervals.
-/
namespace Go.Pi
open Go Go.Proofs Num
@[go_sem] theorem ti_4u32 : ti Pq 72 = some ⟨.array 4 71, 4, 16, [.int .u32 0, .int .u32 0, .int .u32 0, .int .u32 0]⟩ := by kernel_rfl
theorem typ_u32 {d : Nat} {cs : List PV} (h : Typ Pq (d + 1) 71 cs) : ∃ a, cs = [.int .u32 a] ∧ 0 ≤ a ∧ a < 4294967296 := by
  simp only [Typ, Try.underlying71] at h
  obtain ⟨n, rfl, hw⟩ := h
  refine ⟨n, rfl, ?_⟩
  simp only [Lit.wf, Bool.and_eq_true, decide_eq_true_eq] at hw
  have e1 : IntKind.u32.min = 0 := by decide
  have e2 : IntKind.u32.max = 4294967295 := by decide
  rw [e1, e2] at hw
  omega
theorem arg_4u32 {p : PV} (h : ArgT Pq 9 72 p) : ∃ a b c d, p = .agg [.int .u32 a, .int .u32 b, .int .u32 c, .int .u32 d] ∧ (0 ≤ a ∧ a < 4294967296) ∧ (0 ≤ b ∧ b < 4294967296) ∧ (0 ≤ c ∧ c < 4294967296) ∧ (0 ≤ d ∧ d < 4294967296) := by
  unfold ArgT at h
  rw [Try.underlying72] at h
  obtain ⟨cs, rfl, h⟩ := h
  unfold Typ at h
  rw [Try.underlying72] at h
  obtain ⟨p, q, rfl, h1, p', q', rfl, h2, p2, q2, rfl, h3, p3, q3, rfl, h4, rfl⟩ := h
  obtain ⟨a, rfl, ha⟩ := typ_u32 (d := 7) h1
  obtain ⟨b, rfl, hb⟩ := typ_u32 (d := 7) h2
  obtain ⟨c, rfl, hc⟩ := typ_u32 (d := 7) h3
  obtain ⟨d, rfl, hd⟩ := typ_u32 (d := 7) h4
  exact ⟨a, b, c, d, rfl, ha, hb, hc, hd⟩
theorem part_r {a b l h : Int} (p : Pr (a, b)) (hl : 0 ≤ l ∧ l < 4294967296) (hh : 0 ≤ h ∧ h < 4294967296) :
    ∃ c d, Rq 41 [.agg [.int .i64 a, .int .i64 b], .int .u32 l, .int .u32 h] = some (.agg [.int .i64 c, .int .i64 d]) ∧ a ≤ c ∧ c ≤ d ∧ d ≤ b := by
  obtain ⟨p1, p2, p3⟩ := p
  dsimp only at p1 p2 p3
  have b1 := ll_64 (n := a) (by omega) (by omega)
  have b2 := ll_64 (n := b) (by omega) (by omega)
  have b3 := ll_64 (n := l + h) (by omega) (by omega)
  by_cases k : l + h > b - a
  · refine ⟨a, b, ?_, by omega, by omega, by omega⟩
    refine RL_of (f := 41) (fn := Try.f41) Try.func41 rfl rfl rfl (Nat.le_of_ble_eq_true rfl) ?_
    have s : (l + h - (b - a)).sign = 1 := Int.sign_eq_one_of_pos (by omega)
    simp -implicitDefEqProofs (disch := first | omega | (with_reducible apply Nat.le_trans; (focus (repeat' (first | with_reducible apply rb_mul | with_reducible apply rb_add | with_reducible apply rb_sub | with_reducible apply rb_neg | with_reducible apply rb_divInt | with_reducible apply rb_int | with_reducible apply lb_mul | with_reducible apply lb_add | with_reducible apply lb_sub | with_reducible apply lb_neg | exact Nat.le_refl _))); omega)) only [go_sem, s, if_pos, if_neg, dec_t, dec_f, IntWalk.i64_in, IntWalk.u32_in, IntWalk.u64_in, beq_no]
  · refine ⟨a + l, b - h, ?_, by omega, by omega, by omega⟩
    refine RL_of (f := 41) (fn := Try.f41) Try.func41 rfl rfl rfl (Nat.le_of_ble_eq_true rfl) ?_
    have s : ¬ 0 < (l + h - (b - a)).sign := by
      have := Int.sign_nonpos_iff.2 (show l + h - (b - a) ≤ 0 by omega); omega
    simp -implicitDefEqProofs (disch := first | omega | (with_reducible apply Nat.le_trans; (focus (repeat' (first | with_reducible apply rb_mul | with_reducible apply rb_add | with_reducible apply rb_sub | with_reducible apply rb_neg | with_reducible apply rb_divInt | with_reducible apply rb_int | with_reducible apply lb_mul | with_reducible apply lb_add | with_reducible apply lb_sub | with_reducible apply lb_neg | exact Nat.le_refl _))); omega)) only [go_sem, s, if_pos, if_neg, dec_t, dec_f, IntWalk.i64_in, IntWalk.u32_in, IntWalk.u64_in, beq_no]
theorem within_r {a b c d : Int} (h1 : c ≤ a) (h2 : b ≤ d) : Rq 42 [.agg [.int .i64 a, .int .i64 b], .agg [.int .i64 c, .int .i64 d]] = some (.bool true) := by
  refine RL_of (f := 42) (fn := Try.f42) Try.func42 rfl rfl rfl (Nat.le_of_ble_eq_true rfl) ?_
  simp -implicitDefEqProofs (disch := omega) only [go_sem, if_pos, if_neg, dec_t, dec_f, IntWalk.i64_in, IntWalk.u32_in, IntWalk.u64_in, beq_no]
theorem prF_part {l h l' h' : Int} (k : l' ≤ h') (h1 : l ≤ l') (h2 : h' ≤ h) {x : Int × Int} (hx : prF l h = some x) : ∃ y : Int × Int, prF l' h' = some y ∧ x.1 ≤ y.1 ∧ y.2 ≤ x.2 := by
  unfold prF at hx
  split at hx
  · cases hx
  · obtain rfl := Option.some.inj hx
    refine ⟨(l', h'), ?_, h1, h2⟩
    unfold prF
    rw [if_neg (by omega)]
theorem sl_part {L a1 a2 b1 b2 p q : Int} (ha1 : a1 ≤ p) (ha2 : p ≤ a2) (hb1 : b1 ≤ q) (hb2 : q ≤ b2) (h1 : L ≤ sl a1 b1) (h2 : L ≤ sl a1 b2) (h3 : L ≤ sl a2 b1) (h4 : L ≤ sl a2 b2) : L ≤ sl p q := by
  have c : ∀ x y : Int, L ≤ sl x y → ((L : Int) : Rat) * 65536 ≤ (x : Rat) * (y : Rat) := fun x y h => by
    have := sl_le x y
    have := Rat.intCast_le_intCast.2 h
    grind
  have k := prod_lo (L := (L : Rat) * 65536) (Rat.intCast_le_intCast.2 ha1) (Rat.intCast_le_intCast.2 ha2) (Rat.intCast_le_intCast.2 hb1) (Rat.intCast_le_intCast.2 hb2) (c _ _ h1) (c _ _ h2) (c _ _ h3) (c _ _ h4)
  rw [← c65536, ← cm, ← cm, Rat.intCast_le_intCast] at k
  unfold sl
  omega
theorem su_part {H a1 a2 b1 b2 p q : Int} (ha1 : a1 ≤ p) (ha2 : p ≤ a2) (hb1 : b1 ≤ q) (hb2 : q ≤ b2) (h1 : su a1 b1 ≤ H) (h2 : su a1 b2 ≤ H) (h3 : su a2 b1 ≤ H) (h4 : su a2 b2 ≤ H) : su p q ≤ H := by
  have e : ∀ x y : Int, su x y = -sl (-x) y := fun x y => by unfold su sl; rw [Int.neg_mul]
  rw [e] at *
  have := sl_part (L := -H) (a1 := -a2) (a2 := -a1) (b1 := b1) (b2 := b2) (p := -p) (q := q) (by omega) (by omega) hb1 hb2 (by omega) (by omega) (by omega) (by omega)
  omega
theorem muF_part {a1 a2 b1 b2 c1 c2 d1 d2 : Int} (h1 : a1 ≤ c1) (h2 : c1 ≤ c2) (h3 : c2 ≤ a2) (h4 : b1 ≤ d1) (h5 : d1 ≤ d2) (h6 : d2 ≤ b2) {x : Int × Int} (hx : muF (a1, a2) (b1, b2) = some x) :
    ∃ y : Int × Int, muF (c1, c2) (d1, d2) = some y ∧ x.1 ≤ y.1 ∧ y.2 ≤ x.2 := by
  by_cases k : okS a1 b1 ∧ okS a1 b2 ∧ okS a2 b1 ∧ okS a2 b2
  · rw [muF_yes k] at hx
    obtain rfl := Option.some.inj hx
    unfold okS at k
    dsimp only
    generalize hL : min (min (min (min 2305843009213693952 (sl a1 b1)) (sl a1 b2)) (sl a2 b1)) (sl a2 b2) = L
    generalize hH : max (max (max (max (-2305843009213693952) (su a1 b1)) (su a1 b2)) (su a2 b1)) (su a2 b2) = H
    have l := fun (p q : Int) w1 w2 w3 w4 => sl_part (L := L) (a1 := a1) (a2 := a2) (b1 := b1) (b2 := b2) (p := p) (q := q) w1 w2 w3 w4 (by omega) (by omega) (by omega) (by omega)
    have u := fun (p q : Int) w1 w2 w3 w4 => su_part (H := H) (a1 := a1) (a2 := a2) (b1 := b1) (b2 := b2) (p := p) (q := q) w1 w2 w3 w4 (by omega) (by omega) (by omega) (by omega)
    have l1 := l c1 d1 (by omega) (by omega) (by omega) (by omega)
    have l2 := l c1 d2 (by omega) (by omega) (by omega) (by omega)
    have l3 := l c2 d1 (by omega) (by omega) (by omega) (by omega)
    have l4 := l c2 d2 (by omega) (by omega) (by omega) (by omega)
    have u1 := u c1 d1 (by omega) (by omega) (by omega) (by omega)
    have u2 := u c1 d2 (by omega) (by omega) (by omega) (by omega)
    have u3 := u c2 d1 (by omega) (by omega) (by omega) (by omega)
    have u4 := u c2 d2 (by omega) (by omega) (by omega) (by omega)
    clear l u
    have c : ∀ x y : Int, sl x y ≤ su x y := fun x y => ceil_ge (by omega)
    have e1 := c c1 d1
    have e2 := c c1 d2
    have e3 := c c2 d1
    have e4 := c c2 d2
    refine ⟨_, muF_yes ?_, ?_, ?_⟩
    · unfold okS; dsimp only; omega
    · dsimp only; omega
    · dsimp only; omega
  · rw [muF_no k] at hx; cases hx
theorem sqF_part {a1 a2 c1 c2 : Int} (h1 : a1 ≤ c1) (h2 : c1 ≤ c2) (h3 : c2 ≤ a2) {x : Int × Int} (hx : sqF (a1, a2) = some x) :
    c2 < 0 ∧ sqF (c1, c2) = none ∨ ∃ y : Int × Int, sqF (c1, c2) = some y ∧ x.1 ≤ y.1 ∧ y.2 ≤ x.2 := by
  unfold sqF at *
  dsimp only at *
  by_cases k : c2 < 0
  · left; rw [if_pos k]; exact ⟨k, rfl⟩
  · right
    rw [if_neg k]
    rw [if_neg (by omega)] at hx
    have r1 := rt_mono (a := max a1 0 * 65536) (b := max c1 0 * 65536) (by omega) (by omega)
    have r2 := rt_mono (a := max c1 0 * 65536) (b := c2 * 65536) (by omega) (by omega)
    have r3 := rt_mono (a := c2 * 65536) (b := a2 * 65536) (by omega) (by omega)
    have s2 := rt_spec (a := c2 * 65536) (by omega)
    refine prF_part ?_ r1 ?_ hx
    · split <;> omega
    · by_cases e : rt (c2 * 65536) = rt (a2 * 65536)
      · rw [e] at s2 ⊢
        by_cases e1 : rt (a2 * 65536) * rt (a2 * 65536) = a2 * 65536
        · rw [if_pos e1, if_pos (by omega)]; omega
        · rw [if_neg e1]; split <;> omega
      · split <;> split <;> omega
theorem parts_law {p q t : PV} (h : ArgT Pq 9 34 p) (h' : ArgT Pq 9 34 q) (h'' : ArgT Pq 9 72 t) : Rq 10 [p, q, t] = some (.bool true) := by
  obtain ⟨a, b, rfl, ha, hb⟩ := arg_Ival h
  obtain ⟨c, d, rfl, hc, hd⟩ := arg_Ival h'
  obtain ⟨u1, u2, u3, u4, rfl, hu1, hu2, hu3, hu4⟩ := arg_4u32 h''
  refine RL_of (f := 10) (fn := Try.f10) Try.func10 rfl rfl rfl (Nat.le_of_ble_eq_true rfl) ?_
  have aw := awake_r
  have pr := proper'_r a b
  have pr2 := proper'_r c d
  by_cases hp : a ≤ b ∧ -2305843009213693952 ≤ a ∧ b ≤ 2305843009213693952
  · rw [dec_t hp] at pr
    by_cases hp2 : c ≤ d ∧ -2305843009213693952 ≤ c ∧ d ≤ 2305843009213693952
    · rw [dec_t hp2] at pr2
      have p1 : Pr (a, b) := ⟨hp.2.1, hp.1, hp.2.2⟩
      have p2 : Pr (c, d) := ⟨hp2.2.1, hp2.1, hp2.2.2⟩
      obtain ⟨e, f, pa, e1, e2, e3⟩ := part_r p1 hu1 hu2
      obtain ⟨g, i, pb, g1, g2, g3⟩ := part_r p2 hu3 hu4
      have p3 : Pr (e, f) := ⟨by dsimp only; omega, e2, by dsimp only; omega⟩
      have p4 : Pr (g, i) := ⟨by dsimp only; omega, g2, by dsimp only; omega⟩
      have of := fun a b : Int => of'_r a b
      have wi := fun (a b c d : Int) h1 h2 => within_r (a := a) (b := b) (c := c) (d := d) h1 h2
      have A1 := add_in p1 p2
      have A2 := add_in p3 p4
      have M1 := iMul_r (a := (a, b)) (b := (c, d)) (by dsimp only; omega) (by dsimp only; omega) (by dsimp only; omega) (by dsimp only; omega)
      have M2 := iMul_r (a := (e, f)) (b := (g, i)) (by dsimp only; omega) (by dsimp only; omega) (by dsimp only; omega) (by dsimp only; omega)
      have S1 := iSqrt_r (a := (a, b)) (by dsimp only; omega) (by dsimp only; omega)
      have S2 := iSqrt_r (a := (e, f)) (by dsimp only; omega) (by dsimp only; omega)
      dsimp only at A1 A2 M1 M2 S1 S2
      -- the sums
      have FA : ∃ x1 x2 y1 y2 k l, Rq 18 [.agg [.int .i64 a, .int .i64 b], .agg [.int .i64 c, .int .i64 d]] = some (.tup [.agg [.int .i64 x1, .int .i64 x2], .bool k]) ∧
          Rq 18 [.agg [.int .i64 e, .int .i64 f], .agg [.int .i64 g, .int .i64 i]] = some (.tup [.agg [.int .i64 y1, .int .i64 y2], .bool l]) ∧ (k = false ∨ k = true ∧ l = true ∧ x1 ≤ y1 ∧ y2 ≤ x2) := by
        cases hx : prF (a + c) (b + d) with
        | none =>
          rw [hx] at A1
          cases hy : prF (e + g) (f + i) with
          | none => rw [hy] at A2; exact ⟨_, _, _, _, _, _, A1, A2, .inl rfl⟩
          | some y => rw [hy] at A2; exact ⟨_, _, _, _, _, _, A1, A2, .inl rfl⟩
        | some x =>
          obtain ⟨y, hy, k1, k2⟩ := prF_part (l' := e + g) (h' := f + i) (by omega) (by omega) (by omega) hx
          rw [hx] at A1
          rw [hy] at A2
          exact ⟨_, _, _, _, _, _, A1, A2, .inr ⟨rfl, rfl, k1, k2⟩⟩
      have FM : ∃ x1 x2 y1 y2 k l, Rq 23 [.agg [.int .i64 a, .int .i64 b], .agg [.int .i64 c, .int .i64 d]] = some (.tup [.agg [.int .i64 x1, .int .i64 x2], .bool k]) ∧
          Rq 23 [.agg [.int .i64 e, .int .i64 f], .agg [.int .i64 g, .int .i64 i]] = some (.tup [.agg [.int .i64 y1, .int .i64 y2], .bool l]) ∧ (k = false ∨ k = true ∧ l = true ∧ x1 ≤ y1 ∧ y2 ≤ x2) := by
        cases hx : muF (a, b) (c, d) with
        | none =>
          rw [hx] at M1
          cases hy : muF (e, f) (g, i) with
          | none => rw [hy] at M2; exact ⟨_, _, _, _, _, _, M1, M2, .inl rfl⟩
          | some y => rw [hy] at M2; exact ⟨_, _, _, _, _, _, M1, M2, .inl rfl⟩
        | some x =>
          obtain ⟨y, hy, k1, k2⟩ := muF_part e1 e2 e3 g1 g2 g3 hx
          rw [hx] at M1
          rw [hy] at M2
          exact ⟨_, _, _, _, _, _, M1, M2, .inr ⟨rfl, rfl, k1, k2⟩⟩
      have FS : ∃ x1 x2 y1 y2 k l, Rq 27 [.agg [.int .i64 a, .int .i64 b]] = some (.tup [.agg [.int .i64 x1, .int .i64 x2], .bool k]) ∧
          Rq 27 [.agg [.int .i64 e, .int .i64 f]] = some (.tup [.agg [.int .i64 y1, .int .i64 y2], .bool l]) ∧ (k = false ∨ k = true ∧ l = false ∧ f < 0 ∨ k = true ∧ l = true ∧ x1 ≤ y1 ∧ y2 ≤ x2) := by
        cases hx : sqF (a, b) with
        | none =>
          rw [hx] at S1
          cases hy : sqF (e, f) with
          | none => rw [hy] at S2; exact ⟨_, _, _, _, _, _, S1, S2, .inl rfl⟩
          | some y => rw [hy] at S2; exact ⟨_, _, _, _, _, _, S1, S2, .inl rfl⟩
        | some x =>
          rw [hx] at S1
          rcases sqF_part e1 e2 e3 hx with ⟨k0, hy⟩ | ⟨y, hy, k1, k2⟩
          · rw [hy] at S2
            exact ⟨_, _, _, _, _, _, S1, S2, .inr (.inl ⟨rfl, rfl, k0⟩)⟩
          · rw [hy] at S2
            exact ⟨_, _, _, _, _, _, S1, S2, .inr (.inr ⟨rfl, rfl, k1, k2⟩)⟩
      clear A1 A2 M1 M2 S1 S2
      obtain ⟨x1, x2, y1, y2, k, l, A1, A2, AC⟩ := FA
      obtain ⟨x1', x2', y1', y2', k', l', M1, M2, MC⟩ := FM
      obtain ⟨x1'', x2'', y1'', y2'', k'', l'', S1, S2, SC⟩ := FS
      clear hp hp2 p1 p2 p3 p4 e1 e2 e3 g1 g2 g3 ha hb hc hd hu1 hu2 hu3 hu4 h h' h''
      rcases AC with rfl | ⟨rfl, rfl, a1, a2⟩ <;> rcases MC with rfl | ⟨rfl, rfl, m1, m2⟩ <;> rcases SC with rfl | ⟨rfl, rfl, s1⟩ | ⟨rfl, rfl, s1, s2⟩ <;>
        simp -implicitDefEqProofs (disch := omega) only [go_sem, aw, pr, pr2, pa, pb, of, wi, A1, A2, M1, M2, S1, S2, if_pos, if_neg, dec_t, dec_f, IntWalk.i64_in, IntWalk.u32_in, IntWalk.u64_in, beq_no]
    · rw [dec_f hp2] at pr2
      simp -implicitDefEqProofs (disch := omega) only [go_sem, aw, pr, pr2, if_pos, if_neg, dec_t, dec_f, IntWalk.i64_in, IntWalk.u32_in, IntWalk.u64_in, beq_no]
  · rw [dec_f hp] at pr
    by_cases hp2 : c ≤ d ∧ -2305843009213693952 ≤ c ∧ d ≤ 2305843009213693952
    · rw [dec_t hp2] at pr2
      simp -implicitDefEqProofs (disch := omega) only [go_sem, aw, pr, pr2, if_pos, if_neg, dec_t, dec_f, IntWalk.i64_in, IntWalk.u32_in, IntWalk.u64_in, beq_no]
    · rw [dec_f hp2] at pr2
      simp -implicitDefEqProofs (disch := omega) only [go_sem, aw, pr, pr2, if_pos, if_neg, dec_t, dec_f, IntWalk.i64_in, IntWalk.u32_in, IntWalk.u64_in, beq_no]
end Go.Pi
