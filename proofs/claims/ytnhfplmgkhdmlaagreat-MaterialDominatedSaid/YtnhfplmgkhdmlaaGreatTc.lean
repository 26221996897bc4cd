/- What is proved: the reference: fractions. No conditions beyond those in the statements. -/
import Derived.Test.YtnhfplmgkhdmlaaGreatTb
import Derived.Test.YtnhfplmgkhdmlaaGreatNb
set_option linter.unusedVariables false
set_option linter.unusedSimpArgs false
set_option maxHeartbeats 4000000
set_option maxRecDepth 8000
/-
The reference's fractions.
-/
namespace Go.Pi
open Go Go.Proofs Num
@[go_sem] theorem qFromInt64'_s {n : Int} (h0 : -9223372036854775808 ≤ n) (h1 : n ≤ 9223372036854775807) : Rq 34 [.int .i64 n] = some (.agg (zQ (n : Rat))) := qFromInt64'_r h0 h1
@[go_sem] theorem qSign'_s {q : Rat} (h : rl q ≤ 300000000) : Rq 68 [.agg [.bool (ng (q).num), .sl false (us (lm (q).num)), .bool false, .sl false (us (lm ((q).den : Int)))]] = some (.int .i64 (sg q)) := by
  refine RL_of (f := 68) (fn := Tryz.f68) Tryz.func68 rfl rfl rfl (Nat.le_of_ble_eq_true rfl) ?_
  have := rl_num q
  have s := sign'_r q.num (by omega)
  simp only [zI_eq] at s
  simp -implicitDefEqProofs (maxSteps := 5000000) (disch := omega) only [go_sem, s, if_pos, if_neg, dec_t, dec_f, IntWalk.i64_in, IntWalk.u32_in, IntWalk.u64_in, beq_no]
  rfl
@[go_sem] theorem qNeg'_s {q : Rat} (h : rl q ≤ 300000000) : Rq 62 [.agg [.bool (ng (q).num), .sl false (us (lm (q).num)), .bool false, .sl false (us (lm ((q).den : Int)))]] = some (.agg (zQ (-q))) := by
  refine RL_of (f := 62) (fn := Tryz.f62) Tryz.func62 rfl rfl rfl (Nat.le_of_ble_eq_true rfl) ?_
  have h1 := rl_num q
  have s := neg'_r (a := q.num) (by omega)
  simp only [zI_eq] at s
  simp -implicitDefEqProofs (maxSteps := 5000000) (disch := omega) only [go_sem, s, Rat.neg_num, Rat.neg_den, if_pos, if_neg, dec_t, dec_f, IntWalk.i64_in, IntWalk.u32_in, IntWalk.u64_in, beq_no]
theorem of'_pos {p q : Int} (h : 0 < q) (hp : ll p ≤ 700000000) (hq : ll q ≤ 700000000) : ∃ g : Nat, 0 < g ∧ (Rat.divInt p q).num = p / (g : Int) ∧ ((Rat.divInt p q).den : Int) = q / (g : Int) ∧
    Rq 109 [.agg (zI p), .agg (zI q)] = some (.agg (zI (g : Int))) ∧
    (∃ x, Rq 129 [.agg (zI p), .agg (zI (g : Int))] = some (.tup [.agg (zI (p / (g : Int))), .agg (zI x), .int .i64 0])) ∧ (∃ x, Rq 129 [.agg (zI q), .agg (zI (g : Int))] = some (.tup [.agg (zI (q / (g : Int))), .agg (zI x), .int .i64 0])) := by
  have g0 : 0 < Int.gcd p q := Int.gcd_pos_of_ne_zero_right _ (by omega)
  have gq : ll (Int.gcd p q : Int) ≤ 700000000 := Nat.le_trans (ll_mono (by
    rw [Int.natAbs_natCast]
    exact Nat.le_of_dvd (by omega) (Int.gcd_dvd_natAbs_right p q))) hq
  refine ⟨Int.gcd p q, g0, ?_, ?_, gcd'_r hp hq, ⟨p.fmod (Int.gcd p q), ?_⟩, ⟨q.fmod (Int.gcd p q), ?_⟩⟩
  · rw [Rat.num_divInt, Int.sign_eq_one_of_pos h, Int.one_mul, Int.gcd_comm]
  · rw [Rat.den_divInt, if_neg (by omega), Int.gcd_comm, Int.natCast_ediv]
    congr 1; omega
  · have := divMod'_r (a := p) (b := (Int.gcd p q : Int)) hp gq (by omega)
    rwa [Int.fdiv_eq_ediv_of_nonneg _ (by omega)] at this
  · have := divMod'_r (a := q) (b := (Int.gcd p q : Int)) hq gq (by omega)
    rwa [Int.fdiv_eq_ediv_of_nonneg _ (by omega)] at this
theorem qOf'_r {p q : Int} (hp : ll p ≤ 700000000) (hq : ll q ≤ 700000000) (h0 : q ≠ 0) : Rq 90 [.agg (zI p), .agg (zI q)] = some (.agg (zQ (Rat.divInt p q))) := by
  refine RL_of (f := 90) (fn := Tryz.f90) Tryz.func90 rfl rfl rfl (Nat.le_of_ble_eq_true rfl) ?_
  have s := sign'_r q (by omega)
  have np := neg'_r (a := p) (by omega)
  have nq := neg'_r (a := q) (by omega)
  simp only [zI_eq] at s np nq
  rcases Int.lt_or_gt_of_ne h0 with h | h
  · obtain ⟨g, g0, e1, e2, gc, ⟨x, x1⟩, ⟨y, x2⟩⟩ := of'_pos (p := -p) (q := -q) (by omega) (by rw [ll_neg]; exact hp) (by rw [ll_neg]; exact hq)
    rw [show Rat.divInt (-p) (-q) = Rat.divInt p q by rw [Rat.divInt_neg', Int.neg_neg]] at e1 e2
    rw [Int.sign_eq_neg_one_of_neg h] at s
    have n1 := ng_nn (v := -q) (by omega)
    have n2 := ng_nn (v := -q / (g : Int)) (Int.ediv_nonneg (by omega) (by omega))
    simp only [zI_eq, ng_cast, n1, n2, lm_neg] at gc x1 x2 np nq
    simp -implicitDefEqProofs (maxSteps := 5000000) (disch := omega) only [go_sem, s, np, nq, gc, n1, x1, x2, e1, e2, lm_neg, ng_cast, if_pos, if_neg, dec_t, dec_f, IntWalk.i64_in, IntWalk.u32_in, IntWalk.u64_in, beq_no]
  · obtain ⟨g, g0, e1, e2, gc, ⟨x, x1⟩, ⟨y, x2⟩⟩ := of'_pos (p := p) (q := q) (by omega) hp hq
    rw [Int.sign_eq_one_of_pos h] at s
    have n1 := ng_nn (v := q) (by omega)
    have n2 := ng_nn (v := q / (g : Int)) (Int.ediv_nonneg (by omega) (by omega))
    simp only [zI_eq, ng_cast, n1, n2] at gc x1 x2 s
    simp -implicitDefEqProofs (maxSteps := 5000000) (disch := omega) only [go_sem, s, gc, n1, x1, x2, e1, e2, ng_cast, if_pos, if_neg, dec_t, dec_f, IntWalk.i64_in, IntWalk.u32_in, IntWalk.u64_in, beq_no]
@[go_sem] theorem qMul'_s {a b : Rat} (ha : rl a ≤ 300000000) (hb : rl b ≤ 300000000) : Rq 54 [.agg [.bool (ng (a).num), .sl false (us (lm (a).num)), .bool false, .sl false (us (lm ((a).den : Int)))], .agg [.bool (ng (b).num), .sl false (us (lm (b).num)), .bool false, .sl false (us (lm ((b).den : Int)))]] = some (.agg (zQ (a * b))) := by
  refine RL_of (f := 54) (fn := Tryz.f54) Tryz.func54 rfl rfl rfl (Nat.le_of_ble_eq_true rfl) ?_
  have h1 := rl_num a
  have h2 := rl_den a
  have h3 := rl_num b
  have h4 := rl_den b
  have m1 := mul'_r (a := a.num) (b := b.num) (by omega) (by omega)
  have m2 := mul'_r (a := (a.den : Int)) (b := (b.den : Int)) (by omega) (by omega)
  have l1 := ll_mul a.num b.num
  have l2 := ll_mul (a.den : Int) b.den
  have r := qOf'_r (p := a.num * b.num) (q := (a.den : Int) * b.den) (by omega) (by omega) (dens_ne a b)
  rw [← mul_divInt] at r
  simp only [zI_eq, ng_cast] at m1 m2 r
  simp -implicitDefEqProofs (maxSteps := 5000000) (disch := omega) only [go_sem, m1, m2, r, if_pos, if_neg, dec_t, dec_f, IntWalk.i64_in, IntWalk.u32_in, IntWalk.u64_in, beq_no]
@[go_sem] theorem qAdd'_s {a b : Rat} (ha : rl a ≤ 300000000) (hb : rl b ≤ 300000000) : Rq 61 [.agg [.bool (ng (a).num), .sl false (us (lm (a).num)), .bool false, .sl false (us (lm ((a).den : Int)))], .agg [.bool (ng (b).num), .sl false (us (lm (b).num)), .bool false, .sl false (us (lm ((b).den : Int)))]] = some (.agg (zQ (a + b))) := by
  refine RL_of (f := 61) (fn := Tryz.f61) Tryz.func61 rfl rfl rfl (Nat.le_of_ble_eq_true rfl) ?_
  have h1 := rl_num a
  have h2 := rl_den a
  have h3 := rl_num b
  have h4 := rl_den b
  have m1 := mul'_r (a := a.num) (b := (b.den : Int)) (by omega) (by omega)
  have m2 := mul'_r (a := b.num) (b := (a.den : Int)) (by omega) (by omega)
  have m3 := mul'_r (a := (a.den : Int)) (b := (b.den : Int)) (by omega) (by omega)
  have l1 := ll_mul a.num b.den
  have l2 := ll_mul b.num a.den
  have l3 := ll_mul (a.den : Int) b.den
  have l4 := ll_add (a.num * b.den) (b.num * a.den)
  have ad := add'_r (a := a.num * b.den) (b := b.num * a.den) (by omega) (by omega)
  have r := qOf'_r (p := a.num * b.den + b.num * a.den) (q := (a.den : Int) * b.den) (by omega) (by omega) (dens_ne a b)
  rw [← add_divInt] at r
  simp only [zI_eq, ng_cast] at m1 m2 m3 ad r
  simp -implicitDefEqProofs (maxSteps := 5000000) (disch := omega) only [go_sem, m1, m2, m3, ad, r, if_pos, if_neg, dec_t, dec_f, IntWalk.i64_in, IntWalk.u32_in, IntWalk.u64_in, beq_no]
@[go_sem] theorem qSub'_s {a b : Rat} (ha : rl a ≤ 300000000) (hb : rl b ≤ 300000000) : Rq 59 [.agg [.bool (ng (a).num), .sl false (us (lm (a).num)), .bool false, .sl false (us (lm ((a).den : Int)))], .agg [.bool (ng (b).num), .sl false (us (lm (b).num)), .bool false, .sl false (us (lm ((b).den : Int)))]] = some (.agg (zQ (a - b))) := by
  refine RL_of (f := 59) (fn := Tryz.f59) Tryz.func59 rfl rfl rfl (Nat.le_of_ble_eq_true rfl) ?_
  rw [Rat.sub_eq_add_neg]
  simp -implicitDefEqProofs (maxSteps := 5000000) (disch := first | omega | (with_reducible apply Nat.le_trans; (focus (repeat' (first | with_reducible assumption | with_reducible apply rb_mul | with_reducible apply rb_add | with_reducible apply rb_sub | with_reducible apply rb_neg | with_reducible apply rb_div | with_reducible apply rb_divInt | with_reducible apply rb_int | with_reducible apply lb_mul | with_reducible apply lb_add | with_reducible apply lb_sub | with_reducible apply lb_neg | exact Nat.le_refl _))); omega)) only [go_sem, if_pos, if_neg, dec_t, dec_f, IntWalk.i64_in, IntWalk.u32_in, IntWalk.u64_in, beq_no]
@[go_sem] theorem qCmp'_s {a b : Rat} (ha : rl a ≤ 300000000) (hb : rl b ≤ 300000000) : Rq 56 [.agg [.bool (ng (a).num), .sl false (us (lm (a).num)), .bool false, .sl false (us (lm ((a).den : Int)))], .agg [.bool (ng (b).num), .sl false (us (lm (b).num)), .bool false, .sl false (us (lm ((b).den : Int)))]] = some (.int .i64 (sg (a - b))) := by
  refine RL_of (f := 56) (fn := Tryz.f56) Tryz.func56 rfl rfl rfl (Nat.le_of_ble_eq_true rfl) ?_
  have h1 := rl_num a
  have h2 := rl_den a
  have h3 := rl_num b
  have h4 := rl_den b
  have m1 := mul'_r (a := a.num) (b := (b.den : Int)) (by omega) (by omega)
  have m2 := mul'_r (a := b.num) (b := (a.den : Int)) (by omega) (by omega)
  have l1 := ll_mul a.num b.den
  have l2 := ll_mul b.num a.den
  have c := cmp'_r (a := a.num * b.den) (b := b.num * a.den) (by omega) (by omega)
  rw [sg_cross] at c
  simp only [zI_eq, ng_cast] at m1 m2 c
  simp -implicitDefEqProofs (maxSteps := 5000000) (disch := omega) only [go_sem, m1, m2, c, if_pos, if_neg, dec_t, dec_f, IntWalk.i64_in, IntWalk.u32_in, IntWalk.u64_in, beq_no]
theorem ll_64 {n : Int} (h0 : -9223372036854775808 ≤ n) (h1 : n ≤ 9223372036854775807) : ll n ≤ 3 := ll_le (by simp only [pw]; omega) (by simp only [pw]; omega)
@[go_sem] theorem qFrac'_s {n d : Int} (h0 : -9223372036854775808 ≤ n) (h1 : n ≤ 9223372036854775807) (k0 : -9223372036854775808 ≤ d) (k1 : d ≤ 9223372036854775807) : Rq 50 [.int .i64 n, .int .i64 d] = some (.agg (zQ (Rat.divInt n d))) := by
  refine RL_of (f := 50) (fn := Tryz.f50) Tryz.func50 rfl rfl rfl (Nat.le_of_ble_eq_true rfl) ?_
  have l1 := ll_64 h0 h1
  have l2 := ll_64 k0 k1
  by_cases hd : d = 0
  · subst hd
    rw [Rat.divInt_zero, show (0 : Rat) = Rat.divInt 0 1 by rw [Rat.zero_divInt]]
    have f1 := fromInt64'_r (n := 0) (by omega) (by omega)
    have f2 := fromInt64'_r (n := 1) (by omega) (by omega)
    have s1 := ll_small (v := 1) (by omega) (by omega)
    have r := qOf'_r (p := 0) (q := 1) (by rw [ll_zero]; omega) (by omega) (by omega)
    simp only [zI_eq] at f1 f2 r
    simp -implicitDefEqProofs (maxSteps := 5000000) (disch := omega) only [go_sem, f1, f2, r, if_pos, if_neg, dec_t, dec_f, IntWalk.i64_in, IntWalk.u32_in, IntWalk.u64_in, beq_no]
  · have f1 := fromInt64'_r h0 h1
    have f2 := fromInt64'_r k0 k1
    have r := qOf'_r (p := n) (q := d) (by omega) (by omega) hd
    simp only [zI_eq] at f1 f2 r
    simp -implicitDefEqProofs (maxSteps := 5000000) (disch := omega) only [go_sem, f1, f2, r, hd, if_pos, if_neg, dec_t, dec_f, IntWalk.i64_in, IntWalk.u32_in, IntWalk.u64_in, beq_no]
end Go.Pi

set_option linter.unusedVariables false
set_option linter.unusedSimpArgs false
set_option maxHeartbeats 4000000
set_option maxRecDepth 8000
/-
Which numbers are valid.
-/
namespace Go.Pi
open Go Go.Proofs Num
def U32 (l : List Int) : Prop := ∀ x, x ∈ l → 0 ≤ x ∧ x < 4294967296
theorem valid_iff {n : Bool} {l : List Int} (h : Lm l) : (∃ v, n = ng v ∧ l = lm v) ↔ (lm (vl l)).length = l.length ∧ (n = false ∨ 0 < l.length) := by
  constructor
  · rintro ⟨v, rfl, rfl⟩
    rw [vl_lm, lm_natAbs]
    refine ⟨rfl, ?_⟩
    by_cases hv : v < 0
    · right; exact List.length_pos_iff.2 (by rw [Ne, lm_eq_nil]; omega)
    · left; exact ng_nn (by omega)
  · rintro ⟨h1, h2⟩
    have e : l = lm (vl l) := vl_inj h (lm_lm _) h1.symm (by rw [vl_lm0 (vl_nonneg h)])
    cases n with
    | false => exact ⟨vl l, by rw [ng_nn (vl_nonneg h)], e⟩
    | true =>
      have h3 : 0 < l.length := by rcases h2 with h2 | h2; cases h2; exact h2
      have h4 : vl l ≠ 0 := fun z => by rw [z, lm_zero] at e; rw [e] at h3; simp at h3
      have := vl_nonneg h
      exact ⟨-(vl l), by rw [ng_neg (by omega)], by rw [lm_neg]; exact e⟩
theorem valid'_r {n : Bool} {l : List Int} (hu : U32 l) (hn : l.length ≤ 1000000000) : Rq 106 [.agg [.bool n, .sl false (us l)]] = some (.bool (dec (∃ v, n = ng v ∧ l = lm v))) := by
  refine RL_of (f := 106) (fn := Tryz.f106) Tryz.func106 rfl rfl rfl (Nat.le_of_ble_eq_true rfl) ?_
  simp -implicitDefEqProofs only [go_sem]
  generalize hL : execL _ _ _ _ _ (.loop _) _ = L
  obtain ⟨⟨e, r, ⟨m, nx⟩⟩, rfl, H⟩ := loop_of hL (fun k s => ∃ i : Nat, (k = l.length - i ∧ i ≤ l.length ∧ Lm (l.take i)) ∧ s.M.m 0 = .live true 35 [.bool n, .sl false (us l)] ∧ s.r 1 = .ptr 0 0 ∧ s.r 3 = .int .i64 i ∧ s.r 2 = .bool false)
    (fun y => (y.1 = .ret ∧ y.2.r 2 = .bool false ∧ ¬ Lm l) ∨ (y.1 = .exit 0 ∧ Lm l ∧ y.2.M.m 0 = .live true 35 [.bool n, .sl false (us l)] ∧ y.2.r 1 = .ptr 0 0)) ⟨l.length, by
    simp -implicitDefEqProofs (maxSteps := 5000000) (disch := omega) only [go_sem, if_pos, if_neg, dec_t, dec_f, IntWalk.i64_in, IntWalk.u32_in, IntWalk.u64_in, beq_no]
    exact ⟨0, ⟨by omega, by omega, by rw [List.take_zero]; exact lm_nil⟩, rfl⟩⟩ (by
    rintro k ⟨r, ⟨m, nx⟩⟩ ⟨i, ⟨rfl, hi, hl⟩, hm, h1, h3, h2⟩
    dsimp only at hm h1 h3 h2
    have e1 : (i : Int).toNat = i := by omega
    by_cases hlt : i < l.length
    · have hx := hu (l.getD i 0) (by rw [List.getD_eq_getElem?_getD, List.getElem?_eq_getElem hlt]; exact List.getElem_mem hlt)
      by_cases hb : l.getD i 0 < 1000000000
      · have h' : ¬ l.getD i 0 ≥ 1000000000 := by omega
        simp -implicitDefEqProofs (maxSteps := 5000000) (disch := omega) only [go_sem, hm, h1, h3, h2, e1, us_get, if_pos, if_neg, dec_t, dec_f, IntWalk.i64_in, IntWalk.u32_in, IntWalk.u64_in, beq_no]
        refine ⟨_, by omega, i + 1, ⟨rfl, by omega, ?_⟩, by rfl⟩
        rw [take_succ' _ _ hlt]
        exact lm_append.2 ⟨hl, lm_cons.2 ⟨by omega, lm_nil⟩⟩
      · simp -implicitDefEqProofs (maxSteps := 5000000) (disch := omega) only [go_sem, hm, h1, h3, h2, e1, us_get, if_pos, if_neg, dec_t, dec_f, IntWalk.i64_in, IntWalk.u32_in, IntWalk.u64_in, beq_no]
        left
        intro h
        have := lm_getD h i
        omega
    · have : i = l.length := by omega
      subst this
      rw [List.take_length] at hl
      simp -implicitDefEqProofs (maxSteps := 5000000) (disch := omega) only [go_sem, hm, h1, h3, h2, e1, if_pos, if_neg, dec_t, dec_f, IntWalk.i64_in, IntWalk.u32_in, IntWalk.u64_in, beq_no]
      exact .inr hl)
  rcases H with ⟨rfl, h2, hn⟩ | ⟨rfl, hl, hm, h1⟩
  · dsimp only at h2
    rw [dec_f (p := ∃ v, n = ng v ∧ l = lm v) (by rintro ⟨v, rfl, rfl⟩; exact hn (lm_lm v))]
    simp -implicitDefEqProofs (maxSteps := 5000000) (disch := omega) only [go_sem, h2, if_pos, if_neg, dec_t, dec_f, IntWalk.i64_in, IntWalk.u32_in, IntWalk.u64_in, beq_no]
  · dsimp only at hm h1
    have t := trim'_r hl (by omega)
    have iff := valid_iff (n := n) hl
    by_cases h3 : (lm (vl l)).length = l.length
    · cases n with
      | false =>
        rw [dec_t (iff.2 ⟨h3, .inl rfl⟩)]
        simp -implicitDefEqProofs (maxSteps := 5000000) (disch := omega) only [go_sem, hm, h1, t, h3, if_pos, if_neg, dec_t, dec_f, IntWalk.i64_in, IntWalk.u32_in, IntWalk.u64_in, beq_no]
      | true =>
        by_cases h4 : 0 < l.length
        · rw [dec_t (iff.2 ⟨h3, .inr h4⟩)]
          simp -implicitDefEqProofs (maxSteps := 5000000) (disch := omega) only [go_sem, hm, h1, t, h3, if_pos, if_neg, dec_t, dec_f, IntWalk.i64_in, IntWalk.u32_in, IntWalk.u64_in, beq_no]
        · rw [dec_f (fun h => by rcases (iff.1 h).2 with h | h; cases h; exact h4 h)]
          simp -implicitDefEqProofs (maxSteps := 5000000) (disch := omega) only [go_sem, hm, h1, t, h3, if_pos, if_neg, dec_t, dec_f, IntWalk.i64_in, IntWalk.u32_in, IntWalk.u64_in, beq_no]
    · rw [dec_f (fun h => h3 (iff.1 h).1)]
      simp -implicitDefEqProofs (maxSteps := 5000000) (disch := omega) only [go_sem, hm, h1, t, h3, if_pos, if_neg, dec_t, dec_f, IntWalk.i64_in, IntWalk.u32_in, IntWalk.u64_in, beq_no]
theorem same'_r {a b : Int} (ha : ll a ≤ 1000000000) (hb : ll b ≤ 1000000000) : Rq 108 [.agg (zI a), .agg (zI b)] = some (.bool (dec (a = b))) := by
  refine RL_of (f := 108) (fn := Tryz.f108) Tryz.func108 rfl rfl rfl (Nat.le_of_ble_eq_true rfl) ?_
  have c := compare'_r a b (by omega) (by omega)
  have va := vl_lm' a
  have vb := vl_lm' b
  by_cases h1 : a < 0
  · rw [if_pos h1] at va
    by_cases h2 : b < 0
    · rw [if_pos h2] at vb
      rw [va, vb] at c
      by_cases h : a = b
      · subst h
        rw [Int.sub_self, Int.sign_zero] at c
        simp -implicitDefEqProofs (maxSteps := 5000000) (disch := omega) only [go_sem, ng_neg h1, c, if_pos, if_neg, dec_t, dec_f, IntWalk.i64_in, IntWalk.u32_in, IntWalk.u64_in, beq_no]
      · have hs : ¬ (-a - -b).sign = 0 := by rw [Int.sign_eq_zero_iff_zero]; omega
        simp -implicitDefEqProofs (maxSteps := 5000000) (disch := omega) only [go_sem, ng_neg h1, ng_neg h2, c, if_pos, if_neg, dec_t, dec_f, IntWalk.i64_in, IntWalk.u32_in, IntWalk.u64_in, beq_no]
    · simp -implicitDefEqProofs (maxSteps := 5000000) (disch := omega) only [go_sem, ng_neg h1, ng_nn (Int.not_lt.1 h2), if_pos, if_neg, dec_t, dec_f, IntWalk.i64_in, IntWalk.u32_in, IntWalk.u64_in, beq_no]
  · rw [if_neg h1] at va
    by_cases h2 : b < 0
    · simp -implicitDefEqProofs (maxSteps := 5000000) (disch := omega) only [go_sem, ng_neg h2, ng_nn (Int.not_lt.1 h1), if_pos, if_neg, dec_t, dec_f, IntWalk.i64_in, IntWalk.u32_in, IntWalk.u64_in, beq_no]
    · rw [if_neg h2] at vb
      rw [va, vb] at c
      by_cases h : a = b
      · subst h
        rw [Int.sub_self, Int.sign_zero] at c
        simp -implicitDefEqProofs (maxSteps := 5000000) (disch := omega) only [go_sem, ng_nn (Int.not_lt.1 h1), c, if_pos, if_neg, dec_t, dec_f, IntWalk.i64_in, IntWalk.u32_in, IntWalk.u64_in, beq_no]
      · have hs : ¬ (a - b).sign = 0 := by rw [Int.sign_eq_zero_iff_zero]; omega
        simp -implicitDefEqProofs (maxSteps := 5000000) (disch := omega) only [go_sem, ng_nn (Int.not_lt.1 h1), ng_nn (Int.not_lt.1 h2), c, if_pos, if_neg, dec_t, dec_f, IntWalk.i64_in, IntWalk.u32_in, IntWalk.u64_in, beq_no]
/-- The cells of a fraction that may not be valid. -/
structure RA where
  n : Bool
  a : List Int
  m : Bool
  b : List Int
def RA.cs (x : RA) : List PV := [.bool x.n, .sl false (us x.a), .bool x.m, .sl false (us x.b)]
/-- Its limbs are words. -/
def RA.Wf (x : RA) : Prop := U32 x.a ∧ U32 x.b
/-- It is valid. -/
def RA.Ok (x : RA) : Prop := ∃ q : Rat, x.n = ng q.num ∧ x.a = lm q.num ∧ x.m = false ∧ x.b = lm (q.den : Int)
theorem RA.Ok.cs {x : RA} (h : x.Ok) : ∃ q : Rat, x.cs = zQ q ∧ x.a.length = ll q.num ∧ x.b.length = ll (q.den : Int) := by
  obtain ⟨q, h1, h2, h3, h4⟩ := h
  exact ⟨q, by rw [RA.cs, h1, h2, h3, h4, zQ_eq], by rw [h2, length_lm], by rw [h4, length_lm]⟩
theorem ok_iff (n : Bool) (a : List Int) (m : Bool) (b : List Int) : (∃ q : Rat, n = ng q.num ∧ a = lm q.num ∧ m = false ∧ b = lm (q.den : Int)) ↔ ∃ u v : Int, n = ng u ∧ a = lm u ∧ m = ng v ∧ b = lm v ∧ 0 < v ∧ Int.gcd u v = 1 := by
  constructor
  · rintro ⟨q, h1, h2, h3, h4⟩
    refine ⟨q.num, q.den, h1, h2, by rw [ng_cast]; exact h3, h4, by have := q.den_pos; omega, ?_⟩
    have := q.reduced
    unfold Nat.Coprime at this
    rw [Int.gcd, Int.natAbs_natCast]
    exact this
  · rintro ⟨u, v, h1, h2, h3, h4, h5, h6⟩
    refine ⟨⟨u, v.natAbs, by omega, h6⟩, h1, h2, ?_, ?_⟩
    · rw [h3]; exact ng_nn (by omega)
    · rw [h4]; exact (lm_natAbs v).symm
theorem qValid'_r {n : Bool} {a : List Int} {m : Bool} {b : List Int} (h1 : U32 a) (h2 : U32 b) (l1 : a.length ≤ 100000000) (l2 : b.length ≤ 100000000) :
    Rq 67 [.agg [.bool n, .sl false (us a), .bool m, .sl false (us b)]] = some (.bool (dec (∃ q : Rat, n = ng q.num ∧ a = lm q.num ∧ m = false ∧ b = lm (q.den : Int)))) := by
  refine RL_of (f := 67) (fn := Tryz.f67) Tryz.func67 rfl rfl rfl (Nat.le_of_ble_eq_true rfl) ?_
  have v1 := valid'_r (n := n) h1 (by omega)
  have v2 := valid'_r (n := m) h2 (by omega)
  have iff := ok_iff n a m b
  by_cases k1 : ∃ v, n = ng v ∧ a = lm v
  · rw [dec_t k1] at v1
    by_cases k2 : ∃ v, m = ng v ∧ b = lm v
    · rw [dec_t k2] at v2
      obtain ⟨u, rfl, rfl⟩ := k1
      obtain ⟨v, rfl, rfl⟩ := k2
      have lu := length_lm u
      have lv := length_lm v
      have s := sign'_r v (by omega)
      simp only [zI_eq] at s
      have inj : ∀ x y : Int, ng x = ng y → lm x = lm y → x = y := fun x y h k => by
        have := congrArg vl k
        rw [vl_lm', vl_lm'] at this
        by_cases hx : x < 0
        · rw [ng_neg hx] at h
          by_cases hy : y < 0
          · rw [if_pos hx, if_pos hy] at this; omega
          · rw [ng_nn (by omega)] at h; cases h
        · rw [ng_nn (by omega)] at h
          by_cases hy : y < 0
          · rw [ng_neg hy] at h; cases h
          · rw [if_neg hx, if_neg hy] at this; omega
      by_cases k3 : 0 < v
      · rw [Int.sign_eq_one_of_pos k3] at s
        have g := gcd'_r (a := u) (b := v) (by omega) (by omega)
        have gq : ll (Int.gcd u v : Int) ≤ 100000000 := Nat.le_trans (ll_mono (b := v) (by
          rw [Int.natAbs_natCast]
          exact Nat.le_of_dvd (by omega) (Int.gcd_dvd_natAbs_right u v))) (by omega)
        have un := unit'_r
        have l1 := ll_small (v := 1) (by omega) (by omega)
        have sm := same'_r (a := (Int.gcd u v : Int)) (b := 1) (by omega) (by omega)
        simp only [zI_eq] at g un sm
        by_cases k4 : Int.gcd u v = 1
        · rw [dec_t (iff.2 ⟨u, v, rfl, rfl, rfl, rfl, k3, k4⟩)]
          rw [dec_t (by omega)] at sm
          simp -implicitDefEqProofs (maxSteps := 5000000) (disch := omega) only [go_sem, v1, v2, s, g, un, sm, if_pos, if_neg, dec_t, dec_f, IntWalk.i64_in, IntWalk.u32_in, IntWalk.u64_in, beq_no]
        · rw [dec_f (fun h => by
            obtain ⟨u', v', e1, e2, e3, e4, e5, e6⟩ := iff.1 h
            have := inj _ _ e1 e2
            have := inj _ _ e3 e4
            subst_vars
            exact k4 e6)]
          rw [dec_f (by omega)] at sm
          simp -implicitDefEqProofs (maxSteps := 5000000) (disch := omega) only [go_sem, v1, v2, s, g, un, sm, if_pos, if_neg, dec_t, dec_f, IntWalk.i64_in, IntWalk.u32_in, IntWalk.u64_in, beq_no]
      · have sn : ¬ v.sign = 1 := by
          rw [Int.sign_eq_one_iff_pos]; exact k3
        rw [dec_f (fun h => by
            obtain ⟨u', v', e1, e2, e3, e4, e5, e6⟩ := iff.1 h
            have := inj _ _ e3 e4
            omega)]
        simp -implicitDefEqProofs (maxSteps := 5000000) (disch := omega) only [go_sem, v1, v2, s, sn, if_pos, if_neg, dec_t, dec_f, IntWalk.i64_in, IntWalk.u32_in, IntWalk.u64_in, beq_no]
    · rw [dec_f k2] at v2
      rw [dec_f (fun h => by
        obtain ⟨u', v', e1, e2, e3, e4, e5, e6⟩ := iff.1 h
        exact k2 ⟨v', e3, e4⟩)]
      simp -implicitDefEqProofs (maxSteps := 5000000) (disch := omega) only [go_sem, v1, v2, if_pos, if_neg, dec_t, dec_f, IntWalk.i64_in, IntWalk.u32_in, IntWalk.u64_in, beq_no]
  · rw [dec_f k1] at v1
    rw [dec_f (fun h => by
        obtain ⟨u', v', e1, e2, e3, e4, e5, e6⟩ := iff.1 h
        exact k1 ⟨u', e1, e2⟩)]
    simp -implicitDefEqProofs (maxSteps := 5000000) (disch := omega) only [go_sem, v1, if_pos, if_neg, dec_t, dec_f, IntWalk.i64_in, IntWalk.u32_in, IntWalk.u64_in, beq_no]
theorem u32_lm (v : Int) : U32 (lm v) := fun x hx => by have := lm_lm v x hx; omega
@[go_sem] theorem qValid'_q {q : Rat} (h : rl q ≤ 100000000) : Rq 67 [.agg [.bool (ng (q).num), .sl false (us (lm (q).num)), .bool false, .sl false (us (lm ((q).den : Int)))]] = some (.bool true) := by
  have h1 := rl_num q
  have h2 := rl_den q
  have v := qValid'_r (n := ng q.num) (a := lm q.num) (m := false) (b := lm (q.den : Int)) (u32_lm _) (u32_lm _) (by rw [length_lm]; omega) (by rw [length_lm]; omega)
  rw [dec_t ⟨q, rfl, rfl, rfl, rfl⟩] at v
  exact v
end Go.Pi
