/- What is proved: fractions and intervals. No conditions beyond those in the statements. -/
import Derived.Test.YtnhfplmgkhdmlaaGreatLc
import Derived.Test.YtnhfplmgkhdmlaaGreatNa
set_option linter.unusedVariables false
set_option linter.unusedSimpArgs false
set_option maxHeartbeats 4000000
set_option maxRecDepth 8000
/-
What the functions on fractions answer.
-/
namespace Go.Pi
open Go Go.Proofs Num
/-- A fraction's cells. -/
def zQ (q : Rat) : List PV := zI q.num ++ zI (q.den : Int)
@[go_sem] theorem zQ_eq (q : Rat) : zQ q = [.bool (ng q.num), .sl false (us (lm q.num)), .bool false, .sl false (us (lm (q.den : Int)))] := by
  simp only [zQ, zI_eq, ng_cast]; rfl
theorem unit_r : Rq 124 [] = some (.agg (zI 1)) := by
  refine RL_of (f := 124) (fn := Tryz.f124) Tryz.func124 rfl rfl rfl (Nat.le_of_ble_eq_true rfl) ?_
  have f := fromInt64_r (n := 1) (by omega) (by omega)
  simp -implicitDefEqProofs (maxSteps := 5000000) (disch := omega) only [go_sem, f, if_pos, if_neg, dec_t, dec_f, IntWalk.i64_in, IntWalk.u32_in, IntWalk.u64_in, beq_no]
theorem whole_r (n : Int) : Rq 120 [.agg (zI n)] = some (.agg (zQ (n : Rat))) := by
  refine RL_of (f := 120) (fn := Tryz.f120) Tryz.func120 rfl rfl rfl (Nat.le_of_ble_eq_true rfl) ?_
  have u := unit_r
  simp -implicitDefEqProofs (maxSteps := 5000000) (disch := omega) only [go_sem, u, Rat.num_intCast, Rat.den_intCast, ng_nn (show (0 : Int) ≤ 1 by omega), if_pos, if_neg, dec_t, dec_f, IntWalk.i64_in, IntWalk.u32_in, IntWalk.u64_in, beq_no]
  rfl
theorem qFromInt64_r {n : Int} (h0 : -9223372036854775808 ≤ n) (h1 : n ≤ 9223372036854775807) : Rq 83 [.int .i64 n] = some (.agg (zQ (n : Rat))) := by
  refine RL_of (f := 83) (fn := Tryz.f83) Tryz.func83 rfl rfl rfl (Nat.le_of_ble_eq_true rfl) ?_
  have f := fromInt64_r h0 h1
  have w := whole_r n
  simp only [zI_eq] at w
  simp -implicitDefEqProofs (maxSteps := 5000000) (disch := omega) only [go_sem, f, w, if_pos, if_neg, dec_t, dec_f, IntWalk.i64_in, IntWalk.u32_in, IntWalk.u64_in, beq_no]
theorem qSign_r {q : Rat} (h : rl q ≤ 400000000) : Rq 78 [.agg (zQ q)] = some (.int .i64 q.num.sign) := by
  refine RL_of (f := 78) (fn := Tryz.f78) Tryz.func78 rfl rfl rfl (Nat.le_of_ble_eq_true rfl) ?_
  have := rl_num q
  have s := sign_r q.num (by omega)
  simp only [zI_eq] at s
  simp -implicitDefEqProofs (maxSteps := 5000000) (disch := omega) only [go_sem, s, if_pos, if_neg, dec_t, dec_f, IntWalk.i64_in, IntWalk.u32_in, IntWalk.u64_in, beq_no]
theorem floor_r {q : Rat} (h : rl q ≤ 400000000) : Rq 174 [.agg (zQ q)] = some (.agg (zI (q.num / (q.den : Int)))) := by
  refine RL_of (f := 174) (fn := Tryz.f174) Tryz.func174 rfl rfl rfl (Nat.le_of_ble_eq_true rfl) ?_
  have h1 := rl_num q
  have h2 := rl_den q
  have h3 := q.den_pos
  have s := divMod_r (a := q.num) (b := q.den) (by omega) (by omega) (by omega)
  rw [Int.fdiv_eq_ediv_of_nonneg _ (by omega)] at s
  simp only [zI_eq, ng_cast] at s
  simp -implicitDefEqProofs (maxSteps := 5000000) (disch := omega) only [go_sem, s, if_pos, if_neg, dec_t, dec_f, IntWalk.i64_in, IntWalk.u32_in, IntWalk.u64_in, beq_no]
theorem qNeg_r {q : Rat} (h : rl q ≤ 400000000) : Rq 126 [.agg (zQ q)] = some (.agg (zQ (-q))) := by
  refine RL_of (f := 126) (fn := Tryz.f126) Tryz.func126 rfl rfl rfl (Nat.le_of_ble_eq_true rfl) ?_
  have h1 := rl_num q
  have s := neg_r (a := q.num) (by omega)
  simp only [zI_eq] at s
  simp -implicitDefEqProofs (maxSteps := 5000000) (disch := omega) only [go_sem, s, Rat.neg_num, Rat.neg_den, if_pos, if_neg, dec_t, dec_f, IntWalk.i64_in, IntWalk.u32_in, IntWalk.u64_in, beq_no]
theorem exact_r {a b : Int} (ha : ll a ≤ 900000000) (hb : ll b ≤ 900000000) (h0 : 0 < b) : Rq 125 [.agg (zI a), .agg (zI b)] = some (.agg (zI (a / b))) := by
  refine RL_of (f := 125) (fn := Tryz.f125) Tryz.func125 rfl rfl rfl (Nat.le_of_ble_eq_true rfl) ?_
  have s := divMod_r (a := a) (b := b) ha hb (by omega)
  rw [Int.fdiv_eq_ediv_of_nonneg _ (by omega)] at s
  simp only [zI_eq] at s
  simp -implicitDefEqProofs (maxSteps := 5000000) (disch := omega) only [go_sem, s, if_pos, if_neg, dec_t, dec_f, IntWalk.i64_in, IntWalk.u32_in, IntWalk.u64_in, beq_no]
theorem reduce_r {p q : Int} (hp : ll p ≤ 900000000) (hq : ll q ≤ 900000000) (h0 : q ≠ 0) : Rq 84 [.agg (zI p), .agg (zI q)] = some (.agg (zQ (Rat.divInt p q))) := by
  refine RL_of (f := 84) (fn := Tryz.f84) Tryz.func84 rfl rfl rfl (Nat.le_of_ble_eq_true rfl) ?_
  have s := sign_r q (by omega)
  have np := neg_r (a := p) (by omega)
  have nq := neg_r (a := q) (by omega)
  simp only [zI_eq] at s np nq
  -- the rest, for a divisor above nought
  have u := unit_r
  have l1 : ll 1 ≤ 1 := ll_small (by omega) (by omega)
  have rest : ∀ p q : Int, ll p ≤ 900000000 → ll q ≤ 900000000 → 0 < q → ∃ g : Nat, 0 < g ∧ (Rat.divInt p q).num = p / (g : Int) ∧ ((Rat.divInt p q).den : Int) = q / (g : Int) ∧
      Rq 123 [.agg (zI p), .agg (zI q)] = some (.agg (zI (g : Int))) ∧ Rq 79 [.agg (zI (g : Int)), .agg (zI 1)] = some (.int .i64 ((g : Int) - 1).sign) ∧
      Rq 125 [.agg (zI p), .agg (zI (g : Int))] = some (.agg (zI (p / (g : Int)))) ∧ Rq 125 [.agg (zI q), .agg (zI (g : Int))] = some (.agg (zI (q / (g : Int)))) := fun p q hp hq h => by
    have g0 : 0 < Int.gcd p q := Int.gcd_pos_of_ne_zero_right _ (by omega)
    have gq : ll (Int.gcd p q : Int) ≤ 900000000 := Nat.le_trans (ll_mono (by
      rw [Int.natAbs_natCast]
      exact Nat.le_of_dvd (by omega) (Int.gcd_dvd_natAbs_right p q))) hq
    refine ⟨Int.gcd p q, g0, ?_, ?_, gcd_r hp hq, cmp_r (by omega) (by omega), exact_r hp gq (by omega), exact_r hq gq (by omega)⟩
    · rw [Rat.num_divInt, Int.sign_eq_one_of_pos h, Int.one_mul, Int.gcd_comm]
    · rw [Rat.den_divInt, if_neg (by omega), Int.gcd_comm, Int.natCast_ediv]
      congr 1; omega
  rcases Int.lt_or_gt_of_ne h0 with h | h
  · obtain ⟨g, g0, e1, e2, gc, cm, x1, x2⟩ := rest (-p) (-q) (by rw [ll_neg]; exact hp) (by rw [ll_neg]; exact hq) (by omega)
    rw [show Rat.divInt (-p) (-q) = Rat.divInt p q by rw [Rat.divInt_neg', Int.neg_neg]] at e1 e2
    rw [Int.sign_eq_neg_one_of_neg h] at s
    have n1 := ng_nn (v := -q) (by omega)
    have n2 := ng_nn (v := -q / (g : Int)) (Int.ediv_nonneg (by omega) (by omega))
    simp only [zI_eq, ng_cast, n1, n2, lm_neg] at gc cm x1 x2 np nq
    by_cases hg : g = 1
    · subst hg
      have z : ((((1 : Nat) : Int)) - 1).sign = 0 := by rfl
      rw [Int.natCast_one, Int.ediv_one] at e1 e2
      rw [z] at cm
      simp -implicitDefEqProofs (maxSteps := 5000000) (disch := omega) only [go_sem, s, np, nq, gc, cm, u, n1, e1, e2, lm_neg, ng_cast, if_pos, if_neg, dec_t, dec_f, IntWalk.i64_in, IntWalk.u32_in, IntWalk.u64_in, beq_no]
    · have z := Int.sign_eq_one_of_pos (show 0 < (g : Int) - 1 by omega)
      rw [z] at cm
      simp -implicitDefEqProofs (maxSteps := 5000000) (disch := omega) only [go_sem, s, np, nq, gc, cm, u, n1, x1, x2, e1, e2, lm_neg, ng_cast, if_pos, if_neg, dec_t, dec_f, IntWalk.i64_in, IntWalk.u32_in, IntWalk.u64_in, beq_no]
  · obtain ⟨g, g0, e1, e2, gc, cm, x1, x2⟩ := rest p q hp hq h
    have s1 := Int.sign_eq_one_of_pos h
    rw [s1] at s
    have n1 := ng_nn (v := q) (by omega)
    have n2 := ng_nn (v := q / (g : Int)) (Int.ediv_nonneg (by omega) (by omega))
    simp only [zI_eq, ng_cast, n1, n2] at gc cm x1 x2 s
    by_cases hg : g = 1
    · subst hg
      have z : ((((1 : Nat) : Int)) - 1).sign = 0 := by rfl
      rw [Int.natCast_one, Int.ediv_one] at e1 e2
      rw [z] at cm
      simp -implicitDefEqProofs (maxSteps := 5000000) (disch := omega) only [go_sem, s, gc, cm, u, n1, e1, e2, ng_cast, if_pos, if_neg, dec_t, dec_f, IntWalk.i64_in, IntWalk.u32_in, IntWalk.u64_in, beq_no]
    · have z := Int.sign_eq_one_of_pos (show 0 < (g : Int) - 1 by omega)
      rw [z] at cm
      simp -implicitDefEqProofs (maxSteps := 5000000) (disch := omega) only [go_sem, s, gc, cm, u, n1, x1, x2, e1, e2, ng_cast, if_pos, if_neg, dec_t, dec_f, IntWalk.i64_in, IntWalk.u32_in, IntWalk.u64_in, beq_no]
theorem qMul_r {a b : Rat} (ha : rl a ≤ 400000000) (hb : rl b ≤ 400000000) : Rq 86 [.agg (zQ a), .agg (zQ b)] = some (.agg (zQ (a * b))) := by
  refine RL_of (f := 86) (fn := Tryz.f86) Tryz.func86 rfl rfl rfl (Nat.le_of_ble_eq_true rfl) ?_
  have h1 := rl_num a
  have h2 := rl_den a
  have h3 := rl_num b
  have h4 := rl_den b
  have m1 := mul_r (a := a.num) (b := b.num) (by omega) (by omega)
  have m2 := mul_r (a := (a.den : Int)) (b := (b.den : Int)) (by omega) (by omega)
  have l1 := ll_mul a.num b.num
  have l2 := ll_mul (a.den : Int) b.den
  have r := reduce_r (p := a.num * b.num) (q := (a.den : Int) * b.den) (by omega) (by omega) (dens_ne a b)
  rw [← mul_divInt] at r
  simp only [zI_eq, ng_cast] at m1 m2 r
  simp -implicitDefEqProofs (maxSteps := 5000000) (disch := omega) only [go_sem, m1, m2, r, if_pos, if_neg, dec_t, dec_f, IntWalk.i64_in, IntWalk.u32_in, IntWalk.u64_in, beq_no]
end Go.Pi

set_option linter.unusedVariables false
set_option linter.unusedSimpArgs false
set_option maxHeartbeats 4000000
set_option maxRecDepth 8000
/-
What the functions on intervals answer.
-/
namespace Go.Pi
open Go Go.Proofs Num
/-- An interval, if there is one. -/
def pI : Option (Int × Int) → PV
  | some (l, h) => .tup [.agg [.int .i64 l, .int .i64 h], .bool true]
  | none => .tup [.agg [.int .i64 0, .int .i64 0], .bool false]
@[go_sem] theorem pI_some (l h : Int) : pI (some (l, h)) = .tup [.agg [.int .i64 l, .int .i64 h], .bool true] := nr rfl
@[go_sem] theorem pI_none : pI none = .tup [.agg [.int .i64 0, .int .i64 0], .bool false] := nr rfl
/-- An interval whose ends are not too great. -/
def prF (l h : Int) : Option (Int × Int) := if l < -2305843009213693952 ∨ 2305843009213693952 < h then none else some (l, h)
theorem prF_no {l h : Int} (k : l < -2305843009213693952 ∨ 2305843009213693952 < h) : prF l h = none := if_pos k
theorem prF_yes {l h : Int} (k : ¬ l < -2305843009213693952) (k' : ¬ 2305843009213693952 < h) : prF l h = some (l, h) := if_neg (by omega)
theorem proper_r (l h : Int) : Rq 175 [.int .i64 l, .int .i64 h] = some (pI (prF l h)) := by
  refine RL_of (f := 175) (fn := Tryz.f175) Tryz.func175 rfl rfl rfl (Nat.le_of_ble_eq_true rfl) ?_
  by_cases h1 : l < -2305843009213693952
  · rw [prF_no (.inl h1)]
    simp -implicitDefEqProofs (maxSteps := 5000000) (disch := omega) only [go_sem, h1, if_pos, if_neg, dec_t, dec_f, IntWalk.i64_in, IntWalk.u32_in, IntWalk.u64_in, beq_no]
  · by_cases h2 : 2305843009213693952 < h
    · rw [prF_no (.inr h2)]
      simp -implicitDefEqProofs (maxSteps := 5000000) (disch := omega) only [go_sem, h1, h2, if_pos, if_neg, dec_t, dec_f, IntWalk.i64_in, IntWalk.u32_in, IntWalk.u64_in, beq_no]
    · rw [prF_yes h1 h2]
      simp -implicitDefEqProofs (maxSteps := 5000000) (disch := omega) only [go_sem, h1, h2, if_pos, if_neg, dec_t, dec_f, IntWalk.i64_in, IntWalk.u32_in, IntWalk.u64_in, beq_no]
theorem ceil_ge {a b : Int} (hb : 0 < b) : a / b ≤ -((-a) / b) := by
  have h1 := Int.mul_ediv_add_emod a b
  have h2 := Int.emod_nonneg a (show b ≠ 0 by omega)
  have h3 : (-a) / b ≤ -(a / b) := by
    have : (-a) / b ≤ (b * -(a / b)) / b := Int.ediv_le_ediv hb (by rw [Int.mul_neg]; omega)
    rwa [Int.mul_ediv_cancel_left _ (by omega)] at this
  omega
/-- A number in units, rounded down and rounded up. -/
def lo (q : Rat) : Int := (q * ((65536 : Int) : Rat)).num / ((q * ((65536 : Int) : Rat)).den : Int)
def hi (q : Rat) : Int := -((-(q * ((65536 : Int) : Rat)).num) / ((q * ((65536 : Int) : Rat)).den : Int))
theorem lo_le_hi (q : Rat) : lo q ≤ hi q := ceil_ge (by have := (q * ((65536 : Int) : Rat)).den_pos; omega)
def frF (q : Rat) : Option (Int × Int) := prF (lo q) (hi q)
theorem ll_div {a b : Int} (hb : 0 < b) : ll (a / b) ≤ ll a + 1 := by
  have h0 : (a / b).natAbs ≤ a.natAbs + 1 := by
    have h1 := Int.mul_ediv_add_emod a b
    have h2 := Int.emod_nonneg a (show b ≠ 0 by omega)
    have h3 := Int.emod_lt_of_pos a hb
    rcases Int.lt_or_le a 0 with h | h
    · have h4 : a / b < 0 := Int.ediv_neg_of_neg_of_pos h hb
      have h5 : a ≤ a / b := by
        by_cases hc : a ≤ a / b
        · exact hc
        · have h6 : b * (a / b) ≤ b * (a - 1) := Int.mul_le_mul_of_nonneg_left (by omega) (by omega)
          have h7 : b * a ≤ 1 * a := Int.mul_le_mul_of_nonpos_right (by omega) (by omega)
          rw [Int.mul_sub] at h6
          omega
      omega
    · have h4 : 0 ≤ a / b := Int.ediv_nonneg h (by omega)
      have h5 := Int.ediv_le_self b h
      omega
  refine Nat.le_trans (ll_mono (b := (a.natAbs : Int) + 1) (by omega)) ?_
  have := ll_add (a.natAbs : Int) 1
  have h1 := ll_small (v := 1) (by omega) (by omega)
  rw [ll_natAbs] at this
  by_cases ha : a = 0
  · subst ha
    have := ll_small (v := ((0 : Int).natAbs : Int) + 1) (by simp) (by simp)
    omega
  · have := one_le_ll ha
    omega
theorem fromRat_r {q : Rat} (h : rl q ≤ 100000000) : Rq 160 [.agg (zQ q)] = some (pI (frF q)) := by
  refine RL_of (f := 160) (fn := Tryz.f160) Tryz.func160 rfl rfl rfl (Nat.le_of_ble_eq_true rfl) ?_
  have l6 : rl ((65536 : Int) : Rat) ≤ 1 := Nat.le_trans (rl_int _) (by have := ll_small (v := 65536) (by omega) (by omega); omega)
  have f6 := qFromInt64_r (n := 65536) (by omega) (by omega)
  have mu := qMul_r (a := q) (b := ((65536 : Int) : Rat)) (by omega) (by omega)
  have lx := rl_mul q ((65536 : Int) : Rat)
  have hll := lo_le_hi q
  have hfr : frF q = prF (lo q) (hi q) := rfl
  have hlo : lo q = (q * ((65536 : Int) : Rat)).num / ((q * ((65536 : Int) : Rat)).den : Int) := rfl
  have hhi : hi q = -((-(q * ((65536 : Int) : Rat)).num) / ((q * ((65536 : Int) : Rat)).den : Int)) := rfl
  generalize q * ((65536 : Int) : Rat) = x at *
  have fl := floor_r (q := x) (by omega)
  have ng := qNeg_r (q := x) (by omega)
  have fn := floor_r (q := -x) (by rw [rl_neg]; omega)
  have dp := x.den_pos
  have l1 := rl_num x
  have l2 := ll_div (a := x.num) (b := x.den) (by omega)
  have l3 := ll_div (a := -x.num) (b := x.den) (by omega)
  rw [ll_neg] at l3
  rw [Rat.neg_num, Rat.neg_den] at fn
  have nn := neg_r (a := (-x.num) / (x.den : Int)) (by omega)
  rw [← hhi] at nn
  rw [← hlo] at fl l2
  have pr := proper_r (lo q) (hi q)
  have l4 : ll (hi q) ≤ 200000003 := by rw [hhi, ll_neg]; omega
  have ia := fun k => int64_no (a := lo q) k (by omega)
  have ib := fun k => int64_no (a := hi q) k (by omega)
  have ja := fun k k' => int64_r (a := lo q) k k'
  have jb := fun k k' => int64_r (a := hi q) k k'
  simp only [zI_eq, zQ_eq] at mu fl ng fn nn f6 ia ib ja jb
  simp only [Rat.neg_num, Rat.neg_den] at ng fn
  clear hlo hhi l1 l3 dp
  by_cases k1 : lo q < -9223372036854775808 ∨ 9223372036854775807 < lo q
  · rw [hfr, prF_no (by omega)]
    by_cases k2 : hi q < -9223372036854775808 ∨ 9223372036854775807 < hi q
    · simp -implicitDefEqProofs (maxSteps := 5000000) (disch := omega) only [go_sem, f6, mu, fl, ng, fn, nn, ia k1, ib k2, if_pos, if_neg, dec_t, dec_f, IntWalk.i64_in, IntWalk.u32_in, IntWalk.u64_in, beq_no]
    · simp -implicitDefEqProofs (maxSteps := 5000000) (disch := omega) only [go_sem, f6, mu, fl, ng, fn, nn, ia k1, jb (by omega) (by omega), if_pos, if_neg, dec_t, dec_f, IntWalk.i64_in, IntWalk.u32_in, IntWalk.u64_in, beq_no]
  · by_cases k2 : hi q < -9223372036854775808 ∨ 9223372036854775807 < hi q
    · rw [hfr, prF_no (by omega)]
      simp -implicitDefEqProofs (maxSteps := 5000000) (disch := omega) only [go_sem, f6, mu, fl, ng, fn, nn, ja (by omega) (by omega), ib k2, if_pos, if_neg, dec_t, dec_f, IntWalk.i64_in, IntWalk.u32_in, IntWalk.u64_in, beq_no]
    · rw [hfr]
      by_cases k3 : lo q < -2305843009213693952 ∨ 2305843009213693952 < hi q
      · rw [prF_no k3] at pr ⊢
        simp -implicitDefEqProofs (maxSteps := 5000000) (disch := omega) only [go_sem, f6, mu, fl, ng, fn, nn, ja (by omega) (by omega), jb (by omega) (by omega), pr, if_pos, if_neg, dec_t, dec_f, IntWalk.i64_in, IntWalk.u32_in, IntWalk.u64_in, beq_no]
      · rw [prF_yes (by omega) (by omega)] at pr ⊢
        simp -implicitDefEqProofs (maxSteps := 5000000) (disch := omega) only [go_sem, f6, mu, fl, ng, fn, nn, ja (by omega) (by omega), jb (by omega) (by omega), pr, if_pos, if_neg, dec_t, dec_f, IntWalk.i64_in, IntWalk.u32_in, IntWalk.u64_in, beq_no]
theorem iAdd_r {a b c d : Int} (h1 : -2305843009213693952 ≤ a ∧ a ≤ 2305843009213693952) (h2 : -2305843009213693952 ≤ b ∧ b ≤ 2305843009213693952) (h3 : -2305843009213693952 ≤ c ∧ c ≤ 2305843009213693952) (h4 : -2305843009213693952 ≤ d ∧ d ≤ 2305843009213693952) :
    Rq 163 [.agg [.int .i64 a, .int .i64 b], .agg [.int .i64 c, .int .i64 d]] = some (pI (prF (a + c) (b + d))) := by
  refine RL_of (f := 163) (fn := Tryz.f163) Tryz.func163 rfl rfl rfl (Nat.le_of_ble_eq_true rfl) ?_
  have pr := proper_r (a + c) (b + d)
  by_cases k3 : a + c < -2305843009213693952 ∨ 2305843009213693952 < b + d
  · rw [prF_no k3] at pr ⊢
    simp -implicitDefEqProofs (maxSteps := 5000000) (disch := omega) only [go_sem, pr, if_pos, if_neg, dec_t, dec_f, IntWalk.i64_in, IntWalk.u32_in, IntWalk.u64_in, beq_no]
  · rw [prF_yes (by omega) (by omega)] at pr ⊢
    simp -implicitDefEqProofs (maxSteps := 5000000) (disch := omega) only [go_sem, pr, if_pos, if_neg, dec_t, dec_f, IntWalk.i64_in, IntWalk.u32_in, IntWalk.u64_in, beq_no]
theorem iSign_r (a b : Int) : Rq 165 [.agg [.int .i64 a, .int .i64 b]] = some (.tup [.int .i64 (if 0 < a then 1 else if b < 0 then -1 else 0), .bool (dec (0 < a ∨ b < 0 ∨ a = 0 ∧ b = 0))]) := by
  refine RL_of (f := 165) (fn := Tryz.f165) Tryz.func165 rfl rfl rfl (Nat.le_of_ble_eq_true rfl) ?_
  by_cases h1 : 0 < a
  · simp -implicitDefEqProofs (maxSteps := 5000000) (disch := omega) only [go_sem, h1, if_pos, if_neg, dec_t, dec_f, IntWalk.i64_in, IntWalk.u32_in, IntWalk.u64_in, beq_no]
  · by_cases h2 : b < 0
    · simp -implicitDefEqProofs (maxSteps := 5000000) (disch := omega) only [go_sem, h1, h2, if_pos, if_neg, dec_t, dec_f, IntWalk.i64_in, IntWalk.u32_in, IntWalk.u64_in, beq_no]
    · by_cases h3 : a = 0
      · subst h3
        simp -implicitDefEqProofs (maxSteps := 5000000) (disch := omega) only [go_sem, h2, if_pos, if_neg, dec_t, dec_f, IntWalk.i64_in, IntWalk.u32_in, IntWalk.u64_in, beq_no]
      · simp -implicitDefEqProofs (maxSteps := 5000000) (disch := omega) only [go_sem, h1, h2, h3, if_pos, if_neg, dec_t, dec_f, IntWalk.i64_in, IntWalk.u32_in, IntWalk.u64_in, beq_no]
theorem abs64_r {n : Int} (h0 : -9223372036854775808 ≤ n) (h1 : n ≤ 9223372036854775807) : Rq 179 [.int .i64 n] = some (.int .u64 n.natAbs) := by
  refine RL_of (f := 179) (fn := Tryz.f179) Tryz.func179 rfl rfl rfl (Nat.le_of_ble_eq_true rfl) ?_
  by_cases h : n < 0
  · have w1 : IntKind.u64.wrap n = n + 18446744073709551616 := by rw [wr_u64]; omega
    have w2 : IntKind.u64.wrap (-(n + 18446744073709551616)) = n.natAbs := by rw [wr_u64]; omega
    simp -implicitDefEqProofs (maxSteps := 5000000) (disch := omega) only [go_sem, h, w1, w2, if_pos, if_neg, dec_t, dec_f, IntWalk.i64_in, IntWalk.u32_in, IntWalk.u64_in, beq_no]
  · have w1 : IntKind.u64.wrap n = n.natAbs := by rw [wr_u64]; omega
    simp -implicitDefEqProofs (maxSteps := 5000000) (disch := omega) only [go_sem, h, w1, if_pos, if_neg, dec_t, dec_f, IntWalk.i64_in, IntWalk.u32_in, IntWalk.u64_in, beq_no]
end Go.Pi

set_option linter.unusedVariables false
set_option linter.unusedSimpArgs false
set_option maxHeartbeats 4000000
set_option maxRecDepth 8000
/-
Products of intervals.
-/
namespace Go.Pi
open Go Go.Proofs Num
theorem mul64_law {x0 x1 y0 y1 x y : Int} (hx : x = x1 * 4294967296 + x0) (hy : y = y1 * 4294967296 + y0) :
    x * y = x1 * y1 * 18446744073709551616 + (x1 * y0 + x0 * y1) * 4294967296 + x0 * y0 := by
  subst hx; subst hy; grind
theorem mul_le32 {x y : Int} (h0 : 0 ≤ x) (h1 : x < 4294967296) (h2 : 0 ≤ y) (h3 : y < 4294967296) : 0 ≤ x * y ∧ x * y ≤ 18446744065119617025 := by
  constructor
  · exact Int.mul_nonneg h0 h2
  · have := Int.mul_le_mul (a := x) (b := y) (c := 4294967295) (d := 4294967295) (by omega) (by omega) h2 (by omega)
    omega
theorem mul64_r {x y : Int} (hx0 : 0 ≤ x) (hx1 : x < 18446744073709551616) (hy0 : 0 ≤ y) (hy1 : y < 18446744073709551616) :
    Rq 178 [.int .u64 x, .int .u64 y] = some (.tup [.int .u64 (x * y / 18446744073709551616), .int .u64 (x * y % 18446744073709551616)]) := by
  refine RL_of (f := 178) (fn := Tryz.f178) Tryz.func178 rfl rfl rfl (Nat.le_of_ble_eq_true rfl) ?_
  have w := wr_u64 (x * y)
  have ex : x = x / 4294967296 * 4294967296 + x % 4294967296 := by omega
  have ey : y = y / 4294967296 * 4294967296 + y % 4294967296 := by omega
  have hm := mul64_law ex ey
  have ax := andU_32 hx0 hx1
  have ay := andU_32 hy0 hy1
  have a0 : 0 ≤ x % 4294967296 := by omega
  have a1 : x % 4294967296 < 4294967296 := by omega
  have a2 : 0 ≤ x / 4294967296 := by omega
  have a3 : x / 4294967296 < 4294967296 := by omega
  have b0 : 0 ≤ y % 4294967296 := by omega
  have b1 : y % 4294967296 < 4294967296 := by omega
  have b2 : 0 ≤ y / 4294967296 := by omega
  have b3 : y / 4294967296 < 4294967296 := by omega
  clear ex ey
  have p := fun x y h0 h1 h2 h3 => mul_le32 (x := x) (y := y) h0 h1 h2 h3
  have p00 := p _ _ a0 a1 b0 b1
  have p10 := p _ _ a2 a3 b0 b1
  have p01 := p _ _ a0 a1 b2 b3
  have p11 := p _ _ a2 a3 b2 b3
  generalize hx0' : x % 4294967296 = x0 at *
  generalize hx1' : x / 4294967296 = x1 at *
  generalize hy0' : y % 4294967296 = y0 at *
  generalize hy1' : y / 4294967296 = y1 at *
  clear a0 a1 a2 a3 b0 b1 b2 b3 p
  have w0 := fun k => IntWalk.u64_in (x0 * y0) k
  generalize q00 : x0 * y0 = z00 at *
  generalize q10 : x1 * y0 = z10 at *
  generalize q01 : x0 * y1 = z01 at *
  generalize q11 : x1 * y1 = z11 at *
  have a4 := andU_32 (x := z10 + z00 / 4294967296) (by omega) (by omega)
  simp -implicitDefEqProofs (maxSteps := 5000000) (disch := omega) only [go_sem, ax, ay, hx1', hy1', w, q00, q10, q01, q11, a4, if_pos, if_neg, dec_t, dec_f, IntWalk.i64_in, IntWalk.u32_in, IntWalk.u64_in, beq_no]
  rw [hm]
  have e1 : z11 + (z10 + z00 / 4294967296) / 4294967296 + ((z10 + z00 / 4294967296) % 4294967296 + z01) / 4294967296 = (z11 * 18446744073709551616 + (z10 + z01) * 4294967296 + z00) / 18446744073709551616 := by omega
  rw [e1]
/-- The units of a product, rounded down and rounded up. -/
def sl (x y : Int) : Int := x * y / 65536
def su (x y : Int) : Int := -((-(x * y)) / 65536)
theorem scaled_r {x y : Int} (hx : -2305843009213693952 ≤ x ∧ x ≤ 2305843009213693952) (hy : -2305843009213693952 ≤ y ∧ y ≤ 2305843009213693952) :
    ∃ a b, Rq 177 [.int .i64 x, .int .i64 y] = some (.tup [.int .i64 a, .int .i64 b, .bool (dec (-2305843009213693952 ≤ sl x y ∧ su x y ≤ 2305843009213693952))]) ∧
      (-2305843009213693952 ≤ sl x y ∧ su x y ≤ 2305843009213693952 → a = sl x y ∧ b = su x y) := by
  have ax := abs64_r (n := x) (by omega) (by omega)
  have ay := abs64_r (n := y) (by omega) (by omega)
  have m := mul64_r (x := x.natAbs) (y := y.natAbs) (by omega) (by omega) (by omega) (by omega)
  have hp : (x.natAbs : Int) * y.natAbs = ((x * y).natAbs : Int) := by rw [Int.natAbs_mul]; push_cast; rfl
  rw [hp] at m
  have hb : ((x * y).natAbs : Int) ≤ 5316911983139663491615228241121378304 := by
    rw [← hp]
    exact Int.mul_le_mul (a := x.natAbs) (b := y.natAbs) (c := 2305843009213693952) (d := 2305843009213693952) (by omega) (by omega) (by omega) (by omega)
  have sg : (x < 0 ∧ y < 0 → 0 ≤ x * y) ∧ (¬ x < 0 ∧ ¬ y < 0 → 0 ≤ x * y) ∧ (x < 0 ∧ ¬ y < 0 → x * y ≤ 0) ∧ (¬ x < 0 ∧ y < 0 → x * y ≤ 0) :=
    ⟨fun h => Int.mul_nonneg_of_nonpos_of_nonpos (by omega) (by omega), fun h => Int.mul_nonneg (by omega) (by omega), fun h => Int.mul_nonpos_of_nonpos_of_nonneg (by omega) (by omega), fun h => Int.mul_nonpos_of_nonneg_of_nonpos (by omega) (by omega)⟩
  have hsl : sl x y = x * y / 65536 := rfl
  have hsu : su x y = -((-(x * y)) / 65536) := rfl
  obtain ⟨p, hpp⟩ : ∃ p : Int, p = ((x * y).natAbs : Int) := ⟨_, rfl⟩
  rw [← hpp] at m hb
  have p0 : 0 ≤ p := by omega
  -- signs
  have hc : ((x < 0 ↔ y < 0) ∧ sl x y = p / 65536 ∧ su x y = -((-p) / 65536)) ∨ (¬ (x < 0 ↔ y < 0) ∧ sl x y = (-p) / 65536 ∧ su x y = -(p / 65536)) := by
    rw [hsl, hsu]
    by_cases h1 : x < 0
    · by_cases h2 : y < 0
      · left
        have := sg.1 ⟨h1, h2⟩
        rw [show x * y = p by omega]
        exact ⟨by simp [h1, h2], rfl, rfl⟩
      · right
        have := sg.2.2.1 ⟨h1, h2⟩
        rw [show x * y = -p by omega, Int.neg_neg]
        exact ⟨by simp [h1, h2], rfl, rfl⟩
    · by_cases h2 : y < 0
      · right
        have := sg.2.2.2 ⟨h1, h2⟩
        rw [show x * y = -p by omega, Int.neg_neg]
        exact ⟨by simp [h1, h2], rfl, rfl⟩
      · left
        have := sg.2.1 ⟨h1, h2⟩
        rw [show x * y = p by omega]
        exact ⟨by simp [h1, h2], rfl, rfl⟩
  clear hp sg hsl hsu hpp
  generalize sl x y = l at *
  generalize su x y = u at *
  suffices h : ∃ a b, (fin Pq _ (execL Pq Xq sq cq 177 _ ⟨ini 0 [.int .i64 x, .int .i64 y], mem0⟩)).bind fz = some (.tup [.int .i64 a, .int .i64 b, .bool (dec (-2305843009213693952 ≤ l ∧ u ≤ 2305843009213693952))]) ∧ (-2305843009213693952 ≤ l ∧ u ≤ 2305843009213693952 → a = l ∧ b = u) by
    obtain ⟨a, b, h, h'⟩ := h
    exact ⟨a, b, RL_of (f := 177) (fn := Tryz.f177) Tryz.func177 rfl rfl rfl (Nat.le_of_ble_eq_true rfl) h, h'⟩
  have h16 : p / 18446744073709551616 / 65536 = p / 1208925819614629174706176 := by omega
  by_cases k1 : p / 18446744073709551616 / 65536 = 0
  · have o := orU_48 (a := p / 18446744073709551616) (y := p % 18446744073709551616 / 65536) (by omega) (by omega) (by omega) (by omega)
    have o2 : p / 18446744073709551616 * 281474976710656 + p % 18446744073709551616 / 65536 = p / 65536 := by omega
    rw [o2] at o
    have a16 := andU_16 (x := p % 18446744073709551616) (by omega) (by omega)
    have a17 : p % 18446744073709551616 % 65536 = p % 65536 := by omega
    rw [a17] at a16
    have ws := IntWalk.u64_in (p / 18446744073709551616 * 281474976710656) (by omega)
    by_cases k2 : 2305843009213693952 < p / 65536
    · refine ⟨0, 0, ?_, fun h => by omega⟩
      have : ¬ (-2305843009213693952 ≤ l ∧ u ≤ 2305843009213693952) := by omega
      clear hc
      simp -implicitDefEqProofs (maxSteps := 5000000) (disch := omega) only [go_sem, ax, ay, m, k1, ws, o, k2, dec_f this, if_pos, if_neg, dec_t, dec_f, IntWalk.i64_in, IntWalk.u32_in, IntWalk.u64_in, beq_no]
    · generalize hq : p / 65536 = q at *
      by_cases hr : p % 65536 = 0
      · rw [hr] at a16
        by_cases h1 : x < 0
        · by_cases h2 : y < 0
          · skip
            by_cases ok : -2305843009213693952 ≤ l ∧ u ≤ 2305843009213693952
            · refine ⟨q, q, ?_, fun _ => by omega⟩
              have e1 : -2305843009213693952 ≤ q := by omega
              have e2 : q ≤ 2305843009213693952 := by omega
              rw [dec_t ok]
              first | (exfalso; omega) | (clear hc ok; simp -implicitDefEqProofs (maxSteps := 5000000) (disch := omega) only [go_sem, ax, ay, m, k1, ws, o, k2, a16, h1, h2, hr, if_pos, if_neg, dec_t, dec_f, IntWalk.i64_in, IntWalk.u32_in, IntWalk.u64_in, beq_no])
            · refine ⟨q, q, ?_, fun h => absurd h ok⟩
              rw [dec_f ok]
              by_cases e1 : -2305843009213693952 ≤ q
              · have e2 : ¬ q ≤ 2305843009213693952 := by omega
                first | (exfalso; omega) | (clear hc ok; simp -implicitDefEqProofs (maxSteps := 5000000) (disch := omega) only [go_sem, ax, ay, m, k1, ws, o, k2, a16, h1, h2, hr, if_pos, if_neg, dec_t, dec_f, IntWalk.i64_in, IntWalk.u32_in, IntWalk.u64_in, beq_no])
              · first | (exfalso; omega) | (clear hc ok; simp -implicitDefEqProofs (maxSteps := 5000000) (disch := omega) only [go_sem, ax, ay, m, k1, ws, o, k2, a16, h1, h2, hr, if_pos, if_neg, dec_t, dec_f, IntWalk.i64_in, IntWalk.u32_in, IntWalk.u64_in, beq_no])
          · skip
            by_cases ok : -2305843009213693952 ≤ l ∧ u ≤ 2305843009213693952
            · refine ⟨(-q), (-q), ?_, fun _ => by omega⟩
              have e1 : -2305843009213693952 ≤ (-q) := by omega
              have e2 : (-q) ≤ 2305843009213693952 := by omega
              rw [dec_t ok]
              first | (exfalso; omega) | (clear hc ok; simp -implicitDefEqProofs (maxSteps := 5000000) (disch := omega) only [go_sem, ax, ay, m, k1, ws, o, k2, a16, h1, h2, hr, if_pos, if_neg, dec_t, dec_f, IntWalk.i64_in, IntWalk.u32_in, IntWalk.u64_in, beq_no])
            · refine ⟨(-q), (-q), ?_, fun h => absurd h ok⟩
              rw [dec_f ok]
              by_cases e1 : -2305843009213693952 ≤ (-q)
              · have e2 : ¬ (-q) ≤ 2305843009213693952 := by omega
                first | (exfalso; omega) | (clear hc ok; simp -implicitDefEqProofs (maxSteps := 5000000) (disch := omega) only [go_sem, ax, ay, m, k1, ws, o, k2, a16, h1, h2, hr, if_pos, if_neg, dec_t, dec_f, IntWalk.i64_in, IntWalk.u32_in, IntWalk.u64_in, beq_no])
              · first | (exfalso; omega) | (clear hc ok; simp -implicitDefEqProofs (maxSteps := 5000000) (disch := omega) only [go_sem, ax, ay, m, k1, ws, o, k2, a16, h1, h2, hr, if_pos, if_neg, dec_t, dec_f, IntWalk.i64_in, IntWalk.u32_in, IntWalk.u64_in, beq_no])
        · by_cases h2 : y < 0
          · skip
            by_cases ok : -2305843009213693952 ≤ l ∧ u ≤ 2305843009213693952
            · refine ⟨(-q), (-q), ?_, fun _ => by omega⟩
              have e1 : -2305843009213693952 ≤ (-q) := by omega
              have e2 : (-q) ≤ 2305843009213693952 := by omega
              rw [dec_t ok]
              first | (exfalso; omega) | (clear hc ok; simp -implicitDefEqProofs (maxSteps := 5000000) (disch := omega) only [go_sem, ax, ay, m, k1, ws, o, k2, a16, h1, h2, hr, if_pos, if_neg, dec_t, dec_f, IntWalk.i64_in, IntWalk.u32_in, IntWalk.u64_in, beq_no])
            · refine ⟨(-q), (-q), ?_, fun h => absurd h ok⟩
              rw [dec_f ok]
              by_cases e1 : -2305843009213693952 ≤ (-q)
              · have e2 : ¬ (-q) ≤ 2305843009213693952 := by omega
                first | (exfalso; omega) | (clear hc ok; simp -implicitDefEqProofs (maxSteps := 5000000) (disch := omega) only [go_sem, ax, ay, m, k1, ws, o, k2, a16, h1, h2, hr, if_pos, if_neg, dec_t, dec_f, IntWalk.i64_in, IntWalk.u32_in, IntWalk.u64_in, beq_no])
              · first | (exfalso; omega) | (clear hc ok; simp -implicitDefEqProofs (maxSteps := 5000000) (disch := omega) only [go_sem, ax, ay, m, k1, ws, o, k2, a16, h1, h2, hr, if_pos, if_neg, dec_t, dec_f, IntWalk.i64_in, IntWalk.u32_in, IntWalk.u64_in, beq_no])
          · skip
            by_cases ok : -2305843009213693952 ≤ l ∧ u ≤ 2305843009213693952
            · refine ⟨q, q, ?_, fun _ => by omega⟩
              have e1 : -2305843009213693952 ≤ q := by omega
              have e2 : q ≤ 2305843009213693952 := by omega
              rw [dec_t ok]
              first | (exfalso; omega) | (clear hc ok; simp -implicitDefEqProofs (maxSteps := 5000000) (disch := omega) only [go_sem, ax, ay, m, k1, ws, o, k2, a16, h1, h2, hr, if_pos, if_neg, dec_t, dec_f, IntWalk.i64_in, IntWalk.u32_in, IntWalk.u64_in, beq_no])
            · refine ⟨q, q, ?_, fun h => absurd h ok⟩
              rw [dec_f ok]
              by_cases e1 : -2305843009213693952 ≤ q
              · have e2 : ¬ q ≤ 2305843009213693952 := by omega
                first | (exfalso; omega) | (clear hc ok; simp -implicitDefEqProofs (maxSteps := 5000000) (disch := omega) only [go_sem, ax, ay, m, k1, ws, o, k2, a16, h1, h2, hr, if_pos, if_neg, dec_t, dec_f, IntWalk.i64_in, IntWalk.u32_in, IntWalk.u64_in, beq_no])
              · first | (exfalso; omega) | (clear hc ok; simp -implicitDefEqProofs (maxSteps := 5000000) (disch := omega) only [go_sem, ax, ay, m, k1, ws, o, k2, a16, h1, h2, hr, if_pos, if_neg, dec_t, dec_f, IntWalk.i64_in, IntWalk.u32_in, IntWalk.u64_in, beq_no])
      · skip
        by_cases h1 : x < 0
        · by_cases h2 : y < 0
          · skip
            by_cases ok : -2305843009213693952 ≤ l ∧ u ≤ 2305843009213693952
            · refine ⟨q, (q + 1), ?_, fun _ => by omega⟩
              have e1 : -2305843009213693952 ≤ q := by omega
              have e2 : (q + 1) ≤ 2305843009213693952 := by omega
              rw [dec_t ok]
              first | (exfalso; omega) | (clear hc ok; simp -implicitDefEqProofs (maxSteps := 5000000) (disch := omega) only [go_sem, ax, ay, m, k1, ws, o, k2, a16, h1, h2, hr, if_pos, if_neg, dec_t, dec_f, IntWalk.i64_in, IntWalk.u32_in, IntWalk.u64_in, beq_no])
            · refine ⟨q, (q + 1), ?_, fun h => absurd h ok⟩
              rw [dec_f ok]
              by_cases e1 : -2305843009213693952 ≤ q
              · have e2 : ¬ (q + 1) ≤ 2305843009213693952 := by omega
                first | (exfalso; omega) | (clear hc ok; simp -implicitDefEqProofs (maxSteps := 5000000) (disch := omega) only [go_sem, ax, ay, m, k1, ws, o, k2, a16, h1, h2, hr, if_pos, if_neg, dec_t, dec_f, IntWalk.i64_in, IntWalk.u32_in, IntWalk.u64_in, beq_no])
              · first | (exfalso; omega) | (clear hc ok; simp -implicitDefEqProofs (maxSteps := 5000000) (disch := omega) only [go_sem, ax, ay, m, k1, ws, o, k2, a16, h1, h2, hr, if_pos, if_neg, dec_t, dec_f, IntWalk.i64_in, IntWalk.u32_in, IntWalk.u64_in, beq_no])
          · skip
            by_cases ok : -2305843009213693952 ≤ l ∧ u ≤ 2305843009213693952
            · refine ⟨(-(q + 1)), (-q), ?_, fun _ => by omega⟩
              have e1 : -2305843009213693952 ≤ (-(q + 1)) := by omega
              have e2 : (-q) ≤ 2305843009213693952 := by omega
              rw [dec_t ok]
              first | (exfalso; omega) | (clear hc ok; simp -implicitDefEqProofs (maxSteps := 5000000) (disch := omega) only [go_sem, ax, ay, m, k1, ws, o, k2, a16, h1, h2, hr, if_pos, if_neg, dec_t, dec_f, IntWalk.i64_in, IntWalk.u32_in, IntWalk.u64_in, beq_no])
            · refine ⟨(-(q + 1)), (-q), ?_, fun h => absurd h ok⟩
              rw [dec_f ok]
              by_cases e1 : -2305843009213693952 ≤ (-(q + 1))
              · have e2 : ¬ (-q) ≤ 2305843009213693952 := by omega
                first | (exfalso; omega) | (clear hc ok; simp -implicitDefEqProofs (maxSteps := 5000000) (disch := omega) only [go_sem, ax, ay, m, k1, ws, o, k2, a16, h1, h2, hr, if_pos, if_neg, dec_t, dec_f, IntWalk.i64_in, IntWalk.u32_in, IntWalk.u64_in, beq_no])
              · first | (exfalso; omega) | (clear hc ok; simp -implicitDefEqProofs (maxSteps := 5000000) (disch := omega) only [go_sem, ax, ay, m, k1, ws, o, k2, a16, h1, h2, hr, if_pos, if_neg, dec_t, dec_f, IntWalk.i64_in, IntWalk.u32_in, IntWalk.u64_in, beq_no])
        · by_cases h2 : y < 0
          · skip
            by_cases ok : -2305843009213693952 ≤ l ∧ u ≤ 2305843009213693952
            · refine ⟨(-(q + 1)), (-q), ?_, fun _ => by omega⟩
              have e1 : -2305843009213693952 ≤ (-(q + 1)) := by omega
              have e2 : (-q) ≤ 2305843009213693952 := by omega
              rw [dec_t ok]
              first | (exfalso; omega) | (clear hc ok; simp -implicitDefEqProofs (maxSteps := 5000000) (disch := omega) only [go_sem, ax, ay, m, k1, ws, o, k2, a16, h1, h2, hr, if_pos, if_neg, dec_t, dec_f, IntWalk.i64_in, IntWalk.u32_in, IntWalk.u64_in, beq_no])
            · refine ⟨(-(q + 1)), (-q), ?_, fun h => absurd h ok⟩
              rw [dec_f ok]
              by_cases e1 : -2305843009213693952 ≤ (-(q + 1))
              · have e2 : ¬ (-q) ≤ 2305843009213693952 := by omega
                first | (exfalso; omega) | (clear hc ok; simp -implicitDefEqProofs (maxSteps := 5000000) (disch := omega) only [go_sem, ax, ay, m, k1, ws, o, k2, a16, h1, h2, hr, if_pos, if_neg, dec_t, dec_f, IntWalk.i64_in, IntWalk.u32_in, IntWalk.u64_in, beq_no])
              · first | (exfalso; omega) | (clear hc ok; simp -implicitDefEqProofs (maxSteps := 5000000) (disch := omega) only [go_sem, ax, ay, m, k1, ws, o, k2, a16, h1, h2, hr, if_pos, if_neg, dec_t, dec_f, IntWalk.i64_in, IntWalk.u32_in, IntWalk.u64_in, beq_no])
          · skip
            by_cases ok : -2305843009213693952 ≤ l ∧ u ≤ 2305843009213693952
            · refine ⟨q, (q + 1), ?_, fun _ => by omega⟩
              have e1 : -2305843009213693952 ≤ q := by omega
              have e2 : (q + 1) ≤ 2305843009213693952 := by omega
              rw [dec_t ok]
              first | (exfalso; omega) | (clear hc ok; simp -implicitDefEqProofs (maxSteps := 5000000) (disch := omega) only [go_sem, ax, ay, m, k1, ws, o, k2, a16, h1, h2, hr, if_pos, if_neg, dec_t, dec_f, IntWalk.i64_in, IntWalk.u32_in, IntWalk.u64_in, beq_no])
            · refine ⟨q, (q + 1), ?_, fun h => absurd h ok⟩
              rw [dec_f ok]
              by_cases e1 : -2305843009213693952 ≤ q
              · have e2 : ¬ (q + 1) ≤ 2305843009213693952 := by omega
                first | (exfalso; omega) | (clear hc ok; simp -implicitDefEqProofs (maxSteps := 5000000) (disch := omega) only [go_sem, ax, ay, m, k1, ws, o, k2, a16, h1, h2, hr, if_pos, if_neg, dec_t, dec_f, IntWalk.i64_in, IntWalk.u32_in, IntWalk.u64_in, beq_no])
              · first | (exfalso; omega) | (clear hc ok; simp -implicitDefEqProofs (maxSteps := 5000000) (disch := omega) only [go_sem, ax, ay, m, k1, ws, o, k2, a16, h1, h2, hr, if_pos, if_neg, dec_t, dec_f, IntWalk.i64_in, IntWalk.u32_in, IntWalk.u64_in, beq_no])
  · refine ⟨0, 0, ?_, fun h => by omega⟩
    have : ¬ (-2305843009213693952 ≤ l ∧ u ≤ 2305843009213693952) := by omega
    clear hc
    simp -implicitDefEqProofs (maxSteps := 5000000) (disch := omega) only [go_sem, ax, ay, m, k1, dec_f this, if_pos, if_neg, dec_t, dec_f, IntWalk.i64_in, IntWalk.u32_in, IntWalk.u64_in, beq_no]
end Go.Pi

set_option linter.unusedVariables false
set_option linter.unusedSimpArgs false
set_option maxHeartbeats 4000000
set_option maxRecDepth 8000
/-
Products of intervals, whole; square roots of intervals.
-/
namespace Go.Pi
open Go Go.Proofs Num
def okS (x y : Int) : Prop := -2305843009213693952 ≤ sl x y ∧ su x y ≤ 2305843009213693952
open Classical in
/-- The products of the ends. -/
noncomputable def muF (a b : Int × Int) : Option (Int × Int) :=
  if okS a.1 b.1 ∧ okS a.1 b.2 ∧ okS a.2 b.1 ∧ okS a.2 b.2 then some (min (min (min (min 2305843009213693952 (sl a.1 b.1)) (sl a.1 b.2)) (sl a.2 b.1)) (sl a.2 b.2), max (max (max (max (-2305843009213693952) (su a.1 b.1)) (su a.1 b.2)) (su a.2 b.1)) (su a.2 b.2)) else none
theorem muF_no {a b : Int × Int} (h : ¬ (okS a.1 b.1 ∧ okS a.1 b.2 ∧ okS a.2 b.1 ∧ okS a.2 b.2)) : muF a b = none := by
  unfold muF; rw [if_neg h]
theorem muF_yes {a b : Int × Int} (h : okS a.1 b.1 ∧ okS a.1 b.2 ∧ okS a.2 b.1 ∧ okS a.2 b.2) : muF a b = some (min (min (min (min 2305843009213693952 (sl a.1 b.1)) (sl a.1 b.2)) (sl a.2 b.1)) (sl a.2 b.2), max (max (max (max (-2305843009213693952) (su a.1 b.1)) (su a.1 b.2)) (su a.2 b.1)) (su a.2 b.2)) := by
  unfold muF; rw [if_pos h]
theorem scaled_yes {x y : Int} (hx : -2305843009213693952 ≤ x ∧ x ≤ 2305843009213693952) (hy : -2305843009213693952 ≤ y ∧ y ≤ 2305843009213693952) (h : okS x y) : Rq 177 [.int .i64 x, .int .i64 y] = some (.tup [.int .i64 (sl x y), .int .i64 (su x y), .bool true]) := by
  obtain ⟨a, b, h1, h2⟩ := scaled_r hx hy
  rw [dec_t (show -2305843009213693952 ≤ sl x y ∧ su x y ≤ 2305843009213693952 from h)] at h1
  obtain ⟨rfl, rfl⟩ := h2 h
  exact h1
theorem scaled_no {x y : Int} (hx : -2305843009213693952 ≤ x ∧ x ≤ 2305843009213693952) (hy : -2305843009213693952 ≤ y ∧ y ≤ 2305843009213693952) (h : ¬ okS x y) : ∃ a b, Rq 177 [.int .i64 x, .int .i64 y] = some (.tup [.int .i64 a, .int .i64 b, .bool false]) := by
  obtain ⟨a, b, h1, h2⟩ := scaled_r hx hy
  rw [dec_f (show ¬ (-2305843009213693952 ≤ sl x y ∧ su x y ≤ 2305843009213693952) from h)] at h1
  exact ⟨a, b, h1⟩
@[go_sem] theorem ti_i64s : ti Pq 169 = some ⟨.slice 2, 1, 24, [.sl true []]⟩ := by kernel_rfl
theorem iMul_r {a b : Int × Int} (h1 : -2305843009213693952 ≤ a.1 ∧ a.1 ≤ 2305843009213693952) (h2 : -2305843009213693952 ≤ a.2 ∧ a.2 ≤ 2305843009213693952) (h3 : -2305843009213693952 ≤ b.1 ∧ b.1 ≤ 2305843009213693952) (h4 : -2305843009213693952 ≤ b.2 ∧ b.2 ≤ 2305843009213693952) :
    Rq 162 [.agg [.int .i64 a.1, .int .i64 a.2], .agg [.int .i64 b.1, .int .i64 b.2]] = some (pI (muF a b)) := by
  refine RL_of (f := 162) (fn := Tryz.f162) Tryz.func162 rfl rfl rfl (Nat.le_of_ble_eq_true rfl) ?_
  obtain ⟨x, y⟩ := a
  obtain ⟨u, v⟩ := b
  dsimp only at h1 h2 h3 h4 ⊢
  have n0 := fun h => muF_no (a := (x, y)) (b := (u, v)) h
  have n1 := fun h => muF_yes (a := (x, y)) (b := (u, v)) h
  dsimp only at n0 n1
  by_cases k1 : okS x u
  · have s1 := scaled_yes h1 h3 k1
    by_cases k2 : okS x v
    · have s2 := scaled_yes h1 h4 k2
      by_cases k3 : okS y u
      · have s3 := scaled_yes h2 h3 k3
        by_cases k4 : okS y v
        · have s4 := scaled_yes h2 h4 k4
          rw [n1 ⟨k1, k2, k3, k4⟩]
          simp -implicitDefEqProofs (disch := omega) only [go_sem, xL_loop, lpE_normal, lpE_exit, lpE_ret, s1, s2, s3, s4, if_pos, if_neg, dec_t, dec_f, IntWalk.i64_in, beq_no]
        · obtain ⟨p, q, s4⟩ := scaled_no h2 h4 k4
          rw [n0 (fun h => k4 h.2.2.2)]
          simp -implicitDefEqProofs (disch := omega) only [go_sem, xL_loop, lpE_normal, lpE_exit, lpE_ret, s1, s2, s3, s4, if_pos, if_neg, dec_t, dec_f, IntWalk.i64_in, beq_no]
      · obtain ⟨p, q, s3⟩ := scaled_no h2 h3 k3
        rw [n0 (fun h => k3 h.2.2.1)]
        simp -implicitDefEqProofs (disch := omega) only [go_sem, xL_loop, lpE_normal, lpE_exit, lpE_ret, s1, s2, s3, if_pos, if_neg, dec_t, dec_f, IntWalk.i64_in, beq_no]
    · obtain ⟨p, q, s2⟩ := scaled_no h1 h4 k2
      rw [n0 (fun h => k2 h.2.1)]
      simp -implicitDefEqProofs (disch := omega) only [go_sem, xL_loop, lpE_normal, lpE_exit, lpE_ret, s1, s2, if_pos, if_neg, dec_t, dec_f, IntWalk.i64_in, beq_no]
  · obtain ⟨p, q, s1⟩ := scaled_no h1 h3 k1
    rw [n0 (fun h => k1 h.1)]
    simp -implicitDefEqProofs (disch := omega) only [go_sem, xL_loop, lpE_normal, lpE_exit, lpE_ret, s1, if_pos, if_neg, dec_t, dec_f, IntWalk.i64_in, beq_no]
theorem rt_ex : ∀ n : Nat, ∃ x : Int, 0 ≤ x ∧ x * x ≤ (n : Int) ∧ (n : Int) < (x + 1) * (x + 1)
  | 0 => ⟨0, by omega, by omega, by omega⟩
  | n + 1 => by
    obtain ⟨x, h0, h1, h2⟩ := rt_ex n
    by_cases h : ((n + 1 : Nat) : Int) < (x + 1) * (x + 1)
    · exact ⟨x, h0, by omega, h⟩
    · refine ⟨x + 1, by omega, by omega, ?_⟩
      have : (x + 1 + 1) * (x + 1 + 1) = (x + 1) * (x + 1) + 2 * x + 3 := by grind
      omega
theorem rt_spec {a : Int} (h : 0 ≤ a) : rt a * rt a ≤ a ∧ a < (rt a + 1) * (rt a + 1) := by
  obtain ⟨x, h0, h1, h2⟩ := rt_ex a.toNat
  rw [show ((a.toNat : Nat) : Int) = a by omega] at h1 h2
  rw [rt_eq h0 h1 h2]
  exact ⟨h1, h2⟩
theorem rt_small {n : Int} (h0 : 0 ≤ n) (h1 : n ≤ 2305843009213693952) : rt (n * 65536) < 549755813888 := by
  have h2 := (rt_spec (a := n * 65536) (by omega)).1
  by_cases h : rt (n * 65536) < 549755813888
  · exact h
  · have := Int.mul_le_mul (a := 549755813888) (b := 549755813888) (c := rt (n * 65536)) (d := rt (n * 65536)) (by omega) (by omega) (by omega) (by omega)
    omega
theorem iroot_r {n : Int} (h0 : 0 ≤ n) (h1 : n ≤ 2305843009213693952) : Rq 176 [.int .i64 n] = some (.tup [.int .i64 (rt (n * 65536)), .bool (dec (rt (n * 65536) * rt (n * 65536) = n * 65536))]) := by
  refine RL_of (f := 176) (fn := Tryz.f176) Tryz.func176 rfl rfl rfl (Nat.le_of_ble_eq_true rfl) ?_
  have f1 := fromInt64_r (n := n) (by omega) (by omega)
  have f2 := fromInt64_r (n := 65536) (by omega) (by omega)
  have l1 : ll n ≤ 3 := ll_le (by simp only [pw]; omega) (by simp only [pw]; omega)
  have l2 := ll_small (v := 65536) (by omega) (by omega)
  have l3 : ll (n * 65536) ≤ 3 := ll_le (by simp only [pw]; omega) (by simp only [pw]; omega)
  have m1 := mul_r (a := n) (b := 65536) (by omega) (by omega)
  have rn := rt_nn (n * 65536)
  have rb' := rt_small (n := n) h0 h1
  have rb : rt (n * 65536) ≤ 9223372036854775807 := by omega
  have sq : Rq 155 [.agg (zI (n * 65536))] = some (.tup [.agg (zI (rt (n * 65536))), .int .i64 0]) := by
    by_cases hz : n = 0
    · subst hz
      have : rt (0 * 65536) = 0 := rt_eq (by omega) (by omega) (by omega)
      rw [this, Int.zero_mul]
      exact sqrt_zero
    · exact sqrt_r (by omega) (by omega)
  have l4 : ll (rt (n * 65536)) ≤ 3 := ll_le (by simp only [pw]; omega) (by simp only [pw]; omega)
  have i1 := int64_r (a := rt (n * 65536)) (by omega) rb
  have m2 := mul_r (a := rt (n * 65536)) (b := rt (n * 65536)) (by omega) (by omega)
  have l5 := ll_mul (rt (n * 65536)) (rt (n * 65536))
  have c1 := cmp_r (a := rt (n * 65536) * rt (n * 65536)) (b := n * 65536) (by omega) (by omega)
  generalize rt (n * 65536) = r at *
  have hd : dec ((r * r - n * 65536).sign = 0) = dec (r * r = n * 65536) := by
    by_cases h : r * r = n * 65536
    · rw [dec_t h, dec_t (by rw [Int.sign_eq_zero_iff_zero]; omega)]
    · rw [dec_f h, dec_f (by rw [Int.sign_eq_zero_iff_zero]; omega)]
  simp only [zI_eq] at f1 f2 m1 sq i1 m2 c1
  simp -implicitDefEqProofs (maxSteps := 5000000) (disch := omega) only [go_sem, f1, f2, m1, sq, i1, m2, c1, hd, if_pos, if_neg, dec_t, dec_f, IntWalk.i64_in, IntWalk.u32_in, IntWalk.u64_in, beq_no]
/-- The square root of an interval. -/
noncomputable def sqF (a : Int × Int) : Option (Int × Int) :=
  if a.2 < 0 then none else prF (rt (max a.1 0 * 65536)) (if rt (a.2 * 65536) * rt (a.2 * 65536) = a.2 * 65536 then rt (a.2 * 65536) else rt (a.2 * 65536) + 1)
theorem iSqrt_r {a : Int × Int} (h1 : -2305843009213693952 ≤ a.1 ∧ a.1 ≤ 2305843009213693952) (h2 : -2305843009213693952 ≤ a.2 ∧ a.2 ≤ 2305843009213693952) :
    Rq 161 [.agg [.int .i64 a.1, .int .i64 a.2]] = some (pI (sqF a)) := by
  refine RL_of (f := 161) (fn := Tryz.f161) Tryz.func161 rfl rfl rfl (Nat.le_of_ble_eq_true rfl) ?_
  obtain ⟨x, y⟩ := a
  dsimp only at h1 h2 ⊢
  unfold sqF
  dsimp only
  by_cases k : y < 0
  · rw [if_pos k]
    simp -implicitDefEqProofs (maxSteps := 5000000) (disch := omega) only [go_sem, k, if_pos, if_neg, dec_t, dec_f, IntWalk.i64_in, IntWalk.u32_in, IntWalk.u64_in, beq_no]
  · rw [if_neg k]
    have i1 := iroot_r (n := max x 0) (by omega) (by omega)
    have i2 := iroot_r (n := y) (by omega) (by omega)
    have r1 := rt_small (n := max x 0) (by omega) (by omega)
    have r2 := rt_small (n := y) (by omega) (by omega)
    have n1 := rt_nn (max x 0 * 65536)
    have n2 := rt_nn (y * 65536)
    by_cases e : rt (y * 65536) * rt (y * 65536) = y * 65536
    · rw [if_pos e]
      rw [dec_t e] at i2
      have pr := proper_r (rt (max x 0 * 65536)) (rt (y * 65536))
      generalize rt (max x 0 * 65536) = p at *
      generalize rt (y * 65536) = q at *
      rw [prF_yes (by omega) (by omega)] at pr ⊢
      clear e
      simp -implicitDefEqProofs (maxSteps := 5000000) (disch := omega) only [go_sem, k, i1, i2, pr, if_pos, if_neg, dec_t, dec_f, IntWalk.i64_in, IntWalk.u32_in, IntWalk.u64_in, beq_no]
    · rw [if_neg e]
      rw [dec_f e] at i2
      have pr := proper_r (rt (max x 0 * 65536)) (rt (y * 65536) + 1)
      generalize rt (max x 0 * 65536) = p at *
      generalize rt (y * 65536) = q at *
      rw [prF_yes (by omega) (by omega)] at pr ⊢
      clear e
      simp -implicitDefEqProofs (maxSteps := 5000000) (disch := omega) only [go_sem, k, i1, i2, pr, if_pos, if_neg, dec_t, dec_f, IntWalk.i64_in, IntWalk.u32_in, IntWalk.u64_in, beq_no]
end Go.Pi

set_option linter.unusedVariables false
set_option linter.unusedSimpArgs false
set_option maxHeartbeats 4000000
set_option maxRecDepth 8000
/-
Intervals of roots, sides.
-/
namespace Go.Pi
open Go Go.Proofs Num
def z4 : List PV := [.bool false, .sl true [], .bool false, .sl true []]
@[go_sem] theorem ti_Root : ti Pq 39 = some ⟨.struct [(0, 4), (4, 4), (8, 4)], 12, 192, [.bool false, .sl true [], .bool false, .sl true [], .bool false, .sl true [], .bool false, .sl true [], .bool false, .sl true [], .bool false, .sl true []]⟩ := by kernel_rfl
/-- An interval is proper. -/
def Pr (i : Int × Int) : Prop := -2305843009213693952 ≤ i.1 ∧ i.1 ≤ i.2 ∧ i.2 ≤ 2305843009213693952
theorem prF_pr {l h : Int} {i : Int × Int} (hp : prF l h = some i) (hl : l ≤ h) : Pr i ∧ i = (l, h) := by
  unfold prF at hp
  split at hp
  · cases hp
  · rename_i k
    simp only [Option.some.injEq] at hp
    subst hp
    exact ⟨⟨by dsimp only; omega, hl, by dsimp only; omega⟩, rfl⟩
theorem frF_pr {q : Rat} {i : Int × Int} (h : frF q = some i) : Pr i ∧ i = (lo q, hi q) := prF_pr h (lo_le_hi q)
theorem rt_mono {a b : Int} (h0 : 0 ≤ a) (h : a ≤ b) : rt a ≤ rt b := by
  have h1 := rt_spec h0
  have h2 := rt_spec (show 0 ≤ b by omega)
  have h3 := rt_nn b
  by_cases hc : rt a ≤ rt b
  · exact hc
  · have := Int.mul_le_mul (a := rt b + 1) (b := rt b + 1) (c := rt a) (d := rt a) (by omega) (by omega) (by omega) (by omega)
    omega
theorem sqF_pr {a i : Int × Int} (ha : Pr a) (h : sqF a = some i) : Pr i := by
  unfold sqF at h
  split at h
  · cases h
  · rename_i k
    refine (prF_pr h ?_).1
    have := rt_mono (a := max a.1 0 * 65536) (b := a.2 * 65536) (by omega) (by have := ha.2.1; omega)
    split <;> omega
theorem muF_pr {a b i : Int × Int} (h : muF a b = some i) : Pr i := by
  by_cases k : okS a.1 b.1 ∧ okS a.1 b.2 ∧ okS a.2 b.1 ∧ okS a.2 b.2
  · rw [muF_yes k] at h
    simp only [Option.some.injEq] at h
    subst h
    obtain ⟨k1, k2, k3, k4⟩ := k
    have c : ∀ x y : Int, sl x y ≤ su x y := fun x y => ceil_ge (by omega)
    have c1 := c a.1 b.1
    have c2 := c a.1 b.2
    have c3 := c a.2 b.1
    have c4 := c a.2 b.2
    unfold okS at k1 k2 k3 k4
    refine ⟨?_, ?_, ?_⟩ <;> dsimp only <;> omega
  · rw [muF_no k] at h; cases h
/-- The interval of a root's value. -/
noncomputable def roF (A B C : Rat) : Option (Int × Int) := match frF A with
  | none => none
  | some a => if B.num = 0 then some a else match frF B, frF C with
    | some b, some c => if C.num < 0 then none else match sqF c with
      | none => none
      | some s => match muF b s with
        | none => none
        | some m => prF (a.1 + m.1) (a.2 + m.2)
    | _, _ => none
theorem roF_pr {A B C : Rat} {i : Int × Int} (h : roF A B C = some i) : Pr i := by
  unfold roF at h
  split at h
  · cases h
  · rename_i a ha
    split at h
    · simp only [Option.some.injEq] at h
      subst h
      exact (frF_pr ha).1
    · split at h
      · split at h
        · cases h
        · split at h
          · cases h
          · split at h
            · cases h
            · rename_i m hm
              have p1 := (frF_pr ha).1
              have p2 := muF_pr hm
              exact (prF_pr h (by have := p1.2.1; have := p2.2.1; omega)).1
      · cases h
/-- A root's cells. -/
def zR (A B C : Rat) : List PV := zQ A ++ zQ B ++ zQ C
@[go_sem] theorem zR_eq (A B C : Rat) : zR A B C = [.bool (ng A.num), .sl false (us (lm A.num)), .bool false, .sl false (us (lm (A.den : Int))), .bool (ng B.num), .sl false (us (lm B.num)), .bool false, .sl false (us (lm (B.den : Int))), .bool (ng C.num), .sl false (us (lm C.num)), .bool false, .sl false (us (lm (C.den : Int)))] := by
  simp only [zR, zQ_eq]; rfl
theorem iRoot_r {A B C : Rat} (hA : rl A ≤ 100000000) (hB : rl B ≤ 100000000) (hC : rl C ≤ 100000000) : Rq 137 [.agg (zR A B C)] = some (pI (roF A B C)) := by
  refine RL_of (f := 137) (fn := Tryz.f137) Tryz.func137 rfl rfl rfl (Nat.le_of_ble_eq_true rfl) ?_
  have fa := fromRat_r hA
  have fb := fromRat_r hB
  have fc := fromRat_r hC
  have sb := qSign_r (q := B) (by omega)
  have sc := qSign_r (q := C) (by omega)
  simp only [zQ_eq] at fa fb fc sb sc
  have eB : dec (B.num.sign = 0) = dec (B.num = 0) := by
    by_cases h : B.num = 0
    · rw [dec_t h, dec_t (by rw [Int.sign_eq_zero_iff_zero]; exact h)]
    · rw [dec_f h, dec_f (by rw [Int.sign_eq_zero_iff_zero]; exact h)]
  have eC : dec (C.num.sign < 0) = dec (C.num < 0) := by
    by_cases h : C.num < 0
    · rw [dec_t h, dec_t (by rw [Int.sign_neg_iff]; exact h)]
    · rw [dec_f h, dec_f (by rw [Int.sign_neg_iff]; exact h)]
  unfold roF
  cases ha : frF A with
  | none =>
    rw [ha] at fa
    simp -implicitDefEqProofs (maxSteps := 5000000) (disch := omega) only [go_sem, fa, if_pos, if_neg, dec_t, dec_f, IntWalk.i64_in, IntWalk.u32_in, IntWalk.u64_in, beq_no]
  | some a =>
    have pa := (frF_pr ha).1
    obtain ⟨a1, a2⟩ := a
    rw [ha] at fa
    dsimp only
    by_cases kb : B.num = 0
    · rw [if_pos kb]
      rw [dec_t kb] at eB
      simp -implicitDefEqProofs (maxSteps := 5000000) (disch := omega) only [go_sem, fa, sb, eB, if_pos, if_neg, dec_t, dec_f, IntWalk.i64_in, IntWalk.u32_in, IntWalk.u64_in, beq_no]
    · rw [if_neg kb]
      rw [dec_f kb] at eB
      cases hb : frF B with
      | none =>
        rw [hb] at fb
        cases hc : frF C with
        | none => rw [hc] at fc; simp -implicitDefEqProofs (maxSteps := 5000000) (disch := omega) only [go_sem, fa, sb, eB, fb, fc, if_pos, if_neg, dec_t, dec_f, IntWalk.i64_in, IntWalk.u32_in, IntWalk.u64_in, beq_no]
        | some c => obtain ⟨c1, c2⟩ := c; rw [hc] at fc; simp -implicitDefEqProofs (maxSteps := 5000000) (disch := omega) only [go_sem, fa, sb, eB, fb, fc, if_pos, if_neg, dec_t, dec_f, IntWalk.i64_in, IntWalk.u32_in, IntWalk.u64_in, beq_no]
      | some b =>
        have pb := (frF_pr hb).1
        obtain ⟨b1, b2⟩ := b
        rw [hb] at fb
        cases hc : frF C with
        | none => rw [hc] at fc; simp -implicitDefEqProofs (maxSteps := 5000000) (disch := omega) only [go_sem, fa, sb, eB, fb, fc, if_pos, if_neg, dec_t, dec_f, IntWalk.i64_in, IntWalk.u32_in, IntWalk.u64_in, beq_no]
        | some c =>
          have pc := (frF_pr hc).1
          obtain ⟨c1, c2⟩ := c
          rw [hc] at fc
          dsimp only
          by_cases kc : C.num < 0
          · rw [if_pos kc]
            rw [dec_t kc] at eC
            simp -implicitDefEqProofs (maxSteps := 5000000) (disch := omega) only [go_sem, fa, sb, eB, fb, fc, sc, eC, if_pos, if_neg, dec_t, dec_f, IntWalk.i64_in, IntWalk.u32_in, IntWalk.u64_in, beq_no]
          · rw [if_neg kc]
            rw [dec_f kc] at eC
            have sq := iSqrt_r (a := (c1, c2)) ⟨pc.1, by have := pc.2; omega⟩ ⟨by have := pc.1; have := pc.2; omega, pc.2.2⟩
            dsimp only at sq
            try dsimp only
            cases hs : sqF (c1, c2) with
            | none => rw [hs] at sq; simp -implicitDefEqProofs (maxSteps := 5000000) (disch := omega) only [go_sem, fa, sb, eB, fb, fc, sc, eC, sq, if_pos, if_neg, dec_t, dec_f, IntWalk.i64_in, IntWalk.u32_in, IntWalk.u64_in, beq_no]
            | some s =>
              have ps := sqF_pr pc hs
              obtain ⟨s1, s2⟩ := s
              rw [hs] at sq
              have mu := iMul_r (a := (b1, b2)) (b := (s1, s2)) ⟨pb.1, by have := pb.2; omega⟩ ⟨by have := pb.1; have := pb.2; omega, pb.2.2⟩ ⟨ps.1, by have := ps.2; omega⟩ ⟨by have := ps.1; have := ps.2; omega, ps.2.2⟩
              dsimp only at mu
              try dsimp only
              cases hm : muF (b1, b2) (s1, s2) with
              | none => rw [hm] at mu; simp -implicitDefEqProofs (maxSteps := 5000000) (disch := omega) only [go_sem, fa, sb, eB, fb, fc, sc, eC, sq, mu, if_pos, if_neg, dec_t, dec_f, IntWalk.i64_in, IntWalk.u32_in, IntWalk.u64_in, beq_no]
              | some m =>
                have pm := muF_pr hm
                obtain ⟨m1, m2⟩ := m
                rw [hm] at mu
                have ad := iAdd_r (a := a1) (b := a2) (c := m1) (d := m2) ⟨pa.1, by have := pa.2; dsimp only at this; omega⟩ ⟨by have := pa.1; have := pa.2; dsimp only at *; omega, pa.2.2⟩ ⟨pm.1, by have := pm.2; dsimp only at this; omega⟩ ⟨by have := pm.1; have := pm.2; dsimp only at *; omega, pm.2.2⟩
                dsimp only
                cases hr : prF (a1 + m1) (a2 + m2) with
                | none => rw [hr] at ad; simp -implicitDefEqProofs (maxSteps := 5000000) (disch := omega) only [go_sem, fa, sb, eB, fb, fc, sc, eC, sq, mu, ad, if_pos, if_neg, dec_t, dec_f, IntWalk.i64_in, IntWalk.u32_in, IntWalk.u64_in, beq_no]
                | some r => obtain ⟨r1, r2⟩ := r; rw [hr] at ad; simp -implicitDefEqProofs (maxSteps := 5000000) (disch := omega) only [go_sem, fa, sb, eB, fb, fc, sc, eC, sq, mu, ad, if_pos, if_neg, dec_t, dec_f, IntWalk.i64_in, IntWalk.u32_in, IntWalk.u64_in, beq_no]
end Go.Pi

set_option linter.unusedVariables false
set_option linter.unusedSimpArgs false
set_option maxHeartbeats 4000000
set_option maxRecDepth 8000
/-
Sides.
-/
namespace Go.Pi
open Go Go.Proofs Num
/-- A number times an interval. -/
noncomputable def tiF (n : Rat) (r : Option (Int × Int)) : Option (Int × Int) := match r with
  | none => none
  | some a => match frF n with
    | none => none
    | some b => muF b a
theorem tiF_pr {n : Rat} {r : Option (Int × Int)} {i : Int × Int} (h : tiF n r = some i) : Pr i := by
  unfold tiF at h
  split at h
  · cases h
  · split at h
    · cases h
    · exact muF_pr h
theorem add_in {a c : Int × Int} (pa : Pr a) (pm : Pr c) : Rq 163 [.agg [.int .i64 a.1, .int .i64 a.2], .agg [.int .i64 c.1, .int .i64 c.2]] = some (pI (prF (a.1 + c.1) (a.2 + c.2))) :=
  iAdd_r ⟨pa.1, by have := pa.2; omega⟩ ⟨by have := pa.1; have := pa.2; omega, pa.2.2⟩ ⟨pm.1, by have := pm.2; omega⟩ ⟨by have := pm.1; have := pm.2; omega, pm.2.2⟩
/-- The interval of A x + B y - C at a point. -/
noncomputable def sdF (A B C AX BX AY BY PC : Rat) : Option (Int × Int) := match tiF A (roF AX BX PC) with
  | none => none
  | some x => match tiF B (roF AY BY PC) with
    | none => none
    | some y => match frF C with
      | none => none
      | some c => match prF (x.1 + y.1) (x.2 + y.2) with
        | none => none
        | some s => prF (s.1 + -c.2) (s.2 + -c.1)
/-- The sign of an interval. -/
noncomputable def sgV : Option (Int × Int) → PV
  | none => .tup [.int .i64 0, .bool false]
  | some i => .tup [.int .i64 (if 0 < i.1 then 1 else if i.2 < 0 then -1 else 0), .bool (dec (0 < i.1 ∨ i.2 < 0 ∨ i.1 = 0 ∧ i.2 = 0))]
@[go_sem] theorem sgV_none : sgV none = .tup [.int .i64 0, .bool false] := nr rfl
/-- A point's cells. -/
def zP (AX BX AY BY C : Rat) : List PV := zQ AX ++ zQ BX ++ zQ AY ++ zQ BY ++ zQ C
@[go_sem] theorem zP_eq (A B C D E : Rat) : zP A B C D E = [.bool (ng A.num), .sl false (us (lm A.num)), .bool false, .sl false (us (lm (A.den : Int))), .bool (ng B.num), .sl false (us (lm B.num)), .bool false, .sl false (us (lm (B.den : Int))), .bool (ng C.num), .sl false (us (lm C.num)), .bool false, .sl false (us (lm (C.den : Int))), .bool (ng D.num), .sl false (us (lm D.num)), .bool false, .sl false (us (lm (D.den : Int))), .bool (ng E.num), .sl false (us (lm E.num)), .bool false, .sl false (us (lm (E.den : Int)))] := by
  simp only [zP, zQ_eq]; rfl
end Go.Pi
