/- What is proved: the functions on fractions as rules; what intervals contain. No conditions beyond those in the statements. -/
import Derived.Test.YtnhfplmgkhdmlaaGreatRa
import Derived.Test.YtnhfplmgkhdmlaaGreatNc
set_option linter.unusedVariables false
set_option linter.unusedSimpArgs false
set_option maxHeartbeats 4000000
set_option maxRecDepth 8000
/-
The functions on fractions, as rules.
-/
namespace Go.Pi
open Go Go.Proofs Num
attribute [go_sem] cloL_us Nat.reduceBNe Num.z0
@[go_sem] theorem qFromInt64_s {n : Int} (h0 : -9223372036854775808 ≤ n) (h1 : n ≤ 9223372036854775807) : Rq 83 [.int .i64 n] = some (.agg (zQ (n : Rat))) := qFromInt64_r h0 h1
@[go_sem] theorem qSign_s {q : Rat} (h : rl q ≤ 300000000) : Rq 78 [.agg [.bool (ng (q).num), .sl false (us (lm (q).num)), .bool false, .sl false (us (lm ((q).den : Int)))]] = some (.int .i64 (sg q)) := by
  rw [← zQ_eq]; exact qSign_r (by omega)
@[go_sem] theorem qNeg_s {q : Rat} (h : rl q ≤ 300000000) : Rq 126 [.agg [.bool (ng (q).num), .sl false (us (lm (q).num)), .bool false, .sl false (us (lm ((q).den : Int)))]] = some (.agg (zQ (-q))) := by
  rw [← zQ_eq]; exact qNeg_r (by omega)
@[go_sem] theorem qMul_s {a b : Rat} (ha : rl a ≤ 300000000) (hb : rl b ≤ 300000000) : Rq 86 [.agg [.bool (ng (a).num), .sl false (us (lm (a).num)), .bool false, .sl false (us (lm ((a).den : Int)))], .agg [.bool (ng (b).num), .sl false (us (lm (b).num)), .bool false, .sl false (us (lm ((b).den : Int)))]] = some (.agg (zQ (a * b))) := by
  rw [← zQ_eq, ← zQ_eq]; exact qMul_r (by omega) (by omega)
theorem add_same {a b : Rat} (h : a.den = b.den) : Rat.divInt (a.num + b.num) (a.den : Int) = a + b := by
  rw [add_divInt, ← h, ← Int.add_mul, Rat.divInt_mul_right (by have := a.den_pos; omega)]
@[go_sem] theorem qAdd_s {a b : Rat} (ha : rl a ≤ 300000000) (hb : rl b ≤ 300000000) : Rq 88 [.agg [.bool (ng (a).num), .sl false (us (lm (a).num)), .bool false, .sl false (us (lm ((a).den : Int)))], .agg [.bool (ng (b).num), .sl false (us (lm (b).num)), .bool false, .sl false (us (lm ((b).den : Int)))]] = some (.agg (zQ (a + b))) := by
  refine RL_of (f := 88) (fn := Tryz.f88) Tryz.func88 rfl rfl rfl (Nat.le_of_ble_eq_true rfl) ?_
  have h1 := rl_num a
  have h2 := rl_den a
  have h3 := rl_num b
  have h4 := rl_den b
  have m1 := mul_r (a := a.num) (b := (b.den : Int)) (by omega) (by omega)
  have m2 := mul_r (a := b.num) (b := (a.den : Int)) (by omega) (by omega)
  have m3 := mul_r (a := (a.den : Int)) (b := (b.den : Int)) (by omega) (by omega)
  have l1 := ll_mul a.num b.den
  have l2 := ll_mul b.num a.den
  have l3 := ll_mul (a.den : Int) b.den
  have l4 := ll_add (a.num * b.den) (b.num * a.den)
  have l5 := ll_add a.num b.num
  have ad := add_r (a := a.num * b.den) (b := b.num * a.den) (by omega) (by omega)
  have ad2 := add_r (a := a.num) (b := b.num) (by omega) (by omega)
  have c := cmp_r (a := (a.den : Int)) (b := (b.den : Int)) (by omega) (by omega)
  have r := reduce_r (p := a.num * b.den + b.num * a.den) (q := (a.den : Int) * b.den) (by omega) (by omega) (dens_ne a b)
  have r2 := reduce_r (p := a.num + b.num) (q := (a.den : Int)) (by omega) (by omega) (by have := a.den_pos; omega)
  rw [← add_divInt] at r
  simp only [zI_eq, ng_cast] at m1 m2 m3 ad ad2 c r r2
  by_cases h : a.den = b.den
  · rw [add_same h] at r2
    have z : ((a.den : Int) - (b.den : Int)).sign = 0 := by rw [Int.sign_eq_zero_iff_zero]; omega
    rw [z] at c
    simp -implicitDefEqProofs (maxSteps := 5000000) (disch := omega) only [go_sem, c, ad2, r2, if_pos, if_neg, dec_t, dec_f, IntWalk.i64_in, IntWalk.u32_in, IntWalk.u64_in, beq_no]
  · have z : ¬ ((a.den : Int) - (b.den : Int)).sign = 0 := by rw [Int.sign_eq_zero_iff_zero]; omega
    simp -implicitDefEqProofs (maxSteps := 5000000) (disch := omega) only [go_sem, c, z, m1, m2, m3, ad, r, if_pos, if_neg, dec_t, dec_f, IntWalk.i64_in, IntWalk.u32_in, IntWalk.u64_in, beq_no]
@[go_sem] theorem qSub_s {a b : Rat} (ha : rl a ≤ 300000000) (hb : rl b ≤ 300000000) : Rq 85 [.agg [.bool (ng (a).num), .sl false (us (lm (a).num)), .bool false, .sl false (us (lm ((a).den : Int)))], .agg [.bool (ng (b).num), .sl false (us (lm (b).num)), .bool false, .sl false (us (lm ((b).den : Int)))]] = some (.agg (zQ (a - b))) := by
  refine RL_of (f := 85) (fn := Tryz.f85) Tryz.func85 rfl rfl rfl (Nat.le_of_ble_eq_true rfl) ?_
  rw [Rat.sub_eq_add_neg]
  simp -implicitDefEqProofs (maxSteps := 5000000) (disch := first | omega | (with_reducible apply Nat.le_trans; (focus (repeat' (first | with_reducible assumption | with_reducible apply rb_mul | with_reducible apply rb_add | with_reducible apply rb_sub | with_reducible apply rb_neg | with_reducible apply rb_div | with_reducible apply rb_divInt | with_reducible apply rb_int | with_reducible apply lb_mul | with_reducible apply lb_add | with_reducible apply lb_sub | with_reducible apply lb_neg | exact Nat.le_refl _))); omega)) only [go_sem, if_pos, if_neg, dec_t, dec_f, IntWalk.i64_in, IntWalk.u32_in, IntWalk.u64_in, beq_no]
@[go_sem] theorem ti_Rat4 : cst (.slice none 0 0) = some (.sl true []) := rfl
theorem qDiv_s {a b : Rat} (ha : rl a ≤ 300000000) (hb : rl b ≤ 300000000) (h0 : b ≠ 0) : Rq 46 [.agg [.bool (ng (a).num), .sl false (us (lm (a).num)), .bool false, .sl false (us (lm ((a).den : Int)))], .agg [.bool (ng (b).num), .sl false (us (lm (b).num)), .bool false, .sl false (us (lm ((b).den : Int)))]] = some (.tup [.agg (zQ (a / b)), .int .i64 0]) := by
  refine RL_of (f := 46) (fn := Tryz.f46) Tryz.func46 rfl rfl rfl (Nat.le_of_ble_eq_true rfl) ?_
  have h1 := rl_num a
  have h2 := rl_den a
  have h3 := rl_num b
  have h4 := rl_den b
  have m1 := mul_r (a := a.num) (b := (b.den : Int)) (by omega) (by omega)
  have m2 := mul_r (a := (a.den : Int)) (b := b.num) (by omega) (by omega)
  have l1 := ll_mul a.num b.den
  have l2 := ll_mul (a.den : Int) b.num
  have n0 : b.num ≠ 0 := fun e => h0 (num_eq0.1 e)
  have r := reduce_r (p := a.num * b.den) (q := (a.den : Int) * b.num) (by omega) (by omega) (Int.mul_ne_zero (by have := a.den_pos; omega) n0)
  rw [← div_divInt] at r
  have s0 : ¬ sg b = 0 := fun e => h0 (sg_eq.1 e)
  simp only [zI_eq, ng_cast] at m1 m2 r
  simp -implicitDefEqProofs (maxSteps := 5000000) (disch := first | omega | (with_reducible apply Nat.le_trans; (focus (repeat' (first | with_reducible assumption | with_reducible apply rb_mul | with_reducible apply rb_add | with_reducible apply rb_sub | with_reducible apply rb_neg | with_reducible apply rb_div | with_reducible apply rb_divInt | with_reducible apply rb_int | with_reducible apply lb_mul | with_reducible apply lb_add | with_reducible apply lb_sub | with_reducible apply lb_neg | exact Nat.le_refl _))); omega)) only [go_sem, m1, m2, r, s0, if_pos, if_neg, dec_t, dec_f, IntWalk.i64_in, IntWalk.u32_in, IntWalk.u64_in, beq_no]
theorem qDiv_0 {a : Rat} (ha : rl a ≤ 300000000) : Rq 46 [.agg [.bool (ng (a).num), .sl false (us (lm (a).num)), .bool false, .sl false (us (lm ((a).den : Int)))], .agg [.bool (ng ((0 : Rat)).num), .sl false (us (lm ((0 : Rat)).num)), .bool false, .sl false (us (lm (((0 : Rat)).den : Int)))]] = some (.tup [.agg [.bool false, .sl false [], .bool false, .sl false []], .int .i64 6]) := by
  refine RL_of (f := 46) (fn := Tryz.f46) Tryz.func46 rfl rfl rfl (Nat.le_of_ble_eq_true rfl) ?_
  have s0 : sg 0 = 0 := rfl
  have l0 : rl 0 ≤ 1 := by have := rl_int 0; rw [ll_zero, z0] at this; exact this
  simp -implicitDefEqProofs (maxSteps := 5000000) (disch := first | omega | (with_reducible apply Nat.le_trans; (focus (repeat' (first | with_reducible assumption | with_reducible apply rb_mul | with_reducible apply rb_add | with_reducible apply rb_sub | with_reducible apply rb_neg | with_reducible apply rb_div | with_reducible apply rb_divInt | with_reducible apply rb_int | with_reducible apply lb_mul | with_reducible apply lb_add | with_reducible apply lb_sub | with_reducible apply lb_neg | exact Nat.le_refl _))); omega)) only [go_sem, s0, if_pos, if_neg, dec_t, dec_f, IntWalk.i64_in, IntWalk.u32_in, IntWalk.u64_in, beq_no]
theorem isNaN_s {a : Int} : Rq 115 [.int .i64 a] = some (.bool false) := by
  refine RL_of (f := 115) (fn := Tryz.f115) Tryz.func115 rfl rfl rfl (Nat.le_of_ble_eq_true rfl) ?_
  simp -implicitDefEqProofs (maxSteps := 5000000) (disch := omega) only [go_sem, if_pos, if_neg, dec_t, dec_f, IntWalk.i64_in, IntWalk.u32_in, IntWalk.u64_in, beq_no]
theorem compare_s {a b : Int} : Rq 77 [.int .i64 a, .int .i64 b] = some (.int .i64 (a - b).sign) := by
  refine RL_of (f := 77) (fn := Tryz.f77) Tryz.func77 rfl rfl rfl (Nat.le_of_ble_eq_true rfl) ?_
  have i1 := isNaN_s (a := a)
  have i2 := isNaN_s (a := b)
  rcases Int.lt_trichotomy a b with h | h | h
  · rw [Int.sign_eq_neg_one_of_neg (by omega)]
    simp -implicitDefEqProofs (maxSteps := 5000000) (disch := omega) only [go_sem, i1, i2, if_pos, if_neg, dec_t, dec_f, IntWalk.i64_in, IntWalk.u32_in, IntWalk.u64_in, beq_no]
  · subst h
    rw [Int.sub_self]
    simp -implicitDefEqProofs (maxSteps := 5000000) (disch := omega) only [go_sem, i1, if_pos, if_neg, dec_t, dec_f, IntWalk.i64_in, IntWalk.u32_in, IntWalk.u64_in, beq_no]
    rfl
  · rw [Int.sign_eq_one_of_pos (by omega)]
    simp -implicitDefEqProofs (maxSteps := 5000000) (disch := omega) only [go_sem, i1, i2, if_pos, if_neg, dec_t, dec_f, IntWalk.i64_in, IntWalk.u32_in, IntWalk.u64_in, beq_no]
@[go_sem] theorem qCmp_s {a b : Rat} (ha : rl a ≤ 300000000) (hb : rl b ≤ 300000000) : Rq 41 [.agg [.bool (ng (a).num), .sl false (us (lm (a).num)), .bool false, .sl false (us (lm ((a).den : Int)))], .agg [.bool (ng (b).num), .sl false (us (lm (b).num)), .bool false, .sl false (us (lm ((b).den : Int)))]] = some (.int .i64 (sg (a - b))) := by
  refine RL_of (f := 41) (fn := Tryz.f41) Tryz.func41 rfl rfl rfl (Nat.le_of_ble_eq_true rfl) ?_
  have h1 := rl_num a
  have h2 := rl_den a
  have h3 := rl_num b
  have h4 := rl_den b
  have m1 := mul_r (a := a.num) (b := (b.den : Int)) (by omega) (by omega)
  have m2 := mul_r (a := b.num) (b := (a.den : Int)) (by omega) (by omega)
  have l1 := ll_mul a.num b.den
  have l2 := ll_mul b.num a.den
  have c := cmp_r (a := a.num * b.den) (b := b.num * a.den) (by omega) (by omega)
  rw [sg_cross] at c
  simp only [zI_eq, ng_cast] at m1 m2 c
  rcases sg_cases a with ⟨ga, ea⟩ | ⟨ga, ea⟩ | ⟨ga, ea⟩ <;> rcases sg_cases b with ⟨gb, eb⟩ | ⟨gb, eb⟩ | ⟨gb, eb⟩ <;> have cc := compare_s (a := sg a) (b := sg b) <;> rw [ea, eb] at cc <;> simp only [Int.reduceSub, Int.reduceNeg, Int.sign_zero, Int.sub_self, show ((-1 : Int)).sign = -1 from rfl, show ((1 : Int)).sign = 1 from rfl, show ((-2 : Int)).sign = -1 from rfl, show ((2 : Int)).sign = 1 from rfl] at cc
  · simp -implicitDefEqProofs (maxSteps := 5000000) (disch := first | omega | (with_reducible apply Nat.le_trans; (focus (repeat' (first | with_reducible assumption | with_reducible apply rb_mul | with_reducible apply rb_add | with_reducible apply rb_sub | with_reducible apply rb_neg | with_reducible apply rb_div | with_reducible apply rb_divInt | with_reducible apply rb_int | with_reducible apply lb_mul | with_reducible apply lb_add | with_reducible apply lb_sub | with_reducible apply lb_neg | exact Nat.le_refl _))); omega)) only [go_sem, cc, ea, eb, m1, m2, c, if_pos, if_neg, dec_t, dec_f, IntWalk.i64_in, IntWalk.u32_in, IntWalk.u64_in, beq_no]
  · simp -implicitDefEqProofs (maxSteps := 5000000) (disch := first | omega | (with_reducible apply Nat.le_trans; (focus (repeat' (first | with_reducible assumption | with_reducible apply rb_mul | with_reducible apply rb_add | with_reducible apply rb_sub | with_reducible apply rb_neg | with_reducible apply rb_div | with_reducible apply rb_divInt | with_reducible apply rb_int | with_reducible apply lb_mul | with_reducible apply lb_add | with_reducible apply lb_sub | with_reducible apply lb_neg | exact Nat.le_refl _))); omega)) only [go_sem, cc, ea, eb, if_pos, if_neg, dec_t, dec_f, IntWalk.i64_in, IntWalk.u32_in, IntWalk.u64_in, beq_no]; rw [sg_neg (by grind)]
  · simp -implicitDefEqProofs (maxSteps := 5000000) (disch := first | omega | (with_reducible apply Nat.le_trans; (focus (repeat' (first | with_reducible assumption | with_reducible apply rb_mul | with_reducible apply rb_add | with_reducible apply rb_sub | with_reducible apply rb_neg | with_reducible apply rb_div | with_reducible apply rb_divInt | with_reducible apply rb_int | with_reducible apply lb_mul | with_reducible apply lb_add | with_reducible apply lb_sub | with_reducible apply lb_neg | exact Nat.le_refl _))); omega)) only [go_sem, cc, ea, eb, if_pos, if_neg, dec_t, dec_f, IntWalk.i64_in, IntWalk.u32_in, IntWalk.u64_in, beq_no]; rw [sg_neg (by grind)]
  · simp -implicitDefEqProofs (maxSteps := 5000000) (disch := first | omega | (with_reducible apply Nat.le_trans; (focus (repeat' (first | with_reducible assumption | with_reducible apply rb_mul | with_reducible apply rb_add | with_reducible apply rb_sub | with_reducible apply rb_neg | with_reducible apply rb_div | with_reducible apply rb_divInt | with_reducible apply rb_int | with_reducible apply lb_mul | with_reducible apply lb_add | with_reducible apply lb_sub | with_reducible apply lb_neg | exact Nat.le_refl _))); omega)) only [go_sem, cc, ea, eb, if_pos, if_neg, dec_t, dec_f, IntWalk.i64_in, IntWalk.u32_in, IntWalk.u64_in, beq_no]; rw [sg_pos (by grind)]
  · simp -implicitDefEqProofs (maxSteps := 5000000) (disch := first | omega | (with_reducible apply Nat.le_trans; (focus (repeat' (first | with_reducible assumption | with_reducible apply rb_mul | with_reducible apply rb_add | with_reducible apply rb_sub | with_reducible apply rb_neg | with_reducible apply rb_div | with_reducible apply rb_divInt | with_reducible apply rb_int | with_reducible apply lb_mul | with_reducible apply lb_add | with_reducible apply lb_sub | with_reducible apply lb_neg | exact Nat.le_refl _))); omega)) only [go_sem, cc, ea, eb, m1, m2, c, if_pos, if_neg, dec_t, dec_f, IntWalk.i64_in, IntWalk.u32_in, IntWalk.u64_in, beq_no]
  · simp -implicitDefEqProofs (maxSteps := 5000000) (disch := first | omega | (with_reducible apply Nat.le_trans; (focus (repeat' (first | with_reducible assumption | with_reducible apply rb_mul | with_reducible apply rb_add | with_reducible apply rb_sub | with_reducible apply rb_neg | with_reducible apply rb_div | with_reducible apply rb_divInt | with_reducible apply rb_int | with_reducible apply lb_mul | with_reducible apply lb_add | with_reducible apply lb_sub | with_reducible apply lb_neg | exact Nat.le_refl _))); omega)) only [go_sem, cc, ea, eb, if_pos, if_neg, dec_t, dec_f, IntWalk.i64_in, IntWalk.u32_in, IntWalk.u64_in, beq_no]; rw [sg_neg (by grind)]
  · simp -implicitDefEqProofs (maxSteps := 5000000) (disch := first | omega | (with_reducible apply Nat.le_trans; (focus (repeat' (first | with_reducible assumption | with_reducible apply rb_mul | with_reducible apply rb_add | with_reducible apply rb_sub | with_reducible apply rb_neg | with_reducible apply rb_div | with_reducible apply rb_divInt | with_reducible apply rb_int | with_reducible apply lb_mul | with_reducible apply lb_add | with_reducible apply lb_sub | with_reducible apply lb_neg | exact Nat.le_refl _))); omega)) only [go_sem, cc, ea, eb, if_pos, if_neg, dec_t, dec_f, IntWalk.i64_in, IntWalk.u32_in, IntWalk.u64_in, beq_no]; rw [sg_pos (by grind)]
  · simp -implicitDefEqProofs (maxSteps := 5000000) (disch := first | omega | (with_reducible apply Nat.le_trans; (focus (repeat' (first | with_reducible assumption | with_reducible apply rb_mul | with_reducible apply rb_add | with_reducible apply rb_sub | with_reducible apply rb_neg | with_reducible apply rb_div | with_reducible apply rb_divInt | with_reducible apply rb_int | with_reducible apply lb_mul | with_reducible apply lb_add | with_reducible apply lb_sub | with_reducible apply lb_neg | exact Nat.le_refl _))); omega)) only [go_sem, cc, ea, eb, if_pos, if_neg, dec_t, dec_f, IntWalk.i64_in, IntWalk.u32_in, IntWalk.u64_in, beq_no]; rw [sg_pos (by grind)]
  · simp -implicitDefEqProofs (maxSteps := 5000000) (disch := first | omega | (with_reducible apply Nat.le_trans; (focus (repeat' (first | with_reducible assumption | with_reducible apply rb_mul | with_reducible apply rb_add | with_reducible apply rb_sub | with_reducible apply rb_neg | with_reducible apply rb_div | with_reducible apply rb_divInt | with_reducible apply rb_int | with_reducible apply lb_mul | with_reducible apply lb_add | with_reducible apply lb_sub | with_reducible apply lb_neg | exact Nat.le_refl _))); omega)) only [go_sem, cc, ea, eb, m1, m2, c, if_pos, if_neg, dec_t, dec_f, IntWalk.i64_in, IntWalk.u32_in, IntWalk.u64_in, beq_no]
end Go.Pi

set_option linter.unusedVariables false
set_option linter.unusedSimpArgs false
set_option maxHeartbeats 4000000
set_option maxRecDepth 8000
/-
What intervals contain: plain laws.
-/
namespace Go.Pi
open Go Go.Proofs Num
/-- Rounded up. -/
def ceil (q : Rat) : Int := -(-q).floor
theorem floor_le' (q : Rat) : (q.floor : Rat) ≤ q := Rat.floor_le q
theorem le_ceil (q : Rat) : q ≤ (ceil q : Rat) := by
  have := Rat.floor_le (-q)
  unfold ceil
  rw [Rat.intCast_neg]
  grind
theorem floor_of {q : Rat} {n : Int} (h1 : (n : Rat) ≤ q) (h2 : q < (n : Rat) + 1) : q.floor = n := by
  have a := Rat.le_floor_iff.2 h1
  have b := @Rat.lt_floor q
  have c : q.floor < n + 1 := by
    rcases Int.lt_or_le q.floor (n + 1) with h | h
    · exact h
    · have := Rat.le_floor_iff.1 h
      rw [Rat.intCast_add] at this
      have e : ((1 : Int) : Rat) = 1 := rfl
      grind
  omega
theorem floor_mono {a b : Rat} (h : a ≤ b) : a.floor ≤ b.floor := Rat.le_floor_iff.2 (by have := Rat.floor_le a; grind)
theorem ceil_mono {a b : Rat} (h : a ≤ b) : ceil a ≤ ceil b := by
  have := floor_mono (a := -b) (b := -a) (by grind)
  unfold ceil
  omega
theorem floor_le_ceil (q : Rat) : q.floor ≤ ceil q := by
  have h1 := floor_le' q
  have h2 := le_ceil q
  have : (q.floor : Rat) ≤ (ceil q : Rat) := by grind
  exact Rat.intCast_le_intCast.1 this
theorem lo_floor (q : Rat) : lo q = (q * ((65536 : Int) : Rat)).floor := by rw [lo, Rat.floor_def]
theorem hi_ceil (q : Rat) : hi q = ceil (q * ((65536 : Int) : Rat)) := by rw [hi, ceil, Rat.floor_def, Rat.neg_num, Rat.neg_den]
/-- What an interval contains. -/
def inF (l h : Int) (q : Rat) : Prop := (l : Rat) ≤ q * ((65536 : Int) : Rat) ∧ q * ((65536 : Int) : Rat) ≤ (h : Rat)
theorem frF_in {q : Rat} {i : Int × Int} (h : frF q = some i) : inF i.1 i.2 q := by
  have h1 := (frF_pr h).2
  subst h1
  unfold inF
  rw [lo_floor, hi_ceil]
  exact ⟨floor_le' _, le_ceil _⟩
theorem prod_lo {L p q a1 a2 b1 b2 : Rat} (ha1 : a1 ≤ p) (ha2 : p ≤ a2) (hb1 : b1 ≤ q) (hb2 : q ≤ b2) (h1 : L ≤ a1 * b1) (h2 : L ≤ a1 * b2) (h3 : L ≤ a2 * b1) (h4 : L ≤ a2 * b2) : L ≤ p * q := by
  by_cases hq : 0 ≤ q
  · have k1 := Rat.mul_nonneg (show 0 ≤ p - a1 by grind) hq
    by_cases ha : 0 ≤ a1
    · have k2 := Rat.mul_nonneg ha (show 0 ≤ q - b1 by grind)
      grind
    · have k2 := Rat.mul_nonneg (show 0 ≤ -a1 by grind) (show 0 ≤ b2 - q by grind)
      grind
  · have k1 := Rat.mul_nonneg (show 0 ≤ a2 - p by grind) (show 0 ≤ -q by grind)
    by_cases ha : 0 ≤ a2
    · have k2 := Rat.mul_nonneg ha (show 0 ≤ q - b1 by grind)
      grind
    · have k2 := Rat.mul_nonneg (show 0 ≤ -a2 by grind) (show 0 ≤ b2 - q by grind)
      grind
theorem prod_hi {H p q a1 a2 b1 b2 : Rat} (ha1 : a1 ≤ p) (ha2 : p ≤ a2) (hb1 : b1 ≤ q) (hb2 : q ≤ b2) (h1 : a1 * b1 ≤ H) (h2 : a1 * b2 ≤ H) (h3 : a2 * b1 ≤ H) (h4 : a2 * b2 ≤ H) : p * q ≤ H := by
  have := prod_lo (L := -H) (p := p) (q := -q) (a1 := a1) (a2 := a2) (b1 := -b2) (b2 := -b1) ha1 ha2 (by grind) (by grind) (by grind) (by grind) (by grind) (by grind)
  grind
theorem c65536 : ((65536 : Int) : Rat) = 65536 := rfl
theorem sl_le (x y : Int) : (sl x y : Rat) * 65536 ≤ (x : Rat) * (y : Rat) := by
  have h1 : (x * y / 65536) * 65536 ≤ x * y := Int.ediv_mul_le _ (by omega)
  have k1 := Rat.intCast_le_intCast.2 h1
  rw [Rat.intCast_mul, Rat.intCast_mul, c65536] at k1
  exact k1
theorem le_su (x y : Int) : (x : Rat) * (y : Rat) ≤ (su x y : Rat) * 65536 := by
  have := sl_le (-x) y
  have e : su x y = -sl (-x) y := by unfold su sl; rw [Int.neg_mul]
  rw [e, Rat.intCast_neg]
  rw [Rat.intCast_neg] at this
  grind
theorem muF_in {a b m : Int × Int} {p q : Rat} (hm : muF a b = some m) (hp : inF a.1 a.2 p) (hq : inF b.1 b.2 q) : inF m.1 m.2 (p * q) := by
  obtain ⟨a1, a2⟩ := a
  obtain ⟨b1, b2⟩ := b
  unfold inF at *
  dsimp only at *
  rw [c65536] at *
  by_cases k : okS a1 b1 ∧ okS a1 b2 ∧ okS a2 b1 ∧ okS a2 b2
  · rw [muF_yes k] at hm
    obtain rfl := Option.some.inj hm
    dsimp only
    have s1 := sl_le a1 b1
    have s2 := sl_le a1 b2
    have s3 := sl_le a2 b1
    have s4 := sl_le a2 b2
    have t1 := le_su a1 b1
    have t2 := le_su a1 b2
    have t3 := le_su a2 b1
    have t4 := le_su a2 b2
    generalize hL : min (min (min (min 2305843009213693952 (sl a1 b1)) (sl a1 b2)) (sl a2 b1)) (sl a2 b2) = L
    generalize hH : max (max (max (max (-2305843009213693952) (su a1 b1)) (su a1 b2)) (su a2 b1)) (su a2 b2) = H
    have l1 : (L : Rat) ≤ (sl a1 b1 : Rat) := Rat.intCast_le_intCast.2 (by omega)
    have l2 : (L : Rat) ≤ (sl a1 b2 : Rat) := Rat.intCast_le_intCast.2 (by omega)
    have l3 : (L : Rat) ≤ (sl a2 b1 : Rat) := Rat.intCast_le_intCast.2 (by omega)
    have l4 : (L : Rat) ≤ (sl a2 b2 : Rat) := Rat.intCast_le_intCast.2 (by omega)
    have g1 : (su a1 b1 : Rat) ≤ (H : Rat) := Rat.intCast_le_intCast.2 (by omega)
    have g2 : (su a1 b2 : Rat) ≤ (H : Rat) := Rat.intCast_le_intCast.2 (by omega)
    have g3 : (su a2 b1 : Rat) ≤ (H : Rat) := Rat.intCast_le_intCast.2 (by omega)
    have g4 : (su a2 b2 : Rat) ≤ (H : Rat) := Rat.intCast_le_intCast.2 (by omega)
    have lo := prod_lo (L := (L : Rat) * 65536) hp.1 hp.2 hq.1 hq.2 (by grind) (by grind) (by grind) (by grind)
    have hi := prod_hi (H := (H : Rat) * 65536) hp.1 hp.2 hq.1 hq.2 (by grind) (by grind) (by grind) (by grind)
    constructor <;> grind
  · rw [muF_no k] at hm; cases hm
theorem prF_in {a b m : Int × Int} {p q : Rat} (hm : prF (a.1 + b.1) (a.2 + b.2) = some m) (hp : inF a.1 a.2 p) (hq : inF b.1 b.2 q) : inF m.1 m.2 (p + q) := by
  unfold prF at hm
  split at hm
  · cases hm
  · obtain rfl := Option.some.inj hm
    unfold inF at *
    dsimp only at *
    rw [Rat.intCast_add, Rat.intCast_add]
    constructor <;> grind
/-- The interval of a root's radicand's root. -/
noncomputable def sqC (C : Rat) : Option (Int × Int) := match frF C with
  | none => none
  | some c => sqF c
theorem sqF_spec {c s : Int × Int} (pc : Pr c) (h : sqF c = some s) : 0 ≤ c.2 ∧ 0 ≤ s.1 ∧ s.1 ≤ s.2 ∧ s.1 * s.1 ≤ max c.1 0 * 65536 ∧ c.2 * 65536 ≤ s.2 * s.2 := by
  obtain ⟨p1, p2, p3⟩ := pc
  unfold sqF at h
  split at h
  · cases h
  · rename_i k
    have r1 := rt_spec (a := max c.1 0 * 65536) (by omega)
    have r2 := rt_spec (a := c.2 * 65536) (by omega)
    have mo := rt_mono (a := max c.1 0 * 65536) (b := c.2 * 65536) (by omega) (by omega)
    have n1 := rt_nn (max c.1 0 * 65536)
    split at h
    · rename_i e
      obtain ⟨-, rfl⟩ := prF_pr h mo
      dsimp only
      omega
    · obtain ⟨-, rfl⟩ := prF_pr h (by omega)
      dsimp only
      omega
theorem cm (a b : Int) : ((a * b : Int) : Rat) = (a : Rat) * (b : Rat) := Rat.intCast_mul a b
theorem sqC_spec {C : Rat} {s : Int × Int} (h : sqC C = some s) (h0 : 0 ≤ C) : 0 ≤ s.1 ∧ s.1 ≤ s.2 ∧ (s.1 : Rat) * (s.1 : Rat) ≤ C * 65536 * 65536 ∧ C * 65536 * 65536 ≤ (s.2 : Rat) * (s.2 : Rat) := by
  unfold sqC at h
  cases hc : frF C with
  | none => rw [hc] at h; cases h
  | some c =>
    rw [hc] at h
    obtain ⟨pc, -⟩ := frF_pr hc
    have ic := frF_in hc
    obtain ⟨c0, s0, s1, s2, s3⟩ := sqF_spec pc h
    refine ⟨s0, s1, ?_, ?_⟩
    · have k := Rat.intCast_le_intCast.2 s2
      rw [cm, cm, c65536] at k
      have : ((max c.1 0 : Int) : Rat) ≤ C * 65536 := by
        rw [Int.max_def]
        split
        · have : ((0 : Int) : Rat) = 0 := rfl
          rw [this]
          have := Rat.mul_nonneg h0 (show (0 : Rat) ≤ 65536 by decide)
          exact this
        · have := ic.1
          rw [c65536] at this
          exact this
      grind
    · have k := Rat.intCast_le_intCast.2 s3
      rw [cm, cm, c65536] at k
      have := ic.2
      rw [c65536] at this
      grind
theorem roF_zero {A B C : Rat} {i : Int × Int} (h : roF A B C = some i) (hB : B = 0) : inF i.1 i.2 A := by
  subst hB
  unfold roF at h
  cases ha : frF A with
  | none => rw [ha] at h; cases h
  | some a =>
    rw [ha] at h
    dsimp only at h
    rw [if_pos (by rfl)] at h
    obtain rfl := Option.some.inj h
    exact frF_in ha
theorem roF_in {A B C : Rat} {i : Int × Int} (h : roF A B C = some i) (hB : B ≠ 0) : 0 ≤ C ∧ ∃ s, sqC C = some s ∧ ∀ t : Rat, inF s.1 s.2 t → inF i.1 i.2 (A + B * t) := by
  unfold roF at h
  cases ha : frF A with
  | none => rw [ha] at h; cases h
  | some a =>
    rw [ha] at h
    dsimp only at h
    rw [if_neg (fun e => hB (num_eq0.1 e))] at h
    cases hb : frF B with
    | none => rw [hb] at h; cases h
    | some b =>
      rw [hb] at h
      cases hc : frF C with
      | none => rw [hc] at h; cases h
      | some c =>
        rw [hc] at h
        dsimp only at h
        split at h
        · cases h
        · rename_i k
          have h0 : 0 ≤ C := Rat.num_nonneg.1 (by omega)
          cases hs : sqF c with
          | none => rw [hs] at h; cases h
          | some s =>
            rw [hs] at h
            dsimp only at h
            cases hm : muF b s with
            | none => rw [hm] at h; cases h
            | some m =>
              rw [hm] at h
              dsimp only at h
              refine ⟨h0, s, by unfold sqC; rw [hc]; exact hs, fun t ht => ?_⟩
              exact prF_in h (frF_in ha) (muF_in hm (frF_in hb) ht)
theorem ro_in {A B C : Rat} {i s : Int × Int} (h : roF A B C = some i) (hs : B ≠ 0 → sqC C = some s) : ∀ t : Rat, inF s.1 s.2 t → inF i.1 i.2 (A + B * t) := fun t ht => by
  by_cases hB : B = 0
  · have := roF_zero h hB
    subst hB
    rw [show A + 0 * t = A by grind]
    exact this
  · obtain ⟨_, s', hs', hi⟩ := roF_in h hB
    rw [hs hB] at hs'
    obtain rfl := Option.some.inj hs'
    exact hi t ht
theorem tiF_in {n : Rat} {r m : Int × Int} {p : Rat} (h : tiF n (some r) = some m) (hp : inF r.1 r.2 p) : inF m.1 m.2 (n * p) := by
  unfold tiF at h
  dsimp only at h
  cases hb : frF n with
  | none => rw [hb] at h; cases h
  | some b => rw [hb] at h; exact muF_in h (frF_in hb) hp
/-- The interval of a root contains the approximations of its value. -/
theorem ro_ra {A B C : Rat} {i : Int × Int} (h : roF A B C = some i) (h0 : 0 ≤ C) (k : Nat) : inF i.1 i.2 (A + B * ra C k) := by
  by_cases hB : B = 0
  · have := roF_zero h hB
    subst hB
    rw [show A + 0 * ra C k = A by grind]
    exact this
  · obtain ⟨_, s, hs, hi⟩ := roF_in h hB
    obtain ⟨s0, s1, s2, s3⟩ := sqC_spec hs h0
    refine hi _ ⟨?_, ?_⟩
    · rw [c65536]; exact ra_lo h0 k s2
    · rw [c65536]; exact ra_hi h0 k (by omega) s3
theorem neg_in {c : Int × Int} {q : Rat} (h : inF c.1 c.2 q) : inF (-c.2) (-c.1) (-q) := by
  unfold inF at *
  rw [Rat.intCast_neg, Rat.intCast_neg]
  constructor <;> grind
/-- The interval of a side contains the approximations of its value. -/
theorem sd_ra {A B C AX BX AY BY PC : Rat} {i : Int × Int} (h : sdF A B C AX BX AY BY PC = some i) (h0 : 0 ≤ PC) (k : Nat) : inF i.1 i.2 (va (A * AX + B * AY - C) (A * BX + B * BY) PC k) := by
  unfold sdF at h
  cases hx : roF AX BX PC with
  | none => rw [hx] at h; unfold tiF at h; cases h
  | some rx =>
    rw [hx] at h
    cases hy : roF AY BY PC with
    | none =>
      rw [hy] at h
      cases hm : tiF A (some rx) with
      | none => rw [hm] at h; cases h
      | some m => rw [hm] at h; unfold tiF at h; cases h
    | some ry =>
      rw [hy] at h
      cases hm : tiF A (some rx) with
      | none => rw [hm] at h; cases h
      | some m =>
        rw [hm] at h
        cases hn : tiF B (some ry) with
        | none => rw [hn] at h; cases h
        | some n =>
          rw [hn] at h
          dsimp only at h
          cases hc : frF C with
          | none => rw [hc] at h; cases h
          | some c =>
            rw [hc] at h
            dsimp only at h
            cases hs : prF (m.1 + n.1) (m.2 + n.2) with
            | none => rw [hs] at h; cases h
            | some u =>
              rw [hs] at h
              dsimp only at h
              have i1 := tiF_in hm (ro_ra hx h0 k)
              have i2 := tiF_in hn (ro_ra hy h0 k)
              have i3 := prF_in hs i1 i2
              have i5 := prF_in (a := u) (b := (-c.2, -c.1)) h i3 (neg_in (frF_in hc))
              rw [show va (A * AX + B * AY - C) (A * BX + B * BY) PC k = A * (AX + BX * ra PC k) + B * (AY + BY * ra PC k) + -C by unfold va; grind]
              exact i5
/-- A known sign is the exact one. -/
theorem known_exF {A B C : Rat} {x : Nat → Rat} {i : Int × Int} (h0 : 0 ≤ C) (hx : ∀ k, inF i.1 i.2 (x k)) (hn : Nul fun k => x k - va A B C k) (hk : 0 < i.1 ∨ i.2 < 0 ∨ i.1 = 0 ∧ i.2 = 0) : sgI i = exF A B C := by
  have h1 := known_sgn (x := x) (i := i) (fun k => by have := hx k; unfold inF at this; rw [c65536] at this; exact this) hk
  exact h1.uniq ((va_sgn h0).near hn)
end Go.Pi
