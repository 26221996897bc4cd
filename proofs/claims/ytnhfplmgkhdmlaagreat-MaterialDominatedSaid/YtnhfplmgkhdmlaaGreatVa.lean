/- What is proved: roots and distances. No conditions beyond those in the statements. -/
import Derived.Test.YtnhfplmgkhdmlaaGreatUb
import Derived.Test.YtnhfplmgkhdmlaaGreatRg
import Derived.Test.YtnhfplmgkhdmlaaGreatQa
set_option linter.unusedVariables false
set_option linter.unusedSimpArgs false
set_option maxHeartbeats 4000000
set_option maxRecDepth 8000
/-
Roots: the program.
-/
namespace Go.Pi
open Go Go.Proofs Num
theorem sqrt_neg {a : Int} (h : a < 0) : Rq 155 [.agg (zI a)] = some (.tup [.agg (zI 0), .int .i64 7]) := by
  refine RL_of (f := 155) (fn := Tryz.f155) Tryz.func155 rfl rfl rfl (Nat.le_of_ble_eq_true rfl) ?_
  simp -implicitDefEqProofs (maxSteps := 5000000) (disch := omega) only [go_sem, ng_neg h, ng_nn (Int.le_refl 0), lm_zero, us_nil, if_pos, if_neg, dec_t, dec_f, IntWalk.i64_in, IntWalk.u32_in, IntWalk.u64_in, beq_no]
theorem side_s {a : Int} (h0 : 0 ≤ a) (ha : ll a ≤ 500000000) : Rq 127 [.agg (zI a)] = some (.tup [.agg (zI (rt a)), .bool (dec (rt a * rt a = a))]) := by
  refine RL_of (f := 127) (fn := Tryz.f127) Tryz.func127 rfl rfl rfl (Nat.le_of_ble_eq_true rfl) ?_
  have s : Rq 155 [.agg (zI a)] = some (.tup [.agg (zI (rt a)), .int .i64 0]) := by
    rcases Int.lt_or_eq_of_le h0 with h | h
    · exact sqrt_r h (by omega)
    · subst h
      rw [show rt 0 = 0 from rt_eq (by omega) (by omega) (by omega)]; exact sqrt_zero
  have sp := rt_spec h0
  have lr : ll (rt a) ≤ ll a := by
    have n1 := rt_nn a
    refine ll_mono ?_
    have : rt a ≤ a := by
      rcases Int.lt_or_le (rt a) 1 with h | h
      · omega
      · have := Int.mul_le_mul_of_nonneg_left h n1; omega
    omega
  have m := mul_r (a := rt a) (b := rt a) (by omega) (by omega)
  have lm2 := ll_mul (rt a) (rt a)
  have sm := cmp_r (a := rt a * rt a) (b := a) (by omega) (by omega)
  clear sp lr lm2
  simp only [zI_eq] at s m sm
  by_cases k : rt a * rt a = a
  · have z : (rt a * rt a - a).sign = 0 := by rw [Int.sign_eq_zero_iff_zero]; omega
    rw [dec_t k]
    rw [z] at sm
    simp -implicitDefEqProofs (maxSteps := 5000000) (disch := omega) only [go_sem, s, m, sm, if_pos, if_neg, dec_t, dec_f, IntWalk.i64_in, IntWalk.u32_in, IntWalk.u64_in, beq_no]
  · have z : ¬ (rt a * rt a - a).sign = 0 := by rw [Int.sign_eq_zero_iff_zero]; omega
    rw [dec_f k]
    simp -implicitDefEqProofs (maxSteps := 5000000) (disch := omega) only [go_sem, s, m, sm, z, if_pos, if_neg, dec_t, dec_f, IntWalk.i64_in, IntWalk.u32_in, IntWalk.u64_in, beq_no]
theorem side_neg {a : Int} (h0 : a < 0) : ∃ x, Rq 127 [.agg (zI a)] = some (.tup [.agg (zI x), .bool false]) := by
  refine ⟨0, ?_⟩
  refine RL_of (f := 127) (fn := Tryz.f127) Tryz.func127 rfl rfl rfl (Nat.le_of_ble_eq_true rfl) ?_
  have s := sqrt_neg h0
  simp only [zI_eq] at s
  simp -implicitDefEqProofs (maxSteps := 5000000) (disch := omega) only [go_sem, s, if_pos, if_neg, dec_t, dec_f, IntWalk.i64_in, IntWalk.u32_in, IntWalk.u64_in, beq_no]
theorem qSqrt_yes {q : Rat} (hq : rl q ≤ 300000000) (h : Isq q) : Rq 87 [.agg [.bool (ng (q).num), .sl false (us (lm (q).num)), .bool false, .sl false (us (lm ((q).den : Int)))]] = some (.tup [.agg (zQ (sqv q)), .bool true]) := by
  refine RL_of (f := 87) (fn := Tryz.f87) Tryz.func87 rfl rfl rfl (Nat.le_of_ble_eq_true rfl) ?_
  have h1 := rl_num q
  have h2 := rl_den q
  have n0 : 0 ≤ q.num := Rat.num_nonneg.2 h.nn
  have d0 := q.den_pos
  obtain ⟨i1, i2⟩ := (isq_iff q).1 h
  have k1 := (isqI_iff n0).1 i1
  have k2 := (isqI_iff (show 0 ≤ (q.den : Int) by omega)).1 i2
  have p1 := side_s n0 (by omega)
  have p2 := side_s (a := (q.den : Int)) (by omega) (by omega)
  rw [dec_t k1] at p1
  rw [dec_t k2] at p2
  have r0 := rt_nn (q.den : Int)
  have r1 : 0 < rt (q.den : Int) := by
    rcases Int.lt_or_eq_of_le r0 with h | h
    · exact h
    · rw [← h] at k2; omega
  obtain ⟨e1, e2⟩ := sqv_num (rt_nn q.num) r1 k1 k2
  simp only [zI_eq, ng_cast, ng_nn r0] at p1 p2
  simp -implicitDefEqProofs (maxSteps := 5000000) (disch := omega) only [go_sem, p1, p2, e1, e2, if_pos, if_neg, dec_t, dec_f, IntWalk.i64_in, IntWalk.u32_in, IntWalk.u64_in, beq_no]
theorem qSqrt_no {q : Rat} (hq : rl q ≤ 300000000) (h : ¬ Isq q) : Rq 87 [.agg [.bool (ng (q).num), .sl false (us (lm (q).num)), .bool false, .sl false (us (lm ((q).den : Int)))]] = some (.tup [.agg [.bool false, .sl false [], .bool false, .sl false []], .bool false]) := by
  refine RL_of (f := 87) (fn := Tryz.f87) Tryz.func87 rfl rfl rfl (Nat.le_of_ble_eq_true rfl) ?_
  have h1 := rl_num q
  have h2 := rl_den q
  have d0 := q.den_pos
  have p2 := side_s (a := (q.den : Int)) (by omega) (by omega)
  simp only [zI_eq, ng_cast] at p2
  by_cases n0 : 0 ≤ q.num
  · have p1 := side_s n0 (by omega)
    simp only [zI_eq] at p1
    by_cases k1 : rt q.num * rt q.num = q.num
    · rw [dec_t k1] at p1
      have k2 : ¬ rt (q.den : Int) * rt (q.den : Int) = (q.den : Int) := fun e => h ((isq_iff q).2 ⟨⟨_, k1⟩, ⟨_, e⟩⟩)
      rw [dec_f k2] at p2
      simp -implicitDefEqProofs (maxSteps := 5000000) (disch := omega) only [go_sem, p1, p2, if_pos, if_neg, dec_t, dec_f, IntWalk.i64_in, IntWalk.u32_in, IntWalk.u64_in, beq_no]
    · rw [dec_f k1] at p1
      simp -implicitDefEqProofs (maxSteps := 5000000) (disch := omega) only [go_sem, p1, p2, if_pos, if_neg, dec_t, dec_f, IntWalk.i64_in, IntWalk.u32_in, IntWalk.u64_in, beq_no]
  · obtain ⟨x, p1⟩ := side_neg (show q.num < 0 by omega)
    simp only [zI_eq] at p1
    simp -implicitDefEqProofs (maxSteps := 5000000) (disch := omega) only [go_sem, p1, p2, if_pos, if_neg, dec_t, dec_f, IntWalk.i64_in, IntWalk.u32_in, IntWalk.u64_in, beq_no]
@[go_sem] theorem rzero_s : Rq 82 [] = some (.agg (zQ 0)) := by
  refine RL_of (f := 82) (fn := Tryz.f82) Tryz.func82 rfl rfl rfl (Nat.le_of_ble_eq_true rfl) ?_
  simp -implicitDefEqProofs (maxSteps := 5000000) (disch := first | omega | (with_reducible apply Nat.le_trans; (focus (repeat' (first | with_reducible assumption | with_reducible apply rb_mul | with_reducible apply rb_add | with_reducible apply rb_sub | with_reducible apply rb_neg | with_reducible apply rb_div | with_reducible apply rb_divInt | with_reducible apply rb_int | with_reducible apply lb_mul | with_reducible apply lb_add | with_reducible apply lb_sub | with_reducible apply lb_neg | exact Nat.le_refl _))); omega)) only [go_sem, if_pos, if_neg, dec_t, dec_f, IntWalk.i64_in, IntWalk.u32_in, IntWalk.u64_in, beq_no]
@[go_sem] theorem rfromRat_s {a : Rat} : Rq 44 [.agg [.bool (ng (a).num), .sl false (us (lm (a).num)), .bool false, .sl false (us (lm ((a).den : Int)))]] = some (.agg (zR a 0 0)) := by
  refine RL_of (f := 44) (fn := Tryz.f44) Tryz.func44 rfl rfl rfl (Nat.le_of_ble_eq_true rfl) ?_
  simp -implicitDefEqProofs (maxSteps := 5000000) (disch := first | omega | (with_reducible apply Nat.le_trans; (focus (repeat' (first | with_reducible assumption | with_reducible apply rb_mul | with_reducible apply rb_add | with_reducible apply rb_sub | with_reducible apply rb_neg | with_reducible apply rb_div | with_reducible apply rb_divInt | with_reducible apply rb_int | with_reducible apply lb_mul | with_reducible apply lb_add | with_reducible apply lb_sub | with_reducible apply lb_neg | exact Nat.le_refl _))); omega)) only [go_sem, if_pos, if_neg, dec_t, dec_f, IntWalk.i64_in, IntWalk.u32_in, IntWalk.u64_in, beq_no]
theorem rreduced_s {a b c : Rat} (hb : rl b ≤ 200000000) : Rq 89 [.agg [.bool (ng (a).num), .sl false (us (lm (a).num)), .bool false, .sl false (us (lm ((a).den : Int)))], .agg [.bool (ng (b).num), .sl false (us (lm (b).num)), .bool false, .sl false (us (lm ((b).den : Int)))], .agg [.bool (ng (c).num), .sl false (us (lm (c).num)), .bool false, .sl false (us (lm ((c).den : Int)))]] = some (.agg (zR a b (cN b c))) := by
  refine RL_of (f := 89) (fn := Tryz.f89) Tryz.func89 rfl rfl rfl (Nat.le_of_ble_eq_true rfl) ?_
  by_cases k : b = 0
  · have s := sg_zero k
    rw [cN_0 k]
    simp -implicitDefEqProofs (maxSteps := 5000000) (disch := first | omega | (with_reducible apply Nat.le_trans; (focus (repeat' (first | with_reducible assumption | with_reducible apply rb_mul | with_reducible apply rb_add | with_reducible apply rb_sub | with_reducible apply rb_neg | with_reducible apply rb_div | with_reducible apply rb_divInt | with_reducible apply rb_int | with_reducible apply lb_mul | with_reducible apply lb_add | with_reducible apply lb_sub | with_reducible apply lb_neg | exact Nat.le_refl _))); omega)) only [go_sem, s, if_pos, if_neg, dec_t, dec_f, IntWalk.i64_in, IntWalk.u32_in, IntWalk.u64_in, beq_no]
  · have s : ¬ sg b = 0 := fun e => k (sg_eq.1 e)
    rw [cN_1 k]
    simp -implicitDefEqProofs (maxSteps := 5000000) (disch := first | omega | (with_reducible apply Nat.le_trans; (focus (repeat' (first | with_reducible assumption | with_reducible apply rb_mul | with_reducible apply rb_add | with_reducible apply rb_sub | with_reducible apply rb_neg | with_reducible apply rb_div | with_reducible apply rb_divInt | with_reducible apply rb_int | with_reducible apply lb_mul | with_reducible apply lb_add | with_reducible apply lb_sub | with_reducible apply lb_neg | exact Nat.le_refl _))); omega)) only [go_sem, s, if_pos, if_neg, dec_t, dec_f, IntWalk.i64_in, IntWalk.u32_in, IntWalk.u64_in, beq_no]
theorem rmake_s {a b c : Rat} (ha : rl a ≤ 50000000) (hb : rl b ≤ 50000000) (hc : rl c ≤ 50000000) (h0 : 0 ≤ c) : Rq 49 [.agg [.bool (ng (a).num), .sl false (us (lm (a).num)), .bool false, .sl false (us (lm ((a).den : Int)))], .agg [.bool (ng (b).num), .sl false (us (lm (b).num)), .bool false, .sl false (us (lm ((b).den : Int)))], .agg [.bool (ng (c).num), .sl false (us (lm (c).num)), .bool false, .sl false (us (lm ((c).den : Int)))]] = some (.tup [.agg (zR (mA a b c) (mB b c) (mC b c)), .int .i64 0]) := by
  refine RL_of (f := 49) (fn := Tryz.f49) Tryz.func49 rfl rfl rfl (Nat.le_of_ble_eq_true rfl) ?_
  have s0 : ¬ sg c < 0 := fun e => by have := sg_lt.1 e; grind
  by_cases h : Isq c
  · obtain ⟨e1, e2, e3⟩ := mk_sq (A := a) (B := b) h
    rw [e1, e2, e3]
    have sq := qSqrt_yes (q := c) (by omega) h
    have ls := rl_sqv h
    simp -implicitDefEqProofs (maxSteps := 5000000) (disch := first | omega | (with_reducible apply Nat.le_trans; (focus (repeat' (first | with_reducible assumption | with_reducible apply rb_mul | with_reducible apply rb_add | with_reducible apply rb_sub | with_reducible apply rb_neg | with_reducible apply rb_div | with_reducible apply rb_divInt | with_reducible apply rb_int | with_reducible apply lb_mul | with_reducible apply lb_add | with_reducible apply lb_sub | with_reducible apply lb_neg | exact Nat.le_refl _))); omega)) only [go_sem, s0, sq, if_pos, if_neg, dec_t, dec_f, IntWalk.i64_in, IntWalk.u32_in, IntWalk.u64_in, beq_no]
  · have sq := qSqrt_no (q := c) (by omega) h
    have rd := rreduced_s (a := a) (b := b) (c := c) (by omega)
    by_cases k : b = 0
    · obtain ⟨e1, e2, e3⟩ := mk_zero (A := a) h k
      rw [e1, e2, e3]
      rw [cN_0 k] at rd
      subst k
      simp -implicitDefEqProofs (maxSteps := 5000000) (disch := first | omega | (with_reducible apply Nat.le_trans; (focus (repeat' (first | with_reducible assumption | with_reducible apply rb_mul | with_reducible apply rb_add | with_reducible apply rb_sub | with_reducible apply rb_neg | with_reducible apply rb_div | with_reducible apply rb_divInt | with_reducible apply rb_int | with_reducible apply lb_mul | with_reducible apply lb_add | with_reducible apply lb_sub | with_reducible apply lb_neg | exact Nat.le_refl _))); omega)) only [go_sem, s0, sq, rd, if_pos, if_neg, dec_t, dec_f, IntWalk.i64_in, IntWalk.u32_in, IntWalk.u64_in, beq_no]
    · obtain ⟨e1, e2, e3⟩ := mk_no (A := a) h k
      rw [e1, e2, e3]
      rw [cN_1 k] at rd
      simp -implicitDefEqProofs (maxSteps := 5000000) (disch := first | omega | (with_reducible apply Nat.le_trans; (focus (repeat' (first | with_reducible assumption | with_reducible apply rb_mul | with_reducible apply rb_add | with_reducible apply rb_sub | with_reducible apply rb_neg | with_reducible apply rb_div | with_reducible apply rb_divInt | with_reducible apply rb_int | with_reducible apply lb_mul | with_reducible apply lb_add | with_reducible apply lb_sub | with_reducible apply lb_neg | exact Nat.le_refl _))); omega)) only [go_sem, s0, sq, rd, if_pos, if_neg, dec_t, dec_f, IntWalk.i64_in, IntWalk.u32_in, IntWalk.u64_in, beq_no]
end Go.Pi

set_option linter.unusedVariables false
set_option linter.unusedSimpArgs false
set_option maxHeartbeats 4000000
set_option maxRecDepth 8000
/-
Distances from segments: the program.
-/
namespace Go.Pi
open Go Go.Proofs Num
@[go_sem] theorem ti_Rats : ti Pq 130 = some ⟨.slice 37, 1, 24, [.sl true []]⟩ := by kernel_rfl
@[go_sem] theorem dAdd_s {a b : Rat} (ha : rl a ≤ 200000000) (hb : rl b ≤ 200000000) : Rq 168 [.agg [.bool (ng (a).num), .sl false (us (lm (a).num)), .bool false, .sl false (us (lm ((a).den : Int)))], .agg [.bool (ng (b).num), .sl false (us (lm (b).num)), .bool false, .sl false (us (lm ((b).den : Int)))]] = some (.agg (zQ (a + b))) := by
  refine RL_of (f := 168) (fn := Tryz.f168) Tryz.func168 rfl rfl rfl (Nat.le_of_ble_eq_true rfl) ?_
  simp -implicitDefEqProofs (maxSteps := 5000000) (disch := first | omega | (with_reducible apply Nat.le_trans; (focus (repeat' (first | with_reducible assumption | with_reducible apply rb_mul | with_reducible apply rb_add | with_reducible apply rb_sub | with_reducible apply rb_neg | with_reducible apply rb_div | with_reducible apply rb_divInt | with_reducible apply rb_int | with_reducible apply lb_mul | with_reducible apply lb_add | with_reducible apply lb_sub | with_reducible apply lb_neg | exact Nat.le_refl _))); omega)) only [go_sem, if_pos, if_neg, dec_t, dec_f, IntWalk.i64_in, IntWalk.u32_in, IntWalk.u64_in, beq_no]
@[go_sem] theorem dSub_s {a b : Rat} (ha : rl a ≤ 200000000) (hb : rl b ≤ 200000000) : Rq 167 [.agg [.bool (ng (a).num), .sl false (us (lm (a).num)), .bool false, .sl false (us (lm ((a).den : Int)))], .agg [.bool (ng (b).num), .sl false (us (lm (b).num)), .bool false, .sl false (us (lm ((b).den : Int)))]] = some (.agg (zQ (a - b))) := by
  refine RL_of (f := 167) (fn := Tryz.f167) Tryz.func167 rfl rfl rfl (Nat.le_of_ble_eq_true rfl) ?_
  simp -implicitDefEqProofs (maxSteps := 5000000) (disch := first | omega | (with_reducible apply Nat.le_trans; (focus (repeat' (first | with_reducible assumption | with_reducible apply rb_mul | with_reducible apply rb_add | with_reducible apply rb_sub | with_reducible apply rb_neg | with_reducible apply rb_div | with_reducible apply rb_divInt | with_reducible apply rb_int | with_reducible apply lb_mul | with_reducible apply lb_add | with_reducible apply lb_sub | with_reducible apply lb_neg | exact Nat.le_refl _))); omega)) only [go_sem, if_pos, if_neg, dec_t, dec_f, IntWalk.i64_in, IntWalk.u32_in, IntWalk.u64_in, beq_no]
@[go_sem] theorem dMul_s {a b : Rat} (ha : rl a ≤ 200000000) (hb : rl b ≤ 200000000) : Rq 149 [.agg [.bool (ng (a).num), .sl false (us (lm (a).num)), .bool false, .sl false (us (lm ((a).den : Int)))], .agg [.bool (ng (b).num), .sl false (us (lm (b).num)), .bool false, .sl false (us (lm ((b).den : Int)))]] = some (.agg (zQ (a * b))) := by
  refine RL_of (f := 149) (fn := Tryz.f149) Tryz.func149 rfl rfl rfl (Nat.le_of_ble_eq_true rfl) ?_
  simp -implicitDefEqProofs (maxSteps := 5000000) (disch := first | omega | (with_reducible apply Nat.le_trans; (focus (repeat' (first | with_reducible assumption | with_reducible apply rb_mul | with_reducible apply rb_add | with_reducible apply rb_sub | with_reducible apply rb_neg | with_reducible apply rb_div | with_reducible apply rb_divInt | with_reducible apply rb_int | with_reducible apply lb_mul | with_reducible apply lb_add | with_reducible apply lb_sub | with_reducible apply lb_neg | exact Nat.le_refl _))); omega)) only [go_sem, if_pos, if_neg, dec_t, dec_f, IntWalk.i64_in, IntWalk.u32_in, IntWalk.u64_in, beq_no]
@[go_sem] theorem dWay_s {x y u v : Rat} (h1 : rl x ≤ 10000000) (h2 : rl y ≤ 10000000) (h3 : rl u ≤ 10000000) (h4 : rl v ≤ 10000000) : Rq 145 [.agg [.bool (ng (x).num), .sl false (us (lm (x).num)), .bool false, .sl false (us (lm ((x).den : Int))), .bool (ng (y).num), .sl false (us (lm (y).num)), .bool false, .sl false (us (lm ((y).den : Int)))], .agg [.bool (ng (u).num), .sl false (us (lm (u).num)), .bool false, .sl false (us (lm ((u).den : Int))), .bool (ng (v).num), .sl false (us (lm (v).num)), .bool false, .sl false (us (lm ((v).den : Int)))]] = some (.agg (zV (u - x) (v - y))) := by
  refine RL_of (f := 145) (fn := Tryz.f145) Tryz.func145 rfl rfl rfl (Nat.le_of_ble_eq_true rfl) ?_
  simp -implicitDefEqProofs (maxSteps := 5000000) (disch := first | omega | (with_reducible apply Nat.le_trans; (focus (repeat' (first | with_reducible assumption | with_reducible apply rb_mul | with_reducible apply rb_add | with_reducible apply rb_sub | with_reducible apply rb_neg | with_reducible apply rb_div | with_reducible apply rb_divInt | with_reducible apply rb_int | with_reducible apply lb_mul | with_reducible apply lb_add | with_reducible apply lb_sub | with_reducible apply lb_neg | exact Nat.le_refl _))); omega)) only [go_sem, if_pos, if_neg, dec_t, dec_f, IntWalk.i64_in, IntWalk.u32_in, IntWalk.u64_in, beq_no]
@[go_sem] theorem dDot_s {x y u v : Rat} (h1 : rl x ≤ 10000000) (h2 : rl y ≤ 10000000) (h3 : rl u ≤ 10000000) (h4 : rl v ≤ 10000000) : Rq 147 [.agg [.bool (ng (x).num), .sl false (us (lm (x).num)), .bool false, .sl false (us (lm ((x).den : Int))), .bool (ng (y).num), .sl false (us (lm (y).num)), .bool false, .sl false (us (lm ((y).den : Int)))], .agg [.bool (ng (u).num), .sl false (us (lm (u).num)), .bool false, .sl false (us (lm ((u).den : Int))), .bool (ng (v).num), .sl false (us (lm (v).num)), .bool false, .sl false (us (lm ((v).den : Int)))]] = some (.agg (zQ (x * u + y * v))) := by
  refine RL_of (f := 147) (fn := Tryz.f147) Tryz.func147 rfl rfl rfl (Nat.le_of_ble_eq_true rfl) ?_
  simp -implicitDefEqProofs (maxSteps := 5000000) (disch := first | omega | (with_reducible apply Nat.le_trans; (focus (repeat' (first | with_reducible assumption | with_reducible apply rb_mul | with_reducible apply rb_add | with_reducible apply rb_sub | with_reducible apply rb_neg | with_reducible apply rb_div | with_reducible apply rb_divInt | with_reducible apply rb_int | with_reducible apply lb_mul | with_reducible apply lb_add | with_reducible apply lb_sub | with_reducible apply lb_neg | exact Nat.le_refl _))); omega)) only [go_sem, if_pos, if_neg, dec_t, dec_f, IntWalk.i64_in, IntWalk.u32_in, IntWalk.u64_in, beq_no]
@[go_sem] theorem dCross_s {x y u v : Rat} (h1 : rl x ≤ 10000000) (h2 : rl y ≤ 10000000) (h3 : rl u ≤ 10000000) (h4 : rl v ≤ 10000000) : Rq 146 [.agg [.bool (ng (x).num), .sl false (us (lm (x).num)), .bool false, .sl false (us (lm ((x).den : Int))), .bool (ng (y).num), .sl false (us (lm (y).num)), .bool false, .sl false (us (lm ((y).den : Int)))], .agg [.bool (ng (u).num), .sl false (us (lm (u).num)), .bool false, .sl false (us (lm ((u).den : Int))), .bool (ng (v).num), .sl false (us (lm (v).num)), .bool false, .sl false (us (lm ((v).den : Int)))]] = some (.agg (zQ (x * v - y * u))) := by
  refine RL_of (f := 146) (fn := Tryz.f146) Tryz.func146 rfl rfl rfl (Nat.le_of_ble_eq_true rfl) ?_
  simp -implicitDefEqProofs (maxSteps := 5000000) (disch := first | omega | (with_reducible apply Nat.le_trans; (focus (repeat' (first | with_reducible assumption | with_reducible apply rb_mul | with_reducible apply rb_add | with_reducible apply rb_sub | with_reducible apply rb_neg | with_reducible apply rb_div | with_reducible apply rb_divInt | with_reducible apply rb_int | with_reducible apply lb_mul | with_reducible apply lb_add | with_reducible apply lb_sub | with_reducible apply lb_neg | exact Nat.le_refl _))); omega)) only [go_sem, if_pos, if_neg, dec_t, dec_f, IntWalk.i64_in, IntWalk.u32_in, IntWalk.u64_in, beq_no]
theorem dOver_s {a b : Rat} (ha : rl a ≤ 200000000) (hb : rl b ≤ 200000000) (h0 : b ≠ 0) : Rq 148 [.agg [.bool (ng (a).num), .sl false (us (lm (a).num)), .bool false, .sl false (us (lm ((a).den : Int)))], .agg [.bool (ng (b).num), .sl false (us (lm (b).num)), .bool false, .sl false (us (lm ((b).den : Int)))]] = some (.agg (zQ (a / b))) := by
  refine RL_of (f := 148) (fn := Tryz.f148) Tryz.func148 rfl rfl rfl (Nat.le_of_ble_eq_true rfl) ?_
  have d := qDiv_s (a := a) (b := b) (by omega) (by omega) h0
  simp -implicitDefEqProofs (maxSteps := 5000000) (disch := first | omega | (with_reducible apply Nat.le_trans; (focus (repeat' (first | with_reducible assumption | with_reducible apply rb_mul | with_reducible apply rb_add | with_reducible apply rb_sub | with_reducible apply rb_neg | with_reducible apply rb_div | with_reducible apply rb_divInt | with_reducible apply rb_int | with_reducible apply lb_mul | with_reducible apply lb_add | with_reducible apply lb_sub | with_reducible apply lb_neg | exact Nat.le_refl _))); omega)) only [go_sem, d, if_pos, if_neg, dec_t, dec_f, IntWalk.i64_in, IntWalk.u32_in, IntWalk.u64_in, beq_no]
theorem dToSeg_s {ax ay bx bz px py : Rat} (h1 : rl ax ≤ 1000) (h2 : rl ay ≤ 1000) (h3 : rl bx ≤ 1000) (h4 : rl bz ≤ 1000) (h5 : rl px ≤ 1000) (h6 : rl py ≤ 1000) :
    Rq 114 [.agg [.bool (ng (ax).num), .sl false (us (lm (ax).num)), .bool false, .sl false (us (lm ((ax).den : Int))), .bool (ng (ay).num), .sl false (us (lm (ay).num)), .bool false, .sl false (us (lm ((ay).den : Int)))], .agg [.bool (ng (bx).num), .sl false (us (lm (bx).num)), .bool false, .sl false (us (lm ((bx).den : Int))), .bool (ng (bz).num), .sl false (us (lm (bz).num)), .bool false, .sl false (us (lm ((bz).den : Int)))], .agg [.bool (ng (px).num), .sl false (us (lm (px).num)), .bool false, .sl false (us (lm ((px).den : Int))), .bool (ng (py).num), .sl false (us (lm (py).num)), .bool false, .sl false (us (lm ((py).den : Int)))]] = some (.agg (zQ (dsF ax ay bx bz px py))) := by
  refine RL_of (f := 114) (fn := Tryz.f114) Tryz.func114 rfl rfl rfl (Nat.le_of_ble_eq_true rfl) ?_
  unfold dsF
  by_cases k1 : (bx - ax) * (px - ax) + (bz - ay) * (py - ay) ≤ 0
  · rw [if_pos k1]
    have s1 := sg_le.2 k1
    simp -implicitDefEqProofs (maxSteps := 5000000) (disch := first | omega | (with_reducible apply Nat.le_trans; (focus (repeat' (first | with_reducible assumption | with_reducible apply rb_mul | with_reducible apply rb_add | with_reducible apply rb_sub | with_reducible apply rb_neg | with_reducible apply rb_div | with_reducible apply rb_divInt | with_reducible apply rb_int | with_reducible apply lb_mul | with_reducible apply lb_add | with_reducible apply lb_sub | with_reducible apply lb_neg | exact Nat.le_refl _))); omega)) only [go_sem, s1, if_pos, if_neg, dec_t, dec_f, IntWalk.i64_in, IntWalk.u32_in, IntWalk.u64_in, beq_no]
  · rw [if_neg k1]
    have s1 : ¬ sg ((bx - ax) * (px - ax) + (bz - ay) * (py - ay)) ≤ 0 := fun e => k1 (sg_le.1 e)
    by_cases k2 : (bx - ax) * (bx - ax) + (bz - ay) * (bz - ay) ≤ (bx - ax) * (px - ax) + (bz - ay) * (py - ay)
    · rw [if_pos k2]
      have s2 : 0 ≤ sg ((bx - ax) * (px - ax) + (bz - ay) * (py - ay) - ((bx - ax) * (bx - ax) + (bz - ay) * (bz - ay))) := sg_ge.2 (by grind)
      simp -implicitDefEqProofs (maxSteps := 5000000) (disch := first | omega | (with_reducible apply Nat.le_trans; (focus (repeat' (first | with_reducible assumption | with_reducible apply rb_mul | with_reducible apply rb_add | with_reducible apply rb_sub | with_reducible apply rb_neg | with_reducible apply rb_div | with_reducible apply rb_divInt | with_reducible apply rb_int | with_reducible apply lb_mul | with_reducible apply lb_add | with_reducible apply lb_sub | with_reducible apply lb_neg | exact Nat.le_refl _))); omega)) only [go_sem, s1, s2, if_pos, if_neg, dec_t, dec_f, IntWalk.i64_in, IntWalk.u32_in, IntWalk.u64_in, beq_no]
    · rw [if_neg k2]
      have s2 : ¬ 0 ≤ sg ((bx - ax) * (px - ax) + (bz - ay) * (py - ay) - ((bx - ax) * (bx - ax) + (bz - ay) * (bz - ay))) := fun e => k2 (by have := sg_ge.1 e; grind)
      have n0 : (bx - ax) * (bx - ax) + (bz - ay) * (bz - ay) ≠ 0 := fun e => by rw [e] at k2; grind
      have d := dOver_s (a := ((bx - ax) * (py - ay) - (bz - ay) * (px - ax)) * ((bx - ax) * (py - ay) - (bz - ay) * (px - ax))) (b := (bx - ax) * (bx - ax) + (bz - ay) * (bz - ay)) (by (with_reducible apply Nat.le_trans; (focus (repeat' (first | with_reducible assumption | with_reducible apply rb_mul | with_reducible apply rb_add | with_reducible apply rb_sub | with_reducible apply rb_neg | with_reducible apply rb_div | with_reducible apply rb_divInt | with_reducible apply rb_int | with_reducible apply lb_mul | with_reducible apply lb_add | with_reducible apply lb_sub | with_reducible apply lb_neg | exact Nat.le_refl _))); omega)) (by (with_reducible apply Nat.le_trans; (focus (repeat' (first | with_reducible assumption | with_reducible apply rb_mul | with_reducible apply rb_add | with_reducible apply rb_sub | with_reducible apply rb_neg | with_reducible apply rb_div | with_reducible apply rb_divInt | with_reducible apply rb_int | with_reducible apply lb_mul | with_reducible apply lb_add | with_reducible apply lb_sub | with_reducible apply lb_neg | exact Nat.le_refl _))); omega)) n0
      simp -implicitDefEqProofs (maxSteps := 5000000) (disch := first | omega | (with_reducible apply Nat.le_trans; (focus (repeat' (first | with_reducible assumption | with_reducible apply rb_mul | with_reducible apply rb_add | with_reducible apply rb_sub | with_reducible apply rb_neg | with_reducible apply rb_div | with_reducible apply rb_divInt | with_reducible apply rb_int | with_reducible apply lb_mul | with_reducible apply lb_add | with_reducible apply lb_sub | with_reducible apply lb_neg | exact Nat.le_refl _))); omega)) only [go_sem, s1, s2, d, if_pos, if_neg, dec_t, dec_f, IntWalk.i64_in, IntWalk.u32_in, IntWalk.u64_in, beq_no]
theorem dCrossing_s {ax ay bx bz px py : Rat} (h1 : rl ax ≤ 1000) (h2 : rl ay ≤ 1000) (h3 : rl bx ≤ 1000) (h4 : rl bz ≤ 1000) (h5 : rl px ≤ 1000) (h6 : rl py ≤ 1000) :
    Rq 113 [.agg [.bool (ng (ax).num), .sl false (us (lm (ax).num)), .bool false, .sl false (us (lm ((ax).den : Int))), .bool (ng (ay).num), .sl false (us (lm (ay).num)), .bool false, .sl false (us (lm ((ay).den : Int)))], .agg [.bool (ng (bx).num), .sl false (us (lm (bx).num)), .bool false, .sl false (us (lm ((bx).den : Int))), .bool (ng (bz).num), .sl false (us (lm (bz).num)), .bool false, .sl false (us (lm ((bz).den : Int)))], .agg [.bool (ng (px).num), .sl false (us (lm (px).num)), .bool false, .sl false (us (lm ((px).den : Int))), .bool (ng (py).num), .sl false (us (lm (py).num)), .bool false, .sl false (us (lm ((py).den : Int)))], .agg [.bool (ng (px).num), .sl false (us (lm (px).num)), .bool false, .sl false (us (lm ((px).den : Int))), .bool (ng (py).num), .sl false (us (lm (py).num)), .bool false, .sl false (us (lm ((py).den : Int)))]] = some (.bool false) := by
  refine RL_of (f := 113) (fn := Tryz.f113) Tryz.func113 rfl rfl rfl (Nat.le_of_ble_eq_true rfl) ?_
  rcases sg_cases ((bx - ax) * (py - ay) - (bz - ay) * (px - ax)) with ⟨-, e⟩ | ⟨-, e⟩ | ⟨-, e⟩ <;> simp -implicitDefEqProofs (maxSteps := 5000000) (disch := first | omega | (with_reducible apply Nat.le_trans; (focus (repeat' (first | with_reducible assumption | with_reducible apply rb_mul | with_reducible apply rb_add | with_reducible apply rb_sub | with_reducible apply rb_neg | with_reducible apply rb_div | with_reducible apply rb_divInt | with_reducible apply rb_int | with_reducible apply lb_mul | with_reducible apply lb_add | with_reducible apply lb_sub | with_reducible apply lb_neg | exact Nat.le_refl _))); omega)) only [go_sem, e, if_pos, if_neg, dec_t, dec_f, IntWalk.i64_in, IntWalk.u32_in, IntWalk.u64_in, beq_no]
theorem ds_point (vx vy ax ay : Rat) : dsF vx vy vx vy ax ay = (ax - vx) * (ax - vx) + (ay - vy) * (ay - vy) := by
  unfold dsF
  rw [if_pos (by grind)]
theorem rl_ds {ax ay bx bz px py : Rat} (h1 : rl ax ≤ 1000) (h2 : rl ay ≤ 1000) (h3 : rl bx ≤ 1000) (h4 : rl bz ≤ 1000) (h5 : rl px ≤ 1000) (h6 : rl py ≤ 1000) : rl (dsF ax ay bx bz px py) ≤ 100000 := by
  unfold dsF
  split
  · (with_reducible apply Nat.le_trans; (focus (repeat' (first | with_reducible assumption | with_reducible apply rb_mul | with_reducible apply rb_add | with_reducible apply rb_sub | with_reducible apply rb_neg | with_reducible apply rb_div | with_reducible apply rb_divInt | with_reducible apply rb_int | with_reducible apply lb_mul | with_reducible apply lb_add | with_reducible apply lb_sub | with_reducible apply lb_neg | exact Nat.le_refl _))); omega)
  · split
    · (with_reducible apply Nat.le_trans; (focus (repeat' (first | with_reducible assumption | with_reducible apply rb_mul | with_reducible apply rb_add | with_reducible apply rb_sub | with_reducible apply rb_neg | with_reducible apply rb_div | with_reducible apply rb_divInt | with_reducible apply rb_int | with_reducible apply lb_mul | with_reducible apply lb_add | with_reducible apply lb_sub | with_reducible apply lb_neg | exact Nat.le_refl _))); omega)
    · (with_reducible apply Nat.le_trans; (focus (repeat' (first | with_reducible assumption | with_reducible apply rb_mul | with_reducible apply rb_add | with_reducible apply rb_sub | with_reducible apply rb_neg | with_reducible apply rb_div | with_reducible apply rb_divInt | with_reducible apply rb_int | with_reducible apply lb_mul | with_reducible apply lb_add | with_reducible apply lb_sub | with_reducible apply lb_neg | exact Nat.le_refl _))); omega)
theorem dSegments_s {ax ay bx bz px py : Rat} (h1 : rl ax ≤ 1000) (h2 : rl ay ≤ 1000) (h3 : rl bx ≤ 1000) (h4 : rl bz ≤ 1000) (h5 : rl px ≤ 1000) (h6 : rl py ≤ 1000) :
    Rq 76 [.agg [.bool (ng (ax).num), .sl false (us (lm (ax).num)), .bool false, .sl false (us (lm ((ax).den : Int))), .bool (ng (ay).num), .sl false (us (lm (ay).num)), .bool false, .sl false (us (lm ((ay).den : Int)))], .agg [.bool (ng (bx).num), .sl false (us (lm (bx).num)), .bool false, .sl false (us (lm ((bx).den : Int))), .bool (ng (bz).num), .sl false (us (lm (bz).num)), .bool false, .sl false (us (lm ((bz).den : Int)))], .agg [.bool (ng (px).num), .sl false (us (lm (px).num)), .bool false, .sl false (us (lm ((px).den : Int))), .bool (ng (py).num), .sl false (us (lm (py).num)), .bool false, .sl false (us (lm ((py).den : Int)))], .agg [.bool (ng (px).num), .sl false (us (lm (px).num)), .bool false, .sl false (us (lm ((px).den : Int))), .bool (ng (py).num), .sl false (us (lm (py).num)), .bool false, .sl false (us (lm ((py).den : Int)))]] = some (.agg (zQ (dsF ax ay bx bz px py))) := by
  refine RL_of (f := 76) (fn := Tryz.f76) Tryz.func76 rfl rfl rfl (Nat.le_of_ble_eq_true rfl) ?_
  have cr := dCrossing_s h1 h2 h3 h4 h5 h6
  have t1 := dToSeg_s h1 h2 h3 h4 h5 h6
  have t2 := dToSeg_s (ax := px) (ay := py) (bx := px) (bz := py) (px := ax) (py := ay) h5 h6 h5 h6 h1 h2
  have t3 := dToSeg_s (ax := px) (ay := py) (bx := px) (bz := py) (px := bx) (py := bz) h5 h6 h5 h6 h3 h4
  have l1 := rl_ds h1 h2 h3 h4 h5 h6
  have en := ds_ends ax ay bx bz px py
  have l2 : rl (dsF px py px py ax ay) ≤ 100000 := rl_ds h5 h6 h5 h6 h1 h2
  have l3 : rl (dsF px py px py bx bz) ≤ 100000 := rl_ds h5 h6 h5 h6 h3 h4
  have s1 : ¬ sg (dsF ax ay bx bz px py - dsF ax ay bx bz px py) < 0 := fun e => by have := sg_lt.1 e; grind
  have s2 : ¬ sg (dsF px py px py ax ay - dsF ax ay bx bz px py) < 0 := fun e => by have := sg_lt.1 e; rw [ds_point] at this; grind
  have s3 : ¬ sg (dsF px py px py bx bz - dsF ax ay bx bz px py) < 0 := fun e => by have := sg_lt.1 e; rw [ds_point] at this; grind
  clear en
  generalize dsF ax ay bx bz px py = D at *
  generalize dsF px py px py ax ay = E at *
  generalize dsF px py px py bx bz = F at *
  simp -implicitDefEqProofs (maxSteps := 5000000) (disch := first | omega | (with_reducible apply Nat.le_trans; (focus (repeat' (first | with_reducible assumption | with_reducible apply rb_mul | with_reducible apply rb_add | with_reducible apply rb_sub | with_reducible apply rb_neg | with_reducible apply rb_div | with_reducible apply rb_divInt | with_reducible apply rb_int | with_reducible apply lb_mul | with_reducible apply lb_add | with_reducible apply lb_sub | with_reducible apply lb_neg | exact Nat.le_refl _))); omega)) only [go_sem, cr, t1, t2, t3, xL_loop, lpE_normal, lpE_exit, s1, s2, s3, if_pos, if_neg, dec_t, dec_f, IntWalk.i64_in, IntWalk.u32_in, IntWalk.u64_in, beq_no]
end Go.Pi

set_option linter.unusedVariables false
set_option linter.unusedSimpArgs false
set_option maxHeartbeats 4000000
set_option maxRecDepth 8000
/-
Distances from segments: the reference.
-/
namespace Go.Pi
open Go Go.Proofs Num
@[go_sem] theorem d12Add_s {a b : Rat} (ha : rl a ≤ 200000000) (hb : rl b ≤ 200000000) : Rq 95 [.agg [.bool (ng (a).num), .sl false (us (lm (a).num)), .bool false, .sl false (us (lm ((a).den : Int)))], .agg [.bool (ng (b).num), .sl false (us (lm (b).num)), .bool false, .sl false (us (lm ((b).den : Int)))]] = some (.agg (zQ (a + b))) := by
  refine RL_of (f := 95) (fn := Tryz.f95) Tryz.func95 rfl rfl rfl (Nat.le_of_ble_eq_true rfl) ?_
  simp -implicitDefEqProofs (maxSteps := 5000000) (disch := first | omega | (with_reducible apply Nat.le_trans; (focus (repeat' (first | with_reducible assumption | with_reducible apply rb_mul | with_reducible apply rb_add | with_reducible apply rb_sub | with_reducible apply rb_neg | with_reducible apply rb_div | with_reducible apply rb_divInt | with_reducible apply rb_int | with_reducible apply lb_mul | with_reducible apply lb_add | with_reducible apply lb_sub | with_reducible apply lb_neg | exact Nat.le_refl _))); omega)) only [go_sem, if_pos, if_neg, dec_t, dec_f, IntWalk.i64_in, IntWalk.u32_in, IntWalk.u64_in, beq_no]
@[go_sem] theorem d12Sub_s {a b : Rat} (ha : rl a ≤ 200000000) (hb : rl b ≤ 200000000) : Rq 92 [.agg [.bool (ng (a).num), .sl false (us (lm (a).num)), .bool false, .sl false (us (lm ((a).den : Int)))], .agg [.bool (ng (b).num), .sl false (us (lm (b).num)), .bool false, .sl false (us (lm ((b).den : Int)))]] = some (.agg (zQ (a - b))) := by
  refine RL_of (f := 92) (fn := Tryz.f92) Tryz.func92 rfl rfl rfl (Nat.le_of_ble_eq_true rfl) ?_
  simp -implicitDefEqProofs (maxSteps := 5000000) (disch := first | omega | (with_reducible apply Nat.le_trans; (focus (repeat' (first | with_reducible assumption | with_reducible apply rb_mul | with_reducible apply rb_add | with_reducible apply rb_sub | with_reducible apply rb_neg | with_reducible apply rb_div | with_reducible apply rb_divInt | with_reducible apply rb_int | with_reducible apply lb_mul | with_reducible apply lb_add | with_reducible apply lb_sub | with_reducible apply lb_neg | exact Nat.le_refl _))); omega)) only [go_sem, if_pos, if_neg, dec_t, dec_f, IntWalk.i64_in, IntWalk.u32_in, IntWalk.u64_in, beq_no]
@[go_sem] theorem d12Mul_s {a b : Rat} (ha : rl a ≤ 200000000) (hb : rl b ≤ 200000000) : Rq 96 [.agg [.bool (ng (a).num), .sl false (us (lm (a).num)), .bool false, .sl false (us (lm ((a).den : Int)))], .agg [.bool (ng (b).num), .sl false (us (lm (b).num)), .bool false, .sl false (us (lm ((b).den : Int)))]] = some (.agg (zQ (a * b))) := by
  refine RL_of (f := 96) (fn := Tryz.f96) Tryz.func96 rfl rfl rfl (Nat.le_of_ble_eq_true rfl) ?_
  simp -implicitDefEqProofs (maxSteps := 5000000) (disch := first | omega | (with_reducible apply Nat.le_trans; (focus (repeat' (first | with_reducible assumption | with_reducible apply rb_mul | with_reducible apply rb_add | with_reducible apply rb_sub | with_reducible apply rb_neg | with_reducible apply rb_div | with_reducible apply rb_divInt | with_reducible apply rb_int | with_reducible apply lb_mul | with_reducible apply lb_add | with_reducible apply lb_sub | with_reducible apply lb_neg | exact Nat.le_refl _))); omega)) only [go_sem, if_pos, if_neg, dec_t, dec_f, IntWalk.i64_in, IntWalk.u32_in, IntWalk.u64_in, beq_no]
@[go_sem] theorem d12Way_s {x y u v : Rat} (h1 : rl x ≤ 10000000) (h2 : rl y ≤ 10000000) (h3 : rl u ≤ 10000000) (h4 : rl v ≤ 10000000) : Rq 52 [.agg [.bool (ng (x).num), .sl false (us (lm (x).num)), .bool false, .sl false (us (lm ((x).den : Int))), .bool (ng (y).num), .sl false (us (lm (y).num)), .bool false, .sl false (us (lm ((y).den : Int)))], .agg [.bool (ng (u).num), .sl false (us (lm (u).num)), .bool false, .sl false (us (lm ((u).den : Int))), .bool (ng (v).num), .sl false (us (lm (v).num)), .bool false, .sl false (us (lm ((v).den : Int)))]] = some (.agg (zV (u - x) (v - y))) := by
  refine RL_of (f := 52) (fn := Tryz.f52) Tryz.func52 rfl rfl rfl (Nat.le_of_ble_eq_true rfl) ?_
  simp -implicitDefEqProofs (maxSteps := 5000000) (disch := first | omega | (with_reducible apply Nat.le_trans; (focus (repeat' (first | with_reducible assumption | with_reducible apply rb_mul | with_reducible apply rb_add | with_reducible apply rb_sub | with_reducible apply rb_neg | with_reducible apply rb_div | with_reducible apply rb_divInt | with_reducible apply rb_int | with_reducible apply lb_mul | with_reducible apply lb_add | with_reducible apply lb_sub | with_reducible apply lb_neg | exact Nat.le_refl _))); omega)) only [go_sem, if_pos, if_neg, dec_t, dec_f, IntWalk.i64_in, IntWalk.u32_in, IntWalk.u64_in, beq_no]
@[go_sem] theorem d12Dot_s {x y u v : Rat} (h1 : rl x ≤ 10000000) (h2 : rl y ≤ 10000000) (h3 : rl u ≤ 10000000) (h4 : rl v ≤ 10000000) : Rq 57 [.agg [.bool (ng (x).num), .sl false (us (lm (x).num)), .bool false, .sl false (us (lm ((x).den : Int))), .bool (ng (y).num), .sl false (us (lm (y).num)), .bool false, .sl false (us (lm ((y).den : Int)))], .agg [.bool (ng (u).num), .sl false (us (lm (u).num)), .bool false, .sl false (us (lm ((u).den : Int))), .bool (ng (v).num), .sl false (us (lm (v).num)), .bool false, .sl false (us (lm ((v).den : Int)))]] = some (.agg (zQ (x * u + y * v))) := by
  refine RL_of (f := 57) (fn := Tryz.f57) Tryz.func57 rfl rfl rfl (Nat.le_of_ble_eq_true rfl) ?_
  simp -implicitDefEqProofs (maxSteps := 5000000) (disch := first | omega | (with_reducible apply Nat.le_trans; (focus (repeat' (first | with_reducible assumption | with_reducible apply rb_mul | with_reducible apply rb_add | with_reducible apply rb_sub | with_reducible apply rb_neg | with_reducible apply rb_div | with_reducible apply rb_divInt | with_reducible apply rb_int | with_reducible apply lb_mul | with_reducible apply lb_add | with_reducible apply lb_sub | with_reducible apply lb_neg | exact Nat.le_refl _))); omega)) only [go_sem, if_pos, if_neg, dec_t, dec_f, IntWalk.i64_in, IntWalk.u32_in, IntWalk.u64_in, beq_no]
@[go_sem] theorem d12Cross_s {x y u v : Rat} (h1 : rl x ≤ 10000000) (h2 : rl y ≤ 10000000) (h3 : rl u ≤ 10000000) (h4 : rl v ≤ 10000000) : Rq 159 [.agg [.bool (ng (x).num), .sl false (us (lm (x).num)), .bool false, .sl false (us (lm ((x).den : Int))), .bool (ng (y).num), .sl false (us (lm (y).num)), .bool false, .sl false (us (lm ((y).den : Int)))], .agg [.bool (ng (u).num), .sl false (us (lm (u).num)), .bool false, .sl false (us (lm ((u).den : Int))), .bool (ng (v).num), .sl false (us (lm (v).num)), .bool false, .sl false (us (lm ((v).den : Int)))]] = some (.agg (zQ (x * v - y * u))) := by
  refine RL_of (f := 159) (fn := Tryz.f159) Tryz.func159 rfl rfl rfl (Nat.le_of_ble_eq_true rfl) ?_
  simp -implicitDefEqProofs (maxSteps := 5000000) (disch := first | omega | (with_reducible apply Nat.le_trans; (focus (repeat' (first | with_reducible assumption | with_reducible apply rb_mul | with_reducible apply rb_add | with_reducible apply rb_sub | with_reducible apply rb_neg | with_reducible apply rb_div | with_reducible apply rb_divInt | with_reducible apply rb_int | with_reducible apply lb_mul | with_reducible apply lb_add | with_reducible apply lb_sub | with_reducible apply lb_neg | exact Nat.le_refl _))); omega)) only [go_sem, if_pos, if_neg, dec_t, dec_f, IntWalk.i64_in, IntWalk.u32_in, IntWalk.u64_in, beq_no]
theorem over2_s {a b : Rat} (ha : rl a ≤ 100000000) (hb : rl b ≤ 100000000) (h0 : b ≠ 0) : Rq 60 [.agg [.bool (ng (a).num), .sl false (us (lm (a).num)), .bool false, .sl false (us (lm ((a).den : Int)))], .agg [.bool (ng (b).num), .sl false (us (lm (b).num)), .bool false, .sl false (us (lm ((b).den : Int)))]] = some (.agg (zQ (a / b))) := by
  refine RL_of (f := 60) (fn := Tryz.f60) Tryz.func60 rfl rfl rfl (Nat.le_of_ble_eq_true rfl) ?_
  have d := qDiv'_s (a := a) (b := b) (by omega) (by omega) h0
  simp -implicitDefEqProofs (maxSteps := 5000000) (disch := first | omega | (with_reducible apply Nat.le_trans; (focus (repeat' (first | with_reducible assumption | with_reducible apply rb_mul | with_reducible apply rb_add | with_reducible apply rb_sub | with_reducible apply rb_neg | with_reducible apply rb_div | with_reducible apply rb_divInt | with_reducible apply rb_int | with_reducible apply lb_mul | with_reducible apply lb_add | with_reducible apply lb_sub | with_reducible apply lb_neg | exact Nat.le_refl _))); omega)) only [go_sem, d, if_pos, if_neg, dec_t, dec_f, IntWalk.i64_in, IntWalk.u32_in, IntWalk.u64_in, beq_no]
theorem d12ToSeg_s {ax ay bx bz px py : Rat} (h1 : rl ax ≤ 1000) (h2 : rl ay ≤ 1000) (h3 : rl bx ≤ 1000) (h4 : rl bz ≤ 1000) (h5 : rl px ≤ 1000) (h6 : rl py ≤ 1000) :
    Rq 131 [.agg [.bool (ng (ax).num), .sl false (us (lm (ax).num)), .bool false, .sl false (us (lm ((ax).den : Int))), .bool (ng (ay).num), .sl false (us (lm (ay).num)), .bool false, .sl false (us (lm ((ay).den : Int)))], .agg [.bool (ng (bx).num), .sl false (us (lm (bx).num)), .bool false, .sl false (us (lm ((bx).den : Int))), .bool (ng (bz).num), .sl false (us (lm (bz).num)), .bool false, .sl false (us (lm ((bz).den : Int)))], .agg [.bool (ng (px).num), .sl false (us (lm (px).num)), .bool false, .sl false (us (lm ((px).den : Int))), .bool (ng (py).num), .sl false (us (lm (py).num)), .bool false, .sl false (us (lm ((py).den : Int)))]] = some (.agg (zQ (dsF ax ay bx bz px py))) := by
  refine RL_of (f := 131) (fn := Tryz.f131) Tryz.func131 rfl rfl rfl (Nat.le_of_ble_eq_true rfl) ?_
  unfold dsF
  by_cases k1 : (bx - ax) * (px - ax) + (bz - ay) * (py - ay) ≤ 0
  · rw [if_pos k1]
    have s1 := sg_le.2 k1
    simp -implicitDefEqProofs (maxSteps := 5000000) (disch := first | omega | (with_reducible apply Nat.le_trans; (focus (repeat' (first | with_reducible assumption | with_reducible apply rb_mul | with_reducible apply rb_add | with_reducible apply rb_sub | with_reducible apply rb_neg | with_reducible apply rb_div | with_reducible apply rb_divInt | with_reducible apply rb_int | with_reducible apply lb_mul | with_reducible apply lb_add | with_reducible apply lb_sub | with_reducible apply lb_neg | exact Nat.le_refl _))); omega)) only [go_sem, s1, if_pos, if_neg, dec_t, dec_f, IntWalk.i64_in, IntWalk.u32_in, IntWalk.u64_in, beq_no]
  · rw [if_neg k1]
    have s1 : ¬ sg ((bx - ax) * (px - ax) + (bz - ay) * (py - ay)) ≤ 0 := fun e => k1 (sg_le.1 e)
    by_cases k2 : (bx - ax) * (bx - ax) + (bz - ay) * (bz - ay) ≤ (bx - ax) * (px - ax) + (bz - ay) * (py - ay)
    · rw [if_pos k2]
      have s2 : 0 ≤ sg ((bx - ax) * (px - ax) + (bz - ay) * (py - ay) - ((bx - ax) * (bx - ax) + (bz - ay) * (bz - ay))) := sg_ge.2 (by grind)
      simp -implicitDefEqProofs (maxSteps := 5000000) (disch := first | omega | (with_reducible apply Nat.le_trans; (focus (repeat' (first | with_reducible assumption | with_reducible apply rb_mul | with_reducible apply rb_add | with_reducible apply rb_sub | with_reducible apply rb_neg | with_reducible apply rb_div | with_reducible apply rb_divInt | with_reducible apply rb_int | with_reducible apply lb_mul | with_reducible apply lb_add | with_reducible apply lb_sub | with_reducible apply lb_neg | exact Nat.le_refl _))); omega)) only [go_sem, s1, s2, if_pos, if_neg, dec_t, dec_f, IntWalk.i64_in, IntWalk.u32_in, IntWalk.u64_in, beq_no]
    · rw [if_neg k2]
      have s2 : ¬ 0 ≤ sg ((bx - ax) * (px - ax) + (bz - ay) * (py - ay) - ((bx - ax) * (bx - ax) + (bz - ay) * (bz - ay))) := fun e => k2 (by have := sg_ge.1 e; grind)
      have n0 : (bx - ax) * (bx - ax) + (bz - ay) * (bz - ay) ≠ 0 := fun e => by rw [e] at k2; grind
      have d := over2_s (a := ((bx - ax) * (py - ay) - (bz - ay) * (px - ax)) * ((bx - ax) * (py - ay) - (bz - ay) * (px - ax))) (b := (bx - ax) * (bx - ax) + (bz - ay) * (bz - ay)) (by (with_reducible apply Nat.le_trans; (focus (repeat' (first | with_reducible assumption | with_reducible apply rb_mul | with_reducible apply rb_add | with_reducible apply rb_sub | with_reducible apply rb_neg | with_reducible apply rb_div | with_reducible apply rb_divInt | with_reducible apply rb_int | with_reducible apply lb_mul | with_reducible apply lb_add | with_reducible apply lb_sub | with_reducible apply lb_neg | exact Nat.le_refl _))); omega)) (by (with_reducible apply Nat.le_trans; (focus (repeat' (first | with_reducible assumption | with_reducible apply rb_mul | with_reducible apply rb_add | with_reducible apply rb_sub | with_reducible apply rb_neg | with_reducible apply rb_div | with_reducible apply rb_divInt | with_reducible apply rb_int | with_reducible apply lb_mul | with_reducible apply lb_add | with_reducible apply lb_sub | with_reducible apply lb_neg | exact Nat.le_refl _))); omega)) n0
      simp -implicitDefEqProofs (maxSteps := 5000000) (disch := first | omega | (with_reducible apply Nat.le_trans; (focus (repeat' (first | with_reducible assumption | with_reducible apply rb_mul | with_reducible apply rb_add | with_reducible apply rb_sub | with_reducible apply rb_neg | with_reducible apply rb_div | with_reducible apply rb_divInt | with_reducible apply rb_int | with_reducible apply lb_mul | with_reducible apply lb_add | with_reducible apply lb_sub | with_reducible apply lb_neg | exact Nat.le_refl _))); omega)) only [go_sem, s1, s2, d, if_pos, if_neg, dec_t, dec_f, IntWalk.i64_in, IntWalk.u32_in, IntWalk.u64_in, beq_no]
theorem d12Crossing_s {ax ay bx bz px py : Rat} (h1 : rl ax ≤ 1000) (h2 : rl ay ≤ 1000) (h3 : rl bx ≤ 1000) (h4 : rl bz ≤ 1000) (h5 : rl px ≤ 1000) (h6 : rl py ≤ 1000) :
    Rq 130 [.agg [.bool (ng (ax).num), .sl false (us (lm (ax).num)), .bool false, .sl false (us (lm ((ax).den : Int))), .bool (ng (ay).num), .sl false (us (lm (ay).num)), .bool false, .sl false (us (lm ((ay).den : Int)))], .agg [.bool (ng (bx).num), .sl false (us (lm (bx).num)), .bool false, .sl false (us (lm ((bx).den : Int))), .bool (ng (bz).num), .sl false (us (lm (bz).num)), .bool false, .sl false (us (lm ((bz).den : Int)))], .agg [.bool (ng (px).num), .sl false (us (lm (px).num)), .bool false, .sl false (us (lm ((px).den : Int))), .bool (ng (py).num), .sl false (us (lm (py).num)), .bool false, .sl false (us (lm ((py).den : Int)))], .agg [.bool (ng (px).num), .sl false (us (lm (px).num)), .bool false, .sl false (us (lm ((px).den : Int))), .bool (ng (py).num), .sl false (us (lm (py).num)), .bool false, .sl false (us (lm ((py).den : Int)))]] = some (.bool false) := by
  refine RL_of (f := 130) (fn := Tryz.f130) Tryz.func130 rfl rfl rfl (Nat.le_of_ble_eq_true rfl) ?_
  rcases sg_cases ((bx - ax) * (py - ay) - (bz - ay) * (px - ax)) with ⟨-, e⟩ | ⟨-, e⟩ | ⟨-, e⟩ <;> simp -implicitDefEqProofs (maxSteps := 5000000) (disch := first | omega | (with_reducible apply Nat.le_trans; (focus (repeat' (first | with_reducible assumption | with_reducible apply rb_mul | with_reducible apply rb_add | with_reducible apply rb_sub | with_reducible apply rb_neg | with_reducible apply rb_div | with_reducible apply rb_divInt | with_reducible apply rb_int | with_reducible apply lb_mul | with_reducible apply lb_add | with_reducible apply lb_sub | with_reducible apply lb_neg | exact Nat.le_refl _))); omega)) only [go_sem, e, if_pos, if_neg, dec_t, dec_f, IntWalk.i64_in, IntWalk.u32_in, IntWalk.u64_in, beq_no]
theorem d12Segments_s {ax ay bx bz px py : Rat} (h1 : rl ax ≤ 1000) (h2 : rl ay ≤ 1000) (h3 : rl bx ≤ 1000) (h4 : rl bz ≤ 1000) (h5 : rl px ≤ 1000) (h6 : rl py ≤ 1000) :
    Rq 91 [.agg [.bool (ng (ax).num), .sl false (us (lm (ax).num)), .bool false, .sl false (us (lm ((ax).den : Int))), .bool (ng (ay).num), .sl false (us (lm (ay).num)), .bool false, .sl false (us (lm ((ay).den : Int)))], .agg [.bool (ng (bx).num), .sl false (us (lm (bx).num)), .bool false, .sl false (us (lm ((bx).den : Int))), .bool (ng (bz).num), .sl false (us (lm (bz).num)), .bool false, .sl false (us (lm ((bz).den : Int)))], .agg [.bool (ng (px).num), .sl false (us (lm (px).num)), .bool false, .sl false (us (lm ((px).den : Int))), .bool (ng (py).num), .sl false (us (lm (py).num)), .bool false, .sl false (us (lm ((py).den : Int)))], .agg [.bool (ng (px).num), .sl false (us (lm (px).num)), .bool false, .sl false (us (lm ((px).den : Int))), .bool (ng (py).num), .sl false (us (lm (py).num)), .bool false, .sl false (us (lm ((py).den : Int)))]] = some (.agg (zQ (dsF ax ay bx bz px py))) := by
  refine RL_of (f := 91) (fn := Tryz.f91) Tryz.func91 rfl rfl rfl (Nat.le_of_ble_eq_true rfl) ?_
  have cr := d12Crossing_s h1 h2 h3 h4 h5 h6
  have t1 := d12ToSeg_s h1 h2 h3 h4 h5 h6
  have t2 := d12ToSeg_s (ax := px) (ay := py) (bx := px) (bz := py) (px := ax) (py := ay) h5 h6 h5 h6 h1 h2
  have t3 := d12ToSeg_s (ax := px) (ay := py) (bx := px) (bz := py) (px := bx) (py := bz) h5 h6 h5 h6 h3 h4
  have l1 := rl_ds h1 h2 h3 h4 h5 h6
  have en := ds_ends ax ay bx bz px py
  have l2 : rl (dsF px py px py ax ay) ≤ 100000 := rl_ds h5 h6 h5 h6 h1 h2
  have l3 : rl (dsF px py px py bx bz) ≤ 100000 := rl_ds h5 h6 h5 h6 h3 h4
  have s1 : ¬ sg (dsF ax ay bx bz px py - dsF ax ay bx bz px py) < 0 := fun e => by have := sg_lt.1 e; grind
  have s2 : ¬ sg (dsF px py px py ax ay - dsF ax ay bx bz px py) < 0 := fun e => by have := sg_lt.1 e; rw [ds_point] at this; grind
  have s3 : ¬ sg (dsF px py px py bx bz - dsF ax ay bx bz px py) < 0 := fun e => by have := sg_lt.1 e; rw [ds_point] at this; grind
  clear en
  generalize dsF ax ay bx bz px py = D at *
  generalize dsF px py px py ax ay = E at *
  generalize dsF px py px py bx bz = F at *
  simp -implicitDefEqProofs (maxSteps := 5000000) (disch := first | omega | (with_reducible apply Nat.le_trans; (focus (repeat' (first | with_reducible assumption | with_reducible apply rb_mul | with_reducible apply rb_add | with_reducible apply rb_sub | with_reducible apply rb_neg | with_reducible apply rb_div | with_reducible apply rb_divInt | with_reducible apply rb_int | with_reducible apply lb_mul | with_reducible apply lb_add | with_reducible apply lb_sub | with_reducible apply lb_neg | exact Nat.le_refl _))); omega)) only [go_sem, cr, t1, t2, t3, xL_loop, lpE_normal, lpE_exit, s1, s2, s3, if_pos, if_neg, dec_t, dec_f, IntWalk.i64_in, IntWalk.u32_in, IntWalk.u64_in, beq_no]
end Go.Pi
