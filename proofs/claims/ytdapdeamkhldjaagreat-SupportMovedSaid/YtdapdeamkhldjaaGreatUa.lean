/- What is proved: lines and circles: the program. No conditions beyond those in the statements. -/
import Derived.Test.YtdapdeamkhldjaaGreatRg
import Derived.Test.YtdapdeamkhldjaaGreatUb
set_option linter.unusedVariables false
set_option linter.unusedSimpArgs false
set_option maxHeartbeats 4000000
set_option maxRecDepth 8000
/-
Lines and circles: the program.
-/
namespace Go.Pi
open Go Go.Proofs Num
@[go_sem] theorem sAdd_s {a b : Rat} (ha : rl a ≤ 300000000) (hb : rl b ≤ 300000000) : Rq 51 [.agg [.bool (ng (a).num), .sl false (us (lm (a).num)), .bool false, .sl false (us (lm ((a).den : Int)))], .agg [.bool (ng (b).num), .sl false (us (lm (b).num)), .bool false, .sl false (us (lm ((b).den : Int)))]] = some (.agg (zQ (a + b))) := by
  refine RL_of (f := 51) (fn := Tryz.f51) Tryz.func51 rfl rfl rfl (Nat.le_of_ble_eq_true rfl) ?_
  simp -implicitDefEqProofs (maxSteps := 5000000) (disch := first | omega | (with_reducible apply Nat.le_trans; (focus (repeat' (first | with_reducible assumption | with_reducible apply rb_mul | with_reducible apply rb_add | with_reducible apply rb_sub | with_reducible apply rb_neg | with_reducible apply rb_div | with_reducible apply rb_divInt | with_reducible apply rb_int | with_reducible apply lb_mul | with_reducible apply lb_add | with_reducible apply lb_sub | with_reducible apply lb_neg | exact Nat.le_refl _))); omega)) only [go_sem, if_pos, if_neg, dec_t, dec_f, IntWalk.i64_in, IntWalk.u32_in, IntWalk.u64_in, beq_no]
@[go_sem] theorem sSub_s {a b : Rat} (ha : rl a ≤ 300000000) (hb : rl b ≤ 300000000) : Rq 49 [.agg [.bool (ng (a).num), .sl false (us (lm (a).num)), .bool false, .sl false (us (lm ((a).den : Int)))], .agg [.bool (ng (b).num), .sl false (us (lm (b).num)), .bool false, .sl false (us (lm ((b).den : Int)))]] = some (.agg (zQ (a - b))) := by
  refine RL_of (f := 49) (fn := Tryz.f49) Tryz.func49 rfl rfl rfl (Nat.le_of_ble_eq_true rfl) ?_
  simp -implicitDefEqProofs (maxSteps := 5000000) (disch := first | omega | (with_reducible apply Nat.le_trans; (focus (repeat' (first | with_reducible assumption | with_reducible apply rb_mul | with_reducible apply rb_add | with_reducible apply rb_sub | with_reducible apply rb_neg | with_reducible apply rb_div | with_reducible apply rb_divInt | with_reducible apply rb_int | with_reducible apply lb_mul | with_reducible apply lb_add | with_reducible apply lb_sub | with_reducible apply lb_neg | exact Nat.le_refl _))); omega)) only [go_sem, if_pos, if_neg, dec_t, dec_f, IntWalk.i64_in, IntWalk.u32_in, IntWalk.u64_in, beq_no]
@[go_sem] theorem sMul_s {a b : Rat} (ha : rl a ≤ 300000000) (hb : rl b ≤ 300000000) : Rq 52 [.agg [.bool (ng (a).num), .sl false (us (lm (a).num)), .bool false, .sl false (us (lm ((a).den : Int)))], .agg [.bool (ng (b).num), .sl false (us (lm (b).num)), .bool false, .sl false (us (lm ((b).den : Int)))]] = some (.agg (zQ (a * b))) := by
  refine RL_of (f := 52) (fn := Tryz.f52) Tryz.func52 rfl rfl rfl (Nat.le_of_ble_eq_true rfl) ?_
  simp -implicitDefEqProofs (maxSteps := 5000000) (disch := first | omega | (with_reducible apply Nat.le_trans; (focus (repeat' (first | with_reducible assumption | with_reducible apply rb_mul | with_reducible apply rb_add | with_reducible apply rb_sub | with_reducible apply rb_neg | with_reducible apply rb_div | with_reducible apply rb_divInt | with_reducible apply rb_int | with_reducible apply lb_mul | with_reducible apply lb_add | with_reducible apply lb_sub | with_reducible apply lb_neg | exact Nat.le_refl _))); omega)) only [go_sem, if_pos, if_neg, dec_t, dec_f, IntWalk.i64_in, IntWalk.u32_in, IntWalk.u64_in, beq_no]
theorem sOver_s {a b : Rat} (ha : rl a ≤ 300000000) (hb : rl b ≤ 300000000) (h0 : b ≠ 0) : Rq 67 [.agg [.bool (ng (a).num), .sl false (us (lm (a).num)), .bool false, .sl false (us (lm ((a).den : Int)))], .agg [.bool (ng (b).num), .sl false (us (lm (b).num)), .bool false, .sl false (us (lm ((b).den : Int)))]] = some (.agg (zQ (a / b))) := by
  refine RL_of (f := 67) (fn := Tryz.f67) Tryz.func67 rfl rfl rfl (Nat.le_of_ble_eq_true rfl) ?_
  have d := qDiv_s ha hb h0
  simp -implicitDefEqProofs (maxSteps := 5000000) (disch := first | omega | (with_reducible apply Nat.le_trans; (focus (repeat' (first | with_reducible assumption | with_reducible apply rb_mul | with_reducible apply rb_add | with_reducible apply rb_sub | with_reducible apply rb_neg | with_reducible apply rb_div | with_reducible apply rb_divInt | with_reducible apply rb_int | with_reducible apply lb_mul | with_reducible apply lb_add | with_reducible apply lb_sub | with_reducible apply lb_neg | exact Nat.le_refl _))); omega)) only [go_sem, d, if_pos, if_neg, dec_t, dec_f, IntWalk.i64_in, IntWalk.u32_in, IntWalk.u64_in, beq_no]
/-- The cells of a struct of three fractions that holds nothing. -/
def z12 : List PV := [.bool false, .sl false [], .bool false, .sl false [], .bool false, .sl false [], .bool false, .sl false [], .bool false, .sl false [], .bool false, .sl false []]
theorem dec_sg0 (a : Rat) : dec (sg a = 0) = dec (a = 0) := by
  by_cases h : a = 0
  · rw [dec_t h, dec_t (sg_zero h)]
  · rw [dec_f h, dec_f (fun e => h (sg_eq.1 e))]
@[go_sem] theorem sZero_s {a : Rat} (ha : rl a ≤ 300000000) : Rq 50 [.agg [.bool (ng (a).num), .sl false (us (lm (a).num)), .bool false, .sl false (us (lm ((a).den : Int)))]] = some (.bool (dec (a = 0))) := by
  refine RL_of (f := 50) (fn := Tryz.f50) Tryz.func50 rfl rfl rfl (Nat.le_of_ble_eq_true rfl) ?_
  rw [← dec_sg0]
  simp -implicitDefEqProofs (maxSteps := 5000000) (disch := first | omega | (with_reducible apply Nat.le_trans; (focus (repeat' (first | with_reducible assumption | with_reducible apply rb_mul | with_reducible apply rb_add | with_reducible apply rb_sub | with_reducible apply rb_neg | with_reducible apply rb_div | with_reducible apply rb_divInt | with_reducible apply rb_int | with_reducible apply lb_mul | with_reducible apply lb_add | with_reducible apply lb_sub | with_reducible apply lb_neg | exact Nat.le_refl _))); omega)) only [go_sem, if_pos, if_neg, dec_t, dec_f, IntWalk.i64_in, IntWalk.u32_in, IntWalk.u64_in, beq_no]
@[go_sem] theorem sEqual_s {a b : Rat} (ha : rl a ≤ 200000000) (hb : rl b ≤ 100000000) : Rq 80 [.agg [.bool (ng (a).num), .sl false (us (lm (a).num)), .bool false, .sl false (us (lm ((a).den : Int)))], .agg [.bool (ng (b).num), .sl false (us (lm (b).num)), .bool false, .sl false (us (lm ((b).den : Int)))]] = some (.bool (dec (a = b))) := by
  refine RL_of (f := 80) (fn := Tryz.f80) Tryz.func80 rfl rfl rfl (Nat.le_of_ble_eq_true rfl) ?_
  have e : dec (a = b) = dec (sg (a - b) = 0) := by
    rw [dec_sg0]
    by_cases h : a = b
    · rw [dec_t h, dec_t (by grind)]
    · rw [dec_f h, dec_f (by grind)]
  rw [e]
  simp -implicitDefEqProofs (maxSteps := 5000000) (disch := first | omega | (with_reducible apply Nat.le_trans; (focus (repeat' (first | with_reducible assumption | with_reducible apply rb_mul | with_reducible apply rb_add | with_reducible apply rb_sub | with_reducible apply rb_neg | with_reducible apply rb_div | with_reducible apply rb_divInt | with_reducible apply rb_int | with_reducible apply lb_mul | with_reducible apply lb_add | with_reducible apply lb_sub | with_reducible apply lb_neg | exact Nat.le_refl _))); omega)) only [go_sem, if_pos, if_neg, dec_t, dec_f, IntWalk.i64_in, IntWalk.u32_in, IntWalk.u64_in, beq_no]
theorem through_s {ax ay bx bz : Rat} (h1 : rl ax ≤ 1000) (h2 : rl ay ≤ 1000) (h3 : rl bx ≤ 1000) (h4 : rl bz ≤ 1000) (h : ay - bz ≠ 0 ∨ bx - ax ≠ 0) :
    Rq 13 [.agg [.bool (ng (ax).num), .sl false (us (lm (ax).num)), .bool false, .sl false (us (lm ((ax).den : Int))), .bool (ng (ay).num), .sl false (us (lm (ay).num)), .bool false, .sl false (us (lm ((ay).den : Int)))], .agg [.bool (ng (bx).num), .sl false (us (lm (bx).num)), .bool false, .sl false (us (lm ((bx).den : Int))), .bool (ng (bz).num), .sl false (us (lm (bz).num)), .bool false, .sl false (us (lm ((bz).den : Int)))]] = some (.tup [.agg (zR (ay - bz) (bx - ax) ((ay - bz) * ax + (bx - ax) * ay)), .int .i64 0]) := by
  refine RL_of (f := 13) (fn := Tryz.f13) Tryz.func13 rfl rfl rfl (Nat.le_of_ble_eq_true rfl) ?_
  by_cases k1 : ay - bz = 0
  · have k2 : ¬ bx - ax = 0 := by rcases h with h | h; exact absurd k1 h; exact h
    simp -implicitDefEqProofs (maxSteps := 5000000) (disch := first | omega | (with_reducible apply Nat.le_trans; (focus (repeat' (first | with_reducible assumption | with_reducible apply rb_mul | with_reducible apply rb_add | with_reducible apply rb_sub | with_reducible apply rb_neg | with_reducible apply rb_div | with_reducible apply rb_divInt | with_reducible apply rb_int | with_reducible apply lb_mul | with_reducible apply lb_add | with_reducible apply lb_sub | with_reducible apply lb_neg | exact Nat.le_refl _))); omega)) only [go_sem, dec_t k1, dec_f k2, if_pos, if_neg, dec_t, dec_f, IntWalk.i64_in, IntWalk.u32_in, IntWalk.u64_in, beq_no]
  · simp -implicitDefEqProofs (maxSteps := 5000000) (disch := first | omega | (with_reducible apply Nat.le_trans; (focus (repeat' (first | with_reducible assumption | with_reducible apply rb_mul | with_reducible apply rb_add | with_reducible apply rb_sub | with_reducible apply rb_neg | with_reducible apply rb_div | with_reducible apply rb_divInt | with_reducible apply rb_int | with_reducible apply lb_mul | with_reducible apply lb_add | with_reducible apply lb_sub | with_reducible apply lb_neg | exact Nat.le_refl _))); omega)) only [go_sem, dec_f k1, if_pos, if_neg, dec_t, dec_f, IntWalk.i64_in, IntWalk.u32_in, IntWalk.u64_in, beq_no]
theorem through_0 {ax ay bx bz : Rat} (h1 : rl ax ≤ 1000) (h2 : rl ay ≤ 1000) (h3 : rl bx ≤ 1000) (h4 : rl bz ≤ 1000) (k1 : ay - bz = 0) (k2 : bx - ax = 0) :
    Rq 13 [.agg [.bool (ng (ax).num), .sl false (us (lm (ax).num)), .bool false, .sl false (us (lm ((ax).den : Int))), .bool (ng (ay).num), .sl false (us (lm (ay).num)), .bool false, .sl false (us (lm ((ay).den : Int)))], .agg [.bool (ng (bx).num), .sl false (us (lm (bx).num)), .bool false, .sl false (us (lm ((bx).den : Int))), .bool (ng (bz).num), .sl false (us (lm (bz).num)), .bool false, .sl false (us (lm ((bz).den : Int)))]] = some (.tup [.agg z12, .int .i64 6]) := by
  refine RL_of (f := 13) (fn := Tryz.f13) Tryz.func13 rfl rfl rfl (Nat.le_of_ble_eq_true rfl) ?_
  simp -implicitDefEqProofs (maxSteps := 5000000) (disch := first | omega | (with_reducible apply Nat.le_trans; (focus (repeat' (first | with_reducible assumption | with_reducible apply rb_mul | with_reducible apply rb_add | with_reducible apply rb_sub | with_reducible apply rb_neg | with_reducible apply rb_div | with_reducible apply rb_divInt | with_reducible apply rb_int | with_reducible apply lb_mul | with_reducible apply lb_add | with_reducible apply lb_sub | with_reducible apply lb_neg | exact Nat.le_refl _))); omega)) only [go_sem, dec_t k1, dec_t k2, if_pos, if_neg, dec_t, dec_f, IntWalk.i64_in, IntWalk.u32_in, IntWalk.u64_in, beq_no]
  rfl
theorem foot_s {A B C x y : Rat} (h1 : rl A ≤ 1000) (h2 : rl B ≤ 1000) (h3 : rl C ≤ 1000) (h4 : rl x ≤ 1000) (h5 : rl y ≤ 1000) (h0 : A * A + B * B ≠ 0) :
    Rq 24 [.agg [.bool (ng (A).num), .sl false (us (lm (A).num)), .bool false, .sl false (us (lm ((A).den : Int))), .bool (ng (B).num), .sl false (us (lm (B).num)), .bool false, .sl false (us (lm ((B).den : Int))), .bool (ng (C).num), .sl false (us (lm (C).num)), .bool false, .sl false (us (lm ((C).den : Int)))], .agg [.bool (ng (x).num), .sl false (us (lm (x).num)), .bool false, .sl false (us (lm ((x).den : Int))), .bool (ng (y).num), .sl false (us (lm (y).num)), .bool false, .sl false (us (lm ((y).den : Int)))]] = some (.agg (zV (x - (A * x + B * y - C) / (A * A + B * B) * A) (y - (A * x + B * y - C) / (A * A + B * B) * B))) := by
  refine RL_of (f := 24) (fn := Tryz.f24) Tryz.func24 rfl rfl rfl (Nat.le_of_ble_eq_true rfl) ?_
  have d := sOver_s (a := A * x + B * y - C) (b := A * A + B * B) (by (with_reducible apply Nat.le_trans; (focus (repeat' (first | with_reducible assumption | with_reducible apply rb_mul | with_reducible apply rb_add | with_reducible apply rb_sub | with_reducible apply rb_neg | with_reducible apply rb_div | with_reducible apply rb_divInt | with_reducible apply rb_int | with_reducible apply lb_mul | with_reducible apply lb_add | with_reducible apply lb_sub | with_reducible apply lb_neg | exact Nat.le_refl _))); omega)) (by (with_reducible apply Nat.le_trans; (focus (repeat' (first | with_reducible assumption | with_reducible apply rb_mul | with_reducible apply rb_add | with_reducible apply rb_sub | with_reducible apply rb_neg | with_reducible apply rb_div | with_reducible apply rb_divInt | with_reducible apply rb_int | with_reducible apply lb_mul | with_reducible apply lb_add | with_reducible apply lb_sub | with_reducible apply lb_neg | exact Nat.le_refl _))); omega)) h0
  simp -implicitDefEqProofs (maxSteps := 5000000) (disch := first | omega | (with_reducible apply Nat.le_trans; (focus (repeat' (first | with_reducible assumption | with_reducible apply rb_mul | with_reducible apply rb_add | with_reducible apply rb_sub | with_reducible apply rb_neg | with_reducible apply rb_div | with_reducible apply rb_divInt | with_reducible apply rb_int | with_reducible apply lb_mul | with_reducible apply lb_add | with_reducible apply lb_sub | with_reducible apply lb_neg | exact Nat.le_refl _))); omega)) only [go_sem, d, if_pos, if_neg, dec_t, dec_f, IntWalk.i64_in, IntWalk.u32_in, IntWalk.u64_in, beq_no]
theorem sameLine_s {A B C D E F : Rat} (h1 : rl A ≤ 1000) (h2 : rl B ≤ 1000) (h3 : rl C ≤ 1000) (h4 : rl D ≤ 1000) (h5 : rl E ≤ 1000) (h6 : rl F ≤ 1000) : Rq 40 [.agg [.bool (ng (A).num), .sl false (us (lm (A).num)), .bool false, .sl false (us (lm ((A).den : Int))), .bool (ng (B).num), .sl false (us (lm (B).num)), .bool false, .sl false (us (lm ((B).den : Int))), .bool (ng (C).num), .sl false (us (lm (C).num)), .bool false, .sl false (us (lm ((C).den : Int)))], .agg [.bool (ng (D).num), .sl false (us (lm (D).num)), .bool false, .sl false (us (lm ((D).den : Int))), .bool (ng (E).num), .sl false (us (lm (E).num)), .bool false, .sl false (us (lm ((E).den : Int))), .bool (ng (F).num), .sl false (us (lm (F).num)), .bool false, .sl false (us (lm ((F).den : Int)))]] = some (.bool (dec (A * E = D * B ∧ A * F = D * C ∧ B * F = E * C))) := by
  refine RL_of (f := 40) (fn := Tryz.f40) Tryz.func40 rfl rfl rfl (Nat.le_of_ble_eq_true rfl) ?_
  by_cases k1 : A * E = D * B
  · by_cases k2 : A * F = D * C
    · by_cases k3 : B * F = E * C
      · rw [dec_t ⟨k1, k2, k3⟩]
        simp -implicitDefEqProofs (maxSteps := 5000000) (disch := first | omega | (with_reducible apply Nat.le_trans; (focus (repeat' (first | with_reducible assumption | with_reducible apply rb_mul | with_reducible apply rb_add | with_reducible apply rb_sub | with_reducible apply rb_neg | with_reducible apply rb_div | with_reducible apply rb_divInt | with_reducible apply rb_int | with_reducible apply lb_mul | with_reducible apply lb_add | with_reducible apply lb_sub | with_reducible apply lb_neg | exact Nat.le_refl _))); omega)) only [go_sem, dec_t k1, dec_t k2, dec_t k3, if_pos, if_neg, dec_t, dec_f, IntWalk.i64_in, IntWalk.u32_in, IntWalk.u64_in, beq_no]
      · rw [dec_f (fun h => k3 h.2.2)]
        simp -implicitDefEqProofs (maxSteps := 5000000) (disch := first | omega | (with_reducible apply Nat.le_trans; (focus (repeat' (first | with_reducible assumption | with_reducible apply rb_mul | with_reducible apply rb_add | with_reducible apply rb_sub | with_reducible apply rb_neg | with_reducible apply rb_div | with_reducible apply rb_divInt | with_reducible apply rb_int | with_reducible apply lb_mul | with_reducible apply lb_add | with_reducible apply lb_sub | with_reducible apply lb_neg | exact Nat.le_refl _))); omega)) only [go_sem, dec_t k1, dec_t k2, dec_f k3, if_pos, if_neg, dec_t, dec_f, IntWalk.i64_in, IntWalk.u32_in, IntWalk.u64_in, beq_no]
    · rw [dec_f (fun h => k2 h.2.1)]
      simp -implicitDefEqProofs (maxSteps := 5000000) (disch := first | omega | (with_reducible apply Nat.le_trans; (focus (repeat' (first | with_reducible assumption | with_reducible apply rb_mul | with_reducible apply rb_add | with_reducible apply rb_sub | with_reducible apply rb_neg | with_reducible apply rb_div | with_reducible apply rb_divInt | with_reducible apply rb_int | with_reducible apply lb_mul | with_reducible apply lb_add | with_reducible apply lb_sub | with_reducible apply lb_neg | exact Nat.le_refl _))); omega)) only [go_sem, dec_t k1, dec_f k2, if_pos, if_neg, dec_t, dec_f, IntWalk.i64_in, IntWalk.u32_in, IntWalk.u64_in, beq_no]
  · rw [dec_f (fun h => k1 h.1)]
    simp -implicitDefEqProofs (maxSteps := 5000000) (disch := first | omega | (with_reducible apply Nat.le_trans; (focus (repeat' (first | with_reducible assumption | with_reducible apply rb_mul | with_reducible apply rb_add | with_reducible apply rb_sub | with_reducible apply rb_neg | with_reducible apply rb_div | with_reducible apply rb_divInt | with_reducible apply rb_int | with_reducible apply lb_mul | with_reducible apply lb_add | with_reducible apply lb_sub | with_reducible apply lb_neg | exact Nat.le_refl _))); omega)) only [go_sem, dec_f k1, if_pos, if_neg, dec_t, dec_f, IntWalk.i64_in, IntWalk.u32_in, IntWalk.u64_in, beq_no]
theorem sameCircle_s {A B C D E F : Rat} (h1 : rl A ≤ 100000) (h2 : rl B ≤ 100000) (h3 : rl C ≤ 100000) (h4 : rl D ≤ 100000) (h5 : rl E ≤ 100000) (h6 : rl F ≤ 100000) : Rq 46 [.agg [.bool (ng (A).num), .sl false (us (lm (A).num)), .bool false, .sl false (us (lm ((A).den : Int))), .bool (ng (B).num), .sl false (us (lm (B).num)), .bool false, .sl false (us (lm ((B).den : Int))), .bool (ng (C).num), .sl false (us (lm (C).num)), .bool false, .sl false (us (lm ((C).den : Int)))], .agg [.bool (ng (D).num), .sl false (us (lm (D).num)), .bool false, .sl false (us (lm ((D).den : Int))), .bool (ng (E).num), .sl false (us (lm (E).num)), .bool false, .sl false (us (lm ((E).den : Int))), .bool (ng (F).num), .sl false (us (lm (F).num)), .bool false, .sl false (us (lm ((F).den : Int)))]] = some (.bool (dec (A = D ∧ B = E ∧ C = F))) := by
  refine RL_of (f := 46) (fn := Tryz.f46) Tryz.func46 rfl rfl rfl (Nat.le_of_ble_eq_true rfl) ?_
  by_cases k1 : A = D
  · by_cases k2 : B = E
    · by_cases k3 : C = F
      · rw [dec_t ⟨k1, k2, k3⟩]
        simp -implicitDefEqProofs (maxSteps := 5000000) (disch := first | omega | (with_reducible apply Nat.le_trans; (focus (repeat' (first | with_reducible assumption | with_reducible apply rb_mul | with_reducible apply rb_add | with_reducible apply rb_sub | with_reducible apply rb_neg | with_reducible apply rb_div | with_reducible apply rb_divInt | with_reducible apply rb_int | with_reducible apply lb_mul | with_reducible apply lb_add | with_reducible apply lb_sub | with_reducible apply lb_neg | exact Nat.le_refl _))); omega)) only [go_sem, dec_t k1, dec_t k2, dec_t k3, if_pos, if_neg, dec_t, dec_f, IntWalk.i64_in, IntWalk.u32_in, IntWalk.u64_in, beq_no]
      · rw [dec_f (fun h => k3 h.2.2)]
        simp -implicitDefEqProofs (maxSteps := 5000000) (disch := first | omega | (with_reducible apply Nat.le_trans; (focus (repeat' (first | with_reducible assumption | with_reducible apply rb_mul | with_reducible apply rb_add | with_reducible apply rb_sub | with_reducible apply rb_neg | with_reducible apply rb_div | with_reducible apply rb_divInt | with_reducible apply rb_int | with_reducible apply lb_mul | with_reducible apply lb_add | with_reducible apply lb_sub | with_reducible apply lb_neg | exact Nat.le_refl _))); omega)) only [go_sem, dec_t k1, dec_t k2, dec_f k3, if_pos, if_neg, dec_t, dec_f, IntWalk.i64_in, IntWalk.u32_in, IntWalk.u64_in, beq_no]
    · rw [dec_f (fun h => k2 h.2.1)]
      simp -implicitDefEqProofs (maxSteps := 5000000) (disch := first | omega | (with_reducible apply Nat.le_trans; (focus (repeat' (first | with_reducible assumption | with_reducible apply rb_mul | with_reducible apply rb_add | with_reducible apply rb_sub | with_reducible apply rb_neg | with_reducible apply rb_div | with_reducible apply rb_divInt | with_reducible apply rb_int | with_reducible apply lb_mul | with_reducible apply lb_add | with_reducible apply lb_sub | with_reducible apply lb_neg | exact Nat.le_refl _))); omega)) only [go_sem, dec_t k1, dec_f k2, if_pos, if_neg, dec_t, dec_f, IntWalk.i64_in, IntWalk.u32_in, IntWalk.u64_in, beq_no]
  · rw [dec_f (fun h => k1 h.1)]
    simp -implicitDefEqProofs (maxSteps := 5000000) (disch := first | omega | (with_reducible apply Nat.le_trans; (focus (repeat' (first | with_reducible assumption | with_reducible apply rb_mul | with_reducible apply rb_add | with_reducible apply rb_sub | with_reducible apply rb_neg | with_reducible apply rb_div | with_reducible apply rb_divInt | with_reducible apply rb_int | with_reducible apply lb_mul | with_reducible apply lb_add | with_reducible apply lb_sub | with_reducible apply lb_neg | exact Nat.le_refl _))); omega)) only [go_sem, dec_f k1, if_pos, if_neg, dec_t, dec_f, IntWalk.i64_in, IntWalk.u32_in, IntWalk.u64_in, beq_no]
theorem cthrough_s {ax ay bx bz cx cy : Rat} (h1 : rl ax ≤ 20) (h2 : rl ay ≤ 20) (h3 : rl bx ≤ 20) (h4 : rl bz ≤ 20) (h5 : rl cx ≤ 20) (h6 : rl cy ≤ 20) {u v s t d x y : Rat} (e1 : u = bx - ax) (e2 : v = bz - ay) (e3 : s = cx - ax) (e4 : t = cy - ay) (ed : d = u * t - v * s) (h0 : d ≠ 0)
    (ex : x = ((u * u + v * v) * t - (s * s + t * t) * v) / (d + d)) (ey : y = ((s * s + t * t) * u - (u * u + v * v) * s) / (d + d)) :
    Rq 31 [.agg [.bool (ng (ax).num), .sl false (us (lm (ax).num)), .bool false, .sl false (us (lm ((ax).den : Int))), .bool (ng (ay).num), .sl false (us (lm (ay).num)), .bool false, .sl false (us (lm ((ay).den : Int)))], .agg [.bool (ng (bx).num), .sl false (us (lm (bx).num)), .bool false, .sl false (us (lm ((bx).den : Int))), .bool (ng (bz).num), .sl false (us (lm (bz).num)), .bool false, .sl false (us (lm ((bz).den : Int)))], .agg [.bool (ng (cx).num), .sl false (us (lm (cx).num)), .bool false, .sl false (us (lm ((cx).den : Int))), .bool (ng (cy).num), .sl false (us (lm (cy).num)), .bool false, .sl false (us (lm ((cy).den : Int)))]] = some (.tup [.agg (zR (ax + x) (ay + y) (x * x + y * y)), .int .i64 0]) := by
  refine RL_of (f := 31) (fn := Tryz.f31) Tryz.func31 rfl rfl rfl (Nat.le_of_ble_eq_true rfl) ?_
  have h2d : d + d ≠ 0 := by grind
  subst ex ey ed e1 e2 e3 e4
  have d1 := sOver_s (a := ((bx - ax) * (bx - ax) + (bz - ay) * (bz - ay)) * (cy - ay) - ((cx - ax) * (cx - ax) + (cy - ay) * (cy - ay)) * (bz - ay)) (b := (bx - ax) * (cy - ay) - (bz - ay) * (cx - ax) + ((bx - ax) * (cy - ay) - (bz - ay) * (cx - ax))) (by (with_reducible apply Nat.le_trans; (focus (repeat' (first | with_reducible assumption | with_reducible apply rb_mul | with_reducible apply rb_add | with_reducible apply rb_sub | with_reducible apply rb_neg | with_reducible apply rb_div | with_reducible apply rb_divInt | with_reducible apply rb_int | with_reducible apply lb_mul | with_reducible apply lb_add | with_reducible apply lb_sub | with_reducible apply lb_neg | exact Nat.le_refl _))); omega)) (by (with_reducible apply Nat.le_trans; (focus (repeat' (first | with_reducible assumption | with_reducible apply rb_mul | with_reducible apply rb_add | with_reducible apply rb_sub | with_reducible apply rb_neg | with_reducible apply rb_div | with_reducible apply rb_divInt | with_reducible apply rb_int | with_reducible apply lb_mul | with_reducible apply lb_add | with_reducible apply lb_sub | with_reducible apply lb_neg | exact Nat.le_refl _))); omega)) h2d
  have d2 := sOver_s (a := ((cx - ax) * (cx - ax) + (cy - ay) * (cy - ay)) * (bx - ax) - ((bx - ax) * (bx - ax) + (bz - ay) * (bz - ay)) * (cx - ax)) (b := (bx - ax) * (cy - ay) - (bz - ay) * (cx - ax) + ((bx - ax) * (cy - ay) - (bz - ay) * (cx - ax))) (by (with_reducible apply Nat.le_trans; (focus (repeat' (first | with_reducible assumption | with_reducible apply rb_mul | with_reducible apply rb_add | with_reducible apply rb_sub | with_reducible apply rb_neg | with_reducible apply rb_div | with_reducible apply rb_divInt | with_reducible apply rb_int | with_reducible apply lb_mul | with_reducible apply lb_add | with_reducible apply lb_sub | with_reducible apply lb_neg | exact Nat.le_refl _))); omega)) (by (with_reducible apply Nat.le_trans; (focus (repeat' (first | with_reducible assumption | with_reducible apply rb_mul | with_reducible apply rb_add | with_reducible apply rb_sub | with_reducible apply rb_neg | with_reducible apply rb_div | with_reducible apply rb_divInt | with_reducible apply rb_int | with_reducible apply lb_mul | with_reducible apply lb_add | with_reducible apply lb_sub | with_reducible apply lb_neg | exact Nat.le_refl _))); omega)) h2d
  simp -implicitDefEqProofs (maxSteps := 5000000) (disch := first | omega | (with_reducible apply Nat.le_trans; (focus (repeat' (first | with_reducible assumption | with_reducible apply rb_mul | with_reducible apply rb_add | with_reducible apply rb_sub | with_reducible apply rb_neg | with_reducible apply rb_div | with_reducible apply rb_divInt | with_reducible apply rb_int | with_reducible apply lb_mul | with_reducible apply lb_add | with_reducible apply lb_sub | with_reducible apply lb_neg | exact Nat.le_refl _))); omega)) only [go_sem, dec_f h0, d1, d2, if_pos, if_neg, dec_t, dec_f, IntWalk.i64_in, IntWalk.u32_in, IntWalk.u64_in, beq_no]
theorem cthrough_0 {ax ay bx bz cx cy : Rat} (h1 : rl ax ≤ 20) (h2 : rl ay ≤ 20) (h3 : rl bx ≤ 20) (h4 : rl bz ≤ 20) (h5 : rl cx ≤ 20) (h6 : rl cy ≤ 20) (h0 : (bx - ax) * (cy - ay) - (bz - ay) * (cx - ax) = 0) :
    Rq 31 [.agg [.bool (ng (ax).num), .sl false (us (lm (ax).num)), .bool false, .sl false (us (lm ((ax).den : Int))), .bool (ng (ay).num), .sl false (us (lm (ay).num)), .bool false, .sl false (us (lm ((ay).den : Int)))], .agg [.bool (ng (bx).num), .sl false (us (lm (bx).num)), .bool false, .sl false (us (lm ((bx).den : Int))), .bool (ng (bz).num), .sl false (us (lm (bz).num)), .bool false, .sl false (us (lm ((bz).den : Int)))], .agg [.bool (ng (cx).num), .sl false (us (lm (cx).num)), .bool false, .sl false (us (lm ((cx).den : Int))), .bool (ng (cy).num), .sl false (us (lm (cy).num)), .bool false, .sl false (us (lm ((cy).den : Int)))]] = some (.tup [.agg z12, .int .i64 6]) := by
  refine RL_of (f := 31) (fn := Tryz.f31) Tryz.func31 rfl rfl rfl (Nat.le_of_ble_eq_true rfl) ?_
  simp -implicitDefEqProofs (maxSteps := 5000000) (disch := first | omega | (with_reducible apply Nat.le_trans; (focus (repeat' (first | with_reducible assumption | with_reducible apply rb_mul | with_reducible apply rb_add | with_reducible apply rb_sub | with_reducible apply rb_neg | with_reducible apply rb_div | with_reducible apply rb_divInt | with_reducible apply rb_int | with_reducible apply lb_mul | with_reducible apply lb_add | with_reducible apply lb_sub | with_reducible apply lb_neg | exact Nat.le_refl _))); omega)) only [go_sem, dec_t h0, if_pos, if_neg, dec_t, dec_f, IntWalk.i64_in, IntWalk.u32_in, IntWalk.u64_in, beq_no]
  rfl
end Go.Pi

set_option linter.unusedVariables false
set_option linter.unusedSimpArgs false
set_option maxHeartbeats 4000000
set_option maxRecDepth 8000
/-
Sides of lines and circles: the program.
-/
namespace Go.Pi
open Go Go.Proofs Num
theorem sg_bd (q : Rat) : -1 ≤ sg q ∧ sg q ≤ 1 := by
  rcases sg_cases q with ⟨_, e⟩ | ⟨_, e⟩ | ⟨_, e⟩ <;> omega
theorem sSign_s {a b c : Rat} (ha : rl a ≤ 50000000) (hb : rl b ≤ 50000000) (hc : rl c ≤ 50000000) : Rq 59 [.agg [.bool (ng (a).num), .sl false (us (lm (a).num)), .bool false, .sl false (us (lm ((a).den : Int)))], .agg [.bool (ng (b).num), .sl false (us (lm (b).num)), .bool false, .sl false (us (lm ((b).den : Int)))], .agg [.bool (ng (c).num), .sl false (us (lm (c).num)), .bool false, .sl false (us (lm ((c).den : Int)))]] = some (.int .i64 (exF a b c)) := by
  refine RL_of (f := 59) (fn := Tryz.f59) Tryz.func59 rfl rfl rfl (Nat.le_of_ble_eq_true rfl) ?_
  unfold exF
  have hd := sg_bd (a * a - b * b * c)
  rcases sg_cases a with ⟨-, eA⟩ | ⟨-, eA⟩ | ⟨-, eA⟩ <;> rcases sg_cases b with ⟨-, eB⟩ | ⟨-, eB⟩ | ⟨-, eB⟩ <;> rcases sg_cases c with ⟨-, eC⟩ | ⟨-, eC⟩ | ⟨-, eC⟩ <;>
    rw [eA, eB, eC] <;> simp -implicitDefEqProofs (maxSteps := 5000000) (disch := first | omega | (with_reducible apply Nat.le_trans; (focus (repeat' (first | with_reducible assumption | with_reducible apply rb_mul | with_reducible apply rb_add | with_reducible apply rb_sub | with_reducible apply rb_neg | with_reducible apply rb_div | with_reducible apply rb_divInt | with_reducible apply rb_int | with_reducible apply lb_mul | with_reducible apply lb_add | with_reducible apply lb_sub | with_reducible apply lb_neg | exact Nat.le_refl _))); omega)) only [go_sem, eA, eB, eC, if_pos, if_neg, dec_t, dec_f, IntWalk.i64_in, IntWalk.u32_in, IntWalk.u64_in, beq_no] <;> try rfl
/-- The interval of a coordinate minus a number. -/
noncomputable def diF (a b c f : Rat) : Option (Int × Int) := match roF a b c with
  | none => none
  | some x => match frF f with
    | none => none
    | some y => prF (x.1 + -y.2) (x.2 + -y.1)
theorem diF_pr {a b c f : Rat} {i : Int × Int} (h : diF a b c f = some i) : Pr i := by
  unfold diF at h
  cases hx : roF a b c with
  | none => rw [hx] at h; cases h
  | some x =>
    rw [hx] at h
    dsimp only at h
    cases hy : frF f with
    | none => rw [hy] at h; cases h
    | some y =>
      rw [hy] at h
      have p1 := roF_pr hx
      have p2 := (frF_pr hy).1
      exact (prF_pr h (by have := p1.2.1; have := p2.2.1; omega)).1
theorem di_ra {a b c f : Rat} {i : Int × Int} (h : diF a b c f = some i) (h0 : 0 ≤ c) (k : Nat) : inF i.1 i.2 (a + b * ra c k + -f) := by
  unfold diF at h
  cases hx : roF a b c with
  | none => rw [hx] at h; cases h
  | some x =>
    rw [hx] at h
    dsimp only at h
    cases hy : frF f with
    | none => rw [hy] at h; cases h
    | some y =>
      rw [hy] at h
      exact prF_in (a := x) (b := (-y.2, -y.1)) h (ro_ra hx h0 k) (neg_in (frF_in hy))
theorem sDist_s {a b c f : Rat} (ha : rl a ≤ 50000000) (hb : rl b ≤ 50000000) (hc : rl c ≤ 50000000) (hf : rl f ≤ 50000000) : Rq 98 [.agg [.bool (ng (a).num), .sl false (us (lm (a).num)), .bool false, .sl false (us (lm ((a).den : Int)))], .agg [.bool (ng (b).num), .sl false (us (lm (b).num)), .bool false, .sl false (us (lm ((b).den : Int)))], .agg [.bool (ng (c).num), .sl false (us (lm (c).num)), .bool false, .sl false (us (lm ((c).den : Int)))], .agg [.bool (ng (f).num), .sl false (us (lm (f).num)), .bool false, .sl false (us (lm ((f).den : Int)))]] = some (pI (diF a b c f)) := by
  refine RL_of (f := 98) (fn := Tryz.f98) Tryz.func98 rfl rfl rfl (Nat.le_of_ble_eq_true rfl) ?_
  have r := iRoot_r (A := a) (B := b) (C := c) (by omega) (by omega) (by omega)
  have g := fromRat_r (q := f) (by omega)
  simp only [zR_eq] at r
  simp only [zQ_eq] at g
  unfold diF
  cases hx : roF a b c with
  | none =>
    rw [hx] at r
    cases hy : frF f with
    | none => rw [hy] at g; simp -implicitDefEqProofs (maxSteps := 5000000) (disch := omega) only [go_sem, r, g, if_pos, if_neg, dec_t, dec_f, IntWalk.i64_in, IntWalk.u32_in, IntWalk.u64_in, beq_no]
    | some y => obtain ⟨y1, y2⟩ := y; rw [hy] at g; simp -implicitDefEqProofs (maxSteps := 5000000) (disch := omega) only [go_sem, r, g, if_pos, if_neg, dec_t, dec_f, IntWalk.i64_in, IntWalk.u32_in, IntWalk.u64_in, beq_no]
  | some x =>
    have p1 := roF_pr hx
    obtain ⟨x1, x2⟩ := x
    rw [hx] at r
    dsimp only
    cases hy : frF f with
    | none => rw [hy] at g; simp -implicitDefEqProofs (maxSteps := 5000000) (disch := omega) only [go_sem, r, g, if_pos, if_neg, dec_t, dec_f, IntWalk.i64_in, IntWalk.u32_in, IntWalk.u64_in, beq_no]
    | some y =>
      have p2 := (frF_pr hy).1
      obtain ⟨y1, y2⟩ := y
      rw [hy] at g
      have ne := iNeg_r (a := y1) (b := y2) ⟨p2.1, by have := p2.2; dsimp only at this; omega⟩ ⟨by have := p2.1; have := p2.2; dsimp only at *; omega, p2.2.2⟩
      have pn : Pr (-y2, -y1) := ⟨by have := p2.2.2; dsimp only at *; omega, by have := p2.2.1; dsimp only at *; omega, by have := p2.1; dsimp only at *; omega⟩
      have ad := add_in p1 pn
      dsimp only at ad ⊢
      cases hz : prF (x1 + -y2) (x2 + -y1) with
      | none => rw [hz] at ad; simp -implicitDefEqProofs (maxSteps := 5000000) (disch := omega) only [go_sem, r, g, ne, ad, if_pos, if_neg, dec_t, dec_f, IntWalk.i64_in, IntWalk.u32_in, IntWalk.u64_in, beq_no]
      | some z => obtain ⟨z1, z2⟩ := z; rw [hz] at ad; simp -implicitDefEqProofs (maxSteps := 5000000) (disch := omega) only [go_sem, r, g, ne, ad, if_pos, if_neg, dec_t, dec_f, IntWalk.i64_in, IntWalk.u32_in, IntWalk.u64_in, beq_no]
/-- The interval of a power. -/
noncomputable def quF (X Y Q AX BX AY BY C : Rat) : Option (Int × Int) := match diF AX BX C X with
  | none => none
  | some x => match diF AY BY C Y with
    | none => none
    | some y => match frF Q with
      | none => none
      | some q => match muF x x with
        | none => none
        | some s => match muF y y with
          | none => none
          | some t => match prF (s.1 + t.1) (s.2 + t.2) with
            | none => none
            | some u => prF (u.1 + -q.2) (u.2 + -q.1)
theorem qu_ra {X Y Q AX BX AY BY C : Rat} {i : Int × Int} (h : quF X Y Q AX BX AY BY C = some i) (h0 : 0 ≤ C) (k : Nat) : inF i.1 i.2 ((AX + BX * ra C k + -X) * (AX + BX * ra C k + -X) + (AY + BY * ra C k + -Y) * (AY + BY * ra C k + -Y) + -Q) := by
  unfold quF at h
  cases hx : diF AX BX C X with
  | none => rw [hx] at h; cases h
  | some x =>
    rw [hx] at h
    dsimp only at h
    cases hy : diF AY BY C Y with
    | none => rw [hy] at h; cases h
    | some y =>
      rw [hy] at h
      dsimp only at h
      cases hq : frF Q with
      | none => rw [hq] at h; cases h
      | some q =>
        rw [hq] at h
        dsimp only at h
        cases hs : muF x x with
        | none => rw [hs] at h; cases h
        | some s =>
          rw [hs] at h
          dsimp only at h
          cases ht : muF y y with
          | none => rw [ht] at h; cases h
          | some t =>
            rw [ht] at h
            dsimp only at h
            cases hu : prF (s.1 + t.1) (s.2 + t.2) with
            | none => rw [hu] at h; cases h
            | some u =>
              rw [hu] at h
              dsimp only at h
              exact prF_in (a := u) (b := (-q.2, -q.1)) h (prF_in hu (muF_in hs (di_ra hx h0 k) (di_ra hx h0 k)) (muF_in ht (di_ra hy h0 k) (di_ra hy h0 k))) (neg_in (frF_in hq))
end Go.Pi

set_option linter.unusedVariables false
set_option linter.unusedSimpArgs false
set_option maxHeartbeats 4000000
set_option maxRecDepth 8000
/-
Sides of lines and circles: the program.
-/
namespace Go.Pi
open Go Go.Proofs Num
theorem mul_in {a b : Int × Int} (p : Pr a) (q : Pr b) : Rq 99 [.agg [.int .i64 a.1, .int .i64 a.2], .agg [.int .i64 b.1, .int .i64 b.2]] = some (pI (muF a b)) :=
  iMul_r ⟨p.1, by have := p.2; omega⟩ ⟨by have := p.1; have := p.2; omega, p.2.2⟩ ⟨q.1, by have := q.2; omega⟩ ⟨by have := q.1; have := q.2; omega, q.2.2⟩
theorem pI_cases (i : Option (Int × Int)) : ∃ a b k, pI i = .tup [.agg [.int .i64 a, .int .i64 b], .bool k] ∧ ((k = false ∧ i = none) ∨ (k = true ∧ i = some (a, b))) := by
  cases i with
  | none => exact ⟨0, 0, false, rfl, .inl ⟨rfl, rfl⟩⟩
  | some i => exact ⟨i.1, i.2, true, rfl, .inr ⟨rfl, rfl⟩⟩
theorem quick_s {X Y Q AX BX AY BY C : Rat} (h1 : rl X ≤ 1000000) (h2 : rl Y ≤ 1000000) (h3 : rl Q ≤ 1000000) (h4 : rl AX ≤ 1000000) (h5 : rl BX ≤ 1000000) (h6 : rl AY ≤ 1000000) (h7 : rl BY ≤ 1000000) (h8 : rl C ≤ 1000000) :
    Rq 65 [.agg [.bool (ng (X).num), .sl false (us (lm (X).num)), .bool false, .sl false (us (lm ((X).den : Int))), .bool (ng (Y).num), .sl false (us (lm (Y).num)), .bool false, .sl false (us (lm ((Y).den : Int))), .bool (ng (Q).num), .sl false (us (lm (Q).num)), .bool false, .sl false (us (lm ((Q).den : Int)))], .agg [.bool (ng (AX).num), .sl false (us (lm (AX).num)), .bool false, .sl false (us (lm ((AX).den : Int))), .bool (ng (BX).num), .sl false (us (lm (BX).num)), .bool false, .sl false (us (lm ((BX).den : Int))), .bool (ng (AY).num), .sl false (us (lm (AY).num)), .bool false, .sl false (us (lm ((AY).den : Int))), .bool (ng (BY).num), .sl false (us (lm (BY).num)), .bool false, .sl false (us (lm ((BY).den : Int))), .bool (ng (C).num), .sl false (us (lm (C).num)), .bool false, .sl false (us (lm ((C).den : Int)))]] = some (sgV (quF X Y Q AX BX AY BY C)) := by
  refine RL_of (f := 65) (fn := Tryz.f65) Tryz.func65 rfl rfl rfl (Nat.le_of_ble_eq_true rfl) ?_
  have dx := sDist_s (a := AX) (b := BX) (c := C) (f := X) (by omega) (by omega) (by omega) (by omega)
  have dy := sDist_s (a := AY) (b := BY) (c := C) (f := Y) (by omega) (by omega) (by omega) (by omega)
  have fq := fromRat_r (q := Q) (by omega)
  simp only [zQ_eq] at fq
  have px := fun i => diF_pr (a := AX) (b := BX) (c := C) (f := X) (i := i)
  have py := fun i => diF_pr (a := AY) (b := BY) (c := C) (f := Y) (i := i)
  have pq := fun i => frF_pr (q := Q) (i := i)
  unfold quF
  generalize diF AX BX C X = x at *
  generalize diF AY BY C Y = y at *
  generalize frF Q = q at *
  cases x with
  | none =>
    clear px py pq
    obtain ⟨a, b, k, e, _⟩ := pI_cases y
    obtain ⟨a', b', k', e', _⟩ := pI_cases q
    rw [e] at dy
    rw [e'] at fq
    simp -implicitDefEqProofs (maxSteps := 5000000) (disch := omega) only [go_sem, dx, dy, fq, if_pos, if_neg, dec_t, dec_f, IntWalk.i64_in, IntWalk.u32_in, IntWalk.u64_in, beq_no]
  | some x =>
    have px := px x rfl
    dsimp only
    cases y with
    | none =>
      clear px py pq
      obtain ⟨x1, x2⟩ := x
      obtain ⟨a', b', k', e', _⟩ := pI_cases q
      rw [e'] at fq
      simp -implicitDefEqProofs (maxSteps := 5000000) (disch := omega) only [go_sem, dx, dy, fq, if_pos, if_neg, dec_t, dec_f, IntWalk.i64_in, IntWalk.u32_in, IntWalk.u64_in, beq_no]
    | some y =>
      have py := py y rfl
      dsimp only
      cases q with
      | none =>
        clear px py pq
        obtain ⟨x1, x2⟩ := x
        obtain ⟨y1, y2⟩ := y
        simp -implicitDefEqProofs (maxSteps := 5000000) (disch := omega) only [go_sem, dx, dy, fq, if_pos, if_neg, dec_t, dec_f, IntWalk.i64_in, IntWalk.u32_in, IntWalk.u64_in, beq_no]
      | some q =>
        have pq := (pq q rfl).1
        have ms := mul_in px px
        have mt := mul_in py py
        have ps := fun i => muF_pr (a := x) (b := x) (i := i)
        have pt := fun i => muF_pr (a := y) (b := y) (i := i)
        obtain ⟨x1, x2⟩ := x
        obtain ⟨y1, y2⟩ := y
        dsimp only at ms mt ⊢
        generalize muF (x1, x2) (x1, x2) = s at *
        generalize muF (y1, y2) (y1, y2) = t at *
        have pn : Pr (-q.2, -q.1) := ⟨by have := pq.2.2; dsimp only at *; omega, by have := pq.2.1; dsimp only at *; omega, by have := pq.1; dsimp only at *; omega⟩
        have ne := iNeg_r (a := q.1) (b := q.2) ⟨pq.1, by have := pq.2; omega⟩ ⟨by have := pq.1; have := pq.2; omega, pq.2.2⟩
        obtain ⟨q1, q2⟩ := q
        dsimp only at pn ne
        cases s with
        | none =>
          clear px py pq ps pt
          obtain ⟨a', b', k', e', _⟩ := pI_cases t
          rw [e'] at mt
          simp -implicitDefEqProofs (maxSteps := 5000000) (disch := omega) only [go_sem, dx, dy, fq, ms, mt, if_pos, if_neg, dec_t, dec_f, IntWalk.i64_in, IntWalk.u32_in, IntWalk.u64_in, beq_no]
        | some s =>
          have ps := ps s rfl
          cases t with
          | none =>
            clear px py pq ps pt
            obtain ⟨s1, s2⟩ := s
            simp -implicitDefEqProofs (maxSteps := 5000000) (disch := omega) only [go_sem, dx, dy, fq, ms, mt, if_pos, if_neg, dec_t, dec_f, IntWalk.i64_in, IntWalk.u32_in, IntWalk.u64_in, beq_no]
          | some t =>
            have pt := pt t rfl
            have ad := add_in ps pt
            have pu := fun u h => (prF_pr (l := s.1 + t.1) (h := s.2 + t.2) (i := u) h (by have := ps.2.1; have := pt.2.1; omega)).1
            obtain ⟨s1, s2⟩ := s
            obtain ⟨t1, t2⟩ := t
            dsimp only at ad pu ⊢
            generalize prF (s1 + t1) (s2 + t2) = u at *
            cases u with
            | none => simp -implicitDefEqProofs (maxSteps := 5000000) (disch := omega) only [go_sem, dx, dy, fq, ms, mt, ad, if_pos, if_neg, dec_t, dec_f, IntWalk.i64_in, IntWalk.u32_in, IntWalk.u64_in, beq_no]
            | some u =>
              have pu := pu u rfl
              have a2 := add_in pu pn
              obtain ⟨u1, u2⟩ := u
              dsimp only at a2 ⊢
              clear px py pq ps pt pu pn
              generalize prF (u1 + -q2) (u2 + -q1) = z at *
              cases z with
              | none => simp -implicitDefEqProofs (maxSteps := 5000000) (disch := omega) only [go_sem, dx, dy, fq, ms, mt, ad, ne, a2, if_pos, if_neg, dec_t, dec_f, IntWalk.i64_in, IntWalk.u32_in, IntWalk.u64_in, beq_no]
              | some z =>
                obtain ⟨z1, z2⟩ := z
                have sg := iSign_r z1 z2
                simp -implicitDefEqProofs (maxSteps := 5000000) (disch := omega) only [go_sem, dx, dy, fq, ms, mt, ad, ne, a2, sg, if_pos, if_neg, dec_t, dec_f, IntWalk.i64_in, IntWalk.u32_in, IntWalk.u64_in, beq_no]
                rfl
/-- Side: the exact sign. -/
theorem suppSide_s {A B C AX BX AY BY PC : Rat} (h1 : rl A ≤ 100000) (h2 : rl B ≤ 100000) (h3 : rl C ≤ 100000) (h4 : rl AX ≤ 100000) (h5 : rl BX ≤ 100000) (h6 : rl AY ≤ 100000) (h7 : rl BY ≤ 100000) (h8 : rl PC ≤ 100000) (h0 : 0 ≤ PC) :
    Rq 16 [.agg (zR A B C), .agg (zP AX BX AY BY PC)] = some (.int .i64 (exF (A * AX + B * AY - C) (A * BX + B * BY) PC)) := by
  refine RL_of (f := 16) (fn := Tryz.f16) Tryz.func16 rfl rfl rfl (Nat.le_of_ble_eq_true rfl) ?_
  have f := side_r (A := A) (B := B) (C := C) (AX := AX) (BX := BX) (AY := AY) (BY := BY) (PC := PC) (by omega) (by omega) (by omega) (by omega) (by omega) (by omega) (by omega) (by omega)
  have s := sSign_s (a := A * AX + B * AY - C) (b := A * BX + B * BY) (c := PC) (by (with_reducible apply Nat.le_trans; (focus (repeat' (first | with_reducible assumption | with_reducible apply rb_mul | with_reducible apply rb_add | with_reducible apply rb_sub | with_reducible apply rb_neg | with_reducible apply rb_div | with_reducible apply rb_divInt | with_reducible apply rb_int | with_reducible apply lb_mul | with_reducible apply lb_add | with_reducible apply lb_sub | with_reducible apply lb_neg | exact Nat.le_refl _))); omega)) (by (with_reducible apply Nat.le_trans; (focus (repeat' (first | with_reducible assumption | with_reducible apply rb_mul | with_reducible apply rb_add | with_reducible apply rb_sub | with_reducible apply rb_neg | with_reducible apply rb_div | with_reducible apply rb_divInt | with_reducible apply rb_int | with_reducible apply lb_mul | with_reducible apply lb_add | with_reducible apply lb_sub | with_reducible apply lb_neg | exact Nat.le_refl _))); omega)) (by omega)
  simp only [zR_eq, zP_eq] at f
  cases hi : sdF A B C AX BX AY BY PC with
  | none =>
    rw [hi] at f
    simp -implicitDefEqProofs (maxSteps := 5000000) (disch := first | omega | (with_reducible apply Nat.le_trans; (focus (repeat' (first | with_reducible assumption | with_reducible apply rb_mul | with_reducible apply rb_add | with_reducible apply rb_sub | with_reducible apply rb_neg | with_reducible apply rb_div | with_reducible apply rb_divInt | with_reducible apply rb_int | with_reducible apply lb_mul | with_reducible apply lb_add | with_reducible apply lb_sub | with_reducible apply lb_neg | exact Nat.le_refl _))); omega)) only [go_sem, f, s, if_pos, if_neg, dec_t, dec_f, IntWalk.i64_in, IntWalk.u32_in, IntWalk.u64_in, beq_no]
  | some i =>
    rw [hi, sgV] at f
    by_cases kn : 0 < i.1 ∨ i.2 < 0 ∨ i.1 = 0 ∧ i.2 = 0
    · have e := known_exF h0 (sd_ra hi h0) (Nul.self _) kn
      unfold sgI at e
      rw [dec_t kn, e] at f
      simp -implicitDefEqProofs (maxSteps := 5000000) (disch := first | omega | (with_reducible apply Nat.le_trans; (focus (repeat' (first | with_reducible assumption | with_reducible apply rb_mul | with_reducible apply rb_add | with_reducible apply rb_sub | with_reducible apply rb_neg | with_reducible apply rb_div | with_reducible apply rb_divInt | with_reducible apply rb_int | with_reducible apply lb_mul | with_reducible apply lb_add | with_reducible apply lb_sub | with_reducible apply lb_neg | exact Nat.le_refl _))); omega)) only [go_sem, f, if_pos, if_neg, dec_t, dec_f, IntWalk.i64_in, IntWalk.u32_in, IntWalk.u64_in, beq_no]
    · rw [dec_f kn] at f
      simp -implicitDefEqProofs (maxSteps := 5000000) (disch := first | omega | (with_reducible apply Nat.le_trans; (focus (repeat' (first | with_reducible assumption | with_reducible apply rb_mul | with_reducible apply rb_add | with_reducible apply rb_sub | with_reducible apply rb_neg | with_reducible apply rb_div | with_reducible apply rb_divInt | with_reducible apply rb_int | with_reducible apply lb_mul | with_reducible apply lb_add | with_reducible apply lb_sub | with_reducible apply lb_neg | exact Nat.le_refl _))); omega)) only [go_sem, f, s, if_pos, if_neg, dec_t, dec_f, IntWalk.i64_in, IntWalk.u32_in, IntWalk.u64_in, beq_no]
/-- Inside: the exact sign. -/
theorem suppInside_s {X Y Q AX BX AY BY C : Rat} (h1 : rl X ≤ 10000) (h2 : rl Y ≤ 10000) (h3 : rl Q ≤ 10000) (h4 : rl AX ≤ 10000) (h5 : rl BX ≤ 10000) (h6 : rl AY ≤ 10000) (h7 : rl BY ≤ 10000) (h8 : rl C ≤ 10000) (h0 : 0 ≤ C) :
    Rq 21 [.agg (zR X Y Q), .agg (zP AX BX AY BY C)] = some (.int .i64 (-exF ((AX - X) * (AX - X) + (AY - Y) * (AY - Y) + C * (BX * BX + BY * BY) - Q) ((AX - X) * BX + (AY - Y) * BY + ((AX - X) * BX + (AY - Y) * BY)) C)) := by
  refine RL_of (f := 21) (fn := Tryz.f21) Tryz.func21 rfl rfl rfl (Nat.le_of_ble_eq_true rfl) ?_
  have f := quick_s (X := X) (Y := Y) (Q := Q) (AX := AX) (BX := BX) (AY := AY) (BY := BY) (C := C) (by omega) (by omega) (by omega) (by omega) (by omega) (by omega) (by omega) (by omega)
  have s := sSign_s (a := (AX - X) * (AX - X) + (AY - Y) * (AY - Y) + C * (BX * BX + BY * BY) - Q) (b := (AX - X) * BX + (AY - Y) * BY + ((AX - X) * BX + (AY - Y) * BY)) (c := C) (by (with_reducible apply Nat.le_trans; (focus (repeat' (first | with_reducible assumption | with_reducible apply rb_mul | with_reducible apply rb_add | with_reducible apply rb_sub | with_reducible apply rb_neg | with_reducible apply rb_div | with_reducible apply rb_divInt | with_reducible apply rb_int | with_reducible apply lb_mul | with_reducible apply lb_add | with_reducible apply lb_sub | with_reducible apply lb_neg | exact Nat.le_refl _))); omega)) (by (with_reducible apply Nat.le_trans; (focus (repeat' (first | with_reducible assumption | with_reducible apply rb_mul | with_reducible apply rb_add | with_reducible apply rb_sub | with_reducible apply rb_neg | with_reducible apply rb_div | with_reducible apply rb_divInt | with_reducible apply rb_int | with_reducible apply lb_mul | with_reducible apply lb_add | with_reducible apply lb_sub | with_reducible apply lb_neg | exact Nat.le_refl _))); omega)) (by omega)
  have bd : -1 ≤ exF ((AX - X) * (AX - X) + (AY - Y) * (AY - Y) + C * (BX * BX + BY * BY) - Q) ((AX - X) * BX + (AY - Y) * BY + ((AX - X) * BX + (AY - Y) * BY)) C ∧ exF ((AX - X) * (AX - X) + (AY - Y) * (AY - Y) + C * (BX * BX + BY * BY) - Q) ((AX - X) * BX + (AY - Y) * BY + ((AX - X) * BX + (AY - Y) * BY)) C ≤ 1 := by
    rcases va_sgn (A := (AX - X) * (AX - X) + (AY - Y) * (AY - Y) + C * (BX * BX + BY * BY) - Q) (B := (AX - X) * BX + (AY - Y) * BY + ((AX - X) * BX + (AY - Y) * BY)) h0 with ⟨e, _⟩ | ⟨e, _⟩ | ⟨e, _⟩ <;> omega
  have nr : ∀ i, quF X Y Q AX BX AY BY C = some i → (0 < i.1 ∨ i.2 < 0 ∨ i.1 = 0 ∧ i.2 = 0) → sgI i = exF ((AX - X) * (AX - X) + (AY - Y) * (AY - Y) + C * (BX * BX + BY * BY) - Q) ((AX - X) * BX + (AY - Y) * BY + ((AX - X) * BX + (AY - Y) * BY)) C := fun i hi kn => by
    refine known_exF h0 (qu_ra hi h0) ?_ kn
    refine ((ra_err h0).scale (-(BX * BX + BY * BY))).congr fun k => ?_
    unfold va
    grind
  cases hi : quF X Y Q AX BX AY BY C with
  | none =>
    rw [hi] at f
    clear nr
    simp -implicitDefEqProofs (maxSteps := 5000000) (disch := first | omega | (with_reducible apply Nat.le_trans; (focus (repeat' (first | with_reducible assumption | with_reducible apply rb_mul | with_reducible apply rb_add | with_reducible apply rb_sub | with_reducible apply rb_neg | with_reducible apply rb_div | with_reducible apply rb_divInt | with_reducible apply rb_int | with_reducible apply lb_mul | with_reducible apply lb_add | with_reducible apply lb_sub | with_reducible apply lb_neg | exact Nat.le_refl _))); omega)) only [go_sem, f, s, if_pos, if_neg, dec_t, dec_f, IntWalk.i64_in, IntWalk.u32_in, IntWalk.u64_in, beq_no]
  | some i =>
    have nr := nr i hi
    rw [hi, sgV] at f
    by_cases kn : 0 < i.1 ∨ i.2 < 0 ∨ i.1 = 0 ∧ i.2 = 0
    · have e := nr kn
      unfold sgI at e
      rw [dec_t kn, e] at f
      clear nr e
      generalize exF _ _ _ = z at *
      simp -implicitDefEqProofs (maxSteps := 5000000) (disch := first | omega | (with_reducible apply Nat.le_trans; (focus (repeat' (first | with_reducible assumption | with_reducible apply rb_mul | with_reducible apply rb_add | with_reducible apply rb_sub | with_reducible apply rb_neg | with_reducible apply rb_div | with_reducible apply rb_divInt | with_reducible apply rb_int | with_reducible apply lb_mul | with_reducible apply lb_add | with_reducible apply lb_sub | with_reducible apply lb_neg | exact Nat.le_refl _))); omega)) only [go_sem, f, if_pos, if_neg, dec_t, dec_f, IntWalk.i64_in, IntWalk.u32_in, IntWalk.u64_in, beq_no]
    · rw [dec_f kn] at f
      clear nr
      simp -implicitDefEqProofs (maxSteps := 5000000) (disch := first | omega | (with_reducible apply Nat.le_trans; (focus (repeat' (first | with_reducible assumption | with_reducible apply rb_mul | with_reducible apply rb_add | with_reducible apply rb_sub | with_reducible apply rb_neg | with_reducible apply rb_div | with_reducible apply rb_divInt | with_reducible apply rb_int | with_reducible apply lb_mul | with_reducible apply lb_add | with_reducible apply lb_sub | with_reducible apply lb_neg | exact Nat.le_refl _))); omega)) only [go_sem, f, s, if_pos, if_neg, dec_t, dec_f, IntWalk.i64_in, IntWalk.u32_in, IntWalk.u64_in, beq_no]
end Go.Pi
