/- What is proved: swept heights, by program and reference. No conditions beyond those in the statements. -/
import Derived.Test.YtnhfplmgkhdmlaaGreatVa
set_option linter.unusedVariables false
set_option linter.unusedSimpArgs false
set_option maxHeartbeats 4000000
set_option maxRecDepth 8000
/-
What a cut sweeps: the program.
-/
namespace Go.Pi
open Go Go.Proofs Num
/-- A cut's cells. -/
def zC (c : Cut) : List PV := [.int .i64 c.fx, .int .i64 c.fy, .int .i64 c.fz, .int .i64 c.tx, .int .i64 c.ty, .int .i64 c.tz, .int .i64 c.r]
@[go_sem] theorem zC_eq (c : Cut) : zC c = [.int .i64 c.fx, .int .i64 c.fy, .int .i64 c.fz, .int .i64 c.tx, .int .i64 c.ty, .int .i64 c.tz, .int .i64 c.r] := nr rfl
/-- A root's cells. -/
def zT (r : Rt) : List PV := zR r.A r.B r.C
@[go_sem] theorem zT_eq (r : Rt) : zT r = [.bool (ng (r.A).num), .sl false (us (lm (r.A).num)), .bool false, .sl false (us (lm ((r.A).den : Int))), .bool (ng (r.B).num), .sl false (us (lm (r.B).num)), .bool false, .sl false (us (lm ((r.B).den : Int))), .bool (ng (r.C).num), .sl false (us (lm (r.C).num)), .bool false, .sl false (us (lm ((r.C).den : Int)))] := by
  simp only [zT, zR_eq]
/-- Its numbers are not too great. -/
structure _root_.Num.Cut.Bd (c : Cut) : Prop where
  fx : -500000 ≤ c.fx ∧ c.fx ≤ 500000
  fy : -500000 ≤ c.fy ∧ c.fy ≤ 500000
  fz : -500000 ≤ c.fz ∧ c.fz ≤ 500000
  tx : -500000 ≤ c.tx ∧ c.tx ≤ 500000
  ty : -500000 ≤ c.ty ∧ c.ty ≤ 500000
  tz : -500000 ≤ c.tz ∧ c.tz ≤ 500000
  r : 0 ≤ c.r ∧ c.r ≤ 255
@[go_sem] theorem mAdd_s {a b : Rat} (ha : rl a ≤ 200000000) (hb : rl b ≤ 200000000) : Rq 81 [.agg [.bool (ng (a).num), .sl false (us (lm (a).num)), .bool false, .sl false (us (lm ((a).den : Int)))], .agg [.bool (ng (b).num), .sl false (us (lm (b).num)), .bool false, .sl false (us (lm ((b).den : Int)))]] = some (.agg (zQ (a + b))) := by
  refine RL_of (f := 81) (fn := Tryz.f81) Tryz.func81 rfl rfl rfl (Nat.le_of_ble_eq_true rfl) ?_
  simp -implicitDefEqProofs (maxSteps := 5000000) (disch := first | omega | (with_reducible apply Nat.le_trans; (focus (repeat' (first | with_reducible assumption | with_reducible apply rb_mul | with_reducible apply rb_add | with_reducible apply rb_sub | with_reducible apply rb_neg | with_reducible apply rb_div | with_reducible apply rb_divInt | with_reducible apply rb_int | with_reducible apply lb_mul | with_reducible apply lb_add | with_reducible apply lb_sub | with_reducible apply lb_neg | exact Nat.le_refl _))); omega)) only [go_sem, if_pos, if_neg, dec_t, dec_f, IntWalk.i64_in, IntWalk.u32_in, IntWalk.u64_in, beq_no]
@[go_sem] theorem mSub_s {a b : Rat} (ha : rl a ≤ 200000000) (hb : rl b ≤ 200000000) : Rq 47 [.agg [.bool (ng (a).num), .sl false (us (lm (a).num)), .bool false, .sl false (us (lm ((a).den : Int)))], .agg [.bool (ng (b).num), .sl false (us (lm (b).num)), .bool false, .sl false (us (lm ((b).den : Int)))]] = some (.agg (zQ (a - b))) := by
  refine RL_of (f := 47) (fn := Tryz.f47) Tryz.func47 rfl rfl rfl (Nat.le_of_ble_eq_true rfl) ?_
  simp -implicitDefEqProofs (maxSteps := 5000000) (disch := first | omega | (with_reducible apply Nat.le_trans; (focus (repeat' (first | with_reducible assumption | with_reducible apply rb_mul | with_reducible apply rb_add | with_reducible apply rb_sub | with_reducible apply rb_neg | with_reducible apply rb_div | with_reducible apply rb_divInt | with_reducible apply rb_int | with_reducible apply lb_mul | with_reducible apply lb_add | with_reducible apply lb_sub | with_reducible apply lb_neg | exact Nat.le_refl _))); omega)) only [go_sem, if_pos, if_neg, dec_t, dec_f, IntWalk.i64_in, IntWalk.u32_in, IntWalk.u64_in, beq_no]
@[go_sem] theorem mMul_s {a b : Rat} (ha : rl a ≤ 200000000) (hb : rl b ≤ 200000000) : Rq 48 [.agg [.bool (ng (a).num), .sl false (us (lm (a).num)), .bool false, .sl false (us (lm ((a).den : Int)))], .agg [.bool (ng (b).num), .sl false (us (lm (b).num)), .bool false, .sl false (us (lm ((b).den : Int)))]] = some (.agg (zQ (a * b))) := by
  refine RL_of (f := 48) (fn := Tryz.f48) Tryz.func48 rfl rfl rfl (Nat.le_of_ble_eq_true rfl) ?_
  simp -implicitDefEqProofs (maxSteps := 5000000) (disch := first | omega | (with_reducible apply Nat.le_trans; (focus (repeat' (first | with_reducible assumption | with_reducible apply rb_mul | with_reducible apply rb_add | with_reducible apply rb_sub | with_reducible apply rb_neg | with_reducible apply rb_div | with_reducible apply rb_divInt | with_reducible apply rb_int | with_reducible apply lb_mul | with_reducible apply lb_add | with_reducible apply lb_sub | with_reducible apply lb_neg | exact Nat.le_refl _))); omega)) only [go_sem, if_pos, if_neg, dec_t, dec_f, IntWalk.i64_in, IntWalk.u32_in, IntWalk.u64_in, beq_no]
@[go_sem] theorem mNum_s {n : Int} (h0 : -9223372036854775808 ≤ n) (h1 : n ≤ 9223372036854775807) : Rq 45 [.int .i64 n] = some (.agg (zQ (n : Rat))) := by
  refine RL_of (f := 45) (fn := Tryz.f45) Tryz.func45 rfl rfl rfl (Nat.le_of_ble_eq_true rfl) ?_
  simp -implicitDefEqProofs (maxSteps := 5000000) (disch := first | omega | (with_reducible apply Nat.le_trans; (focus (repeat' (first | with_reducible assumption | with_reducible apply rb_mul | with_reducible apply rb_add | with_reducible apply rb_sub | with_reducible apply rb_neg | with_reducible apply rb_div | with_reducible apply rb_divInt | with_reducible apply rb_int | with_reducible apply lb_mul | with_reducible apply lb_add | with_reducible apply lb_sub | with_reducible apply lb_neg | exact Nat.le_refl _))); omega)) only [go_sem, if_pos, if_neg, dec_t, dec_f, IntWalk.i64_in, IntWalk.u32_in, IntWalk.u64_in, beq_no]
@[go_sem] theorem ti_Pos : ti Pq 43 = some ⟨.struct [(0, 1), (1, 1), (2, 1)], 3, 24, [.int .i64 0, .int .i64 0, .int .i64 0]⟩ := by kernel_rfl
@[go_sem] theorem ti_Cut : ti Pq 45 = some ⟨.struct [(0, 3), (3, 3), (6, 1)], 7, 56, [.int .i64 0, .int .i64 0, .int .i64 0, .int .i64 0, .int .i64 0, .int .i64 0, .int .i64 0]⟩ := by kernel_rfl
@[go_sem] theorem mVec_s {a b z : Int} (ha : -1000000 ≤ a ∧ a ≤ 1000000) (hb : -1000000 ≤ b ∧ b ≤ 1000000) : Rq 39 [.agg [.int .i64 a, .int .i64 b, .int .i64 z]] = some (.agg (zV (a : Rat) (b : Rat))) := by
  refine RL_of (f := 39) (fn := Tryz.f39) Tryz.func39 rfl rfl rfl (Nat.le_of_ble_eq_true rfl) ?_
  simp -implicitDefEqProofs (maxSteps := 5000000) (disch := first | omega | (with_reducible apply Nat.le_trans; (focus (repeat' (first | with_reducible assumption | with_reducible apply rb_mul | with_reducible apply rb_add | with_reducible apply rb_sub | with_reducible apply rb_neg | with_reducible apply rb_div | with_reducible apply rb_divInt | with_reducible apply rb_int | with_reducible apply lb_mul | with_reducible apply lb_add | with_reducible apply lb_sub | with_reducible apply lb_neg | exact Nat.le_refl _))); omega)) only [go_sem, if_pos, if_neg, dec_t, dec_f, IntWalk.i64_in, IntWalk.u32_in, IntWalk.u64_in, beq_no]
@[go_sem] theorem mWay_s {x y u v : Rat} (h1 : rl x ≤ 10000000) (h2 : rl y ≤ 10000000) (h3 : rl u ≤ 10000000) (h4 : rl v ≤ 10000000) : Rq 38 [.agg [.bool (ng (x).num), .sl false (us (lm (x).num)), .bool false, .sl false (us (lm ((x).den : Int))), .bool (ng (y).num), .sl false (us (lm (y).num)), .bool false, .sl false (us (lm ((y).den : Int)))], .agg [.bool (ng (u).num), .sl false (us (lm (u).num)), .bool false, .sl false (us (lm ((u).den : Int))), .bool (ng (v).num), .sl false (us (lm (v).num)), .bool false, .sl false (us (lm ((v).den : Int)))]] = some (.agg (zV (u - x) (v - y))) := by
  refine RL_of (f := 38) (fn := Tryz.f38) Tryz.func38 rfl rfl rfl (Nat.le_of_ble_eq_true rfl) ?_
  simp -implicitDefEqProofs (maxSteps := 5000000) (disch := first | omega | (with_reducible apply Nat.le_trans; (focus (repeat' (first | with_reducible assumption | with_reducible apply rb_mul | with_reducible apply rb_add | with_reducible apply rb_sub | with_reducible apply rb_neg | with_reducible apply rb_div | with_reducible apply rb_divInt | with_reducible apply rb_int | with_reducible apply lb_mul | with_reducible apply lb_add | with_reducible apply lb_sub | with_reducible apply lb_neg | exact Nat.le_refl _))); omega)) only [go_sem, if_pos, if_neg, dec_t, dec_f, IntWalk.i64_in, IntWalk.u32_in, IntWalk.u64_in, beq_no]
@[go_sem] theorem mDot_s {x y u v : Rat} (h1 : rl x ≤ 10000000) (h2 : rl y ≤ 10000000) (h3 : rl u ≤ 10000000) (h4 : rl v ≤ 10000000) : Rq 42 [.agg [.bool (ng (x).num), .sl false (us (lm (x).num)), .bool false, .sl false (us (lm ((x).den : Int))), .bool (ng (y).num), .sl false (us (lm (y).num)), .bool false, .sl false (us (lm ((y).den : Int)))], .agg [.bool (ng (u).num), .sl false (us (lm (u).num)), .bool false, .sl false (us (lm ((u).den : Int))), .bool (ng (v).num), .sl false (us (lm (v).num)), .bool false, .sl false (us (lm ((v).den : Int)))]] = some (.agg (zQ (x * u + y * v))) := by
  refine RL_of (f := 42) (fn := Tryz.f42) Tryz.func42 rfl rfl rfl (Nat.le_of_ble_eq_true rfl) ?_
  simp -implicitDefEqProofs (maxSteps := 5000000) (disch := first | omega | (with_reducible apply Nat.le_trans; (focus (repeat' (first | with_reducible assumption | with_reducible apply rb_mul | with_reducible apply rb_add | with_reducible apply rb_sub | with_reducible apply rb_neg | with_reducible apply rb_div | with_reducible apply rb_divInt | with_reducible apply rb_int | with_reducible apply lb_mul | with_reducible apply lb_add | with_reducible apply lb_sub | with_reducible apply lb_neg | exact Nat.le_refl _))); omega)) only [go_sem, if_pos, if_neg, dec_t, dec_f, IntWalk.i64_in, IntWalk.u32_in, IntWalk.u64_in, beq_no]
theorem rl_1 {n : Int} (h : -1000000 ≤ n ∧ n ≤ 1000000) : rl (n : Rat) ≤ 1 := rl_small (by omega) (by omega)
theorem mSquare_s {n : Int} (h : -1000000 ≤ n ∧ n ≤ 1000000) : Rq 43 [.int .i64 n] = some (.agg (zQ ((n : Rat) * (n : Rat)))) := by
  refine RL_of (f := 43) (fn := Tryz.f43) Tryz.func43 rfl rfl rfl (Nat.le_of_ble_eq_true rfl) ?_
  have := rl_1 h
  simp -implicitDefEqProofs (maxSteps := 5000000) (disch := first | omega | (with_reducible apply Nat.le_trans; (focus (repeat' (first | with_reducible assumption | with_reducible apply rb_mul | with_reducible apply rb_add | with_reducible apply rb_sub | with_reducible apply rb_neg | with_reducible apply rb_div | with_reducible apply rb_divInt | with_reducible apply rb_int | with_reducible apply lb_mul | with_reducible apply lb_add | with_reducible apply lb_sub | with_reducible apply lb_neg | exact Nat.le_refl _))); omega)) only [go_sem, if_pos, if_neg, dec_t, dec_f, IntWalk.i64_in, IntWalk.u32_in, IntWalk.u64_in, beq_no]
theorem mLevel_s (c : Cut) : Rq 40 [.agg (zC c)] = some (.bool (dec (c.fz = c.tz))) := by
  refine RL_of (f := 40) (fn := Tryz.f40) Tryz.func40 rfl rfl rfl (Nat.le_of_ble_eq_true rfl) ?_
  by_cases h : c.fz = c.tz
  · rw [dec_t h]
    simp -implicitDefEqProofs (maxSteps := 5000000) (disch := omega) only [go_sem, h, if_pos, if_neg, dec_t, dec_f, IntWalk.i64_in, IntWalk.u32_in, IntWalk.u64_in, beq_no]
  · rw [dec_f h]
    simp -implicitDefEqProofs (maxSteps := 5000000) (disch := omega) only [go_sem, h, if_pos, if_neg, dec_t, dec_f, IntWalk.i64_in, IntWalk.u32_in, IntWalk.u64_in, beq_no]
theorem mOver_s {c : Cut} (hb : c.Bd) {x y : Rat} {r : Int} (hx : rl x ≤ 20) (hy : rl y ≤ 20) (hr : -1000 ≤ r ∧ r ≤ 1000) : Rq 37 [.agg (zC c), .agg [.bool (ng (x).num), .sl false (us (lm (x).num)), .bool false, .sl false (us (lm ((x).den : Int))), .bool (ng (y).num), .sl false (us (lm (y).num)), .bool false, .sl false (us (lm ((y).den : Int)))], .int .i64 r] = some (.bool (dec (c.ov x y r))) := by
  refine RL_of (f := 37) (fn := Tryz.f37) Tryz.func37 rfl rfl rfl (Nat.le_of_ble_eq_true rfl) ?_
  have b := hb
  obtain ⟨b1, b2, b3, b4, b5, b6, b7⟩ := b
  have l1 := rl_1 (n := c.fx) (by omega)
  have l2 := rl_1 (n := c.fy) (by omega)
  have l3 := rl_1 (n := c.tx) (by omega)
  have l4 := rl_1 (n := c.ty) (by omega)
  have l5 := rl_1 (n := r) (by omega)
  have v1 := mVec_s (a := c.fx) (b := c.fy) (z := c.fz) (by omega) (by omega)
  have v2 := mVec_s (a := c.tx) (b := c.ty) (z := c.tz) (by omega) (by omega)
  have sg1 := dSegments_s (ax := (c.fx : Rat)) (ay := (c.fy : Rat)) (bx := (c.tx : Rat)) (bz := (c.ty : Rat)) (px := x) (py := y) (by omega) (by omega) (by omega) (by omega) (by omega) (by omega)
  have ld := rl_ds (ax := (c.fx : Rat)) (ay := (c.fy : Rat)) (bx := (c.tx : Rat)) (bz := (c.ty : Rat)) (px := x) (py := y) (by omega) (by omega) (by omega) (by omega) (by omega) (by omega)
  have sq := mSquare_s (n := r) (by omega)
  have cm : sg (dsF (c.fx : Rat) (c.fy : Rat) (c.tx : Rat) (c.ty : Rat) x y - (r : Rat) * (r : Rat)) ≤ 0 ↔ dsF (c.fx : Rat) (c.fy : Rat) (c.tx : Rat) (c.ty : Rat) x y ≤ (r : Rat) * (r : Rat) := by
    rw [sg_le]; constructor <;> intro h <;> grind
  unfold Cut.ov
  clear hb b1 b2 b3 b4 b5 b6 b7
  generalize dsF (c.fx : Rat) (c.fy : Rat) (c.tx : Rat) (c.ty : Rat) x y = D at *
  have ls : rl ((r : Rat) * (r : Rat)) ≤ 10 := by (with_reducible apply Nat.le_trans; (focus (repeat' (first | with_reducible assumption | with_reducible apply rb_mul | with_reducible apply rb_add | with_reducible apply rb_sub | with_reducible apply rb_neg | with_reducible apply rb_div | with_reducible apply rb_divInt | with_reducible apply rb_int | with_reducible apply lb_mul | with_reducible apply lb_add | with_reducible apply lb_sub | with_reducible apply lb_neg | exact Nat.le_refl _))); omega)
  generalize (r : Rat) * (r : Rat) = R at *
  by_cases k : 0 ≤ r
  · by_cases k2 : D ≤ R
    · have s := cm.2 k2
      rw [dec_t ⟨k, k2⟩]
      simp -implicitDefEqProofs (maxSteps := 5000000) (disch := first | omega | (with_reducible apply Nat.le_trans; (focus (repeat' (first | with_reducible assumption | with_reducible apply rb_mul | with_reducible apply rb_add | with_reducible apply rb_sub | with_reducible apply rb_neg | with_reducible apply rb_div | with_reducible apply rb_divInt | with_reducible apply rb_int | with_reducible apply lb_mul | with_reducible apply lb_add | with_reducible apply lb_sub | with_reducible apply lb_neg | exact Nat.le_refl _))); omega)) only [go_sem, k, v1, v2, sg1, sq, s, if_pos, if_neg, dec_t, dec_f, IntWalk.i64_in, IntWalk.u32_in, IntWalk.u64_in, beq_no]
    · have s : ¬ sg (D - R) ≤ 0 := fun e => k2 (cm.1 e)
      rw [dec_f (fun h => k2 h.2)]
      simp -implicitDefEqProofs (maxSteps := 5000000) (disch := first | omega | (with_reducible apply Nat.le_trans; (focus (repeat' (first | with_reducible assumption | with_reducible apply rb_mul | with_reducible apply rb_add | with_reducible apply rb_sub | with_reducible apply rb_neg | with_reducible apply rb_div | with_reducible apply rb_divInt | with_reducible apply rb_int | with_reducible apply lb_mul | with_reducible apply lb_add | with_reducible apply lb_sub | with_reducible apply lb_neg | exact Nat.le_refl _))); omega)) only [go_sem, k, v1, v2, sg1, sq, s, if_pos, if_neg, dec_t, dec_f, IntWalk.i64_in, IntWalk.u32_in, IntWalk.u64_in, beq_no]
  · rw [dec_f (fun h => k h.1)]
    simp -implicitDefEqProofs (maxSteps := 5000000) (disch := first | omega | (with_reducible apply Nat.le_trans; (focus (repeat' (first | with_reducible assumption | with_reducible apply rb_mul | with_reducible apply rb_add | with_reducible apply rb_sub | with_reducible apply rb_neg | with_reducible apply rb_div | with_reducible apply rb_divInt | with_reducible apply rb_int | with_reducible apply lb_mul | with_reducible apply lb_add | with_reducible apply lb_sub | with_reducible apply lb_neg | exact Nat.le_refl _))); omega)) only [go_sem, k, if_pos, if_neg, dec_t, dec_f, IntWalk.i64_in, IntWalk.u32_in, IntWalk.u64_in, beq_no]
end Go.Pi

set_option linter.unusedVariables false
set_option linter.unusedSimpArgs false
set_option maxHeartbeats 4000000
set_option maxRecDepth 8000
/-
What a cut sweeps: the program.
-/
namespace Go.Pi
open Go Go.Proofs Num
/-- The cells of a root that holds nothing. -/
def z12 : List PV := [.bool false, .sl false [], .bool false, .sl false [], .bool false, .sl false [], .bool false, .sl false [], .bool false, .sl false [], .bool false, .sl false []]
theorem mSwept_no {c : Cut} (hb : c.Bd) {x y : Rat} (hx : rl x ≤ 20) (hy : rl y ≤ 20) (h : ¬ c.ov x y c.r) : Rq 12 [.agg (zC c), .agg [.bool (ng (x).num), .sl false (us (lm (x).num)), .bool false, .sl false (us (lm ((x).den : Int))), .bool (ng (y).num), .sl false (us (lm (y).num)), .bool false, .sl false (us (lm ((y).den : Int)))]] = some (.tup [.agg z12, .bool false]) := by
  refine RL_of (f := 12) (fn := Tryz.f12) Tryz.func12 rfl rfl rfl (Nat.le_of_ble_eq_true rfl) ?_
  have o := mOver_s hb hx hy (r := c.r) (by have := hb.r; omega)
  rw [dec_f h] at o
  simp only [zC_eq] at o
  simp -implicitDefEqProofs (maxSteps := 5000000) (disch := first | omega | (with_reducible apply Nat.le_trans; (focus (repeat' (first | with_reducible assumption | with_reducible apply rb_mul | with_reducible apply rb_add | with_reducible apply rb_sub | with_reducible apply rb_neg | with_reducible apply rb_div | with_reducible apply rb_divInt | with_reducible apply rb_int | with_reducible apply lb_mul | with_reducible apply lb_add | with_reducible apply lb_sub | with_reducible apply lb_neg | exact Nat.le_refl _))); omega)) only [go_sem, o, if_pos, if_neg, dec_t, dec_f, IntWalk.i64_in, IntWalk.u32_in, IntWalk.u64_in, beq_no]
  rfl
theorem mSwept_s {c : Cut} (hb : c.Bd) {x y : Rat} (hx : rl x ≤ 20) (hy : rl y ≤ 20) (h : c.ov x y c.r) : Rq 12 [.agg (zC c), .agg [.bool (ng (x).num), .sl false (us (lm (x).num)), .bool false, .sl false (us (lm ((x).den : Int))), .bool (ng (y).num), .sl false (us (lm (y).num)), .bool false, .sl false (us (lm ((y).den : Int)))]] = some (.tup [.agg (zT (c.sw x y)), .bool true]) := by
  refine RL_of (f := 12) (fn := Tryz.f12) Tryz.func12 rfl rfl rfl (Nat.le_of_ble_eq_true rfl) ?_
  have o := mOver_s hb hx hy (r := c.r) (by have := hb.r; omega)
  rw [dec_t h] at o
  have hd : c.dn.ov x y c.dn.r := by rw [Cut.dn_r]; exact Cut.dn_ov.2 h
  have st := fun hf => steep (c := c.dn) hd hf
  obtain ⟨b1, b2, b3, b4, b5, b6, b7⟩ := hb
  unfold Cut.sw
  have v1 := mVec_s (a := c.fx) (b := c.fy) (z := c.fz) (by omega) (by omega)
  have v2 := mVec_s (a := c.tx) (b := c.ty) (z := c.tz) (by omega) (by omega)
  have lv := mLevel_s c
  have sq := mSquare_s (n := c.r) (by omega)
  simp only [zC_eq] at lv
  have l1 := rl_1 (n := c.fx) (by omega)
  have l2 := rl_1 (n := c.fy) (by omega)
  have l3 := rl_1 (n := c.tx) (by omega)
  have l4 := rl_1 (n := c.ty) (by omega)
  have l5 := rl_1 (n := c.fz) (by omega)
  have l6 := rl_1 (n := c.tz) (by omega)
  have l7 := rl_1 (n := c.r) (by omega)
  simp only [zC_eq] at o
  by_cases hz : c.fz < c.tz
  · have ed : c.dn = ⟨c.tx, c.ty, c.tz, c.fx, c.fy, c.fz, c.r⟩ := by
      unfold Cut.dn
      rw [if_pos hz]
    rw [ed] at hd st ⊢
    clear ed
    have hl : ¬ c.fz = c.tz := by omega
    rw [dec_f hl] at lv
    have le : sg (((c.fx : Rat) - x) * ((c.fx : Rat) - x) + ((c.fy : Rat) - y) * ((c.fy : Rat) - y) - (c.r : Rat) * (c.r : Rat)) ≤ 0 ↔ ((c.fx : Rat) - x) * ((c.fx : Rat) - x) + ((c.fy : Rat) - y) * ((c.fy : Rat) - y) ≤ (c.r : Rat) * (c.r : Rat) := by
      rw [sg_le]; constructor <;> intro h <;> grind
    by_cases hf : ((c.fx : Rat) - x) * ((c.fx : Rat) - x) + ((c.fy : Rat) - y) * ((c.fy : Rat) - y) ≤ (c.r : Rat) * (c.r : Rat)
    · have s := le.2 hf
      rw [sd_fl (.inr hf)]
      simp -implicitDefEqProofs (maxSteps := 5000000) (disch := first | omega | (with_reducible apply Nat.le_trans; (focus (repeat' (first | with_reducible assumption | with_reducible apply rb_mul | with_reducible apply rb_add | with_reducible apply rb_sub | with_reducible apply rb_neg | with_reducible apply rb_div | with_reducible apply rb_divInt | with_reducible apply rb_int | with_reducible apply lb_mul | with_reducible apply lb_add | with_reducible apply lb_sub | with_reducible apply lb_neg | exact Nat.le_refl _))); omega)) only [go_sem, hz, o, v1, v2, hl, s, lv, sq, if_pos, if_neg, dec_t, dec_f, IntWalk.i64_in, IntWalk.u32_in, IntWalk.u64_in, beq_no]
    · have s : ¬ sg (((c.fx : Rat) - x) * ((c.fx : Rat) - x) + ((c.fy : Rat) - y) * ((c.fy : Rat) - y) - (c.r : Rat) * (c.r : Rat)) ≤ 0 := fun e => hf (le.1 e)
      have nf : ¬ (⟨c.tx, c.ty, c.tz, c.fx, c.fy, c.fz, c.r⟩ : Cut).fl x y := by
        rintro (e | e)
        · exact hl (by exact e.symm)
        · exact hf e
      obtain ⟨-, d0, i0, -, -⟩ := st nf
      unfold Cut.sd
      rw [if_neg nf]
      clear nf st le hf h hd
      unfold Cut.inn Cut.sl Cut.pd Cut.dd at *
      dsimp only at d0 i0 ⊢
      have ln := rl_1 (n := c.fz - c.tz) (by omega)
      have nq := mNum_s (n := c.fz - c.tz) (by omega) (by omega)
      have nh := mNum_s (n := c.tz) (by omega) (by omega)
      simp only [zQ_eq, zV_eq] at nq nh v1 v2
      generalize (c.fx : Rat) = FX at *
      generalize (c.fy : Rat) = FY at *
      generalize (c.tx : Rat) = TX at *
      generalize (c.ty : Rat) = TY at *
      generalize (c.r : Rat) = R at *
      generalize ((c.fz - c.tz : Int) : Rat) = S at *
      generalize (c.tz : Rat) = Z at *
      obtain ⟨dd, hdd⟩ : ∃ dd, dd = (FX - TX) * (FX - TX) + (FY - TY) * (FY - TY) := ⟨_, rfl⟩
      obtain ⟨pd, hpd⟩ : ∃ pd, pd = (TX - x) * (FX - TX) + (TY - y) * (FY - TY) := ⟨_, rfl⟩
      have ldd : rl dd ≤ 100 := by rw [hdd]; (with_reducible apply Nat.le_trans; (focus (repeat' (first | with_reducible assumption | with_reducible apply rb_mul | with_reducible apply rb_add | with_reducible apply rb_sub | with_reducible apply rb_neg | with_reducible apply rb_div | with_reducible apply rb_divInt | with_reducible apply rb_int | with_reducible apply lb_mul | with_reducible apply lb_add | with_reducible apply lb_sub | with_reducible apply lb_neg | exact Nat.le_refl _))); omega)
      have lpd : rl pd ≤ 200 := by rw [hpd]; (with_reducible apply Nat.le_trans; (focus (repeat' (first | with_reducible assumption | with_reducible apply rb_mul | with_reducible apply rb_add | with_reducible apply rb_sub | with_reducible apply rb_neg | with_reducible apply rb_div | with_reducible apply rb_divInt | with_reducible apply rb_int | with_reducible apply lb_mul | with_reducible apply lb_add | with_reducible apply lb_sub | with_reducible apply lb_neg | exact Nat.le_refl _))); omega)
      have d1 := qDiv_s (a := S) (b := dd) (by omega) (by omega) (by rw [hdd]; grind)
      have lsl : rl (S / dd) ≤ 101 := by (with_reducible apply Nat.le_trans; (focus (repeat' (first | with_reducible assumption | with_reducible apply rb_mul | with_reducible apply rb_add | with_reducible apply rb_sub | with_reducible apply rb_neg | with_reducible apply rb_div | with_reducible apply rb_divInt | with_reducible apply rb_int | with_reducible apply lb_mul | with_reducible apply lb_add | with_reducible apply lb_sub | with_reducible apply lb_neg | exact Nat.le_refl _))); omega)
      obtain ⟨inn, hinn⟩ : ∃ inn, inn = pd * pd - dd * ((TX - x) * (TX - x) + (TY - y) * (TY - y) - R * R) := ⟨_, rfl⟩
      have lin : rl inn ≤ 2000 := by rw [hinn]; (with_reducible apply Nat.le_trans; (focus (repeat' (first | with_reducible assumption | with_reducible apply rb_mul | with_reducible apply rb_add | with_reducible apply rb_sub | with_reducible apply rb_neg | with_reducible apply rb_div | with_reducible apply rb_divInt | with_reducible apply rb_int | with_reducible apply lb_mul | with_reducible apply lb_add | with_reducible apply lb_sub | with_reducible apply lb_neg | exact Nat.le_refl _))); omega)
      have i1 : 0 ≤ inn := by rw [hinn, hpd, hdd]; exact i0
      have mk := rmake_s (a := Z - S / dd * pd) (b := S / dd) (c := inn) (by (with_reducible apply Nat.le_trans; (focus (repeat' (first | with_reducible assumption | with_reducible apply rb_mul | with_reducible apply rb_add | with_reducible apply rb_sub | with_reducible apply rb_neg | with_reducible apply rb_div | with_reducible apply rb_divInt | with_reducible apply rb_int | with_reducible apply lb_mul | with_reducible apply lb_add | with_reducible apply lb_sub | with_reducible apply lb_neg | exact Nat.le_refl _))); omega)) (by omega) (by omega) i1
      simp only [zR_eq] at mk
      rw [← hdd, ← hpd, ← hinn]
      clear i0 i1 d0
      simp -implicitDefEqProofs (maxSteps := 5000000) (disch := first | omega | (with_reducible apply Nat.le_trans; (focus (repeat' (first | with_reducible assumption | with_reducible apply rb_mul | with_reducible apply rb_add | with_reducible apply rb_sub | with_reducible apply rb_neg | with_reducible apply rb_div | with_reducible apply rb_divInt | with_reducible apply rb_int | with_reducible apply lb_mul | with_reducible apply lb_add | with_reducible apply lb_sub | with_reducible apply lb_neg | exact Nat.le_refl _))); omega)) only [go_sem, hz, o, v1, v2, hl, s, lv, sq, nq, nh, ← hdd, ← hpd, ← hinn, d1, mk, if_pos, if_neg, dec_t, dec_f, IntWalk.i64_in, IntWalk.u32_in, IntWalk.u64_in, beq_no]
  · have ed : c.dn = c := by
      unfold Cut.dn
      rw [if_neg hz]
    rw [ed] at hd st ⊢
    clear ed
    by_cases hl : c.fz = c.tz
    · rw [sd_fl (.inl hl)]
      rw [dec_t hl] at lv
      simp -implicitDefEqProofs (maxSteps := 5000000) (disch := first | omega | (with_reducible apply Nat.le_trans; (focus (repeat' (first | with_reducible assumption | with_reducible apply rb_mul | with_reducible apply rb_add | with_reducible apply rb_sub | with_reducible apply rb_neg | with_reducible apply rb_div | with_reducible apply rb_divInt | with_reducible apply rb_int | with_reducible apply lb_mul | with_reducible apply lb_add | with_reducible apply lb_sub | with_reducible apply lb_neg | exact Nat.le_refl _))); omega)) only [go_sem, hz, o, v1, v2, lv, sq, if_pos, if_neg, dec_t, dec_f, IntWalk.i64_in, IntWalk.u32_in, IntWalk.u64_in, beq_no]
    · rw [dec_f hl] at lv
      have le : sg (((c.tx : Rat) - x) * ((c.tx : Rat) - x) + ((c.ty : Rat) - y) * ((c.ty : Rat) - y) - (c.r : Rat) * (c.r : Rat)) ≤ 0 ↔ ((c.tx : Rat) - x) * ((c.tx : Rat) - x) + ((c.ty : Rat) - y) * ((c.ty : Rat) - y) ≤ (c.r : Rat) * (c.r : Rat) := by
        rw [sg_le]; constructor <;> intro h <;> grind
      by_cases hf : ((c.tx : Rat) - x) * ((c.tx : Rat) - x) + ((c.ty : Rat) - y) * ((c.ty : Rat) - y) ≤ (c.r : Rat) * (c.r : Rat)
      · have s := le.2 hf
        rw [sd_fl (.inr hf)]
        simp -implicitDefEqProofs (maxSteps := 5000000) (disch := first | omega | (with_reducible apply Nat.le_trans; (focus (repeat' (first | with_reducible assumption | with_reducible apply rb_mul | with_reducible apply rb_add | with_reducible apply rb_sub | with_reducible apply rb_neg | with_reducible apply rb_div | with_reducible apply rb_divInt | with_reducible apply rb_int | with_reducible apply lb_mul | with_reducible apply lb_add | with_reducible apply lb_sub | with_reducible apply lb_neg | exact Nat.le_refl _))); omega)) only [go_sem, hz, o, v1, v2, hl, s, lv, sq, if_pos, if_neg, dec_t, dec_f, IntWalk.i64_in, IntWalk.u32_in, IntWalk.u64_in, beq_no]
      · have s : ¬ sg (((c.tx : Rat) - x) * ((c.tx : Rat) - x) + ((c.ty : Rat) - y) * ((c.ty : Rat) - y) - (c.r : Rat) * (c.r : Rat)) ≤ 0 := fun e => hf (le.1 e)
        have nf : ¬ (c : Cut).fl x y := by
          rintro (e | e)
          · exact hl (by exact e)
          · exact hf e
        obtain ⟨-, d0, i0, -, -⟩ := st nf
        unfold Cut.sd
        rw [if_neg nf]
        clear nf st le hf h hd
        unfold Cut.inn Cut.sl Cut.pd Cut.dd at *
        try dsimp only at d0 i0 ⊢
        have ln := rl_1 (n := c.tz - c.fz) (by omega)
        have nq := mNum_s (n := c.tz - c.fz) (by omega) (by omega)
        have nh := mNum_s (n := c.fz) (by omega) (by omega)
        simp only [zQ_eq, zV_eq] at nq nh v1 v2
        generalize (c.fx : Rat) = FX at *
        generalize (c.fy : Rat) = FY at *
        generalize (c.tx : Rat) = TX at *
        generalize (c.ty : Rat) = TY at *
        generalize (c.r : Rat) = R at *
        generalize ((c.tz - c.fz : Int) : Rat) = S at *
        generalize (c.fz : Rat) = Z at *
        obtain ⟨dd, hdd⟩ : ∃ dd, dd = (TX - FX) * (TX - FX) + (TY - FY) * (TY - FY) := ⟨_, rfl⟩
        obtain ⟨pd, hpd⟩ : ∃ pd, pd = (FX - x) * (TX - FX) + (FY - y) * (TY - FY) := ⟨_, rfl⟩
        have ldd : rl dd ≤ 100 := by rw [hdd]; (with_reducible apply Nat.le_trans; (focus (repeat' (first | with_reducible assumption | with_reducible apply rb_mul | with_reducible apply rb_add | with_reducible apply rb_sub | with_reducible apply rb_neg | with_reducible apply rb_div | with_reducible apply rb_divInt | with_reducible apply rb_int | with_reducible apply lb_mul | with_reducible apply lb_add | with_reducible apply lb_sub | with_reducible apply lb_neg | exact Nat.le_refl _))); omega)
        have lpd : rl pd ≤ 200 := by rw [hpd]; (with_reducible apply Nat.le_trans; (focus (repeat' (first | with_reducible assumption | with_reducible apply rb_mul | with_reducible apply rb_add | with_reducible apply rb_sub | with_reducible apply rb_neg | with_reducible apply rb_div | with_reducible apply rb_divInt | with_reducible apply rb_int | with_reducible apply lb_mul | with_reducible apply lb_add | with_reducible apply lb_sub | with_reducible apply lb_neg | exact Nat.le_refl _))); omega)
        have d1 := qDiv_s (a := S) (b := dd) (by omega) (by omega) (by rw [hdd]; grind)
        have lsl : rl (S / dd) ≤ 101 := by (with_reducible apply Nat.le_trans; (focus (repeat' (first | with_reducible assumption | with_reducible apply rb_mul | with_reducible apply rb_add | with_reducible apply rb_sub | with_reducible apply rb_neg | with_reducible apply rb_div | with_reducible apply rb_divInt | with_reducible apply rb_int | with_reducible apply lb_mul | with_reducible apply lb_add | with_reducible apply lb_sub | with_reducible apply lb_neg | exact Nat.le_refl _))); omega)
        obtain ⟨inn, hinn⟩ : ∃ inn, inn = pd * pd - dd * ((FX - x) * (FX - x) + (FY - y) * (FY - y) - R * R) := ⟨_, rfl⟩
        have lin : rl inn ≤ 2000 := by rw [hinn]; (with_reducible apply Nat.le_trans; (focus (repeat' (first | with_reducible assumption | with_reducible apply rb_mul | with_reducible apply rb_add | with_reducible apply rb_sub | with_reducible apply rb_neg | with_reducible apply rb_div | with_reducible apply rb_divInt | with_reducible apply rb_int | with_reducible apply lb_mul | with_reducible apply lb_add | with_reducible apply lb_sub | with_reducible apply lb_neg | exact Nat.le_refl _))); omega)
        have i1 : 0 ≤ inn := by rw [hinn, hpd, hdd]; exact i0
        have mk := rmake_s (a := Z - S / dd * pd) (b := S / dd) (c := inn) (by (with_reducible apply Nat.le_trans; (focus (repeat' (first | with_reducible assumption | with_reducible apply rb_mul | with_reducible apply rb_add | with_reducible apply rb_sub | with_reducible apply rb_neg | with_reducible apply rb_div | with_reducible apply rb_divInt | with_reducible apply rb_int | with_reducible apply lb_mul | with_reducible apply lb_add | with_reducible apply lb_sub | with_reducible apply lb_neg | exact Nat.le_refl _))); omega)) (by omega) (by omega) i1
        simp only [zR_eq] at mk
        rw [← hdd, ← hpd, ← hinn]
        clear i0 i1 d0
        simp -implicitDefEqProofs (maxSteps := 5000000) (disch := first | omega | (with_reducible apply Nat.le_trans; (focus (repeat' (first | with_reducible assumption | with_reducible apply rb_mul | with_reducible apply rb_add | with_reducible apply rb_sub | with_reducible apply rb_neg | with_reducible apply rb_div | with_reducible apply rb_divInt | with_reducible apply rb_int | with_reducible apply lb_mul | with_reducible apply lb_add | with_reducible apply lb_sub | with_reducible apply lb_neg | exact Nat.le_refl _))); omega)) only [go_sem, hz, o, v1, v2, hl, s, lv, sq, nq, nh, ← hdd, ← hpd, ← hinn, d1, mk, if_pos, if_neg, dec_t, dec_f, IntWalk.i64_in, IntWalk.u32_in, IntWalk.u64_in, beq_no]
end Go.Pi

set_option linter.unusedVariables false
set_option linter.unusedSimpArgs false
set_option maxHeartbeats 4000000
set_option maxRecDepth 8000
/-
What a cut sweeps: the reference.
-/
namespace Go.Pi
open Go Go.Proofs Num
@[go_sem] theorem whole_s' {n : Int} (h0 : -9223372036854775808 ≤ n) (h1 : n ≤ 9223372036854775807) : Rq 55 [.int .i64 n] = some (.agg (zQ (n : Rat))) := by
  refine RL_of (f := 55) (fn := Tryz.f55) Tryz.func55 rfl rfl rfl (Nat.le_of_ble_eq_true rfl) ?_
  simp -implicitDefEqProofs (maxSteps := 5000000) (disch := first | omega | (with_reducible apply Nat.le_trans; (focus (repeat' (first | with_reducible assumption | with_reducible apply rb_mul | with_reducible apply rb_add | with_reducible apply rb_sub | with_reducible apply rb_neg | with_reducible apply rb_div | with_reducible apply rb_divInt | with_reducible apply rb_int | with_reducible apply lb_mul | with_reducible apply lb_add | with_reducible apply lb_sub | with_reducible apply lb_neg | exact Nat.le_refl _))); omega)) only [go_sem, if_pos, if_neg, dec_t, dec_f, IntWalk.i64_in, IntWalk.u32_in, IntWalk.u64_in, beq_no]
@[go_sem] theorem ti_rCut : ti Pq 46 = some ⟨.struct [(0, 3), (3, 3), (6, 1)], 7, 56, [.int .i64 0, .int .i64 0, .int .i64 0, .int .i64 0, .int .i64 0, .int .i64 0, .int .i64 0]⟩ := by kernel_rfl
theorem rVec_s {a b z : Int} (ha : -1000000 ≤ a ∧ a ≤ 1000000) (hb : -1000000 ≤ b ∧ b ≤ 1000000) : Rq 53 [.agg [.int .i64 a, .int .i64 b, .int .i64 z]] = some (.agg (zV (a : Rat) (b : Rat))) := by
  refine RL_of (f := 53) (fn := Tryz.f53) Tryz.func53 rfl rfl rfl (Nat.le_of_ble_eq_true rfl) ?_
  have v := vec7_s (x := a) (y := b) (by omega) (by omega)
  simp -implicitDefEqProofs (maxSteps := 5000000) (disch := first | omega | (with_reducible apply Nat.le_trans; (focus (repeat' (first | with_reducible assumption | with_reducible apply rb_mul | with_reducible apply rb_add | with_reducible apply rb_sub | with_reducible apply rb_neg | with_reducible apply rb_div | with_reducible apply rb_divInt | with_reducible apply rb_int | with_reducible apply lb_mul | with_reducible apply lb_add | with_reducible apply lb_sub | with_reducible apply lb_neg | exact Nat.le_refl _))); omega)) only [go_sem, v, if_pos, if_neg, dec_t, dec_f, IntWalk.i64_in, IntWalk.u32_in, IntWalk.u64_in, beq_no]
theorem rNear_s {c : Cut} (hb : c.Bd) {x y : Rat} {r : Int} (hx : rl x ≤ 20) (hy : rl y ≤ 20) (hr : -1000 ≤ r ∧ r ≤ 1000) : Rq 51 [.agg (zC c), .agg [.bool (ng (x).num), .sl false (us (lm (x).num)), .bool false, .sl false (us (lm ((x).den : Int))), .bool (ng (y).num), .sl false (us (lm (y).num)), .bool false, .sl false (us (lm ((y).den : Int)))], .int .i64 r] = some (.bool (dec (c.ov x y r))) := by
  refine RL_of (f := 51) (fn := Tryz.f51) Tryz.func51 rfl rfl rfl (Nat.le_of_ble_eq_true rfl) ?_
  have b := hb
  obtain ⟨b1, b2, b3, b4, b5, b6, b7⟩ := b
  have l1 := rl_1 (n := c.fx) (by omega)
  have l2 := rl_1 (n := c.fy) (by omega)
  have l3 := rl_1 (n := c.tx) (by omega)
  have l4 := rl_1 (n := c.ty) (by omega)
  have l5 := rl_1 (n := r) (by omega)
  have v1 := rVec_s (a := c.fx) (b := c.fy) (z := c.fz) (by omega) (by omega)
  have v2 := rVec_s (a := c.tx) (b := c.ty) (z := c.tz) (by omega) (by omega)
  have sg1 := d12Segments_s (ax := (c.fx : Rat)) (ay := (c.fy : Rat)) (bx := (c.tx : Rat)) (bz := (c.ty : Rat)) (px := x) (py := y) (by omega) (by omega) (by omega) (by omega) (by omega) (by omega)
  have ld := rl_ds (ax := (c.fx : Rat)) (ay := (c.fy : Rat)) (bx := (c.tx : Rat)) (bz := (c.ty : Rat)) (px := x) (py := y) (by omega) (by omega) (by omega) (by omega) (by omega) (by omega)
  have sq := qFromInt64'_s (n := r) (by omega) (by omega)
  have cm : sg (dsF (c.fx : Rat) (c.fy : Rat) (c.tx : Rat) (c.ty : Rat) x y - (r : Rat) * (r : Rat)) ≤ 0 ↔ dsF (c.fx : Rat) (c.fy : Rat) (c.tx : Rat) (c.ty : Rat) x y ≤ (r : Rat) * (r : Rat) := by
    rw [sg_le]; constructor <;> intro h <;> grind
  unfold Cut.ov
  clear hb b1 b2 b3 b4 b5 b6 b7
  generalize dsF (c.fx : Rat) (c.fy : Rat) (c.tx : Rat) (c.ty : Rat) x y = D at *
  by_cases k : 0 ≤ r
  · by_cases k2 : D ≤ (r : Rat) * (r : Rat)
    · have s := cm.2 k2
      rw [dec_t ⟨k, k2⟩]
      simp -implicitDefEqProofs (maxSteps := 5000000) (disch := first | omega | (with_reducible apply Nat.le_trans; (focus (repeat' (first | with_reducible assumption | with_reducible apply rb_mul | with_reducible apply rb_add | with_reducible apply rb_sub | with_reducible apply rb_neg | with_reducible apply rb_div | with_reducible apply rb_divInt | with_reducible apply rb_int | with_reducible apply lb_mul | with_reducible apply lb_add | with_reducible apply lb_sub | with_reducible apply lb_neg | exact Nat.le_refl _))); omega)) only [go_sem, k, v1, v2, sg1, sq, s, if_pos, if_neg, dec_t, dec_f, IntWalk.i64_in, IntWalk.u32_in, IntWalk.u64_in, beq_no]
    · have s : ¬ sg (D - (r : Rat) * (r : Rat)) ≤ 0 := fun e => k2 (cm.1 e)
      rw [dec_f (fun h => k2 h.2)]
      simp -implicitDefEqProofs (maxSteps := 5000000) (disch := first | omega | (with_reducible apply Nat.le_trans; (focus (repeat' (first | with_reducible assumption | with_reducible apply rb_mul | with_reducible apply rb_add | with_reducible apply rb_sub | with_reducible apply rb_neg | with_reducible apply rb_div | with_reducible apply rb_divInt | with_reducible apply rb_int | with_reducible apply lb_mul | with_reducible apply lb_add | with_reducible apply lb_sub | with_reducible apply lb_neg | exact Nat.le_refl _))); omega)) only [go_sem, k, v1, v2, sg1, sq, s, if_pos, if_neg, dec_t, dec_f, IntWalk.i64_in, IntWalk.u32_in, IntWalk.u64_in, beq_no]
  · rw [dec_f (fun h => k h.1)]
    simp -implicitDefEqProofs (maxSteps := 5000000) (disch := first | omega | (with_reducible apply Nat.le_trans; (focus (repeat' (first | with_reducible assumption | with_reducible apply rb_mul | with_reducible apply rb_add | with_reducible apply rb_sub | with_reducible apply rb_neg | with_reducible apply rb_div | with_reducible apply rb_divInt | with_reducible apply rb_int | with_reducible apply lb_mul | with_reducible apply lb_add | with_reducible apply lb_sub | with_reducible apply lb_neg | exact Nat.le_refl _))); omega)) only [go_sem, k, if_pos, if_neg, dec_t, dec_f, IntWalk.i64_in, IntWalk.u32_in, IntWalk.u64_in, beq_no]
theorem rSwept_no {c : Cut} (hb : c.Bd) {x y : Rat} (hx : rl x ≤ 20) (hy : rl y ≤ 20) (h : ¬ c.ov x y c.r) : Rq 14 [.agg (zC c), .agg [.bool (ng (x).num), .sl false (us (lm (x).num)), .bool false, .sl false (us (lm ((x).den : Int))), .bool (ng (y).num), .sl false (us (lm (y).num)), .bool false, .sl false (us (lm ((y).den : Int)))]] = some (.tup [.agg z12, .bool false]) := by
  refine RL_of (f := 14) (fn := Tryz.f14) Tryz.func14 rfl rfl rfl (Nat.le_of_ble_eq_true rfl) ?_
  have o := rNear_s hb hx hy (r := c.r) (by have := hb.r; omega)
  rw [dec_f h] at o
  simp only [zC_eq] at o
  simp -implicitDefEqProofs (maxSteps := 5000000) (disch := first | omega | (with_reducible apply Nat.le_trans; (focus (repeat' (first | with_reducible assumption | with_reducible apply rb_mul | with_reducible apply rb_add | with_reducible apply rb_sub | with_reducible apply rb_neg | with_reducible apply rb_div | with_reducible apply rb_divInt | with_reducible apply rb_int | with_reducible apply lb_mul | with_reducible apply lb_add | with_reducible apply lb_sub | with_reducible apply lb_neg | exact Nat.le_refl _))); omega)) only [go_sem, o, if_pos, if_neg, dec_t, dec_f, IntWalk.i64_in, IntWalk.u32_in, IntWalk.u64_in, beq_no]
  rfl
theorem rSwept_s {c : Cut} (hb : c.Bd) {x y : Rat} (hx : rl x ≤ 20) (hy : rl y ≤ 20) (h : c.ov x y c.r) : Rq 14 [.agg (zC c), .agg [.bool (ng (x).num), .sl false (us (lm (x).num)), .bool false, .sl false (us (lm ((x).den : Int))), .bool (ng (y).num), .sl false (us (lm (y).num)), .bool false, .sl false (us (lm ((y).den : Int)))]] = some (.tup [.agg (zT (c.sw x y)), .bool true]) := by
  refine RL_of (f := 14) (fn := Tryz.f14) Tryz.func14 rfl rfl rfl (Nat.le_of_ble_eq_true rfl) ?_
  have o := rNear_s hb hx hy (r := c.r) (by have := hb.r; omega)
  rw [dec_t h] at o
  have hd : c.dn.ov x y c.dn.r := by rw [Cut.dn_r]; exact Cut.dn_ov.2 h
  have st := fun hf => steep (c := c.dn) hd hf
  obtain ⟨b1, b2, b3, b4, b5, b6, b7⟩ := hb
  unfold Cut.sw
  have v1 := rVec_s (a := c.fx) (b := c.fy) (z := c.fz) (by omega) (by omega)
  have v2 := rVec_s (a := c.tx) (b := c.ty) (z := c.tz) (by omega) (by omega)
  have l1 := rl_1 (n := c.fx) (by omega)
  have l2 := rl_1 (n := c.fy) (by omega)
  have l3 := rl_1 (n := c.tx) (by omega)
  have l4 := rl_1 (n := c.ty) (by omega)
  have l5 := rl_1 (n := c.fz) (by omega)
  have l6 := rl_1 (n := c.tz) (by omega)
  have l7 := rl_1 (n := c.r) (by omega)
  have sq := qMul'_s (a := (c.r : Rat)) (b := (c.r : Rat)) (by omega) (by omega)
  simp only [zC_eq] at o
  by_cases hz : c.fz < c.tz
  · have ed : c.dn = ⟨c.tx, c.ty, c.tz, c.fx, c.fy, c.fz, c.r⟩ := by
      unfold Cut.dn
      rw [if_pos hz]
    rw [ed] at hd st ⊢
    clear ed
    have hl : ¬ c.fz = c.tz := by omega
    have le : sg (((c.fx : Rat) - x) * ((c.fx : Rat) - x) + ((c.fy : Rat) - y) * ((c.fy : Rat) - y) - (c.r : Rat) * (c.r : Rat)) ≤ 0 ↔ ((c.fx : Rat) - x) * ((c.fx : Rat) - x) + ((c.fy : Rat) - y) * ((c.fy : Rat) - y) ≤ (c.r : Rat) * (c.r : Rat) := by
      rw [sg_le]; constructor <;> intro h <;> grind
    by_cases hf : ((c.fx : Rat) - x) * ((c.fx : Rat) - x) + ((c.fy : Rat) - y) * ((c.fy : Rat) - y) ≤ (c.r : Rat) * (c.r : Rat)
    · have s := le.2 hf
      rw [sd_fl (.inr hf)]
      simp -implicitDefEqProofs (maxSteps := 5000000) (disch := first | omega | (with_reducible apply Nat.le_trans; (focus (repeat' (first | with_reducible assumption | with_reducible apply rb_mul | with_reducible apply rb_add | with_reducible apply rb_sub | with_reducible apply rb_neg | with_reducible apply rb_div | with_reducible apply rb_divInt | with_reducible apply rb_int | with_reducible apply lb_mul | with_reducible apply lb_add | with_reducible apply lb_sub | with_reducible apply lb_neg | exact Nat.le_refl _))); omega)) only [go_sem, hz, o, v1, v2, hl, s, sq, if_pos, if_neg, dec_t, dec_f, IntWalk.i64_in, IntWalk.u32_in, IntWalk.u64_in, beq_no]
    · have s : ¬ sg (((c.fx : Rat) - x) * ((c.fx : Rat) - x) + ((c.fy : Rat) - y) * ((c.fy : Rat) - y) - (c.r : Rat) * (c.r : Rat)) ≤ 0 := fun e => hf (le.1 e)
      have nf : ¬ (⟨c.tx, c.ty, c.tz, c.fx, c.fy, c.fz, c.r⟩ : Cut).fl x y := by
        rintro (e | e)
        · exact hl (by exact e.symm)
        · exact hf e
      obtain ⟨-, d0, i0, -, -⟩ := st nf
      unfold Cut.sd
      rw [if_neg nf]
      clear nf st le hf h hd
      unfold Cut.inn Cut.sl Cut.pd Cut.dd at *
      dsimp only at d0 i0 ⊢
      have ln := rl_1 (n := c.fz - c.tz) (by omega)
      have nq := whole_s' (n := c.fz - c.tz) (by omega) (by omega)
      have nh := whole_s' (n := c.tz) (by omega) (by omega)
      have nr := whole_s' (n := c.r) (by omega) (by omega)
      simp only [zQ_eq, zV_eq] at nq nh v1 v2 nr
      generalize (c.fx : Rat) = FX at *
      generalize (c.fy : Rat) = FY at *
      generalize (c.tx : Rat) = TX at *
      generalize (c.ty : Rat) = TY at *
      generalize (c.r : Rat) = R at *
      generalize ((c.fz - c.tz : Int) : Rat) = S at *
      generalize (c.tz : Rat) = Z at *
      obtain ⟨dd, hdd⟩ : ∃ dd, dd = (FX - TX) * (FX - TX) + (FY - TY) * (FY - TY) := ⟨_, rfl⟩
      obtain ⟨pd, hpd⟩ : ∃ pd, pd = (TX - x) * (FX - TX) + (TY - y) * (FY - TY) := ⟨_, rfl⟩
      have ldd : rl dd ≤ 100 := by rw [hdd]; (with_reducible apply Nat.le_trans; (focus (repeat' (first | with_reducible assumption | with_reducible apply rb_mul | with_reducible apply rb_add | with_reducible apply rb_sub | with_reducible apply rb_neg | with_reducible apply rb_div | with_reducible apply rb_divInt | with_reducible apply rb_int | with_reducible apply lb_mul | with_reducible apply lb_add | with_reducible apply lb_sub | with_reducible apply lb_neg | exact Nat.le_refl _))); omega)
      have lpd : rl pd ≤ 200 := by rw [hpd]; (with_reducible apply Nat.le_trans; (focus (repeat' (first | with_reducible assumption | with_reducible apply rb_mul | with_reducible apply rb_add | with_reducible apply rb_sub | with_reducible apply rb_neg | with_reducible apply rb_div | with_reducible apply rb_divInt | with_reducible apply rb_int | with_reducible apply lb_mul | with_reducible apply lb_add | with_reducible apply lb_sub | with_reducible apply lb_neg | exact Nat.le_refl _))); omega)
      have d1 := over2_s (a := S) (b := dd) (by omega) (by omega) (by rw [hdd]; grind)
      have lsl : rl (S / dd) ≤ 101 := by (with_reducible apply Nat.le_trans; (focus (repeat' (first | with_reducible assumption | with_reducible apply rb_mul | with_reducible apply rb_add | with_reducible apply rb_sub | with_reducible apply rb_neg | with_reducible apply rb_div | with_reducible apply rb_divInt | with_reducible apply rb_int | with_reducible apply lb_mul | with_reducible apply lb_add | with_reducible apply lb_sub | with_reducible apply lb_neg | exact Nat.le_refl _))); omega)
      obtain ⟨inn, hinn⟩ : ∃ inn, inn = pd * pd - dd * ((TX - x) * (TX - x) + (TY - y) * (TY - y) - R * R) := ⟨_, rfl⟩
      have lin : rl inn ≤ 2000 := by rw [hinn]; (with_reducible apply Nat.le_trans; (focus (repeat' (first | with_reducible assumption | with_reducible apply rb_mul | with_reducible apply rb_add | with_reducible apply rb_sub | with_reducible apply rb_neg | with_reducible apply rb_div | with_reducible apply rb_divInt | with_reducible apply rb_int | with_reducible apply lb_mul | with_reducible apply lb_add | with_reducible apply lb_sub | with_reducible apply lb_neg | exact Nat.le_refl _))); omega)
      have i1 : 0 ≤ inn := by rw [hinn, hpd, hdd]; exact i0
      have mk := make3_s (a := Z + S / dd * -pd) (b := S / dd) (c := inn) (by (with_reducible apply Nat.le_trans; (focus (repeat' (first | with_reducible assumption | with_reducible apply rb_mul | with_reducible apply rb_add | with_reducible apply rb_sub | with_reducible apply rb_neg | with_reducible apply rb_div | with_reducible apply rb_divInt | with_reducible apply rb_int | with_reducible apply lb_mul | with_reducible apply lb_add | with_reducible apply lb_sub | with_reducible apply lb_neg | exact Nat.le_refl _))); omega)) (by omega) (by omega) i1
      rw [show Z + S / dd * -pd = Z - S / dd * pd by grind] at mk
      have eA : Z + S / dd * -pd = Z - S / dd * pd := by grind
      simp only [zR_eq] at mk
      rw [← hdd, ← hpd, ← hinn]
      clear i0 i1 d0
      simp -implicitDefEqProofs (maxSteps := 5000000) (disch := first | omega | (with_reducible apply Nat.le_trans; (focus (repeat' (first | with_reducible assumption | with_reducible apply rb_mul | with_reducible apply rb_add | with_reducible apply rb_sub | with_reducible apply rb_neg | with_reducible apply rb_div | with_reducible apply rb_divInt | with_reducible apply rb_int | with_reducible apply lb_mul | with_reducible apply lb_add | with_reducible apply lb_sub | with_reducible apply lb_neg | exact Nat.le_refl _))); omega)) only [go_sem, hz, o, v1, v2, hl, s, sq, nq, nh, nr, ← hdd, ← hpd, ← hinn, d1, mk, eA, if_pos, if_neg, dec_t, dec_f, IntWalk.i64_in, IntWalk.u32_in, IntWalk.u64_in, beq_no]
  · have ed : c.dn = c := by
      unfold Cut.dn
      rw [if_neg hz]
    rw [ed] at hd st ⊢
    clear ed
    by_cases hl : c.fz = c.tz
    · rw [sd_fl (.inl hl)]
      rw [hl] at o v1
      have hz : ¬ c.tz < c.tz := by omega
      simp -implicitDefEqProofs (maxSteps := 5000000) (disch := first | omega | (with_reducible apply Nat.le_trans; (focus (repeat' (first | with_reducible assumption | with_reducible apply rb_mul | with_reducible apply rb_add | with_reducible apply rb_sub | with_reducible apply rb_neg | with_reducible apply rb_div | with_reducible apply rb_divInt | with_reducible apply rb_int | with_reducible apply lb_mul | with_reducible apply lb_add | with_reducible apply lb_sub | with_reducible apply lb_neg | exact Nat.le_refl _))); omega)) only [go_sem, hz, o, v1, v2, hl, sq, if_pos, if_neg, dec_t, dec_f, IntWalk.i64_in, IntWalk.u32_in, IntWalk.u64_in, beq_no]
    · have le : sg (((c.tx : Rat) - x) * ((c.tx : Rat) - x) + ((c.ty : Rat) - y) * ((c.ty : Rat) - y) - (c.r : Rat) * (c.r : Rat)) ≤ 0 ↔ ((c.tx : Rat) - x) * ((c.tx : Rat) - x) + ((c.ty : Rat) - y) * ((c.ty : Rat) - y) ≤ (c.r : Rat) * (c.r : Rat) := by
        rw [sg_le]; constructor <;> intro h <;> grind
      by_cases hf : ((c.tx : Rat) - x) * ((c.tx : Rat) - x) + ((c.ty : Rat) - y) * ((c.ty : Rat) - y) ≤ (c.r : Rat) * (c.r : Rat)
      · have s := le.2 hf
        rw [sd_fl (.inr hf)]
        simp -implicitDefEqProofs (maxSteps := 5000000) (disch := first | omega | (with_reducible apply Nat.le_trans; (focus (repeat' (first | with_reducible assumption | with_reducible apply rb_mul | with_reducible apply rb_add | with_reducible apply rb_sub | with_reducible apply rb_neg | with_reducible apply rb_div | with_reducible apply rb_divInt | with_reducible apply rb_int | with_reducible apply lb_mul | with_reducible apply lb_add | with_reducible apply lb_sub | with_reducible apply lb_neg | exact Nat.le_refl _))); omega)) only [go_sem, hz, o, v1, v2, hl, s, sq, if_pos, if_neg, dec_t, dec_f, IntWalk.i64_in, IntWalk.u32_in, IntWalk.u64_in, beq_no]
      · have s : ¬ sg (((c.tx : Rat) - x) * ((c.tx : Rat) - x) + ((c.ty : Rat) - y) * ((c.ty : Rat) - y) - (c.r : Rat) * (c.r : Rat)) ≤ 0 := fun e => hf (le.1 e)
        have nf : ¬ (c : Cut).fl x y := by
          rintro (e | e)
          · exact hl (by exact e)
          · exact hf e
        obtain ⟨-, d0, i0, -, -⟩ := st nf
        unfold Cut.sd
        rw [if_neg nf]
        clear nf st le hf h hd
        unfold Cut.inn Cut.sl Cut.pd Cut.dd at *
        try dsimp only at d0 i0 ⊢
        have ln := rl_1 (n := c.tz - c.fz) (by omega)
        have nq := whole_s' (n := c.tz - c.fz) (by omega) (by omega)
        have nh := whole_s' (n := c.fz) (by omega) (by omega)
        have nr := whole_s' (n := c.r) (by omega) (by omega)
        simp only [zQ_eq, zV_eq] at nq nh v1 v2 nr
        generalize (c.fx : Rat) = FX at *
        generalize (c.fy : Rat) = FY at *
        generalize (c.tx : Rat) = TX at *
        generalize (c.ty : Rat) = TY at *
        generalize (c.r : Rat) = R at *
        generalize ((c.tz - c.fz : Int) : Rat) = S at *
        generalize (c.fz : Rat) = Z at *
        obtain ⟨dd, hdd⟩ : ∃ dd, dd = (TX - FX) * (TX - FX) + (TY - FY) * (TY - FY) := ⟨_, rfl⟩
        obtain ⟨pd, hpd⟩ : ∃ pd, pd = (FX - x) * (TX - FX) + (FY - y) * (TY - FY) := ⟨_, rfl⟩
        have ldd : rl dd ≤ 100 := by rw [hdd]; (with_reducible apply Nat.le_trans; (focus (repeat' (first | with_reducible assumption | with_reducible apply rb_mul | with_reducible apply rb_add | with_reducible apply rb_sub | with_reducible apply rb_neg | with_reducible apply rb_div | with_reducible apply rb_divInt | with_reducible apply rb_int | with_reducible apply lb_mul | with_reducible apply lb_add | with_reducible apply lb_sub | with_reducible apply lb_neg | exact Nat.le_refl _))); omega)
        have lpd : rl pd ≤ 200 := by rw [hpd]; (with_reducible apply Nat.le_trans; (focus (repeat' (first | with_reducible assumption | with_reducible apply rb_mul | with_reducible apply rb_add | with_reducible apply rb_sub | with_reducible apply rb_neg | with_reducible apply rb_div | with_reducible apply rb_divInt | with_reducible apply rb_int | with_reducible apply lb_mul | with_reducible apply lb_add | with_reducible apply lb_sub | with_reducible apply lb_neg | exact Nat.le_refl _))); omega)
        have d1 := over2_s (a := S) (b := dd) (by omega) (by omega) (by rw [hdd]; grind)
        have lsl : rl (S / dd) ≤ 101 := by (with_reducible apply Nat.le_trans; (focus (repeat' (first | with_reducible assumption | with_reducible apply rb_mul | with_reducible apply rb_add | with_reducible apply rb_sub | with_reducible apply rb_neg | with_reducible apply rb_div | with_reducible apply rb_divInt | with_reducible apply rb_int | with_reducible apply lb_mul | with_reducible apply lb_add | with_reducible apply lb_sub | with_reducible apply lb_neg | exact Nat.le_refl _))); omega)
        obtain ⟨inn, hinn⟩ : ∃ inn, inn = pd * pd - dd * ((FX - x) * (FX - x) + (FY - y) * (FY - y) - R * R) := ⟨_, rfl⟩
        have lin : rl inn ≤ 2000 := by rw [hinn]; (with_reducible apply Nat.le_trans; (focus (repeat' (first | with_reducible assumption | with_reducible apply rb_mul | with_reducible apply rb_add | with_reducible apply rb_sub | with_reducible apply rb_neg | with_reducible apply rb_div | with_reducible apply rb_divInt | with_reducible apply rb_int | with_reducible apply lb_mul | with_reducible apply lb_add | with_reducible apply lb_sub | with_reducible apply lb_neg | exact Nat.le_refl _))); omega)
        have i1 : 0 ≤ inn := by rw [hinn, hpd, hdd]; exact i0
        have mk := make3_s (a := Z + S / dd * -pd) (b := S / dd) (c := inn) (by (with_reducible apply Nat.le_trans; (focus (repeat' (first | with_reducible assumption | with_reducible apply rb_mul | with_reducible apply rb_add | with_reducible apply rb_sub | with_reducible apply rb_neg | with_reducible apply rb_div | with_reducible apply rb_divInt | with_reducible apply rb_int | with_reducible apply lb_mul | with_reducible apply lb_add | with_reducible apply lb_sub | with_reducible apply lb_neg | exact Nat.le_refl _))); omega)) (by omega) (by omega) i1
        rw [show Z + S / dd * -pd = Z - S / dd * pd by grind] at mk
        have eA : Z + S / dd * -pd = Z - S / dd * pd := by grind
        simp only [zR_eq] at mk
        rw [← hdd, ← hpd, ← hinn]
        clear i0 i1 d0
        simp -implicitDefEqProofs (maxSteps := 5000000) (disch := first | omega | (with_reducible apply Nat.le_trans; (focus (repeat' (first | with_reducible assumption | with_reducible apply rb_mul | with_reducible apply rb_add | with_reducible apply rb_sub | with_reducible apply rb_neg | with_reducible apply rb_div | with_reducible apply rb_divInt | with_reducible apply rb_int | with_reducible apply lb_mul | with_reducible apply lb_add | with_reducible apply lb_sub | with_reducible apply lb_neg | exact Nat.le_refl _))); omega)) only [go_sem, hz, o, v1, v2, hl, s, sq, nq, nh, nr, ← hdd, ← hpd, ← hinn, d1, mk, eA, if_pos, if_neg, dec_t, dec_f, IntWalk.i64_in, IntWalk.u32_in, IntWalk.u64_in, beq_no]
end Go.Pi
