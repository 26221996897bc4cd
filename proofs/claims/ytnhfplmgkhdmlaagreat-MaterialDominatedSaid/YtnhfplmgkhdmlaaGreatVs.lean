/- What is proved: the law on dominated cuts. No conditions beyond those in the statements. -/
import Derived.Test.YtnhfplmgkhdmlaaGreatVo
import Derived.Test.YtnhfplmgkhdmlaaGreatVj
set_option linter.unusedVariables false
set_option linter.unusedSimpArgs false
set_option maxHeartbeats 8000000
set_option maxRecDepth 8000
/-
Dominated cuts.
-/
namespace Go.Pi
open Go Go.Proofs Num
theorem mDom_s {c b : Cut} (hc : c.Bd) (hb : b.Bd) : Rq 16 [.agg (zC c), .agg (zC b)] = some (.bool (dec (c.dom b))) := by
  refine RL_of (f := 16) (fn := Tryz.f16) Tryz.func16 rfl rfl rfl (Nat.le_of_ble_eq_true rfl) ?_
  obtain ⟨b1, b2, b3, b4, b5, b6, b7⟩ := id hc
  have b8 := hb.r
  have l1 := rl_1 (n := c.fx) (by omega)
  have l2 := rl_1 (n := c.fy) (by omega)
  have l3 := rl_1 (n := c.tx) (by omega)
  have l4 := rl_1 (n := c.ty) (by omega)
  have v1 := mVec_s (a := c.fx) (b := c.fy) (z := c.fz) (by omega) (by omega)
  have v2 := mVec_s (a := c.tx) (b := c.ty) (z := c.tz) (by omega) (by omega)
  have o1 := mOver_s hb (x := (c.fx : Rat)) (y := (c.fy : Rat)) (r := b.r - c.r) (by omega) (by omega) (by omega)
  have o2 := mOver_s hb (x := (c.tx : Rat)) (y := (c.ty : Rat)) (r := b.r - c.r) (by omega) (by omega) (by omega)
  have e1 := mLevel_s c
  have e2 := mLevel_s b
  simp only [zC_eq] at o1 o2 e1 e2
  unfold Cut.dom
  by_cases k1 : c.fz = c.tz
  · rw [dec_t k1] at e1
    by_cases k2 : b.fz = b.tz
    · rw [dec_t k2] at e2
      by_cases k3 : b.fz ≤ c.fz
      · have n3 : ¬ c.fz < b.fz := by omega
        by_cases k4 : b.ov (c.fx : Rat) (c.fy : Rat) (b.r - c.r)
        · rw [dec_t k4] at o1
          by_cases k5 : b.ov (c.tx : Rat) (c.ty : Rat) (b.r - c.r)
          · rw [dec_t k5] at o2
            rw [dec_t ⟨k1, k2, k3, k4, k5⟩]
            clear k1 k2 k3
            simp -implicitDefEqProofs (maxSteps := 5000000) (disch := first | omega | (with_reducible apply Nat.le_trans; (focus (repeat' (first | with_reducible assumption | with_reducible apply rb_mul | with_reducible apply rb_add | with_reducible apply rb_sub | with_reducible apply rb_neg | with_reducible apply rb_div | with_reducible apply rb_divInt | with_reducible apply rb_int | with_reducible apply lb_mul | with_reducible apply lb_add | with_reducible apply lb_sub | with_reducible apply lb_neg | exact Nat.le_refl _))); omega)) only [go_sem, e1, e2, n3, v1, v2, o1, o2, if_pos, if_neg, dec_t, dec_f, IntWalk.i64_in, IntWalk.u32_in, IntWalk.u64_in, beq_no]
          · rw [dec_f k5] at o2
            rw [dec_f (fun h => k5 h.2.2.2.2)]
            clear k1 k2 k3
            simp -implicitDefEqProofs (maxSteps := 5000000) (disch := first | omega | (with_reducible apply Nat.le_trans; (focus (repeat' (first | with_reducible assumption | with_reducible apply rb_mul | with_reducible apply rb_add | with_reducible apply rb_sub | with_reducible apply rb_neg | with_reducible apply rb_div | with_reducible apply rb_divInt | with_reducible apply rb_int | with_reducible apply lb_mul | with_reducible apply lb_add | with_reducible apply lb_sub | with_reducible apply lb_neg | exact Nat.le_refl _))); omega)) only [go_sem, e1, e2, n3, v1, v2, o1, o2, if_pos, if_neg, dec_t, dec_f, IntWalk.i64_in, IntWalk.u32_in, IntWalk.u64_in, beq_no]
        · rw [dec_f k4] at o1
          rw [dec_f (fun h => k4 h.2.2.2.1)]
          clear k1 k2 k3
          simp -implicitDefEqProofs (maxSteps := 5000000) (disch := first | omega | (with_reducible apply Nat.le_trans; (focus (repeat' (first | with_reducible assumption | with_reducible apply rb_mul | with_reducible apply rb_add | with_reducible apply rb_sub | with_reducible apply rb_neg | with_reducible apply rb_div | with_reducible apply rb_divInt | with_reducible apply rb_int | with_reducible apply lb_mul | with_reducible apply lb_add | with_reducible apply lb_sub | with_reducible apply lb_neg | exact Nat.le_refl _))); omega)) only [go_sem, e1, e2, n3, v1, v2, o1, if_pos, if_neg, dec_t, dec_f, IntWalk.i64_in, IntWalk.u32_in, IntWalk.u64_in, beq_no]
      · have n3 : c.fz < b.fz := by omega
        rw [dec_f (fun h => k3 h.2.2.1)]
        clear k1 k2 k3
        simp -implicitDefEqProofs (maxSteps := 5000000) (disch := first | omega | (with_reducible apply Nat.le_trans; (focus (repeat' (first | with_reducible assumption | with_reducible apply rb_mul | with_reducible apply rb_add | with_reducible apply rb_sub | with_reducible apply rb_neg | with_reducible apply rb_div | with_reducible apply rb_divInt | with_reducible apply rb_int | with_reducible apply lb_mul | with_reducible apply lb_add | with_reducible apply lb_sub | with_reducible apply lb_neg | exact Nat.le_refl _))); omega)) only [go_sem, e1, e2, n3, if_pos, if_neg, dec_t, dec_f, IntWalk.i64_in, IntWalk.u32_in, IntWalk.u64_in, beq_no]
    · rw [dec_f k2] at e2
      rw [dec_f (fun h => k2 h.2.1)]
      clear k1 k2
      simp -implicitDefEqProofs (maxSteps := 5000000) (disch := first | omega | (with_reducible apply Nat.le_trans; (focus (repeat' (first | with_reducible assumption | with_reducible apply rb_mul | with_reducible apply rb_add | with_reducible apply rb_sub | with_reducible apply rb_neg | with_reducible apply rb_div | with_reducible apply rb_divInt | with_reducible apply rb_int | with_reducible apply lb_mul | with_reducible apply lb_add | with_reducible apply lb_sub | with_reducible apply lb_neg | exact Nat.le_refl _))); omega)) only [go_sem, e1, e2, if_pos, if_neg, dec_t, dec_f, IntWalk.i64_in, IntWalk.u32_in, IntWalk.u64_in, beq_no]
  · rw [dec_f k1] at e1
    rw [dec_f (fun h => k1 h.1)]
    clear k1
    simp -implicitDefEqProofs (maxSteps := 5000000) (disch := first | omega | (with_reducible apply Nat.le_trans; (focus (repeat' (first | with_reducible assumption | with_reducible apply rb_mul | with_reducible apply rb_add | with_reducible apply rb_sub | with_reducible apply rb_neg | with_reducible apply rb_div | with_reducible apply rb_divInt | with_reducible apply rb_int | with_reducible apply lb_mul | with_reducible apply lb_add | with_reducible apply lb_sub | with_reducible apply lb_neg | exact Nat.le_refl _))); omega)) only [go_sem, e1, if_pos, if_neg, dec_t, dec_f, IntWalk.i64_in, IntWalk.u32_in, IntWalk.u64_in, beq_no]
theorem rDom_s {c b : Cut} (hc : c.Bd) (hb : b.Bd) : Rq 17 [.agg (zC c), .agg (zC b)] = some (.bool (dec (c.dom b))) := by
  refine RL_of (f := 17) (fn := Tryz.f17) Tryz.func17 rfl rfl rfl (Nat.le_of_ble_eq_true rfl) ?_
  obtain ⟨b1, b2, b3, b4, b5, b6, b7⟩ := id hc
  have b8 := hb.r
  have l1 := rl_1 (n := c.fx) (by omega)
  have l2 := rl_1 (n := c.fy) (by omega)
  have l3 := rl_1 (n := c.tx) (by omega)
  have l4 := rl_1 (n := c.ty) (by omega)
  have v1 := rVec_s (a := c.fx) (b := c.fy) (z := c.fz) (by omega) (by omega)
  have v2 := rVec_s (a := c.tx) (b := c.ty) (z := c.tz) (by omega) (by omega)
  have o1 := rNear_s hb (x := (c.fx : Rat)) (y := (c.fy : Rat)) (r := b.r - c.r) (by omega) (by omega) (by omega)
  have o2 := rNear_s hb (x := (c.tx : Rat)) (y := (c.ty : Rat)) (r := b.r - c.r) (by omega) (by omega) (by omega)
  simp only [zC_eq] at o1 o2
  unfold Cut.dom
  by_cases k1 : c.fz = c.tz
  · have e1 : dec (c.fz = c.tz) = true := dec_t k1
    by_cases k2 : b.fz = b.tz
    · have e2 : dec (b.fz = b.tz) = true := dec_t k2
      by_cases k3 : b.fz ≤ c.fz
      · have e3 : dec (b.fz ≤ c.fz) = true := dec_t k3
        by_cases k4 : b.ov (c.fx : Rat) (c.fy : Rat) (b.r - c.r)
        · rw [dec_t k4] at o1
          by_cases k5 : b.ov (c.tx : Rat) (c.ty : Rat) (b.r - c.r)
          · rw [dec_t k5] at o2
            rw [dec_t ⟨k1, k2, k3, k4, k5⟩]
            clear k1 k2 k3
            simp -implicitDefEqProofs (maxSteps := 5000000) (disch := first | omega | (with_reducible apply Nat.le_trans; (focus (repeat' (first | with_reducible assumption | with_reducible apply rb_mul | with_reducible apply rb_add | with_reducible apply rb_sub | with_reducible apply rb_neg | with_reducible apply rb_div | with_reducible apply rb_divInt | with_reducible apply rb_int | with_reducible apply lb_mul | with_reducible apply lb_add | with_reducible apply lb_sub | with_reducible apply lb_neg | exact Nat.le_refl _))); omega)) only [go_sem, e1, e2, e3, v1, v2, o1, o2, if_pos, if_neg, dec_t, dec_f, IntWalk.i64_in, IntWalk.u32_in, IntWalk.u64_in, beq_no]
          · rw [dec_f k5] at o2
            rw [dec_f (fun h => k5 h.2.2.2.2)]
            clear k1 k2 k3
            simp -implicitDefEqProofs (maxSteps := 5000000) (disch := first | omega | (with_reducible apply Nat.le_trans; (focus (repeat' (first | with_reducible assumption | with_reducible apply rb_mul | with_reducible apply rb_add | with_reducible apply rb_sub | with_reducible apply rb_neg | with_reducible apply rb_div | with_reducible apply rb_divInt | with_reducible apply rb_int | with_reducible apply lb_mul | with_reducible apply lb_add | with_reducible apply lb_sub | with_reducible apply lb_neg | exact Nat.le_refl _))); omega)) only [go_sem, e1, e2, e3, v1, v2, o1, o2, if_pos, if_neg, dec_t, dec_f, IntWalk.i64_in, IntWalk.u32_in, IntWalk.u64_in, beq_no]
        · rw [dec_f k4] at o1
          rw [dec_f (fun h => k4 h.2.2.2.1)]
          clear k1 k2 k3
          simp -implicitDefEqProofs (maxSteps := 5000000) (disch := first | omega | (with_reducible apply Nat.le_trans; (focus (repeat' (first | with_reducible assumption | with_reducible apply rb_mul | with_reducible apply rb_add | with_reducible apply rb_sub | with_reducible apply rb_neg | with_reducible apply rb_div | with_reducible apply rb_divInt | with_reducible apply rb_int | with_reducible apply lb_mul | with_reducible apply lb_add | with_reducible apply lb_sub | with_reducible apply lb_neg | exact Nat.le_refl _))); omega)) only [go_sem, e1, e2, e3, v1, v2, o1, if_pos, if_neg, dec_t, dec_f, IntWalk.i64_in, IntWalk.u32_in, IntWalk.u64_in, beq_no]
      · have e3 : dec (b.fz ≤ c.fz) = false := dec_f k3
        rw [dec_f (fun h => k3 h.2.2.1)]
        clear k1 k2 k3
        simp -implicitDefEqProofs (maxSteps := 5000000) (disch := first | omega | (with_reducible apply Nat.le_trans; (focus (repeat' (first | with_reducible assumption | with_reducible apply rb_mul | with_reducible apply rb_add | with_reducible apply rb_sub | with_reducible apply rb_neg | with_reducible apply rb_div | with_reducible apply rb_divInt | with_reducible apply rb_int | with_reducible apply lb_mul | with_reducible apply lb_add | with_reducible apply lb_sub | with_reducible apply lb_neg | exact Nat.le_refl _))); omega)) only [go_sem, e1, e2, e3, if_pos, if_neg, dec_t, dec_f, IntWalk.i64_in, IntWalk.u32_in, IntWalk.u64_in, beq_no]
    · have e2 : dec (b.fz = b.tz) = false := dec_f k2
      rw [dec_f (fun h => k2 h.2.1)]
      clear k1 k2
      simp -implicitDefEqProofs (maxSteps := 5000000) (disch := first | omega | (with_reducible apply Nat.le_trans; (focus (repeat' (first | with_reducible assumption | with_reducible apply rb_mul | with_reducible apply rb_add | with_reducible apply rb_sub | with_reducible apply rb_neg | with_reducible apply rb_div | with_reducible apply rb_divInt | with_reducible apply rb_int | with_reducible apply lb_mul | with_reducible apply lb_add | with_reducible apply lb_sub | with_reducible apply lb_neg | exact Nat.le_refl _))); omega)) only [go_sem, e1, e2, if_pos, if_neg, dec_t, dec_f, IntWalk.i64_in, IntWalk.u32_in, IntWalk.u64_in, beq_no]
  · have e1 : dec (c.fz = c.tz) = false := dec_f k1
    rw [dec_f (fun h => k1 h.1)]
    clear k1
    simp -implicitDefEqProofs (maxSteps := 5000000) (disch := first | omega | (with_reducible apply Nat.le_trans; (focus (repeat' (first | with_reducible assumption | with_reducible apply rb_mul | with_reducible apply rb_add | with_reducible apply rb_sub | with_reducible apply rb_neg | with_reducible apply rb_div | with_reducible apply rb_divInt | with_reducible apply rb_int | with_reducible apply lb_mul | with_reducible apply lb_add | with_reducible apply lb_sub | with_reducible apply lb_neg | exact Nat.le_refl _))); omega)) only [go_sem, e1, if_pos, if_neg, dec_t, dec_f, IntWalk.i64_in, IntWalk.u32_in, IntWalk.u64_in, beq_no]
theorem dom_law {p q : PV} (h : ArgT Pq 9 53 p) (h' : ArgT Pq 9 27 q) : Rq 4 [p, q] = some (.bool true) := by
  obtain ⟨c, d, rfl, hc, hd⟩ := arg_Stroke2 h
  obtain ⟨a, b, w, x, y, rfl, e1, l1, l2⟩ := spot_v h'
  refine RL_of (f := 4) (fn := Tryz.f4) Tryz.func4 rfl rfl rfl (Nat.le_of_ble_eq_true rfl) ?_
  have aw := awake52_r
  have of := fun e => Of_2 (e := e) hc hd
  have cb := hc.bd
  have db := hd.bd
  have g1 : gd 7 0 2 (sC c ++ sC d) = true := by simp [gd, elems, chunk, sC, cloL, clo, unif, PV.cells, PV.cell1]
  have g2 : elems 7 0 2 (sC c ++ sC d) = [.agg (sC c), .agg (sC d)] := by simp [elems, chunk, sC]
  have m := mDom_s cb db
  have r := rDom_s cb db
  have ds := fun (h : c.dom d) (hv : c.ov x y c.r) => dom_sw h hv
  have k1 := fun o => rSwept_s cb (x := x) (y := y) (by omega) (by omega) o
  have k2 := fun o => rSwept_s db (x := x) (y := y) (by omega) (by omega) o
  have n1 := fun o => rSwept_no cb (x := x) (y := y) (by omega) (by omega) o
  have n2 := fun o => rSwept_no db (x := x) (y := y) (by omega) (by omega) o
  have cp : ∀ (o1 : c.ov x y c.r) (o2 : d.ov x y d.r), Rq 18 [.agg (zT (d.sw x y)), .agg (zT (c.sw x y))] = some (.int .i64 ((d.sw x y).cm (c.sw x y))) := fun o1 o2 => by
    have s1 := sw_sm cb (x := x) (y := y) (by omega) (by omega)
    have s2 := sw_sm db (x := x) (y := y) (by omega) (by omega)
    simp only [zT_eq]
    exact cmp5_s (by have := s2.A; omega) (by have := s2.B; omega) (by have := s2.C; omega) (by have := s1.A; omega) (by have := s1.B; omega) (by have := s1.C; omega) (Cut.sw_ok o2).nn (Cut.sw_ok o1).nn
  clear h h' hc hd cb db
  simp only [zV_eq, sC_eq, zC_eq, zT_eq, z12, List.cons_append, List.nil_append] at e1 of g1 g2 m r k1 k2 n1 n2 cp
  by_cases hdm : c.dom d
  · rw [dec_t hdm] at m r
    by_cases o1 : c.ov x y c.r
    · obtain ⟨o2, le⟩ := ds hdm o1
      have k1 := k1 o1
      have k2 := k2 o2
      have cp := cp o1 o2
      clear n1 n2 ds hdm o1 o2
      generalize (d.sw x y).cm (c.sw x y) = z at *
      generalize c.sw x y = u at *
      generalize d.sw x y = v at *
      simp -implicitDefEqProofs (maxSteps := 5000000) (disch := first | omega | (with_reducible apply Nat.le_trans; (focus (repeat' (first | with_reducible assumption | with_reducible apply rb_mul | with_reducible apply rb_add | with_reducible apply rb_sub | with_reducible apply rb_neg | with_reducible apply rb_div | with_reducible apply rb_divInt | with_reducible apply rb_int | with_reducible apply lb_mul | with_reducible apply lb_add | with_reducible apply lb_sub | with_reducible apply lb_neg | exact Nat.le_refl _))); omega)) only [go_sem, aw, e1, of, g1, g2, m, r, k1, k2, cp, le, if_pos, if_neg, dec_t, dec_f, IntWalk.i64_in, IntWalk.u32_in, IntWalk.u64_in, beq_no]
    · have n1 := n1 o1
      by_cases o2 : d.ov x y d.r
      · have k2 := k2 o2
        clear k1 n2 ds hdm o1 o2 cp
        generalize d.sw x y = v at *
        simp -implicitDefEqProofs (maxSteps := 5000000) (disch := first | omega | (with_reducible apply Nat.le_trans; (focus (repeat' (first | with_reducible assumption | with_reducible apply rb_mul | with_reducible apply rb_add | with_reducible apply rb_sub | with_reducible apply rb_neg | with_reducible apply rb_div | with_reducible apply rb_divInt | with_reducible apply rb_int | with_reducible apply lb_mul | with_reducible apply lb_add | with_reducible apply lb_sub | with_reducible apply lb_neg | exact Nat.le_refl _))); omega)) only [go_sem, aw, e1, of, g1, g2, m, r, n1, k2, if_pos, if_neg, dec_t, dec_f, IntWalk.i64_in, IntWalk.u32_in, IntWalk.u64_in, beq_no]
      · have n2 := n2 o2
        clear k1 k2 ds hdm o1 o2 cp
        simp -implicitDefEqProofs (maxSteps := 5000000) (disch := first | omega | (with_reducible apply Nat.le_trans; (focus (repeat' (first | with_reducible assumption | with_reducible apply rb_mul | with_reducible apply rb_add | with_reducible apply rb_sub | with_reducible apply rb_neg | with_reducible apply rb_div | with_reducible apply rb_divInt | with_reducible apply rb_int | with_reducible apply lb_mul | with_reducible apply lb_add | with_reducible apply lb_sub | with_reducible apply lb_neg | exact Nat.le_refl _))); omega)) only [go_sem, aw, e1, of, g1, g2, m, r, n1, n2, if_pos, if_neg, dec_t, dec_f, IntWalk.i64_in, IntWalk.u32_in, IntWalk.u64_in, beq_no]
  · rw [dec_f hdm] at m r
    have w1 : ∃ u b, Rq 14 [.agg [.int .i64 c.fx, .int .i64 c.fy, .int .i64 c.fz, .int .i64 c.tx, .int .i64 c.ty, .int .i64 c.tz, .int .i64 c.r], .agg [.bool (ng (x).num), .sl false (us (lm (x).num)), .bool false, .sl false (us (lm ((x).den : Int))), .bool (ng (y).num), .sl false (us (lm (y).num)), .bool false, .sl false (us (lm ((y).den : Int)))]] = some (.tup [.agg u, .bool b]) ∧ u.length = 12 := by
      by_cases o1 : c.ov x y c.r
      · exact ⟨_, _, k1 o1, rfl⟩
      · exact ⟨_, _, n1 o1, rfl⟩
    by_cases o1 : c.ov x y c.r
    · have k1 := k1 o1
      by_cases o2 : d.ov x y d.r
      · have k2 := k2 o2
        clear n1 n2 ds hdm o1 o2 cp w1
        generalize c.sw x y = u at *
        generalize d.sw x y = v at *
        simp -implicitDefEqProofs (maxSteps := 5000000) (disch := first | omega | (with_reducible apply Nat.le_trans; (focus (repeat' (first | with_reducible assumption | with_reducible apply rb_mul | with_reducible apply rb_add | with_reducible apply rb_sub | with_reducible apply rb_neg | with_reducible apply rb_div | with_reducible apply rb_divInt | with_reducible apply rb_int | with_reducible apply lb_mul | with_reducible apply lb_add | with_reducible apply lb_sub | with_reducible apply lb_neg | exact Nat.le_refl _))); omega)) only [go_sem, aw, e1, of, g1, g2, m, r, k1, k2, if_pos, if_neg, dec_t, dec_f, IntWalk.i64_in, IntWalk.u32_in, IntWalk.u64_in, beq_no]
      · have n2 := n2 o2
        clear k2 n1 ds hdm o1 o2 cp w1
        generalize c.sw x y = u at *
        simp -implicitDefEqProofs (maxSteps := 5000000) (disch := first | omega | (with_reducible apply Nat.le_trans; (focus (repeat' (first | with_reducible assumption | with_reducible apply rb_mul | with_reducible apply rb_add | with_reducible apply rb_sub | with_reducible apply rb_neg | with_reducible apply rb_div | with_reducible apply rb_divInt | with_reducible apply rb_int | with_reducible apply lb_mul | with_reducible apply lb_add | with_reducible apply lb_sub | with_reducible apply lb_neg | exact Nat.le_refl _))); omega)) only [go_sem, aw, e1, of, g1, g2, m, r, k1, n2, if_pos, if_neg, dec_t, dec_f, IntWalk.i64_in, IntWalk.u32_in, IntWalk.u64_in, beq_no]
    · have n1 := n1 o1
      by_cases o2 : d.ov x y d.r
      · have k2 := k2 o2
        clear k1 n2 ds hdm o1 o2 cp w1
        generalize d.sw x y = v at *
        simp -implicitDefEqProofs (maxSteps := 5000000) (disch := first | omega | (with_reducible apply Nat.le_trans; (focus (repeat' (first | with_reducible assumption | with_reducible apply rb_mul | with_reducible apply rb_add | with_reducible apply rb_sub | with_reducible apply rb_neg | with_reducible apply rb_div | with_reducible apply rb_divInt | with_reducible apply rb_int | with_reducible apply lb_mul | with_reducible apply lb_add | with_reducible apply lb_sub | with_reducible apply lb_neg | exact Nat.le_refl _))); omega)) only [go_sem, aw, e1, of, g1, g2, m, r, n1, k2, if_pos, if_neg, dec_t, dec_f, IntWalk.i64_in, IntWalk.u32_in, IntWalk.u64_in, beq_no]
      · have n2 := n2 o2
        clear k1 k2 ds hdm o1 o2 cp w1
        simp -implicitDefEqProofs (maxSteps := 5000000) (disch := first | omega | (with_reducible apply Nat.le_trans; (focus (repeat' (first | with_reducible assumption | with_reducible apply rb_mul | with_reducible apply rb_add | with_reducible apply rb_sub | with_reducible apply rb_neg | with_reducible apply rb_div | with_reducible apply rb_divInt | with_reducible apply rb_int | with_reducible apply lb_mul | with_reducible apply lb_add | with_reducible apply lb_sub | with_reducible apply lb_neg | exact Nat.le_refl _))); omega)) only [go_sem, aw, e1, of, g1, g2, m, r, n1, n2, if_pos, if_neg, dec_t, dec_f, IntWalk.i64_in, IntWalk.u32_in, IntWalk.u64_in, beq_no]
end Go.Pi
