/- What is proved: the law on swept heights. No conditions beyond those in the statements. -/
import Derived.Test.YtnhfplmgkhdmlaaGreatVi
set_option linter.unusedVariables false
set_option linter.unusedSimpArgs false
set_option maxHeartbeats 8000000
set_option maxRecDepth 8000
/-
The law on swept heights.
-/
namespace Go.Pi
open Go Go.Proofs Num
theorem Of_1 {e : Bool} {c : Cut} (h : c.St) : Rq 11 [.sl e [.agg (sC c)]] = some (.tup [.sl false [.agg (zC c)], .bool true]) := by
  have := Of_s (e := e) (l := [c]) (by simpa using h)
  rw [dec_t (by simp)] at this
  exact this
theorem Of_2 {e : Bool} {c d : Cut} (h : c.St) (k : d.St) : Rq 11 [.sl e [.agg (sC c), .agg (sC d)]] = some (.tup [.sl false [.agg (zC c), .agg (zC d)], .bool true]) := by
  have := Of_s (e := e) (l := [c, d]) (by simp [h, k])
  rw [dec_t (by simp)] at this
  exact this
theorem swept_law {p q : PV} (h : ArgT Pq 9 25 p) (h' : ArgT Pq 9 27 q) : Rq 3 [p, q] = some (.bool true) := by
  obtain ⟨c, rfl, hc⟩ := arg_Stroke h
  obtain ⟨a, b, d, x, y, rfl, e1, l1, l2⟩ := spot_v h'
  refine RL_of (f := 3) (fn := Tryz.f3) Tryz.func3 rfl rfl rfl (Nat.le_of_ble_eq_true rfl) ?_
  have aw := awake52_r
  have of := fun e => Of_1 (e := e) hc
  have hb := hc.bd
  clear h h' hc
  simp only [zV_eq, sC_eq, zC_eq] at e1 of
  by_cases o : c.ov x y c.r
  · have m := mSwept_s hb (x := x) (y := y) (by omega) (by omega) o
    have r := rSwept_s hb (x := x) (y := y) (by omega) (by omega) o
    have i := is_s (Cut.sw_ok o) (sw_sm hb (x := x) (y := y) (by omega) (by omega)) (Cut.sw_ok o) (sw_sm hb (x := x) (y := y) (by omega) (by omega))
    rw [dec_t (Rt.cm_self (Cut.sw_ok o))] at i
    clear o hb
    generalize c.sw x y = t at *
    simp only [zC_eq, zT_eq] at m r i
    simp -implicitDefEqProofs (maxSteps := 5000000) (disch := first | omega | (with_reducible apply Nat.le_trans; (focus (repeat' (first | with_reducible assumption | with_reducible apply rb_mul | with_reducible apply rb_add | with_reducible apply rb_sub | with_reducible apply rb_neg | with_reducible apply rb_div | with_reducible apply rb_divInt | with_reducible apply rb_int | with_reducible apply lb_mul | with_reducible apply lb_add | with_reducible apply lb_sub | with_reducible apply lb_neg | exact Nat.le_refl _))); omega)) only [go_sem, aw, e1, of, m, r, i, if_pos, if_neg, dec_t, dec_f, IntWalk.i64_in, IntWalk.u32_in, IntWalk.u64_in, beq_no]
  · have m := mSwept_no hb (x := x) (y := y) (by omega) (by omega) o
    have r := rSwept_no hb (x := x) (y := y) (by omega) (by omega) o
    clear o hb
    simp only [zC_eq, z12] at m r
    simp -implicitDefEqProofs (maxSteps := 5000000) (disch := first | omega | (with_reducible apply Nat.le_trans; (focus (repeat' (first | with_reducible assumption | with_reducible apply rb_mul | with_reducible apply rb_add | with_reducible apply rb_sub | with_reducible apply rb_neg | with_reducible apply rb_div | with_reducible apply rb_divInt | with_reducible apply rb_int | with_reducible apply lb_mul | with_reducible apply lb_add | with_reducible apply lb_sub | with_reducible apply lb_neg | exact Nat.le_refl _))); omega)) only [go_sem, aw, e1, of, m, r, if_pos, if_neg, dec_t, dec_f, IntWalk.i64_in, IntWalk.u32_in, IntWalk.u64_in, beq_no]
end Go.Pi
