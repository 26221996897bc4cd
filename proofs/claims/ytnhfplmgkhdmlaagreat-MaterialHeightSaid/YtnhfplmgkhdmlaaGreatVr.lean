/- What is proved: the law on heights. No conditions beyond those in the statements. -/
import Derived.Test.YtnhfplmgkhdmlaaGreatVp
set_option linter.unusedVariables false
set_option linter.unusedSimpArgs false
set_option maxHeartbeats 8000000
set_option maxRecDepth 8000
/-
The law on heights.
-/
namespace Go.Pi
open Go Go.Proofs Num
theorem height_law {p q t : PV} (h : ArgT Pq 9 32 p) (h1 : ArgT Pq 9 22 q) (h2 : ArgT Pq 9 27 t) : Rq 5 [p, q, t] = some (.bool true) := by
  obtain ⟨l, rfl, hs, hl⟩ := arg_Strokes h
  obtain ⟨z, rfl, hz⟩ := arg_i16 h1
  obtain ⟨a, b, d, x, y, rfl, e1, l1, l2⟩ := spot_v h2

  refine RL_of (f := 5) (fn := Tryz.f5) Tryz.func5 rfl rfl rfl (Nat.le_of_ble_eq_true rfl) ?_
  have aw := awake52_r
  have of := fun e => Of_s (e := e) hs
  simp only [zV_eq] at e1
  by_cases k : l.length ≤ 12
  · simp only [dec_t k, List.take_of_length_le k] at of
    have hb : ∀ c, c ∈ l → c.Bd := fun c hc => (hs c hc).bd
    have o2 := fun e => of_s (e := e) (l := l) (by omega)
    have m := fun e => mHeight_s (e := e) hb (top := z) (by omega) (x := x) (y := y) (by omega) (by omega) (by omega)
    have r := fun e => rHeight_s (e := e) hb (top := z) (by omega) (x := x) (y := y) (by omega) (by omega) (by omega)
    have ok := heF_ok (x := x) (y := y) (l := l) (o := ⟨(z : Rat), 0, 0⟩) rt_int
    have sm := heF_sm (x := x) (y := y) (o := ⟨(z : Rat), 0, 0⟩) (l := l) (int_sm (by omega)) hb (by omega) (by omega)
    have i := is_s ok sm ok sm
    rw [dec_t (Rt.cm_self ok)] at i
    clear ok sm hb hs h h1 h2
    generalize heF x y ⟨(z : Rat), 0, 0⟩ l = w at *
    simp only [zT_eq] at m r i
    simp -implicitDefEqProofs (maxSteps := 5000000) (disch := first | omega | (with_reducible apply Nat.le_trans; (focus (repeat' (first | with_reducible assumption | with_reducible apply rb_mul | with_reducible apply rb_add | with_reducible apply rb_sub | with_reducible apply rb_neg | with_reducible apply rb_div | with_reducible apply rb_divInt | with_reducible apply rb_int | with_reducible apply lb_mul | with_reducible apply lb_add | with_reducible apply lb_sub | with_reducible apply lb_neg | exact Nat.le_refl _))); omega)) only [go_sem, aw, e1, of, o2, m, r, i, if_pos, if_neg, dec_t, dec_f, IntWalk.i64_in, IntWalk.u32_in, IntWalk.u64_in, beq_no]
  · simp only [dec_f k] at of
    clear hs h h1 h2
    simp -implicitDefEqProofs (maxSteps := 5000000) (disch := first | omega | (with_reducible apply Nat.le_trans; (focus (repeat' (first | with_reducible assumption | with_reducible apply rb_mul | with_reducible apply rb_add | with_reducible apply rb_sub | with_reducible apply rb_neg | with_reducible apply rb_div | with_reducible apply rb_divInt | with_reducible apply rb_int | with_reducible apply lb_mul | with_reducible apply lb_add | with_reducible apply lb_sub | with_reducible apply lb_neg | exact Nat.le_refl _))); omega)) only [go_sem, aw, e1, of, if_pos, if_neg, dec_t, dec_f, IntWalk.i64_in, IntWalk.u32_in, IntWalk.u64_in, beq_no]
end Go.Pi
