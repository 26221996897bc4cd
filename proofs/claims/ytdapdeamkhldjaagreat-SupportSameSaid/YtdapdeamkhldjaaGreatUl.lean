/- What is proved: the law on translations. No conditions beyond those in the statements. -/
import Derived.Test.YtdapdeamkhldjaaGreatUk
set_option linter.unusedVariables false
set_option linter.unusedSimpArgs false
set_option maxHeartbeats 4000000
set_option maxRecDepth 8000
/-
The laws on circles through points, equal lines and circles, and translations.
-/
namespace Go.Pi
open Go Go.Proofs Num
theorem moved_law {p q t : PV} (h : ArgT Pq 9 46 p) (h' : ArgT Pq 9 54 q) (h'' : ArgT Pq 9 49 t) : Rq 8 [p, q, t] = some (.bool true) := by
  obtain ⟨a, b, c, d, rfl, ha, hb, hc, hd⟩ := arg_Straight h
  obtain ⟨a', b', c', d', rfl, ha', hb', hc', hd'⟩ := arg_Round h'
  obtain ⟨e, f, g, i, j, k, rfl, he, hf, hg, hi, hj, hk⟩ := arg_Place h''
  obtain ⟨A, B, C, ln, -, lA, lB, lC⟩ := line8_s ha hb hc hd
  obtain ⟨X, Y, Q, cr, -, lX, lY, lQ⟩ := circle8_s ha' hb' hc' hd'
  obtain ⟨AX, BX, AY, BY, PC, pt, hp, l1, l2, l3, l4, l5⟩ := of7_s he hf hg hi hj hk
  refine RL_of (f := 8) (fn := Tryz.f8) Tryz.func8 rfl rfl rfl (Nat.le_of_ble_eq_true rfl) ?_
  have aw := awake8_r
  have k1 := ll_64 (n := a) (by omega) (by omega)
  have k2 := ll_64 (n := 2) (by omega) (by omega)
  have k3 := ll_64 (n := c) (by omega) (by omega)
  have lx : rl (Rat.divInt a 2) ≤ 7 := by (with_reducible apply Nat.le_trans; (focus (repeat' (first | with_reducible assumption | with_reducible apply rb_mul | with_reducible apply rb_add | with_reducible apply rb_sub | with_reducible apply rb_neg | with_reducible apply rb_div | with_reducible apply rb_divInt | with_reducible apply rb_int | with_reducible apply lb_mul | with_reducible apply lb_add | with_reducible apply lb_sub | with_reducible apply lb_neg | exact Nat.le_refl _))); omega)
  have ly : rl (c : Rat) ≤ 4 := by (with_reducible apply Nat.le_trans; (focus (repeat' (first | with_reducible assumption | with_reducible apply rb_mul | with_reducible apply rb_add | with_reducible apply rb_sub | with_reducible apply rb_neg | with_reducible apply rb_div | with_reducible apply rb_divInt | with_reducible apply rb_int | with_reducible apply lb_mul | with_reducible apply lb_add | with_reducible apply lb_sub | with_reducible apply lb_neg | exact Nat.le_refl _))); omega)
  have fr := qFrac'_s (n := a) (d := 2) (by omega) (by omega) (by omega) (by omega)
  have fi := qFromInt64'_s (n := c) (by omega) (by omega)
  generalize Rat.divInt a 2 = vx at *
  generalize (c : Rat) = vy at *
  have s1 := suppSide_s (A := A) (B := B) (C := C) (AX := AX) (BX := BX) (AY := AY) (BY := BY) (PC := PC) (by omega) (by omega) (by omega) (by omega) (by omega) (by omega) (by omega) (by omega) hp.nn
  have s2 := suppSide_s (A := A) (B := B) (C := C + (A * vx + B * vy)) (AX := AX + vx) (BX := BX) (AY := AY + vy) (BY := BY) (PC := PC) (by omega) (by omega) (by (with_reducible apply Nat.le_trans; (focus (repeat' (first | with_reducible assumption | with_reducible apply rb_mul | with_reducible apply rb_add | with_reducible apply rb_sub | with_reducible apply rb_neg | with_reducible apply rb_div | with_reducible apply rb_divInt | with_reducible apply rb_int | with_reducible apply lb_mul | with_reducible apply lb_add | with_reducible apply lb_sub | with_reducible apply lb_neg | exact Nat.le_refl _))); omega)) (by (with_reducible apply Nat.le_trans; (focus (repeat' (first | with_reducible assumption | with_reducible apply rb_mul | with_reducible apply rb_add | with_reducible apply rb_sub | with_reducible apply rb_neg | with_reducible apply rb_div | with_reducible apply rb_divInt | with_reducible apply rb_int | with_reducible apply lb_mul | with_reducible apply lb_add | with_reducible apply lb_sub | with_reducible apply lb_neg | exact Nat.le_refl _))); omega)) (by omega) (by (with_reducible apply Nat.le_trans; (focus (repeat' (first | with_reducible assumption | with_reducible apply rb_mul | with_reducible apply rb_add | with_reducible apply rb_sub | with_reducible apply rb_neg | with_reducible apply rb_div | with_reducible apply rb_divInt | with_reducible apply rb_int | with_reducible apply lb_mul | with_reducible apply lb_add | with_reducible apply lb_sub | with_reducible apply lb_neg | exact Nat.le_refl _))); omega)) (by omega) (by omega) hp.nn
  rw [show A * (AX + vx) + B * (AY + vy) - (C + (A * vx + B * vy)) = A * AX + B * AY - C by grind] at s2
  have s3 := suppInside_s (X := X) (Y := Y) (Q := Q) (AX := AX) (BX := BX) (AY := AY) (BY := BY) (C := PC) (by omega) (by omega) (by omega) (by omega) (by omega) (by omega) (by omega) (by omega) hp.nn
  have s4 := suppInside_s (X := X + vx) (Y := Y + vy) (Q := Q) (AX := AX + vx) (BX := BX) (AY := AY + vy) (BY := BY) (C := PC) (by (with_reducible apply Nat.le_trans; (focus (repeat' (first | with_reducible assumption | with_reducible apply rb_mul | with_reducible apply rb_add | with_reducible apply rb_sub | with_reducible apply rb_neg | with_reducible apply rb_div | with_reducible apply rb_divInt | with_reducible apply rb_int | with_reducible apply lb_mul | with_reducible apply lb_add | with_reducible apply lb_sub | with_reducible apply lb_neg | exact Nat.le_refl _))); omega)) (by (with_reducible apply Nat.le_trans; (focus (repeat' (first | with_reducible assumption | with_reducible apply rb_mul | with_reducible apply rb_add | with_reducible apply rb_sub | with_reducible apply rb_neg | with_reducible apply rb_div | with_reducible apply rb_divInt | with_reducible apply rb_int | with_reducible apply lb_mul | with_reducible apply lb_add | with_reducible apply lb_sub | with_reducible apply lb_neg | exact Nat.le_refl _))); omega)) (by omega) (by (with_reducible apply Nat.le_trans; (focus (repeat' (first | with_reducible assumption | with_reducible apply rb_mul | with_reducible apply rb_add | with_reducible apply rb_sub | with_reducible apply rb_neg | with_reducible apply rb_div | with_reducible apply rb_divInt | with_reducible apply rb_int | with_reducible apply lb_mul | with_reducible apply lb_add | with_reducible apply lb_sub | with_reducible apply lb_neg | exact Nat.le_refl _))); omega)) (by omega) (by (with_reducible apply Nat.le_trans; (focus (repeat' (first | with_reducible assumption | with_reducible apply rb_mul | with_reducible apply rb_add | with_reducible apply rb_sub | with_reducible apply rb_neg | with_reducible apply rb_div | with_reducible apply rb_divInt | with_reducible apply rb_int | with_reducible apply lb_mul | with_reducible apply lb_add | with_reducible apply lb_sub | with_reducible apply lb_neg | exact Nat.le_refl _))); omega)) (by omega) (by omega) hp.nn
  rw [show AX + vx - (X + vx) = AX - X by grind, show AY + vy - (Y + vy) = AY - Y by grind] at s4
  clear h h' h'' ha' hb' hc' hd' he hf hg hi hj hk hd hb
  generalize -exF _ _ _ = z at s3 s4
  generalize exF _ _ _ = w at s1 s2
  simp only [zR_eq, zP_eq, zQ_eq] at ln cr pt s1 s2 s3 s4 fr fi
  simp -implicitDefEqProofs (maxSteps := 5000000) (disch := first | omega | (with_reducible apply Nat.le_trans; (focus (repeat' (first | with_reducible assumption | with_reducible apply rb_mul | with_reducible apply rb_add | with_reducible apply rb_sub | with_reducible apply rb_neg | with_reducible apply rb_div | with_reducible apply rb_divInt | with_reducible apply rb_int | with_reducible apply lb_mul | with_reducible apply lb_add | with_reducible apply lb_sub | with_reducible apply lb_neg | exact Nat.le_refl _))); omega)) only [go_sem, aw, ln, cr, pt, fr, fi, s1, s2, s3, s4, if_pos, if_neg, dec_t, dec_f, IntWalk.i64_in, IntWalk.u32_in, IntWalk.u64_in, beq_no]
end Go.Pi
