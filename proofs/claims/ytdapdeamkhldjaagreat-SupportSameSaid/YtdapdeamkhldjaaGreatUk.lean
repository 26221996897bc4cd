/- What is proved: the laws on lines through points, sides and feet. No conditions beyond those in the statements. -/
import Derived.Test.YtdapdeamkhldjaaGreatUi
set_option linter.unusedVariables false
set_option linter.unusedSimpArgs false
set_option maxHeartbeats 4000000
set_option maxRecDepth 8000
/-
The laws on lines and circles through points, sides and feet.
-/
namespace Go.Pi
open Go Go.Proofs Num
/-- The vector of a description. -/
theorem spot_v {p : PV} (h : ArgT Pq 9 24 p) : ∃ a b c x y, p = .agg [.int .i16 a, .int .i16 b, .int .u8 c] ∧ Rq 12 [.agg [.int .i16 a, .int .i16 b, .int .u8 c]] = some (.agg (zV x y)) ∧ rl x ≤ 10 ∧ rl y ≤ 10 := by
  obtain ⟨a, b, c, rfl, ha, hb, hc⟩ := arg_Spot h
  have k1 := ll_64 (n := a) (by omega) (by omega)
  have k2 := ll_64 (n := b) (by omega) (by omega)
  have k6 := ll_64 (n := c + 1) (by omega) (by omega)
  exact ⟨a, b, c, _, _, rfl, at2_s ha hb hc, by (with_reducible apply Nat.le_trans; (focus (repeat' (first | with_reducible assumption | with_reducible apply rb_mul | with_reducible apply rb_add | with_reducible apply rb_sub | with_reducible apply rb_neg | with_reducible apply rb_div | with_reducible apply rb_divInt | with_reducible apply rb_int | with_reducible apply lb_mul | with_reducible apply lb_add | with_reducible apply lb_sub | with_reducible apply lb_neg | exact Nat.le_refl _))); omega), by (with_reducible apply Nat.le_trans; (focus (repeat' (first | with_reducible assumption | with_reducible apply rb_mul | with_reducible apply rb_add | with_reducible apply rb_sub | with_reducible apply rb_neg | with_reducible apply rb_div | with_reducible apply rb_divInt | with_reducible apply rb_int | with_reducible apply lb_mul | with_reducible apply lb_add | with_reducible apply lb_sub | with_reducible apply lb_neg | exact Nat.le_refl _))); omega)⟩
theorem dec_refl (a : Rat) : dec (a = a) = true := dec_t rfl
theorem sg_nought {q : Rat} (h : q = 0) : sg q = 0 := sg_zero h
theorem through_law {p q : PV} (h : ArgT Pq 9 24 p) (h' : ArgT Pq 9 24 q) : Rq 3 [p, q] = some (.bool true) := by
  obtain ⟨a, b, c, ax, ay, rfl, e1, l1, l2⟩ := spot_v h
  obtain ⟨a', b', c', bx, bz, rfl, e2, l3, l4⟩ := spot_v h'
  refine RL_of (f := 3) (fn := Tryz.f3) Tryz.func3 rfl rfl rfl (Nat.le_of_ble_eq_true rfl) ?_
  have aw := awake8_r
  clear h h'
  simp only [zV_eq] at e1 e2
  have r := dec_refl
  by_cases k : ay - bz = 0 ∧ bx - ax = 0
  · have t1 := through_0 (ax := ax) (ay := ay) (bx := bx) (bz := bz) (by omega) (by omega) (by omega) (by omega) k.1 k.2
    have t2 := through8_0 (ax := ax) (ay := ay) (bx := bx) (bz := bz) (by omega) (by omega) (by omega) (by omega) k.1 k.2
    simp only [z12] at t1 t2
    simp -implicitDefEqProofs (maxSteps := 5000000) (disch := first | omega | (with_reducible apply Nat.le_trans; (focus (repeat' (first | with_reducible assumption | with_reducible apply rb_mul | with_reducible apply rb_add | with_reducible apply rb_sub | with_reducible apply rb_neg | with_reducible apply rb_div | with_reducible apply rb_divInt | with_reducible apply rb_int | with_reducible apply lb_mul | with_reducible apply lb_add | with_reducible apply lb_sub | with_reducible apply lb_neg | exact Nat.le_refl _))); omega)) only [go_sem, aw, e1, e2, t1, t2, if_pos, if_neg, dec_t, dec_f, IntWalk.i64_in, IntWalk.u32_in, IntWalk.u64_in, beq_no]
  · have k' : ay - bz ≠ 0 ∨ bx - ax ≠ 0 := by
      by_cases k1 : ay - bz = 0
      · exact .inr fun h => k ⟨k1, h⟩
      · exact .inl k1
    have t1 := through_s (ax := ax) (ay := ay) (bx := bx) (bz := bz) (by omega) (by omega) (by omega) (by omega) k'
    have t2 := through8_s (ax := ax) (ay := ay) (bx := bx) (bz := bz) (by omega) (by omega) (by omega) (by omega) k'
    have lA : rl (ay - bz) ≤ 100 := by (with_reducible apply Nat.le_trans; (focus (repeat' (first | with_reducible assumption | with_reducible apply rb_mul | with_reducible apply rb_add | with_reducible apply rb_sub | with_reducible apply rb_neg | with_reducible apply rb_div | with_reducible apply rb_divInt | with_reducible apply rb_int | with_reducible apply lb_mul | with_reducible apply lb_add | with_reducible apply lb_sub | with_reducible apply lb_neg | exact Nat.le_refl _))); omega)
    have lB : rl (bx - ax) ≤ 100 := by (with_reducible apply Nat.le_trans; (focus (repeat' (first | with_reducible assumption | with_reducible apply rb_mul | with_reducible apply rb_add | with_reducible apply rb_sub | with_reducible apply rb_neg | with_reducible apply rb_div | with_reducible apply rb_divInt | with_reducible apply rb_int | with_reducible apply lb_mul | with_reducible apply lb_add | with_reducible apply lb_sub | with_reducible apply lb_neg | exact Nat.le_refl _))); omega)
    have lC : rl ((ay - bz) * ax + (bx - ax) * ay) ≤ 1000 := by (with_reducible apply Nat.le_trans; (focus (repeat' (first | with_reducible assumption | with_reducible apply rb_mul | with_reducible apply rb_add | with_reducible apply rb_sub | with_reducible apply rb_neg | with_reducible apply rb_div | with_reducible apply rb_divInt | with_reducible apply rb_int | with_reducible apply lb_mul | with_reducible apply lb_add | with_reducible apply lb_sub | with_reducible apply lb_neg | exact Nat.le_refl _))); omega)
    have s1 := suppSideAt_s (A := ay - bz) (B := bx - ax) (C := (ay - bz) * ax + (bx - ax) * ay) (x := ax) (y := ay) (by omega) (by omega) (by omega) (by omega) (by omega)
    have s2 := suppSideAt_s (A := ay - bz) (B := bx - ax) (C := (ay - bz) * ax + (bx - ax) * ay) (x := bx) (y := bz) (by omega) (by omega) (by omega) (by omega) (by omega)
    rw [sg_nought (by grind)] at s1 s2
    clear k k'
    generalize (ay - bz) * ax + (bx - ax) * ay = C at *
    generalize ay - bz = A at *
    generalize bx - ax = B at *
    simp only [zR_eq] at t1 t2
    simp -implicitDefEqProofs (maxSteps := 5000000) (disch := first | omega | (with_reducible apply Nat.le_trans; (focus (repeat' (first | with_reducible assumption | with_reducible apply rb_mul | with_reducible apply rb_add | with_reducible apply rb_sub | with_reducible apply rb_neg | with_reducible apply rb_div | with_reducible apply rb_divInt | with_reducible apply rb_int | with_reducible apply lb_mul | with_reducible apply lb_add | with_reducible apply lb_sub | with_reducible apply lb_neg | exact Nat.le_refl _))); omega)) only [go_sem, aw, e1, e2, t1, t2, s1, s2, r, if_pos, if_neg, dec_t, dec_f, IntWalk.i64_in, IntWalk.u32_in, IntWalk.u64_in, beq_no]
theorem side_law {p q : PV} (h : ArgT Pq 9 46 p) (h' : ArgT Pq 9 49 q) : Rq 4 [p, q] = some (.bool true) := by
  obtain ⟨a, b, c, d, rfl, ha, hb, hc, hd⟩ := arg_Straight h
  obtain ⟨e, f, g, i, j, k, rfl, he, hf, hg, hi, hj, hk⟩ := arg_Place h'
  obtain ⟨A, B, C, ln, -, lA, lB, lC⟩ := line8_s ha hb hc hd
  obtain ⟨AX, BX, AY, BY, PC, pt, hp, l1, l2, l3, l4, l5⟩ := of7_s he hf hg hi hj hk
  refine RL_of (f := 4) (fn := Tryz.f4) Tryz.func4 rfl rfl rfl (Nat.le_of_ble_eq_true rfl) ?_
  have aw := awake8_r
  have s1 := suppSide_s (A := A) (B := B) (C := C) (AX := AX) (BX := BX) (AY := AY) (BY := BY) (PC := PC) (by omega) (by omega) (by omega) (by omega) (by omega) (by omega) (by omega) (by omega) hp.nn
  have s2 := side8_s (A := A) (B := B) (C := C) (AX := AX) (BX := BX) (AY := AY) (BY := BY) (PC := PC) (by omega) (by omega) (by omega) (by omega) (by omega) (by omega) (by omega) (by omega) hp.nn
  clear h h' ha hb hc hd he hf hg hi hj hk
  generalize exF _ _ _ = z at *
  simp only [zR_eq, zP_eq] at ln pt s1 s2
  simp -implicitDefEqProofs (maxSteps := 5000000) (disch := first | omega | (with_reducible apply Nat.le_trans; (focus (repeat' (first | with_reducible assumption | with_reducible apply rb_mul | with_reducible apply rb_add | with_reducible apply rb_sub | with_reducible apply rb_neg | with_reducible apply rb_div | with_reducible apply rb_divInt | with_reducible apply rb_int | with_reducible apply lb_mul | with_reducible apply lb_add | with_reducible apply lb_sub | with_reducible apply lb_neg | exact Nat.le_refl _))); omega)) only [go_sem, aw, ln, pt, s1, s2, if_pos, if_neg, dec_t, dec_f, IntWalk.i64_in, IntWalk.u32_in, IntWalk.u64_in, beq_no]
theorem inside_law {p q : PV} (h : ArgT Pq 9 54 p) (h' : ArgT Pq 9 49 q) : Rq 5 [p, q] = some (.bool true) := by
  obtain ⟨a, b, c, d, rfl, ha, hb, hc, hd⟩ := arg_Round h
  obtain ⟨e, f, g, i, j, k, rfl, he, hf, hg, hi, hj, hk⟩ := arg_Place h'
  obtain ⟨X, Y, Q, ln, -, lA, lB, lC⟩ := circle8_s ha hb hc hd
  obtain ⟨AX, BX, AY, BY, PC, pt, hp, l1, l2, l3, l4, l5⟩ := of7_s he hf hg hi hj hk
  refine RL_of (f := 5) (fn := Tryz.f5) Tryz.func5 rfl rfl rfl (Nat.le_of_ble_eq_true rfl) ?_
  have aw := awake8_r
  have s1 := suppInside_s (X := X) (Y := Y) (Q := Q) (AX := AX) (BX := BX) (AY := AY) (BY := BY) (C := PC) (by omega) (by omega) (by omega) (by omega) (by omega) (by omega) (by omega) (by omega) hp.nn
  have s2 := inside8_s (X := X) (Y := Y) (Q := Q) (AX := AX) (BX := BX) (AY := AY) (BY := BY) (C := PC) (by omega) (by omega) (by omega) (by omega) (by omega) (by omega) (by omega) (by omega) hp
  clear h h' ha hb hc hd he hf hg hi hj hk
  generalize -exF _ _ _ = z at *
  simp only [zR_eq, zP_eq] at ln pt s1 s2
  simp -implicitDefEqProofs (maxSteps := 5000000) (disch := first | omega | (with_reducible apply Nat.le_trans; (focus (repeat' (first | with_reducible assumption | with_reducible apply rb_mul | with_reducible apply rb_add | with_reducible apply rb_sub | with_reducible apply rb_neg | with_reducible apply rb_div | with_reducible apply rb_divInt | with_reducible apply rb_int | with_reducible apply lb_mul | with_reducible apply lb_add | with_reducible apply lb_sub | with_reducible apply lb_neg | exact Nat.le_refl _))); omega)) only [go_sem, aw, ln, pt, s1, s2, if_pos, if_neg, dec_t, dec_f, IntWalk.i64_in, IntWalk.u32_in, IntWalk.u64_in, beq_no]
theorem sum_ne {A B : Rat} (h : A ≠ 0 ∨ B ≠ 0) : A * A + B * B ≠ 0 := fun e => by
  have q : ∀ x : Rat, 0 ≤ x * x := fun x => Isq.nn ⟨x, rfl⟩
  have a := q A
  have b := q B
  rcases h with h | h
  · exact h (by
      have : A * A = 0 := by grind
      rcases Rat.mul_eq_zero.1 this with h | h <;> exact h)
  · exact h (by
      have : B * B = 0 := by grind
      rcases Rat.mul_eq_zero.1 this with h | h <;> exact h)
theorem foot_law {p q : PV} (h : ArgT Pq 9 46 p) (h' : ArgT Pq 9 24 q) : Rq 6 [p, q] = some (.bool true) := by
  obtain ⟨a, b, c, d, rfl, ha, hb, hc, hd⟩ := arg_Straight h
  obtain ⟨a', b', c', x, y, rfl, e1, l1, l2⟩ := spot_v h'
  obtain ⟨A, B, C, ln, hAB, lA, lB, lC⟩ := line8_s ha hb hc hd
  refine RL_of (f := 6) (fn := Tryz.f6) Tryz.func6 rfl rfl rfl (Nat.le_of_ble_eq_true rfl) ?_
  have aw := awake8_r
  have n0 := sum_ne hAB
  have f1 := foot_s (A := A) (B := B) (C := C) (x := x) (y := y) (by omega) (by omega) (by omega) (by omega) (by omega) n0
  have f2 := foot8_s (A := A) (B := B) (C := C) (x := x) (y := y) (by omega) (by omega) (by omega) (by omega) (by omega) n0
  have lk : rl ((A * x + B * y - C) / (A * A + B * B)) ≤ 500 := by (with_reducible apply Nat.le_trans; (focus (repeat' (first | with_reducible assumption | with_reducible apply rb_mul | with_reducible apply rb_add | with_reducible apply rb_sub | with_reducible apply rb_neg | with_reducible apply rb_div | with_reducible apply rb_divInt | with_reducible apply rb_int | with_reducible apply lb_mul | with_reducible apply lb_add | with_reducible apply lb_sub | with_reducible apply lb_neg | exact Nat.le_refl _))); omega)
  obtain ⟨k, hk⟩ : ∃ k, k = (A * x + B * y - C) / (A * A + B * B) := ⟨_, rfl⟩
  have hk2 : k * (A * A + B * B) = A * x + B * y - C := by rw [hk]; grind
  rw [← hk] at f1 lk
  rw [show (C - (A * x + B * y)) / (A * A + B * B) = -k by rw [hk]; grind, show x + -k * A = x - k * A by grind, show y + -k * B = y - k * B by grind] at f2
  clear hk
  have lX : rl (x - k * A) ≤ 600 := by (with_reducible apply Nat.le_trans; (focus (repeat' (first | with_reducible assumption | with_reducible apply rb_mul | with_reducible apply rb_add | with_reducible apply rb_sub | with_reducible apply rb_neg | with_reducible apply rb_div | with_reducible apply rb_divInt | with_reducible apply rb_int | with_reducible apply lb_mul | with_reducible apply lb_add | with_reducible apply lb_sub | with_reducible apply lb_neg | exact Nat.le_refl _))); omega)
  have lY : rl (y - k * B) ≤ 600 := by (with_reducible apply Nat.le_trans; (focus (repeat' (first | with_reducible assumption | with_reducible apply rb_mul | with_reducible apply rb_add | with_reducible apply rb_sub | with_reducible apply rb_neg | with_reducible apply rb_div | with_reducible apply rb_divInt | with_reducible apply rb_int | with_reducible apply lb_mul | with_reducible apply lb_add | with_reducible apply lb_sub | with_reducible apply lb_neg | exact Nat.le_refl _))); omega)
  have s := side8At_s (A := A) (B := B) (C := C) (x := x - k * A) (y := y - k * B) (by omega) (by omega) (by omega) (by omega) (by omega)
  rw [sg_nought (by grind)] at s
  have s2 : sg ((x - k * A - x) * B - (y - k * B - y) * A) = 0 := sg_zero (by grind)
  have r := dec_refl
  clear h h' ha hb hc hd n0 hk2
  generalize x - k * A = X at *
  generalize y - k * B = Y at *
  simp only [zR_eq, zV_eq] at ln e1 f1 f2
  simp -implicitDefEqProofs (maxSteps := 5000000) (disch := first | omega | (with_reducible apply Nat.le_trans; (focus (repeat' (first | with_reducible assumption | with_reducible apply rb_mul | with_reducible apply rb_add | with_reducible apply rb_sub | with_reducible apply rb_neg | with_reducible apply rb_div | with_reducible apply rb_divInt | with_reducible apply rb_int | with_reducible apply lb_mul | with_reducible apply lb_add | with_reducible apply lb_sub | with_reducible apply lb_neg | exact Nat.le_refl _))); omega)) only [go_sem, aw, ln, e1, f1, f2, s, s2, r, if_pos, if_neg, dec_t, dec_f, IntWalk.i64_in, IntWalk.u32_in, IntWalk.u64_in, beq_no]
end Go.Pi
