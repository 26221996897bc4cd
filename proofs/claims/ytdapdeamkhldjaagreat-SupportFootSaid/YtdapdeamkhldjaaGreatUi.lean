/- What is proved: arguments of the statements; the examples of the chapter. No conditions beyond those in the statements. -/
import Derived.Test.YtdapdeamkhldjaaGreatUa
import Derived.Test.YtdapdeamkhldjaaGreatUg
set_option linter.unusedVariables false
set_option linter.unusedSimpArgs false
set_option maxHeartbeats 4000000
set_option maxRecDepth 8000
/-
Arguments of the statements; the examples of the chapter.
-/
namespace Go.Pi
open Go Go.Proofs Num
theorem typ_i16 {d : Nat} {cs : List PV} (h : Typ Pq (d + 1) 22 cs) : ∃ a, cs = [.int .i16 a] ∧ -32768 ≤ a ∧ a < 32768 := by
  simp only [Typ, Tryz.underlying22] at h
  obtain ⟨n, rfl, hw⟩ := h
  refine ⟨n, rfl, ?_⟩
  simp only [Lit.wf, Bool.and_eq_true, decide_eq_true_eq] at hw
  have e1 : IntKind.i16.min = -32768 := by decide
  have e2 : IntKind.i16.max = 32767 := by decide
  rw [e1, e2] at hw
  omega
theorem typ_u16 {d : Nat} {cs : List PV} (h : Typ Pq (d + 1) 47 cs) : ∃ a, cs = [.int .u16 a] ∧ 0 ≤ a ∧ a < 65536 := by
  simp only [Typ, Tryz.underlying47] at h
  obtain ⟨n, rfl, hw⟩ := h
  refine ⟨n, rfl, ?_⟩
  simp only [Lit.wf, Bool.and_eq_true, decide_eq_true_eq] at hw
  have e1 : IntKind.u16.min = 0 := by decide
  have e2 : IntKind.u16.max = 65535 := by decide
  rw [e1, e2] at hw
  omega
theorem typ_u8 {d : Nat} {cs : List PV} (h : Typ Pq (d + 1) 5 cs) : ∃ a, cs = [.int .u8 a] ∧ 0 ≤ a ∧ a < 256 := by
  simp only [Typ, Tryz.underlying5] at h
  obtain ⟨n, rfl, hw⟩ := h
  refine ⟨n, rfl, ?_⟩
  simp only [Lit.wf, Bool.and_eq_true, decide_eq_true_eq] at hw
  have e1 : IntKind.u8.min = 0 := by decide
  have e2 : IntKind.u8.max = 255 := by decide
  rw [e1, e2] at hw
  omega
theorem arg_Spot {p : PV} (h : ArgT Pq 9 24 p) : ∃ a b c, p = .agg [.int .i16 a, .int .i16 b, .int .u8 c] ∧ (-32768 ≤ a ∧ a < 32768) ∧ (-32768 ≤ b ∧ b < 32768) ∧ (0 ≤ c ∧ c < 256) := by
  obtain ⟨cs, rfl, p, q, rfl, h1, p', q', rfl, h2, p2, q2, rfl, h3, rfl⟩ := arg_struct (d := 8) Tryz.underlying24 h
  obtain ⟨a, rfl, ha⟩ := typ_i16 (d := 7) h1
  obtain ⟨b, rfl, hb⟩ := typ_i16 (d := 7) h2
  obtain ⟨c, rfl, hc⟩ := typ_u8 (d := 7) h3
  exact ⟨a, b, c, rfl, ha, hb, hc⟩
theorem arg_Straight {p : PV} (h : ArgT Pq 9 46 p) : ∃ a b c d, p = .agg [.int .i16 a, .int .i16 b, .int .i16 c, .int .u8 d] ∧ (-32768 ≤ a ∧ a < 32768) ∧ (-32768 ≤ b ∧ b < 32768) ∧ (-32768 ≤ c ∧ c < 32768) ∧ (0 ≤ d ∧ d < 256) := by
  obtain ⟨cs, rfl, p, q, rfl, h1, p', q', rfl, h2, p2, q2, rfl, h3, p3, q3, rfl, h4, rfl⟩ := arg_struct (d := 8) Tryz.underlying46 h
  obtain ⟨a, rfl, ha⟩ := typ_i16 (d := 7) h1
  obtain ⟨b, rfl, hb⟩ := typ_i16 (d := 7) h2
  obtain ⟨c, rfl, hc⟩ := typ_i16 (d := 7) h3
  obtain ⟨d, rfl, hd⟩ := typ_u8 (d := 7) h4
  exact ⟨a, b, c, d, rfl, ha, hb, hc, hd⟩
theorem arg_Round {p : PV} (h : ArgT Pq 9 54 p) : ∃ a b c d, p = .agg [.int .i16 a, .int .i16 b, .int .u16 c, .int .u8 d] ∧ (-32768 ≤ a ∧ a < 32768) ∧ (-32768 ≤ b ∧ b < 32768) ∧ (0 ≤ c ∧ c < 65536) ∧ (0 ≤ d ∧ d < 256) := by
  obtain ⟨cs, rfl, p, q, rfl, h1, p', q', rfl, h2, p2, q2, rfl, h3, p3, q3, rfl, h4, rfl⟩ := arg_struct (d := 8) Tryz.underlying54 h
  obtain ⟨a, rfl, ha⟩ := typ_i16 (d := 7) h1
  obtain ⟨b, rfl, hb⟩ := typ_i16 (d := 7) h2
  obtain ⟨c, rfl, hc⟩ := typ_u16 (d := 7) h3
  obtain ⟨d, rfl, hd⟩ := typ_u8 (d := 7) h4
  exact ⟨a, b, c, d, rfl, ha, hb, hc, hd⟩
theorem arg_Place {p : PV} (h : ArgT Pq 9 49 p) : ∃ a b c d e f, p = .agg [.int .i16 a, .int .i16 b, .int .i16 c, .int .i16 d, .int .u16 e, .int .u8 f] ∧ (-32768 ≤ a ∧ a < 32768) ∧ (-32768 ≤ b ∧ b < 32768) ∧ (-32768 ≤ c ∧ c < 32768) ∧ (-32768 ≤ d ∧ d < 32768) ∧ (0 ≤ e ∧ e < 65536) ∧ (0 ≤ f ∧ f < 256) := by
  obtain ⟨cs, rfl, p, q, rfl, h1, p', q', rfl, h2, p2, q2, rfl, h3, p3, q3, rfl, h4, p4, q4, rfl, h5, p5, q5, rfl, h6, rfl⟩ := arg_struct (d := 8) Tryz.underlying49 h
  obtain ⟨a, rfl, ha⟩ := typ_i16 (d := 7) h1
  obtain ⟨b, rfl, hb⟩ := typ_i16 (d := 7) h2
  obtain ⟨c, rfl, hc⟩ := typ_i16 (d := 7) h3
  obtain ⟨d, rfl, hd⟩ := typ_i16 (d := 7) h4
  obtain ⟨e, rfl, he⟩ := typ_u16 (d := 7) h5
  obtain ⟨f, rfl, hf⟩ := typ_u8 (d := 7) h6
  exact ⟨a, b, c, d, e, f, rfl, ha, hb, hc, hd, he, hf⟩
end Go.Pi

set_option linter.unusedVariables false
set_option linter.unusedSimpArgs false
set_option maxHeartbeats 4000000
set_option maxRecDepth 8000
/-
The examples of the chapter.
-/
namespace Go.Pi
open Go Go.Proofs Num
theorem suppSideAt_s {A B C x y : Rat} (h1 : rl A ≤ 100000) (h2 : rl B ≤ 100000) (h3 : rl C ≤ 100000) (h4 : rl x ≤ 100000) (h5 : rl y ≤ 100000) :
    Rq 16 [.agg [.bool (ng (A).num), .sl false (us (lm (A).num)), .bool false, .sl false (us (lm ((A).den : Int))), .bool (ng (B).num), .sl false (us (lm (B).num)), .bool false, .sl false (us (lm ((B).den : Int))), .bool (ng (C).num), .sl false (us (lm (C).num)), .bool false, .sl false (us (lm ((C).den : Int)))], .agg [.bool (ng (x).num), .sl false (us (lm (x).num)), .bool false, .sl false (us (lm ((x).den : Int))), .bool (ng ((0 : Rat)).num), .sl false (us (lm ((0 : Rat)).num)), .bool false, .sl false (us (lm (((0 : Rat)).den : Int))), .bool (ng (y).num), .sl false (us (lm (y).num)), .bool false, .sl false (us (lm ((y).den : Int))), .bool (ng ((0 : Rat)).num), .sl false (us (lm ((0 : Rat)).num)), .bool false, .sl false (us (lm (((0 : Rat)).den : Int))), .bool (ng ((0 : Rat)).num), .sl false (us (lm ((0 : Rat)).num)), .bool false, .sl false (us (lm (((0 : Rat)).den : Int)))]] = some (.int .i64 (sg (A * x + B * y - C))) := by
  have s := suppSide_s (A := A) (B := B) (C := C) (AX := x) (BX := 0) (AY := y) (BY := 0) (PC := 0) h1 h2 h3 h4 (by have := rl_zero; omega) h5 (by have := rl_zero; omega) (by have := rl_zero; omega) Rat.le_refl
  rw [show A * 0 + B * 0 = 0 by grind, exF_B0] at s
  simp only [zR_eq, zP_eq] at s
  exact s
theorem side8At_s {A B C x y : Rat} (h1 : rl A ≤ 1000) (h2 : rl B ≤ 1000) (h3 : rl C ≤ 1000) (h4 : rl x ≤ 1000) (h5 : rl y ≤ 1000) :
    Rq 20 [.agg [.bool (ng (A).num), .sl false (us (lm (A).num)), .bool false, .sl false (us (lm ((A).den : Int))), .bool (ng (B).num), .sl false (us (lm (B).num)), .bool false, .sl false (us (lm ((B).den : Int))), .bool (ng (C).num), .sl false (us (lm (C).num)), .bool false, .sl false (us (lm ((C).den : Int)))], .agg [.bool (ng (x).num), .sl false (us (lm (x).num)), .bool false, .sl false (us (lm ((x).den : Int))), .bool (ng ((0 : Rat)).num), .sl false (us (lm ((0 : Rat)).num)), .bool false, .sl false (us (lm (((0 : Rat)).den : Int))), .bool (ng (y).num), .sl false (us (lm (y).num)), .bool false, .sl false (us (lm ((y).den : Int))), .bool (ng ((0 : Rat)).num), .sl false (us (lm ((0 : Rat)).num)), .bool false, .sl false (us (lm (((0 : Rat)).den : Int))), .bool (ng ((0 : Rat)).num), .sl false (us (lm ((0 : Rat)).num)), .bool false, .sl false (us (lm (((0 : Rat)).den : Int)))]] = some (.int .i64 (sg (A * x + B * y - C))) := by
  have s := side8_s (A := A) (B := B) (C := C) (AX := x) (BX := 0) (AY := y) (BY := 0) (PC := 0) h1 h2 h3 h4 (by have := rl_zero; omega) h5 (by have := rl_zero; omega) (by have := rl_zero; omega) Rat.le_refl
  rw [show A * 0 + B * 0 = 0 by grind, exF_B0] at s
  simp only [zR_eq, zP_eq] at s
  exact s
theorem suppInsideAt_s {X Y Q x y : Rat} (h1 : rl X ≤ 10000) (h2 : rl Y ≤ 10000) (h3 : rl Q ≤ 10000) (h4 : rl x ≤ 10000) (h5 : rl y ≤ 10000) :
    Rq 21 [.agg [.bool (ng (X).num), .sl false (us (lm (X).num)), .bool false, .sl false (us (lm ((X).den : Int))), .bool (ng (Y).num), .sl false (us (lm (Y).num)), .bool false, .sl false (us (lm ((Y).den : Int))), .bool (ng (Q).num), .sl false (us (lm (Q).num)), .bool false, .sl false (us (lm ((Q).den : Int)))], .agg [.bool (ng (x).num), .sl false (us (lm (x).num)), .bool false, .sl false (us (lm ((x).den : Int))), .bool (ng ((0 : Rat)).num), .sl false (us (lm ((0 : Rat)).num)), .bool false, .sl false (us (lm (((0 : Rat)).den : Int))), .bool (ng (y).num), .sl false (us (lm (y).num)), .bool false, .sl false (us (lm ((y).den : Int))), .bool (ng ((0 : Rat)).num), .sl false (us (lm ((0 : Rat)).num)), .bool false, .sl false (us (lm (((0 : Rat)).den : Int))), .bool (ng ((0 : Rat)).num), .sl false (us (lm ((0 : Rat)).num)), .bool false, .sl false (us (lm (((0 : Rat)).den : Int)))]] = some (.int .i64 (-sg ((x - X) * (x - X) + (y - Y) * (y - Y) - Q))) := by
  have s := suppInside_s (X := X) (Y := Y) (Q := Q) (AX := x) (BX := 0) (AY := y) (BY := 0) (C := 0) h1 h2 h3 h4 (by have := rl_zero; omega) h5 (by have := rl_zero; omega) (by have := rl_zero; omega) Rat.le_refl
  rw [show (x - X) * 0 + (y - Y) * 0 + ((x - X) * 0 + (y - Y) * 0) = 0 by grind, exF_B0, show (x - X) * (x - X) + (y - Y) * (y - Y) + 0 * (0 * 0 + 0 * 0) - Q = (x - X) * (x - X) + (y - Y) * (y - Y) - Q by grind] at s
  simp only [zR_eq, zP_eq] at s
  exact s
theorem line_s {a b c : Int} (ha : -9223372036854775808 ≤ a ∧ a ≤ 9223372036854775807) (hb : -9223372036854775808 ≤ b ∧ b ≤ 9223372036854775807) (hc : -9223372036854775808 ≤ c ∧ c ≤ 9223372036854775807) :
    Rq 48 [.int .i64 a, .int .i64 b, .int .i64 c] = some (.agg (zR (a : Rat) (b : Rat) (c : Rat))) := by
  refine RL_of (f := 48) (fn := Tryz.f48) Tryz.func48 rfl rfl rfl (Nat.le_of_ble_eq_true rfl) ?_
  simp -implicitDefEqProofs (maxSteps := 5000000) (disch := first | omega | (with_reducible apply Nat.le_trans; (focus (repeat' (first | with_reducible assumption | with_reducible apply rb_mul | with_reducible apply rb_add | with_reducible apply rb_sub | with_reducible apply rb_neg | with_reducible apply rb_div | with_reducible apply rb_divInt | with_reducible apply rb_int | with_reducible apply lb_mul | with_reducible apply lb_add | with_reducible apply lb_sub | with_reducible apply lb_neg | exact Nat.le_refl _))); omega)) only [go_sem, if_pos, if_neg, dec_t, dec_f, IntWalk.i64_in, IntWalk.u32_in, IntWalk.u64_in, beq_no]
theorem isq2 : ¬ Isq ((2 : Int) : Rat) := fun h => by
  obtain ⟨⟨x, hx⟩, _⟩ := (isq_iff _).1 h
  rw [Rat.num_intCast] at hx
  rcases Int.lt_or_le x 2 with h1 | h1
  · rcases Int.lt_or_le (-2) x with h2 | h2
    · have : x = -1 ∨ x = 0 ∨ x = 1 := by omega
      rcases this with e | e | e <;> subst e <;> omega
    · have := Int.mul_le_mul_of_nonneg_left (show 2 ≤ -x by omega) (show 0 ≤ -x by omega)
      rw [Int.neg_mul_neg] at this
      omega
  · have := Int.mul_le_mul_of_nonneg_left h1 (show 0 ≤ x by omega)
    omega
theorem awake8_r : Rq 11 [] = some (.bool true) := by
  refine RL_of (f := 11) (fn := Tryz.f11) Tryz.func11 rfl rfl rfl (Nat.le_of_ble_eq_true rfl) ?_
  have l0 := rl_zero
  have s := fun (n : Int) h0 h1 => rl_small (n := n) h0 h1
  have s1 := s 1 (by omega) (by omega)
  have s2 := s 2 (by omega) (by omega)
  have s5 := s 5 (by omega) (by omega)
  have m1 := s (-1) (by omega) (by omega)
  have m2 := s (-2) (by omega) (by omega)
  have s3 := s 3 (by omega) (by omega)
  have li := fun (a b c : Int) ha hb hc => line_s (a := a) (b := b) (c := c) ha hb hc
  have a1 := li 1 1 1 (by omega) (by omega) (by omega)
  have a2 := li 0 2 0 (by omega) (by omega) (by omega)
  have t := through_s (ax := 0) (ay := 0) (bx := ((2 : Int) : Rat)) (bz := 0) (by omega) (by omega) (by omega) (by omega) (.inr (by decide +kernel))
  rw [show (0 : Rat) - 0 = 0 by decide +kernel, show ((2 : Int) : Rat) - 0 = ((2 : Int) : Rat) by decide +kernel, show (0 : Rat) * 0 + ((2 : Int) : Rat) * 0 = 0 by decide +kernel] at t
  have sd := suppSideAt_s (A := 0) (B := ((2 : Int) : Rat)) (C := 0) (x := ((1 : Int) : Rat)) (y := ((1 : Int) : Rat)) (by omega) (by omega) (by omega) (by omega) (by omega)
  rw [show sg (0 * ((1 : Int) : Rat) + ((2 : Int) : Rat) * ((1 : Int) : Rat) - 0) = 1 by decide +kernel] at sd
  have ft := foot_s (A := ((1 : Int) : Rat)) (B := ((1 : Int) : Rat)) (C := ((1 : Int) : Rat)) (x := 0) (y := ((5 : Int) : Rat)) (by omega) (by omega) (by omega) (by omega) (by omega) (by decide +kernel)
  rw [show (0 : Rat) - (((1 : Int) : Rat) * 0 + ((1 : Int) : Rat) * ((5 : Int) : Rat) - ((1 : Int) : Rat)) / (((1 : Int) : Rat) * ((1 : Int) : Rat) + ((1 : Int) : Rat) * ((1 : Int) : Rat)) * ((1 : Int) : Rat) = ((-2 : Int) : Rat) by decide +kernel, show ((5 : Int) : Rat) - (((1 : Int) : Rat) * 0 + ((1 : Int) : Rat) * ((5 : Int) : Rat) - ((1 : Int) : Rat)) / (((1 : Int) : Rat) * ((1 : Int) : Rat) + ((1 : Int) : Rat) * ((1 : Int) : Rat)) * ((1 : Int) : Rat) = ((3 : Int) : Rat) by decide +kernel] at ft
  have ct := cthrough_s (ax := ((1 : Int) : Rat)) (ay := 0) (bx := 0) (bz := ((1 : Int) : Rat)) (cx := ((-1 : Int) : Rat)) (cy := 0) (by omega) (by omega) (by omega) (by omega) (by omega) (by omega) (u := -1) (v := 1) (s := -2) (t := 0) (d := 2) (x := -1) (y := 0) (by decide +kernel) (by decide +kernel) (by decide +kernel) (by decide +kernel) (by decide +kernel) (by decide +kernel) (by decide +kernel) (by decide +kernel)
  rw [show ((1 : Int) : Rat) + -1 = 0 by decide +kernel, show (0 : Rat) + 0 = 0 by decide +kernel, show (-1 : Rat) * -1 + 0 * 0 = ((1 : Int) : Rat) by decide +kernel] at ct
  have sc := sameCircle8_s (A := 0) (B := 0) (C := ((1 : Int) : Rat)) (D := 0) (E := 0) (F := ((1 : Int) : Rat)) (by omega) (by omega) (by omega) (by omega) (by omega) (by omega)
  rw [dec_t ⟨rfl, rfl, rfl⟩] at sc
  have nb : Rat.divInt 1 2 ≠ 0 := by decide +kernel
  obtain ⟨e1, e2, e3⟩ := mk_no (A := Rat.divInt 0 2) (B := Rat.divInt 1 2) (C := ((2 : Int) : Rat)) isq2 nb
  have o := (of7_x (ax := 0) (bx := 1) (ay := 0) (bz := 1) (c := 2) (d := 1) (by omega) (by omega) (by omega) (by omega) (by omega) (by omega) (A := 0) (B := Rat.divInt 1 2) (C := ((2 : Int) : Rat)) (D := 0) (E := Rat.divInt 1 2) (F := ((2 : Int) : Rat)) (by rw [show (1 : Int) + 1 = 2 from rfl, e1]; decide +kernel) (by rw [show (1 : Int) + 1 = 2 from rfl, e2]) (by rw [show (1 : Int) + 1 = 2 from rfl, e3]) (by rw [show (1 : Int) + 1 = 2 from rfl, e1]; decide +kernel) (by rw [show (1 : Int) + 1 = 2 from rfl, e2]) (by rw [show (1 : Int) + 1 = 2 from rfl, e3])).1
  rw [if_neg (fun h => nb h.1), if_neg nb] at o
  have lh : rl (Rat.divInt 1 2) ≤ 7 := by
    have := ll_64 (n := 1) (by omega) (by omega)
    have := ll_64 (n := 2) (by omega) (by omega)
    (with_reducible apply Nat.le_trans; (focus (repeat' (first | with_reducible assumption | with_reducible apply rb_mul | with_reducible apply rb_add | with_reducible apply rb_sub | with_reducible apply rb_neg | with_reducible apply rb_div | with_reducible apply rb_divInt | with_reducible apply rb_int | with_reducible apply lb_mul | with_reducible apply lb_add | with_reducible apply lb_sub | with_reducible apply lb_neg | exact Nat.le_refl _))); omega)
  have ins := suppInside_s (X := 0) (Y := 0) (Q := ((1 : Int) : Rat)) (AX := 0) (BX := Rat.divInt 1 2) (AY := 0) (BY := Rat.divInt 1 2) (C := ((2 : Int) : Rat)) (by omega) (by omega) (by omega) (by omega) (by omega) (by omega) (by omega) (by omega) (by decide +kernel)
  rw [show -exF ((0 - 0) * (0 - 0) + (0 - 0) * (0 - 0) + ((2 : Int) : Rat) * (Rat.divInt 1 2 * Rat.divInt 1 2 + Rat.divInt 1 2 * Rat.divInt 1 2) - ((1 : Int) : Rat)) ((0 - 0) * Rat.divInt 1 2 + (0 - 0) * Rat.divInt 1 2 + ((0 - 0) * Rat.divInt 1 2 + (0 - 0) * Rat.divInt 1 2)) ((2 : Int) : Rat) = 0 by decide +kernel] at ins
  simp only [zR_eq, zP_eq, zV_eq, zQ_eq, z0] at a1 a2 t sd ft ct sc o ins
  have r := fun (a : Rat) => dec_t (show a = a from rfl)
  clear li s nb e1 e2 e3
  simp -implicitDefEqProofs (maxSteps := 5000000) (disch := first | omega | (with_reducible apply Nat.le_trans; (focus (repeat' (first | with_reducible assumption | with_reducible apply rb_mul | with_reducible apply rb_add | with_reducible apply rb_sub | with_reducible apply rb_neg | with_reducible apply rb_div | with_reducible apply rb_divInt | with_reducible apply rb_int | with_reducible apply lb_mul | with_reducible apply lb_add | with_reducible apply lb_sub | with_reducible apply lb_neg | exact Nat.le_refl _))); omega)) only [go_sem, a1, a2, t, sd, ft, ct, sc, o, ins, r, if_pos, if_neg, dec_t, dec_f, IntWalk.i64_in, IntWalk.u32_in, IntWalk.u64_in, beq_no]
end Go.Pi
