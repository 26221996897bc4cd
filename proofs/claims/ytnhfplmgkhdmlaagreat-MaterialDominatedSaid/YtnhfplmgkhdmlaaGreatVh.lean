/- What is proved: signs of sums with two roots, by program and reference. No conditions beyond those in the statements. -/
import Derived.Test.YtnhfplmgkhdmlaaGreatVa
set_option linter.unusedVariables false
set_option linter.unusedSimpArgs false
set_option maxHeartbeats 4000000
set_option maxRecDepth 8000
/-
Signs of sums with two roots: the reference.
-/
namespace Go.Pi
open Go Go.Proofs Num
@[go_sem] theorem ti_Quad : ti Pq 98 = some ⟨.struct [(0, 4), (4, 4), (8, 4), (12, 4), (16, 4), (20, 4)], 24, 384, [.bool false, .sl true [], .bool false, .sl true [], .bool false, .sl true [], .bool false, .sl true [], .bool false, .sl true [], .bool false, .sl true [], .bool false, .sl true [], .bool false, .sl true [], .bool false, .sl true [], .bool false, .sl true [], .bool false, .sl true [], .bool false, .sl true []]⟩ := by kernel_rfl
theorem sg_bdq (q : Rat) : -1 ≤ sg q ∧ sg q ≤ 1 := by rcases sg_cases q with ⟨-, e⟩ | ⟨-, e⟩ | ⟨-, e⟩ <;> omega
theorem two_s {a b c : Rat} (ha : rl a ≤ 50000000) (hb : rl b ≤ 50000000) (hc : rl c ≤ 50000000) : Rq 101 [.agg [.bool (ng (a).num), .sl false (us (lm (a).num)), .bool false, .sl false (us (lm ((a).den : Int)))], .agg [.bool (ng (b).num), .sl false (us (lm (b).num)), .bool false, .sl false (us (lm ((b).den : Int)))], .agg [.bool (ng (c).num), .sl false (us (lm (c).num)), .bool false, .sl false (us (lm ((c).den : Int)))]] = some (.int .i64 (exF a b c)) := by
  refine RL_of (f := 101) (fn := Tryz.f101) Tryz.func101 rfl rfl rfl (Nat.le_of_ble_eq_true rfl) ?_
  unfold exF
  have hd := sg_bdq (a * a - b * b * c)
  rcases sg_cases a with ⟨-, eA⟩ | ⟨-, eA⟩ | ⟨-, eA⟩ <;> rcases sg_cases b with ⟨-, eB⟩ | ⟨-, eB⟩ | ⟨-, eB⟩ <;> rcases sg_cases c with ⟨-, eC⟩ | ⟨-, eC⟩ | ⟨-, eC⟩ <;>
    rw [eA, eB, eC] <;> simp -implicitDefEqProofs (maxSteps := 5000000) (disch := first | omega | (with_reducible apply Nat.le_trans; (focus (repeat' (first | with_reducible assumption | with_reducible apply rb_mul | with_reducible apply rb_add | with_reducible apply rb_sub | with_reducible apply rb_neg | with_reducible apply rb_div | with_reducible apply rb_divInt | with_reducible apply rb_int | with_reducible apply lb_mul | with_reducible apply lb_add | with_reducible apply lb_sub | with_reducible apply lb_neg | exact Nat.le_refl _))); omega)) only [go_sem, eA, eB, eC, if_pos, if_neg, dec_t, dec_f, IntWalk.i64_in, IntWalk.u32_in, IntWalk.u64_in, beq_no] <;> try rfl
theorem sign5_s {A B C D M N : Rat} (h1 : rl A ≤ 1000000) (h2 : rl B ≤ 1000000) (h3 : rl C ≤ 1000000) (h4 : rl D ≤ 1000000) (h5 : rl M ≤ 1000000) (h6 : rl N ≤ 1000000) (hM : 0 ≤ M) (hN : 0 ≤ N) :
    Rq 64 [.agg [.bool (ng (A).num), .sl false (us (lm (A).num)), .bool false, .sl false (us (lm ((A).den : Int))), .bool (ng (B).num), .sl false (us (lm (B).num)), .bool false, .sl false (us (lm ((B).den : Int))), .bool (ng (C).num), .sl false (us (lm (C).num)), .bool false, .sl false (us (lm ((C).den : Int))), .bool (ng (D).num), .sl false (us (lm (D).num)), .bool false, .sl false (us (lm ((D).den : Int))), .bool (ng (M).num), .sl false (us (lm (M).num)), .bool false, .sl false (us (lm ((M).den : Int))), .bool (ng (N).num), .sl false (us (lm (N).num)), .bool false, .sl false (us (lm ((N).den : Int)))]] = some (.int .i64 (qdF A B C D M N)) := by
  refine RL_of (f := 64) (fn := Tryz.f64) Tryz.func64 rfl rfl rfl (Nat.le_of_ble_eq_true rfl) ?_
  have t1 := two_s (a := A) (b := B) (c := M) (by omega) (by omega) (by omega)
  have t2 := two_s (a := C) (b := D) (c := M) (by omega) (by omega) (by omega)
  have t3 := two_s (a := A * A + B * B * M - N * (C * C + D * D * M)) (b := (A * B - N * (C * D)) + (A * B - N * (C * D))) (c := M) (by (with_reducible apply Nat.le_trans; (focus (repeat' (first | with_reducible assumption | with_reducible apply rb_mul | with_reducible apply rb_add | with_reducible apply rb_sub | with_reducible apply rb_neg | with_reducible apply rb_div | with_reducible apply rb_divInt | with_reducible apply rb_int | with_reducible apply lb_mul | with_reducible apply lb_add | with_reducible apply lb_sub | with_reducible apply lb_neg | exact Nat.le_refl _))); omega)) (by (with_reducible apply Nat.le_trans; (focus (repeat' (first | with_reducible assumption | with_reducible apply rb_mul | with_reducible apply rb_add | with_reducible apply rb_sub | with_reducible apply rb_neg | with_reducible apply rb_div | with_reducible apply rb_divInt | with_reducible apply rb_int | with_reducible apply lb_mul | with_reducible apply lb_add | with_reducible apply lb_sub | with_reducible apply lb_neg | exact Nat.le_refl _))); omega)) (by omega)
  have sM : ¬ sg M < 0 := fun e => by have := sg_lt.1 e; grind
  have sN : sg N = 0 ∨ sg N = 1 := by rcases sg_cases N with ⟨h, e⟩ | ⟨-, e⟩ | ⟨-, e⟩ <;> first | omega | grind
  have c1 := exF_cases A B hM
  have c2 := exF_cases C D hM
  have c3 := exF_cases (A * A + B * B * M - N * (C * C + D * D * M)) ((A * B - N * (C * D)) + (A * B - N * (C * D))) hM
  unfold qdF
  clear hM hN
  generalize exF A B M = x at *
  generalize exF C D M = y at *
  generalize exF (A * A + B * B * M - N * (C * C + D * D * M)) ((A * B - N * (C * D)) + (A * B - N * (C * D))) M = z at *
  rcases c1 with e1 | e1 | e1 <;> rcases c2 with e2 | e2 | e2 <;> rcases sN with e3 | e3 <;> subst e1 <;> subst e2 <;> rw [e3] <;> simp -implicitDefEqProofs (maxSteps := 5000000) (disch := first | omega | (with_reducible apply Nat.le_trans; (focus (repeat' (first | with_reducible assumption | with_reducible apply rb_mul | with_reducible apply rb_add | with_reducible apply rb_sub | with_reducible apply rb_neg | with_reducible apply rb_div | with_reducible apply rb_divInt | with_reducible apply rb_int | with_reducible apply lb_mul | with_reducible apply lb_add | with_reducible apply lb_sub | with_reducible apply lb_neg | exact Nat.le_refl _))); omega)) only [go_sem, sM, e3, t1, t2, t3, if_pos, if_neg, dec_t, dec_f, IntWalk.i64_in, IntWalk.u32_in, IntWalk.u64_in, beq_no] <;> try rfl
@[go_sem] theorem sub5_s {A B C D E F : Rat} (h1 : rl A ≤ 1000000) (h2 : rl B ≤ 1000000) (h3 : rl D ≤ 1000000) (h4 : rl E ≤ 1000000) :
    Rq 65 [.agg [.bool (ng (A).num), .sl false (us (lm (A).num)), .bool false, .sl false (us (lm ((A).den : Int))), .bool (ng (B).num), .sl false (us (lm (B).num)), .bool false, .sl false (us (lm ((B).den : Int))), .bool (ng (C).num), .sl false (us (lm (C).num)), .bool false, .sl false (us (lm ((C).den : Int)))], .agg [.bool (ng (D).num), .sl false (us (lm (D).num)), .bool false, .sl false (us (lm ((D).den : Int))), .bool (ng (E).num), .sl false (us (lm (E).num)), .bool false, .sl false (us (lm ((E).den : Int))), .bool (ng (F).num), .sl false (us (lm (F).num)), .bool false, .sl false (us (lm ((F).den : Int)))]] = some (.agg [.bool (ng (A - D).num), .sl false (us (lm (A - D).num)), .bool false, .sl false (us (lm ((A - D).den : Int))), .bool (ng (B).num), .sl false (us (lm (B).num)), .bool false, .sl false (us (lm ((B).den : Int))), .bool (ng (-E).num), .sl false (us (lm (-E).num)), .bool false, .sl false (us (lm ((-E).den : Int))), .bool (ng ((0 : Rat)).num), .sl false (us (lm ((0 : Rat)).num)), .bool false, .sl false (us (lm (((0 : Rat)).den : Int))), .bool (ng (C).num), .sl false (us (lm (C).num)), .bool false, .sl false (us (lm ((C).den : Int))), .bool (ng (F).num), .sl false (us (lm (F).num)), .bool false, .sl false (us (lm ((F).den : Int)))]) := by
  refine RL_of (f := 65) (fn := Tryz.f65) Tryz.func65 rfl rfl rfl (Nat.le_of_ble_eq_true rfl) ?_
  simp -implicitDefEqProofs (maxSteps := 5000000) (disch := first | omega | (with_reducible apply Nat.le_trans; (focus (repeat' (first | with_reducible assumption | with_reducible apply rb_mul | with_reducible apply rb_add | with_reducible apply rb_sub | with_reducible apply rb_neg | with_reducible apply rb_div | with_reducible apply rb_divInt | with_reducible apply rb_int | with_reducible apply lb_mul | with_reducible apply lb_add | with_reducible apply lb_sub | with_reducible apply lb_neg | exact Nat.le_refl _))); omega)) only [go_sem, if_pos, if_neg, dec_t, dec_f, IntWalk.i64_in, IntWalk.u32_in, IntWalk.u64_in, beq_no]
theorem cmp5_s {A B C D E F : Rat} (h1 : rl A ≤ 10000) (h2 : rl B ≤ 10000) (h3 : rl C ≤ 10000) (h4 : rl D ≤ 10000) (h5 : rl E ≤ 10000) (h6 : rl F ≤ 10000) (hC : 0 ≤ C) (hF : 0 ≤ F) :
    Rq 18 [.agg [.bool (ng (A).num), .sl false (us (lm (A).num)), .bool false, .sl false (us (lm ((A).den : Int))), .bool (ng (B).num), .sl false (us (lm (B).num)), .bool false, .sl false (us (lm ((B).den : Int))), .bool (ng (C).num), .sl false (us (lm (C).num)), .bool false, .sl false (us (lm ((C).den : Int)))], .agg [.bool (ng (D).num), .sl false (us (lm (D).num)), .bool false, .sl false (us (lm ((D).den : Int))), .bool (ng (E).num), .sl false (us (lm (E).num)), .bool false, .sl false (us (lm ((E).den : Int))), .bool (ng (F).num), .sl false (us (lm (F).num)), .bool false, .sl false (us (lm ((F).den : Int)))]] = some (.int .i64 (cmF A B C D E F)) := by
  refine RL_of (f := 18) (fn := Tryz.f18) Tryz.func18 rfl rfl rfl (Nat.le_of_ble_eq_true rfl) ?_
  have s := sign5_s (A := A - D) (B := B) (C := -E) (D := 0) (M := C) (N := F) (by (with_reducible apply Nat.le_trans; (focus (repeat' (first | with_reducible assumption | with_reducible apply rb_mul | with_reducible apply rb_add | with_reducible apply rb_sub | with_reducible apply rb_neg | with_reducible apply rb_div | with_reducible apply rb_divInt | with_reducible apply rb_int | with_reducible apply lb_mul | with_reducible apply lb_add | with_reducible apply lb_sub | with_reducible apply lb_neg | exact Nat.le_refl _))); omega)) (by omega) (by rw [rl_neg]; omega) (by have := rl_zero; omega) (by omega) (by omega) hC hF
  unfold cmF
  clear hC hF
  simp -implicitDefEqProofs (maxSteps := 5000000) (disch := first | omega | (with_reducible apply Nat.le_trans; (focus (repeat' (first | with_reducible assumption | with_reducible apply rb_mul | with_reducible apply rb_add | with_reducible apply rb_sub | with_reducible apply rb_neg | with_reducible apply rb_div | with_reducible apply rb_divInt | with_reducible apply rb_int | with_reducible apply lb_mul | with_reducible apply lb_add | with_reducible apply lb_sub | with_reducible apply lb_neg | exact Nat.le_refl _))); omega)) only [go_sem, s, if_pos, if_neg, dec_t, dec_f, IntWalk.i64_in, IntWalk.u32_in, IntWalk.u64_in, beq_no]
theorem equal5_s {A B C D E F : Rat} (h1 : rl A ≤ 10000) (h2 : rl B ≤ 10000) (h3 : rl C ≤ 10000) (h4 : rl D ≤ 10000) (h5 : rl E ≤ 10000) (h6 : rl F ≤ 10000) (hC : 0 ≤ C) (hF : 0 ≤ F) :
    Rq 63 [.agg [.bool (ng (A).num), .sl false (us (lm (A).num)), .bool false, .sl false (us (lm ((A).den : Int))), .bool (ng (B).num), .sl false (us (lm (B).num)), .bool false, .sl false (us (lm ((B).den : Int))), .bool (ng (C).num), .sl false (us (lm (C).num)), .bool false, .sl false (us (lm ((C).den : Int)))], .agg [.bool (ng (D).num), .sl false (us (lm (D).num)), .bool false, .sl false (us (lm ((D).den : Int))), .bool (ng (E).num), .sl false (us (lm (E).num)), .bool false, .sl false (us (lm ((E).den : Int))), .bool (ng (F).num), .sl false (us (lm (F).num)), .bool false, .sl false (us (lm ((F).den : Int)))]] = some (.bool (dec (cmF A B C D E F = 0))) := by
  refine RL_of (f := 63) (fn := Tryz.f63) Tryz.func63 rfl rfl rfl (Nat.le_of_ble_eq_true rfl) ?_
  have s := cmp5_s h1 h2 h3 h4 h5 h6 hC hF
  clear hC hF
  by_cases k : cmF A B C D E F = 0
  · rw [dec_t k]
    rw [k] at s
    simp -implicitDefEqProofs (maxSteps := 5000000) (disch := first | omega | (with_reducible apply Nat.le_trans; (focus (repeat' (first | with_reducible assumption | with_reducible apply rb_mul | with_reducible apply rb_add | with_reducible apply rb_sub | with_reducible apply rb_neg | with_reducible apply rb_div | with_reducible apply rb_divInt | with_reducible apply rb_int | with_reducible apply lb_mul | with_reducible apply lb_add | with_reducible apply lb_sub | with_reducible apply lb_neg | exact Nat.le_refl _))); omega)) only [go_sem, s, if_pos, if_neg, dec_t, dec_f, IntWalk.i64_in, IntWalk.u32_in, IntWalk.u64_in, beq_no]
  · rw [dec_f k]
    generalize cmF A B C D E F = z at *
    simp -implicitDefEqProofs (maxSteps := 5000000) (disch := first | omega | (with_reducible apply Nat.le_trans; (focus (repeat' (first | with_reducible assumption | with_reducible apply rb_mul | with_reducible apply rb_add | with_reducible apply rb_sub | with_reducible apply rb_neg | with_reducible apply rb_div | with_reducible apply rb_divInt | with_reducible apply rb_int | with_reducible apply lb_mul | with_reducible apply lb_add | with_reducible apply lb_sub | with_reducible apply lb_neg | exact Nat.le_refl _))); omega)) only [go_sem, s, k, if_pos, if_neg, dec_t, dec_f, IntWalk.i64_in, IntWalk.u32_in, IntWalk.u64_in, beq_no]
theorem cmRat {A B C d : Rat} (hC : 0 ≤ C) : exF (A - d) B C = cmF A B C d 0 0 := cm_uniq hC (by decide +kernel) ((va_sgn (A := A - d) (B := B) hC).congr fun k => by unfold va; rw [ra_zero]; grind)
theorem cmpRat5_s {A B C d : Rat} (h1 : rl A ≤ 10000) (h2 : rl B ≤ 10000) (h3 : rl C ≤ 10000) (h4 : rl d ≤ 10000) (hC : 0 ≤ C) :
    Rq 70 [.agg [.bool (ng (A).num), .sl false (us (lm (A).num)), .bool false, .sl false (us (lm ((A).den : Int))), .bool (ng (B).num), .sl false (us (lm (B).num)), .bool false, .sl false (us (lm ((B).den : Int))), .bool (ng (C).num), .sl false (us (lm (C).num)), .bool false, .sl false (us (lm ((C).den : Int)))], .agg [.bool (ng (d).num), .sl false (us (lm (d).num)), .bool false, .sl false (us (lm ((d).den : Int)))]] = some (.int .i64 (cmF A B C d 0 0)) := by
  refine RL_of (f := 70) (fn := Tryz.f70) Tryz.func70 rfl rfl rfl (Nat.le_of_ble_eq_true rfl) ?_
  have s := two_s (a := A - d) (b := B) (c := C) (by (with_reducible apply Nat.le_trans; (focus (repeat' (first | with_reducible assumption | with_reducible apply rb_mul | with_reducible apply rb_add | with_reducible apply rb_sub | with_reducible apply rb_neg | with_reducible apply rb_div | with_reducible apply rb_divInt | with_reducible apply rb_int | with_reducible apply lb_mul | with_reducible apply lb_add | with_reducible apply lb_sub | with_reducible apply lb_neg | exact Nat.le_refl _))); omega)) (by omega) (by omega)
  rw [cmRat hC] at s
  clear hC
  simp -implicitDefEqProofs (maxSteps := 5000000) (disch := first | omega | (with_reducible apply Nat.le_trans; (focus (repeat' (first | with_reducible assumption | with_reducible apply rb_mul | with_reducible apply rb_add | with_reducible apply rb_sub | with_reducible apply rb_neg | with_reducible apply rb_div | with_reducible apply rb_divInt | with_reducible apply rb_int | with_reducible apply lb_mul | with_reducible apply lb_add | with_reducible apply lb_sub | with_reducible apply lb_neg | exact Nat.le_refl _))); omega)) only [go_sem, s, if_pos, if_neg, dec_t, dec_f, IntWalk.i64_in, IntWalk.u32_in, IntWalk.u64_in, beq_no]
theorem valid3_s {A B C : Rat} (h1 : rl A ≤ 100000) (h2 : rl B ≤ 100000) (h3 : rl C ≤ 100000) (h : Red B C) : Rq 23 [.agg [.bool (ng (A).num), .sl false (us (lm (A).num)), .bool false, .sl false (us (lm ((A).den : Int))), .bool (ng (B).num), .sl false (us (lm (B).num)), .bool false, .sl false (us (lm ((B).den : Int))), .bool (ng (C).num), .sl false (us (lm (C).num)), .bool false, .sl false (us (lm ((C).den : Int)))]] = some (.bool true) := by
  refine RL_of (f := 23) (fn := Tryz.f23) Tryz.func23 rfl rfl rfl (Nat.le_of_ble_eq_true rfl) ?_
  rcases h with ⟨e1, e2⟩ | ⟨e1, e2, e3⟩
  · have s1 : sg B = 0 := sg_eq.2 e1
    have s2 : sg C = 0 := sg_eq.2 e2
    clear e1 e2
    simp -implicitDefEqProofs (maxSteps := 5000000) (disch := first | omega | (with_reducible apply Nat.le_trans; (focus (repeat' (first | with_reducible assumption | with_reducible apply rb_mul | with_reducible apply rb_add | with_reducible apply rb_sub | with_reducible apply rb_neg | with_reducible apply rb_div | with_reducible apply rb_divInt | with_reducible apply rb_int | with_reducible apply lb_mul | with_reducible apply lb_add | with_reducible apply lb_sub | with_reducible apply lb_neg | exact Nat.le_refl _))); omega)) only [go_sem, s1, s2, if_pos, if_neg, dec_t, dec_f, IntWalk.i64_in, IntWalk.u32_in, IntWalk.u64_in, beq_no]
  · have s1 : ¬ sg B = 0 := fun e => e1 (sg_eq.1 e)
    have s2 : sg C = 1 := sg_pos e2
    have q := qSqrt'_no (q := C) (by omega) e3
    clear e1 e2 e3
    simp -implicitDefEqProofs (maxSteps := 5000000) (disch := first | omega | (with_reducible apply Nat.le_trans; (focus (repeat' (first | with_reducible assumption | with_reducible apply rb_mul | with_reducible apply rb_add | with_reducible apply rb_sub | with_reducible apply rb_neg | with_reducible apply rb_div | with_reducible apply rb_divInt | with_reducible apply rb_int | with_reducible apply lb_mul | with_reducible apply lb_add | with_reducible apply lb_sub | with_reducible apply lb_neg | exact Nat.le_refl _))); omega)) only [go_sem, s1, s2, q, if_pos, if_neg, dec_t, dec_f, IntWalk.i64_in, IntWalk.u32_in, IntWalk.u64_in, beq_no]
end Go.Pi

set_option linter.unusedVariables false
set_option linter.unusedSimpArgs false
set_option maxHeartbeats 4000000
set_option maxRecDepth 8000
/-
Signs of sums with two roots: the program.
-/
namespace Go.Pi
open Go Go.Proofs Num
theorem rplain_s {a b c : Rat} (ha : rl a ≤ 50000000) (hb : rl b ≤ 50000000) (hc : rl c ≤ 50000000) : Rq 103 [.agg [.bool (ng (a).num), .sl false (us (lm (a).num)), .bool false, .sl false (us (lm ((a).den : Int)))], .agg [.bool (ng (b).num), .sl false (us (lm (b).num)), .bool false, .sl false (us (lm ((b).den : Int)))], .agg [.bool (ng (c).num), .sl false (us (lm (c).num)), .bool false, .sl false (us (lm ((c).den : Int)))]] = some (.int .i64 (exF a b c)) := by
  refine RL_of (f := 103) (fn := Tryz.f103) Tryz.func103 rfl rfl rfl (Nat.le_of_ble_eq_true rfl) ?_
  unfold exF
  have hd := sg_bdq (a * a - b * b * c)
  rcases sg_cases a with ⟨-, eA⟩ | ⟨-, eA⟩ | ⟨-, eA⟩ <;> rcases sg_cases b with ⟨-, eB⟩ | ⟨-, eB⟩ | ⟨-, eB⟩ <;> rcases sg_cases c with ⟨-, eC⟩ | ⟨-, eC⟩ | ⟨-, eC⟩ <;>
    rw [eA, eB, eC] <;> simp -implicitDefEqProofs (maxSteps := 5000000) (disch := first | omega | (with_reducible apply Nat.le_trans; (focus (repeat' (first | with_reducible assumption | with_reducible apply rb_mul | with_reducible apply rb_add | with_reducible apply rb_sub | with_reducible apply rb_neg | with_reducible apply rb_div | with_reducible apply rb_divInt | with_reducible apply rb_int | with_reducible apply lb_mul | with_reducible apply lb_add | with_reducible apply lb_sub | with_reducible apply lb_neg | exact Nat.le_refl _))); omega)) only [go_sem, eA, eB, eC, if_pos, if_neg, dec_t, dec_f, IntWalk.i64_in, IntWalk.u32_in, IntWalk.u64_in, beq_no] <;> try rfl
@[go_sem] theorem rcopied_s {q : Rat} (h : rl q ≤ 10000000) : Rq 140 [.agg [.bool (ng (q).num), .sl false (us (lm (q).num)), .bool false, .sl false (us (lm ((q).den : Int)))]] = some (.agg (zQ q)) := by
  refine RL_of (f := 140) (fn := Tryz.f140) Tryz.func140 rfl rfl rfl (Nat.le_of_ble_eq_true rfl) ?_
  have e : - -q = q := by grind
  simp -implicitDefEqProofs (maxSteps := 5000000) (disch := first | omega | (with_reducible apply Nat.le_trans; (focus (repeat' (first | with_reducible assumption | with_reducible apply rb_mul | with_reducible apply rb_add | with_reducible apply rb_sub | with_reducible apply rb_neg | with_reducible apply rb_div | with_reducible apply rb_divInt | with_reducible apply rb_int | with_reducible apply lb_mul | with_reducible apply lb_add | with_reducible apply lb_sub | with_reducible apply lb_neg | exact Nat.le_refl _))); omega)) only [go_sem, e, if_pos, if_neg, dec_t, dec_f, IntWalk.i64_in, IntWalk.u32_in, IntWalk.u64_in, beq_no]
@[go_sem] theorem rsub_s {A B C D E F : Rat} (h1 : rl A ≤ 1000000) (h2 : rl B ≤ 1000000) (h3 : rl C ≤ 1000000) (h4 : rl D ≤ 1000000) (h5 : rl E ≤ 1000000) (h6 : rl F ≤ 1000000) :
    Rq 105 [.agg [.bool (ng (A).num), .sl false (us (lm (A).num)), .bool false, .sl false (us (lm ((A).den : Int))), .bool (ng (B).num), .sl false (us (lm (B).num)), .bool false, .sl false (us (lm ((B).den : Int))), .bool (ng (C).num), .sl false (us (lm (C).num)), .bool false, .sl false (us (lm ((C).den : Int)))], .agg [.bool (ng (D).num), .sl false (us (lm (D).num)), .bool false, .sl false (us (lm ((D).den : Int))), .bool (ng (E).num), .sl false (us (lm (E).num)), .bool false, .sl false (us (lm ((E).den : Int))), .bool (ng (F).num), .sl false (us (lm (F).num)), .bool false, .sl false (us (lm ((F).den : Int)))]] = some (.agg [.bool (ng (A - D).num), .sl false (us (lm (A - D).num)), .bool false, .sl false (us (lm ((A - D).den : Int))), .bool (ng (B).num), .sl false (us (lm (B).num)), .bool false, .sl false (us (lm ((B).den : Int))), .bool (ng (-E).num), .sl false (us (lm (-E).num)), .bool false, .sl false (us (lm ((-E).den : Int))), .bool (ng ((0 : Rat)).num), .sl false (us (lm ((0 : Rat)).num)), .bool false, .sl false (us (lm (((0 : Rat)).den : Int))), .bool (ng (C).num), .sl false (us (lm (C).num)), .bool false, .sl false (us (lm ((C).den : Int))), .bool (ng (F).num), .sl false (us (lm (F).num)), .bool false, .sl false (us (lm ((F).den : Int)))]) := by
  refine RL_of (f := 105) (fn := Tryz.f105) Tryz.func105 rfl rfl rfl (Nat.le_of_ble_eq_true rfl) ?_
  simp -implicitDefEqProofs (maxSteps := 5000000) (disch := first | omega | (with_reducible apply Nat.le_trans; (focus (repeat' (first | with_reducible assumption | with_reducible apply rb_mul | with_reducible apply rb_add | with_reducible apply rb_sub | with_reducible apply rb_neg | with_reducible apply rb_div | with_reducible apply rb_divInt | with_reducible apply rb_int | with_reducible apply lb_mul | with_reducible apply lb_add | with_reducible apply lb_sub | with_reducible apply lb_neg | exact Nat.le_refl _))); omega)) only [go_sem, if_pos, if_neg, dec_t, dec_f, IntWalk.i64_in, IntWalk.u32_in, IntWalk.u64_in, beq_no]
/-- What tells two intervals apart. -/
def apF (a b : Option (Int × Int)) : Option Int := match a, b with
  | some i, some j => if i.2 < j.1 then some (-1) else if j.2 < i.1 then some 1 else none
  | _, _ => none
def apV : Option Int → PV
  | some n => .tup [.int .i64 n, .bool true]
  | none => .tup [.int .i64 0, .bool false]
theorem rapart_s {A B C D E F : Rat} (h1 : rl A ≤ 1000000) (h2 : rl B ≤ 1000000) (h3 : rl C ≤ 1000000) (h4 : rl D ≤ 1000000) (h5 : rl E ≤ 1000000) (h6 : rl F ≤ 1000000) :
    Rq 102 [.agg [.bool (ng (A).num), .sl false (us (lm (A).num)), .bool false, .sl false (us (lm ((A).den : Int))), .bool (ng (B).num), .sl false (us (lm (B).num)), .bool false, .sl false (us (lm ((B).den : Int))), .bool (ng (C).num), .sl false (us (lm (C).num)), .bool false, .sl false (us (lm ((C).den : Int)))], .agg [.bool (ng (D).num), .sl false (us (lm (D).num)), .bool false, .sl false (us (lm ((D).den : Int))), .bool (ng (E).num), .sl false (us (lm (E).num)), .bool false, .sl false (us (lm ((E).den : Int))), .bool (ng (F).num), .sl false (us (lm (F).num)), .bool false, .sl false (us (lm ((F).den : Int)))]] = some (apV (apF (roF A B C) (roF D E F))) := by
  refine RL_of (f := 102) (fn := Tryz.f102) Tryz.func102 rfl rfl rfl (Nat.le_of_ble_eq_true rfl) ?_
  have f1 := iRoot_r (A := A) (B := B) (C := C) (by omega) (by omega) (by omega)
  have f2 := iRoot_r (A := D) (B := E) (C := F) (by omega) (by omega) (by omega)
  simp only [zR_eq] at f1 f2
  generalize roF A B C = a at *
  generalize roF D E F = b at *
  cases a with
  | none =>
    cases b with
    | none => simp -implicitDefEqProofs (maxSteps := 5000000) (disch := omega) only [go_sem, f1, f2, if_pos, if_neg, dec_t, dec_f, IntWalk.i64_in, IntWalk.u32_in, IntWalk.u64_in, beq_no]; rfl
    | some j => obtain ⟨j1, j2⟩ := j; simp -implicitDefEqProofs (maxSteps := 5000000) (disch := omega) only [go_sem, f1, f2, if_pos, if_neg, dec_t, dec_f, IntWalk.i64_in, IntWalk.u32_in, IntWalk.u64_in, beq_no]; rfl
  | some i =>
    obtain ⟨i1, i2⟩ := i
    cases b with
    | none => simp -implicitDefEqProofs (maxSteps := 5000000) (disch := omega) only [go_sem, f1, f2, if_pos, if_neg, dec_t, dec_f, IntWalk.i64_in, IntWalk.u32_in, IntWalk.u64_in, beq_no]; rfl
    | some j =>
      obtain ⟨j1, j2⟩ := j
      unfold apF
      dsimp only
      by_cases k1 : i2 < j1
      · rw [if_pos k1]; simp -implicitDefEqProofs (maxSteps := 5000000) (disch := omega) only [go_sem, f1, f2, k1, if_pos, if_neg, dec_t, dec_f, IntWalk.i64_in, IntWalk.u32_in, IntWalk.u64_in, beq_no]; rfl
      · rw [if_neg k1]
        by_cases k2 : j2 < i1
        · rw [if_pos k2]; simp -implicitDefEqProofs (maxSteps := 5000000) (disch := omega) only [go_sem, f1, f2, k1, k2, if_pos, if_neg, dec_t, dec_f, IntWalk.i64_in, IntWalk.u32_in, IntWalk.u64_in, beq_no]; rfl
        · rw [if_neg k2]; simp -implicitDefEqProofs (maxSteps := 5000000) (disch := omega) only [go_sem, f1, f2, k1, k2, if_pos, if_neg, dec_t, dec_f, IntWalk.i64_in, IntWalk.u32_in, IntWalk.u64_in, beq_no]; rfl
theorem ap_gap {i j : Int} {x y : Rat} (h : i < j) (h1 : x * ((65536 : Int) : Rat) ≤ (i : Rat)) (h2 : (j : Rat) ≤ y * ((65536 : Int) : Rat)) : 1 / 65536 ≤ y - x := by
  have h3 : (i : Rat) + 1 ≤ (j : Rat) := by
    have h := Rat.intCast_le_intCast.2 (show i + 1 ≤ j by omega)
    rw [Rat.intCast_add] at h
    exact h
  rw [c65536] at h1 h2
  grind
theorem ap_sgn {A B C D E F : Rat} {n : Int} (hC : 0 ≤ C) (hF : 0 ≤ F) (h : apF (roF A B C) (roF D E F) = some n) : n = cmF A B C D E F := by
  refine cm_uniq hC hF ?_
  cases ha : roF A B C with
  | none => rw [ha] at h; simp [apF] at h
  | some i =>
    cases hb : roF D E F with
    | none => rw [ha, hb] at h; simp [apF] at h
    | some j =>
      rw [ha, hb] at h
      have i1 := fun k => ro_ra ha hC k
      have i2 := fun k => ro_ra hb hF k
      unfold apF at h
      dsimp only at h
      by_cases k1 : i.2 < j.1
      · rw [if_pos k1] at h
        cases h
        refine .inr (.inr ⟨rfl, 1 / 65536, by decide +kernel, 0, fun k _ => ?_⟩)
        have := ap_gap k1 (i1 k).2 (i2 k).1
        unfold va
        grind
      · rw [if_neg k1] at h
        by_cases k2 : j.2 < i.1
        · rw [if_pos k2] at h
          cases h
          refine .inl ⟨rfl, 1 / 65536, by decide +kernel, 0, fun k _ => ?_⟩
          have := ap_gap k2 (i2 k).2 (i1 k).1
          unfold va
          grind
        · rw [if_neg k2] at h
          cases h
end Go.Pi
