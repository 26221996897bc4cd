/- What is proved: the law on intervals of roots. No conditions beyond those in the statements. -/
import Derived.Test.YtekdboalpckloaaTe
set_option linter.unusedVariables false
set_option linter.unusedSimpArgs false
set_option maxHeartbeats 4000000
set_option maxRecDepth 8000
/-
The law on intervals of roots.
-/
namespace Go.Pi
open Go Go.Proofs Num
theorem arg_Root {p : PV} (h : ArgT Pq 9 58 p) : ∃ x y z : RA, p = .agg (x.cs ++ (y.cs ++ z.cs)) ∧ x.Wf ∧ y.Wf ∧ z.Wf := by
  obtain ⟨cs, rfl, p, q, rfl, h1, p', q', rfl, h2, p'', q'', rfl, h3, rfl⟩ := arg_struct (d := 8) Try.underlying58 h
  obtain ⟨x, rfl, hx⟩ := typ_Rat (d := 4) h1
  obtain ⟨y, rfl, hy⟩ := typ_Rat (d := 4) h2
  obtain ⟨z, rfl, hz⟩ := typ_Rat (d := 4) h3
  exact ⟨x, y, z, by rw [List.append_nil], hx, hy, hz⟩
theorem RA.Sm.q {x : RA} {k : Nat} (h : x.Sm k) (hk : 1 ≤ k) : ∃ q : Rat, x.cs = zQ q ∧ rl q ≤ k := by
  obtain ⟨s1, s2, s3⟩ := h
  obtain ⟨q, hq, l1, l2⟩ := s3.cs
  exact ⟨q, hq, by unfold rl; omega⟩
theorem root_law {p : PV} (h : ArgT Pq 9 58 p) : Rq 7 [p] = some (.bool true) := by
  obtain ⟨x, y, z, rfl, hx, hy, hz⟩ := arg_Root h
  refine RL_of (f := 7) (fn := Try.f7) Try.func7 rfl rfl rfl (Nat.le_of_ble_eq_true rfl) ?_
  have aw := awake_r
  have v := valid4_r (xs := [x, y, z]) (k := 4) (by omega) (fun w hw => by simp at hw; rcases hw with rfl | rfl | rfl <;> assumption) (by simp)
  simp only [List.map_cons, List.map_nil] at v
  rw [show ((4 : Nat) : Int) = 4 from rfl] at v
  by_cases hv : ∀ w, w ∈ [x, y, z] → w.Sm 4
  · rw [dec_t hv] at v
    obtain ⟨A, eA, lA⟩ := (hv x (by simp)).q (by omega)
    obtain ⟨B, eB, lB⟩ := (hv y (by simp)).q (by omega)
    obtain ⟨C, eC, lC⟩ := (hv z (by simp)).q (by omega)
    rw [eA, eB, eC] at v ⊢
    have f1 := iRoot_r (A := A) (B := B) (C := C) (by omega) (by omega) (by omega)
    have f2 := root4_r (A := A) (B := B) (C := C) (by omega) (by omega) (by omega)
    have ex := exact_r' (A := A) (B := B) (C := C) (by omega) (by omega) (by omega)
    simp only [zQ_eq] at v
    simp only [zR_eq] at f1 f2 ex
    have se := same4_eq
    cases hi : roF A B C with
    | none =>
      rw [hi] at f1 f2
      have g := iSign_r 0 0
      simp -implicitDefEqProofs (disch := first | omega | (with_reducible apply Nat.le_trans; (focus (repeat' (first | with_reducible apply rb_mul | with_reducible apply rb_add | with_reducible apply rb_sub | with_reducible apply rb_neg | with_reducible apply rb_divInt | with_reducible apply rb_int | with_reducible apply lb_mul | with_reducible apply lb_add | with_reducible apply lb_sub | with_reducible apply lb_neg | exact Nat.le_refl _))); omega)) only [go_sem, aw, v, f1, f2, se, g, if_pos, if_neg, dec_t, dec_f, IntWalk.i64_in, IntWalk.u32_in, IntWalk.u64_in, beq_no]
    | some i =>
      have pr := roF_pr hi
      have zz := roF_zero hi
      have nz := roF_in hi
      obtain ⟨i1, i2⟩ := i
      obtain ⟨p1, p2, p3⟩ := pr
      dsimp only at p1 p2 p3 zz nz
      rw [hi] at f1 f2
      have g := iSign_r i1 i2
      by_cases kn : 0 < i1 ∨ i2 < 0 ∨ i1 = 0 ∧ i2 = 0
      · rw [dec_t kn] at g
        by_cases hB : B = 0
        · have s0 := sg_zero hB
          have iz := zz hB
          have e : (if 0 < i1 then 1 else if i2 < 0 then -1 else 0) = sg A := by
            rw [← exF_B0 A 0]
            obtain ⟨s, hs⟩ := bounds_any (C := 0) (by grind)
            exact sign_known (i := (i1, i2)) hs (fun t _ => by rw [show A + 0 * t = A by grind]; exact iz) kn
          rw [e] at g
          simp -implicitDefEqProofs (disch := first | omega | (with_reducible apply Nat.le_trans; (focus (repeat' (first | with_reducible apply rb_mul | with_reducible apply rb_add | with_reducible apply rb_sub | with_reducible apply rb_neg | with_reducible apply rb_divInt | with_reducible apply rb_int | with_reducible apply lb_mul | with_reducible apply lb_add | with_reducible apply lb_sub | with_reducible apply lb_neg | exact Nat.le_refl _))); omega)) only [go_sem, aw, v, f1, f2, se, g, s0, if_pos, if_neg, dec_t, dec_f, IntWalk.i64_in, IntWalk.u32_in, IntWalk.u64_in, beq_no]
        · have s0 : ¬ sg B = 0 := fun h => hB (sg_eq.1 h)
          obtain ⟨hC, s, hs, ht⟩ := nz hB
          have e := sign_known (i := (i1, i2)) (sqC_spec hs hC) ht kn
          dsimp only at e
          rw [e] at g
          simp -implicitDefEqProofs (disch := first | omega | (with_reducible apply Nat.le_trans; (focus (repeat' (first | with_reducible apply rb_mul | with_reducible apply rb_add | with_reducible apply rb_sub | with_reducible apply rb_neg | with_reducible apply rb_divInt | with_reducible apply rb_int | with_reducible apply lb_mul | with_reducible apply lb_add | with_reducible apply lb_sub | with_reducible apply lb_neg | exact Nat.le_refl _))); omega)) only [go_sem, aw, v, f1, f2, se, g, s0, ex, if_pos, if_neg, dec_t, dec_f, IntWalk.i64_in, IntWalk.u32_in, IntWalk.u64_in, beq_no]
      · rw [dec_f kn] at g
        simp -implicitDefEqProofs (disch := first | omega | (with_reducible apply Nat.le_trans; (focus (repeat' (first | with_reducible apply rb_mul | with_reducible apply rb_add | with_reducible apply rb_sub | with_reducible apply rb_neg | with_reducible apply rb_divInt | with_reducible apply rb_int | with_reducible apply lb_mul | with_reducible apply lb_add | with_reducible apply lb_sub | with_reducible apply lb_neg | exact Nat.le_refl _))); omega)) only [go_sem, aw, v, f1, f2, se, g, if_pos, if_neg, dec_t, dec_f, IntWalk.i64_in, IntWalk.u32_in, IntWalk.u64_in, beq_no]
  · rw [dec_f hv] at v
    simp only [RA.cs] at v ⊢
    simp -implicitDefEqProofs (disch := omega) only [go_sem, aw, v, if_pos, if_neg, dec_t, dec_f, IntWalk.i64_in, IntWalk.u32_in, IntWalk.u64_in, beq_no]
end Go.Pi
