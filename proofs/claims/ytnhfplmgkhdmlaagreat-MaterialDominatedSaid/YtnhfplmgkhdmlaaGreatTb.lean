/- What is proved: the reference: quotients, divisors and roots of integers. No conditions beyond those in the statements. -/
import Derived.Test.YtnhfplmgkhdmlaaGreatTa
import Derived.Test.YtnhfplmgkhdmlaaGreatNb
import Derived.Test.YtnhfplmgkhdmlaaGreatNa
set_option linter.unusedVariables false
set_option linter.unusedSimpArgs false
set_option maxHeartbeats 4000000
set_option maxRecDepth 8000
/-
The reference's long division: a digit.
-/
namespace Go.Pi
open Go Go.Proofs Num
theorem parts_inner {c : Code} (hc : lpAt Tryz.f142 1 = some c) {V R g q : Int} {e9 e11 e17 : Bool} {r : Nat → PV} {m : Nat → Blk} {nx : Nat}
    (h9 : r 9 = .sl e9 (us (lm V))) (h11 : r 11 = .sl e11 (us (lm R))) (h16 : r 16 = .int .u64 g) (h17 : r 17 = .sl e17 (us (lm (g * V))))
    (hV : 0 < V) (lV : ll V ≤ 900000000) (hR : 0 ≤ R) (lR : ll R ≤ 1000000000) (q0 : 0 ≤ q) (qg : q ≤ g) (gB : g < 1000000000) (q1 : q * V ≤ R) (q2 : R < (q + 1) * V) :
    ∀ L, execL Pq Xq sq cq 142 (.loop c) ⟨r, ⟨m, nx⟩⟩ = L → ∃ e st, L = some (e, st) ∧ e = .exit 2 ∧ st.M = ⟨m, nx⟩ ∧ st.r 8 = r 8 ∧ st.r 9 = r 9 ∧ st.r 10 = r 10 ∧ st.r 11 = r 11 ∧ st.r 12 = r 12 ∧ st.r 13 = r 13 ∧ st.r 14 = r 14 ∧ st.r 16 = .int .u64 q ∧ ∃ e17, st.r 17 = .sl e17 (us (lm (q * V))) := by
  obtain rfl := Option.some.inj (show some _ = some c from hc)
  intro L2 hL2
  obtain ⟨⟨e, st⟩, rfl, h⟩ := loop_of hL2 (fun i st => ∃ g e17, (i = g.toNat ∧ q ≤ g ∧ g < 1000000000) ∧ st.M = ⟨m, nx⟩ ∧ st.r 8 = r 8 ∧ st.r 9 = r 9 ∧ st.r 10 = r 10 ∧ st.r 11 = r 11 ∧ st.r 12 = r 12 ∧ st.r 13 = r 13 ∧ st.r 14 = r 14 ∧ st.r 16 = .int .u64 g ∧ st.r 17 = .sl e17 (us (lm (g * V))))
    (fun y => y.1 = .exit 2 ∧ y.2.M = ⟨m, nx⟩ ∧ y.2.r 8 = r 8 ∧ y.2.r 9 = r 9 ∧ y.2.r 10 = r 10 ∧ y.2.r 11 = r 11 ∧ y.2.r 12 = r 12 ∧ y.2.r 13 = r 13 ∧ y.2.r 14 = r 14 ∧ y.2.r 16 = .int .u64 q ∧ ∃ e17, y.2.r 17 = .sl e17 (us (lm (q * V))))
    ⟨g.toNat, g, e17, ⟨rfl, qg, gB⟩, rfl, rfl, rfl, rfl, rfl, rfl, rfl, rfl, h16, h17⟩ (by
    clear hL2 h16 h17 qg gB
    rintro i ⟨r', ⟨m', nx'⟩⟩ ⟨g, e17, ⟨rfl, g1, g2⟩, jM, j8, j9, j10, j11, j12, j13, j14, j16, j17⟩
    dsimp only at jM j8 j9 j10 j11 j12 j13 j14 j16 j17
    cases jM
    have lg := ll_mul g V
    have lg1 := ll_small (v := g) (by omega) g2
    have gV0 : 0 ≤ g * V := Int.mul_nonneg (by omega) (by omega)
    have co := compare'_r (g * V) R (by omega) (by omega)
    rw [vl_lm', vl_lm', if_neg (by omega), if_neg (by omega)] at co
    by_cases hgt : R < g * V
    · have sg : (g * V - R).sign = 1 := Int.sign_eq_one_of_pos (by omega)
      rw [sg] at co
      have gq : q < g := by
        by_cases h : q < g
        · exact h
        · have : g = q := by omega
          subst this; omega
      have e1 : g * V - V = (g - 1) * V := by rw [Int.sub_mul, Int.one_mul]
      have p1 : 0 ≤ (g - 1) * V := Int.mul_nonneg (by omega) (by omega)
      have v1 : vl (lm (g * V)) = g * V := by rw [vl_lm', if_neg (by omega)]
      have v2 : vl (lm V) = V := by rw [vl_lm', if_neg (by omega)]
      have mi := minus'_r (lm_lm (g * V)) (lm_lm V) (by rw [length_lm]; omega) (by omega) (lenle (by omega))
      rw [v1, v2, e1] at mi
      clear e1 v1 v2 p1 gV0 q1 q2 hgt sg lg lg1 lV lR
      simp -implicitDefEqProofs (maxSteps := 5000000) (disch := omega) only [go_sem, j8, j9, j10, j11, j12, j13, j14, j16, j17, h9, h11, co, mi, if_pos, if_neg, dec_t, dec_f, IntWalk.i64_in, IntWalk.u32_in, IntWalk.u64_in, beq_no]
      exact ⟨(g - 1).toNat, by omega, g - 1, _, ⟨rfl, by omega, by omega⟩, rfl, rfl⟩
    · have sg : ¬ 0 < (g * V - R).sign := by
        rcases Int.lt_trichotomy (g * V - R) 0 with h | h | h
        · rw [Int.sign_eq_neg_one_of_neg h]; omega
        · rw [h]; decide
        · omega
      have : g = q := by
        by_cases h : g = q
        · exact h
        · have : (q + 1) * V ≤ g * V := Int.mul_le_mul_of_nonneg_right (by omega) (by omega)
          omega
      subst this
      clear gV0 q1 q2 hgt lg lg1 lV lR
      simp -implicitDefEqProofs (maxSteps := 5000000) (disch := omega) only [go_sem, j8, j9, j10, j11, j12, j13, j14, j16, j17, h9, h11, co, sg, if_pos, if_neg, dec_t, dec_f, IntWalk.i64_in, IntWalk.u32_in, IntWalk.u64_in, beq_no]
      exact ⟨_, rfl⟩)
  exact ⟨e, st, rfl, h⟩
theorem parts_digit {c : Code} (hc : lpAt Tryz.f142 0 = some c) {V R v1 q : Int} {U t : List Int} {k n cu : Nat} {ex e9 e11 e13 : Bool} {x8 : PV} {r : Nat → PV} {m : Nat → Blk} {nx : Nat}
    (hm : m 0 = .live true 143 (us (List.replicate (k + 1) 0 ++ t))) (nx0 : 0 < nx) (h8 : r 8 = x8) (h9 : r 9 = .sl e9 (us (lm V))) (h10 : r 10 = .int .u64 v1) (h11 : r 11 = .sl e11 (us (lm R))) (h12 : r 12 = .ref 0 1 0 U.length cu ex) (h13 : r 13 = .sl e13 (us U)) (h14 : r 14 = .int .i64 k)
    (hU : Lm U) (lU : U.length ≤ 1000000000) (hk : k < U.length) (hl : U.length ≤ k + 1 + t.length) (hn : (lm V).length = n) (hv : (lm V).getD (n - 1) 0 = v1)
    (hV : 0 < V) (lV : ll V ≤ 900000000) (hR : 0 ≤ R) (hRV : R < V) (hq : q = (R * 1000000000 + U.getD k 0) / V) :
    ∃ st, execL Pq Xq sq cq 142 c ⟨r, ⟨m, nx⟩⟩ = some (.normal, st) ∧ 0 < st.M.nx ∧ st.M.m 0 = .live true 143 (us (List.replicate k 0 ++ (q :: t))) ∧ st.r 8 = x8 ∧ (st.r 9 = .sl e9 (us (lm V))) ∧ st.r 10 = .int .u64 v1 ∧ (∃ e11, st.r 11 = .sl e11 (us (lm (R * 1000000000 + U.getD k 0 - q * V)))) ∧ st.r 12 = .ref 0 1 0 U.length cu ex ∧ st.r 13 = .sl e13 (us U) ∧ st.r 14 = .int .i64 ((k : Int) - 1) := by
  have hx := hc
  obtain rfl := Option.some.inj (show some _ = some c from hc)
  have u0 := lm_getD hU k
  obtain ⟨q0, q9, q1, q2⟩ := step_q hV hR hRV u0 hq
  have f8 : (k : Int).toNat = k := by omega
  have tp := top_pos (show V ≠ 0 by omega)
  have tl := top_le (lm_lm V) tp.1
  have tb := lm_getD (lm_lm V) (n - 1)
  rw [hn, hv] at tp tl
  rw [hv] at tb
  rw [vl_lm', if_neg (by omega)] at tl
  rw [length_lm] at hn
  have mR := (lt_of_ll (Nat.le_refl (ll V))).1
  rw [hn] at mR
  generalize hX : R * 1000000000 + U.getD k 0 = X at *
  have x0 : 0 ≤ X := by omega
  have x1 : X < pw (n + 1) := by rw [pw_succ]; omega
  have lX : ll X ≤ n + 1 := ll_le x1 (by have := pw_pos (n + 1); omega)
  have lX' := length_lm X
  have hi := hi_two (lm_lm X) tp.1 (by omega)
  rw [vl_lm', if_neg (by omega)] at hi
  have d1 := lm_getD (lm_lm X) n
  have d2 := lm_getD (lm_lm X) (n - 1)
  have qh := q_le q1 (pw_pos (n - 1)) (by omega) tl hi q0
  have lR : ll R ≤ ll V := ll_mono (by omega)
  have lRl := length_lm R
  have tr := trim'_r (l := U.getD k 0 :: lm R) (lm_cons.2 ⟨u0, lm_lm R⟩) (by rw [List.length_cons]; omega)
  rw [show vl (U.getD k 0 :: lm R) = X by simp only [vl]; rw [vl_lm', if_neg (by omega)]; omega] at tr
  have by0 := fun (g : Int) (g0 : 0 ≤ g) (g1 : g < 1000000000) => by'_r (a := lm V) (n := g) (lm_lm V) (by rw [length_lm]; omega) g0 g1
  rw [vl_lm', if_neg (by omega)] at by0
  generalize hH : (lm X).getD n 0 * 1000000000 + (lm X).getD (n - 1) 0 = H at *
  clear hq hi tl x1 mR
  have hD : 0 ≤ H / v1 ∧ H / v1 ≤ H := ⟨Int.ediv_nonneg (by omega) (by omega), Int.ediv_le_self _ (by omega)⟩
  have e1 : 1 + (lm R).length = (U.getD k 0 :: lm R).length := by rw [List.length_cons]; omega
  have tk : ((U.getD k 0 :: lm R).drop 0).take (U.getD k 0 :: lm R).length = U.getD k 0 :: lm R := by rw [List.drop_zero, List.take_length]
  have lVl : (lm V).length = n := by rw [length_lm]; exact hn
  have f9 : (n : Int).toNat = n := by omega
  have f10 : ((n : Int) - 1).toNat = n - 1 := by omega
  have qV0 : 0 ≤ q * V := Int.mul_nonneg q0 (by omega)
  have wX : vl (lm X) = X := by rw [vl_lm', if_neg (by omega)]
  have wq : vl (lm (q * V)) = q * V := by rw [vl_lm', if_neg (by omega)]
  have mi := minus'_r (lm_lm X) (lm_lm (q * V)) (by omega) (by omega) (lenle (by omega))
  rw [wX, wq] at mi
  have ll1 : (List.replicate (k + 1) (0 : Int) ++ t).length = k + 1 + t.length := by rw [List.length_append, List.length_replicate]
  have f11 : (k : Int) + 1 - 1 = k := by omega
  rcases Classical.em (R = 0) with hR0 | hR0
  · subst hR0
    rw [lm_zero] at h11 tr
    simp only [us_nil, us_cons] at h11 tr
    have ap := fun (m : Nat → Blk) (nx : Nat) (e : TypeId) (x : Int) => show apY ⟨m, nx⟩ e ⟨.int .u32, 1, 4, [.int .u32 0]⟩ (.sl true [.int .u32 x]) (some []) = some (.sl true [.int .u32 x], ⟨m, nx + 1⟩) from rfl
    simp -implicitDefEqProofs (maxSteps := 5000000) (disch := omega) only [go_sem, hm, h8, h9, h10, h11, h12, h13, h14, f8, us_get, tr, ap, if_pos, if_neg, dec_t, dec_f, IntWalk.i64_in, IntWalk.u32_in, IntWalk.u64_in, beq_no]
    generalize hc1 : condE _ _ _ _ = c1
    obtain ⟨r1, m1, nx1, rfl, nx1p, hm1, a8, a9, a10, a11, a12, a13, a14, a15⟩ : ∃ r1 m1 nx1, c1 = some (.normal, ⟨r1, ⟨m1, nx1⟩⟩) ∧ 0 < nx1 ∧ m1 0 = m 0 ∧ r1 8 = x8 ∧ r1 9 = .sl e9 (us (lm V)) ∧ r1 10 = .int .u64 v1 ∧ r1 11 = .sl false (us (lm X)) ∧ r1 12 = .ref 0 1 0 U.length cu ex ∧ r1 13 = .sl e13 (us U) ∧ r1 14 = .int .i64 k ∧ r1 15 = .int .u64 ((lm X).getD n 0 * 1000000000) := by
      rw [← hc1]
      by_cases hh : n < (lm X).length
      · simp -implicitDefEqProofs (maxSteps := 5000000) (disch := omega) only [go_sem, h9, lVl, f9, us_get, if_pos, if_neg, dec_t, dec_f, IntWalk.i64_in, IntWalk.u32_in, IntWalk.u64_in, beq_no]
        exact ⟨_, _, _, rfl, by omega, by simp -implicitDefEqProofs (maxSteps := 5000000) (disch := omega) only [go_sem, if_pos, if_neg, dec_t, dec_f, IntWalk.i64_in, IntWalk.u32_in, IntWalk.u64_in, beq_no], by simp -implicitDefEqProofs only [go_sem, h8], by simp -implicitDefEqProofs only [go_sem, h9], by simp -implicitDefEqProofs only [go_sem, h10], by simp -implicitDefEqProofs only [go_sem], by simp -implicitDefEqProofs only [go_sem, h12], by simp -implicitDefEqProofs only [go_sem, h13], by simp -implicitDefEqProofs only [go_sem, h14], by simp -implicitDefEqProofs only [go_sem]⟩
      · have g0 := getD_over (l := lm X) (i := n) (by omega)
        simp -implicitDefEqProofs (maxSteps := 5000000) (disch := omega) only [go_sem, lVl, if_pos, if_neg, dec_t, dec_f, IntWalk.i64_in, IntWalk.u32_in, IntWalk.u64_in, beq_no]
        exact ⟨_, _, _, rfl, by omega, by simp -implicitDefEqProofs (maxSteps := 5000000) (disch := omega) only [go_sem, if_pos, if_neg, dec_t, dec_f, IntWalk.i64_in, IntWalk.u32_in, IntWalk.u64_in, beq_no], by simp -implicitDefEqProofs only [go_sem, h8], by simp -implicitDefEqProofs only [go_sem, h9], by simp -implicitDefEqProofs only [go_sem, h10], by simp -implicitDefEqProofs only [go_sem], by simp -implicitDefEqProofs only [go_sem, h12], by simp -implicitDefEqProofs only [go_sem, h13], by simp -implicitDefEqProofs only [go_sem, h14], by simp -implicitDefEqProofs only [go_sem, g0, Int.zero_mul]⟩
    rw [hm] at hm1
    clear hc1
    simp -implicitDefEqProofs (maxSteps := 5000000) (disch := omega) only [go_sem, a9, a11, lVl, if_pos, if_neg, dec_t, dec_f, IntWalk.i64_in, IntWalk.u32_in, IntWalk.u64_in, beq_no]
    generalize hc1 : condE _ _ _ _ = c1
    obtain ⟨r2, rfl, b8, b9, b10, b11, b12, b13, b14, b15⟩ : ∃ r2, c1 = some (.normal, ⟨r2, ⟨m1, nx1⟩⟩) ∧ r2 8 = x8 ∧ r2 9 = .sl e9 (us (lm V)) ∧ r2 10 = .int .u64 v1 ∧ r2 11 = .sl false (us (lm X)) ∧ r2 12 = .ref 0 1 0 U.length cu ex ∧ r2 13 = .sl e13 (us U) ∧ r2 14 = .int .i64 k ∧ r2 15 = .int .u64 H := by
      rw [← hc1]
      by_cases hh : n ≤ (lm X).length
      · simp -implicitDefEqProofs (maxSteps := 5000000) (disch := omega) only [go_sem, a9, a11, a15, lVl, f10, us_get, hH, if_pos, if_neg, dec_t, dec_f, IntWalk.i64_in, IntWalk.u32_in, IntWalk.u64_in, beq_no]
        exact ⟨_, rfl, by simp -implicitDefEqProofs only [go_sem, a8], by simp -implicitDefEqProofs only [go_sem, a9], by simp -implicitDefEqProofs only [go_sem, a10], by simp -implicitDefEqProofs only [go_sem, a11], by simp -implicitDefEqProofs only [go_sem, a12], by simp -implicitDefEqProofs only [go_sem, a13], by simp -implicitDefEqProofs only [go_sem, a14], by simp -implicitDefEqProofs only [go_sem, hH]⟩
      · have g0 := getD_over (l := lm X) (i := n) (by omega)
        have g1 := getD_over (l := lm X) (i := n - 1) (by omega)
        simp -implicitDefEqProofs (maxSteps := 5000000) (disch := omega) only [go_sem, lVl, if_pos, if_neg, dec_t, dec_f, IntWalk.i64_in, IntWalk.u32_in, IntWalk.u64_in, beq_no]
        exact ⟨_, rfl, by simp -implicitDefEqProofs only [go_sem, a8], by simp -implicitDefEqProofs only [go_sem, a9], by simp -implicitDefEqProofs only [go_sem, a10], by simp -implicitDefEqProofs only [go_sem, a11], by simp -implicitDefEqProofs only [go_sem, a12], by simp -implicitDefEqProofs only [go_sem, a13], by simp -implicitDefEqProofs only [go_sem, a14], by simp -implicitDefEqProofs only [go_sem, a15]; rw [← hH, g0, g1]; rfl⟩
    clear hc1
    simp -implicitDefEqProofs (maxSteps := 5000000) (disch := omega) only [go_sem, b15, b10, Int.tdiv_eq_ediv_of_nonneg, if_pos, if_neg, dec_t, dec_f, IntWalk.i64_in, IntWalk.u32_in, IntWalk.u64_in, beq_no]
    generalize hc1 : condE _ _ _ _ = c1
    obtain ⟨r3, g, rfl, ⟨gq, gB⟩, c8, c9, c10, c11, c12, c13, c14, c16⟩ : ∃ r3 g, c1 = some (.normal, ⟨r3, ⟨m1, nx1⟩⟩) ∧ (q ≤ g ∧ g < 1000000000) ∧ r3 8 = x8 ∧ r3 9 = .sl e9 (us (lm V)) ∧ r3 10 = .int .u64 v1 ∧ r3 11 = .sl false (us (lm X)) ∧ r3 12 = .ref 0 1 0 U.length cu ex ∧ r3 13 = .sl e13 (us U) ∧ r3 14 = .int .i64 k ∧ r3 16 = .int .u64 g := by
      rw [← hc1]
      by_cases hh : 999999999 < H / v1
      · simp -implicitDefEqProofs (maxSteps := 5000000) (disch := omega) only [go_sem, if_pos, if_neg, dec_t, dec_f, IntWalk.i64_in, IntWalk.u32_in, IntWalk.u64_in, beq_no]
        exact ⟨_, 999999999, rfl, ⟨by omega, by omega⟩, by simp -implicitDefEqProofs only [go_sem, b8], by simp -implicitDefEqProofs only [go_sem, b9], by simp -implicitDefEqProofs only [go_sem, b10], by simp -implicitDefEqProofs only [go_sem, b11], by simp -implicitDefEqProofs only [go_sem, b12], by simp -implicitDefEqProofs only [go_sem, b13], by simp -implicitDefEqProofs only [go_sem, b14], by simp -implicitDefEqProofs only [go_sem]⟩
      · simp -implicitDefEqProofs (maxSteps := 5000000) (disch := omega) only [go_sem, if_pos, if_neg, dec_t, dec_f, IntWalk.i64_in, IntWalk.u32_in, IntWalk.u64_in, beq_no]
        exact ⟨_, H / v1, rfl, ⟨qh, by omega⟩, by simp -implicitDefEqProofs only [go_sem, b8], by simp -implicitDefEqProofs only [go_sem, b9], by simp -implicitDefEqProofs only [go_sem, b10], by simp -implicitDefEqProofs only [go_sem, b11], by simp -implicitDefEqProofs only [go_sem, b12], by simp -implicitDefEqProofs only [go_sem, b13], by simp -implicitDefEqProofs only [go_sem, b14], by simp -implicitDefEqProofs only [go_sem]⟩
    clear hc1
    have by0 := by0 g (by omega) gB
    rw [Int.mul_comm] at by0
    simp -implicitDefEqProofs (maxSteps := 5000000) (disch := omega) only [go_sem, c9, c16, by0, if_pos, if_neg, dec_t, dec_f, IntWalk.i64_in, IntWalk.u32_in, IntWalk.u64_in, beq_no]
    generalize hL2 : execL _ _ _ _ _ (.loop _) _ = L2
    obtain ⟨e, st, rfl, rfl, sM, d8, d9, d10, d11, d12, d13, d14, d16, e17, d17⟩ := parts_inner (c := _) rfl (V := V) (R := X) (g := g) (q := q) (by simp -implicitDefEqProofs only [go_sem, c9]; rfl) (by simp -implicitDefEqProofs only [go_sem, c11]; rfl) (by simp -implicitDefEqProofs only [go_sem, c16]) (by simp -implicitDefEqProofs only [go_sem]; rfl) hV lV x0 (by omega) q0 gq gB q1 q2 _ hL2
    obtain ⟨r4, M4⟩ := st
    dsimp only at sM d8 d9 d10 d11 d12 d13 d14 d16 d17
    subst sM
    simp -implicitDefEqProofs only [go_sem, c8] at d8
    simp -implicitDefEqProofs only [go_sem, c9] at d9
    simp -implicitDefEqProofs only [go_sem, c10] at d10
    simp -implicitDefEqProofs only [go_sem, c11] at d11
    simp -implicitDefEqProofs only [go_sem, c12] at d12
    simp -implicitDefEqProofs only [go_sem, c13] at d13
    simp -implicitDefEqProofs only [go_sem, c14] at d14
    simp -implicitDefEqProofs (maxSteps := 5000000) (disch := omega) only [go_sem, hm1, d8, d9, d10, d11, d12, d13, d14, d16, d17, mi, f8, ll1, us_set, rep_set_back, f11, if_pos, if_neg, dec_t, dec_f, IntWalk.i64_in, IntWalk.u32_in, IntWalk.u64_in, beq_no]
    exact ⟨_, rfl, nx1p, by simp -implicitDefEqProofs only [go_sem], by simp -implicitDefEqProofs only [go_sem, d8], by simp -implicitDefEqProofs only [go_sem, d9], by simp -implicitDefEqProofs only [go_sem, d10], ⟨_, by simp -implicitDefEqProofs only [go_sem]; rfl⟩, by simp -implicitDefEqProofs only [go_sem, d12], by simp -implicitDefEqProofs only [go_sem, d13], by simp -implicitDefEqProofs only [go_sem]⟩
  · have lR0 : lm R ≠ [] := fun e => hR0 (lm_eq_nil.1 e)
    have ap := fun (m : Nat → Blk) (nx : Nat) (e : TypeId) => apY_full (m := m) (nx := nx) (e := e) (l := [U.getD k 0]) (xs := lm R) (z := [.int .u32 0]) lR0 rfl (by simp; omega)
    simp only [List.singleton_append, List.length_singleton, e1, show us [U.getD k 0] = [.int .u32 (U.getD k 0)] from rfl] at ap
    simp -implicitDefEqProofs (maxSteps := 5000000) (disch := omega) only [go_sem, hm, h8, h9, h10, h11, h12, h13, h14, f8, us_get, tr, ap, gd_us, elems_us, tk, List.take_length, if_pos, if_neg, dec_t, dec_f, IntWalk.i64_in, IntWalk.u32_in, IntWalk.u64_in, beq_no]
    generalize hc1 : condE _ _ _ _ = c1
    obtain ⟨r1, m1, nx1, rfl, nx1p, hm1, a8, a9, a10, a11, a12, a13, a14, a15⟩ : ∃ r1 m1 nx1, c1 = some (.normal, ⟨r1, ⟨m1, nx1⟩⟩) ∧ 0 < nx1 ∧ m1 0 = m 0 ∧ r1 8 = x8 ∧ r1 9 = .sl e9 (us (lm V)) ∧ r1 10 = .int .u64 v1 ∧ r1 11 = .sl false (us (lm X)) ∧ r1 12 = .ref 0 1 0 U.length cu ex ∧ r1 13 = .sl e13 (us U) ∧ r1 14 = .int .i64 k ∧ r1 15 = .int .u64 ((lm X).getD n 0 * 1000000000) := by
      rw [← hc1]
      by_cases hh : n < (lm X).length
      · simp -implicitDefEqProofs (maxSteps := 5000000) (disch := omega) only [go_sem, h9, lVl, f9, us_get, if_pos, if_neg, dec_t, dec_f, IntWalk.i64_in, IntWalk.u32_in, IntWalk.u64_in, beq_no]
        exact ⟨_, _, _, rfl, by omega, by simp -implicitDefEqProofs (maxSteps := 5000000) (disch := omega) only [go_sem, if_pos, if_neg, dec_t, dec_f, IntWalk.i64_in, IntWalk.u32_in, IntWalk.u64_in, beq_no], by simp -implicitDefEqProofs only [go_sem, h8], by simp -implicitDefEqProofs only [go_sem, h9], by simp -implicitDefEqProofs only [go_sem, h10], by simp -implicitDefEqProofs only [go_sem], by simp -implicitDefEqProofs only [go_sem, h12], by simp -implicitDefEqProofs only [go_sem, h13], by simp -implicitDefEqProofs only [go_sem, h14], by simp -implicitDefEqProofs only [go_sem]⟩
      · have g0 := getD_over (l := lm X) (i := n) (by omega)
        simp -implicitDefEqProofs (maxSteps := 5000000) (disch := omega) only [go_sem, lVl, if_pos, if_neg, dec_t, dec_f, IntWalk.i64_in, IntWalk.u32_in, IntWalk.u64_in, beq_no]
        exact ⟨_, _, _, rfl, by omega, by simp -implicitDefEqProofs (maxSteps := 5000000) (disch := omega) only [go_sem, if_pos, if_neg, dec_t, dec_f, IntWalk.i64_in, IntWalk.u32_in, IntWalk.u64_in, beq_no], by simp -implicitDefEqProofs only [go_sem, h8], by simp -implicitDefEqProofs only [go_sem, h9], by simp -implicitDefEqProofs only [go_sem, h10], by simp -implicitDefEqProofs only [go_sem], by simp -implicitDefEqProofs only [go_sem, h12], by simp -implicitDefEqProofs only [go_sem, h13], by simp -implicitDefEqProofs only [go_sem, h14], by simp -implicitDefEqProofs only [go_sem, g0, Int.zero_mul]⟩
    rw [hm] at hm1
    clear hc1
    simp -implicitDefEqProofs (maxSteps := 5000000) (disch := omega) only [go_sem, a9, a11, lVl, if_pos, if_neg, dec_t, dec_f, IntWalk.i64_in, IntWalk.u32_in, IntWalk.u64_in, beq_no]
    generalize hc1 : condE _ _ _ _ = c1
    obtain ⟨r2, rfl, b8, b9, b10, b11, b12, b13, b14, b15⟩ : ∃ r2, c1 = some (.normal, ⟨r2, ⟨m1, nx1⟩⟩) ∧ r2 8 = x8 ∧ r2 9 = .sl e9 (us (lm V)) ∧ r2 10 = .int .u64 v1 ∧ r2 11 = .sl false (us (lm X)) ∧ r2 12 = .ref 0 1 0 U.length cu ex ∧ r2 13 = .sl e13 (us U) ∧ r2 14 = .int .i64 k ∧ r2 15 = .int .u64 H := by
      rw [← hc1]
      by_cases hh : n ≤ (lm X).length
      · simp -implicitDefEqProofs (maxSteps := 5000000) (disch := omega) only [go_sem, a9, a11, a15, lVl, f10, us_get, hH, if_pos, if_neg, dec_t, dec_f, IntWalk.i64_in, IntWalk.u32_in, IntWalk.u64_in, beq_no]
        exact ⟨_, rfl, by simp -implicitDefEqProofs only [go_sem, a8], by simp -implicitDefEqProofs only [go_sem, a9], by simp -implicitDefEqProofs only [go_sem, a10], by simp -implicitDefEqProofs only [go_sem, a11], by simp -implicitDefEqProofs only [go_sem, a12], by simp -implicitDefEqProofs only [go_sem, a13], by simp -implicitDefEqProofs only [go_sem, a14], by simp -implicitDefEqProofs only [go_sem, hH]⟩
      · have g0 := getD_over (l := lm X) (i := n) (by omega)
        have g1 := getD_over (l := lm X) (i := n - 1) (by omega)
        simp -implicitDefEqProofs (maxSteps := 5000000) (disch := omega) only [go_sem, lVl, if_pos, if_neg, dec_t, dec_f, IntWalk.i64_in, IntWalk.u32_in, IntWalk.u64_in, beq_no]
        exact ⟨_, rfl, by simp -implicitDefEqProofs only [go_sem, a8], by simp -implicitDefEqProofs only [go_sem, a9], by simp -implicitDefEqProofs only [go_sem, a10], by simp -implicitDefEqProofs only [go_sem, a11], by simp -implicitDefEqProofs only [go_sem, a12], by simp -implicitDefEqProofs only [go_sem, a13], by simp -implicitDefEqProofs only [go_sem, a14], by simp -implicitDefEqProofs only [go_sem, a15]; rw [← hH, g0, g1]; rfl⟩
    clear hc1
    simp -implicitDefEqProofs (maxSteps := 5000000) (disch := omega) only [go_sem, b15, b10, Int.tdiv_eq_ediv_of_nonneg, if_pos, if_neg, dec_t, dec_f, IntWalk.i64_in, IntWalk.u32_in, IntWalk.u64_in, beq_no]
    generalize hc1 : condE _ _ _ _ = c1
    obtain ⟨r3, g, rfl, ⟨gq, gB⟩, c8, c9, c10, c11, c12, c13, c14, c16⟩ : ∃ r3 g, c1 = some (.normal, ⟨r3, ⟨m1, nx1⟩⟩) ∧ (q ≤ g ∧ g < 1000000000) ∧ r3 8 = x8 ∧ r3 9 = .sl e9 (us (lm V)) ∧ r3 10 = .int .u64 v1 ∧ r3 11 = .sl false (us (lm X)) ∧ r3 12 = .ref 0 1 0 U.length cu ex ∧ r3 13 = .sl e13 (us U) ∧ r3 14 = .int .i64 k ∧ r3 16 = .int .u64 g := by
      rw [← hc1]
      by_cases hh : 999999999 < H / v1
      · simp -implicitDefEqProofs (maxSteps := 5000000) (disch := omega) only [go_sem, if_pos, if_neg, dec_t, dec_f, IntWalk.i64_in, IntWalk.u32_in, IntWalk.u64_in, beq_no]
        exact ⟨_, 999999999, rfl, ⟨by omega, by omega⟩, by simp -implicitDefEqProofs only [go_sem, b8], by simp -implicitDefEqProofs only [go_sem, b9], by simp -implicitDefEqProofs only [go_sem, b10], by simp -implicitDefEqProofs only [go_sem, b11], by simp -implicitDefEqProofs only [go_sem, b12], by simp -implicitDefEqProofs only [go_sem, b13], by simp -implicitDefEqProofs only [go_sem, b14], by simp -implicitDefEqProofs only [go_sem]⟩
      · simp -implicitDefEqProofs (maxSteps := 5000000) (disch := omega) only [go_sem, if_pos, if_neg, dec_t, dec_f, IntWalk.i64_in, IntWalk.u32_in, IntWalk.u64_in, beq_no]
        exact ⟨_, H / v1, rfl, ⟨qh, by omega⟩, by simp -implicitDefEqProofs only [go_sem, b8], by simp -implicitDefEqProofs only [go_sem, b9], by simp -implicitDefEqProofs only [go_sem, b10], by simp -implicitDefEqProofs only [go_sem, b11], by simp -implicitDefEqProofs only [go_sem, b12], by simp -implicitDefEqProofs only [go_sem, b13], by simp -implicitDefEqProofs only [go_sem, b14], by simp -implicitDefEqProofs only [go_sem]⟩
    clear hc1
    have by0 := by0 g (by omega) gB
    rw [Int.mul_comm] at by0
    simp -implicitDefEqProofs (maxSteps := 5000000) (disch := omega) only [go_sem, c9, c16, by0, if_pos, if_neg, dec_t, dec_f, IntWalk.i64_in, IntWalk.u32_in, IntWalk.u64_in, beq_no]
    generalize hL2 : execL _ _ _ _ _ (.loop _) _ = L2
    obtain ⟨e, st, rfl, rfl, sM, d8, d9, d10, d11, d12, d13, d14, d16, e17, d17⟩ := parts_inner (c := _) rfl (V := V) (R := X) (g := g) (q := q) (by simp -implicitDefEqProofs only [go_sem, c9]; rfl) (by simp -implicitDefEqProofs only [go_sem, c11]; rfl) (by simp -implicitDefEqProofs only [go_sem, c16]) (by simp -implicitDefEqProofs only [go_sem]; rfl) hV lV x0 (by omega) q0 gq gB q1 q2 _ hL2
    obtain ⟨r4, M4⟩ := st
    dsimp only at sM d8 d9 d10 d11 d12 d13 d14 d16 d17
    subst sM
    simp -implicitDefEqProofs only [go_sem, c8] at d8
    simp -implicitDefEqProofs only [go_sem, c9] at d9
    simp -implicitDefEqProofs only [go_sem, c10] at d10
    simp -implicitDefEqProofs only [go_sem, c11] at d11
    simp -implicitDefEqProofs only [go_sem, c12] at d12
    simp -implicitDefEqProofs only [go_sem, c13] at d13
    simp -implicitDefEqProofs only [go_sem, c14] at d14
    simp -implicitDefEqProofs (maxSteps := 5000000) (disch := omega) only [go_sem, hm1, d8, d9, d10, d11, d12, d13, d14, d16, d17, mi, f8, ll1, us_set, rep_set_back, f11, if_pos, if_neg, dec_t, dec_f, IntWalk.i64_in, IntWalk.u32_in, IntWalk.u64_in, beq_no]
    exact ⟨_, rfl, nx1p, by simp -implicitDefEqProofs only [go_sem], by simp -implicitDefEqProofs only [go_sem, d8], by simp -implicitDefEqProofs only [go_sem, d9], by simp -implicitDefEqProofs only [go_sem, d10], ⟨_, by simp -implicitDefEqProofs only [go_sem]; rfl⟩, by simp -implicitDefEqProofs only [go_sem, d12], by simp -implicitDefEqProofs only [go_sem, d13], by simp -implicitDefEqProofs only [go_sem]⟩
end Go.Pi

set_option linter.unusedVariables false
set_option linter.unusedSimpArgs false
set_option maxHeartbeats 4000000
set_option maxRecDepth 8000
/-
The reference's long division.
-/
namespace Go.Pi
open Go Go.Proofs Num
theorem parts_last {c : Code} (hc : lpAt Tryz.f142 2 = some c) {a : List Int} {b : Int} {id : Nat} {ea : Bool} {x12 : PV} {B0 : Blk} {r : Nat → PV} {m : Nat → Blk} {nx : Nat} (hid : 0 ≠ id) (hm0 : m 0 = B0) (hm : m id = .live true 143 (us (List.replicate a.length 0)))
    (h8 : r 8 = .int .u32 b) (h11 : r 11 = .sl ea (us a)) (h12 : r 12 = x12) (h18 : r 18 = .int .u64 0) (h19 : r 19 = .ref id 1 0 a.length a.length true) (h20 : r 20 = .int .i64 ((a.length : Int) - 1))
    (ha : Lm a) (hna : a.length ≤ 1099511627776) (hb0 : 0 < b) (hb1 : b < 1000000000) :
    ∀ L, execL Pq Xq sq cq 142 (.loop c) ⟨r, ⟨m, nx⟩⟩ = L → ∃ e st, L = some (e, st) ∧ e = .exit 4 ∧ st.M.m 0 = B0 ∧ st.r 12 = x12 ∧ st.r 19 = .ref id 1 0 a.length a.length true ∧ st.M.m id = .live true 143 (us (dg a.length (vl a / b))) := by
  obtain rfl := Option.some.inj (show some _ = some c from hc)
  intro L hL
  obtain ⟨⟨e, ⟨r, ⟨m, nx⟩⟩⟩, rfl, rfl, hm0, h12, h19, ⟨o, c, ho, hol, hc0, hv, hm⟩⟩ := loop_of hL (fun k s => s.M.m 0 = B0 ∧ s.r 12 = x12 ∧ s.r 19 = .ref id 1 0 a.length a.length true ∧ ∃ o c, (k ≤ a.length ∧ Lm o ∧ o.length = a.length - k ∧ (0 ≤ c ∧ c < b) ∧ vl (a.drop k) = vl o * b + c) ∧ s.M.m id = .live true 143 (us (List.replicate k 0 ++ o)) ∧
      s.r 18 = .int .u64 c ∧ s.r 20 = .int .i64 ((k : Int) - 1) ∧ s.r 11 = .sl ea (us a) ∧ s.r 8 = .int .u32 b)
    (fun y => y.1 = .exit 4 ∧ y.2.M.m 0 = B0 ∧ y.2.r 12 = x12 ∧ y.2.r 19 = .ref id 1 0 a.length a.length true ∧ ∃ o c, Lm o ∧ o.length = a.length ∧ (0 ≤ c ∧ c < b) ∧ vl a = vl o * b + c ∧ y.2.M.m id = .live true 143 (us o)) ⟨a.length, hm0, h12, h19, [], 0, by
      refine ⟨⟨Nat.le_refl _, lm_nil, by simp, by omega, by simp [vl]⟩, ?_, h18, h20, h11, h8⟩
      rw [List.append_nil]; exact hm⟩ (by
      clear hL hm0 h12 h19 hm h18 h20 h11 h8
      rintro k ⟨r, ⟨m, nx⟩⟩ ⟨hm0, h12, h19, o, c, ⟨hk, ho, hol, hc0, hv⟩, hm, h18, h20, h11, h8⟩
      dsimp only at hm0 h12 h19 hm h18 h20 h11 h8
      by_cases hk0 : 0 < k
      · have e1 : ((k : Int) - 1).toNat = k - 1 := by omega
        have b1 := lm_getD ha (k - 1)
        have v1 := vl_drop_succ a (k - 1) (by omega)
        rw [show k - 1 + 1 = k by omega] at v1
        have st : ∀ x : Int, (List.replicate k 0 ++ o).set (k - 1) x = List.replicate (k - 1) 0 ++ (x :: o) := fun x => by
          have h2 : List.replicate k (0 : Int) = List.replicate (k - 1) 0 ++ [0] := by
            rw [← List.replicate_succ', show k - 1 + 1 = k by omega]
          rw [h2, List.append_assoc, List.set_append_right (h := by simp), List.length_replicate, Nat.sub_self]; rfl
        have ll : (List.replicate k (0 : Int) ++ o).length = a.length := by rw [List.length_append, List.length_replicate]; omega
        have t0 : 0 ≤ c * 1000000000 + a.getD (k - 1) 0 := by omega
        have t1 : c * 1000000000 + a.getD (k - 1) 0 < b * 1000000000 := by omega
        have t2 : 0 ≤ (c * 1000000000 + a.getD (k - 1) 0) / b := Int.ediv_nonneg t0 (by omega)
        have t3 : (c * 1000000000 + a.getD (k - 1) 0) / b < 1000000000 := Int.ediv_lt_of_lt_mul hb0 (by omega)
        have t4 : 0 ≤ (c * 1000000000 + a.getD (k - 1) 0) % b := Int.emod_nonneg _ (by omega)
        have t5 : (c * 1000000000 + a.getD (k - 1) 0) % b < b := Int.emod_lt_of_pos _ hb0
        have t6 := Int.mul_ediv_add_emod (c * 1000000000 + a.getD (k - 1) 0) b
        have bz : ¬ b = 0 := by omega
        simp -implicitDefEqProofs (maxSteps := 5000000) (disch := omega) only [go_sem, hm0, h12, h19, hm, h18, h20, h11, h8, e1, us_get, us_set, st, ll, Int.tmod_eq_emod_of_nonneg, Int.tdiv_eq_ediv_of_nonneg, bz, if_pos, if_neg, dec_t, dec_f, IntWalk.i64_in, IntWalk.u32_in, IntWalk.u64_in, beq_no]
        refine ⟨k - 1, by omega, _, _, ⟨by omega, lm_cons.2 ⟨⟨t2, t3⟩, ho⟩, by simp only [List.length_cons]; omega, ⟨t4, t5⟩, ?_⟩, rfl, rfl, by congr 1; omega⟩
        rw [v1, hv]
        simp only [vl]
        grind
      · have : k = 0 := by omega
        subst this
        simp -implicitDefEqProofs (maxSteps := 5000000) (disch := omega) only [go_sem, hm0, h12, h19, hm, h18, h20, h11, h8, if_pos, if_neg, dec_t, dec_f, IntWalk.i64_in, IntWalk.u32_in, IntWalk.u64_in, beq_no]
        exact ⟨o, c, ho, by omega, hc0, by rw [← hv, List.drop_zero], by rw [List.replicate_zero, List.nil_append]⟩)
  refine ⟨_, _, rfl, rfl, hm0, h12, h19, ?_⟩
  have d1 : vl a / b = vl o := by
    rw [hv, Int.mul_comm, Int.mul_add_ediv_left _ _ (by omega), Int.ediv_eq_zero_of_lt hc0.1 hc0.2]; omega
  rw [d1, ← dg_of ho hol rfl]
  exact hm
theorem parts_long {x y : Int} (hx : 0 ≤ x) (hy : 0 < y) (lx : ll x ≤ 800000000) (ly : ll y ≤ 800000000) (h : ¬ (ll x ≤ 2 ∧ ll y ≤ 2)) :
    Rq 142 [.sl false (us (lm x)), .sl false (us (lm y))] = some (.tup [.sl false (us (lm (x / y))), .sl false (us (lm (x % y)))]) := by
  refine RL_of (f := 142) (fn := Tryz.f142) Tryz.func142 rfl rfl rfl (Nat.le_of_ble_eq_true rfl) ?_
  have lX := length_lm x
  have lY := length_lm y
  have wx : vl (lm x) = x := by rw [vl_lm', if_neg (by omega)]
  have wy : vl (lm y) = y := by rw [vl_lm', if_neg (by omega)]
  have tp := top_pos (show y ≠ 0 by omega)
  have tb := lm_getD (lm_lm y) ((lm y).length - 1)
  rw [lY] at tp tb
  generalize hb1 : (lm y).getD (ll y - 1) 0 = b1 at *
  generalize hs : 1000000000 / (b1 + 1) = s
  obtain ⟨s1, s2, s3, s4⟩ := norm_ok (s := s) tp.2 tb.2 hs.symm
  have f1 : ((ll y : Int) - 1).toNat = ll y - 1 := by omega
  have byY := by'_r (a := lm y) (n := s) (lm_lm y) (by omega) (by omega) (by omega)
  have byX := by'_r (a := lm x) (n := s) (lm_lm x) (by omega) (by omega) (by omega)
  rw [wy] at byY
  rw [wx] at byX
  have hV : 0 < y * s := Int.mul_pos hy (by omega)
  have hU0 : 0 ≤ x * s := Int.mul_nonneg hx (by omega)
  have lV := ll_mul y s
  have lU := ll_mul x s
  have ls := ll_small (v := s) (by omega) (by omega)
  have tV := top_pos (show y * s ≠ 0 by omega)
  have lVl := length_lm (y * s)
  have lUl := length_lm (x * s)
  rw [lVl] at tV
  have f2 : ((ll (y * s) : Int) - 1).toNat = ll (y * s) - 1 := by omega
  have f3 : ((ll x : Int) + 1).toNat = ll x + 1 := by omega
  have f4 : (ll (x * s) : Int).toNat = ll (x * s) := by omega
  have tvb := lm_getD (lm_lm (y * s)) (ll (y * s) - 1)
  have wU : vl (lm (x * s)) = x * s := by rw [vl_lm', if_neg (by omega)]
  have qo := fun (u q : Int) => quot_of (a := x) (b := y) (s := s) (u := u) (q := q) (by omega)
  generalize hvt : (lm (y * s)).getD (ll (y * s) - 1) 0 = v1 at *
  have hvt' : (lm (y * s)).getD ((lm (y * s)).length - 1) 0 = v1 := by rw [lVl]; exact hvt
  have dg0 := fun (k : Nat) (u t : List Int) (R q : Int) (ex e9 e11 e13 : Bool) (r : Nat → PV) (m : Nat → Blk) (nx : Nat) hm nx0 h8 h9 h10 h11 h12 h13 h14 hk hl hR hRV hq => parts_digit (c := _) rfl (V := y * s) (R := R) (v1 := v1) (q := q) (U := lm (x * s)) (t := t) (k := k) (n := (lm (y * s)).length) (cu := ll x + 1) (ex := ex) (e9 := e9) (e11 := e11) (e13 := e13) (x8 := .int .u32 s) (r := r) (m := m) (nx := nx) hm nx0 h8 h9 h10 h11 h12 h13 h14 (lm_lm _) (by omega) hk hl rfl hvt' hV (by omega) hR hRV hq
  generalize y * s = V at *
  generalize hUx : x * s = U at *
  by_cases h1 : ll x ≤ 2
  · simp -implicitDefEqProofs (maxSteps := 5000000) (disch := omega) only [go_sem, lY, lX, h1, f1, f2, f3, f4, hb1, hs, us_get, Int.tdiv_eq_ediv_of_nonneg, byY, byX, zeros_one, lVl, lUl, hvt, if_pos, if_neg, dec_t, dec_f, IntWalk.i64_in, IntWalk.u32_in, IntWalk.u64_in, beq_no]
    generalize hL : execL _ _ _ _ _ (.loop _) _ = L
    obtain ⟨⟨e, ⟨r, ⟨m, nx⟩⟩⟩, rfl, rfl, nx0, h8, ⟨qs, R, e11, ⟨hq1, hq2, hR0, hR1, hv⟩, hm, h11, h12⟩⟩ := loop_of hL (fun k st => 0 < st.M.nx ∧ st.r 8 = .int .u32 s ∧ st.r 9 = .sl false (us (lm V)) ∧ st.r 10 = .int .u64 v1 ∧ st.r 13 = .sl false (us (lm U)) ∧ st.r 14 = .int .i64 ((k : Int) - 1) ∧ ∃ qs R e11, (k ≤ ll U ∧ Lm qs ∧ k + qs.length = ll U ∧ 0 ≤ R ∧ R < V ∧ vl ((lm U).drop k) = vl qs * V + R) ∧ st.M.m 0 = .live true 143 (us (List.replicate k 0 ++ (qs ++ List.replicate (ll x + 1 - ll U) 0))) ∧ st.r 11 = .sl e11 (us (lm R)) ∧ st.r 12 = .ref 0 1 0 (ll U) (ll x + 1) true)
      (fun z => z.1 = .exit 0 ∧ 0 < z.2.M.nx ∧ z.2.r 8 = .int .u32 s ∧ ∃ qs R e11, (Lm qs ∧ qs.length = ll U ∧ 0 ≤ R ∧ R < V ∧ U = vl qs * V + R) ∧ z.2.M.m 0 = .live true 143 (us (qs ++ List.replicate (ll x + 1 - ll U) 0)) ∧ z.2.r 11 = .sl e11 (us (lm R)) ∧ z.2.r 12 = .ref 0 1 0 (ll U) (ll x + 1) true) ⟨ll U, by
        simp -implicitDefEqProofs (maxSteps := 5000000) (disch := omega) only [go_sem, Nat.sub_zero, if_pos, if_neg, dec_t, dec_f, IntWalk.i64_in, IntWalk.u32_in, IntWalk.u64_in, beq_no]
        refine ⟨[], 0, true, ⟨lm_nil, by simp, Int.le_refl 0, hV, by rw [List.drop_of_length_le (by omega)]; simp [vl]⟩, ?_, ?_⟩
        · rw [List.nil_append, List.replicate_append_replicate, show ll U + (ll x + 1 - ll U) = ll x + 1 by omega]
        · rw [lm_zero]; rfl⟩ (by
      clear hL qo
      rintro k ⟨r, ⟨m, nx⟩⟩ ⟨nx0, h8, h9, h10, h13, h14, qs, R, e11, ⟨hk, q1, q2, q3, q4, q5⟩, hm, h11, h12⟩
      dsimp only at nx0 h8 h9 h10 h13 h14 hm h11 h12
      by_cases hk0 : 0 < k
      · have ek : k - 1 + 1 = k := by omega
        have v1' := vl_drop_succ (lm U) (k - 1) (by omega)
        rw [ek, q5] at v1'
        have sq' := step_q hV q3 q4 (lm_getD (lm_lm U) (k - 1)) rfl
        obtain ⟨st, hst, g1, g2, g3, g4, g5, ⟨e11', g6⟩, g7, g8, g9⟩ := dg0 (k - 1) [] (qs ++ List.replicate (ll x + 1 - ll U) 0) R _ true false e11 false r m nx (by rw [ek]; exact hm) nx0 h8 h9 h10 h11 (by rw [lUl]; exact h12) h13 (by rw [h14]; congr 1; omega) (by omega) (by rw [List.length_append, List.length_replicate]; omega) q3 q4 rfl
        rw [hst]
        simp -implicitDefEqProofs only [go_sem]
        generalize (R * 1000000000 + (lm U).getD (k - 1) 0) / V = q at *
        refine ⟨k - 1, by omega, g1, g3, g4, g5, g8, ?_, q :: qs, _, e11', ⟨by omega, lm_cons.2 ⟨⟨sq'.1, sq'.2.1⟩, q1⟩, by rw [List.length_cons]; omega, ?_, ?_, ?_⟩, g2, g6, by rw [← lUl]; exact g7⟩
        · rw [g9]
        · have := sq'.2.2.1; omega
        · have := sq'.2.2.2; rw [Int.add_mul, Int.one_mul] at this; omega
        · rw [v1']; simp only [vl]; grind
      · have : k = 0 := by omega
        subst this
        clear dg0
        simp -implicitDefEqProofs (maxSteps := 5000000) (disch := omega) only [go_sem, h14, h8, h11, h12, hm, nx0, if_pos, if_neg, dec_t, dec_f, IntWalk.i64_in, IntWalk.u32_in, IntWalk.u64_in, beq_no]
        rw [List.drop_zero, wU] at q5
        exact ⟨qs, R, e11, ⟨q1, by omega, q3, q4, q5⟩, by rw [List.replicate_zero, List.nil_append], by rfl⟩)
    dsimp only at nx0 h8 hm h11 h12
    clear dg0 hL
    obtain ⟨hQ, hr, _⟩ := qo R (vl qs) (by omega) hR0 hR1
    have lR : ll R ≤ ll V := ll_mono (by omega)
    have lRl := length_lm R
    have f5 : (ll R : Int).toNat = ll R := by omega
    have f6 : ¬ nx = 0 := by omega
    simp -implicitDefEqProofs (maxSteps := 5000000) (disch := omega) only [go_sem, h8, h11, h12, hm, lRl, f5, zeros_one, if_pos, if_neg, dec_t, dec_f, IntWalk.i64_in, IntWalk.u32_in, IntWalk.u64_in, beq_no]
    generalize hL : execL _ _ _ _ _ (.loop _) _ = L
    obtain ⟨e, ⟨r2, ⟨m2, nx2⟩⟩, rfl, rfl, gm0, g12, g19, gm⟩ := parts_last (c := _) rfl (a := lm R) (b := s) (id := nx) (ea := e11) (x12 := .ref 0 1 0 (ll U) (ll x + 1) true) (B0 := .live true 143 (us (qs ++ List.replicate (ll x + 1 - ll U) 0))) (by omega) (by simp -implicitDefEqProofs (maxSteps := 5000000) (disch := omega) only [go_sem, hm, if_pos, if_neg, dec_t, dec_f, IntWalk.i64_in, IntWalk.u32_in, IntWalk.u64_in, beq_no]) (by simp -implicitDefEqProofs (maxSteps := 5000000) (disch := omega) only [go_sem, lRl, if_pos, if_neg, dec_t, dec_f, IntWalk.i64_in, IntWalk.u32_in, IntWalk.u64_in, beq_no]) (by simp -implicitDefEqProofs only [go_sem, h8]) (by simp -implicitDefEqProofs only [go_sem, h11]) (by simp -implicitDefEqProofs only [go_sem, h12]) (by simp -implicitDefEqProofs only [go_sem]) (by simp -implicitDefEqProofs only [go_sem, lRl]) (by simp -implicitDefEqProofs only [go_sem, lRl]) (lm_lm R) (by omega) (by omega) (by omega) _ hL
    dsimp only at gm0 g12 g19 gm
    rw [lRl] at g19 gm
    have wR : vl (lm R) = R := by rw [vl_lm', if_neg (by omega)]
    rw [wR, hr] at gm
    have m0 : 0 ≤ x % y := Int.emod_nonneg _ (by omega)
    have m1 : x % y ≤ R := by rw [← hr]; exact Int.ediv_le_self _ hR0
    have dl := dg_length (ll R) (x % y)
    have t1 := trim'_r (l := qs) hq1 (by omega)
    have t2 := trim'_r (l := dg (ll R) (x % y)) (dg_lm _ _) (by omega)
    rw [vl_dg _ _ m0 (by have := (lt_of_ll (Nat.le_refl (ll R))).1; omega)] at t2
    rw [hQ] at t1
    have k1 : (qs ++ List.replicate (ll x + 1 - ll U) (0 : Int)).length = ll x + 1 := by rw [List.length_append, List.length_replicate]; omega
    have k2 : (qs ++ List.replicate (ll x + 1 - ll U) (0 : Int)).take (ll U) = qs := by rw [← hq2, List.take_left]
    have k3 : (dg (ll R) (x % y)).take (ll R) = dg (ll R) (x % y) := List.take_of_length_le (by omega)
    clear m0 m1 hL hr hQ qo
    simp -implicitDefEqProofs (maxSteps := 5000000) (disch := omega) only [go_sem, gm0, gm, g12, g19, gd_us, elems_us, k1, k2, k3, dl, t1, t2, if_pos, if_neg, dec_t, dec_f, IntWalk.i64_in, IntWalk.u32_in, IntWalk.u64_in, beq_no]
  · simp -implicitDefEqProofs (maxSteps := 5000000) (disch := omega) only [go_sem, lY, lX, h1, f1, f2, f3, f4, hb1, hs, us_get, Int.tdiv_eq_ediv_of_nonneg, byY, byX, zeros_one, lVl, lUl, hvt, if_pos, if_neg, dec_t, dec_f, IntWalk.i64_in, IntWalk.u32_in, IntWalk.u64_in, beq_no]
    generalize hL : execL _ _ _ _ _ (.loop _) _ = L
    obtain ⟨⟨e, ⟨r, ⟨m, nx⟩⟩⟩, rfl, rfl, nx0, h8, ⟨qs, R, e11, ⟨hq1, hq2, hR0, hR1, hv⟩, hm, h11, h12⟩⟩ := loop_of hL (fun k st => 0 < st.M.nx ∧ st.r 8 = .int .u32 s ∧ st.r 9 = .sl false (us (lm V)) ∧ st.r 10 = .int .u64 v1 ∧ st.r 13 = .sl false (us (lm U)) ∧ st.r 14 = .int .i64 ((k : Int) - 1) ∧ ∃ qs R e11, (k ≤ ll U ∧ Lm qs ∧ k + qs.length = ll U ∧ 0 ≤ R ∧ R < V ∧ vl ((lm U).drop k) = vl qs * V + R) ∧ st.M.m 0 = .live true 143 (us (List.replicate k 0 ++ (qs ++ List.replicate (ll x + 1 - ll U) 0))) ∧ st.r 11 = .sl e11 (us (lm R)) ∧ st.r 12 = .ref 0 1 0 (ll U) (ll x + 1) true)
      (fun z => z.1 = .exit 0 ∧ 0 < z.2.M.nx ∧ z.2.r 8 = .int .u32 s ∧ ∃ qs R e11, (Lm qs ∧ qs.length = ll U ∧ 0 ≤ R ∧ R < V ∧ U = vl qs * V + R) ∧ z.2.M.m 0 = .live true 143 (us (qs ++ List.replicate (ll x + 1 - ll U) 0)) ∧ z.2.r 11 = .sl e11 (us (lm R)) ∧ z.2.r 12 = .ref 0 1 0 (ll U) (ll x + 1) true) ⟨ll U, by
        simp -implicitDefEqProofs (maxSteps := 5000000) (disch := omega) only [go_sem, Nat.sub_zero, if_pos, if_neg, dec_t, dec_f, IntWalk.i64_in, IntWalk.u32_in, IntWalk.u64_in, beq_no]
        refine ⟨[], 0, true, ⟨lm_nil, by simp, Int.le_refl 0, hV, by rw [List.drop_of_length_le (by omega)]; simp [vl]⟩, ?_, ?_⟩
        · rw [List.nil_append, List.replicate_append_replicate, show ll U + (ll x + 1 - ll U) = ll x + 1 by omega]
        · rw [lm_zero]; rfl⟩ (by
      clear hL qo
      rintro k ⟨r, ⟨m, nx⟩⟩ ⟨nx0, h8, h9, h10, h13, h14, qs, R, e11, ⟨hk, q1, q2, q3, q4, q5⟩, hm, h11, h12⟩
      dsimp only at nx0 h8 h9 h10 h13 h14 hm h11 h12
      by_cases hk0 : 0 < k
      · have ek : k - 1 + 1 = k := by omega
        have v1' := vl_drop_succ (lm U) (k - 1) (by omega)
        rw [ek, q5] at v1'
        have sq' := step_q hV q3 q4 (lm_getD (lm_lm U) (k - 1)) rfl
        obtain ⟨st, hst, g1, g2, g3, g4, g5, ⟨e11', g6⟩, g7, g8, g9⟩ := dg0 (k - 1) [] (qs ++ List.replicate (ll x + 1 - ll U) 0) R _ true false e11 false r m nx (by rw [ek]; exact hm) nx0 h8 h9 h10 h11 (by rw [lUl]; exact h12) h13 (by rw [h14]; congr 1; omega) (by omega) (by rw [List.length_append, List.length_replicate]; omega) q3 q4 rfl
        rw [hst]
        simp -implicitDefEqProofs only [go_sem]
        generalize (R * 1000000000 + (lm U).getD (k - 1) 0) / V = q at *
        refine ⟨k - 1, by omega, g1, g3, g4, g5, g8, ?_, q :: qs, _, e11', ⟨by omega, lm_cons.2 ⟨⟨sq'.1, sq'.2.1⟩, q1⟩, by rw [List.length_cons]; omega, ?_, ?_, ?_⟩, g2, g6, by rw [← lUl]; exact g7⟩
        · rw [g9]
        · have := sq'.2.2.1; omega
        · have := sq'.2.2.2; rw [Int.add_mul, Int.one_mul] at this; omega
        · rw [v1']; simp only [vl]; grind
      · have : k = 0 := by omega
        subst this
        clear dg0
        simp -implicitDefEqProofs (maxSteps := 5000000) (disch := omega) only [go_sem, h14, h8, h11, h12, hm, nx0, if_pos, if_neg, dec_t, dec_f, IntWalk.i64_in, IntWalk.u32_in, IntWalk.u64_in, beq_no]
        rw [List.drop_zero, wU] at q5
        exact ⟨qs, R, e11, ⟨q1, by omega, q3, q4, q5⟩, by rw [List.replicate_zero, List.nil_append], by rfl⟩)
    dsimp only at nx0 h8 hm h11 h12
    clear dg0 hL
    obtain ⟨hQ, hr, _⟩ := qo R (vl qs) (by omega) hR0 hR1
    have lR : ll R ≤ ll V := ll_mono (by omega)
    have lRl := length_lm R
    have f5 : (ll R : Int).toNat = ll R := by omega
    have f6 : ¬ nx = 0 := by omega
    simp -implicitDefEqProofs (maxSteps := 5000000) (disch := omega) only [go_sem, h8, h11, h12, hm, lRl, f5, zeros_one, if_pos, if_neg, dec_t, dec_f, IntWalk.i64_in, IntWalk.u32_in, IntWalk.u64_in, beq_no]
    generalize hL : execL _ _ _ _ _ (.loop _) _ = L
    obtain ⟨e, ⟨r2, ⟨m2, nx2⟩⟩, rfl, rfl, gm0, g12, g19, gm⟩ := parts_last (c := _) rfl (a := lm R) (b := s) (id := nx) (ea := e11) (x12 := .ref 0 1 0 (ll U) (ll x + 1) true) (B0 := .live true 143 (us (qs ++ List.replicate (ll x + 1 - ll U) 0))) (by omega) (by simp -implicitDefEqProofs (maxSteps := 5000000) (disch := omega) only [go_sem, hm, if_pos, if_neg, dec_t, dec_f, IntWalk.i64_in, IntWalk.u32_in, IntWalk.u64_in, beq_no]) (by simp -implicitDefEqProofs (maxSteps := 5000000) (disch := omega) only [go_sem, lRl, if_pos, if_neg, dec_t, dec_f, IntWalk.i64_in, IntWalk.u32_in, IntWalk.u64_in, beq_no]) (by simp -implicitDefEqProofs only [go_sem, h8]) (by simp -implicitDefEqProofs only [go_sem, h11]) (by simp -implicitDefEqProofs only [go_sem, h12]) (by simp -implicitDefEqProofs only [go_sem]) (by simp -implicitDefEqProofs only [go_sem, lRl]) (by simp -implicitDefEqProofs only [go_sem, lRl]) (lm_lm R) (by omega) (by omega) (by omega) _ hL
    dsimp only at gm0 g12 g19 gm
    rw [lRl] at g19 gm
    have wR : vl (lm R) = R := by rw [vl_lm', if_neg (by omega)]
    rw [wR, hr] at gm
    have m0 : 0 ≤ x % y := Int.emod_nonneg _ (by omega)
    have m1 : x % y ≤ R := by rw [← hr]; exact Int.ediv_le_self _ hR0
    have dl := dg_length (ll R) (x % y)
    have t1 := trim'_r (l := qs) hq1 (by omega)
    have t2 := trim'_r (l := dg (ll R) (x % y)) (dg_lm _ _) (by omega)
    rw [vl_dg _ _ m0 (by have := (lt_of_ll (Nat.le_refl (ll R))).1; omega)] at t2
    rw [hQ] at t1
    have k1 : (qs ++ List.replicate (ll x + 1 - ll U) (0 : Int)).length = ll x + 1 := by rw [List.length_append, List.length_replicate]; omega
    have k2 : (qs ++ List.replicate (ll x + 1 - ll U) (0 : Int)).take (ll U) = qs := by rw [← hq2, List.take_left]
    have k3 : (dg (ll R) (x % y)).take (ll R) = dg (ll R) (x % y) := List.take_of_length_le (by omega)
    clear m0 m1 hL hr hQ qo
    simp -implicitDefEqProofs (maxSteps := 5000000) (disch := omega) only [go_sem, gm0, gm, g12, g19, gd_us, elems_us, k1, k2, k3, dl, t1, t2, if_pos, if_neg, dec_t, dec_f, IntWalk.i64_in, IntWalk.u32_in, IntWalk.u64_in, beq_no]
end Go.Pi

set_option linter.unusedVariables false
set_option linter.unusedSimpArgs false
set_option maxHeartbeats 4000000
set_option maxRecDepth 8000
/-
The reference's quotients, and its greatest common divisor.
-/
namespace Go.Pi
open Go Go.Proofs Num
theorem lm_natAbs (v : Int) : lm (v.natAbs : Int) = lm v := by simp [lm]
theorem vl_lm0 {v : Int} (h : 0 ≤ v) : vl (lm v) = v := by rw [vl_lm', if_neg (by omega)]
theorem parts'_r {x y : Int} (hx : 0 ≤ x) (hy : 0 < y) (lx : ll x ≤ 800000000) (ly : ll y ≤ 800000000) :
    Rq 142 [.sl false (us (lm x)), .sl false (us (lm y))] = some (.tup [.sl false (us (lm (x / y))), .sl false (us (lm (x % y)))]) := by
  by_cases h : ll x ≤ 2 ∧ ll y ≤ 2
  · have := parts_small (lm_lm x) (lm_lm y) (by rw [length_lm]; omega) (by rw [length_lm]; omega) (by rw [vl_lm0 (by omega)]; omega)
    rwa [vl_lm0 hx, vl_lm0 (by omega)] at this
  · exact parts_long hx hy lx ly h
theorem divMod'_r {a b : Int} (ha : ll a ≤ 700000000) (hb : ll b ≤ 700000000) (h0 : b ≠ 0) : Rq 129 [.agg (zI a), .agg (zI b)] = some (.tup [.agg (zI (a.fdiv b)), .agg (zI (a.fmod b)), .int .i64 0]) := by
  refine RL_of (f := 129) (fn := Tryz.f129) Tryz.func129 rfl rfl rfl (Nat.le_of_ble_eq_true rfl) ?_
  have la := length_lm a
  have lb := length_lm b
  have bl : 0 < (lm b).length := List.length_pos_iff.2 (by rw [Ne, lm_eq_nil]; omega)
  have bl' : ¬ ((lm b).length : Int) = 0 := by omega
  have dv := parts'_r (x := (a.natAbs : Int)) (y := (b.natAbs : Int)) (by omega) (by omega) (by rw [ll_natAbs]; omega) (by rw [ll_natAbs]; omega)
  rw [lm_natAbs, lm_natAbs] at dv
  have m0 : 0 ≤ (a.natAbs : Int) % (b.natAbs : Int) := Int.emod_nonneg _ (by omega)
  have m1 : (a.natAbs : Int) % (b.natAbs : Int) < (b.natAbs : Int) := Int.emod_lt_of_pos _ (by omega)
  have m2 := Int.mul_ediv_add_emod (a.natAbs : Int) (b.natAbs : Int)
  have q0 : 0 ≤ (a.natAbs : Int) / (b.natAbs : Int) := Int.ediv_nonneg (by omega) (by omega)
  have q1 : (a.natAbs : Int) / (b.natAbs : Int) ≤ (a.natAbs : Int) := Int.ediv_le_self _ (by omega)
  generalize (a.natAbs : Int) / (b.natAbs : Int) = Q at *
  generalize (a.natAbs : Int) % (b.natAbs : Int) = R at *
  have lQ : ll Q ≤ 700000000 := Nat.le_trans (ll_mono (by omega)) ha
  have lR : ll R ≤ 700000000 := Nat.le_trans (ll_mono (by omega)) hb
  have lQl := length_lm Q
  have lRl := length_lm R
  have vQ := vl_lm0 q0
  have vR := vl_lm0 m0
  have sq := fun bb : Bool => signed'_r (b := bb) (lm_lm Q) (by omega)
  have sr := fun bb : Bool => signed'_r (b := bb) (lm_lm R) (by omega)
  have s1t := sq true
  have s1f := sq false
  have s2t := sr true
  have s2f := sr false
  simp only [if_true, Bool.false_eq_true, if_false, vQ, vR] at s1t s1f s2t s2f
  have f1 := fromInt64'_r (n := 1) (by omega) (by omega)
  have sb := sub'_r (a := -Q) (b := 1) (by rw [ll_neg]; omega) (by have := ll_small (v := 1) (by omega) (by omega); omega)
  have ad := fun x : Int => fun h => add'_r (a := x) (b := b) h (by omega)
  have lR : R ≠ 0 → 0 < (lm R).length := fun h => List.length_pos_iff.2 (by rw [Ne, lm_eq_nil]; exact h)
  have nR : R ≠ 0 → ng (-R) = true := fun h => ng_neg (by omega)
  have nz := ng_nn (Int.le_refl 0)
  by_cases h1 : a < 0
  · rw [show (a.natAbs : Int) = -a by omega] at m2
    by_cases h2 : b < 0
    · rw [show (b.natAbs : Int) = -b by omega] at m1 m2
      obtain ⟨e1, e2⟩ := fdiv_of (a := a) (b := b) (q := Q) (r := -R) (by grind) (.inr (by omega))
      rw [← e1, ← e2]
      by_cases hR : R = 0
      · subst hR
        simp only [lm_zero, us_nil, Int.neg_zero, zI_eq, nz] at s2t s2f dv s1t s1f
        simp -implicitDefEqProofs (maxSteps := 5000000) (disch := omega) only [go_sem, ng_neg h1, ng_neg h2, dv, s1f, s2t, bl', lm_zero, Int.neg_zero, nz, us_nil, if_pos, if_neg, dec_t, dec_f, IntWalk.i64_in, IntWalk.u32_in, IntWalk.u64_in, beq_no]
      · have l1 := lR hR
        have n1 := nR hR
        simp -implicitDefEqProofs (maxSteps := 5000000) (disch := omega) only [go_sem, ng_neg h1, ng_neg h2, dv, s1f, s2t, bl', lm_neg, n1, if_pos, if_neg, dec_t, dec_f, IntWalk.i64_in, IntWalk.u32_in, IntWalk.u64_in, beq_no]
    · rw [show (b.natAbs : Int) = b by omega] at m1 m2
      have nb' := ng_nn (v := b) (by omega)
      by_cases hR : R = 0
      · subst hR
        obtain ⟨e1, e2⟩ := fdiv_of (a := a) (b := b) (q := -Q) (r := 0) (by grind) (.inl (by omega))
        rw [← e1, ← e2]
        simp only [lm_zero, us_nil, Int.neg_zero, zI_eq, nz] at s2t s2f dv s1t s1f
        simp -implicitDefEqProofs (maxSteps := 5000000) (disch := omega) only [go_sem, ng_neg h1, nb', dv, s1t, s2t, bl', lm_zero, Int.neg_zero, nz, us_nil, if_pos, if_neg, dec_t, dec_f, IntWalk.i64_in, IntWalk.u32_in, IntWalk.u64_in, beq_no]
      · obtain ⟨e1, e2⟩ := fdiv_of (a := a) (b := b) (q := -Q - 1) (r := -R + b) (by grind) (.inl (by omega))
        rw [← e1, ← e2]
        have l1 := lR hR
        have n1 := nR hR
        have ad := ad (-R) (by rw [ll_neg]; omega)
        simp only [zI_eq, lm_neg, n1, nb'] at sb ad s1t s2t f1
        simp -implicitDefEqProofs (maxSteps := 5000000) (disch := omega) only [go_sem, ng_neg h1, nb', dv, s1t, s2t, bl', lm_neg, n1, sb, ad, f1, if_pos, if_neg, dec_t, dec_f, IntWalk.i64_in, IntWalk.u32_in, IntWalk.u64_in, beq_no]
  · rw [show (a.natAbs : Int) = a by omega] at m2
    have na' := ng_nn (v := a) (by omega)
    by_cases h2 : b < 0
    · rw [show (b.natAbs : Int) = -b by omega] at m1 m2
      by_cases hR : R = 0
      · subst hR
        obtain ⟨e1, e2⟩ := fdiv_of (a := a) (b := b) (q := -Q) (r := 0) (by grind) (.inr (by omega))
        rw [← e1, ← e2]
        simp only [lm_zero, us_nil, Int.neg_zero, zI_eq, nz] at s2t s2f dv s1t s1f
        simp -implicitDefEqProofs (maxSteps := 5000000) (disch := omega) only [go_sem, ng_neg h2, na', dv, s1t, s2f, bl', lm_zero, nz, us_nil, if_pos, if_neg, dec_t, dec_f, IntWalk.i64_in, IntWalk.u32_in, IntWalk.u64_in, beq_no]
      · obtain ⟨e1, e2⟩ := fdiv_of (a := a) (b := b) (q := -Q - 1) (r := R + b) (by grind) (.inr (by omega))
        rw [← e1, ← e2]
        have l1 := lR hR
        have n1 := ng_nn (v := R) (by omega)
        have ad := ad R (by omega)
        simp only [zI_eq, lm_neg, n1, ng_neg h2] at sb ad s1t s2f f1
        simp -implicitDefEqProofs (maxSteps := 5000000) (disch := omega) only [go_sem, ng_neg h2, na', dv, s1t, s2f, bl', lm_neg, n1, sb, ad, f1, if_pos, if_neg, dec_t, dec_f, IntWalk.i64_in, IntWalk.u32_in, IntWalk.u64_in, beq_no]
    · rw [show (b.natAbs : Int) = b by omega] at m1 m2
      have nb' := ng_nn (v := b) (by omega)
      obtain ⟨e1, e2⟩ := fdiv_of (a := a) (b := b) (q := Q) (r := R) (by grind) (.inl (by omega))
      rw [← e1, ← e2]
      by_cases hR : R = 0
      · subst hR
        simp only [lm_zero, us_nil, Int.neg_zero, zI_eq, nz] at s2t s2f dv s1t s1f
        simp -implicitDefEqProofs (maxSteps := 5000000) (disch := omega) only [go_sem, na', nb', dv, s1f, s2f, bl', lm_zero, nz, us_nil, if_pos, if_neg, dec_t, dec_f, IntWalk.i64_in, IntWalk.u32_in, IntWalk.u64_in, beq_no]
      · have l1 := lR hR
        have n1 := ng_nn (v := R) (by omega)
        simp -implicitDefEqProofs (maxSteps := 5000000) (disch := omega) only [go_sem, na', nb', dv, s1f, s2f, bl', n1, if_pos, if_neg, dec_t, dec_f, IntWalk.i64_in, IntWalk.u32_in, IntWalk.u64_in, beq_no]
end Go.Pi

set_option linter.unusedVariables false
set_option linter.unusedSimpArgs false
set_option maxHeartbeats 4000000
set_option maxRecDepth 8000
/-
The reference's greatest common divisor and square root.
-/
namespace Go.Pi
open Go Go.Proofs Num
theorem gcd'_inner {c : Code} (hc : lpAt Tryz.f109 1 = some c) {r : Nat → PV} {m : Nat → Blk} {nx u v : Nat} (h4 : r 4 = .ptr 2 0) (h9 : r 9 = .int .u64 (u : Int)) (h10 : r 10 = .int .u64 (v : Int)) (hu : u < 1000000000000000000) (hv : v < 1000000000000000000) :
    ∀ L, execL Pq Xq sq cq 109 (.loop c) ⟨r, ⟨m, nx⟩⟩ = L → ∃ st, L = some (.exit 2, st) ∧ st.M.m = m ∧ st.r 4 = .ptr 2 0 ∧ st.r 9 = .int .u64 (Nat.gcd u v : Nat) := by
  obtain rfl := Option.some.inj (show some _ = some c from hc)
  intro L hL
  obtain ⟨⟨e, st⟩, rfl, rfl, h⟩ := loop_of hL (fun i st => ∃ u' v' : Nat, (i = v' ∧ Nat.gcd u' v' = Nat.gcd u v ∧ u' < 1000000000000000000 ∧ v' < 1000000000000000000) ∧ st.M.m = m ∧ st.r 4 = .ptr 2 0 ∧ st.r 9 = .int .u64 (u' : Int) ∧ st.r 10 = .int .u64 (v' : Int))
    (fun y => y.1 = .exit 2 ∧ y.2.M.m = m ∧ y.2.r 4 = .ptr 2 0 ∧ y.2.r 9 = .int .u64 (Nat.gcd u v : Nat)) ⟨v, u, v, ⟨rfl, rfl, hu, hv⟩, rfl, h4, h9, h10⟩ (by
    clear hc hL
    rintro i ⟨r, ⟨m', nx⟩⟩ ⟨u', v', ⟨rfl, hg, hu', hv'⟩, hm, h4, h9, h10⟩
    dsimp only at hm h4 h9 h10
    subst hm
    by_cases h : 0 < i
    · have n0 : ¬ (i : Int) = 0 := by omega
      simp -implicitDefEqProofs (maxSteps := 5000000) (disch := omega) only [go_sem, h4, h9, h10, n0, Int.tmod_eq_emod_of_nonneg, if_pos, if_neg, dec_t, dec_f, IntWalk.i64_in, IntWalk.u32_in, IntWalk.u64_in, beq_no]
      have := Nat.mod_lt u' h
      exact ⟨u' % i, this, i, u' % i, ⟨rfl, by rw [← gcd_step]; exact hg, by omega, by omega⟩, rfl, by rw [Int.natCast_emod]⟩
    · have : i = 0 := by omega
      subst this
      simp -implicitDefEqProofs (maxSteps := 5000000) (disch := omega) only [go_sem, h4, h9, h10, if_pos, if_neg, dec_t, dec_f, IntWalk.i64_in, IntWalk.u32_in, IntWalk.u64_in, beq_no]
      rw [Nat.gcd_zero_right] at hg
      rw [hg])
  exact ⟨st, rfl, h⟩
theorem gcd'_r {a b : Int} (ha : ll a ≤ 700000000) (hb : ll b ≤ 700000000) : Rq 109 [.agg (zI a), .agg (zI b)] = some (.agg (zI (Int.gcd a b : Nat))) := by
  refine RL_of (f := 109) (fn := Tryz.f109) Tryz.func109 rfl rfl rfl (Nat.le_of_ble_eq_true rfl) ?_
  have hG := igcd a b
  generalize Int.gcd a b = G at *
  simp -implicitDefEqProofs (maxSteps := 5000000) (disch := omega) only [go_sem, ng_cast, if_pos, if_neg, dec_t, dec_f, IntWalk.i64_in, IntWalk.u32_in, IntWalk.u64_in, beq_no]
  generalize hL : execL _ _ _ _ _ (.loop _) _ = L
  obtain ⟨⟨e, r, ⟨m, nx⟩⟩, rfl, rfl, X, Y, ⟨hg, hX, hY, hs⟩, hm2, h4, h5, h6⟩ := loop_of hL (fun i st => ∃ X : Nat, (Nat.gcd X i = G ∧ ll (X : Int) ≤ 700000000 ∧ ll (i : Int) ≤ 700000000) ∧ st.M.m 2 = .live true 35 [.bool false, .sl false []] ∧ st.r 4 = .ptr 2 0 ∧ st.r 5 = .sl false (us (lm (X : Int))) ∧ st.r 6 = .sl false (us (lm (i : Int))))
    (fun y => y.1 = .exit 0 ∧ ∃ X Y : Nat, (Nat.gcd X Y = G ∧ ll (X : Int) ≤ 700000000 ∧ ll (Y : Int) ≤ 700000000 ∧ (Y = 0 ∨ (ll (X : Int) ≤ 2 ∧ ll (Y : Int) ≤ 2))) ∧ y.2.M.m 2 = .live true 35 [.bool false, .sl false []] ∧ y.2.r 4 = .ptr 2 0 ∧ y.2.r 5 = .sl false (us (lm (X : Int))) ∧ y.2.r 6 = .sl false (us (lm (Y : Int)))) ⟨b.natAbs, by
      simp -implicitDefEqProofs (maxSteps := 5000000) (disch := omega) only [go_sem, lm_natAbs, if_pos, if_neg, dec_t, dec_f, IntWalk.i64_in, IntWalk.u32_in, IntWalk.u64_in, beq_no]
      refine ⟨a.natAbs, ⟨hG, by rw [ll_natAbs]; exact ha, by rw [ll_natAbs]; exact hb⟩, ?_⟩
      rw [lm_natAbs]⟩ (by
      clear hG hL
      rintro i ⟨r, ⟨m, nx⟩⟩ ⟨X, ⟨hg, hX, hi⟩, hm2, h4, h5, h6⟩
      dsimp only at hm2 h4 h5 h6
      have lX := length_lm (X : Int)
      have li := length_lm (i : Int)
      by_cases h : 0 < i
      · have l0 : 0 < (lm (i : Int)).length := List.length_pos_iff.2 (by rw [Ne, lm_eq_nil]; omega)
        have pt := parts'_r (x := (X : Int)) (y := (i : Int)) (by omega) (by omega) (by omega) (by omega)
        rw [← Int.natCast_emod] at pt
        have rlt := Nat.mod_lt X h
        have lr : ll ((X % i : Nat) : Int) ≤ ll (i : Int) := ll_mono (by omega)
        by_cases hs1 : ll (X : Int) ≤ 2
        · by_cases hs2 : ll (i : Int) ≤ 2
          · simp -implicitDefEqProofs (maxSteps := 5000000) (disch := omega) only [go_sem, hm2, h4, h5, h6, lX, li, if_pos, if_neg, dec_t, dec_f, IntWalk.i64_in, IntWalk.u32_in, IntWalk.u64_in, beq_no]
            exact ⟨X, i, ⟨hg, hX, hi, .inr ⟨hs1, hs2⟩⟩, rfl, rfl⟩
          · simp -implicitDefEqProofs (maxSteps := 5000000) (disch := omega) only [go_sem, hm2, h4, h5, h6, lX, li, pt, if_pos, if_neg, dec_t, dec_f, IntWalk.i64_in, IntWalk.u32_in, IntWalk.u64_in, beq_no]
            exact ⟨X % i, rlt, i, ⟨by rw [← gcd_step]; exact hg, hi, by omega⟩, rfl, rfl⟩
        · simp -implicitDefEqProofs (maxSteps := 5000000) (disch := omega) only [go_sem, hm2, h4, h5, h6, lX, li, pt, if_pos, if_neg, dec_t, dec_f, IntWalk.i64_in, IntWalk.u32_in, IntWalk.u64_in, beq_no]
          exact ⟨X % i, rlt, i, ⟨by rw [← gcd_step]; exact hg, hi, by omega⟩, rfl, rfl⟩
      · have : i = 0 := by omega
        subst this
        have l0 : lm ((0 : Nat) : Int) = [] := lm_zero
        rw [l0, us_nil] at h6
        simp -implicitDefEqProofs (maxSteps := 5000000) (disch := omega) only [go_sem, hm2, h4, h5, h6, if_pos, if_neg, dec_t, dec_f, IntWalk.i64_in, IntWalk.u32_in, IntWalk.u64_in, beq_no]
        exact ⟨X, 0, ⟨hg, hX, by rw [show ((0 : Nat) : Int) = 0 from rfl, ll_zero]; omega, .inl rfl⟩, rfl, by rw [l0, us_nil]⟩)
  dsimp only at hm2 h4 h5 h6
  have lX := length_lm (X : Int)
  have lY := length_lm (Y : Int)
  by_cases hz : Y = 0
  · subst hz
    rw [Nat.gcd_zero_right] at hg
    subst hg
    have l0 : lm ((0 : Nat) : Int) = [] := lm_zero
    rw [l0, us_nil] at h6
    have g0 := signed'_r (b := false) (lm_lm (X : Int)) (by omega)
    rw [if_neg (by simp), vl_cast] at g0
    simp -implicitDefEqProofs (maxSteps := 5000000) (disch := omega) only [go_sem, hm2, h4, h5, h6, g0, ng_cast, if_pos, if_neg, dec_t, dec_f, IntWalk.i64_in, IntWalk.u32_in, IntWalk.u64_in, beq_no]
  · have l0 : 0 < (lm (Y : Int)).length := List.length_pos_iff.2 (by rw [Ne, lm_eq_nil]; omega)
    have hs : ll (X : Int) ≤ 2 ∧ ll (Y : Int) ≤ 2 := by rcases hs with h | h; exact absurd h hz; exact h
    have s1 := short'_r (lm_lm (X : Int)) (by omega)
    have s2 := short'_r (lm_lm (Y : Int)) (by omega)
    rw [vl_cast] at s1 s2
    simp -implicitDefEqProofs (maxSteps := 5000000) (disch := omega) only [go_sem, hm2, h4, h5, h6, s1, s2, if_pos, if_neg, dec_t, dec_f, IntWalk.i64_in, IntWalk.u32_in, IntWalk.u64_in, beq_no]
    generalize hL2 : execL _ _ _ _ _ (.loop _) _ = L2
    have b1 := (lt_of_ll hs.1).1
    have b2 := (lt_of_ll hs.2).1
    simp only [pw] at b1 b2
    obtain ⟨⟨r', ⟨m', nx'⟩⟩, rfl, hm, k4, k9⟩ := gcd'_inner rfl (u := X) (v := Y) (by simp -implicitDefEqProofs only [go_sem, h4]) (by simp -implicitDefEqProofs only [go_sem]) (by simp -implicitDefEqProofs only [go_sem]) (by omega) (by omega) _ hL2
    clear hL2
    dsimp only at hm k4 k9
    subst hm
    rw [hg] at k9
    have gb : (G : Int) < 1000000000000000000 := by
      rw [← hg]
      have := Nat.le_of_dvd (by omega) (Nat.gcd_dvd_right X Y)
      omega
    have li := limbs'_r (u := (G : Int)) (by omega) (by omega)
    have lg := length_lm (G : Int)
    have l3 : ll (G : Int) ≤ 2 := ll_le (by simp only [pw]; omega) (by simp only [pw]; omega)
    have sg := signed'_r (b := false) (lm_lm (G : Int)) (by omega)
    rw [vl_cast, if_neg (by simp)] at sg
    simp -implicitDefEqProofs (maxSteps := 5000000) (disch := omega) only [go_sem, hm2, k4, k9, li, sg, ng_cast, if_pos, if_neg, dec_t, dec_f, IntWalk.i64_in, IntWalk.u32_in, IntWalk.u64_in, beq_no]
theorem sqrt'_zero : Rq 144 [.agg (zI 0)] = some (.tup [.agg (zI 0), .int .i64 0]) := by
  refine RL_of (f := 144) (fn := Tryz.f144) Tryz.func144 rfl rfl rfl (Nat.le_of_ble_eq_true rfl) ?_
  simp -implicitDefEqProofs (maxSteps := 5000000) (disch := omega) only [go_sem, ng_nn (Int.le_refl 0), lm_zero, us_nil, if_pos, if_neg, dec_t, dec_f, IntWalk.i64_in, IntWalk.u32_in, IntWalk.u64_in, beq_no]
theorem sqrt'_neg {a : Int} (h : a < 0) : Rq 144 [.agg (zI a)] = some (.tup [.agg (zI 0), .int .i64 7]) := by
  refine RL_of (f := 144) (fn := Tryz.f144) Tryz.func144 rfl rfl rfl (Nat.le_of_ble_eq_true rfl) ?_
  simp -implicitDefEqProofs (maxSteps := 5000000) (disch := omega) only [go_sem, ng_neg h, ng_nn (Int.le_refl 0), lm_zero, us_nil, if_pos, if_neg, dec_t, dec_f, IntWalk.i64_in, IntWalk.u32_in, IntWalk.u64_in, beq_no]
theorem sqrt'_r {a : Int} (h0 : 0 < a) (ha : ll a ≤ 600000000) : Rq 144 [.agg (zI a)] = some (.tup [.agg (zI (rt a)), .int .i64 0]) := by
  refine RL_of (f := 144) (fn := Tryz.f144) Tryz.func144 rfl rfl rfl (Nat.le_of_ble_eq_true rfl) ?_
  have la := length_lm a
  have l0 : 0 < (lm a).length := List.length_pos_iff.2 (by rw [Ne, lm_eq_nil]; omega)
  have l0' : ¬ ((lm a).length : Int) = 0 := by omega
  obtain ⟨k, hk⟩ : ∃ k : Nat, k = ((lm a).length + 1) / 2 := ⟨_, rfl⟩
  have e1 : (((lm a).length : Int) + 1) / 2 = k := by omega
  have e2 : (k : Int).toNat = k := by omega
  have zo := zeros_one 0 k
  have hl : Lm (List.replicate k (0 : Int) ++ [1]) := lm_append.2 ⟨lm_rep k, lm_cons.2 ⟨by omega, lm_nil⟩⟩
  have hv : vl (List.replicate k (0 : Int) ++ [1]) = pw k := by rw [vl_snoc, vl_rep, List.length_replicate]; omega
  have he : List.replicate k (0 : Int) ++ [1] = lm (pw k) := by
    rw [← hv]
    refine eq_lm hl (.inr ?_)
    rw [List.length_append, List.length_replicate, List.getD_eq_getElem?_getD]
    simp
  have rl : (lm (pw k)).length = k + 1 := by rw [← he]; simp
  have ap := fun (m : Nat → Blk) (nx : Nat) (e : TypeId) => apY_grow (m := upd m 2 (.live true 143 (us (List.replicate k 0)))) (id := 2) (nx := nx) (e := e) (x := 1) (len := k) (w := true) (ty := 143) (l := List.replicate k 0) (by simp -implicitDefEqProofs only [go_sem]) (by simp) (by omega)
  rw [he] at ap
  have f2 := fromInt64'_r (n := 2) (by omega) (by omega)
  have pk := pw_pos k
  have aw : a < pw k * pw k := by
    have h1 := (lt_of_ll (Nat.le_refl (ll a))).1
    have h2 := pw_mono (m := ll a) (n := k + k) (by omega)
    rw [pw_add] at h2
    omega
  have lk : ll (pw k) ≤ k + 1 := ll_le (by rw [pw_succ]; omega) (by have := pw_pos (k + 1); omega)
  clear hl hv
  simp -implicitDefEqProofs (maxSteps := 5000000) (disch := omega) only [go_sem, ng_nn (Int.le_of_lt h0), l0', e1, e2, zo, ap, f2, Int.tdiv_eq_ediv_of_nonneg, if_pos, if_neg, dec_t, dec_f, IntWalk.i64_in, IntWalk.u32_in, IntWalk.u64_in, beq_no]
  generalize hL : execL _ _ _ _ _ (.loop _) _ = L
  obtain ⟨⟨e, r, ⟨m, nx⟩⟩, rfl, rfl, hm1, h2, h3⟩ := loop_of hL (fun i st => ∃ x : Int, (i = x.toNat ∧ 0 < x ∧ ll x ≤ 600000001 ∧ a < (x + 1) * (x + 1)) ∧ 5 < st.M.nx ∧ st.M.m 0 = .live true 35 [.bool false, .sl false (us (lm a))] ∧ st.M.m 1 = .live true 35 [.bool false, .sl false []] ∧ (st.M.m 4 = .live true 35 [.bool false, .sl false (us (lm x))] ∨ (a < x * x ∧ st.M.m 4 = .live true 35 [.bool false, .ref 3 1 0 (k + 1) (k + 1) false] ∧ (lm x).length = k + 1 ∧ st.M.m 3 = .live true 143 (us (lm x)))) ∧ st.M.m 5 = .live true 35 [.bool false, .sl false (us (lm 2))] ∧ st.r 1 = .ptr 0 0 ∧ st.r 2 = .ptr 1 0 ∧ st.r 4 = .ptr 4 0 ∧ st.r 5 = .ptr 5 0)
    (fun y => y.1 = .ret ∧ y.2.M.m 1 = .live true 35 [.bool false, .sl false (us (lm (rt a)))] ∧ y.2.r 2 = .ptr 1 0 ∧ y.2.r 3 = .int .i64 0) ⟨(pw k).toNat, pw k, by
      simp -implicitDefEqProofs (maxSteps := 5000000) (disch := omega) only [go_sem, ng_nn (Int.le_of_lt pk), ng_nn (show (0 : Int) ≤ 2 by omega), if_pos, if_neg, dec_t, dec_f, IntWalk.i64_in, IntWalk.u32_in, IntWalk.u64_in, beq_no]
      exact ⟨⟨pk, by omega, by grind⟩, .inr ⟨aw, rl⟩⟩⟩ (by
    clear hL he ap
    rintro i ⟨r, ⟨m, nx⟩⟩ ⟨x, ⟨rfl, x0, xl, xa⟩, hnx, hm0, hm1, hm4, hm5, h1, h2, h4, h5⟩
    dsimp only at hnx hm0 hm1 hm4 hm5 h1 h2 h4 h5
    have q0 : 0 ≤ a / x := Int.ediv_nonneg (by omega) (by omega)
    have q1 := Int.mul_ediv_add_emod a x
    have q2 := Int.emod_nonneg a (show x ≠ 0 by omega)
    have q3 := Int.emod_lt_of_pos a x0
    have q4 : ll (a / x) ≤ 600000000 := Nat.le_trans (ll_mono (by have := Int.ediv_le_self x (show 0 ≤ a by omega); omega)) ha
    have dv := divMod'_r (a := a) (b := x) (by omega) (by omega) (by omega)
    rw [Int.fdiv_eq_ediv_of_nonneg _ (by omega), Int.fmod_eq_emod_of_nonneg _ (by omega)] at dv
    generalize hq : a / x = q at *
    have ad := add'_r (a := x) (b := q) (by omega) (by omega)
    have al := ll_add x q
    have d2 := divMod'_r (a := x + q) (b := 2) (by omega) (by have := ll_small (v := 2) (by omega) (by omega); omega) (by omega)
    rw [Int.fdiv_eq_ediv_of_nonneg _ (by omega), Int.fmod_eq_emod_of_nonneg _ (by omega)] at d2
    have yl : ll ((x + q) / 2) ≤ 700000000 := Nat.le_trans (ll_mono (b := x + q) (by omega)) (by omega)
    have y0 : 0 ≤ (x + q) / 2 := by omega
    have cm := cmp'_r (a := (x + q) / 2) (b := x) (by omega) (by omega)
    have ny := newton_up (a := a) (x := x) (q := q) (y := (x + q) / 2) x0 (by rw [Int.mul_add]; omega) (by omega) q0
    have ns := newton_stop (a := a) (x := x) (q := q) (y := (x + q) / 2) x0 (by omega) (by omega)
    generalize hy : (x + q) / 2 = y at *
    have n1 := ng_nn (Int.le_of_lt x0)
    have n2 := ng_nn q0
    have n3 := ng_nn y0
    have n4 := ng_nn (show (0 : Int) ≤ 2 by omega)
    have n5 := ng_nn (show (0 : Int) ≤ x + q by omega)
    have n6 := ng_nn (Int.le_of_lt h0)
    simp only [zI_eq, n1, n2, n3, n4, n5, n6] at dv ad d2 cm
    by_cases hc : x ≤ y
    · have hr : rt a = x := rt_eq (by omega) (ns hc) xa
      have s1 := Int.sign_nonneg_iff.2 (show 0 ≤ y - x by omega)
      have hm4 : m 4 = .live true 35 [.bool false, .sl false (us (lm x))] := by
        rcases hm4 with h | h
        · exact h
        · exfalso; have := ns hc; have := h.1; omega
      clear ns ny xa q1 q3 hq hy
      simp -implicitDefEqProofs (maxSteps := 5000000) (disch := omega) only [go_sem, hm0, hm1, hm4, hm5, h1, h2, h4, h5, dv, ad, d2, cm, s1, n1, n2, n3, if_pos, if_neg, dec_t, dec_f, IntWalk.i64_in, IntWalk.u32_in, IntWalk.u64_in, beq_no]
      rw [hr]
    · have s1 := Int.sign_eq_neg_one_of_neg (show y - x < 0 by omega)
      clear ns xa q1 q3 hq
      have yp : 0 < y := by
        rcases Int.lt_or_eq_of_le y0 with h | h
        · exact h
        · subst h; omega
      clear hy
      rcases hm4 with hm4 | ⟨-, hm4, hlen, hm3⟩
      · simp -implicitDefEqProofs (maxSteps := 5000000) (disch := omega) only [go_sem, hm0, hm1, hm4, hm5, h1, h2, h4, h5, dv, ad, d2, cm, s1, n1, n2, n3, if_pos, if_neg, dec_t, dec_f, IntWalk.i64_in, IntWalk.u32_in, IntWalk.u64_in, beq_no]
        exact ⟨y.toNat, by omega, y, ⟨rfl, yp, Nat.le_trans (ll_mono (by omega)) xl, ny⟩, by omega, .inl rfl⟩
      · have tk : (lm x).take (k + 1) = lm x := List.take_of_length_le (by omega)
        simp -implicitDefEqProofs (maxSteps := 5000000) (disch := omega) only [go_sem, hm0, hm1, hm4, hm5, hm3, h1, h2, h4, h5, dv, ad, d2, cm, s1, n1, n2, n3, gd_us, elems_us, hlen, tk, if_pos, if_neg, dec_t, dec_f, IntWalk.i64_in, IntWalk.u32_in, IntWalk.u64_in, beq_no]
        exact ⟨y.toNat, by omega, y, ⟨rfl, yp, Nat.le_trans (ll_mono (by omega)) xl, ny⟩, by omega, .inl rfl⟩)
  dsimp only at hm1 h2 h3
  simp -implicitDefEqProofs (maxSteps := 5000000) (disch := omega) only [go_sem, hm1, h2, h3, ng_nn (rt_nn a), if_pos, if_neg, dec_t, dec_f, IntWalk.i64_in, IntWalk.u32_in, IntWalk.u64_in, beq_no]
end Go.Pi
