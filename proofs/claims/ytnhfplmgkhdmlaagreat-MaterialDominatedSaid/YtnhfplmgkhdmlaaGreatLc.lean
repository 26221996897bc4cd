/- What is proved: division, greatest common divisors, words and square roots of integers. No conditions beyond those in the statements. -/
import Derived.Test.YtnhfplmgkhdmlaaGreatLb
set_option linter.unusedVariables false
set_option linter.unusedSimpArgs false
set_option maxHeartbeats 4000000
set_option maxRecDepth 8000
/-
Dividing integers.
-/
namespace Go.Pi
open Go Go.Proofs Num
theorem divide_r {a b : List Int} (ha : Lm a) (hb : Lm b) (hna : a.length ≤ 1000000000) (hnb : b.length ≤ 1000000000) (h0 : 0 < vl b) :
    ∃ q r, Rq 153 [.sl false (us a), .sl false (us b)] = some (.tup [.sl false (us q), .sl false (us r)]) ∧ Lm q ∧ Lm r ∧ vl q = vl a / vl b ∧ vl r = vl a % vl b ∧ q.length ≤ a.length + 2 ∧ r.length ≤ a.length + 2 := by
  have na := vl_nonneg ha
  have m0 : 0 ≤ vl a % vl b := Int.emod_nonneg _ (by omega)
  have m1 : vl a % vl b < vl b := Int.emod_lt_of_pos _ h0
  by_cases h1 : (lm (vl b)).length = 1
  · have hl := byWord_len (b := vl b) (lm_lm (vl a)) h0
    rw [vl_vl ha] at hl
    have la := len_le ha
    have hB : vl b < 1000000000 := by
      have := vl_lt (lm_lm (vl b))
      rw [h1, vl_vl hb] at this
      simpa [pw] using this
    exact ⟨_, _, divide_one ha hb hna hnb h1, dg_lm _ _, lm_cons.2 ⟨⟨m0, by omega⟩, lm_nil⟩, hl, by simp [vl], by rw [dg_length]; omega, by simp⟩
  · have h2 : 2 ≤ (lm (vl b)).length := by
      have : 0 < (lm (vl b)).length := List.length_pos_iff.2 (by rw [Ne, lm_eq_nil]; omega)
      omega
    by_cases h3 : vl a < vl b
    · have la := len_le ha
      exact ⟨_, _, divide_less ha hb hna hnb h1 h3, lm_nil, lm_lm _, by rw [Int.ediv_eq_zero_of_lt na h3]; simp [vl], by rw [Int.emod_eq_of_lt na h3, vl_vl ha], by simp, by omega⟩
    · exact divide_long ha hb hna hnb h2 (by omega)
/-- Quotient and remainder, rounded down. -/
theorem fdiv_of {a b q r : Int} (h : a = b * q + r) (hr : (0 ≤ r ∧ r < b) ∨ (b < r ∧ r ≤ 0)) : q = a.fdiv b ∧ r = a.fmod b := by
  have e : a.fdiv b = q := by
    rcases hr with hr | hr
    · rw [Int.fdiv_eq_ediv_of_nonneg _ (by omega), h, Int.add_comm, Int.add_mul_ediv_left _ _ (by omega), Int.ediv_eq_zero_of_lt hr.1 hr.2]; omega
    · rw [← Int.neg_fdiv_neg, Int.fdiv_eq_ediv_of_nonneg _ (by omega), h, show -(b * q + r) = -r + -b * q by grind, Int.add_mul_ediv_left _ _ (by omega), Int.ediv_eq_zero_of_lt (by omega) (by omega)]; omega
  refine ⟨e.symm, ?_⟩
  have := Int.mul_fdiv_add_fmod a b
  rw [e] at this
  omega
theorem divMod_zero {a : Int} : Rq 154 [.agg (zI a), .agg (zI 0)] = some (.tup [.agg (zI 0), .agg (zI 0), .int .i64 6]) := by
  refine RL_of (f := 154) (fn := Tryz.f154) Tryz.func154 rfl rfl rfl (Nat.le_of_ble_eq_true rfl) ?_
  simp -implicitDefEqProofs (maxSteps := 5000000) (disch := omega) only [go_sem, lm_zero, us_nil, ng_nn (Int.le_refl 0), if_pos, if_neg, dec_t, dec_f, IntWalk.i64_in, IntWalk.u32_in, IntWalk.u64_in, beq_no]
theorem divMod_r {a b : Int} (ha : ll a ≤ 900000000) (hb : ll b ≤ 900000000) (h0 : b ≠ 0) : Rq 154 [.agg (zI a), .agg (zI b)] = some (.tup [.agg (zI (a.fdiv b)), .agg (zI (a.fmod b)), .int .i64 0]) := by
  refine RL_of (f := 154) (fn := Tryz.f154) Tryz.func154 rfl rfl rfl (Nat.le_of_ble_eq_true rfl) ?_
  have la := length_lm a
  have lb := length_lm b
  have va := vl_lm' a
  have vb := vl_lm' b
  have na := vl_nonneg (lm_lm a)
  have nb := vl_nonneg (lm_lm b)
  have bl : 0 < (lm b).length := List.length_pos_iff.2 (by rw [Ne, lm_eq_nil]; omega)
  have bl' : ¬ ((lm b).length : Int) = 0 := by omega
  have bp : 0 < vl (lm b) := by split at vb <;> omega
  obtain ⟨q, r, dv, hq, hr, vq, vr, lq, lr⟩ := divide_r (lm_lm a) (lm_lm b) (by omega) (by omega) bp
  have m0 : 0 ≤ vl (lm a) % vl (lm b) := Int.emod_nonneg _ (by omega)
  have m1 : vl (lm a) % vl (lm b) < vl (lm b) := Int.emod_lt_of_pos _ bp
  have m2 := Int.mul_ediv_add_emod (vl (lm a)) (vl (lm b))
  rw [← vq, ← vr] at m2
  rw [← vr] at m0 m1
  have q0 := vl_nonneg hq
  have sq := fun bb : Bool => signed_r (b := bb) hq (by omega)
  have sr := fun bb : Bool => signed_r (b := bb) hr (by omega)
  have lq' : ll (vl q) ≤ 900000002 := by
    have := len_le hq; rw [length_lm] at this; omega
  have lr' : ll (vl r) ≤ 900000002 := by
    have := len_le hr; rw [length_lm] at this; omega
  have s1t := sq true
  have s1f := sq false
  have s2t := sr true
  have s2f := sr false
  simp only [if_true, Bool.false_eq_true, if_false] at s1t s1f s2t s2f
  generalize vl q = Q at *
  generalize vl r = R at *
  have f1 := fromInt64_r (n := 1) (by omega) (by omega)
  have sb := sub_r (a := -Q) (b := 1) (by rw [ll_neg]; omega) (by have := ll_small (v := 1) (by omega) (by omega); omega)
  have ad := fun x : Int => fun h => add_r (a := x) (b := b) h (by omega)
  have lR : R ≠ 0 → 0 < (lm R).length := fun h => List.length_pos_iff.2 (by rw [Ne, lm_eq_nil]; exact h)
  have nR : R ≠ 0 → ng (-R) = true := fun h => ng_neg (by omega)
  have lRl := length_lm R
  have nz := ng_nn (Int.le_refl 0)
  by_cases h1 : a < 0
  · rw [if_pos h1] at va
    by_cases h2 : b < 0
    · rw [if_pos h2] at vb
      obtain ⟨e1, e2⟩ := fdiv_of (a := a) (b := b) (q := Q) (r := -R) (by rw [vb, va] at m2; grind) (.inr (by omega))
      rw [← e1, ← e2]
      by_cases hR : R = 0
      · subst hR
        simp -implicitDefEqProofs (maxSteps := 5000000) (disch := omega) only [go_sem, ng_neg h1, ng_neg h2, dv, s1f, s2t, bl', lm_zero, Int.neg_zero, nz, if_pos, if_neg, dec_t, dec_f, IntWalk.i64_in, IntWalk.u32_in, IntWalk.u64_in, beq_no]
      · have l1 := lR hR
        have n1 := nR hR
        simp -implicitDefEqProofs (maxSteps := 5000000) (disch := omega) only [go_sem, ng_neg h1, ng_neg h2, dv, s1f, s2t, bl', lm_neg, n1, if_pos, if_neg, dec_t, dec_f, IntWalk.i64_in, IntWalk.u32_in, IntWalk.u64_in, beq_no]
    · rw [if_neg h2] at vb
      have nb' := ng_nn (v := b) (by omega)
      by_cases hR : R = 0
      · subst hR
        obtain ⟨e1, e2⟩ := fdiv_of (a := a) (b := b) (q := -Q) (r := 0) (by rw [vb, va] at m2; grind) (.inl (by omega))
        rw [← e1, ← e2]
        simp -implicitDefEqProofs (maxSteps := 5000000) (disch := omega) only [go_sem, ng_neg h1, nb', dv, s1t, s2t, bl', lm_zero, Int.neg_zero, nz, if_pos, if_neg, dec_t, dec_f, IntWalk.i64_in, IntWalk.u32_in, IntWalk.u64_in, beq_no]
      · obtain ⟨e1, e2⟩ := fdiv_of (a := a) (b := b) (q := -Q - 1) (r := -R + b) (by rw [vb, va] at m2; grind) (.inl (by omega))
        rw [← e1, ← e2]
        have l1 := lR hR
        have n1 := nR hR
        have ad := ad (-R) (by rw [ll_neg]; omega)
        simp only [zI_eq, lm_neg, n1, nb'] at sb ad s1t s2t f1
        simp -implicitDefEqProofs (maxSteps := 5000000) (disch := omega) only [go_sem, ng_neg h1, nb', dv, s1t, s2t, bl', lm_neg, n1, sb, ad, f1, if_pos, if_neg, dec_t, dec_f, IntWalk.i64_in, IntWalk.u32_in, IntWalk.u64_in, beq_no]
  · rw [if_neg h1] at va
    have na' := ng_nn (v := a) (by omega)
    by_cases h2 : b < 0
    · rw [if_pos h2] at vb
      by_cases hR : R = 0
      · subst hR
        obtain ⟨e1, e2⟩ := fdiv_of (a := a) (b := b) (q := -Q) (r := 0) (by rw [vb, va] at m2; grind) (.inr (by omega))
        rw [← e1, ← e2]
        simp -implicitDefEqProofs (maxSteps := 5000000) (disch := omega) only [go_sem, ng_neg h2, na', dv, s1t, s2f, bl', lm_zero, nz, if_pos, if_neg, dec_t, dec_f, IntWalk.i64_in, IntWalk.u32_in, IntWalk.u64_in, beq_no]
      · obtain ⟨e1, e2⟩ := fdiv_of (a := a) (b := b) (q := -Q - 1) (r := R + b) (by rw [vb, va] at m2; grind) (.inr (by omega))
        rw [← e1, ← e2]
        have l1 := lR hR
        have n1 := ng_nn (v := R) (by omega)
        have ad := ad R (by omega)
        simp only [zI_eq, lm_neg, n1, ng_neg h2] at sb ad s1t s2f f1
        simp -implicitDefEqProofs (maxSteps := 5000000) (disch := omega) only [go_sem, ng_neg h2, na', dv, s1t, s2f, bl', lm_neg, n1, sb, ad, f1, if_pos, if_neg, dec_t, dec_f, IntWalk.i64_in, IntWalk.u32_in, IntWalk.u64_in, beq_no]
    · rw [if_neg h2] at vb
      have nb' := ng_nn (v := b) (by omega)
      obtain ⟨e1, e2⟩ := fdiv_of (a := a) (b := b) (q := Q) (r := R) (by rw [vb, va] at m2; grind) (.inl (by omega))
      rw [← e1, ← e2]
      by_cases hR : R = 0
      · subst hR
        simp -implicitDefEqProofs (maxSteps := 5000000) (disch := omega) only [go_sem, na', nb', dv, s1f, s2f, bl', lm_zero, nz, if_pos, if_neg, dec_t, dec_f, IntWalk.i64_in, IntWalk.u32_in, IntWalk.u64_in, beq_no]
      · have l1 := lR hR
        have n1 := ng_nn (v := R) (by omega)
        simp -implicitDefEqProofs (maxSteps := 5000000) (disch := omega) only [go_sem, na', nb', dv, s1f, s2f, bl', n1, if_pos, if_neg, dec_t, dec_f, IntWalk.i64_in, IntWalk.u32_in, IntWalk.u64_in, beq_no]
end Go.Pi

set_option linter.unusedVariables false
set_option linter.unusedSimpArgs false
set_option maxHeartbeats 4000000
set_option maxRecDepth 8000
/-
Greatest common divisors.
-/
namespace Go.Pi
open Go Go.Proofs Num
theorem ng_cast (n : Nat) : ng (n : Int) = false := ng_nn (by omega)
theorem gcd_step {x y : Nat} : Nat.gcd x y = Nat.gcd y (x % y) := by rw [Nat.gcd_comm, Nat.gcd_rec, Nat.gcd_comm]
theorem ll_natAbs (v : Int) : ll (v.natAbs : Int) = ll v := by unfold ll; rw [Int.natAbs_natCast]
theorem igcd (a b : Int) : Nat.gcd a.natAbs b.natAbs = Int.gcd a b := by unfold Int.gcd; exact Eq.refl _
theorem vl_cast (n : Nat) : vl (lm (n : Int)) = n := by rw [vl_lm]; omega
theorem abs_r (v : Int) (h : ll v ≤ 1000000000) : Rq 118 [.bool false, .sl false (us (lm v))] = some (.agg (zI (v.natAbs : Int))) := by
  have := signed_r (b := false) (lm_lm v) (by rw [length_lm]; omega)
  rw [if_neg (by simp), vl_lm] at this
  exact this
theorem gcd_inner {c : Code} (hc : lpAt Tryz.f123 1 = some c) {r : Nat → PV} {m : Nat → Blk} {nx u v : Nat} (h4 : r 4 = .ptr 2 0) (h7 : r 7 = .int .u64 (u : Int)) (h9 : r 9 = .int .u64 (v : Int)) (hu : u < 1000000000000000000) (hv : v < 1000000000000000000) :
    ∀ L, execL Pq Xq sq cq 123 (.loop c) ⟨r, ⟨m, nx⟩⟩ = L → ∃ st, L = some (.exit 2, st) ∧ st.M.m = m ∧ st.r 4 = .ptr 2 0 ∧ st.r 7 = .int .u64 (Nat.gcd u v : Nat) := by
  obtain rfl := Option.some.inj (show some _ = some c from hc)
  intro L hL
  obtain ⟨⟨e, st⟩, rfl, rfl, h⟩ := loop_of hL (fun i st => ∃ u' v' : Nat, (i = v' ∧ Nat.gcd u' v' = Nat.gcd u v ∧ u' < 1000000000000000000 ∧ v' < 1000000000000000000) ∧ st.M.m = m ∧ st.r 4 = .ptr 2 0 ∧ st.r 7 = .int .u64 (u' : Int) ∧ st.r 9 = .int .u64 (v' : Int))
    (fun y => y.1 = .exit 2 ∧ y.2.M.m = m ∧ y.2.r 4 = .ptr 2 0 ∧ y.2.r 7 = .int .u64 (Nat.gcd u v : Nat)) ⟨v, u, v, ⟨rfl, rfl, hu, hv⟩, rfl, h4, h7, h9⟩ (by
    clear hc hL
    rintro i ⟨r, ⟨m', nx⟩⟩ ⟨u', v', ⟨rfl, hg, hu', hv'⟩, hm, h4, h7, h9⟩
    dsimp only at hm h4 h7 h9
    subst hm
    by_cases h : 0 < i
    · have n0 : ¬ (i : Int) = 0 := by omega
      simp -implicitDefEqProofs (maxSteps := 5000000) (disch := omega) only [go_sem, h4, h7, h9, n0, Int.tmod_eq_emod_of_nonneg, if_pos, if_neg, dec_t, dec_f, IntWalk.i64_in, IntWalk.u32_in, IntWalk.u64_in, beq_no]
      have := Nat.mod_lt u' h
      exact ⟨u' % i, this, i, u' % i, ⟨rfl, by rw [← gcd_step]; exact hg, by omega, by omega⟩, rfl, by rw [Int.natCast_emod]⟩
    · have : i = 0 := by omega
      subst this
      simp -implicitDefEqProofs (maxSteps := 5000000) (disch := omega) only [go_sem, h4, h7, h9, if_pos, if_neg, dec_t, dec_f, IntWalk.i64_in, IntWalk.u32_in, IntWalk.u64_in, beq_no]
      rw [Nat.gcd_zero_right] at hg
      rw [hg])
  exact ⟨st, rfl, h⟩
theorem gcd_r {a b : Int} (ha : ll a ≤ 900000000) (hb : ll b ≤ 900000000) : Rq 123 [.agg (zI a), .agg (zI b)] = some (.agg (zI (Int.gcd a b : Nat))) := by
  refine RL_of (f := 123) (fn := Tryz.f123) Tryz.func123 rfl rfl rfl (Nat.le_of_ble_eq_true rfl) ?_
  have s1 := abs_r a (by omega)
  have s2 := abs_r b (by omega)
  have hG := igcd a b
  generalize Int.gcd a b = G at *
  simp -implicitDefEqProofs (maxSteps := 5000000) (disch := omega) only [go_sem, s1, s2, ng_cast, if_pos, if_neg, dec_t, dec_f, IntWalk.i64_in, IntWalk.u32_in, IntWalk.u64_in, beq_no]
  generalize hL : execL _ _ _ _ _ (.loop _) _ = L
  obtain ⟨⟨e, r, ⟨m, nx⟩⟩, rfl, hQ⟩ := loop_of hL (fun i st => ∃ X : Nat, (Nat.gcd X i = G ∧ ll (X : Int) ≤ 900000000 ∧ ll (i : Int) ≤ 900000000) ∧ 10 < st.M.nx ∧ st.M.m 2 = .live true 35 [.bool false, .sl false []] ∧ st.M.m 9 = .live true 35 [.bool false, .sl false (us (lm (X : Int)))] ∧ st.M.m 10 = .live true 35 [.bool false, .sl false (us (lm (i : Int)))] ∧ st.r 4 = .ptr 2 0 ∧ st.r 5 = .ptr 9 0 ∧ st.r 6 = .ptr 10 0)
    (fun y => (y.1 = .ret ∧ y.2.r 4 = .ptr 2 0 ∧ y.2.M.m 2 = .live true 35 (zI (G : Int))) ∨ (y.1 = .exit 0 ∧ ll (G : Int) ≤ 900000000 ∧ 10 < y.2.M.nx ∧ y.2.M.m 2 = .live true 35 [.bool false, .sl false []] ∧ y.2.M.m 9 = .live true 35 (zI (G : Int)) ∧ y.2.r 4 = .ptr 2 0 ∧ y.2.r 5 = .ptr 9 0)) ⟨b.natAbs, by
      simp -implicitDefEqProofs (maxSteps := 5000000) (disch := omega) only [go_sem, if_pos, if_neg, dec_t, dec_f, IntWalk.i64_in, IntWalk.u32_in, IntWalk.u64_in, beq_no]
      refine ⟨a.natAbs, ⟨?_, ?_, ?_⟩, ?_⟩
      · exact hG
      · rw [ll_natAbs]; exact ha
      · rw [ll_natAbs]; exact hb
      · rfl⟩ (by
      clear hG hL
      rintro i ⟨r, ⟨m, nx⟩⟩ ⟨X, h1, hnx, hm2, hm9, hm10, h4, h5, h6⟩
      have hg := h1.1
      have hX := h1.2.1
      have hi := h1.2.2
      clear h1
      dsimp only at hnx hm2 hm9 hm10 h4 h5 h6
      have lX := length_lm (X : Int)
      have li := length_lm (i : Int)
      have wX := fun h => word_r (v := X) h
      have wi := fun h => word_r (v := i) h
      have nX := fun h => word_n (v := X) h (by omega)
      have ni := fun h => word_n (v := i) h (by omega)
      simp only [zI_eq, ng_cast, Int.natAbs_natCast] at wX wi nX ni
      by_cases h : 0 < i
      · have l0 : 0 < (lm (i : Int)).length := List.length_pos_iff.2 (by rw [Ne, lm_eq_nil]; omega)
        by_cases hs : ll (X : Int) ≤ 2 ∧ ll (i : Int) ≤ 2
        · simp -implicitDefEqProofs (maxSteps := 5000000) (disch := omega) only [go_sem, hm2, hm9, hm10, h4, h5, h6, wX hs.1, wi hs.2, if_pos, if_neg, dec_t, dec_f, IntWalk.i64_in, IntWalk.u32_in, IntWalk.u64_in, beq_no]
          generalize hL2 : execL _ _ _ _ _ (.loop _) _ = L2
          have b1 := (lt_of_ll hs.1).1
          have b2 := (lt_of_ll hs.2).1
          simp only [pw] at b1 b2
          obtain ⟨⟨r', ⟨m', nx'⟩⟩, rfl, hm, k4, k7⟩ := gcd_inner rfl (u := X) (v := i) (by simp -implicitDefEqProofs only [go_sem, h4]) (by simp -implicitDefEqProofs only [go_sem]) (by simp -implicitDefEqProofs only [go_sem]) (by omega) (by omega) _ hL2
          clear hL2
          dsimp only at hm k4 k7
          subst hm
          rw [hg] at k7
          have gb : (G : Int) < 1000000000000000000 := by
            rw [← hg]
            have := Nat.le_of_dvd h (Nat.gcd_dvd_right X i)
            omega
          have sp := split_r (u := (G : Int)) (by omega) (by omega)
          have sg := signed_r (b := false) (dg_lm 3 (G : Int)) (by rw [dg_length]; omega)
          rw [vl_dg 3 (G : Int) (by omega) (by simp only [pw]; omega), if_neg (by simp)] at sg
          simp -implicitDefEqProofs (maxSteps := 5000000) (disch := omega) only [go_sem, hm2, k4, k7, sp, sg, if_pos, if_neg, dec_t, dec_f, IntWalk.i64_in, IntWalk.u32_in, IntWalk.u64_in, beq_no]
        · obtain ⟨q, t, dv, hq, ht, vq, vt, lq, lt⟩ := divide_r (lm_lm (X : Int)) (lm_lm (i : Int)) (by omega) (by omega) (by rw [vl_cast]; omega)
          rw [vl_cast, vl_cast] at vt
          have sg := signed_r (b := false) ht (by omega)
          rw [if_neg (by simp), vt, ← Int.natCast_emod] at sg
          have rlt := Nat.mod_lt X h
          have lr : ll ((X % i : Nat) : Int) ≤ ll (i : Int) := ll_mono (by omega)
          by_cases hs1 : ll (X : Int) ≤ 2
          · have hs2 : ¬ ll (i : Int) ≤ 2 := fun h => hs ⟨hs1, h⟩
            simp -implicitDefEqProofs (maxSteps := 5000000) (disch := omega) only [go_sem, hm2, hm9, hm10, h4, h5, h6, wX hs1, ni hs2, dv, sg, ng_cast, if_pos, if_neg, dec_t, dec_f, IntWalk.i64_in, IntWalk.u32_in, IntWalk.u64_in, beq_no]
            exact ⟨X % i, rlt, i, ⟨by rw [← gcd_step]; exact hg, hi, by omega⟩, by omega, rfl, rfl⟩
          · by_cases hs2 : ll (i : Int) ≤ 2
            · simp -implicitDefEqProofs (maxSteps := 5000000) (disch := omega) only [go_sem, hm2, hm9, hm10, h4, h5, h6, nX hs1, wi hs2, dv, sg, ng_cast, if_pos, if_neg, dec_t, dec_f, IntWalk.i64_in, IntWalk.u32_in, IntWalk.u64_in, beq_no]
              exact ⟨X % i, rlt, i, ⟨by rw [← gcd_step]; exact hg, hi, by omega⟩, by omega, rfl, rfl⟩
            · simp -implicitDefEqProofs (maxSteps := 5000000) (disch := omega) only [go_sem, hm2, hm9, hm10, h4, h5, h6, nX hs1, ni hs2, dv, sg, ng_cast, if_pos, if_neg, dec_t, dec_f, IntWalk.i64_in, IntWalk.u32_in, IntWalk.u64_in, beq_no]
              exact ⟨X % i, rlt, i, ⟨by rw [← gcd_step]; exact hg, hi, by omega⟩, by omega, rfl, rfl⟩
      · have : i = 0 := by omega
        subst this
        rw [Nat.gcd_zero_right] at hg
        have l0 : lm ((0 : Nat) : Int) = [] := lm_zero
        rw [l0, us_nil] at hm10
        simp -implicitDefEqProofs (maxSteps := 5000000) (disch := omega) only [go_sem, hm2, hm9, hm10, h4, h5, h6, if_pos, if_neg, dec_t, dec_f, IntWalk.i64_in, IntWalk.u32_in, IntWalk.u64_in, beq_no]
        right
        rw [← hg, ng_cast]
        exact ⟨hX, hnx, rfl⟩)
  rcases hQ with ⟨rfl, k4, k2⟩ | ⟨rfl, lG, hnx, k2, k9, k4, k5⟩
  · dsimp only at k4 k2
    simp -implicitDefEqProofs (maxSteps := 5000000) (disch := omega) only [go_sem, k4, k2, ng_cast, if_pos, if_neg, dec_t, dec_f, IntWalk.i64_in, IntWalk.u32_in, IntWalk.u64_in, beq_no]
  · dsimp only at hnx k2 k9 k4 k5
    have lGl := length_lm (G : Int)
    have sg := abs_r (G : Int) (by omega)
    rw [Int.natAbs_natCast] at sg
    by_cases hz : lm (G : Int) = []
    · rw [hz, us_nil] at sg
      simp -implicitDefEqProofs (maxSteps := 5000000) (disch := omega) only [go_sem, k2, k9, k4, k5, sg, hz, us_nil, PV.isSl, ng_cast, if_pos, if_neg, dec_t, dec_f, IntWalk.i64_in, IntWalk.u32_in, IntWalk.u64_in, beq_no]
    · have ap := fun (m : Nat → Blk) (nx : Nat) (e : TypeId) => apY_new (m := m) (nx := nx) (e := e) (z := [.int .u32 0]) hz rfl (by omega)
      simp -implicitDefEqProofs (maxSteps := 5000000) (disch := omega) only [go_sem, k2, k9, k4, k5, sg, ap, ng_cast, gd_us, elems_us, List.take_length, if_pos, if_neg, dec_t, dec_f, IntWalk.i64_in, IntWalk.u32_in, IntWalk.u64_in, beq_no]
end Go.Pi

set_option linter.unusedVariables false
set_option linter.unusedSimpArgs false
set_option maxHeartbeats 4000000
set_option maxRecDepth 8000
/-
Machine words from integers; square roots.
-/
namespace Go.Pi
open Go Go.Proofs Num
theorem int64_no {a : Int} (h : a < -9223372036854775808 ∨ 9223372036854775807 < a) (ha : ll a ≤ 1000000000) : Rq 173 [.agg (zI a)] = some (.tup [.int .i64 0, .bool false]) := by
  refine RL_of (f := 173) (fn := Tryz.f173) Tryz.func173 rfl rfl rfl (Nat.le_of_ble_eq_true rfl) ?_
  have f1 := fromInt64_r (n := -9223372036854775808) (by omega) (by omega)
  have f2 := fromInt64_r (n := 9223372036854775807) (by omega) (by omega)
  have l1 : ll (-9223372036854775808) ≤ 3 := ll_le (by simp only [pw]; omega) (by simp only [pw]; omega)
  have l2 : ll 9223372036854775807 ≤ 3 := ll_le (by simp only [pw]; omega) (by simp only [pw]; omega)
  have c1 := cmp_r (a := a) (b := -9223372036854775808) ha (by omega)
  have c2 := cmp_r (a := a) (b := 9223372036854775807) ha (by omega)
  simp only [zI_eq] at f1 f2 c1 c2
  rcases h with h | h
  · rw [Int.sign_eq_neg_one_of_neg (by omega)] at c1
    simp -implicitDefEqProofs (maxSteps := 5000000) (disch := omega) only [go_sem, f1, c1, if_pos, if_neg, dec_t, dec_f, IntWalk.i64_in, IntWalk.u32_in, IntWalk.u64_in, beq_no]
  · have s1 : ¬ (a - -9223372036854775808).sign < 0 := by
      have := Int.sign_nonneg_iff.2 (show 0 ≤ a - -9223372036854775808 by omega); omega
    rw [Int.sign_eq_one_of_pos (by omega)] at c2
    simp -implicitDefEqProofs (maxSteps := 5000000) (disch := omega) only [go_sem, f1, c1, s1, f2, c2, if_pos, if_neg, dec_t, dec_f, IntWalk.i64_in, IntWalk.u32_in, IntWalk.u64_in, beq_no]
theorem int64_r {a : Int} (h0 : -9223372036854775808 ≤ a) (h1 : a ≤ 9223372036854775807) : Rq 173 [.agg (zI a)] = some (.tup [.int .i64 a, .bool true]) := by
  refine RL_of (f := 173) (fn := Tryz.f173) Tryz.func173 rfl rfl rfl (Nat.le_of_ble_eq_true rfl) ?_
  have f1 := fromInt64_r (n := -9223372036854775808) (by omega) (by omega)
  have f2 := fromInt64_r (n := 9223372036854775807) (by omega) (by omega)
  have l1 : ll (-9223372036854775808) ≤ 3 := ll_le (by simp only [pw]; omega) (by simp only [pw]; omega)
  have l2 : ll 9223372036854775807 ≤ 3 := ll_le (by simp only [pw]; omega) (by simp only [pw]; omega)
  have l3 : ll a ≤ 3 := ll_le (by simp only [pw]; omega) (by simp only [pw]; omega)
  have c1 := cmp_r (a := a) (b := -9223372036854775808) (by omega) (by omega)
  have c2 := cmp_r (a := a) (b := 9223372036854775807) (by omega) (by omega)
  have s1 : ¬ (a - -9223372036854775808).sign < 0 := by
    have := Int.sign_nonneg_iff.2 (show 0 ≤ a - -9223372036854775808 by omega); omega
  have s2 : ¬ 0 < (a - 9223372036854775807).sign := by
    have := Int.sign_nonpos_iff.2 (show a - 9223372036854775807 ≤ 0 by omega); omega
  simp only [zI_eq] at f1 f2 c1 c2
  have la := length_lm a
  have hl := lm_lm a
  have va := vl_lm a
  simp -implicitDefEqProofs (maxSteps := 5000000) (disch := omega) only [go_sem, f1, f2, c1, c2, s1, s2, if_pos, if_neg, dec_t, dec_f, IntWalk.i64_in, IntWalk.u32_in, IntWalk.u64_in, beq_no]
  generalize hL : execL _ _ _ _ _ (.loop _) _ = L
  obtain ⟨⟨e, r, ⟨m, nx⟩⟩, rfl, rfl, hm, k1, k4⟩ := loop_of hL (fun i st => (i ≤ (lm a).length) ∧ st.M.m 0 = .live true 35 [.bool (ng a), .sl false (us (lm a))] ∧ st.r 1 = .ptr 0 0 ∧ st.r 4 = .int .u64 (vl ((lm a).drop i)) ∧ st.r 5 = .int .i64 ((i : Int) - 1))
    (fun y => y.1 = .exit 0 ∧ y.2.M.m 0 = .live true 35 [.bool (ng a), .sl false (us (lm a))] ∧ y.2.r 1 = .ptr 0 0 ∧ y.2.r 4 = .int .u64 a.natAbs) ⟨(lm a).length, by
      simp -implicitDefEqProofs (maxSteps := 5000000) (disch := omega) only [go_sem, if_pos, if_neg, dec_t, dec_f, IntWalk.i64_in, IntWalk.u32_in, IntWalk.u64_in, beq_no]
      rw [List.drop_length]; rfl⟩ (by
    clear hL
    rintro i ⟨r, ⟨m, nx⟩⟩ ⟨hi, hm, k1, k4, k5⟩
    dsimp only at hm k1 k4 k5
    by_cases h : 0 < i
    · have e1 : ((i : Int) - 1).toNat = i - 1 := by omega
      have b1 := lm_getD hl (i - 1)
      have v1 := vl_drop_succ (lm a) (i - 1) (by omega)
      rw [show i - 1 + 1 = i by omega] at v1
      have v2 := vl_nonneg (lm_drop i hl)
      have v3 : vl ((lm a).drop (i - 1)) ≤ 9223372036854775808 := by
        have h1 := vl_split (lm a) (i - 1) (by omega)
        have h2 := vl_nonneg (lm_take (i - 1) hl)
        have h3 := vl_nonneg (lm_drop (i - 1) hl)
        have h4 := pw_pos (i - 1)
        have h5 : 1 * vl ((lm a).drop (i - 1)) ≤ pw (i - 1) * vl ((lm a).drop (i - 1)) := Int.mul_le_mul_of_nonneg_right (by omega) h3
        omega
      simp -implicitDefEqProofs (maxSteps := 5000000) (disch := omega) only [go_sem, hm, k1, k4, k5, e1, if_pos, if_neg, dec_t, dec_f, IntWalk.i64_in, IntWalk.u32_in, IntWalk.u64_in, beq_no]
      refine ⟨i - 1, by omega, by omega, ?_, by congr 1; omega⟩
      rw [v1]; congr 1; omega
    · have : i = 0 := by omega
      subst this
      simp -implicitDefEqProofs (maxSteps := 5000000) (disch := omega) only [go_sem, hm, k1, k4, k5, if_pos, if_neg, dec_t, dec_f, IntWalk.i64_in, IntWalk.u32_in, IntWalk.u64_in, beq_no]
      rw [va])
  dsimp only at hm k1 k4
  by_cases hn : a < 0
  · have w1 : IntKind.u64.wrap (-(a.natAbs : Int)) = a + 18446744073709551616 := by rw [wr_u64]; omega
    have w2 : IntKind.i64.wrap (a + 18446744073709551616) = a := by rw [IntKind.wrap_i64]; omega
    rw [ng_neg hn] at hm
    simp -implicitDefEqProofs (maxSteps := 5000000) (disch := omega) only [go_sem, hm, k1, k4, w1, w2, if_pos, if_neg, dec_t, dec_f, IntWalk.i64_in, IntWalk.u32_in, IntWalk.u64_in, beq_no]
  · have w2 : IntKind.i64.wrap (a.natAbs : Int) = a := by rw [IntKind.wrap_i64]; omega
    rw [ng_nn (by omega)] at hm
    simp -implicitDefEqProofs (maxSteps := 5000000) (disch := omega) only [go_sem, hm, k1, k4, w2, if_pos, if_neg, dec_t, dec_f, IntWalk.i64_in, IntWalk.u32_in, IntWalk.u64_in, beq_no]
/-- The square root, rounded down. -/
noncomputable def rt (a : Int) : Int := by
  classical exact if h : ∃ x : Int, 0 ≤ x ∧ x * x ≤ a ∧ a < (x + 1) * (x + 1) then h.choose else 0
theorem rt_eq {a x : Int} (h0 : 0 ≤ x) (h1 : x * x ≤ a) (h2 : a < (x + 1) * (x + 1)) : rt a = x := by
  have h : ∃ x : Int, 0 ≤ x ∧ x * x ≤ a ∧ a < (x + 1) * (x + 1) := ⟨x, h0, h1, h2⟩
  unfold rt
  rw [dif_pos h]
  obtain ⟨k0, k1, k2⟩ := h.choose_spec
  exact root_unique k0 h0 k1 k2 h1 h2
theorem rt_nn (a : Int) : 0 ≤ rt a := by
  unfold rt
  split
  · rename_i h; exact h.choose_spec.1
  · exact Int.le_refl 0
theorem sqrt_zero : Rq 155 [.agg (zI 0)] = some (.tup [.agg (zI 0), .int .i64 0]) := by
  refine RL_of (f := 155) (fn := Tryz.f155) Tryz.func155 rfl rfl rfl (Nat.le_of_ble_eq_true rfl) ?_
  simp -implicitDefEqProofs (maxSteps := 5000000) (disch := omega) only [go_sem, ng_nn (Int.le_refl 0), lm_zero, us_nil, if_pos, if_neg, dec_t, dec_f, IntWalk.i64_in, IntWalk.u32_in, IntWalk.u64_in, beq_no]
theorem sqrt_r {a : Int} (h0 : 0 < a) (ha : ll a ≤ 800000000) : Rq 155 [.agg (zI a)] = some (.tup [.agg (zI (rt a)), .int .i64 0]) := by
  refine RL_of (f := 155) (fn := Tryz.f155) Tryz.func155 rfl rfl rfl (Nat.le_of_ble_eq_true rfl) ?_
  have la := length_lm a
  have l0 : 0 < (lm a).length := List.length_pos_iff.2 (by rw [Ne, lm_eq_nil]; omega)
  have l0' : ¬ ((lm a).length : Int) = 0 := by omega
  obtain ⟨k, hk⟩ : ∃ k : Nat, k = ((lm a).length + 1) / 2 := ⟨_, rfl⟩
  have e1 : (((lm a).length : Int) + 1) / 2 = k := by omega
  have e2 : (k : Int).toNat = k := by omega
  have zo := zeros_one 0 k
  have hl : Lm (List.replicate k (0 : Int) ++ [1]) := lm_append.2 ⟨lm_rep k, lm_cons.2 ⟨by omega, lm_nil⟩⟩
  have hv : vl (List.replicate k (0 : Int) ++ [1]) = pw k := by rw [vl_snoc, vl_rep, List.length_replicate]; omega
  have sg := signed_r (b := false) hl (by simp; omega)
  rw [if_neg (by simp), hv] at sg
  have ap := fun (m : Nat → Blk) (nx : Nat) (e : TypeId) => apY_grow (m := upd m 2 (.live true 143 (us (List.replicate k 0)))) (id := 2) (nx := nx) (e := e) (x := 1) (len := k) (w := true) (ty := 143) (l := List.replicate k 0) (by simp -implicitDefEqProofs only [go_sem]) (by simp) (by omega)
  have rl : (List.replicate k (0 : Int) ++ [1]).length = k + 1 := by simp
  have f2 := fromInt64_r (n := 2) (by omega) (by omega)
  have pk := pw_pos k
  have ax : a < (pw k + 1) * (pw k + 1) := by
    have h1 := (lt_of_ll (Nat.le_refl (ll a))).1
    have h2 := pw_mono (m := ll a) (n := k + k) (by omega)
    rw [pw_add] at h2
    have h3 : (pw k + 1) * (pw k + 1) = pw k * pw k + 2 * pw k + 1 := by grind
    omega
  simp -implicitDefEqProofs (maxSteps := 5000000) (disch := omega) only [go_sem, ng_nn (Int.le_of_lt h0), l0', e1, e2, zo, ap, sg, gd_us, elems_us, rl, f2, Int.tdiv_eq_ediv_of_nonneg, List.take_of_length_le, if_pos, if_neg, dec_t, dec_f, IntWalk.i64_in, IntWalk.u32_in, IntWalk.u64_in, beq_no]
  generalize hL : execL _ _ _ _ _ (.loop _) _ = L
  have lk : ll (pw k) ≤ k + 1 := ll_le (by rw [pw_succ]; omega) (by have := pw_pos (k + 1); omega)
  obtain ⟨⟨e, r, ⟨m, nx⟩⟩, rfl, rfl, hm1, h2, h3⟩ := loop_of hL (fun i st => ∃ x : Int, (i = x.toNat ∧ 0 < x ∧ ll x ≤ 800000001 ∧ a < (x + 1) * (x + 1)) ∧ 5 < st.M.nx ∧ st.M.m 0 = .live true 35 [.bool false, .sl false (us (lm a))] ∧ st.M.m 1 = .live true 35 [.bool false, .sl false []] ∧ st.M.m 4 = .live true 35 [.bool false, .sl false (us (lm x))] ∧ st.M.m 5 = .live true 35 [.bool false, .sl false (us (lm 2))] ∧ st.r 1 = .ptr 0 0 ∧ st.r 2 = .ptr 1 0 ∧ st.r 5 = .ptr 4 0 ∧ st.r 6 = .ptr 5 0)
    (fun y => y.1 = .ret ∧ y.2.M.m 1 = .live true 35 [.bool false, .sl false (us (lm (rt a)))] ∧ y.2.r 2 = .ptr 1 0 ∧ y.2.r 3 = .int .i64 0) ⟨(pw k).toNat, pw k, by
      simp -implicitDefEqProofs (maxSteps := 5000000) (disch := omega) only [go_sem, ng_nn (Int.le_of_lt pk), ng_nn (show (0 : Int) ≤ 2 by omega), if_pos, if_neg, dec_t, dec_f, IntWalk.i64_in, IntWalk.u32_in, IntWalk.u64_in, beq_no]
      exact ⟨pk, by omega, ax⟩⟩ (by
    clear hL
    rintro i ⟨r, ⟨m, nx⟩⟩ ⟨x, ⟨rfl, x0, xl, xa⟩, hnx, hm0, hm1, hm4, hm5, h1, h2, h5, h6⟩
    dsimp only at hnx hm0 hm1 hm4 hm5 h1 h2 h5 h6
    have q0 : 0 ≤ a / x := Int.ediv_nonneg (by omega) (by omega)
    have q1 := Int.mul_ediv_add_emod a x
    have q2 := Int.emod_nonneg a (show x ≠ 0 by omega)
    have q3 := Int.emod_lt_of_pos a x0
    have q4 : ll (a / x) ≤ 800000000 := Nat.le_trans (ll_mono (by have := Int.ediv_le_self x (show 0 ≤ a by omega); omega)) ha
    have dv := divMod_r (a := a) (b := x) (by omega) (by omega) (by omega)
    rw [Int.fdiv_eq_ediv_of_nonneg _ (by omega), Int.fmod_eq_emod_of_nonneg _ (by omega)] at dv
    generalize hq : a / x = q at *
    have ad := add_r (a := x) (b := q) (by omega) (by omega)
    have al := ll_add x q
    have d2 := divMod_r (a := x + q) (b := 2) (by omega) (by have := ll_small (v := 2) (by omega) (by omega); omega) (by omega)
    rw [Int.fdiv_eq_ediv_of_nonneg _ (by omega), Int.fmod_eq_emod_of_nonneg _ (by omega)] at d2
    have yl : ll ((x + q) / 2) ≤ 900000000 := Nat.le_trans (ll_mono (b := x + q) (by omega)) (by omega)
    have y0 : 0 ≤ (x + q) / 2 := by omega
    have cm := cmp_r (a := (x + q) / 2) (b := x) (by omega) (by omega)
    have ny := newton_up (a := a) (x := x) (q := q) (y := (x + q) / 2) x0 (by rw [Int.mul_add]; omega) (by omega) q0
    have ns := newton_stop (a := a) (x := x) (q := q) (y := (x + q) / 2) x0 (by omega) (by omega)
    generalize hy : (x + q) / 2 = y at *
    have n1 := ng_nn (Int.le_of_lt x0)
    have n2 := ng_nn q0
    have n3 := ng_nn y0
    have n4 := ng_nn (show (0 : Int) ≤ 2 by omega)
    have n5 := ng_nn (show (0 : Int) ≤ x + q by omega)
    have n6 := ng_nn (Int.le_of_lt h0)
    simp only [zI_eq, n1, n2, n3, n4, n5, n6] at dv ad d2 cm
    clear q1 q3 hq hy
    by_cases hc : x ≤ y
    · have hr : rt a = x := rt_eq (by omega) (ns hc) xa
      have s1 := Int.sign_nonneg_iff.2 (show 0 ≤ y - x by omega)
      clear ns ny xa
      simp -implicitDefEqProofs (maxSteps := 5000000) (disch := omega) only [go_sem, hm0, hm1, hm4, hm5, h1, h2, h5, h6, dv, ad, d2, cm, s1, n1, n2, n3, if_pos, if_neg, dec_t, dec_f, IntWalk.i64_in, IntWalk.u32_in, IntWalk.u64_in, beq_no]
      rw [hr]
    · have s1 := Int.sign_eq_neg_one_of_neg (show y - x < 0 by omega)
      clear ns xa
      simp -implicitDefEqProofs (maxSteps := 5000000) (disch := omega) only [go_sem, hm0, hm1, hm4, hm5, h1, h2, h5, h6, dv, ad, d2, cm, s1, n1, n2, n3, if_pos, if_neg, dec_t, dec_f, IntWalk.i64_in, IntWalk.u32_in, IntWalk.u64_in, beq_no]
      have yp : 0 < y := by
        rcases Int.lt_or_eq_of_le y0 with h | h
        · exact h
        · subst h; omega
      exact ⟨y.toNat, by omega, y, ⟨rfl, yp, Nat.le_trans (ll_mono (by omega)) xl, ny⟩, by omega, rfl⟩)
  dsimp only at hm1 h2 h3
  simp -implicitDefEqProofs (maxSteps := 5000000) (disch := omega) only [go_sem, hm1, h2, h3, ng_nn (rt_nn a), if_pos, if_neg, dec_t, dec_f, IntWalk.i64_in, IntWalk.u32_in, IntWalk.u64_in, beq_no]
end Go.Pi
