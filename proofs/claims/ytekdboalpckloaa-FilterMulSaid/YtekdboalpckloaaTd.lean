/- What is proved: the reference: products, square roots, roots and sides of intervals. No conditions beyond those in the statements. -/
import Derived.Test.YtekdboalpckloaaTc
set_option linter.unusedVariables false
set_option linter.unusedSimpArgs false
set_option maxHeartbeats 4000000
set_option maxRecDepth 8000
/-
Products of intervals: the reference.
-/
namespace Go.Pi
open Go Go.Proofs Num
theorem divInt_1 : Rat.divInt 1 65536 * 65536 = 1 := by decide +kernel
theorem floor_sl (x y : Int) : ((x : Rat) * (y : Rat) * Rat.divInt 1 65536).floor = sl x y := by
  unfold sl
  have h1 : 65536 * (x * y / 65536) ≤ x * y := Int.mul_ediv_self_le (by omega)
  have h2 : x * y < 65536 * (x * y / 65536) + 65536 := Int.lt_mul_ediv_self_add (by omega)
  generalize x * y / 65536 = n at *
  have k1 : ((65536 * n : Int) : Rat) ≤ ((x * y : Int) : Rat) := Rat.intCast_le_intCast.2 h1
  have k2 : ((x * y : Int) : Rat) < ((65536 * n + 65536 : Int) : Rat) := Rat.intCast_lt_intCast.2 h2
  rw [Rat.intCast_add, Rat.intCast_mul, Rat.intCast_mul] at k2
  rw [Rat.intCast_mul, Rat.intCast_mul] at k1
  have e : ((65536 : Int) : Rat) = 65536 := rfl
  rw [e] at k1 k2
  have d := divInt_1
  generalize Rat.divInt 1 65536 = t at *
  have t0 : t = 1 / 65536 := by grind
  subst t0
  refine floor_of ?_ ?_ <;> grind
theorem ceil_su (x y : Int) : ceil ((x : Rat) * (y : Rat) * Rat.divInt 1 65536) = su x y := by
  unfold ceil su
  have := floor_sl (-x) y
  unfold sl at this
  rw [Rat.intCast_neg, Rat.neg_mul, Rat.neg_mul, Int.neg_mul] at this
  rw [this]
theorem mul4_round {c : Code} (hc : lpAt Try.f24 1 = some c) {r : Nat → PV} {m : Nat → Blk} {nx : Nat} {xs ys : List PV} {i k x y lw hg : Int} {b2 : Blk}
    (h6 : r 6 = .sl true xs) (h7 : r 7 = .sl true ys) (h10 : r 10 = .int .i64 i) (h11 : r 11 = .int .i64 k) (h8 : r 8 = .ptr 3 0) (h9 : r 9 = .ptr 4 0) (h4 : r 4 = .ptr 2 0)
    (hx : xs[i.toNat]? = some (.int .i64 x)) (hy : ys[k.toNat]? = some (.int .i64 y)) (hi : 0 ≤ i ∧ i < 2) (hk : 0 ≤ k ∧ k < 2) (hnx : 4 < nx)
    (x0 : -9223372036854775808 ≤ x) (x1 : x ≤ 9223372036854775807) (y0 : -9223372036854775808 ≤ y) (y1 : y ≤ 9223372036854775807) (ll0 : ll lw ≤ 1000) (ll1 : ll hg ≤ 1000)
    (hm2 : m 2 = b2) (hm3 : m 3 = .live true 24 (zI lw)) (hm4 : m 4 = .live true 24 (zI hg)) :
    ∀ L, execL Pq Xq sq cq 24 c ⟨r, ⟨m, nx⟩⟩ = L → ∃ st, L = some (.normal, st) ∧ 4 < st.M.nx ∧ st.r 6 = .sl true xs ∧ st.r 7 = .sl true ys ∧ st.r 10 = .int .i64 i ∧ st.r 11 = .int .i64 (k + 1) ∧ st.r 8 = .ptr 3 0 ∧ st.r 9 = .ptr 4 0 ∧ st.r 4 = .ptr 2 0 ∧ st.M.m 2 = b2 ∧
      st.M.m 3 = .live true 24 (zI (if i + k = 0 then sl x y else min lw (sl x y))) ∧ st.M.m 4 = .live true 24 (zI (if i + k = 0 then su x y else max hg (su x y))) := by
  obtain rfl := Option.some.inj (show some _ = some c from hc)
  clear hc
  rintro L rfl
  have lx := ll_64 x0 x1
  have ly := ll_64 y0 y1
  have rx := rl_int x
  have ry := rl_int y
  have l1 := ll_64 (n := 1) (by omega) (by omega)
  have l2 := ll_64 (n := 65536) (by omega) (by omega)
  have e1 := floor_sl x y
  have e2 := ceil_su x y
  have ls : ll (sl x y) ≤ 20 := by
    have := ll_div (a := x * y) (b := 65536) (by omega)
    have := ll_mul x y
    unfold sl; omega
  have lu : ll (su x y) ≤ 20 := by
    have := ll_div (a := -(x * y)) (b := 65536) (by omega)
    have := ll_mul x y
    rw [ll_neg] at *
    unfold su; rw [ll_neg]; omega
  have c1 := cmp'_r (a := sl x y) (b := lw) (by omega) (by omega)
  have c2 := cmp'_r (a := su x y) (b := hg) (by omega) (by omega)
  simp only [zI_eq] at hm3 hm4 c1 c2
  by_cases hf : i + k = 0
  · rw [if_pos hf, if_pos hf]
    have hi0 : i = 0 := by omega
    have hk0 : k = 0 := by omega
    subst hi0; subst hk0
    rw [Int.toNat_zero] at hx hy
    simp -implicitDefEqProofs (disch := first | omega | (with_reducible apply Nat.le_trans; (focus (repeat' (first | with_reducible apply rb_mul | with_reducible apply rb_add | with_reducible apply rb_sub | with_reducible apply rb_neg | with_reducible apply rb_divInt | with_reducible apply rb_int | with_reducible apply lb_mul | with_reducible apply lb_add | with_reducible apply lb_sub | with_reducible apply lb_neg | exact Nat.le_refl _))); omega)) only [go_sem, h6, h7, h10, h11, h8, h9, h4, hx, hy, hm2, hm3, hm4, e1, e2, Option.some.injEq, Prod.mk.injEq, if_pos, if_neg, dec_t, dec_f, IntWalk.i64_in, IntWalk.u32_in, IntWalk.u64_in, beq_no]
    exact ⟨_, rfl, by dsimp only; omega, by simp -implicitDefEqProofs (disch := omega) only [go_sem, h6, if_pos, if_neg, dec_t, dec_f, IntWalk.i64_in, IntWalk.u32_in, IntWalk.u64_in, beq_no], by simp -implicitDefEqProofs (disch := omega) only [go_sem, h7, if_pos, if_neg, dec_t, dec_f, IntWalk.i64_in, IntWalk.u32_in, IntWalk.u64_in, beq_no], by simp -implicitDefEqProofs (disch := omega) only [go_sem, h10, if_pos, if_neg, dec_t, dec_f, IntWalk.i64_in, IntWalk.u32_in, IntWalk.u64_in, beq_no], by simp -implicitDefEqProofs (disch := omega) only [go_sem, if_pos, if_neg, dec_t, dec_f, IntWalk.i64_in, IntWalk.u32_in, IntWalk.u64_in, beq_no], by simp -implicitDefEqProofs (disch := omega) only [go_sem, h8, if_pos, if_neg, dec_t, dec_f, IntWalk.i64_in, IntWalk.u32_in, IntWalk.u64_in, beq_no], by simp -implicitDefEqProofs (disch := omega) only [go_sem, h9, if_pos, if_neg, dec_t, dec_f, IntWalk.i64_in, IntWalk.u32_in, IntWalk.u64_in, beq_no], by simp -implicitDefEqProofs (disch := omega) only [go_sem, h4, if_pos, if_neg, dec_t, dec_f, IntWalk.i64_in, IntWalk.u32_in, IntWalk.u64_in, beq_no], by simp -implicitDefEqProofs (disch := omega) only [go_sem, hm2, if_pos, if_neg, dec_t, dec_f, IntWalk.i64_in, IntWalk.u32_in, IntWalk.u64_in, beq_no], by simp -implicitDefEqProofs (disch := omega) only [go_sem, if_pos, if_neg, dec_t, dec_f, IntWalk.i64_in, IntWalk.u32_in, IntWalk.u64_in, beq_no], by simp -implicitDefEqProofs (disch := omega) only [go_sem, if_pos, if_neg, dec_t, dec_f, IntWalk.i64_in, IntWalk.u32_in, IntWalk.u64_in, beq_no]⟩
  · rw [if_neg hf, if_neg hf]
    by_cases g1 : sl x y < lw
    · rw [Int.sign_eq_neg_one_of_neg (by omega)] at c1
      rw [show min lw (sl x y) = sl x y by omega]
      by_cases g2 : hg < su x y
      · rw [Int.sign_eq_one_of_pos (by omega)] at c2
        rw [show max hg (su x y) = su x y by omega]
        simp -implicitDefEqProofs (disch := first | omega | (with_reducible apply Nat.le_trans; (focus (repeat' (first | with_reducible apply rb_mul | with_reducible apply rb_add | with_reducible apply rb_sub | with_reducible apply rb_neg | with_reducible apply rb_divInt | with_reducible apply rb_int | with_reducible apply lb_mul | with_reducible apply lb_add | with_reducible apply lb_sub | with_reducible apply lb_neg | exact Nat.le_refl _))); omega)) only [go_sem, h6, h7, h10, h11, h8, h9, h4, hx, hy, hm2, hm3, hm4, e1, e2, c1, c2, if_pos, if_neg, dec_t, dec_f, IntWalk.i64_in, IntWalk.u32_in, IntWalk.u64_in, beq_no]
        exact ⟨_, rfl, by dsimp only; omega, by simp -implicitDefEqProofs (disch := omega) only [go_sem, h6, if_pos, if_neg, dec_t, dec_f, IntWalk.i64_in, IntWalk.u32_in, IntWalk.u64_in, beq_no], by simp -implicitDefEqProofs (disch := omega) only [go_sem, h7, if_pos, if_neg, dec_t, dec_f, IntWalk.i64_in, IntWalk.u32_in, IntWalk.u64_in, beq_no], by simp -implicitDefEqProofs (disch := omega) only [go_sem, h10, if_pos, if_neg, dec_t, dec_f, IntWalk.i64_in, IntWalk.u32_in, IntWalk.u64_in, beq_no], by simp -implicitDefEqProofs (disch := omega) only [go_sem, if_pos, if_neg, dec_t, dec_f, IntWalk.i64_in, IntWalk.u32_in, IntWalk.u64_in, beq_no], by simp -implicitDefEqProofs (disch := omega) only [go_sem, h8, if_pos, if_neg, dec_t, dec_f, IntWalk.i64_in, IntWalk.u32_in, IntWalk.u64_in, beq_no], by simp -implicitDefEqProofs (disch := omega) only [go_sem, h9, if_pos, if_neg, dec_t, dec_f, IntWalk.i64_in, IntWalk.u32_in, IntWalk.u64_in, beq_no], by simp -implicitDefEqProofs (disch := omega) only [go_sem, h4, if_pos, if_neg, dec_t, dec_f, IntWalk.i64_in, IntWalk.u32_in, IntWalk.u64_in, beq_no], by simp -implicitDefEqProofs (disch := omega) only [go_sem, hm2, if_pos, if_neg, dec_t, dec_f, IntWalk.i64_in, IntWalk.u32_in, IntWalk.u64_in, beq_no], by simp -implicitDefEqProofs (disch := omega) only [go_sem, if_pos, if_neg, dec_t, dec_f, IntWalk.i64_in, IntWalk.u32_in, IntWalk.u64_in, beq_no], by simp -implicitDefEqProofs (disch := omega) only [go_sem, if_pos, if_neg, dec_t, dec_f, IntWalk.i64_in, IntWalk.u32_in, IntWalk.u64_in, beq_no]⟩
      · have s2 : ¬ 0 < (su x y - hg).sign := by
          have := Int.sign_nonpos_iff.2 (show su x y - hg ≤ 0 by omega); omega
        rw [show max hg (su x y) = hg by omega]
        simp -implicitDefEqProofs (disch := first | omega | (with_reducible apply Nat.le_trans; (focus (repeat' (first | with_reducible apply rb_mul | with_reducible apply rb_add | with_reducible apply rb_sub | with_reducible apply rb_neg | with_reducible apply rb_divInt | with_reducible apply rb_int | with_reducible apply lb_mul | with_reducible apply lb_add | with_reducible apply lb_sub | with_reducible apply lb_neg | exact Nat.le_refl _))); omega)) only [go_sem, h6, h7, h10, h11, h8, h9, h4, hx, hy, hm2, hm3, hm4, e1, e2, c1, c2, s2, if_pos, if_neg, dec_t, dec_f, IntWalk.i64_in, IntWalk.u32_in, IntWalk.u64_in, beq_no]
        exact ⟨_, rfl, by dsimp only; omega, by simp -implicitDefEqProofs (disch := omega) only [go_sem, h6, if_pos, if_neg, dec_t, dec_f, IntWalk.i64_in, IntWalk.u32_in, IntWalk.u64_in, beq_no], by simp -implicitDefEqProofs (disch := omega) only [go_sem, h7, if_pos, if_neg, dec_t, dec_f, IntWalk.i64_in, IntWalk.u32_in, IntWalk.u64_in, beq_no], by simp -implicitDefEqProofs (disch := omega) only [go_sem, h10, if_pos, if_neg, dec_t, dec_f, IntWalk.i64_in, IntWalk.u32_in, IntWalk.u64_in, beq_no], by simp -implicitDefEqProofs (disch := omega) only [go_sem, if_pos, if_neg, dec_t, dec_f, IntWalk.i64_in, IntWalk.u32_in, IntWalk.u64_in, beq_no], by simp -implicitDefEqProofs (disch := omega) only [go_sem, h8, if_pos, if_neg, dec_t, dec_f, IntWalk.i64_in, IntWalk.u32_in, IntWalk.u64_in, beq_no], by simp -implicitDefEqProofs (disch := omega) only [go_sem, h9, if_pos, if_neg, dec_t, dec_f, IntWalk.i64_in, IntWalk.u32_in, IntWalk.u64_in, beq_no], by simp -implicitDefEqProofs (disch := omega) only [go_sem, h4, if_pos, if_neg, dec_t, dec_f, IntWalk.i64_in, IntWalk.u32_in, IntWalk.u64_in, beq_no], by simp -implicitDefEqProofs (disch := omega) only [go_sem, hm2, if_pos, if_neg, dec_t, dec_f, IntWalk.i64_in, IntWalk.u32_in, IntWalk.u64_in, beq_no], by simp -implicitDefEqProofs (disch := omega) only [go_sem, if_pos, if_neg, dec_t, dec_f, IntWalk.i64_in, IntWalk.u32_in, IntWalk.u64_in, beq_no], by simp -implicitDefEqProofs (disch := omega) only [go_sem, hm4, if_pos, if_neg, dec_t, dec_f, IntWalk.i64_in, IntWalk.u32_in, IntWalk.u64_in, beq_no]⟩
    · have s1 : ¬ (sl x y - lw).sign < 0 := by
        have := Int.sign_nonneg_iff.2 (show 0 ≤ sl x y - lw by omega); omega
      rw [show min lw (sl x y) = lw by omega]
      by_cases g2 : hg < su x y
      · rw [Int.sign_eq_one_of_pos (by omega)] at c2
        rw [show max hg (su x y) = su x y by omega]
        simp -implicitDefEqProofs (disch := first | omega | (with_reducible apply Nat.le_trans; (focus (repeat' (first | with_reducible apply rb_mul | with_reducible apply rb_add | with_reducible apply rb_sub | with_reducible apply rb_neg | with_reducible apply rb_divInt | with_reducible apply rb_int | with_reducible apply lb_mul | with_reducible apply lb_add | with_reducible apply lb_sub | with_reducible apply lb_neg | exact Nat.le_refl _))); omega)) only [go_sem, h6, h7, h10, h11, h8, h9, h4, hx, hy, hm2, hm3, hm4, e1, e2, c1, c2, s1, if_pos, if_neg, dec_t, dec_f, IntWalk.i64_in, IntWalk.u32_in, IntWalk.u64_in, beq_no]
        exact ⟨_, rfl, by dsimp only; omega, by simp -implicitDefEqProofs (disch := omega) only [go_sem, h6, if_pos, if_neg, dec_t, dec_f, IntWalk.i64_in, IntWalk.u32_in, IntWalk.u64_in, beq_no], by simp -implicitDefEqProofs (disch := omega) only [go_sem, h7, if_pos, if_neg, dec_t, dec_f, IntWalk.i64_in, IntWalk.u32_in, IntWalk.u64_in, beq_no], by simp -implicitDefEqProofs (disch := omega) only [go_sem, h10, if_pos, if_neg, dec_t, dec_f, IntWalk.i64_in, IntWalk.u32_in, IntWalk.u64_in, beq_no], by simp -implicitDefEqProofs (disch := omega) only [go_sem, if_pos, if_neg, dec_t, dec_f, IntWalk.i64_in, IntWalk.u32_in, IntWalk.u64_in, beq_no], by simp -implicitDefEqProofs (disch := omega) only [go_sem, h8, if_pos, if_neg, dec_t, dec_f, IntWalk.i64_in, IntWalk.u32_in, IntWalk.u64_in, beq_no], by simp -implicitDefEqProofs (disch := omega) only [go_sem, h9, if_pos, if_neg, dec_t, dec_f, IntWalk.i64_in, IntWalk.u32_in, IntWalk.u64_in, beq_no], by simp -implicitDefEqProofs (disch := omega) only [go_sem, h4, if_pos, if_neg, dec_t, dec_f, IntWalk.i64_in, IntWalk.u32_in, IntWalk.u64_in, beq_no], by simp -implicitDefEqProofs (disch := omega) only [go_sem, hm2, if_pos, if_neg, dec_t, dec_f, IntWalk.i64_in, IntWalk.u32_in, IntWalk.u64_in, beq_no], by simp -implicitDefEqProofs (disch := omega) only [go_sem, hm3, if_pos, if_neg, dec_t, dec_f, IntWalk.i64_in, IntWalk.u32_in, IntWalk.u64_in, beq_no], by simp -implicitDefEqProofs (disch := omega) only [go_sem, if_pos, if_neg, dec_t, dec_f, IntWalk.i64_in, IntWalk.u32_in, IntWalk.u64_in, beq_no]⟩
      · have s2 : ¬ 0 < (su x y - hg).sign := by
          have := Int.sign_nonpos_iff.2 (show su x y - hg ≤ 0 by omega); omega
        rw [show max hg (su x y) = hg by omega]
        simp -implicitDefEqProofs (disch := first | omega | (with_reducible apply Nat.le_trans; (focus (repeat' (first | with_reducible apply rb_mul | with_reducible apply rb_add | with_reducible apply rb_sub | with_reducible apply rb_neg | with_reducible apply rb_divInt | with_reducible apply rb_int | with_reducible apply lb_mul | with_reducible apply lb_add | with_reducible apply lb_sub | with_reducible apply lb_neg | exact Nat.le_refl _))); omega)) only [go_sem, h6, h7, h10, h11, h8, h9, h4, hx, hy, hm2, hm3, hm4, e1, e2, c1, c2, s1, s2, if_pos, if_neg, dec_t, dec_f, IntWalk.i64_in, IntWalk.u32_in, IntWalk.u64_in, beq_no]
        exact ⟨_, rfl, by dsimp only; omega, by simp -implicitDefEqProofs (disch := omega) only [go_sem, h6, if_pos, if_neg, dec_t, dec_f, IntWalk.i64_in, IntWalk.u32_in, IntWalk.u64_in, beq_no], by simp -implicitDefEqProofs (disch := omega) only [go_sem, h7, if_pos, if_neg, dec_t, dec_f, IntWalk.i64_in, IntWalk.u32_in, IntWalk.u64_in, beq_no], by simp -implicitDefEqProofs (disch := omega) only [go_sem, h10, if_pos, if_neg, dec_t, dec_f, IntWalk.i64_in, IntWalk.u32_in, IntWalk.u64_in, beq_no], by simp -implicitDefEqProofs (disch := omega) only [go_sem, if_pos, if_neg, dec_t, dec_f, IntWalk.i64_in, IntWalk.u32_in, IntWalk.u64_in, beq_no], by simp -implicitDefEqProofs (disch := omega) only [go_sem, h8, if_pos, if_neg, dec_t, dec_f, IntWalk.i64_in, IntWalk.u32_in, IntWalk.u64_in, beq_no], by simp -implicitDefEqProofs (disch := omega) only [go_sem, h9, if_pos, if_neg, dec_t, dec_f, IntWalk.i64_in, IntWalk.u32_in, IntWalk.u64_in, beq_no], by simp -implicitDefEqProofs (disch := omega) only [go_sem, h4, if_pos, if_neg, dec_t, dec_f, IntWalk.i64_in, IntWalk.u32_in, IntWalk.u64_in, beq_no], by simp -implicitDefEqProofs (disch := omega) only [go_sem, hm2, if_pos, if_neg, dec_t, dec_f, IntWalk.i64_in, IntWalk.u32_in, IntWalk.u64_in, beq_no], by simp -implicitDefEqProofs (disch := omega) only [go_sem, hm3, if_pos, if_neg, dec_t, dec_f, IntWalk.i64_in, IntWalk.u32_in, IntWalk.u64_in, beq_no], by simp -implicitDefEqProofs (disch := omega) only [go_sem, hm4, if_pos, if_neg, dec_t, dec_f, IntWalk.i64_in, IntWalk.u32_in, IntWalk.u64_in, beq_no]⟩
theorem muF_of {x y u v : Int} : muF (x, y) (u, v) = ofF (min (min (min (sl x u) (sl x v)) (sl y u)) (sl y v)) (max (max (max (su x u) (su x v)) (su y u)) (su y v)) := by
  have c : ∀ x y : Int, sl x y ≤ su x y := fun x y => ceil_ge (by omega)
  have c1 := c x u
  have c2 := c x v
  have c3 := c y u
  have c4 := c y v
  by_cases k : okS x u ∧ okS x v ∧ okS y u ∧ okS y v
  · rw [muF_yes k]
    unfold okS at k
    dsimp only
    rw [ofF_yes (by omega)]
    congr 2 <;> omega
  · rw [muF_no k]
    unfold okS at k
    rw [ofF_no (by omega)]
theorem mul4_r {x y u v : Int} (p : Pr (x, y)) (q : Pr (u, v)) : Rq 24 [.agg [.int .i64 x, .int .i64 y], .agg [.int .i64 u, .int .i64 v]] = some (pI (muF (x, y) (u, v))) := by
  obtain ⟨p1, p2, p3⟩ := p
  obtain ⟨q1, q2, q3⟩ := q
  dsimp only at p1 p2 p3 q1 q2 q3
  rw [muF_of]
  refine RL_of (f := 24) (fn := Try.f24) Try.func24 rfl rfl rfl (Nat.le_of_ble_eq_true rfl) ?_
  have lb : ∀ x y : Int, -2305843009213693952 ≤ x ∧ x ≤ 2305843009213693952 → -2305843009213693952 ≤ y ∧ y ≤ 2305843009213693952 → ll (sl x y) ≤ 20 ∧ ll (su x y) ≤ 20 := fun x y hx hy => by
    have lx := ll_64 (n := x) (by omega) (by omega)
    have ly := ll_64 (n := y) (by omega) (by omega)
    have a1 := ll_div (a := x * y) (b := 65536) (by omega)
    have a2 := ll_mul x y
    have a3 := ll_div (a := -(x * y)) (b := 65536) (by omega)
    rw [ll_neg] at a3
    unfold sl su
    rw [ll_neg]
    omega
  have lmin : ∀ a b : Int, ll a ≤ 20 → ll b ≤ 20 → ll (min a b) ≤ 20 := fun a b ha hb => by
    rw [Int.min_def]; split <;> assumption
  have lmax : ∀ a b : Int, ll a ≤ 20 → ll b ≤ 20 → ll (max a b) ≤ 20 := fun a b ha hb => by
    rw [Int.max_def]; split <;> assumption
  have b1 := lb x u (by omega) (by omega)
  have b2 := lb x v (by omega) (by omega)
  have b3 := lb y u (by omega) (by omega)
  have b4 := lb y v (by omega) (by omega)
  have m1 := lmin _ _ b1.1 b2.1
  have m2 := lmin _ _ m1 b3.1
  have m3 := lmin _ _ m2 b4.1
  have n1 := lmax _ _ b1.2 b2.2
  have n2 := lmax _ _ n1 b3.2
  have n3 := lmax _ _ n2 b4.2
  have o := of4_r (l := min (min (min (sl x u) (sl x v)) (sl y u)) (sl y v)) (h := max (max (max (su x u) (su x v)) (su y u)) (su y v)) (by omega) (by omega)
  simp -implicitDefEqProofs (disch := omega) only [go_sem, if_pos, if_neg, dec_t, dec_f, IntWalk.i64_in, IntWalk.u32_in, IntWalk.u64_in, beq_no]
  rw [xL_loop]
  simp -implicitDefEqProofs (disch := omega) only [go_sem, if_pos, if_neg, dec_t, dec_f, IntWalk.i64_in, IntWalk.u32_in, IntWalk.u64_in, beq_no]
  rw [xL_loop]
  generalize hL : execL _ _ _ _ _ _ (St.mk _ _) = L
  obtain ⟨⟨r1, ⟨m1, nx1⟩⟩, rfl, g0, g6, g7, g10, g11, g8, g9, g4, gm2, gm3, gm4⟩ := mul4_round (c := _) rfl (xs := [.int .i64 x, .int .i64 y]) (ys := [.int .i64 u, .int .i64 v]) (i := 0) (k := 0) (x := x) (y := u) (lw := 0) (hg := 0) (by simp -implicitDefEqProofs (disch := omega) only [go_sem, ng_nn (Int.le_refl 0), lm_zero, us_nil, if_pos, if_neg, dec_t, dec_f, IntWalk.i64_in, IntWalk.u32_in, IntWalk.u64_in, beq_no]) (by simp -implicitDefEqProofs (disch := omega) only [go_sem, ng_nn (Int.le_refl 0), lm_zero, us_nil, if_pos, if_neg, dec_t, dec_f, IntWalk.i64_in, IntWalk.u32_in, IntWalk.u64_in, beq_no]) (by simp -implicitDefEqProofs (disch := omega) only [go_sem, ng_nn (Int.le_refl 0), lm_zero, us_nil, if_pos, if_neg, dec_t, dec_f, IntWalk.i64_in, IntWalk.u32_in, IntWalk.u64_in, beq_no]) (by simp -implicitDefEqProofs (disch := omega) only [go_sem, ng_nn (Int.le_refl 0), lm_zero, us_nil, if_pos, if_neg, dec_t, dec_f, IntWalk.i64_in, IntWalk.u32_in, IntWalk.u64_in, beq_no]) (by simp -implicitDefEqProofs (disch := omega) only [go_sem, ng_nn (Int.le_refl 0), lm_zero, us_nil, if_pos, if_neg, dec_t, dec_f, IntWalk.i64_in, IntWalk.u32_in, IntWalk.u64_in, beq_no]) (by simp -implicitDefEqProofs (disch := omega) only [go_sem, ng_nn (Int.le_refl 0), lm_zero, us_nil, if_pos, if_neg, dec_t, dec_f, IntWalk.i64_in, IntWalk.u32_in, IntWalk.u64_in, beq_no]) (by simp -implicitDefEqProofs (disch := omega) only [go_sem, ng_nn (Int.le_refl 0), lm_zero, us_nil, if_pos, if_neg, dec_t, dec_f, IntWalk.i64_in, IntWalk.u32_in, IntWalk.u64_in, beq_no]) rfl rfl (by omega) (by omega) (by omega) (by omega) (by omega) (by omega) (by omega) (by rw [ll_zero]; omega) (by rw [ll_zero]; omega) (by simp -implicitDefEqProofs (disch := omega) only [go_sem, ng_nn (Int.le_refl 0), lm_zero, us_nil, if_pos, if_neg, dec_t, dec_f, IntWalk.i64_in, IntWalk.u32_in, IntWalk.u64_in, beq_no]; rfl) (by simp -implicitDefEqProofs (disch := omega) only [go_sem, ng_nn (Int.le_refl 0), lm_zero, us_nil, if_pos, if_neg, dec_t, dec_f, IntWalk.i64_in, IntWalk.u32_in, IntWalk.u64_in, beq_no]) (by simp -implicitDefEqProofs (disch := omega) only [go_sem, ng_nn (Int.le_refl 0), lm_zero, us_nil, if_pos, if_neg, dec_t, dec_f, IntWalk.i64_in, IntWalk.u32_in, IntWalk.u64_in, beq_no]) _ hL
  clear hL
  dsimp only at g0 g6 g7 g10 g11 g8 g9 g4 gm2 gm3 gm4
  rw [if_pos (by omega)] at gm3 gm4
  rw [lpE_normal]
  rw [xL_loop]
  generalize hL : execL _ _ _ _ _ _ (St.mk _ _) = L
  obtain ⟨⟨r2, ⟨m2, nx2⟩⟩, rfl, g0, g6, g7, g10, g11, g8, g9, g4, gm2, gm3, gm4⟩ := mul4_round (c := _) rfl (xs := [.int .i64 x, .int .i64 y]) (ys := [.int .i64 u, .int .i64 v]) (i := 0) (k := 1) (x := x) (y := v) (lw := sl x u) (hg := su x u) (by simp -implicitDefEqProofs (disch := omega) only [go_sem, g6, g7, g10, g11, g8, g9, g4, gm2, gm3, gm4, if_pos, if_neg, dec_t, dec_f, IntWalk.i64_in, IntWalk.u32_in, IntWalk.u64_in, beq_no]) (by simp -implicitDefEqProofs (disch := omega) only [go_sem, g6, g7, g10, g11, g8, g9, g4, gm2, gm3, gm4, if_pos, if_neg, dec_t, dec_f, IntWalk.i64_in, IntWalk.u32_in, IntWalk.u64_in, beq_no]) (by simp -implicitDefEqProofs (disch := omega) only [go_sem, g6, g7, g10, g11, g8, g9, g4, gm2, gm3, gm4, if_pos, if_neg, dec_t, dec_f, IntWalk.i64_in, IntWalk.u32_in, IntWalk.u64_in, beq_no]) (by simp -implicitDefEqProofs (disch := omega) only [go_sem, g6, g7, g10, g11, g8, g9, g4, gm2, gm3, gm4, if_pos, if_neg, dec_t, dec_f, IntWalk.i64_in, IntWalk.u32_in, IntWalk.u64_in, beq_no]) (by simp -implicitDefEqProofs (disch := omega) only [go_sem, g6, g7, g10, g11, g8, g9, g4, gm2, gm3, gm4, if_pos, if_neg, dec_t, dec_f, IntWalk.i64_in, IntWalk.u32_in, IntWalk.u64_in, beq_no]) (by simp -implicitDefEqProofs (disch := omega) only [go_sem, g6, g7, g10, g11, g8, g9, g4, gm2, gm3, gm4, if_pos, if_neg, dec_t, dec_f, IntWalk.i64_in, IntWalk.u32_in, IntWalk.u64_in, beq_no]) (by simp -implicitDefEqProofs (disch := omega) only [go_sem, g6, g7, g10, g11, g8, g9, g4, gm2, gm3, gm4, if_pos, if_neg, dec_t, dec_f, IntWalk.i64_in, IntWalk.u32_in, IntWalk.u64_in, beq_no]) rfl rfl (by omega) (by omega) (by omega) (by omega) (by omega) (by omega) (by omega) (by omega) (by omega) (by simp -implicitDefEqProofs (disch := omega) only [go_sem, g6, g7, g10, g11, g8, g9, g4, gm2, gm3, gm4, if_pos, if_neg, dec_t, dec_f, IntWalk.i64_in, IntWalk.u32_in, IntWalk.u64_in, beq_no]; rfl) (by simp -implicitDefEqProofs (disch := omega) only [go_sem, g6, g7, g10, g11, g8, g9, g4, gm2, gm3, gm4, if_pos, if_neg, dec_t, dec_f, IntWalk.i64_in, IntWalk.u32_in, IntWalk.u64_in, beq_no]) (by simp -implicitDefEqProofs (disch := omega) only [go_sem, g6, g7, g10, g11, g8, g9, g4, gm2, gm3, gm4, if_pos, if_neg, dec_t, dec_f, IntWalk.i64_in, IntWalk.u32_in, IntWalk.u64_in, beq_no]) _ hL
  clear hL
  dsimp only at g0 g6 g7 g10 g11 g8 g9 g4 gm2 gm3 gm4
  rw [if_neg (by omega)] at gm3 gm4
  rw [lpE_normal]
  rw [xL_loop]
  simp -implicitDefEqProofs (disch := omega) only [go_sem, lpE_exit, lpE_normal, g6, g7, g10, g11, g8, g9, g4, gm2, gm3, gm4, if_pos, if_neg, dec_t, dec_f, IntWalk.i64_in, IntWalk.u32_in, IntWalk.u64_in, beq_no]
  rw [xL_loop]
  simp -implicitDefEqProofs (disch := omega) only [go_sem, g6, g7, g10, g11, g8, g9, g4, gm2, gm3, gm4, if_pos, if_neg, dec_t, dec_f, IntWalk.i64_in, IntWalk.u32_in, IntWalk.u64_in, beq_no]
  rw [xL_loop]
  generalize hL : execL _ _ _ _ _ _ (St.mk _ _) = L
  obtain ⟨⟨r3, ⟨m3, nx3⟩⟩, rfl, g0, g6, g7, g10, g11, g8, g9, g4, gm2, gm3, gm4⟩ := mul4_round (c := _) rfl (xs := [.int .i64 x, .int .i64 y]) (ys := [.int .i64 u, .int .i64 v]) (i := 1) (k := 0) (x := y) (y := u) (lw := min (sl x u) (sl x v)) (hg := max (su x u) (su x v)) (by simp -implicitDefEqProofs (disch := omega) only [go_sem, g6, g7, g10, g11, g8, g9, g4, gm2, gm3, gm4, if_pos, if_neg, dec_t, dec_f, IntWalk.i64_in, IntWalk.u32_in, IntWalk.u64_in, beq_no]) (by simp -implicitDefEqProofs (disch := omega) only [go_sem, g6, g7, g10, g11, g8, g9, g4, gm2, gm3, gm4, if_pos, if_neg, dec_t, dec_f, IntWalk.i64_in, IntWalk.u32_in, IntWalk.u64_in, beq_no]) (by simp -implicitDefEqProofs (disch := omega) only [go_sem, g6, g7, g10, g11, g8, g9, g4, gm2, gm3, gm4, if_pos, if_neg, dec_t, dec_f, IntWalk.i64_in, IntWalk.u32_in, IntWalk.u64_in, beq_no]) (by simp -implicitDefEqProofs (disch := omega) only [go_sem, g6, g7, g10, g11, g8, g9, g4, gm2, gm3, gm4, if_pos, if_neg, dec_t, dec_f, IntWalk.i64_in, IntWalk.u32_in, IntWalk.u64_in, beq_no]) (by simp -implicitDefEqProofs (disch := omega) only [go_sem, g6, g7, g10, g11, g8, g9, g4, gm2, gm3, gm4, if_pos, if_neg, dec_t, dec_f, IntWalk.i64_in, IntWalk.u32_in, IntWalk.u64_in, beq_no]) (by simp -implicitDefEqProofs (disch := omega) only [go_sem, g6, g7, g10, g11, g8, g9, g4, gm2, gm3, gm4, if_pos, if_neg, dec_t, dec_f, IntWalk.i64_in, IntWalk.u32_in, IntWalk.u64_in, beq_no]) (by simp -implicitDefEqProofs (disch := omega) only [go_sem, g6, g7, g10, g11, g8, g9, g4, gm2, gm3, gm4, if_pos, if_neg, dec_t, dec_f, IntWalk.i64_in, IntWalk.u32_in, IntWalk.u64_in, beq_no]) rfl rfl (by omega) (by omega) (by omega) (by omega) (by omega) (by omega) (by omega) (by omega) (by omega) (by simp -implicitDefEqProofs (disch := omega) only [go_sem, g6, g7, g10, g11, g8, g9, g4, gm2, gm3, gm4, if_pos, if_neg, dec_t, dec_f, IntWalk.i64_in, IntWalk.u32_in, IntWalk.u64_in, beq_no]; rfl) (by simp -implicitDefEqProofs (disch := omega) only [go_sem, g6, g7, g10, g11, g8, g9, g4, gm2, gm3, gm4, if_pos, if_neg, dec_t, dec_f, IntWalk.i64_in, IntWalk.u32_in, IntWalk.u64_in, beq_no]) (by simp -implicitDefEqProofs (disch := omega) only [go_sem, g6, g7, g10, g11, g8, g9, g4, gm2, gm3, gm4, if_pos, if_neg, dec_t, dec_f, IntWalk.i64_in, IntWalk.u32_in, IntWalk.u64_in, beq_no]) _ hL
  clear hL
  dsimp only at g0 g6 g7 g10 g11 g8 g9 g4 gm2 gm3 gm4
  rw [if_neg (by omega)] at gm3 gm4
  rw [lpE_normal]
  rw [xL_loop]
  generalize hL : execL _ _ _ _ _ _ (St.mk _ _) = L
  obtain ⟨⟨r4, ⟨m4, nx4⟩⟩, rfl, g0, g6, g7, g10, g11, g8, g9, g4, gm2, gm3, gm4⟩ := mul4_round (c := _) rfl (xs := [.int .i64 x, .int .i64 y]) (ys := [.int .i64 u, .int .i64 v]) (i := 1) (k := 1) (x := y) (y := v) (lw := min (min (sl x u) (sl x v)) (sl y u)) (hg := max (max (su x u) (su x v)) (su y u)) (by simp -implicitDefEqProofs (disch := omega) only [go_sem, g6, g7, g10, g11, g8, g9, g4, gm2, gm3, gm4, if_pos, if_neg, dec_t, dec_f, IntWalk.i64_in, IntWalk.u32_in, IntWalk.u64_in, beq_no]) (by simp -implicitDefEqProofs (disch := omega) only [go_sem, g6, g7, g10, g11, g8, g9, g4, gm2, gm3, gm4, if_pos, if_neg, dec_t, dec_f, IntWalk.i64_in, IntWalk.u32_in, IntWalk.u64_in, beq_no]) (by simp -implicitDefEqProofs (disch := omega) only [go_sem, g6, g7, g10, g11, g8, g9, g4, gm2, gm3, gm4, if_pos, if_neg, dec_t, dec_f, IntWalk.i64_in, IntWalk.u32_in, IntWalk.u64_in, beq_no]) (by simp -implicitDefEqProofs (disch := omega) only [go_sem, g6, g7, g10, g11, g8, g9, g4, gm2, gm3, gm4, if_pos, if_neg, dec_t, dec_f, IntWalk.i64_in, IntWalk.u32_in, IntWalk.u64_in, beq_no]) (by simp -implicitDefEqProofs (disch := omega) only [go_sem, g6, g7, g10, g11, g8, g9, g4, gm2, gm3, gm4, if_pos, if_neg, dec_t, dec_f, IntWalk.i64_in, IntWalk.u32_in, IntWalk.u64_in, beq_no]) (by simp -implicitDefEqProofs (disch := omega) only [go_sem, g6, g7, g10, g11, g8, g9, g4, gm2, gm3, gm4, if_pos, if_neg, dec_t, dec_f, IntWalk.i64_in, IntWalk.u32_in, IntWalk.u64_in, beq_no]) (by simp -implicitDefEqProofs (disch := omega) only [go_sem, g6, g7, g10, g11, g8, g9, g4, gm2, gm3, gm4, if_pos, if_neg, dec_t, dec_f, IntWalk.i64_in, IntWalk.u32_in, IntWalk.u64_in, beq_no]) rfl rfl (by omega) (by omega) (by omega) (by omega) (by omega) (by omega) (by omega) (by omega) (by omega) (by simp -implicitDefEqProofs (disch := omega) only [go_sem, g6, g7, g10, g11, g8, g9, g4, gm2, gm3, gm4, if_pos, if_neg, dec_t, dec_f, IntWalk.i64_in, IntWalk.u32_in, IntWalk.u64_in, beq_no]; rfl) (by simp -implicitDefEqProofs (disch := omega) only [go_sem, g6, g7, g10, g11, g8, g9, g4, gm2, gm3, gm4, if_pos, if_neg, dec_t, dec_f, IntWalk.i64_in, IntWalk.u32_in, IntWalk.u64_in, beq_no]) (by simp -implicitDefEqProofs (disch := omega) only [go_sem, g6, g7, g10, g11, g8, g9, g4, gm2, gm3, gm4, if_pos, if_neg, dec_t, dec_f, IntWalk.i64_in, IntWalk.u32_in, IntWalk.u64_in, beq_no]) _ hL
  clear hL
  dsimp only at g0 g6 g7 g10 g11 g8 g9 g4 gm2 gm3 gm4
  rw [if_neg (by omega)] at gm3 gm4
  rw [lpE_normal]
  rw [xL_loop]
  simp -implicitDefEqProofs (disch := omega) only [go_sem, lpE_exit, lpE_normal, g6, g7, g10, g11, g8, g9, g4, gm2, gm3, gm4, if_pos, if_neg, dec_t, dec_f, IntWalk.i64_in, IntWalk.u32_in, IntWalk.u64_in, beq_no]
  rw [xL_loop]
  generalize ofF _ _ = z at *
  simp only [zI_eq] at o
  rcases z with _ | ⟨z1, z2⟩
  · simp only [pI_none] at o
    simp -implicitDefEqProofs (disch := omega) only [go_sem, lpE_exit, lpE_normal, g6, g7, g10, g11, g8, g9, g4, gm2, gm3, gm4, o, if_pos, if_neg, dec_t, dec_f, IntWalk.i64_in, IntWalk.u32_in, IntWalk.u64_in, beq_no]
  · simp only [pI_some] at o
    simp -implicitDefEqProofs (disch := omega) only [go_sem, lpE_exit, lpE_normal, g6, g7, g10, g11, g8, g9, g4, gm2, gm3, gm4, o, if_pos, if_neg, dec_t, dec_f, IntWalk.i64_in, IntWalk.u32_in, IntWalk.u64_in, beq_no]
end Go.Pi

set_option linter.unusedVariables false
set_option linter.unusedSimpArgs false
set_option maxHeartbeats 4000000
set_option maxRecDepth 8000
/-
Square roots, roots and sides of intervals: the reference.
-/
namespace Go.Pi
open Go Go.Proofs Num
@[go_sem] theorem fromInt64'_s {n : Int} (h0 : -9223372036854775808 ≤ n) (h1 : n ≤ 9223372036854775807) : Rq 57 [.int .i64 n] = some (.agg (zI n)) := fromInt64'_r h0 h1
@[go_sem] theorem mul'_s {a b : Int} (ha : ll a ≤ 1000000000) (hb : ll b ≤ 1000000000) : Rq 61 [.agg [.bool (ng (a)), .sl false (us (lm (a)))], .agg [.bool (ng (b)), .sl false (us (lm (b)))]] = some (.agg (zI (a * b))) := mul'_r ha hb
@[go_sem] theorem add'_s {a b : Int} (ha : ll a ≤ 1000000000) (hb : ll b ≤ 1000000000) : Rq 56 [.agg [.bool (ng (a)), .sl false (us (lm (a)))], .agg [.bool (ng (b)), .sl false (us (lm (b)))]] = some (.agg (zI (a + b))) := add'_r ha hb
@[go_sem] theorem sub'_s {a b : Int} (ha : ll a ≤ 1000000000) (hb : ll b ≤ 1000000000) : Rq 69 [.agg [.bool (ng (a)), .sl false (us (lm (a)))], .agg [.bool (ng (b)), .sl false (us (lm (b)))]] = some (.agg (zI (a - b))) := sub'_r ha hb
@[go_sem] theorem cmp'_s {a b : Int} (ha : ll a ≤ 1000000000) (hb : ll b ≤ 1000000000) : Rq 59 [.agg [.bool (ng (a)), .sl false (us (lm (a)))], .agg [.bool (ng (b)), .sl false (us (lm (b)))]] = some (.int .i64 (a - b).sign) := cmp'_r ha hb
theorem rt_0 : rt 0 = 0 := rt_eq (by omega) (by omega) (by omega)
@[go_sem] theorem sqrt'_s {a : Int} (h0 : 0 ≤ a) (ha : ll a ≤ 600000000) : Rq 63 [.agg [.bool (ng (a)), .sl false (us (lm (a)))]] = some (.tup [.agg (zI (rt a)), .int .i64 0]) := by
  rcases Int.lt_or_eq_of_le h0 with h | h
  · exact sqrt'_r h ha
  · subst h; rw [rt_0]; exact sqrt'_zero
theorem sqrt4_r {x y : Int} (p : Pr (x, y)) : Rq 28 [.agg [.int .i64 x, .int .i64 y]] = some (pI (sqF (x, y))) := by
  obtain ⟨p1, p2, p3⟩ := p
  dsimp only at p1 p2 p3
  refine RL_of (f := 28) (fn := Try.f28) Try.func28 rfl rfl rfl (Nat.le_of_ble_eq_true rfl) ?_
  unfold sqF
  dsimp only
  by_cases k : y < 0
  · rw [if_pos k]
    simp -implicitDefEqProofs (disch := omega) only [go_sem, k, if_pos, if_neg, dec_t, dec_f, IntWalk.i64_in, IntWalk.u32_in, IntWalk.u64_in, beq_no]
  · rw [if_neg k]
    have r1 := rt_small (n := max x 0) (by omega) (by omega)
    have r2 := rt_small (n := y) (by omega) (by omega)
    have n1 := rt_nn (max x 0 * 65536)
    have n2 := rt_nn (y * 65536)
    have sp := rt_spec (a := y * 65536) (by omega)
    have mo := rt_mono (a := max x 0 * 65536) (b := y * 65536) (by omega) (by omega)
    have b1 := ll_64 (n := 65536) (by omega) (by omega)
    have b2 := ll_64 (n := max x 0) (by omega) (by omega)
    have b3 := ll_64 (n := y) (by omega) (by omega)
    have b4 := ll_64 (n := rt (max x 0 * 65536)) (by omega) (by omega)
    have b5 := ll_64 (n := rt (y * 65536)) (by omega) (by omega)
    have b6 := ll_64 (n := 1) (by omega) (by omega)
    have b7 : ll (max x 0 * 65536) ≤ 6 := Nat.le_trans (ll_mul _ _) (by omega)
    have b8 : ll (y * 65536) ≤ 6 := Nat.le_trans (ll_mul _ _) (by omega)
    by_cases e : rt (y * 65536) * rt (y * 65536) = y * 65536
    · rw [if_pos e]
      have o := of4_r (l := rt (max x 0 * 65536)) (h := rt (y * 65536)) (by omega) (by omega)
      rw [ofF_prF mo, prF_yes (by omega) (by omega)] at o
      rw [prF_yes (by omega) (by omega)]
      have s0 : (rt (y * 65536) * rt (y * 65536) - y * 65536).sign = 0 := by rw [Int.sign_eq_zero_iff_zero]; omega
      simp only [zI_eq] at o
      by_cases hx : x < 0
      · rw [show max x 0 = 0 by omega] at *
        simp only [Int.zero_mul] at o b4
        simp -implicitDefEqProofs (disch := first | omega | (with_reducible apply Nat.le_trans; (focus (repeat' (first | with_reducible apply rb_mul | with_reducible apply rb_add | with_reducible apply rb_sub | with_reducible apply rb_neg | with_reducible apply rb_divInt | with_reducible apply rb_int | with_reducible apply lb_mul | with_reducible apply lb_add | with_reducible apply lb_sub | with_reducible apply lb_neg | exact Nat.le_refl _))); omega)) only [go_sem, k, hx, s0, o, if_pos, if_neg, dec_t, dec_f, IntWalk.i64_in, IntWalk.u32_in, IntWalk.u64_in, beq_no]
      · rw [show max x 0 = x by omega] at *
        simp -implicitDefEqProofs (disch := first | omega | (with_reducible apply Nat.le_trans; (focus (repeat' (first | with_reducible apply rb_mul | with_reducible apply rb_add | with_reducible apply rb_sub | with_reducible apply rb_neg | with_reducible apply rb_divInt | with_reducible apply rb_int | with_reducible apply lb_mul | with_reducible apply lb_add | with_reducible apply lb_sub | with_reducible apply lb_neg | exact Nat.le_refl _))); omega)) only [go_sem, k, hx, s0, o, if_pos, if_neg, dec_t, dec_f, IntWalk.i64_in, IntWalk.u32_in, IntWalk.u64_in, beq_no]
    · rw [if_neg e]
      have o := of4_r (l := rt (max x 0 * 65536)) (h := rt (y * 65536) + 1) (by omega) (Nat.le_trans (ll_add _ _) (by omega))
      rw [ofF_prF (by omega), prF_yes (by omega) (by omega)] at o
      rw [prF_yes (by omega) (by omega)]
      have s0 : (rt (y * 65536) * rt (y * 65536) - y * 65536).sign = -1 := by exact Int.sign_eq_neg_one_of_neg (by omega)
      simp only [zI_eq] at o
      by_cases hx : x < 0
      · rw [show max x 0 = 0 by omega] at *
        simp only [Int.zero_mul] at o b4
        simp -implicitDefEqProofs (disch := first | omega | (with_reducible apply Nat.le_trans; (focus (repeat' (first | with_reducible apply rb_mul | with_reducible apply rb_add | with_reducible apply rb_sub | with_reducible apply rb_neg | with_reducible apply rb_divInt | with_reducible apply rb_int | with_reducible apply lb_mul | with_reducible apply lb_add | with_reducible apply lb_sub | with_reducible apply lb_neg | exact Nat.le_refl _))); omega)) only [go_sem, k, hx, s0, o, if_pos, if_neg, dec_t, dec_f, IntWalk.i64_in, IntWalk.u32_in, IntWalk.u64_in, beq_no]
      · rw [show max x 0 = x by omega] at *
        simp -implicitDefEqProofs (disch := first | omega | (with_reducible apply Nat.le_trans; (focus (repeat' (first | with_reducible apply rb_mul | with_reducible apply rb_add | with_reducible apply rb_sub | with_reducible apply rb_neg | with_reducible apply rb_divInt | with_reducible apply rb_int | with_reducible apply lb_mul | with_reducible apply lb_add | with_reducible apply lb_sub | with_reducible apply lb_neg | exact Nat.le_refl _))); omega)) only [go_sem, k, hx, s0, o, if_pos, if_neg, dec_t, dec_f, IntWalk.i64_in, IntWalk.u32_in, IntWalk.u64_in, beq_no]
theorem add4_in {a b c d : Int} (p : Pr (a, b)) (q : Pr (c, d)) : Rq 20 [.agg [.int .i64 a, .int .i64 b], .agg [.int .i64 c, .int .i64 d]] = some (pI (prF (a + c) (b + d))) := by
  obtain ⟨p1, p2, p3⟩ := p
  obtain ⟨q1, q2, q3⟩ := q
  dsimp only at p1 p2 p3 q1 q2 q3
  rw [← ofF_prF (by omega)]
  exact add4_r (by omega) (by omega) (by omega) (by omega)
theorem root4_r {A B C : Rat} (hA : rl A ≤ 100000000) (hB : rl B ≤ 100000000) (hC : rl C ≤ 100000000) : Rq 33 [.agg (zR A B C)] = some (pI (roF A B C)) := by
  refine RL_of (f := 33) (fn := Try.f33) Try.func33 rfl rfl rfl (Nat.le_of_ble_eq_true rfl) ?_
  have fa := fromRat4_r hA
  have fb := fromRat4_r hB
  have fc := fromRat4_r hC
  have eB : ¬ B.num = 0 → ¬ sg B = 0 := fun h => by unfold sg; rw [Int.sign_eq_zero_iff_zero]; exact h
  have eC : ¬ C.num < 0 → ¬ sg C < 0 := fun h => by unfold sg; rw [Int.sign_neg_iff]; exact h
  unfold roF
  by_cases kb : B.num = 0
  · have s1 : sg B = 0 := by unfold sg; rw [kb]; rfl
    cases ha : frF A with
    | none => rw [ha] at fa; simp -implicitDefEqProofs (disch := first | omega | (with_reducible apply Nat.le_trans; (focus (repeat' (first | with_reducible apply rb_mul | with_reducible apply rb_add | with_reducible apply rb_sub | with_reducible apply rb_neg | with_reducible apply rb_divInt | with_reducible apply rb_int | with_reducible apply lb_mul | with_reducible apply lb_add | with_reducible apply lb_sub | with_reducible apply lb_neg | exact Nat.le_refl _))); omega)) only [go_sem, fa, s1, if_pos, if_neg, dec_t, dec_f, IntWalk.i64_in, IntWalk.u32_in, IntWalk.u64_in, beq_no]
    | some a => obtain ⟨a1, a2⟩ := a; rw [ha] at fa; dsimp only; rw [if_pos kb]; simp -implicitDefEqProofs (disch := first | omega | (with_reducible apply Nat.le_trans; (focus (repeat' (first | with_reducible apply rb_mul | with_reducible apply rb_add | with_reducible apply rb_sub | with_reducible apply rb_neg | with_reducible apply rb_divInt | with_reducible apply rb_int | with_reducible apply lb_mul | with_reducible apply lb_add | with_reducible apply lb_sub | with_reducible apply lb_neg | exact Nat.le_refl _))); omega)) only [go_sem, fa, s1, if_pos, if_neg, dec_t, dec_f, IntWalk.i64_in, IntWalk.u32_in, IntWalk.u64_in, beq_no]
  · have s1 := eB kb
    clear eB
    cases ha : frF A with
    | none =>
      rw [ha] at fa
      cases hb : frF B with
      | none =>
        rw [hb] at fb
        cases hc : frF C with
        | none => rw [hc] at fc; simp -implicitDefEqProofs (disch := first | omega | (with_reducible apply Nat.le_trans; (focus (repeat' (first | with_reducible apply rb_mul | with_reducible apply rb_add | with_reducible apply rb_sub | with_reducible apply rb_neg | with_reducible apply rb_divInt | with_reducible apply rb_int | with_reducible apply lb_mul | with_reducible apply lb_add | with_reducible apply lb_sub | with_reducible apply lb_neg | exact Nat.le_refl _))); omega)) only [go_sem, fa, s1, fb, fc, if_pos, if_neg, dec_t, dec_f, IntWalk.i64_in, IntWalk.u32_in, IntWalk.u64_in, beq_no]
        | some c => obtain ⟨c1, c2⟩ := c; rw [hc] at fc; simp -implicitDefEqProofs (disch := first | omega | (with_reducible apply Nat.le_trans; (focus (repeat' (first | with_reducible apply rb_mul | with_reducible apply rb_add | with_reducible apply rb_sub | with_reducible apply rb_neg | with_reducible apply rb_divInt | with_reducible apply rb_int | with_reducible apply lb_mul | with_reducible apply lb_add | with_reducible apply lb_sub | with_reducible apply lb_neg | exact Nat.le_refl _))); omega)) only [go_sem, fa, s1, fb, fc, if_pos, if_neg, dec_t, dec_f, IntWalk.i64_in, IntWalk.u32_in, IntWalk.u64_in, beq_no]
      | some b =>
        obtain ⟨b1, b2⟩ := b
        rw [hb] at fb
        cases hc : frF C with
        | none => rw [hc] at fc; simp -implicitDefEqProofs (disch := first | omega | (with_reducible apply Nat.le_trans; (focus (repeat' (first | with_reducible apply rb_mul | with_reducible apply rb_add | with_reducible apply rb_sub | with_reducible apply rb_neg | with_reducible apply rb_divInt | with_reducible apply rb_int | with_reducible apply lb_mul | with_reducible apply lb_add | with_reducible apply lb_sub | with_reducible apply lb_neg | exact Nat.le_refl _))); omega)) only [go_sem, fa, s1, fb, fc, if_pos, if_neg, dec_t, dec_f, IntWalk.i64_in, IntWalk.u32_in, IntWalk.u64_in, beq_no]
        | some c => obtain ⟨c1, c2⟩ := c; rw [hc] at fc; simp -implicitDefEqProofs (disch := first | omega | (with_reducible apply Nat.le_trans; (focus (repeat' (first | with_reducible apply rb_mul | with_reducible apply rb_add | with_reducible apply rb_sub | with_reducible apply rb_neg | with_reducible apply rb_divInt | with_reducible apply rb_int | with_reducible apply lb_mul | with_reducible apply lb_add | with_reducible apply lb_sub | with_reducible apply lb_neg | exact Nat.le_refl _))); omega)) only [go_sem, fa, s1, fb, fc, if_pos, if_neg, dec_t, dec_f, IntWalk.i64_in, IntWalk.u32_in, IntWalk.u64_in, beq_no]
    | some a =>
      have pa := (frF_pr ha).1
      obtain ⟨a1, a2⟩ := a
      rw [ha] at fa
      dsimp only
      rw [if_neg kb]
      cases hb : frF B with
      | none =>
        rw [hb] at fb
        cases hc : frF C with
        | none => rw [hc] at fc; simp -implicitDefEqProofs (disch := first | omega | (with_reducible apply Nat.le_trans; (focus (repeat' (first | with_reducible apply rb_mul | with_reducible apply rb_add | with_reducible apply rb_sub | with_reducible apply rb_neg | with_reducible apply rb_divInt | with_reducible apply rb_int | with_reducible apply lb_mul | with_reducible apply lb_add | with_reducible apply lb_sub | with_reducible apply lb_neg | exact Nat.le_refl _))); omega)) only [go_sem, fa, s1, fb, fc, if_pos, if_neg, dec_t, dec_f, IntWalk.i64_in, IntWalk.u32_in, IntWalk.u64_in, beq_no]
        | some c => obtain ⟨c1, c2⟩ := c; rw [hc] at fc; simp -implicitDefEqProofs (disch := first | omega | (with_reducible apply Nat.le_trans; (focus (repeat' (first | with_reducible apply rb_mul | with_reducible apply rb_add | with_reducible apply rb_sub | with_reducible apply rb_neg | with_reducible apply rb_divInt | with_reducible apply rb_int | with_reducible apply lb_mul | with_reducible apply lb_add | with_reducible apply lb_sub | with_reducible apply lb_neg | exact Nat.le_refl _))); omega)) only [go_sem, fa, s1, fb, fc, if_pos, if_neg, dec_t, dec_f, IntWalk.i64_in, IntWalk.u32_in, IntWalk.u64_in, beq_no]
      | some b =>
        have pb := (frF_pr hb).1
        obtain ⟨b1, b2⟩ := b
        rw [hb] at fb
        cases hc : frF C with
        | none => rw [hc] at fc; simp -implicitDefEqProofs (disch := first | omega | (with_reducible apply Nat.le_trans; (focus (repeat' (first | with_reducible apply rb_mul | with_reducible apply rb_add | with_reducible apply rb_sub | with_reducible apply rb_neg | with_reducible apply rb_divInt | with_reducible apply rb_int | with_reducible apply lb_mul | with_reducible apply lb_add | with_reducible apply lb_sub | with_reducible apply lb_neg | exact Nat.le_refl _))); omega)) only [go_sem, fa, s1, fb, fc, if_pos, if_neg, dec_t, dec_f, IntWalk.i64_in, IntWalk.u32_in, IntWalk.u64_in, beq_no]
        | some c =>
          have pc := (frF_pr hc).1
          obtain ⟨c1, c2⟩ := c
          rw [hc] at fc
          dsimp only
          by_cases kc : C.num < 0
          · rw [if_pos kc]
            have s2 : sg C < 0 := by unfold sg; rw [Int.sign_neg_iff]; exact kc
            simp -implicitDefEqProofs (disch := first | omega | (with_reducible apply Nat.le_trans; (focus (repeat' (first | with_reducible apply rb_mul | with_reducible apply rb_add | with_reducible apply rb_sub | with_reducible apply rb_neg | with_reducible apply rb_divInt | with_reducible apply rb_int | with_reducible apply lb_mul | with_reducible apply lb_add | with_reducible apply lb_sub | with_reducible apply lb_neg | exact Nat.le_refl _))); omega)) only [go_sem, fa, s1, fb, fc, s2, if_pos, if_neg, dec_t, dec_f, IntWalk.i64_in, IntWalk.u32_in, IntWalk.u64_in, beq_no]
          · rw [if_neg kc]
            have s2 := eC kc
            clear eC
            have sq := sqrt4_r pc
            try dsimp only
            cases hs : sqF (c1, c2) with
            | none => rw [hs] at sq; simp -implicitDefEqProofs (disch := first | omega | (with_reducible apply Nat.le_trans; (focus (repeat' (first | with_reducible apply rb_mul | with_reducible apply rb_add | with_reducible apply rb_sub | with_reducible apply rb_neg | with_reducible apply rb_divInt | with_reducible apply rb_int | with_reducible apply lb_mul | with_reducible apply lb_add | with_reducible apply lb_sub | with_reducible apply lb_neg | exact Nat.le_refl _))); omega)) only [go_sem, fa, s1, fb, fc, s2, sq, if_pos, if_neg, dec_t, dec_f, IntWalk.i64_in, IntWalk.u32_in, IntWalk.u64_in, beq_no]
            | some s =>
              have ps := sqF_pr pc hs
              obtain ⟨t1, t2⟩ := s
              rw [hs] at sq
              have mu := mul4_r pb ps
              try dsimp only
              cases hm : muF (b1, b2) (t1, t2) with
              | none => rw [hm] at mu; simp -implicitDefEqProofs (disch := first | omega | (with_reducible apply Nat.le_trans; (focus (repeat' (first | with_reducible apply rb_mul | with_reducible apply rb_add | with_reducible apply rb_sub | with_reducible apply rb_neg | with_reducible apply rb_divInt | with_reducible apply rb_int | with_reducible apply lb_mul | with_reducible apply lb_add | with_reducible apply lb_sub | with_reducible apply lb_neg | exact Nat.le_refl _))); omega)) only [go_sem, fa, s1, fb, fc, s2, sq, mu, if_pos, if_neg, dec_t, dec_f, IntWalk.i64_in, IntWalk.u32_in, IntWalk.u64_in, beq_no]
              | some m =>
                have pm := muF_pr hm
                obtain ⟨m1, m2⟩ := m
                rw [hm] at mu
                have ad := add4_in pa pm
                dsimp only
                cases hr : prF (a1 + m1) (a2 + m2) with
                | none => rw [hr] at ad; simp -implicitDefEqProofs (disch := first | omega | (with_reducible apply Nat.le_trans; (focus (repeat' (first | with_reducible apply rb_mul | with_reducible apply rb_add | with_reducible apply rb_sub | with_reducible apply rb_neg | with_reducible apply rb_divInt | with_reducible apply rb_int | with_reducible apply lb_mul | with_reducible apply lb_add | with_reducible apply lb_sub | with_reducible apply lb_neg | exact Nat.le_refl _))); omega)) only [go_sem, fa, s1, fb, fc, s2, sq, mu, ad, if_pos, if_neg, dec_t, dec_f, IntWalk.i64_in, IntWalk.u32_in, IntWalk.u64_in, beq_no]
                | some r => obtain ⟨r1, r2⟩ := r; rw [hr] at ad; simp -implicitDefEqProofs (disch := first | omega | (with_reducible apply Nat.le_trans; (focus (repeat' (first | with_reducible apply rb_mul | with_reducible apply rb_add | with_reducible apply rb_sub | with_reducible apply rb_neg | with_reducible apply rb_divInt | with_reducible apply rb_int | with_reducible apply lb_mul | with_reducible apply lb_add | with_reducible apply lb_sub | with_reducible apply lb_neg | exact Nat.le_refl _))); omega)) only [go_sem, fa, s1, fb, fc, s2, sq, mu, ad, if_pos, if_neg, dec_t, dec_f, IntWalk.i64_in, IntWalk.u32_in, IntWalk.u64_in, beq_no]
theorem product4_r {n A B C : Rat} (hn : rl n ≤ 100000000) (hA : rl A ≤ 100000000) (hB : rl B ≤ 100000000) (hC : rl C ≤ 100000000) : Rq 67 [.agg [.bool (ng (n).num), .sl false (us (lm (n).num)), .bool false, .sl false (us (lm ((n).den : Int)))], .agg (zR A B C)] = some (pI (tiF n (roF A B C))) := by
  refine RL_of (f := 67) (fn := Try.f67) Try.func67 rfl rfl rfl (Nat.le_of_ble_eq_true rfl) ?_
  have f := fromRat4_r hn
  have g := root4_r hA hB hC
  simp only [zR_eq] at g
  unfold tiF
  cases hr : roF A B C with
  | none =>
    rw [hr] at g
    cases hf : frF n with
    | none => rw [hf] at f; simp -implicitDefEqProofs (disch := omega) only [go_sem, f, g, if_pos, if_neg, dec_t, dec_f, IntWalk.i64_in, IntWalk.u32_in, IntWalk.u64_in, beq_no]
    | some b => obtain ⟨b1, b2⟩ := b; rw [hf] at f; simp -implicitDefEqProofs (disch := omega) only [go_sem, f, g, if_pos, if_neg, dec_t, dec_f, IntWalk.i64_in, IntWalk.u32_in, IntWalk.u64_in, beq_no]
  | some a =>
    have pa := roF_pr hr
    obtain ⟨a1, a2⟩ := a
    rw [hr] at g
    dsimp only
    cases hf : frF n with
    | none => rw [hf] at f; simp -implicitDefEqProofs (disch := omega) only [go_sem, f, g, if_pos, if_neg, dec_t, dec_f, IntWalk.i64_in, IntWalk.u32_in, IntWalk.u64_in, beq_no]
    | some b =>
      have pb := (frF_pr hf).1
      obtain ⟨b1, b2⟩ := b
      rw [hf] at f
      have mu := mul4_r pb pa
      dsimp only
      cases hm : muF (b1, b2) (a1, a2) with
      | none => rw [hm] at mu; simp -implicitDefEqProofs (disch := omega) only [go_sem, f, g, mu, if_pos, if_neg, dec_t, dec_f, IntWalk.i64_in, IntWalk.u32_in, IntWalk.u64_in, beq_no]
      | some m => obtain ⟨m1, m2⟩ := m; rw [hm] at mu; simp -implicitDefEqProofs (disch := omega) only [go_sem, f, g, mu, if_pos, if_neg, dec_t, dec_f, IntWalk.i64_in, IntWalk.u32_in, IntWalk.u64_in, beq_no]
theorem side4_r {A B C AX BX AY BY PC : Rat} (h1 : rl A ≤ 100000000) (h2 : rl B ≤ 100000000) (h3 : rl C ≤ 100000000) (h4 : rl AX ≤ 100000000) (h5 : rl BX ≤ 100000000) (h6 : rl AY ≤ 100000000) (h7 : rl BY ≤ 100000000) (h8 : rl PC ≤ 100000000) :
    Rq 38 [.agg (zR A B C), .agg (zP AX BX AY BY PC)] = some (sgV (sdF A B C AX BX AY BY PC)) := by
  refine RL_of (f := 38) (fn := Try.f38) Try.func38 rfl rfl rfl (Nat.le_of_ble_eq_true rfl) ?_
  have ti := product4_r h1 h4 h5 h8
  have tj := product4_r h2 h6 h7 h8
  have fc := fromRat4_r h3
  simp only [zR_eq] at ti tj
  unfold sdF
  cases hx : tiF A (roF AX BX PC) with
  | none =>
    rw [hx] at ti
    cases hy : tiF B (roF AY BY PC) with
    | none =>
      rw [hy] at tj
      cases hc : frF C with
      | none => rw [hc] at fc; simp -implicitDefEqProofs (disch := omega) only [go_sem, ti, tj, fc, if_pos, if_neg, dec_t, dec_f, IntWalk.i64_in, IntWalk.u32_in, IntWalk.u64_in, beq_no]
      | some c => obtain ⟨c1, c2⟩ := c; rw [hc] at fc; simp -implicitDefEqProofs (disch := omega) only [go_sem, ti, tj, fc, if_pos, if_neg, dec_t, dec_f, IntWalk.i64_in, IntWalk.u32_in, IntWalk.u64_in, beq_no]
    | some y =>
      obtain ⟨y1, y2⟩ := y
      rw [hy] at tj
      cases hc : frF C with
      | none => rw [hc] at fc; simp -implicitDefEqProofs (disch := omega) only [go_sem, ti, tj, fc, if_pos, if_neg, dec_t, dec_f, IntWalk.i64_in, IntWalk.u32_in, IntWalk.u64_in, beq_no]
      | some c => obtain ⟨c1, c2⟩ := c; rw [hc] at fc; simp -implicitDefEqProofs (disch := omega) only [go_sem, ti, tj, fc, if_pos, if_neg, dec_t, dec_f, IntWalk.i64_in, IntWalk.u32_in, IntWalk.u64_in, beq_no]
  | some x =>
    have px := tiF_pr hx
    obtain ⟨x1, x2⟩ := x
    rw [hx] at ti
    dsimp only
    cases hy : tiF B (roF AY BY PC) with
    | none =>
      rw [hy] at tj
      cases hc : frF C with
      | none => rw [hc] at fc; simp -implicitDefEqProofs (disch := omega) only [go_sem, ti, tj, fc, if_pos, if_neg, dec_t, dec_f, IntWalk.i64_in, IntWalk.u32_in, IntWalk.u64_in, beq_no]
      | some c => obtain ⟨c1, c2⟩ := c; rw [hc] at fc; simp -implicitDefEqProofs (disch := omega) only [go_sem, ti, tj, fc, if_pos, if_neg, dec_t, dec_f, IntWalk.i64_in, IntWalk.u32_in, IntWalk.u64_in, beq_no]
    | some y =>
      have py := tiF_pr hy
      obtain ⟨y1, y2⟩ := y
      rw [hy] at tj
      dsimp only
      have ad := add4_in px py
      cases hc : frF C with
      | none => rw [hc] at fc; simp -implicitDefEqProofs (disch := omega) only [go_sem, ti, tj, fc, if_pos, if_neg, dec_t, dec_f, IntWalk.i64_in, IntWalk.u32_in, IntWalk.u64_in, beq_no]
      | some c =>
        have pc := (frF_pr hc).1
        obtain ⟨c1, c2⟩ := c
        rw [hc] at fc
        dsimp only
        have ne := neg4_r (a := c1) (b := c2) ⟨pc.1, by have := pc.2; dsimp only at this; omega⟩ ⟨by have := pc.1; have := pc.2; dsimp only at *; omega, pc.2.2⟩
        cases hs : prF (x1 + y1) (x2 + y2) with
        | none => rw [hs] at ad; simp -implicitDefEqProofs (disch := omega) only [go_sem, ti, tj, fc, ad, if_pos, if_neg, dec_t, dec_f, IntWalk.i64_in, IntWalk.u32_in, IntWalk.u64_in, beq_no]
        | some s =>
          have ps := (prF_pr hs (by have := px.2.1; have := py.2.1; dsimp only at *; omega)).1
          obtain ⟨s1, s2⟩ := s
          rw [hs] at ad
          dsimp only
          have pn : Pr (-c2, -c1) := ⟨by have := pc.2.2; dsimp only at *; omega, by have := pc.2.1; dsimp only at *; omega, by have := pc.1; dsimp only at *; omega⟩
          have a2 := add4_in ps pn
          cases hz : prF (s1 + -c2) (s2 + -c1) with
          | none => rw [hz] at a2; simp -implicitDefEqProofs (disch := omega) only [go_sem, ti, tj, fc, ad, ne, a2, if_pos, if_neg, dec_t, dec_f, IntWalk.i64_in, IntWalk.u32_in, IntWalk.u64_in, beq_no]
          | some z =>
            obtain ⟨z1, z2⟩ := z
            rw [hz] at a2
            have sg := sign4_r z1 z2
            simp -implicitDefEqProofs (disch := omega) only [go_sem, ti, tj, fc, ad, ne, a2, sg, if_pos, if_neg, dec_t, dec_f, IntWalk.i64_in, IntWalk.u32_in, IntWalk.u64_in, beq_no]
            rfl
end Go.Pi
