/- What is proved: the reference: quotients, roots and points. No conditions beyond those in the statements. -/
import Derived.Test.YtnhfplmgkhdmlaaGreatTw
import Derived.Test.YtnhfplmgkhdmlaaGreatRg
set_option linter.unusedVariables false
set_option linter.unusedSimpArgs false
set_option maxHeartbeats 4000000
set_option maxRecDepth 8000
/-
The reference's quotients and square roots of fractions; its roots.
-/
namespace Go.Pi
open Go Go.Proofs Num
theorem qDiv'_s {a b : Rat} (ha : rl a ≤ 200000000) (hb : rl b ≤ 200000000) (h0 : b ≠ 0) : Rq 98 [.agg [.bool (ng (a).num), .sl false (us (lm (a).num)), .bool false, .sl false (us (lm ((a).den : Int)))], .agg [.bool (ng (b).num), .sl false (us (lm (b).num)), .bool false, .sl false (us (lm ((b).den : Int)))]] = some (.tup [.agg (zQ (a / b)), .int .i64 0]) := by
  have h1 := rl_num a
  have h2 := rl_den a
  have h3 := rl_num b
  have h4 := rl_den b
  have m1 := mul'_r (a := a.num) (b := (b.den : Int)) (by omega) (by omega)
  have m2 := mul'_r (a := (a.den : Int)) (b := b.num) (by omega) (by omega)
  have l1 := ll_mul a.num b.den
  have l2 := ll_mul (a.den : Int) b.num
  have n0 : b.num ≠ 0 := fun e => h0 (num_eq0.1 e)
  have n1 : (a.den : Int) * b.num ≠ 0 := Int.mul_ne_zero (by have := a.den_pos; omega) n0
  have r := qOf'_r (p := a.num * b.den) (q := (a.den : Int) * b.num) (by omega) (by omega) n1
  have s := sign'_r ((a.den : Int) * b.num) (by omega)
  have s0 : ¬ ((a.den : Int) * b.num).sign = 0 := by rw [Int.sign_eq_zero_iff_zero]; exact n1
  rw [← div_divInt] at r
  have mk : Rq 134 [.agg (zI (a.num * b.den)), .agg (zI ((a.den : Int) * b.num))] = some (.tup [.agg (zQ (a / b)), .int .i64 0]) := by
    refine RL_of (f := 134) (fn := Tryz.f134) Tryz.func134 rfl rfl rfl (Nat.le_of_ble_eq_true rfl) ?_
    simp only [zI_eq] at s r
    simp -implicitDefEqProofs (maxSteps := 5000000) (disch := omega) only [go_sem, s, s0, r, if_pos, if_neg, dec_t, dec_f, IntWalk.i64_in, IntWalk.u32_in, IntWalk.u64_in, beq_no]
  refine RL_of (f := 98) (fn := Tryz.f98) Tryz.func98 rfl rfl rfl (Nat.le_of_ble_eq_true rfl) ?_
  simp only [zI_eq, ng_cast] at m1 m2 mk
  simp -implicitDefEqProofs (maxSteps := 5000000) (disch := omega) only [go_sem, m1, m2, mk, if_pos, if_neg, dec_t, dec_f, IntWalk.i64_in, IntWalk.u32_in, IntWalk.u64_in, beq_no]
theorem perfect'_s {a : Int} (h0 : 0 ≤ a) (ha : ll a ≤ 500000000) : Rq 110 [.agg (zI a)] = some (.tup [.agg (zI (rt a)), .bool (dec (rt a * rt a = a))]) := by
  refine RL_of (f := 110) (fn := Tryz.f110) Tryz.func110 rfl rfl rfl (Nat.le_of_ble_eq_true rfl) ?_
  have s : Rq 144 [.agg (zI a)] = some (.tup [.agg (zI (rt a)), .int .i64 0]) := by
    rcases Int.lt_or_eq_of_le h0 with h | h
    · exact sqrt'_r h (by omega)
    · subst h
      rw [show rt 0 = 0 from rt_eq (by omega) (by omega) (by omega)]; exact sqrt'_zero
  have sp := rt_spec h0
  have lr : ll (rt a) ≤ ll a := by
    have n1 := rt_nn a
    refine ll_mono ?_
    have : rt a ≤ a := by
      rcases Int.lt_or_le (rt a) 1 with h | h
      · omega
      · have := Int.mul_le_mul_of_nonneg_left h n1; omega
    omega
  have m := mul'_r (a := rt a) (b := rt a) (by omega) (by omega)
  have lm2 := ll_mul (rt a) (rt a)
  have sm := same'_r (a := rt a * rt a) (b := a) (by omega) (by omega)
  clear sp lr lm2
  simp only [zI_eq] at s m sm
  by_cases k : rt a * rt a = a
  · rw [dec_t k] at sm ⊢
    simp -implicitDefEqProofs (maxSteps := 5000000) (disch := omega) only [go_sem, s, m, sm, if_pos, if_neg, dec_t, dec_f, IntWalk.i64_in, IntWalk.u32_in, IntWalk.u64_in, beq_no]
  · rw [dec_f k] at sm ⊢
    simp -implicitDefEqProofs (maxSteps := 5000000) (disch := omega) only [go_sem, s, m, sm, if_pos, if_neg, dec_t, dec_f, IntWalk.i64_in, IntWalk.u32_in, IntWalk.u64_in, beq_no]
theorem perfect'_neg {a : Int} (h0 : a < 0) : Rq 110 [.agg (zI a)] = some (.tup [.agg (zI 0), .bool false]) := by
  refine RL_of (f := 110) (fn := Tryz.f110) Tryz.func110 rfl rfl rfl (Nat.le_of_ble_eq_true rfl) ?_
  have s := sqrt'_neg h0
  simp only [zI_eq] at s
  simp -implicitDefEqProofs (maxSteps := 5000000) (disch := omega) only [go_sem, s, if_pos, if_neg, dec_t, dec_f, IntWalk.i64_in, IntWalk.u32_in, IntWalk.u64_in, beq_no]
theorem isqI_iff {a : Int} (h0 : 0 ≤ a) : IsqI a ↔ rt a * rt a = a := by
  constructor
  · rintro ⟨x, rfl⟩
    rcases Int.lt_or_le x 0 with h | h
    · rw [rt_eq (x := -x) (by omega) (by rw [Int.neg_mul_neg]; exact Int.le_refl _) (by grind)]; grind
    · rw [rt_eq (x := x) h (by omega) (by grind)]
  · intro h; exact ⟨_, h⟩
theorem qSqrt'_yes {q : Rat} (hq : rl q ≤ 300000000) (h : Isq q) : Rq 69 [.agg [.bool (ng (q).num), .sl false (us (lm (q).num)), .bool false, .sl false (us (lm ((q).den : Int)))]] = some (.tup [.agg (zQ (sqv q)), .bool true]) := by
  refine RL_of (f := 69) (fn := Tryz.f69) Tryz.func69 rfl rfl rfl (Nat.le_of_ble_eq_true rfl) ?_
  have h1 := rl_num q
  have h2 := rl_den q
  have n0 : 0 ≤ q.num := Rat.num_nonneg.2 h.nn
  have d0 := q.den_pos
  obtain ⟨i1, i2⟩ := (isq_iff q).1 h
  have k1 := (isqI_iff n0).1 i1
  have k2 := (isqI_iff (show 0 ≤ (q.den : Int) by omega)).1 i2
  have p1 := perfect'_s n0 (by omega)
  have p2 := perfect'_s (a := (q.den : Int)) (by omega) (by omega)
  rw [dec_t k1] at p1
  rw [dec_t k2] at p2
  have r0 := rt_nn (q.den : Int)
  have r1 : 0 < rt (q.den : Int) := by
    rcases Int.lt_or_eq_of_le r0 with h | h
    · exact h
    · rw [← h] at k2; omega
  obtain ⟨e1, e2⟩ := sqv_num (rt_nn q.num) r1 k1 k2
  simp only [zI_eq, ng_cast, ng_nn r0] at p1 p2
  simp -implicitDefEqProofs (maxSteps := 5000000) (disch := omega) only [go_sem, p1, p2, e1, e2, if_pos, if_neg, dec_t, dec_f, IntWalk.i64_in, IntWalk.u32_in, IntWalk.u64_in, beq_no]
theorem qSqrt'_no {q : Rat} (hq : rl q ≤ 300000000) (h : ¬ Isq q) : Rq 69 [.agg [.bool (ng (q).num), .sl false (us (lm (q).num)), .bool false, .sl false (us (lm ((q).den : Int)))]] = some (.tup [.agg [.bool false, .sl false [], .bool false, .sl false []], .bool false]) := by
  refine RL_of (f := 69) (fn := Tryz.f69) Tryz.func69 rfl rfl rfl (Nat.le_of_ble_eq_true rfl) ?_
  have h1 := rl_num q
  have h2 := rl_den q
  have d0 := q.den_pos
  have p2 := perfect'_s (a := (q.den : Int)) (by omega) (by omega)
  simp only [zI_eq, ng_cast] at p2
  by_cases n0 : 0 ≤ q.num
  · have p1 := perfect'_s n0 (by omega)
    simp only [zI_eq] at p1
    by_cases k1 : rt q.num * rt q.num = q.num
    · rw [dec_t k1] at p1
      have k2 : ¬ rt (q.den : Int) * rt (q.den : Int) = (q.den : Int) := fun e => h ((isq_iff q).2 ⟨⟨_, k1⟩, ⟨_, e⟩⟩)
      rw [dec_f k2] at p2
      simp -implicitDefEqProofs (maxSteps := 5000000) (disch := omega) only [go_sem, p1, p2, if_pos, if_neg, dec_t, dec_f, IntWalk.i64_in, IntWalk.u32_in, IntWalk.u64_in, beq_no]
    · rw [dec_f k1] at p1
      simp -implicitDefEqProofs (maxSteps := 5000000) (disch := omega) only [go_sem, p1, p2, if_pos, if_neg, dec_t, dec_f, IntWalk.i64_in, IntWalk.u32_in, IntWalk.u64_in, beq_no]
  · have p1 := perfect'_neg (show q.num < 0 by omega)
    simp only [zI_eq] at p1
    simp -implicitDefEqProofs (maxSteps := 5000000) (disch := omega) only [go_sem, p1, p2, if_pos, if_neg, dec_t, dec_f, IntWalk.i64_in, IntWalk.u32_in, IntWalk.u64_in, beq_no]
attribute [go_sem] Num.z0
@[go_sem] theorem zero3_s : Rq 97 [] = some (.agg (zQ 0)) := by
  refine RL_of (f := 97) (fn := Tryz.f97) Tryz.func97 rfl rfl rfl (Nat.le_of_ble_eq_true rfl) ?_
  simp -implicitDefEqProofs (maxSteps := 5000000) (disch := first | omega | (with_reducible apply Nat.le_trans; (focus (repeat' (first | with_reducible assumption | with_reducible apply rb_mul | with_reducible apply rb_add | with_reducible apply rb_sub | with_reducible apply rb_neg | with_reducible apply rb_div | with_reducible apply rb_divInt | with_reducible apply rb_int | with_reducible apply lb_mul | with_reducible apply lb_add | with_reducible apply lb_sub | with_reducible apply lb_neg | exact Nat.le_refl _))); omega)) only [go_sem, if_pos, if_neg, dec_t, dec_f, IntWalk.i64_in, IntWalk.u32_in, IntWalk.u64_in, beq_no]
@[go_sem] theorem fromRat3_s {a : Rat} : Rq 58 [.agg [.bool (ng (a).num), .sl false (us (lm (a).num)), .bool false, .sl false (us (lm ((a).den : Int)))]] = some (.agg (zR a 0 0)) := by
  refine RL_of (f := 58) (fn := Tryz.f58) Tryz.func58 rfl rfl rfl (Nat.le_of_ble_eq_true rfl) ?_
  simp -implicitDefEqProofs (maxSteps := 5000000) (disch := first | omega | (with_reducible apply Nat.le_trans; (focus (repeat' (first | with_reducible assumption | with_reducible apply rb_mul | with_reducible apply rb_add | with_reducible apply rb_sub | with_reducible apply rb_neg | with_reducible apply rb_div | with_reducible apply rb_divInt | with_reducible apply rb_int | with_reducible apply lb_mul | with_reducible apply lb_add | with_reducible apply lb_sub | with_reducible apply lb_neg | exact Nat.le_refl _))); omega)) only [go_sem, if_pos, if_neg, dec_t, dec_f, IntWalk.i64_in, IntWalk.u32_in, IntWalk.u64_in, beq_no]
theorem reduced3_0 {a b c : Rat} (hb : rl b ≤ 200000000) (hc : rl c ≤ 200000000) (h : b = 0 ∨ c = 0) : Rq 73 [.agg [.bool (ng (a).num), .sl false (us (lm (a).num)), .bool false, .sl false (us (lm ((a).den : Int)))], .agg [.bool (ng (b).num), .sl false (us (lm (b).num)), .bool false, .sl false (us (lm ((b).den : Int)))], .agg [.bool (ng (c).num), .sl false (us (lm (c).num)), .bool false, .sl false (us (lm ((c).den : Int)))]] = some (.agg (zR a 0 0)) := by
  refine RL_of (f := 73) (fn := Tryz.f73) Tryz.func73 rfl rfl rfl (Nat.le_of_ble_eq_true rfl) ?_
  by_cases k : b = 0
  · have s := sg_zero k
    simp -implicitDefEqProofs (maxSteps := 5000000) (disch := first | omega | (with_reducible apply Nat.le_trans; (focus (repeat' (first | with_reducible assumption | with_reducible apply rb_mul | with_reducible apply rb_add | with_reducible apply rb_sub | with_reducible apply rb_neg | with_reducible apply rb_div | with_reducible apply rb_divInt | with_reducible apply rb_int | with_reducible apply lb_mul | with_reducible apply lb_add | with_reducible apply lb_sub | with_reducible apply lb_neg | exact Nat.le_refl _))); omega)) only [go_sem, s, if_pos, if_neg, dec_t, dec_f, IntWalk.i64_in, IntWalk.u32_in, IntWalk.u64_in, beq_no]
  · have s : ¬ sg b = 0 := fun e => k (sg_eq.1 e)
    have s2 := sg_zero (show c = 0 by rcases h with h | h; exact absurd h k; exact h)
    simp -implicitDefEqProofs (maxSteps := 5000000) (disch := first | omega | (with_reducible apply Nat.le_trans; (focus (repeat' (first | with_reducible assumption | with_reducible apply rb_mul | with_reducible apply rb_add | with_reducible apply rb_sub | with_reducible apply rb_neg | with_reducible apply rb_div | with_reducible apply rb_divInt | with_reducible apply rb_int | with_reducible apply lb_mul | with_reducible apply lb_add | with_reducible apply lb_sub | with_reducible apply lb_neg | exact Nat.le_refl _))); omega)) only [go_sem, s, s2, if_pos, if_neg, dec_t, dec_f, IntWalk.i64_in, IntWalk.u32_in, IntWalk.u64_in, beq_no]
theorem reduced3_s {a b c : Rat} (hb : rl b ≤ 200000000) (hc : rl c ≤ 200000000) (h1 : b ≠ 0) (h2 : c ≠ 0) : Rq 73 [.agg [.bool (ng (a).num), .sl false (us (lm (a).num)), .bool false, .sl false (us (lm ((a).den : Int)))], .agg [.bool (ng (b).num), .sl false (us (lm (b).num)), .bool false, .sl false (us (lm ((b).den : Int)))], .agg [.bool (ng (c).num), .sl false (us (lm (c).num)), .bool false, .sl false (us (lm ((c).den : Int)))]] = some (.agg (zR a b c)) := by
  refine RL_of (f := 73) (fn := Tryz.f73) Tryz.func73 rfl rfl rfl (Nat.le_of_ble_eq_true rfl) ?_
  have s1 : ¬ sg b = 0 := fun e => h1 (sg_eq.1 e)
  have s2 : ¬ sg c = 0 := fun e => h2 (sg_eq.1 e)
  simp -implicitDefEqProofs (maxSteps := 5000000) (disch := first | omega | (with_reducible apply Nat.le_trans; (focus (repeat' (first | with_reducible assumption | with_reducible apply rb_mul | with_reducible apply rb_add | with_reducible apply rb_sub | with_reducible apply rb_neg | with_reducible apply rb_div | with_reducible apply rb_divInt | with_reducible apply rb_int | with_reducible apply lb_mul | with_reducible apply lb_add | with_reducible apply lb_sub | with_reducible apply lb_neg | exact Nat.le_refl _))); omega)) only [go_sem, s1, s2, if_pos, if_neg, dec_t, dec_f, IntWalk.i64_in, IntWalk.u32_in, IntWalk.u64_in, beq_no]
/-- The radicand of a root that may be rational. -/
noncomputable def cN (b c : Rat) : Rat := if b = 0 then 0 else c
theorem cN_0 {b c : Rat} (h : b = 0) : cN b c = 0 := if_pos h
theorem cN_1 {b c : Rat} (h : b ≠ 0) : cN b c = c := if_neg h
theorem reduced3_c {a b c : Rat} (hb : rl b ≤ 200000000) (hc : rl c ≤ 200000000) (h : c = 0 → b = 0) : Rq 73 [.agg [.bool (ng (a).num), .sl false (us (lm (a).num)), .bool false, .sl false (us (lm ((a).den : Int)))], .agg [.bool (ng (b).num), .sl false (us (lm (b).num)), .bool false, .sl false (us (lm ((b).den : Int)))], .agg [.bool (ng (c).num), .sl false (us (lm (c).num)), .bool false, .sl false (us (lm ((c).den : Int)))]] = some (.agg (zR a b (cN b c))) := by
  by_cases k : b = 0
  · rw [cN_0 k, reduced3_0 hb hc (.inl k)]; subst k; rfl
  · rw [cN_1 k]; exact reduced3_s hb hc k (fun e => k (h e))
theorem rl_sqv {c : Rat} (h : Isq c) : rl (sqv c) ≤ rl c := by
  obtain ⟨i1, i2⟩ := (isq_iff c).1 h
  have n0 : 0 ≤ c.num := Rat.num_nonneg.2 h.nn
  have d0 := c.den_pos
  have k1 := (isqI_iff n0).1 i1
  have k2 := (isqI_iff (show 0 ≤ (c.den : Int) by omega)).1 i2
  have r0 := rt_nn (c.den : Int)
  have r1 : 0 < rt (c.den : Int) := by
    rcases Int.lt_or_eq_of_le r0 with h | h
    · exact h
    · rw [← h] at k2; omega
  obtain ⟨f1, f2⟩ := sqv_num (rt_nn c.num) r1 k1 k2
  have le : ∀ x y : Int, 0 ≤ x → x * x = y → ll x ≤ ll y := fun x y hx hy => by
    refine ll_mono ?_
    have : x ≤ y := by
      rw [← hy]
      rcases Int.lt_or_le x 1 with h | h
      · have : x = 0 := by omega
        subst this; omega
      · have := Int.mul_le_mul_of_nonneg_left h hx; omega
    omega
  unfold rl
  rw [f1, f2]
  have a1 := le _ _ (rt_nn c.num) k1
  have a2 := le _ _ r0 k2
  omega
theorem rl_zero : rl 0 ≤ 1 := by have := rl_int 0; rw [ll_zero, z0] at this; exact this
theorem rl_mA {a b c : Rat} : rl (mA a b c) ≤ rl a + rl b + rl c + 1 := by
  unfold mA
  split
  · rename_i h
    have := rl_sqv h
    exact Nat.le_trans (rl_add _ _) (by have := rl_mul b (sqv c); omega)
  · omega
theorem rl_mB {b c : Rat} : rl (mB b c) ≤ rl b + 1 := by
  unfold mB; split
  · have := rl_zero; omega
  · omega
theorem rl_mC {b c : Rat} : rl (mC b c) ≤ rl c + 1 := by
  unfold mC; split
  · have := rl_zero; omega
  · omega
theorem make3_s {a b c : Rat} (ha : rl a ≤ 50000000) (hb : rl b ≤ 50000000) (hc : rl c ≤ 50000000) (h0 : 0 ≤ c) : Rq 33 [.agg [.bool (ng (a).num), .sl false (us (lm (a).num)), .bool false, .sl false (us (lm ((a).den : Int)))], .agg [.bool (ng (b).num), .sl false (us (lm (b).num)), .bool false, .sl false (us (lm ((b).den : Int)))], .agg [.bool (ng (c).num), .sl false (us (lm (c).num)), .bool false, .sl false (us (lm ((c).den : Int)))]] = some (.tup [.agg (zR (mA a b c) (mB b c) (mC b c)), .int .i64 0]) := by
  refine RL_of (f := 33) (fn := Tryz.f33) Tryz.func33 rfl rfl rfl (Nat.le_of_ble_eq_true rfl) ?_
  have s0 : ¬ sg c < 0 := fun e => by have := sg_lt.1 e; grind
  by_cases h : Isq c
  · obtain ⟨e1, e2, e3⟩ := mk_sq (A := a) (B := b) h
    rw [e1, e2, e3]
    have sq := qSqrt'_yes (q := c) (by omega) h
    have ls := rl_sqv h
    simp -implicitDefEqProofs (maxSteps := 5000000) (disch := first | omega | (with_reducible apply Nat.le_trans; (focus (repeat' (first | with_reducible assumption | with_reducible apply rb_mul | with_reducible apply rb_add | with_reducible apply rb_sub | with_reducible apply rb_neg | with_reducible apply rb_div | with_reducible apply rb_divInt | with_reducible apply rb_int | with_reducible apply lb_mul | with_reducible apply lb_add | with_reducible apply lb_sub | with_reducible apply lb_neg | exact Nat.le_refl _))); omega)) only [go_sem, s0, sq, if_pos, if_neg, dec_t, dec_f, IntWalk.i64_in, IntWalk.u32_in, IntWalk.u64_in, beq_no]
  · have sq := qSqrt'_no (q := c) (by omega) h
    have c0 : c ≠ 0 := fun e => h (by rw [e]; exact isq_zero)
    by_cases k : b = 0
    · obtain ⟨e1, e2, e3⟩ := mk_zero (A := a) h k
      rw [e1, e2, e3]
      have rd := reduced3_0 (a := a) (b := b) (c := c) (by omega) (by omega) (.inl k)
      simp -implicitDefEqProofs (maxSteps := 5000000) (disch := first | omega | (with_reducible apply Nat.le_trans; (focus (repeat' (first | with_reducible assumption | with_reducible apply rb_mul | with_reducible apply rb_add | with_reducible apply rb_sub | with_reducible apply rb_neg | with_reducible apply rb_div | with_reducible apply rb_divInt | with_reducible apply rb_int | with_reducible apply lb_mul | with_reducible apply lb_add | with_reducible apply lb_sub | with_reducible apply lb_neg | exact Nat.le_refl _))); omega)) only [go_sem, s0, sq, rd, if_pos, if_neg, dec_t, dec_f, IntWalk.i64_in, IntWalk.u32_in, IntWalk.u64_in, beq_no]
    · obtain ⟨e1, e2, e3⟩ := mk_no (A := a) h k
      rw [e1, e2, e3]
      have rd := reduced3_s (a := a) (b := b) (c := c) (by omega) (by omega) k c0
      simp -implicitDefEqProofs (maxSteps := 5000000) (disch := first | omega | (with_reducible apply Nat.le_trans; (focus (repeat' (first | with_reducible assumption | with_reducible apply rb_mul | with_reducible apply rb_add | with_reducible apply rb_sub | with_reducible apply rb_neg | with_reducible apply rb_div | with_reducible apply rb_divInt | with_reducible apply rb_int | with_reducible apply lb_mul | with_reducible apply lb_add | with_reducible apply lb_sub | with_reducible apply lb_neg | exact Nat.le_refl _))); omega)) only [go_sem, s0, sq, rd, if_pos, if_neg, dec_t, dec_f, IntWalk.i64_in, IntWalk.u32_in, IntWalk.u64_in, beq_no]
end Go.Pi

set_option linter.unusedVariables false
set_option linter.unusedSimpArgs false
set_option maxHeartbeats 4000000
set_option maxRecDepth 8000
/-
The reference's points.
-/
namespace Go.Pi
open Go Go.Proofs Num
theorem rl_small {n : Int} (h0 : -1000000000 < n) (h1 : n < 1000000000) : rl (n : Rat) ≤ 1 := Nat.le_trans (rl_int n) (by have := ll_small h0 h1; omega)
/-- A vector's cells. -/
def zV (x y : Rat) : List PV := zQ x ++ zQ y
@[go_sem] theorem zV_eq (x y : Rat) : zV x y = [.bool (ng (x).num), .sl false (us (lm (x).num)), .bool false, .sl false (us (lm ((x).den : Int))), .bool (ng (y).num), .sl false (us (lm (y).num)), .bool false, .sl false (us (lm ((y).den : Int)))] := by
  simp only [zV, zQ_eq]; rfl
@[go_sem] theorem ti_Vec : ti Pq 48 = some ⟨.struct [(0, 4), (4, 4)], 8, 128, [.bool false, .sl true [], .bool false, .sl true [], .bool false, .sl true [], .bool false, .sl true []]⟩ := by kernel_rfl
@[go_sem] theorem vec7_s {x y : Int} (hx : -9223372036854775808 ≤ x ∧ x ≤ 9223372036854775807) (hy : -9223372036854775808 ≤ y ∧ y ≤ 9223372036854775807) : Rq 32 [.int .i64 x, .int .i64 y] = some (.agg (zV (x : Rat) (y : Rat))) := by
  refine RL_of (f := 32) (fn := Tryz.f32) Tryz.func32 rfl rfl rfl (Nat.le_of_ble_eq_true rfl) ?_
  simp -implicitDefEqProofs (maxSteps := 5000000) (disch := first | omega | (with_reducible apply Nat.le_trans; (focus (repeat' (first | with_reducible assumption | with_reducible apply rb_mul | with_reducible apply rb_add | with_reducible apply rb_sub | with_reducible apply rb_neg | with_reducible apply rb_div | with_reducible apply rb_divInt | with_reducible apply rb_int | with_reducible apply lb_mul | with_reducible apply lb_add | with_reducible apply lb_sub | with_reducible apply lb_neg | exact Nat.le_refl _))); omega)) only [go_sem, if_pos, if_neg, dec_t, dec_f, IntWalk.i64_in, IntWalk.u32_in, IntWalk.u64_in, beq_no]
/-- A point in reduced form. -/
def PRed (BX BY C : Rat) : Prop := (BX = 0 ∧ BY = 0 ∧ C = 0) ∨ (0 < C ∧ ¬ Isq C)
theorem PRed.nn {BX BY C : Rat} (h : PRed BX BY C) : 0 ≤ C := by
  rcases h with ⟨_, _, h⟩ | ⟨h, _⟩ <;> grind
theorem PRed.z {BX BY C : Rat} (h : PRed BX BY C) : C = 0 → BX = 0 ∧ BY = 0 := fun e => by
  rcases h with ⟨h1, h2, _⟩ | ⟨h, _⟩
  · exact ⟨h1, h2⟩
  · grind
theorem PRed.red {BX BY C b : Rat} (h : PRed BX BY C) (hb : BX = 0 → BY = 0 → b = 0) : Red b (cN b C) := by
  by_cases k : b = 0
  · exact .inl ⟨k, cN_0 k⟩
  · rw [cN_1 k]
    rcases h with ⟨h1, h2, _⟩ | ⟨h1, h2⟩
    · exact absurd (hb h1 h2) k
    · exact .inr ⟨k, h1, h2⟩
theorem exF_cN (A B C : Rat) : exF A B (cN B C) = exF A B C := by
  by_cases k : B = 0
  · subst k; rw [exF_B0, exF_B0]
  · rw [cN_1 k]
end Go.Pi
