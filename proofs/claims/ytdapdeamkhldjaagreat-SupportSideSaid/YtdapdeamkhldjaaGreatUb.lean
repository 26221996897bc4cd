/- What is proved: the reference: quotients, roots and points. No conditions beyond those in the statements. -/
import Derived.Test.YtdapdeamkhldjaaGreatTw
import Derived.Test.YtdapdeamkhldjaaGreatRg
set_option linter.unusedVariables false
set_option linter.unusedSimpArgs false
set_option maxHeartbeats 4000000
set_option maxRecDepth 8000
/-
The reference's quotients and square roots of fractions; its roots.
-/
namespace Go.Pi
open Go Go.Proofs Num
theorem qDiv'_s {a b : Rat} (ha : rl a ≤ 200000000) (hb : rl b ≤ 200000000) (h0 : b ≠ 0) : Rq 110 [.agg [.bool (ng (a).num), .sl false (us (lm (a).num)), .bool false, .sl false (us (lm ((a).den : Int)))], .agg [.bool (ng (b).num), .sl false (us (lm (b).num)), .bool false, .sl false (us (lm ((b).den : Int)))]] = some (.tup [.agg (zQ (a / b)), .int .i64 0]) := by
  have h1 := rl_num a
  have h2 := rl_den a
  have h3 := rl_num b
  have h4 := rl_den b
  have m1 := mul'_r (a := a.num) (b := (b.den : Int)) (by omega) (by omega)
  have m2 := mul'_r (a := (a.den : Int)) (b := b.num) (by omega) (by omega)
  have l1 := ll_mul a.num b.den
  have l2 := ll_mul (a.den : Int) b.num
  have n0 : b.num ≠ 0 := fun e => h0 (num_eq0.1 e)
  have n1 : (a.den : Int) * b.num ≠ 0 := Int.mul_ne_zero (by have := a.den_pos; omega) n0
  have r := qOf'_r (p := a.num * b.den) (q := (a.den : Int) * b.num) (by omega) (by omega) n1
  have s := sign'_r ((a.den : Int) * b.num) (by omega)
  have s0 : ¬ ((a.den : Int) * b.num).sign = 0 := by rw [Int.sign_eq_zero_iff_zero]; exact n1
  rw [← div_divInt] at r
  have mk : Rq 143 [.agg (zI (a.num * b.den)), .agg (zI ((a.den : Int) * b.num))] = some (.tup [.agg (zQ (a / b)), .int .i64 0]) := by
    refine RL_of (f := 143) (fn := Tryz.f143) Tryz.func143 rfl rfl rfl (Nat.le_of_ble_eq_true rfl) ?_
    simp only [zI_eq] at s r
    simp -implicitDefEqProofs (maxSteps := 5000000) (disch := omega) only [go_sem, s, s0, r, if_pos, if_neg, dec_t, dec_f, IntWalk.i64_in, IntWalk.u32_in, IntWalk.u64_in, beq_no]
  refine RL_of (f := 110) (fn := Tryz.f110) Tryz.func110 rfl rfl rfl (Nat.le_of_ble_eq_true rfl) ?_
  simp only [zI_eq, ng_cast] at m1 m2 mk
  simp -implicitDefEqProofs (maxSteps := 5000000) (disch := omega) only [go_sem, m1, m2, mk, if_pos, if_neg, dec_t, dec_f, IntWalk.i64_in, IntWalk.u32_in, IntWalk.u64_in, beq_no]
theorem num_inj {a b : Rat} (h1 : a.num = b.num) (h2 : (a.den : Int) = (b.den : Int)) : a = b := Rat.ext h1 (by omega)
@[go_sem] theorem qSame'_s {a b : Rat} (ha : rl a ≤ 300000000) (hb : rl b ≤ 300000000) : Rq 57 [.agg [.bool (ng (a).num), .sl false (us (lm (a).num)), .bool false, .sl false (us (lm ((a).den : Int)))], .agg [.bool (ng (b).num), .sl false (us (lm (b).num)), .bool false, .sl false (us (lm ((b).den : Int)))]] = some (.bool (dec (a = b))) := by
  refine RL_of (f := 57) (fn := Tryz.f57) Tryz.func57 rfl rfl rfl (Nat.le_of_ble_eq_true rfl) ?_
  have h1 := rl_num a
  have h2 := rl_den a
  have h3 := rl_num b
  have h4 := rl_den b
  have m1 := same'_r (a := a.num) (b := b.num) (by omega) (by omega)
  have m2 := same'_r (a := (a.den : Int)) (b := (b.den : Int)) (by omega) (by omega)
  simp only [zI_eq, ng_cast] at m1 m2
  by_cases k1 : a.num = b.num
  · rw [dec_t k1] at m1
    by_cases k2 : (a.den : Int) = (b.den : Int)
    · rw [dec_t k2] at m2
      rw [dec_t (num_inj k1 k2)]
      simp -implicitDefEqProofs (maxSteps := 5000000) (disch := omega) only [go_sem, m1, m2, if_pos, if_neg, dec_t, dec_f, IntWalk.i64_in, IntWalk.u32_in, IntWalk.u64_in, beq_no]
    · rw [dec_f k2] at m2
      rw [dec_f (fun e => k2 (by rw [e]))]
      simp -implicitDefEqProofs (maxSteps := 5000000) (disch := omega) only [go_sem, m1, m2, if_pos, if_neg, dec_t, dec_f, IntWalk.i64_in, IntWalk.u32_in, IntWalk.u64_in, beq_no]
  · rw [dec_f k1] at m1
    rw [dec_f (fun e => k1 (by rw [e]))]
    simp -implicitDefEqProofs (maxSteps := 5000000) (disch := omega) only [go_sem, m1, if_pos, if_neg, dec_t, dec_f, IntWalk.i64_in, IntWalk.u32_in, IntWalk.u64_in, beq_no]
theorem perfect'_s {a : Int} (h0 : 0 ≤ a) (ha : ll a ≤ 500000000) : Rq 130 [.agg (zI a)] = some (.tup [.agg (zI (rt a)), .bool (dec (rt a * rt a = a))]) := by
  refine RL_of (f := 130) (fn := Tryz.f130) Tryz.func130 rfl rfl rfl (Nat.le_of_ble_eq_true rfl) ?_
  have s : Rq 158 [.agg (zI a)] = some (.tup [.agg (zI (rt a)), .int .i64 0]) := by
    rcases Int.lt_or_eq_of_le h0 with h | h
    · exact sqrt'_r h (by omega)
    · subst h
      rw [show rt 0 = 0 from rt_eq (by omega) (by omega) (by omega)]; exact sqrt'_zero
  have sp := rt_spec h0
  have lr : ll (rt a) ≤ ll a := by
    have n1 := rt_nn a
    refine ll_mono ?_
    have : rt a ≤ a := by
      rcases Int.lt_or_le (rt a) 1 with h | h
      · omega
      · have := Int.mul_le_mul_of_nonneg_left h n1; omega
    omega
  have m := mul'_r (a := rt a) (b := rt a) (by omega) (by omega)
  have lm2 := ll_mul (rt a) (rt a)
  have sm := same'_r (a := rt a * rt a) (b := a) (by omega) (by omega)
  clear sp lr lm2
  simp only [zI_eq] at s m sm
  by_cases k : rt a * rt a = a
  · rw [dec_t k] at sm ⊢
    simp -implicitDefEqProofs (maxSteps := 5000000) (disch := omega) only [go_sem, s, m, sm, if_pos, if_neg, dec_t, dec_f, IntWalk.i64_in, IntWalk.u32_in, IntWalk.u64_in, beq_no]
  · rw [dec_f k] at sm ⊢
    simp -implicitDefEqProofs (maxSteps := 5000000) (disch := omega) only [go_sem, s, m, sm, if_pos, if_neg, dec_t, dec_f, IntWalk.i64_in, IntWalk.u32_in, IntWalk.u64_in, beq_no]
theorem perfect'_neg {a : Int} (h0 : a < 0) : Rq 130 [.agg (zI a)] = some (.tup [.agg (zI 0), .bool false]) := by
  refine RL_of (f := 130) (fn := Tryz.f130) Tryz.func130 rfl rfl rfl (Nat.le_of_ble_eq_true rfl) ?_
  have s := sqrt'_neg h0
  simp only [zI_eq] at s
  simp -implicitDefEqProofs (maxSteps := 5000000) (disch := omega) only [go_sem, s, if_pos, if_neg, dec_t, dec_f, IntWalk.i64_in, IntWalk.u32_in, IntWalk.u64_in, beq_no]
theorem isqI_iff {a : Int} (h0 : 0 ≤ a) : IsqI a ↔ rt a * rt a = a := by
  constructor
  · rintro ⟨x, rfl⟩
    rcases Int.lt_or_le x 0 with h | h
    · rw [rt_eq (x := -x) (by omega) (by rw [Int.neg_mul_neg]; exact Int.le_refl _) (by grind)]; grind
    · rw [rt_eq (x := x) h (by omega) (by grind)]
  · intro h; exact ⟨_, h⟩
theorem qSqrt'_yes {q : Rat} (hq : rl q ≤ 300000000) (h : Isq q) : Rq 93 [.agg [.bool (ng (q).num), .sl false (us (lm (q).num)), .bool false, .sl false (us (lm ((q).den : Int)))]] = some (.tup [.agg (zQ (sqv q)), .bool true]) := by
  refine RL_of (f := 93) (fn := Tryz.f93) Tryz.func93 rfl rfl rfl (Nat.le_of_ble_eq_true rfl) ?_
  have h1 := rl_num q
  have h2 := rl_den q
  have n0 : 0 ≤ q.num := Rat.num_nonneg.2 h.nn
  have d0 := q.den_pos
  obtain ⟨i1, i2⟩ := (isq_iff q).1 h
  have k1 := (isqI_iff n0).1 i1
  have k2 := (isqI_iff (show 0 ≤ (q.den : Int) by omega)).1 i2
  have p1 := perfect'_s n0 (by omega)
  have p2 := perfect'_s (a := (q.den : Int)) (by omega) (by omega)
  rw [dec_t k1] at p1
  rw [dec_t k2] at p2
  have r0 := rt_nn (q.den : Int)
  have r1 : 0 < rt (q.den : Int) := by
    rcases Int.lt_or_eq_of_le r0 with h | h
    · exact h
    · rw [← h] at k2; omega
  obtain ⟨e1, e2⟩ := sqv_num (rt_nn q.num) r1 k1 k2
  simp only [zI_eq, ng_cast, ng_nn r0] at p1 p2
  simp -implicitDefEqProofs (maxSteps := 5000000) (disch := omega) only [go_sem, p1, p2, e1, e2, if_pos, if_neg, dec_t, dec_f, IntWalk.i64_in, IntWalk.u32_in, IntWalk.u64_in, beq_no]
theorem qSqrt'_no {q : Rat} (hq : rl q ≤ 300000000) (h : ¬ Isq q) : Rq 93 [.agg [.bool (ng (q).num), .sl false (us (lm (q).num)), .bool false, .sl false (us (lm ((q).den : Int)))]] = some (.tup [.agg [.bool false, .sl false [], .bool false, .sl false []], .bool false]) := by
  refine RL_of (f := 93) (fn := Tryz.f93) Tryz.func93 rfl rfl rfl (Nat.le_of_ble_eq_true rfl) ?_
  have h1 := rl_num q
  have h2 := rl_den q
  have d0 := q.den_pos
  have p2 := perfect'_s (a := (q.den : Int)) (by omega) (by omega)
  simp only [zI_eq, ng_cast] at p2
  by_cases n0 : 0 ≤ q.num
  · have p1 := perfect'_s n0 (by omega)
    simp only [zI_eq] at p1
    by_cases k1 : rt q.num * rt q.num = q.num
    · rw [dec_t k1] at p1
      have k2 : ¬ rt (q.den : Int) * rt (q.den : Int) = (q.den : Int) := fun e => h ((isq_iff q).2 ⟨⟨_, k1⟩, ⟨_, e⟩⟩)
      rw [dec_f k2] at p2
      simp -implicitDefEqProofs (maxSteps := 5000000) (disch := omega) only [go_sem, p1, p2, if_pos, if_neg, dec_t, dec_f, IntWalk.i64_in, IntWalk.u32_in, IntWalk.u64_in, beq_no]
    · rw [dec_f k1] at p1
      simp -implicitDefEqProofs (maxSteps := 5000000) (disch := omega) only [go_sem, p1, p2, if_pos, if_neg, dec_t, dec_f, IntWalk.i64_in, IntWalk.u32_in, IntWalk.u64_in, beq_no]
  · have p1 := perfect'_neg (show q.num < 0 by omega)
    simp only [zI_eq] at p1
    simp -implicitDefEqProofs (maxSteps := 5000000) (disch := omega) only [go_sem, p1, p2, if_pos, if_neg, dec_t, dec_f, IntWalk.i64_in, IntWalk.u32_in, IntWalk.u64_in, beq_no]
attribute [go_sem] Num.z0
@[go_sem] theorem zero3_s : Rq 131 [] = some (.agg (zQ 0)) := by
  refine RL_of (f := 131) (fn := Tryz.f131) Tryz.func131 rfl rfl rfl (Nat.le_of_ble_eq_true rfl) ?_
  simp -implicitDefEqProofs (maxSteps := 5000000) (disch := first | omega | (with_reducible apply Nat.le_trans; (focus (repeat' (first | with_reducible assumption | with_reducible apply rb_mul | with_reducible apply rb_add | with_reducible apply rb_sub | with_reducible apply rb_neg | with_reducible apply rb_div | with_reducible apply rb_divInt | with_reducible apply rb_int | with_reducible apply lb_mul | with_reducible apply lb_add | with_reducible apply lb_sub | with_reducible apply lb_neg | exact Nat.le_refl _))); omega)) only [go_sem, if_pos, if_neg, dec_t, dec_f, IntWalk.i64_in, IntWalk.u32_in, IntWalk.u64_in, beq_no]
@[go_sem] theorem fromRat3_s {a : Rat} : Rq 94 [.agg [.bool (ng (a).num), .sl false (us (lm (a).num)), .bool false, .sl false (us (lm ((a).den : Int)))]] = some (.agg (zR a 0 0)) := by
  refine RL_of (f := 94) (fn := Tryz.f94) Tryz.func94 rfl rfl rfl (Nat.le_of_ble_eq_true rfl) ?_
  simp -implicitDefEqProofs (maxSteps := 5000000) (disch := first | omega | (with_reducible apply Nat.le_trans; (focus (repeat' (first | with_reducible assumption | with_reducible apply rb_mul | with_reducible apply rb_add | with_reducible apply rb_sub | with_reducible apply rb_neg | with_reducible apply rb_div | with_reducible apply rb_divInt | with_reducible apply rb_int | with_reducible apply lb_mul | with_reducible apply lb_add | with_reducible apply lb_sub | with_reducible apply lb_neg | exact Nat.le_refl _))); omega)) only [go_sem, if_pos, if_neg, dec_t, dec_f, IntWalk.i64_in, IntWalk.u32_in, IntWalk.u64_in, beq_no]
theorem reduced3_0 {a b c : Rat} (hb : rl b ≤ 200000000) (hc : rl c ≤ 200000000) (h : b = 0 ∨ c = 0) : Rq 95 [.agg [.bool (ng (a).num), .sl false (us (lm (a).num)), .bool false, .sl false (us (lm ((a).den : Int)))], .agg [.bool (ng (b).num), .sl false (us (lm (b).num)), .bool false, .sl false (us (lm ((b).den : Int)))], .agg [.bool (ng (c).num), .sl false (us (lm (c).num)), .bool false, .sl false (us (lm ((c).den : Int)))]] = some (.agg (zR a 0 0)) := by
  refine RL_of (f := 95) (fn := Tryz.f95) Tryz.func95 rfl rfl rfl (Nat.le_of_ble_eq_true rfl) ?_
  by_cases k : b = 0
  · have s := sg_zero k
    simp -implicitDefEqProofs (maxSteps := 5000000) (disch := first | omega | (with_reducible apply Nat.le_trans; (focus (repeat' (first | with_reducible assumption | with_reducible apply rb_mul | with_reducible apply rb_add | with_reducible apply rb_sub | with_reducible apply rb_neg | with_reducible apply rb_div | with_reducible apply rb_divInt | with_reducible apply rb_int | with_reducible apply lb_mul | with_reducible apply lb_add | with_reducible apply lb_sub | with_reducible apply lb_neg | exact Nat.le_refl _))); omega)) only [go_sem, s, if_pos, if_neg, dec_t, dec_f, IntWalk.i64_in, IntWalk.u32_in, IntWalk.u64_in, beq_no]
  · have s : ¬ sg b = 0 := fun e => k (sg_eq.1 e)
    have s2 := sg_zero (show c = 0 by rcases h with h | h; exact absurd h k; exact h)
    simp -implicitDefEqProofs (maxSteps := 5000000) (disch := first | omega | (with_reducible apply Nat.le_trans; (focus (repeat' (first | with_reducible assumption | with_reducible apply rb_mul | with_reducible apply rb_add | with_reducible apply rb_sub | with_reducible apply rb_neg | with_reducible apply rb_div | with_reducible apply rb_divInt | with_reducible apply rb_int | with_reducible apply lb_mul | with_reducible apply lb_add | with_reducible apply lb_sub | with_reducible apply lb_neg | exact Nat.le_refl _))); omega)) only [go_sem, s, s2, if_pos, if_neg, dec_t, dec_f, IntWalk.i64_in, IntWalk.u32_in, IntWalk.u64_in, beq_no]
theorem reduced3_s {a b c : Rat} (hb : rl b ≤ 200000000) (hc : rl c ≤ 200000000) (h1 : b ≠ 0) (h2 : c ≠ 0) : Rq 95 [.agg [.bool (ng (a).num), .sl false (us (lm (a).num)), .bool false, .sl false (us (lm ((a).den : Int)))], .agg [.bool (ng (b).num), .sl false (us (lm (b).num)), .bool false, .sl false (us (lm ((b).den : Int)))], .agg [.bool (ng (c).num), .sl false (us (lm (c).num)), .bool false, .sl false (us (lm ((c).den : Int)))]] = some (.agg (zR a b c)) := by
  refine RL_of (f := 95) (fn := Tryz.f95) Tryz.func95 rfl rfl rfl (Nat.le_of_ble_eq_true rfl) ?_
  have s1 : ¬ sg b = 0 := fun e => h1 (sg_eq.1 e)
  have s2 : ¬ sg c = 0 := fun e => h2 (sg_eq.1 e)
  simp -implicitDefEqProofs (maxSteps := 5000000) (disch := first | omega | (with_reducible apply Nat.le_trans; (focus (repeat' (first | with_reducible assumption | with_reducible apply rb_mul | with_reducible apply rb_add | with_reducible apply rb_sub | with_reducible apply rb_neg | with_reducible apply rb_div | with_reducible apply rb_divInt | with_reducible apply rb_int | with_reducible apply lb_mul | with_reducible apply lb_add | with_reducible apply lb_sub | with_reducible apply lb_neg | exact Nat.le_refl _))); omega)) only [go_sem, s1, s2, if_pos, if_neg, dec_t, dec_f, IntWalk.i64_in, IntWalk.u32_in, IntWalk.u64_in, beq_no]
/-- The radicand of a root that may be rational. -/
noncomputable def cN (b c : Rat) : Rat := if b = 0 then 0 else c
theorem cN_0 {b c : Rat} (h : b = 0) : cN b c = 0 := if_pos h
theorem cN_1 {b c : Rat} (h : b ≠ 0) : cN b c = c := if_neg h
theorem reduced3_c {a b c : Rat} (hb : rl b ≤ 200000000) (hc : rl c ≤ 200000000) (h : c = 0 → b = 0) : Rq 95 [.agg [.bool (ng (a).num), .sl false (us (lm (a).num)), .bool false, .sl false (us (lm ((a).den : Int)))], .agg [.bool (ng (b).num), .sl false (us (lm (b).num)), .bool false, .sl false (us (lm ((b).den : Int)))], .agg [.bool (ng (c).num), .sl false (us (lm (c).num)), .bool false, .sl false (us (lm ((c).den : Int)))]] = some (.agg (zR a b (cN b c))) := by
  by_cases k : b = 0
  · rw [cN_0 k, reduced3_0 hb hc (.inl k)]; subst k; rfl
  · rw [cN_1 k]; exact reduced3_s hb hc k (fun e => k (h e))
theorem rl_sqv {c : Rat} (h : Isq c) : rl (sqv c) ≤ rl c := by
  obtain ⟨i1, i2⟩ := (isq_iff c).1 h
  have n0 : 0 ≤ c.num := Rat.num_nonneg.2 h.nn
  have d0 := c.den_pos
  have k1 := (isqI_iff n0).1 i1
  have k2 := (isqI_iff (show 0 ≤ (c.den : Int) by omega)).1 i2
  have r0 := rt_nn (c.den : Int)
  have r1 : 0 < rt (c.den : Int) := by
    rcases Int.lt_or_eq_of_le r0 with h | h
    · exact h
    · rw [← h] at k2; omega
  obtain ⟨f1, f2⟩ := sqv_num (rt_nn c.num) r1 k1 k2
  have le : ∀ x y : Int, 0 ≤ x → x * x = y → ll x ≤ ll y := fun x y hx hy => by
    refine ll_mono ?_
    have : x ≤ y := by
      rw [← hy]
      rcases Int.lt_or_le x 1 with h | h
      · have : x = 0 := by omega
        subst this; omega
      · have := Int.mul_le_mul_of_nonneg_left h hx; omega
    omega
  unfold rl
  rw [f1, f2]
  have a1 := le _ _ (rt_nn c.num) k1
  have a2 := le _ _ r0 k2
  omega
theorem rl_zero : rl 0 ≤ 1 := by have := rl_int 0; rw [ll_zero, z0] at this; exact this
theorem rl_mA {a b c : Rat} : rl (mA a b c) ≤ rl a + rl b + rl c + 1 := by
  unfold mA
  split
  · rename_i h
    have := rl_sqv h
    exact Nat.le_trans (rl_add _ _) (by have := rl_mul b (sqv c); omega)
  · omega
theorem rl_mB {b c : Rat} : rl (mB b c) ≤ rl b + 1 := by
  unfold mB; split
  · have := rl_zero; omega
  · omega
theorem rl_mC {b c : Rat} : rl (mC b c) ≤ rl c + 1 := by
  unfold mC; split
  · have := rl_zero; omega
  · omega
theorem make3_s {a b c : Rat} (ha : rl a ≤ 50000000) (hb : rl b ≤ 50000000) (hc : rl c ≤ 50000000) (h0 : 0 ≤ c) : Rq 61 [.agg [.bool (ng (a).num), .sl false (us (lm (a).num)), .bool false, .sl false (us (lm ((a).den : Int)))], .agg [.bool (ng (b).num), .sl false (us (lm (b).num)), .bool false, .sl false (us (lm ((b).den : Int)))], .agg [.bool (ng (c).num), .sl false (us (lm (c).num)), .bool false, .sl false (us (lm ((c).den : Int)))]] = some (.tup [.agg (zR (mA a b c) (mB b c) (mC b c)), .int .i64 0]) := by
  refine RL_of (f := 61) (fn := Tryz.f61) Tryz.func61 rfl rfl rfl (Nat.le_of_ble_eq_true rfl) ?_
  have s0 : ¬ sg c < 0 := fun e => by have := sg_lt.1 e; grind
  by_cases h : Isq c
  · obtain ⟨e1, e2, e3⟩ := mk_sq (A := a) (B := b) h
    rw [e1, e2, e3]
    have sq := qSqrt'_yes (q := c) (by omega) h
    have ls := rl_sqv h
    simp -implicitDefEqProofs (maxSteps := 5000000) (disch := first | omega | (with_reducible apply Nat.le_trans; (focus (repeat' (first | with_reducible assumption | with_reducible apply rb_mul | with_reducible apply rb_add | with_reducible apply rb_sub | with_reducible apply rb_neg | with_reducible apply rb_div | with_reducible apply rb_divInt | with_reducible apply rb_int | with_reducible apply lb_mul | with_reducible apply lb_add | with_reducible apply lb_sub | with_reducible apply lb_neg | exact Nat.le_refl _))); omega)) only [go_sem, s0, sq, if_pos, if_neg, dec_t, dec_f, IntWalk.i64_in, IntWalk.u32_in, IntWalk.u64_in, beq_no]
  · have sq := qSqrt'_no (q := c) (by omega) h
    have c0 : c ≠ 0 := fun e => h (by rw [e]; exact isq_zero)
    by_cases k : b = 0
    · obtain ⟨e1, e2, e3⟩ := mk_zero (A := a) h k
      rw [e1, e2, e3]
      have rd := reduced3_0 (a := a) (b := b) (c := c) (by omega) (by omega) (.inl k)
      simp -implicitDefEqProofs (maxSteps := 5000000) (disch := first | omega | (with_reducible apply Nat.le_trans; (focus (repeat' (first | with_reducible assumption | with_reducible apply rb_mul | with_reducible apply rb_add | with_reducible apply rb_sub | with_reducible apply rb_neg | with_reducible apply rb_div | with_reducible apply rb_divInt | with_reducible apply rb_int | with_reducible apply lb_mul | with_reducible apply lb_add | with_reducible apply lb_sub | with_reducible apply lb_neg | exact Nat.le_refl _))); omega)) only [go_sem, s0, sq, rd, if_pos, if_neg, dec_t, dec_f, IntWalk.i64_in, IntWalk.u32_in, IntWalk.u64_in, beq_no]
    · obtain ⟨e1, e2, e3⟩ := mk_no (A := a) h k
      rw [e1, e2, e3]
      have rd := reduced3_s (a := a) (b := b) (c := c) (by omega) (by omega) k c0
      simp -implicitDefEqProofs (maxSteps := 5000000) (disch := first | omega | (with_reducible apply Nat.le_trans; (focus (repeat' (first | with_reducible assumption | with_reducible apply rb_mul | with_reducible apply rb_add | with_reducible apply rb_sub | with_reducible apply rb_neg | with_reducible apply rb_div | with_reducible apply rb_divInt | with_reducible apply rb_int | with_reducible apply lb_mul | with_reducible apply lb_add | with_reducible apply lb_sub | with_reducible apply lb_neg | exact Nat.le_refl _))); omega)) only [go_sem, s0, sq, rd, if_pos, if_neg, dec_t, dec_f, IntWalk.i64_in, IntWalk.u32_in, IntWalk.u64_in, beq_no]
@[go_sem] theorem square3_s {a : Rat} (ha : rl a ≤ 200000000) : Rq 132 [.agg [.bool (ng (a).num), .sl false (us (lm (a).num)), .bool false, .sl false (us (lm ((a).den : Int)))]] = some (.agg (zQ (a * a))) := by
  refine RL_of (f := 132) (fn := Tryz.f132) Tryz.func132 rfl rfl rfl (Nat.le_of_ble_eq_true rfl) ?_
  simp -implicitDefEqProofs (maxSteps := 5000000) (disch := first | omega | (with_reducible apply Nat.le_trans; (focus (repeat' (first | with_reducible assumption | with_reducible apply rb_mul | with_reducible apply rb_add | with_reducible apply rb_sub | with_reducible apply rb_neg | with_reducible apply rb_div | with_reducible apply rb_divInt | with_reducible apply rb_int | with_reducible apply lb_mul | with_reducible apply lb_add | with_reducible apply lb_sub | with_reducible apply lb_neg | exact Nat.le_refl _))); omega)) only [go_sem, if_pos, if_neg, dec_t, dec_f, IntWalk.i64_in, IntWalk.u32_in, IntWalk.u64_in, beq_no]
@[go_sem] theorem norm3_s {A B C : Rat} (hA : rl A ≤ 20000000) (hB : rl B ≤ 20000000) (hC : rl C ≤ 20000000) : Rq 97 [.agg [.bool (ng (A).num), .sl false (us (lm (A).num)), .bool false, .sl false (us (lm ((A).den : Int))), .bool (ng (B).num), .sl false (us (lm (B).num)), .bool false, .sl false (us (lm ((B).den : Int))), .bool (ng (C).num), .sl false (us (lm (C).num)), .bool false, .sl false (us (lm ((C).den : Int)))]] = some (.agg (zQ (A * A - B * B * C))) := by
  refine RL_of (f := 97) (fn := Tryz.f97) Tryz.func97 rfl rfl rfl (Nat.le_of_ble_eq_true rfl) ?_
  simp -implicitDefEqProofs (maxSteps := 5000000) (disch := first | omega | (with_reducible apply Nat.le_trans; (focus (repeat' (first | with_reducible assumption | with_reducible apply rb_mul | with_reducible apply rb_add | with_reducible apply rb_sub | with_reducible apply rb_neg | with_reducible apply rb_div | with_reducible apply rb_divInt | with_reducible apply rb_int | with_reducible apply lb_mul | with_reducible apply lb_add | with_reducible apply lb_sub | with_reducible apply lb_neg | exact Nat.le_refl _))); omega)) only [go_sem, if_pos, if_neg, dec_t, dec_f, IntWalk.i64_in, IntWalk.u32_in, IntWalk.u64_in, beq_no]
theorem sign3_s {A B C : Rat} (hA : rl A ≤ 20000000) (hB : rl B ≤ 20000000) (hC : rl C ≤ 20000000) : Rq 63 [.agg [.bool (ng (A).num), .sl false (us (lm (A).num)), .bool false, .sl false (us (lm ((A).den : Int))), .bool (ng (B).num), .sl false (us (lm (B).num)), .bool false, .sl false (us (lm ((B).den : Int))), .bool (ng (C).num), .sl false (us (lm (C).num)), .bool false, .sl false (us (lm ((C).den : Int)))]] = some (.int .i64 (sgR A B C)) := by
  refine RL_of (f := 63) (fn := Tryz.f63) Tryz.func63 rfl rfl rfl (Nat.le_of_ble_eq_true rfl) ?_
  unfold sgR
  rcases sg_cases A with ⟨-, eA⟩ | ⟨-, eA⟩ | ⟨-, eA⟩ <;> rcases sg_cases B with ⟨-, eB⟩ | ⟨-, eB⟩ | ⟨-, eB⟩ <;>
    rcases sg_cases (A * A - B * B * C) with ⟨-, eD⟩ | ⟨-, eD⟩ | ⟨-, eD⟩ <;> rw [eA, eB] <;> simp -implicitDefEqProofs (maxSteps := 5000000) (disch := first | omega | (with_reducible apply Nat.le_trans; (focus (repeat' (first | with_reducible assumption | with_reducible apply rb_mul | with_reducible apply rb_add | with_reducible apply rb_sub | with_reducible apply rb_neg | with_reducible apply rb_div | with_reducible apply rb_divInt | with_reducible apply rb_int | with_reducible apply lb_mul | with_reducible apply lb_add | with_reducible apply lb_sub | with_reducible apply lb_neg | exact Nat.le_refl _))); omega)) only [go_sem, eA, eB, eD, if_pos, if_neg, dec_t, dec_f, IntWalk.i64_in, IntWalk.u32_in, IntWalk.u64_in, beq_no] <;> try rfl
@[go_sem] theorem addRat3_s {A B C a : Rat} (hA : rl A ≤ 20000000) (ha : rl a ≤ 20000000) : Rq 100 [.agg [.bool (ng (A).num), .sl false (us (lm (A).num)), .bool false, .sl false (us (lm ((A).den : Int))), .bool (ng (B).num), .sl false (us (lm (B).num)), .bool false, .sl false (us (lm ((B).den : Int))), .bool (ng (C).num), .sl false (us (lm (C).num)), .bool false, .sl false (us (lm ((C).den : Int)))], .agg [.bool (ng (a).num), .sl false (us (lm (a).num)), .bool false, .sl false (us (lm ((a).den : Int)))]] = some (.agg (zR (A + a) B C)) := by
  refine RL_of (f := 100) (fn := Tryz.f100) Tryz.func100 rfl rfl rfl (Nat.le_of_ble_eq_true rfl) ?_
  simp -implicitDefEqProofs (maxSteps := 5000000) (disch := first | omega | (with_reducible apply Nat.le_trans; (focus (repeat' (first | with_reducible assumption | with_reducible apply rb_mul | with_reducible apply rb_add | with_reducible apply rb_sub | with_reducible apply rb_neg | with_reducible apply rb_div | with_reducible apply rb_divInt | with_reducible apply rb_int | with_reducible apply lb_mul | with_reducible apply lb_add | with_reducible apply lb_sub | with_reducible apply lb_neg | exact Nat.le_refl _))); omega)) only [go_sem, if_pos, if_neg, dec_t, dec_f, IntWalk.i64_in, IntWalk.u32_in, IntWalk.u64_in, beq_no]
end Go.Pi

set_option linter.unusedVariables false
set_option linter.unusedSimpArgs false
set_option maxHeartbeats 4000000
set_option maxRecDepth 8000
/-
The reference's points.
-/
namespace Go.Pi
open Go Go.Proofs Num
theorem rl_small {n : Int} (h0 : -1000000000 < n) (h1 : n < 1000000000) : rl (n : Rat) ≤ 1 := Nat.le_trans (rl_int n) (by have := ll_small h0 h1; omega)
/-- A vector's cells. -/
def zV (x y : Rat) : List PV := zQ x ++ zQ y
@[go_sem] theorem zV_eq (x y : Rat) : zV x y = [.bool (ng (x).num), .sl false (us (lm (x).num)), .bool false, .sl false (us (lm ((x).den : Int))), .bool (ng (y).num), .sl false (us (lm (y).num)), .bool false, .sl false (us (lm ((y).den : Int)))] := by
  simp only [zV, zQ_eq]; rfl
@[go_sem] theorem ti_Vec : ti Pq 32 = some ⟨.struct [(0, 4), (4, 4)], 8, 128, [.bool false, .sl true [], .bool false, .sl true [], .bool false, .sl true [], .bool false, .sl true []]⟩ := by kernel_rfl
@[go_sem] theorem ti_Circle : ti Pq 57 = some ⟨.struct [(0, 4), (4, 4), (8, 4)], 12, 192, [.bool false, .sl true [], .bool false, .sl true [], .bool false, .sl true [], .bool false, .sl true [], .bool false, .sl true [], .bool false, .sl true []]⟩ := by kernel_rfl
theorem common3_0 {A B C D E F : Rat} (hB : rl B ≤ 200000000) (h : B = 0) : Rq 161 [.agg [.bool (ng (A).num), .sl false (us (lm (A).num)), .bool false, .sl false (us (lm ((A).den : Int))), .bool (ng (B).num), .sl false (us (lm (B).num)), .bool false, .sl false (us (lm ((B).den : Int))), .bool (ng (C).num), .sl false (us (lm (C).num)), .bool false, .sl false (us (lm ((C).den : Int)))], .agg [.bool (ng (D).num), .sl false (us (lm (D).num)), .bool false, .sl false (us (lm ((D).den : Int))), .bool (ng (E).num), .sl false (us (lm (E).num)), .bool false, .sl false (us (lm ((E).den : Int))), .bool (ng (F).num), .sl false (us (lm (F).num)), .bool false, .sl false (us (lm ((F).den : Int)))]] = some (.tup [.agg (zQ F), .bool true]) := by
  refine RL_of (f := 161) (fn := Tryz.f161) Tryz.func161 rfl rfl rfl (Nat.le_of_ble_eq_true rfl) ?_
  have s := sg_zero h
  simp -implicitDefEqProofs (maxSteps := 5000000) (disch := first | omega | (with_reducible apply Nat.le_trans; (focus (repeat' (first | with_reducible assumption | with_reducible apply rb_mul | with_reducible apply rb_add | with_reducible apply rb_sub | with_reducible apply rb_neg | with_reducible apply rb_div | with_reducible apply rb_divInt | with_reducible apply rb_int | with_reducible apply lb_mul | with_reducible apply lb_add | with_reducible apply lb_sub | with_reducible apply lb_neg | exact Nat.le_refl _))); omega)) only [go_sem, s, if_pos, if_neg, dec_t, dec_f, IntWalk.i64_in, IntWalk.u32_in, IntWalk.u64_in, beq_no]
theorem common3_1 {A B C D E F : Rat} (hB : rl B ≤ 200000000) (hC : rl C ≤ 200000000) (hE : rl E ≤ 200000000) (hF : rl F ≤ 200000000) (h : B ≠ 0) (h' : E = 0 ∨ C = F) : Rq 161 [.agg [.bool (ng (A).num), .sl false (us (lm (A).num)), .bool false, .sl false (us (lm ((A).den : Int))), .bool (ng (B).num), .sl false (us (lm (B).num)), .bool false, .sl false (us (lm ((B).den : Int))), .bool (ng (C).num), .sl false (us (lm (C).num)), .bool false, .sl false (us (lm ((C).den : Int)))], .agg [.bool (ng (D).num), .sl false (us (lm (D).num)), .bool false, .sl false (us (lm ((D).den : Int))), .bool (ng (E).num), .sl false (us (lm (E).num)), .bool false, .sl false (us (lm ((E).den : Int))), .bool (ng (F).num), .sl false (us (lm (F).num)), .bool false, .sl false (us (lm ((F).den : Int)))]] = some (.tup [.agg (zQ C), .bool true]) := by
  refine RL_of (f := 161) (fn := Tryz.f161) Tryz.func161 rfl rfl rfl (Nat.le_of_ble_eq_true rfl) ?_
  have s : ¬ sg B = 0 := fun e => h (sg_eq.1 e)
  by_cases k : E = 0
  · have s2 := sg_zero k
    simp -implicitDefEqProofs (maxSteps := 5000000) (disch := first | omega | (with_reducible apply Nat.le_trans; (focus (repeat' (first | with_reducible assumption | with_reducible apply rb_mul | with_reducible apply rb_add | with_reducible apply rb_sub | with_reducible apply rb_neg | with_reducible apply rb_div | with_reducible apply rb_divInt | with_reducible apply rb_int | with_reducible apply lb_mul | with_reducible apply lb_add | with_reducible apply lb_sub | with_reducible apply lb_neg | exact Nat.le_refl _))); omega)) only [go_sem, s, s2, if_pos, if_neg, dec_t, dec_f, IntWalk.i64_in, IntWalk.u32_in, IntWalk.u64_in, beq_no]
  · have s2 : ¬ sg E = 0 := fun e => k (sg_eq.1 e)
    have s3 : sg (C - F) = 0 := sg_zero (by rcases h' with h' | h'; exact absurd h' k; grind)
    simp -implicitDefEqProofs (maxSteps := 5000000) (disch := first | omega | (with_reducible apply Nat.le_trans; (focus (repeat' (first | with_reducible assumption | with_reducible apply rb_mul | with_reducible apply rb_add | with_reducible apply rb_sub | with_reducible apply rb_neg | with_reducible apply rb_div | with_reducible apply rb_divInt | with_reducible apply rb_int | with_reducible apply lb_mul | with_reducible apply lb_add | with_reducible apply lb_sub | with_reducible apply lb_neg | exact Nat.le_refl _))); omega)) only [go_sem, s, s2, s3, if_pos, if_neg, dec_t, dec_f, IntWalk.i64_in, IntWalk.u32_in, IntWalk.u64_in, beq_no]
/-- The common radicand. -/
theorem common3_c {a b d e C : Rat} (hb : rl b ≤ 100000000) (hC : rl C ≤ 100000000) (he : rl e ≤ 100000000) (h : C = 0 → b = 0 ∧ e = 0) :
    ∃ c, Rq 161 [.agg (zR a b (cN b C)), .agg (zR d e (cN e C))] = some (.tup [.agg (zQ c), .bool true]) ∧ rl c ≤ 100000000 ∧ b * e * c = b * e * C ∧ (∀ x : Rat, (b = 0 → e = 0 → x = 0) → cN x c = cN x C) ∧ (∀ x : Rat, (b = 0 → e = 0 → x = 0) → c = 0 → x = 0) := by
  have l0 : rl 0 ≤ 1 := by have := rl_int 0; rw [ll_zero, z0] at this; exact this
  have lN : ∀ b : Rat, rl (cN b C) ≤ 100000000 := fun b => by unfold cN; split <;> omega
  by_cases k : b = 0
  · have h1 := common3_0 (A := a) (B := b) (C := cN b C) (D := d) (E := e) (F := cN e C) (by omega) k
    refine ⟨cN e C, by rw [zR_eq, zR_eq]; exact h1, lN e, by rw [k]; grind, fun x hx => ?_, fun x hx hc => ?_⟩
    · by_cases ke : e = 0
      · rw [cN_0 ke, hx k ke, cN_0 rfl, cN_0 rfl]
      · rw [cN_1 ke]
    · by_cases ke : e = 0
      · exact hx k ke
      · rw [cN_1 ke] at hc
        exact absurd (h hc).2 ke
  · have c0 : C ≠ 0 := fun e => k (h e).1
    have h1 := common3_1 (A := a) (B := b) (C := cN b C) (D := d) (E := e) (F := cN e C) (by omega) (by have := lN b; omega) (by omega) (by have := lN e; omega) k (by
      by_cases ke : e = 0
      · exact .inl ke
      · right; rw [cN_1 ke, cN_1 k])
    rw [cN_1 k] at h1
    exact ⟨C, by rw [cN_1 k, zR_eq, zR_eq]; exact h1, by omega, rfl, fun x _ => rfl, fun x _ hc => absurd hc c0⟩
theorem mul3_s {a b d e C : Rat} (ha : rl a ≤ 1000000) (hb : rl b ≤ 1000000) (hd : rl d ≤ 1000000) (he : rl e ≤ 1000000) (hC : rl C ≤ 1000000) (h : C = 0 → b = 0 ∧ e = 0) :
    Rq 162 [.agg (zR a b (cN b C)), .agg (zR d e (cN e C))] = some (.tup [.agg (zR (a * d + b * e * C) (a * e + b * d) (cN (a * e + b * d) C)), .int .i64 0]) := by
  refine RL_of (f := 162) (fn := Tryz.f162) Tryz.func162 rfl rfl rfl (Nat.le_of_ble_eq_true rfl) ?_
  obtain ⟨c, co, lc, c1, c2, c3⟩ := common3_c (a := a) (b := b) (d := d) (e := e) (C := C) (by omega) (by omega) (by omega) h
  have x0 : b = 0 → e = 0 → a * e + b * d = 0 := fun h1 h2 => by rw [h1, h2]; grind
  have rd := reduced3_c (a := a * d + b * e * c) (b := a * e + b * d) (c := c) (by (with_reducible apply Nat.le_trans; (focus (repeat' (first | with_reducible assumption | with_reducible apply rb_mul | with_reducible apply rb_add | with_reducible apply rb_sub | with_reducible apply rb_neg | with_reducible apply rb_div | with_reducible apply rb_divInt | with_reducible apply rb_int | with_reducible apply lb_mul | with_reducible apply lb_add | with_reducible apply lb_sub | with_reducible apply lb_neg | exact Nat.le_refl _))); omega)) (by omega) (c3 (a * e + b * d) x0)
  rw [c1, c2 (a * e + b * d) x0] at rd
  rw [← c1] at rd ⊢
  simp only [zR_eq] at co rd
  simp -implicitDefEqProofs (maxSteps := 5000000) (disch := first | omega | (with_reducible apply Nat.le_trans; (focus (repeat' (first | with_reducible assumption | with_reducible apply rb_mul | with_reducible apply rb_add | with_reducible apply rb_sub | with_reducible apply rb_neg | with_reducible apply rb_div | with_reducible apply rb_divInt | with_reducible apply rb_int | with_reducible apply lb_mul | with_reducible apply lb_add | with_reducible apply lb_sub | with_reducible apply lb_neg | exact Nat.le_refl _))); omega)) only [go_sem, co, rd, if_pos, if_neg, dec_t, dec_f, IntWalk.i64_in, IntWalk.u32_in, IntWalk.u64_in, beq_no]
theorem add3_s {a b d e C : Rat} (ha : rl a ≤ 20000000) (hb : rl b ≤ 20000000) (hd : rl d ≤ 20000000) (he : rl e ≤ 20000000) (hC : rl C ≤ 20000000) (h : C = 0 → b = 0 ∧ e = 0) :
    Rq 135 [.agg (zR a b (cN b C)), .agg (zR d e (cN e C))] = some (.tup [.agg (zR (a + d) (b + e) (cN (b + e) C)), .int .i64 0]) := by
  refine RL_of (f := 135) (fn := Tryz.f135) Tryz.func135 rfl rfl rfl (Nat.le_of_ble_eq_true rfl) ?_
  obtain ⟨c, co, lc, c1, c2, c3⟩ := common3_c (a := a) (b := b) (d := d) (e := e) (C := C) (by omega) (by omega) (by omega) h
  have x0 : b = 0 → e = 0 → b + e = 0 := fun h1 h2 => by rw [h1, h2]; grind
  have rd := reduced3_c (a := a + d) (b := b + e) (c := c) (by (with_reducible apply Nat.le_trans; (focus (repeat' (first | with_reducible assumption | with_reducible apply rb_mul | with_reducible apply rb_add | with_reducible apply rb_sub | with_reducible apply rb_neg | with_reducible apply rb_div | with_reducible apply rb_divInt | with_reducible apply rb_int | with_reducible apply lb_mul | with_reducible apply lb_add | with_reducible apply lb_sub | with_reducible apply lb_neg | exact Nat.le_refl _))); omega)) (by omega) (c3 (b + e) x0)
  rw [c2 (b + e) x0] at rd
  simp only [zR_eq] at co rd
  simp -implicitDefEqProofs (maxSteps := 5000000) (disch := first | omega | (with_reducible apply Nat.le_trans; (focus (repeat' (first | with_reducible assumption | with_reducible apply rb_mul | with_reducible apply rb_add | with_reducible apply rb_sub | with_reducible apply rb_neg | with_reducible apply rb_div | with_reducible apply rb_divInt | with_reducible apply rb_int | with_reducible apply lb_mul | with_reducible apply lb_add | with_reducible apply lb_sub | with_reducible apply lb_neg | exact Nat.le_refl _))); omega)) only [go_sem, co, rd, if_pos, if_neg, dec_t, dec_f, IntWalk.i64_in, IntWalk.u32_in, IntWalk.u64_in, beq_no]
theorem square3r_s {a b C : Rat} (ha : rl a ≤ 1000000) (hb : rl b ≤ 1000000) (hC : rl C ≤ 1000000) (h : C = 0 → b = 0) :
    Rq 136 [.agg (zR a b (cN b C))] = some (.agg (zR (a * a + b * b * C) (a * b + b * a) (cN (a * b + b * a) C))) := by
  refine RL_of (f := 136) (fn := Tryz.f136) Tryz.func136 rfl rfl rfl (Nat.le_of_ble_eq_true rfl) ?_
  have m := mul3_s (a := a) (b := b) (d := a) (e := b) (C := C) ha hb ha hb hC (fun e => ⟨h e, h e⟩)
  simp only [zR_eq] at m
  simp -implicitDefEqProofs (maxSteps := 5000000) (disch := first | omega | (with_reducible apply Nat.le_trans; (focus (repeat' (first | with_reducible assumption | with_reducible apply rb_mul | with_reducible apply rb_add | with_reducible apply rb_sub | with_reducible apply rb_neg | with_reducible apply rb_div | with_reducible apply rb_divInt | with_reducible apply rb_int | with_reducible apply lb_mul | with_reducible apply lb_add | with_reducible apply lb_sub | with_reducible apply lb_neg | exact Nat.le_refl _))); omega)) only [go_sem, m, if_pos, if_neg, dec_t, dec_f, IntWalk.i64_in, IntWalk.u32_in, IntWalk.u64_in, beq_no]
@[go_sem] theorem zero7_s : Rq 60 [] = some (.agg (zQ 0)) := by
  refine RL_of (f := 60) (fn := Tryz.f60) Tryz.func60 rfl rfl rfl (Nat.le_of_ble_eq_true rfl) ?_
  simp -implicitDefEqProofs (maxSteps := 5000000) (disch := first | omega | (with_reducible apply Nat.le_trans; (focus (repeat' (first | with_reducible assumption | with_reducible apply rb_mul | with_reducible apply rb_add | with_reducible apply rb_sub | with_reducible apply rb_neg | with_reducible apply rb_div | with_reducible apply rb_divInt | with_reducible apply rb_int | with_reducible apply lb_mul | with_reducible apply lb_add | with_reducible apply lb_sub | with_reducible apply lb_neg | exact Nat.le_refl _))); omega)) only [go_sem, if_pos, if_neg, dec_t, dec_f, IntWalk.i64_in, IntWalk.u32_in, IntWalk.u64_in, beq_no]
@[go_sem] theorem at7_s {x y : Rat} : Rq 17 [.agg [.bool (ng (x).num), .sl false (us (lm (x).num)), .bool false, .sl false (us (lm ((x).den : Int))), .bool (ng (y).num), .sl false (us (lm (y).num)), .bool false, .sl false (us (lm ((y).den : Int)))]] = some (.agg (zP x 0 y 0 0)) := by
  refine RL_of (f := 17) (fn := Tryz.f17) Tryz.func17 rfl rfl rfl (Nat.le_of_ble_eq_true rfl) ?_
  simp -implicitDefEqProofs (maxSteps := 5000000) (disch := first | omega | (with_reducible apply Nat.le_trans; (focus (repeat' (first | with_reducible assumption | with_reducible apply rb_mul | with_reducible apply rb_add | with_reducible apply rb_sub | with_reducible apply rb_neg | with_reducible apply rb_div | with_reducible apply rb_divInt | with_reducible apply rb_int | with_reducible apply lb_mul | with_reducible apply lb_add | with_reducible apply lb_sub | with_reducible apply lb_neg | exact Nat.le_refl _))); omega)) only [go_sem, if_pos, if_neg, dec_t, dec_f, IntWalk.i64_in, IntWalk.u32_in, IntWalk.u64_in, beq_no]
@[go_sem] theorem vec7_s {x y : Int} (hx : -9223372036854775808 ≤ x ∧ x ≤ 9223372036854775807) (hy : -9223372036854775808 ≤ y ∧ y ≤ 9223372036854775807) : Rq 47 [.int .i64 x, .int .i64 y] = some (.agg (zV (x : Rat) (y : Rat))) := by
  refine RL_of (f := 47) (fn := Tryz.f47) Tryz.func47 rfl rfl rfl (Nat.le_of_ble_eq_true rfl) ?_
  simp -implicitDefEqProofs (maxSteps := 5000000) (disch := first | omega | (with_reducible apply Nat.le_trans; (focus (repeat' (first | with_reducible assumption | with_reducible apply rb_mul | with_reducible apply rb_add | with_reducible apply rb_sub | with_reducible apply rb_neg | with_reducible apply rb_div | with_reducible apply rb_divInt | with_reducible apply rb_int | with_reducible apply lb_mul | with_reducible apply lb_add | with_reducible apply lb_sub | with_reducible apply lb_neg | exact Nat.le_refl _))); omega)) only [go_sem, if_pos, if_neg, dec_t, dec_f, IntWalk.i64_in, IntWalk.u32_in, IntWalk.u64_in, beq_no]
theorem coord7_s {a b c : Rat} (hb : rl b ≤ 200000000) : Rq 163 [.agg [.bool (ng (a).num), .sl false (us (lm (a).num)), .bool false, .sl false (us (lm ((a).den : Int)))], .agg [.bool (ng (b).num), .sl false (us (lm (b).num)), .bool false, .sl false (us (lm ((b).den : Int)))], .agg [.bool (ng (c).num), .sl false (us (lm (c).num)), .bool false, .sl false (us (lm ((c).den : Int)))]] = some (.agg (zR a b (cN b c))) := by
  refine RL_of (f := 163) (fn := Tryz.f163) Tryz.func163 rfl rfl rfl (Nat.le_of_ble_eq_true rfl) ?_
  by_cases k : b = 0
  · have s := sg_zero k
    subst k
    rw [cN_0 rfl]
    simp -implicitDefEqProofs (maxSteps := 5000000) (disch := first | omega | (with_reducible apply Nat.le_trans; (focus (repeat' (first | with_reducible assumption | with_reducible apply rb_mul | with_reducible apply rb_add | with_reducible apply rb_sub | with_reducible apply rb_neg | with_reducible apply rb_div | with_reducible apply rb_divInt | with_reducible apply rb_int | with_reducible apply lb_mul | with_reducible apply lb_add | with_reducible apply lb_sub | with_reducible apply lb_neg | exact Nat.le_refl _))); omega)) only [go_sem, s, if_pos, if_neg, dec_t, dec_f, IntWalk.i64_in, IntWalk.u32_in, IntWalk.u64_in, beq_no]
  · have s : ¬ sg b = 0 := fun e => k (sg_eq.1 e)
    rw [cN_1 k]
    simp -implicitDefEqProofs (maxSteps := 5000000) (disch := first | omega | (with_reducible apply Nat.le_trans; (focus (repeat' (first | with_reducible assumption | with_reducible apply rb_mul | with_reducible apply rb_add | with_reducible apply rb_sub | with_reducible apply rb_neg | with_reducible apply rb_div | with_reducible apply rb_divInt | with_reducible apply rb_int | with_reducible apply lb_mul | with_reducible apply lb_add | with_reducible apply lb_sub | with_reducible apply lb_neg | exact Nat.le_refl _))); omega)) only [go_sem, s, if_pos, if_neg, dec_t, dec_f, IntWalk.i64_in, IntWalk.u32_in, IntWalk.u64_in, beq_no]
theorem x7_s {A B C D E : Rat} (hb : rl B ≤ 200000000) : Rq 137 [.agg [.bool (ng (A).num), .sl false (us (lm (A).num)), .bool false, .sl false (us (lm ((A).den : Int))), .bool (ng (B).num), .sl false (us (lm (B).num)), .bool false, .sl false (us (lm ((B).den : Int))), .bool (ng (C).num), .sl false (us (lm (C).num)), .bool false, .sl false (us (lm ((C).den : Int))), .bool (ng (D).num), .sl false (us (lm (D).num)), .bool false, .sl false (us (lm ((D).den : Int))), .bool (ng (E).num), .sl false (us (lm (E).num)), .bool false, .sl false (us (lm ((E).den : Int)))]] = some (.agg (zR A B (cN B E))) := by
  refine RL_of (f := 137) (fn := Tryz.f137) Tryz.func137 rfl rfl rfl (Nat.le_of_ble_eq_true rfl) ?_
  have c := coord7_s (a := A) (b := B) (c := E) hb
  simp -implicitDefEqProofs (maxSteps := 5000000) (disch := first | omega | (with_reducible apply Nat.le_trans; (focus (repeat' (first | with_reducible assumption | with_reducible apply rb_mul | with_reducible apply rb_add | with_reducible apply rb_sub | with_reducible apply rb_neg | with_reducible apply rb_div | with_reducible apply rb_divInt | with_reducible apply rb_int | with_reducible apply lb_mul | with_reducible apply lb_add | with_reducible apply lb_sub | with_reducible apply lb_neg | exact Nat.le_refl _))); omega)) only [go_sem, c, if_pos, if_neg, dec_t, dec_f, IntWalk.i64_in, IntWalk.u32_in, IntWalk.u64_in, beq_no]
theorem y7_s {A B C D E : Rat} (hb : rl D ≤ 200000000) : Rq 138 [.agg [.bool (ng (A).num), .sl false (us (lm (A).num)), .bool false, .sl false (us (lm ((A).den : Int))), .bool (ng (B).num), .sl false (us (lm (B).num)), .bool false, .sl false (us (lm ((B).den : Int))), .bool (ng (C).num), .sl false (us (lm (C).num)), .bool false, .sl false (us (lm ((C).den : Int))), .bool (ng (D).num), .sl false (us (lm (D).num)), .bool false, .sl false (us (lm ((D).den : Int))), .bool (ng (E).num), .sl false (us (lm (E).num)), .bool false, .sl false (us (lm ((E).den : Int)))]] = some (.agg (zR C D (cN D E))) := by
  refine RL_of (f := 138) (fn := Tryz.f138) Tryz.func138 rfl rfl rfl (Nat.le_of_ble_eq_true rfl) ?_
  have c := coord7_s (a := C) (b := D) (c := E) hb
  simp -implicitDefEqProofs (maxSteps := 5000000) (disch := first | omega | (with_reducible apply Nat.le_trans; (focus (repeat' (first | with_reducible assumption | with_reducible apply rb_mul | with_reducible apply rb_add | with_reducible apply rb_sub | with_reducible apply rb_neg | with_reducible apply rb_div | with_reducible apply rb_divInt | with_reducible apply rb_int | with_reducible apply lb_mul | with_reducible apply lb_add | with_reducible apply lb_sub | with_reducible apply lb_neg | exact Nat.le_refl _))); omega)) only [go_sem, c, if_pos, if_neg, dec_t, dec_f, IntWalk.i64_in, IntWalk.u32_in, IntWalk.u64_in, beq_no]
@[go_sem] theorem translate7_s {A B C D E x y : Rat} (hA : rl A ≤ 200000000) (hC : rl C ≤ 200000000) (hx : rl x ≤ 200000000) (hy : rl y ≤ 200000000) : Rq 37 [.agg [.bool (ng (A).num), .sl false (us (lm (A).num)), .bool false, .sl false (us (lm ((A).den : Int))), .bool (ng (B).num), .sl false (us (lm (B).num)), .bool false, .sl false (us (lm ((B).den : Int))), .bool (ng (C).num), .sl false (us (lm (C).num)), .bool false, .sl false (us (lm ((C).den : Int))), .bool (ng (D).num), .sl false (us (lm (D).num)), .bool false, .sl false (us (lm ((D).den : Int))), .bool (ng (E).num), .sl false (us (lm (E).num)), .bool false, .sl false (us (lm ((E).den : Int)))], .agg [.bool (ng (x).num), .sl false (us (lm (x).num)), .bool false, .sl false (us (lm ((x).den : Int))), .bool (ng (y).num), .sl false (us (lm (y).num)), .bool false, .sl false (us (lm ((y).den : Int)))]] = some (.agg (zP (A + x) B (C + y) D E)) := by
  refine RL_of (f := 37) (fn := Tryz.f37) Tryz.func37 rfl rfl rfl (Nat.le_of_ble_eq_true rfl) ?_
  simp -implicitDefEqProofs (maxSteps := 5000000) (disch := first | omega | (with_reducible apply Nat.le_trans; (focus (repeat' (first | with_reducible assumption | with_reducible apply rb_mul | with_reducible apply rb_add | with_reducible apply rb_sub | with_reducible apply rb_neg | with_reducible apply rb_div | with_reducible apply rb_divInt | with_reducible apply rb_int | with_reducible apply lb_mul | with_reducible apply lb_add | with_reducible apply lb_sub | with_reducible apply lb_neg | exact Nat.le_refl _))); omega)) only [go_sem, if_pos, if_neg, dec_t, dec_f, IntWalk.i64_in, IntWalk.u32_in, IntWalk.u64_in, beq_no]
@[go_sem] theorem back7_s {x y : Rat} (hx : rl x ≤ 200000000) (hy : rl y ≤ 200000000) : Rq 134 [.agg [.bool (ng (x).num), .sl false (us (lm (x).num)), .bool false, .sl false (us (lm ((x).den : Int))), .bool (ng (y).num), .sl false (us (lm (y).num)), .bool false, .sl false (us (lm ((y).den : Int)))]] = some (.agg (zV (-x) (-y))) := by
  refine RL_of (f := 134) (fn := Tryz.f134) Tryz.func134 rfl rfl rfl (Nat.le_of_ble_eq_true rfl) ?_
  simp -implicitDefEqProofs (maxSteps := 5000000) (disch := first | omega | (with_reducible apply Nat.le_trans; (focus (repeat' (first | with_reducible assumption | with_reducible apply rb_mul | with_reducible apply rb_add | with_reducible apply rb_sub | with_reducible apply rb_neg | with_reducible apply rb_div | with_reducible apply rb_divInt | with_reducible apply rb_int | with_reducible apply lb_mul | with_reducible apply lb_add | with_reducible apply lb_sub | with_reducible apply lb_neg | exact Nat.le_refl _))); omega)) only [go_sem, if_pos, if_neg, dec_t, dec_f, IntWalk.i64_in, IntWalk.u32_in, IntWalk.u64_in, beq_no]
theorem square7_s {A B C D E x y : Rat} (hA : rl A ≤ 10000) (hB : rl B ≤ 10000) (hC : rl C ≤ 10000) (hD : rl D ≤ 10000) (hE : rl E ≤ 10000) (hx : rl x ≤ 10000) (hy : rl y ≤ 10000) (h : E = 0 → B = 0 ∧ D = 0) :
    Rq 101 [.agg [.bool (ng (A).num), .sl false (us (lm (A).num)), .bool false, .sl false (us (lm ((A).den : Int))), .bool (ng (B).num), .sl false (us (lm (B).num)), .bool false, .sl false (us (lm ((B).den : Int))), .bool (ng (C).num), .sl false (us (lm (C).num)), .bool false, .sl false (us (lm ((C).den : Int))), .bool (ng (D).num), .sl false (us (lm (D).num)), .bool false, .sl false (us (lm ((D).den : Int))), .bool (ng (E).num), .sl false (us (lm (E).num)), .bool false, .sl false (us (lm ((E).den : Int)))], .agg [.bool (ng (x).num), .sl false (us (lm (x).num)), .bool false, .sl false (us (lm ((x).den : Int))), .bool (ng (y).num), .sl false (us (lm (y).num)), .bool false, .sl false (us (lm ((y).den : Int)))]] = some (.agg (zR (((A + -x) * (A + -x) + B * B * E) + ((C + -y) * (C + -y) + D * D * E)) (((A + -x) * B + B * (A + -x)) + ((C + -y) * D + D * (C + -y))) (cN (((A + -x) * B + B * (A + -x)) + ((C + -y) * D + D * (C + -y))) E))) := by
  refine RL_of (f := 101) (fn := Tryz.f101) Tryz.func101 rfl rfl rfl (Nat.le_of_ble_eq_true rfl) ?_
  have fx := x7_s (A := A + -x) (B := B) (C := C + -y) (D := D) (E := E) (by omega)
  have fy := y7_s (A := A + -x) (B := B) (C := C + -y) (D := D) (E := E) (by omega)
  have lx : rl (A + -x) ≤ 20001 := by (with_reducible apply Nat.le_trans; (focus (repeat' (first | with_reducible assumption | with_reducible apply rb_mul | with_reducible apply rb_add | with_reducible apply rb_sub | with_reducible apply rb_neg | with_reducible apply rb_div | with_reducible apply rb_divInt | with_reducible apply rb_int | with_reducible apply lb_mul | with_reducible apply lb_add | with_reducible apply lb_sub | with_reducible apply lb_neg | exact Nat.le_refl _))); omega)
  have ly : rl (C + -y) ≤ 20001 := by (with_reducible apply Nat.le_trans; (focus (repeat' (first | with_reducible assumption | with_reducible apply rb_mul | with_reducible apply rb_add | with_reducible apply rb_sub | with_reducible apply rb_neg | with_reducible apply rb_div | with_reducible apply rb_divInt | with_reducible apply rb_int | with_reducible apply lb_mul | with_reducible apply lb_add | with_reducible apply lb_sub | with_reducible apply lb_neg | exact Nat.le_refl _))); omega)
  have sx := square3r_s (a := A + -x) (b := B) (C := E) (by omega) (by omega) (by omega) (fun e => (h e).1)
  have sy := square3r_s (a := C + -y) (b := D) (C := E) (by omega) (by omega) (by omega) (fun e => (h e).2)
  have ad := add3_s (a := (A + -x) * (A + -x) + B * B * E) (b := (A + -x) * B + B * (A + -x)) (d := (C + -y) * (C + -y) + D * D * E) (e := (C + -y) * D + D * (C + -y)) (C := E) (by (with_reducible apply Nat.le_trans; (focus (repeat' (first | with_reducible assumption | with_reducible apply rb_mul | with_reducible apply rb_add | with_reducible apply rb_sub | with_reducible apply rb_neg | with_reducible apply rb_div | with_reducible apply rb_divInt | with_reducible apply rb_int | with_reducible apply lb_mul | with_reducible apply lb_add | with_reducible apply lb_sub | with_reducible apply lb_neg | exact Nat.le_refl _))); omega)) (by (with_reducible apply Nat.le_trans; (focus (repeat' (first | with_reducible assumption | with_reducible apply rb_mul | with_reducible apply rb_add | with_reducible apply rb_sub | with_reducible apply rb_neg | with_reducible apply rb_div | with_reducible apply rb_divInt | with_reducible apply rb_int | with_reducible apply lb_mul | with_reducible apply lb_add | with_reducible apply lb_sub | with_reducible apply lb_neg | exact Nat.le_refl _))); omega)) (by (with_reducible apply Nat.le_trans; (focus (repeat' (first | with_reducible assumption | with_reducible apply rb_mul | with_reducible apply rb_add | with_reducible apply rb_sub | with_reducible apply rb_neg | with_reducible apply rb_div | with_reducible apply rb_divInt | with_reducible apply rb_int | with_reducible apply lb_mul | with_reducible apply lb_add | with_reducible apply lb_sub | with_reducible apply lb_neg | exact Nat.le_refl _))); omega)) (by (with_reducible apply Nat.le_trans; (focus (repeat' (first | with_reducible assumption | with_reducible apply rb_mul | with_reducible apply rb_add | with_reducible apply rb_sub | with_reducible apply rb_neg | with_reducible apply rb_div | with_reducible apply rb_divInt | with_reducible apply rb_int | with_reducible apply lb_mul | with_reducible apply lb_add | with_reducible apply lb_sub | with_reducible apply lb_neg | exact Nat.le_refl _))); omega)) (by omega) (fun e => by
    obtain ⟨h1, h2⟩ := h e
    rw [h1, h2]; constructor <;> grind)
  simp only [zR_eq] at fx fy sx sy ad
  simp -implicitDefEqProofs (maxSteps := 5000000) (disch := first | omega | (with_reducible apply Nat.le_trans; (focus (repeat' (first | with_reducible assumption | with_reducible apply rb_mul | with_reducible apply rb_add | with_reducible apply rb_sub | with_reducible apply rb_neg | with_reducible apply rb_div | with_reducible apply rb_divInt | with_reducible apply rb_int | with_reducible apply lb_mul | with_reducible apply lb_add | with_reducible apply lb_sub | with_reducible apply lb_neg | exact Nat.le_refl _))); omega)) only [go_sem, fx, fy, sx, sy, ad, if_pos, if_neg, dec_t, dec_f, IntWalk.i64_in, IntWalk.u32_in, IntWalk.u64_in, beq_no]
@[go_sem] theorem sameVec7_s {x y u v : Rat} (hx : rl x ≤ 200000000) (hy : rl y ≤ 200000000) (hu : rl u ≤ 200000000) (hv : rl v ≤ 200000000) : Rq 26 [.agg [.bool (ng (x).num), .sl false (us (lm (x).num)), .bool false, .sl false (us (lm ((x).den : Int))), .bool (ng (y).num), .sl false (us (lm (y).num)), .bool false, .sl false (us (lm ((y).den : Int)))], .agg [.bool (ng (u).num), .sl false (us (lm (u).num)), .bool false, .sl false (us (lm ((u).den : Int))), .bool (ng (v).num), .sl false (us (lm (v).num)), .bool false, .sl false (us (lm ((v).den : Int)))]] = some (.bool (dec (x = u) && dec (y = v))) := by
  refine RL_of (f := 26) (fn := Tryz.f26) Tryz.func26 rfl rfl rfl (Nat.le_of_ble_eq_true rfl) ?_
  by_cases k : x = u
  · simp -implicitDefEqProofs (maxSteps := 5000000) (disch := first | omega | (with_reducible apply Nat.le_trans; (focus (repeat' (first | with_reducible assumption | with_reducible apply rb_mul | with_reducible apply rb_add | with_reducible apply rb_sub | with_reducible apply rb_neg | with_reducible apply rb_div | with_reducible apply rb_divInt | with_reducible apply rb_int | with_reducible apply lb_mul | with_reducible apply lb_add | with_reducible apply lb_sub | with_reducible apply lb_neg | exact Nat.le_refl _))); omega)) only [go_sem, dec_t k, if_pos, if_neg, dec_t, dec_f, IntWalk.i64_in, IntWalk.u32_in, IntWalk.u64_in, beq_no]
  · simp -implicitDefEqProofs (maxSteps := 5000000) (disch := first | omega | (with_reducible apply Nat.le_trans; (focus (repeat' (first | with_reducible assumption | with_reducible apply rb_mul | with_reducible apply rb_add | with_reducible apply rb_sub | with_reducible apply rb_neg | with_reducible apply rb_div | with_reducible apply rb_divInt | with_reducible apply rb_int | with_reducible apply lb_mul | with_reducible apply lb_add | with_reducible apply lb_sub | with_reducible apply lb_neg | exact Nat.le_refl _))); omega)) only [go_sem, dec_f k, if_pos, if_neg, dec_t, dec_f, IntWalk.i64_in, IntWalk.u32_in, IntWalk.u64_in, beq_no]
/-- A point in reduced form. -/
def PRed (BX BY C : Rat) : Prop := (BX = 0 ∧ BY = 0 ∧ C = 0) ∨ (0 < C ∧ ¬ Isq C)
theorem PRed.nn {BX BY C : Rat} (h : PRed BX BY C) : 0 ≤ C := by
  rcases h with ⟨_, _, h⟩ | ⟨h, _⟩ <;> grind
theorem PRed.z {BX BY C : Rat} (h : PRed BX BY C) : C = 0 → BX = 0 ∧ BY = 0 := fun e => by
  rcases h with ⟨h1, h2, _⟩ | ⟨h, _⟩
  · exact ⟨h1, h2⟩
  · grind
theorem PRed.red {BX BY C b : Rat} (h : PRed BX BY C) (hb : BX = 0 → BY = 0 → b = 0) : Red b (cN b C) := by
  by_cases k : b = 0
  · exact .inl ⟨k, cN_0 k⟩
  · rw [cN_1 k]
    rcases h with ⟨h1, h2, _⟩ | ⟨h1, h2⟩
    · exact absurd (hb h1 h2) k
    · exact .inr ⟨k, h1, h2⟩
theorem exF_cN (A B C : Rat) : exF A B (cN B C) = exF A B C := by
  by_cases k : B = 0
  · subst k; rw [exF_B0, exF_B0]
  · rw [cN_1 k]
theorem reduced7_s {A B C D E : Rat} (hB : rl B ≤ 200000000) (hD : rl D ≤ 200000000) : Rq 96 [.agg [.bool (ng (A).num), .sl false (us (lm (A).num)), .bool false, .sl false (us (lm ((A).den : Int)))], .agg [.bool (ng (B).num), .sl false (us (lm (B).num)), .bool false, .sl false (us (lm ((B).den : Int)))], .agg [.bool (ng (C).num), .sl false (us (lm (C).num)), .bool false, .sl false (us (lm ((C).den : Int)))], .agg [.bool (ng (D).num), .sl false (us (lm (D).num)), .bool false, .sl false (us (lm ((D).den : Int)))], .agg [.bool (ng (E).num), .sl false (us (lm (E).num)), .bool false, .sl false (us (lm ((E).den : Int)))]] = some (.agg (zP A B C D (if B = 0 ∧ D = 0 then 0 else E))) := by
  refine RL_of (f := 96) (fn := Tryz.f96) Tryz.func96 rfl rfl rfl (Nat.le_of_ble_eq_true rfl) ?_
  by_cases k : B = 0
  · have s := sg_zero k
    by_cases k2 : D = 0
    · have s2 := sg_zero k2
      rw [if_pos ⟨k, k2⟩]
      simp -implicitDefEqProofs (maxSteps := 5000000) (disch := first | omega | (with_reducible apply Nat.le_trans; (focus (repeat' (first | with_reducible assumption | with_reducible apply rb_mul | with_reducible apply rb_add | with_reducible apply rb_sub | with_reducible apply rb_neg | with_reducible apply rb_div | with_reducible apply rb_divInt | with_reducible apply rb_int | with_reducible apply lb_mul | with_reducible apply lb_add | with_reducible apply lb_sub | with_reducible apply lb_neg | exact Nat.le_refl _))); omega)) only [go_sem, s, s2, if_pos, if_neg, dec_t, dec_f, IntWalk.i64_in, IntWalk.u32_in, IntWalk.u64_in, beq_no]
    · have s2 : ¬ sg D = 0 := fun e => k2 (sg_eq.1 e)
      rw [if_neg (fun h => k2 h.2)]
      simp -implicitDefEqProofs (maxSteps := 5000000) (disch := first | omega | (with_reducible apply Nat.le_trans; (focus (repeat' (first | with_reducible assumption | with_reducible apply rb_mul | with_reducible apply rb_add | with_reducible apply rb_sub | with_reducible apply rb_neg | with_reducible apply rb_div | with_reducible apply rb_divInt | with_reducible apply rb_int | with_reducible apply lb_mul | with_reducible apply lb_add | with_reducible apply lb_sub | with_reducible apply lb_neg | exact Nat.le_refl _))); omega)) only [go_sem, s, s2, if_pos, if_neg, dec_t, dec_f, IntWalk.i64_in, IntWalk.u32_in, IntWalk.u64_in, beq_no]
  · have s : ¬ sg B = 0 := fun e => k (sg_eq.1 e)
    rw [if_neg (fun h => k h.1)]
    simp -implicitDefEqProofs (maxSteps := 5000000) (disch := first | omega | (with_reducible apply Nat.le_trans; (focus (repeat' (first | with_reducible assumption | with_reducible apply rb_mul | with_reducible apply rb_add | with_reducible apply rb_sub | with_reducible apply rb_neg | with_reducible apply rb_div | with_reducible apply rb_divInt | with_reducible apply rb_int | with_reducible apply lb_mul | with_reducible apply lb_add | with_reducible apply lb_sub | with_reducible apply lb_neg | exact Nat.le_refl _))); omega)) only [go_sem, s, if_pos, if_neg, dec_t, dec_f, IntWalk.i64_in, IntWalk.u32_in, IntWalk.u64_in, beq_no]
end Go.Pi

set_option linter.unusedVariables false
set_option linter.unusedSimpArgs false
set_option maxHeartbeats 4000000
set_option maxRecDepth 8000
/-
Points of descriptions.
-/
namespace Go.Pi
open Go Go.Proofs Num
@[go_sem] theorem ti_i16 : ti Pq 22 = some ⟨.int .i16, 1, 2, [.int .i16 0]⟩ := by kernel_rfl
@[go_sem] theorem ti_u16 : ti Pq 47 = some ⟨.int .u16, 1, 2, [.int .u16 0]⟩ := by kernel_rfl
@[go_sem] theorem ti_Spot : ti Pq 24 = some ⟨.struct [(0, 1), (1, 1), (2, 1)], 3, 6, [.int .i16 0, .int .i16 0, .int .u8 0]⟩ := by kernel_rfl
@[go_sem] theorem ti_Place : ti Pq 49 = some ⟨.struct [(0, 1), (1, 1), (2, 1), (3, 1), (4, 1), (5, 1)], 6, 12, [.int .i16 0, .int .i16 0, .int .i16 0, .int .i16 0, .int .u16 0, .int .u8 0]⟩ := by kernel_rfl
@[go_sem] theorem ti_Straight : ti Pq 46 = some ⟨.struct [(0, 1), (1, 1), (2, 1), (3, 1)], 4, 8, [.int .i16 0, .int .i16 0, .int .i16 0, .int .u8 0]⟩ := by kernel_rfl
@[go_sem] theorem ti_Round : ti Pq 54 = some ⟨.struct [(0, 1), (1, 1), (2, 1), (3, 1)], 4, 8, [.int .i16 0, .int .i16 0, .int .u16 0, .int .u8 0]⟩ := by kernel_rfl
theorem make7_s {A B C D E F : Rat} (hA : rl A ≤ 100000) (hB : rl B ≤ 100000) (hC : rl C ≤ 100000) (hD : rl D ≤ 100000) (hE : rl E ≤ 100000) (hF : rl F ≤ 100000) (h : B ≠ 0 → E ≠ 0 → C = F) :
    Rq 62 [.agg [.bool (ng (A).num), .sl false (us (lm (A).num)), .bool false, .sl false (us (lm ((A).den : Int))), .bool (ng (B).num), .sl false (us (lm (B).num)), .bool false, .sl false (us (lm ((B).den : Int))), .bool (ng (C).num), .sl false (us (lm (C).num)), .bool false, .sl false (us (lm ((C).den : Int)))], .agg [.bool (ng (D).num), .sl false (us (lm (D).num)), .bool false, .sl false (us (lm ((D).den : Int))), .bool (ng (E).num), .sl false (us (lm (E).num)), .bool false, .sl false (us (lm ((E).den : Int))), .bool (ng (F).num), .sl false (us (lm (F).num)), .bool false, .sl false (us (lm ((F).den : Int)))]] = some (.tup [.agg (zP A B D E (if B = 0 ∧ E = 0 then 0 else if B = 0 then F else C)), .int .i64 0]) := by
  refine RL_of (f := 62) (fn := Tryz.f62) Tryz.func62 rfl rfl rfl (Nat.le_of_ble_eq_true rfl) ?_
  by_cases k : B = 0
  · have s := sg_zero k
    have rd := reduced7_s (A := A) (B := B) (C := D) (D := E) (E := F) (by omega) (by omega)
    rw [if_pos k]
    simp -implicitDefEqProofs (maxSteps := 5000000) (disch := first | omega | (with_reducible apply Nat.le_trans; (focus (repeat' (first | with_reducible assumption | with_reducible apply rb_mul | with_reducible apply rb_add | with_reducible apply rb_sub | with_reducible apply rb_neg | with_reducible apply rb_div | with_reducible apply rb_divInt | with_reducible apply rb_int | with_reducible apply lb_mul | with_reducible apply lb_add | with_reducible apply lb_sub | with_reducible apply lb_neg | exact Nat.le_refl _))); omega)) only [go_sem, s, rd, if_pos, if_neg, dec_t, dec_f, IntWalk.i64_in, IntWalk.u32_in, IntWalk.u64_in, beq_no]
  · have s : ¬ sg B = 0 := fun e => k (sg_eq.1 e)
    have rd := reduced7_s (A := A) (B := B) (C := D) (D := E) (E := C) (by omega) (by omega)
    rw [if_neg (fun h => k h.1)] at rd
    rw [if_neg (fun h => k h.1), if_neg k]
    by_cases k2 : E = 0
    · have s2 := sg_zero k2
      simp -implicitDefEqProofs (maxSteps := 5000000) (disch := first | omega | (with_reducible apply Nat.le_trans; (focus (repeat' (first | with_reducible assumption | with_reducible apply rb_mul | with_reducible apply rb_add | with_reducible apply rb_sub | with_reducible apply rb_neg | with_reducible apply rb_div | with_reducible apply rb_divInt | with_reducible apply rb_int | with_reducible apply lb_mul | with_reducible apply lb_add | with_reducible apply lb_sub | with_reducible apply lb_neg | exact Nat.le_refl _))); omega)) only [go_sem, s, s2, rd, if_pos, if_neg, dec_t, dec_f, IntWalk.i64_in, IntWalk.u32_in, IntWalk.u64_in, beq_no]
    · have s2 : ¬ sg E = 0 := fun e => k2 (sg_eq.1 e)
      have s3 : sg (C - F) = 0 := sg_zero (by have := h k k2; grind)
      simp -implicitDefEqProofs (maxSteps := 5000000) (disch := first | omega | (with_reducible apply Nat.le_trans; (focus (repeat' (first | with_reducible assumption | with_reducible apply rb_mul | with_reducible apply rb_add | with_reducible apply rb_sub | with_reducible apply rb_neg | with_reducible apply rb_div | with_reducible apply rb_divInt | with_reducible apply rb_int | with_reducible apply lb_mul | with_reducible apply lb_add | with_reducible apply lb_sub | with_reducible apply lb_neg | exact Nat.le_refl _))); omega)) only [go_sem, s, s2, s3, rd, if_pos, if_neg, dec_t, dec_f, IntWalk.i64_in, IntWalk.u32_in, IntWalk.u64_in, beq_no]
theorem of7_x {ax bx ay bz c d : Int} (h1 : -32768 ≤ ax ∧ ax < 32768) (h2 : -32768 ≤ bx ∧ bx < 32768) (h3 : -32768 ≤ ay ∧ ay < 32768) (h4 : -32768 ≤ bz ∧ bz < 32768) (h5 : 0 ≤ c ∧ c < 65536) (h6 : 0 ≤ d ∧ d < 256) {A B C D E F : Rat}
    (eA : A = mA (Rat.divInt ax (d + 1)) (Rat.divInt bx (d + 1)) (c : Rat)) (eB : B = mB (Rat.divInt bx (d + 1)) (c : Rat)) (eC : C = mC (Rat.divInt bx (d + 1)) (c : Rat))
    (eD : D = mA (Rat.divInt ay (d + 1)) (Rat.divInt bz (d + 1)) (c : Rat)) (eE : E = mB (Rat.divInt bz (d + 1)) (c : Rat)) (eF : F = mC (Rat.divInt bz (d + 1)) (c : Rat)) :
    Rq 19 [.agg [.int .i16 ax, .int .i16 bx, .int .i16 ay, .int .i16 bz, .int .u16 c, .int .u8 d]] = some (.agg (zP A B D E (if B = 0 ∧ E = 0 then 0 else if B = 0 then F else C))) ∧
    PRed B E (if B = 0 ∧ E = 0 then 0 else if B = 0 then F else C) ∧ rl A ≤ 100 ∧ rl B ≤ 100 ∧ rl D ≤ 100 ∧ rl E ≤ 100 ∧ rl (if B = 0 ∧ E = 0 then 0 else if B = 0 then F else C) ≤ 100 := by
  have k1 := ll_64 (n := ax) (by omega) (by omega)
  have k2 := ll_64 (n := bx) (by omega) (by omega)
  have k3 := ll_64 (n := ay) (by omega) (by omega)
  have k4 := ll_64 (n := bz) (by omega) (by omega)
  have k5 := ll_64 (n := c) (by omega) (by omega)
  have k6 := ll_64 (n := d + 1) (by omega) (by omega)
  have r1 : rl (Rat.divInt ax (d + 1)) ≤ 7 := by (with_reducible apply Nat.le_trans; (focus (repeat' (first | with_reducible assumption | with_reducible apply rb_mul | with_reducible apply rb_add | with_reducible apply rb_sub | with_reducible apply rb_neg | with_reducible apply rb_div | with_reducible apply rb_divInt | with_reducible apply rb_int | with_reducible apply lb_mul | with_reducible apply lb_add | with_reducible apply lb_sub | with_reducible apply lb_neg | exact Nat.le_refl _))); omega)
  have r2 : rl (Rat.divInt bx (d + 1)) ≤ 7 := by (with_reducible apply Nat.le_trans; (focus (repeat' (first | with_reducible assumption | with_reducible apply rb_mul | with_reducible apply rb_add | with_reducible apply rb_sub | with_reducible apply rb_neg | with_reducible apply rb_div | with_reducible apply rb_divInt | with_reducible apply rb_int | with_reducible apply lb_mul | with_reducible apply lb_add | with_reducible apply lb_sub | with_reducible apply lb_neg | exact Nat.le_refl _))); omega)
  have r3 : rl (Rat.divInt ay (d + 1)) ≤ 7 := by (with_reducible apply Nat.le_trans; (focus (repeat' (first | with_reducible assumption | with_reducible apply rb_mul | with_reducible apply rb_add | with_reducible apply rb_sub | with_reducible apply rb_neg | with_reducible apply rb_div | with_reducible apply rb_divInt | with_reducible apply rb_int | with_reducible apply lb_mul | with_reducible apply lb_add | with_reducible apply lb_sub | with_reducible apply lb_neg | exact Nat.le_refl _))); omega)
  have r4 : rl (Rat.divInt bz (d + 1)) ≤ 7 := by (with_reducible apply Nat.le_trans; (focus (repeat' (first | with_reducible assumption | with_reducible apply rb_mul | with_reducible apply rb_add | with_reducible apply rb_sub | with_reducible apply rb_neg | with_reducible apply rb_div | with_reducible apply rb_divInt | with_reducible apply rb_int | with_reducible apply lb_mul | with_reducible apply lb_add | with_reducible apply lb_sub | with_reducible apply lb_neg | exact Nat.le_refl _))); omega)
  have r5 : rl (c : Rat) ≤ 4 := by (with_reducible apply Nat.le_trans; (focus (repeat' (first | with_reducible assumption | with_reducible apply rb_mul | with_reducible apply rb_add | with_reducible apply rb_sub | with_reducible apply rb_neg | with_reducible apply rb_div | with_reducible apply rb_divInt | with_reducible apply rb_int | with_reducible apply lb_mul | with_reducible apply lb_add | with_reducible apply lb_sub | with_reducible apply lb_neg | exact Nat.le_refl _))); omega)
  have c0 : 0 ≤ (c : Rat) := by have := Rat.intCast_le_intCast.2 h5.1; rw [z0] at this; exact this
  have x := make3_s (a := Rat.divInt ax (d + 1)) (b := Rat.divInt bx (d + 1)) (c := (c : Rat)) (by omega) (by omega) (by omega) c0
  have y := make3_s (a := Rat.divInt ay (d + 1)) (b := Rat.divInt bz (d + 1)) (c := (c : Rat)) (by omega) (by omega) (by omega) c0
  have d1 := mk_red (B := Rat.divInt bx (d + 1)) c0
  have d2 := mk_red (B := Rat.divInt bz (d + 1)) c0
  have l1 := rl_mA (a := Rat.divInt ax (d + 1)) (b := Rat.divInt bx (d + 1)) (c := (c : Rat))
  have l2 := rl_mB (b := Rat.divInt bx (d + 1)) (c := (c : Rat))
  have l3 := rl_mC (b := Rat.divInt bx (d + 1)) (c := (c : Rat))
  have l4 := rl_mA (a := Rat.divInt ay (d + 1)) (b := Rat.divInt bz (d + 1)) (c := (c : Rat))
  have l5 := rl_mB (b := Rat.divInt bz (d + 1)) (c := (c : Rat))
  have l6 := rl_mC (b := Rat.divInt bz (d + 1)) (c := (c : Rat))
  have same : mB (Rat.divInt bx (d + 1)) (c : Rat) ≠ 0 → mB (Rat.divInt bz (d + 1)) (c : Rat) ≠ 0 → mC (Rat.divInt bx (d + 1)) (c : Rat) = mC (Rat.divInt bz (d + 1)) (c : Rat) := by
    unfold mB mC
    split
    · intro h; exact absurd rfl h
    · rename_i hi
      intro h h'
      rw [if_neg (by intro e; rcases e with e | e; exact hi e; exact h e), if_neg (by intro e; rcases e with e | e; exact hi e; exact h' e)]
  rw [← eA, ← eB, ← eC] at x
  rw [← eD, ← eE, ← eF] at y
  rw [← eB, ← eC] at d1
  rw [← eE, ← eF] at d2
  rw [← eB, ← eC, ← eE, ← eF] at same
  rw [← eA] at l1
  rw [← eB] at l2
  rw [← eC] at l3
  rw [← eD] at l4
  rw [← eE] at l5
  rw [← eF] at l6
  clear eA eB eC eD eE eF
  have mk := make7_s (A := A) (B := B) (C := C) (D := D) (E := E) (F := F) (by omega) (by omega) (by omega) (by omega) (by omega) (by omega) same
  refine ⟨?_, ?_, by omega, by omega, by omega, by omega, ?_⟩
  · refine RL_of (f := 19) (fn := Tryz.f19) Tryz.func19 rfl rfl rfl (Nat.le_of_ble_eq_true rfl) ?_
    simp only [zR_eq] at x y
    simp -implicitDefEqProofs (maxSteps := 5000000) (disch := first | omega | (with_reducible apply Nat.le_trans; (focus (repeat' (first | with_reducible assumption | with_reducible apply rb_mul | with_reducible apply rb_add | with_reducible apply rb_sub | with_reducible apply rb_neg | with_reducible apply rb_div | with_reducible apply rb_divInt | with_reducible apply rb_int | with_reducible apply lb_mul | with_reducible apply lb_add | with_reducible apply lb_sub | with_reducible apply lb_neg | exact Nat.le_refl _))); omega)) only [go_sem, x, y, mk, if_pos, if_neg, dec_t, dec_f, IntWalk.i64_in, IntWalk.u32_in, IntWalk.u64_in, beq_no]
  · by_cases k : B = 0
    · by_cases k' : E = 0
      · rw [if_pos ⟨k, k'⟩]; exact .inl ⟨k, k', rfl⟩
      · rw [if_neg (fun h => k' h.2), if_pos k]
        rcases d2 with ⟨h, _⟩ | ⟨_, h, h'⟩
        · exact absurd h k'
        · exact .inr ⟨h, h'⟩
    · rw [if_neg (fun h => k h.1), if_neg k]
      rcases d1 with ⟨h, _⟩ | ⟨_, h, h'⟩
      · exact absurd h k
      · exact .inr ⟨h, h'⟩
  · split
    · have := rl_zero; omega
    · split <;> omega
theorem of7_s {ax bx ay bz c d : Int} (h1 : -32768 ≤ ax ∧ ax < 32768) (h2 : -32768 ≤ bx ∧ bx < 32768) (h3 : -32768 ≤ ay ∧ ay < 32768) (h4 : -32768 ≤ bz ∧ bz < 32768) (h5 : 0 ≤ c ∧ c < 65536) (h6 : 0 ≤ d ∧ d < 256) :
    ∃ AX BX AY BY PC, Rq 19 [.agg [.int .i16 ax, .int .i16 bx, .int .i16 ay, .int .i16 bz, .int .u16 c, .int .u8 d]] = some (.agg (zP AX BX AY BY PC)) ∧ PRed BX BY PC ∧ rl AX ≤ 100 ∧ rl BX ≤ 100 ∧ rl AY ≤ 100 ∧ rl BY ≤ 100 ∧ rl PC ≤ 100 :=
  ⟨_, _, _, _, _, of7_x h1 h2 h3 h4 h5 h6 rfl rfl rfl rfl rfl rfl⟩
@[go_sem] theorem at2_s {x y d : Int} (h1 : -32768 ≤ x ∧ x < 32768) (h2 : -32768 ≤ y ∧ y < 32768) (h6 : 0 ≤ d ∧ d < 256) :
    Rq 12 [.agg [.int .i16 x, .int .i16 y, .int .u8 d]] = some (.agg (zV (Rat.divInt x (d + 1)) (Rat.divInt y (d + 1)))) := by
  refine RL_of (f := 12) (fn := Tryz.f12) Tryz.func12 rfl rfl rfl (Nat.le_of_ble_eq_true rfl) ?_
  have k1 := ll_64 (n := x) (by omega) (by omega)
  have k2 := ll_64 (n := y) (by omega) (by omega)
  have k6 := ll_64 (n := d + 1) (by omega) (by omega)
  simp -implicitDefEqProofs (maxSteps := 5000000) (disch := first | omega | (with_reducible apply Nat.le_trans; (focus (repeat' (first | with_reducible assumption | with_reducible apply rb_mul | with_reducible apply rb_add | with_reducible apply rb_sub | with_reducible apply rb_neg | with_reducible apply rb_div | with_reducible apply rb_divInt | with_reducible apply rb_int | with_reducible apply lb_mul | with_reducible apply lb_add | with_reducible apply lb_sub | with_reducible apply lb_neg | exact Nat.le_refl _))); omega)) only [go_sem, if_pos, if_neg, dec_t, dec_f, IntWalk.i64_in, IntWalk.u32_in, IntWalk.u64_in, beq_no]
end Go.Pi
