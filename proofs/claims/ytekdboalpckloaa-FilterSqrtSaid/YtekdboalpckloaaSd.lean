/- What is proved: signs of intervals: the law. No conditions beyond those in the statements. -/
import Derived.Test.YtekdboalpckloaaSa
import Derived.Test.YtekdboalpckloaaFx
set_option linter.unusedVariables false
set_option linter.unusedSimpArgs false
set_option maxHeartbeats 4000000
set_option maxRecDepth 8000
/-
Signs of intervals: the law.
-/
namespace Go.Pi
open Go Go.Proofs Num
theorem typ_i64 {d : Nat} {cs : List PV} (h : Typ Pq (d + 1) 2 cs) : ∃ a, cs = [.int .i64 a] ∧ -9223372036854775808 ≤ a ∧ a ≤ 9223372036854775807 := by
  simp only [Typ, Try.underlying2] at h
  obtain ⟨n, rfl, hw⟩ := h
  refine ⟨n, rfl, ?_⟩
  simp only [Lit.wf, Bool.and_eq_true, decide_eq_true_eq] at hw
  have e1 : IntKind.i64.min = -9223372036854775808 := by decide
  have e2 : IntKind.i64.max = 9223372036854775807 := by decide
  rw [e1, e2] at hw
  exact hw
theorem typ_struct {P : Program} {d : Nat} {t : TypeId} {fs : Array Field} {cs : List PV} (hu : P.underlying t = some (.struct fs)) (h : Typ P (d + 1) t cs) : TypF (Typ P d) fs.toList cs := by
  unfold Typ at h
  rw [hu] at h
  exact h
theorem arg_struct {P : Program} {d : Nat} {t : TypeId} {fs : Array Field} {p : PV} (hu : P.underlying t = some (.struct fs)) (h : ArgT P (d + 1) t p) : ∃ cs, p = .agg cs ∧ TypF (Typ P d) fs.toList cs := by
  unfold ArgT at h
  rw [hu] at h
  obtain ⟨cs, rfl, h⟩ := h
  exact ⟨cs, rfl, typ_struct hu h⟩
theorem arg_Ival {p : PV} (h : ArgT Pq 9 34 p) : ∃ a b, p = .agg [.int .i64 a, .int .i64 b] ∧ (-9223372036854775808 ≤ a ∧ a ≤ 9223372036854775807) ∧ (-9223372036854775808 ≤ b ∧ b ≤ 9223372036854775807) := by
  obtain ⟨cs, rfl, p, q, rfl, h1, p', q', rfl, h2, rfl⟩ := arg_struct (d := 8) Try.underlying34 h
  obtain ⟨a, rfl, ha⟩ := typ_i64 (d := 7) h1
  obtain ⟨b, rfl, hb⟩ := typ_i64 (d := 7) h2
  exact ⟨a, b, rfl, ha, hb⟩
theorem proper'_r (a b : Int) : Rq 17 [.agg [.int .i64 a, .int .i64 b]] = some (.bool (dec (a ≤ b ∧ -2305843009213693952 ≤ a ∧ b ≤ 2305843009213693952))) := by
  refine RL_of (f := 17) (fn := Try.f17) Try.func17 rfl rfl rfl (Nat.le_of_ble_eq_true rfl) ?_
  by_cases h1 : a ≤ b
  · by_cases h2 : -2305843009213693952 ≤ a
    · by_cases h3 : b ≤ 2305843009213693952
      · simp -implicitDefEqProofs (disch := omega) only [go_sem, h1, h2, h3, if_pos, if_neg, dec_t, dec_f, IntWalk.i64_in, IntWalk.u32_in, IntWalk.u64_in, beq_no]
      · simp -implicitDefEqProofs (disch := omega) only [go_sem, h1, h2, h3, if_pos, if_neg, dec_t, dec_f, IntWalk.i64_in, IntWalk.u32_in, IntWalk.u64_in, beq_no]
    · simp -implicitDefEqProofs (disch := omega) only [go_sem, h1, h2, if_pos, if_neg, dec_t, dec_f, IntWalk.i64_in, IntWalk.u32_in, IntWalk.u64_in, beq_no]
  · simp -implicitDefEqProofs (disch := omega) only [go_sem, h1, if_pos, if_neg, dec_t, dec_f, IntWalk.i64_in, IntWalk.u32_in, IntWalk.u64_in, beq_no]
theorem of'_r (a b : Int) : Rq 19 [.agg [.int .i64 a, .int .i64 b]] = some (.agg [.int .i64 a, .int .i64 b]) := by
  refine RL_of (f := 19) (fn := Try.f19) Try.func19 rfl rfl rfl (Nat.le_of_ble_eq_true rfl) ?_
  simp -implicitDefEqProofs (disch := omega) only [go_sem, if_pos, if_neg, dec_t, dec_f, IntWalk.i64_in, IntWalk.u32_in, IntWalk.u64_in, beq_no]
theorem sign4_r (a b : Int) : Rq 36 [.agg [.int .i64 a, .int .i64 b]] = some (.tup [.int .i64 (if 0 < a then 1 else if b < 0 then -1 else 0), .bool (dec (0 < a ∨ b < 0 ∨ a = 0 ∧ b = 0))]) := by
  refine RL_of (f := 36) (fn := Try.f36) Try.func36 rfl rfl rfl (Nat.le_of_ble_eq_true rfl) ?_
  by_cases h1 : 0 < a
  · simp -implicitDefEqProofs (disch := omega) only [go_sem, h1, if_pos, if_neg, dec_t, dec_f, IntWalk.i64_in, IntWalk.u32_in, IntWalk.u64_in, beq_no]
  · by_cases h2 : b < 0
    · simp -implicitDefEqProofs (disch := omega) only [go_sem, h1, h2, if_pos, if_neg, dec_t, dec_f, IntWalk.i64_in, IntWalk.u32_in, IntWalk.u64_in, beq_no]
    · by_cases h3 : a = 0
      · subst h3
        simp -implicitDefEqProofs (disch := omega) only [go_sem, h2, if_pos, if_neg, dec_t, dec_f, IntWalk.i64_in, IntWalk.u32_in, IntWalk.u64_in, beq_no]
      · simp -implicitDefEqProofs (disch := omega) only [go_sem, h1, h2, h3, if_pos, if_neg, dec_t, dec_f, IntWalk.i64_in, IntWalk.u32_in, IntWalk.u64_in, beq_no]
theorem sign_law {p : PV} (h : ArgT Pq 9 34 p) : Rq 8 [p] = some (.bool true) := by
  obtain ⟨a, b, rfl, ha, hb⟩ := arg_Ival h
  refine RL_of (f := 8) (fn := Try.f8) Try.func8 rfl rfl rfl (Nat.le_of_ble_eq_true rfl) ?_
  have aw := awake_r
  have pr := proper'_r a b
  have of := of'_r a b
  have s1 := iSign_r a b
  have s2 := sign4_r a b
  by_cases hp : a ≤ b ∧ -2305843009213693952 ≤ a ∧ b ≤ 2305843009213693952
  · rw [dec_t hp] at pr
    generalize (if 0 < a then (1 : Int) else if b < 0 then -1 else 0) = n at *
    generalize dec (0 < a ∨ b < 0 ∨ a = 0 ∧ b = 0) = k at *
    simp -implicitDefEqProofs (disch := omega) only [go_sem, aw, pr, of, s1, s2, beq_self_eq_true, if_pos, if_neg, dec_t, dec_f, IntWalk.i64_in, IntWalk.u32_in, IntWalk.u64_in, beq_no]
  · rw [dec_f hp] at pr
    simp -implicitDefEqProofs (disch := omega) only [go_sem, aw, pr, if_pos, if_neg, dec_t, dec_f, IntWalk.i64_in, IntWalk.u32_in, IntWalk.u64_in, beq_no]
end Go.Pi
