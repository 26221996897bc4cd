/- What is proved: FilterSign answers true for every input. No conditions beyond those in the statements. -/
import Derived.Test.YtekdboalpckloaaSa
import Derived.Test.YtekdboalpckloaaFx
import Derived.Test.YtekdboalpckloaaRows
import Derived.WalkKit
import Derived.ProofKit
import Derived.OpenShut
import Derived.ChangeOld
import Derived.Below
import Derived.SizedLaws
set_option linter.unusedVariables false
set_option linter.unusedSimpArgs false
set_option maxHeartbeats 4000000
set_option maxRecDepth 8000
/-
Signs of intervals: the law.
-/
namespace Go.Pi
open Go Go.Proofs Num
theorem typ_i64 {d : Nat} {cs : List PV} (h : Typ Pq (d + 1) 2 cs) : ∃ a, cs = [.int .i64 a] ∧ -9223372036854775808 ≤ a ∧ a ≤ 9223372036854775807 := by
  simp only [Typ, Try.underlying2] at h
  obtain ⟨n, rfl, hw⟩ := h
  refine ⟨n, rfl, ?_⟩
  simp only [Lit.wf, Bool.and_eq_true, decide_eq_true_eq] at hw
  have e1 : IntKind.i64.min = -9223372036854775808 := by decide
  have e2 : IntKind.i64.max = 9223372036854775807 := by decide
  rw [e1, e2] at hw
  exact hw
theorem typ_struct {P : Program} {d : Nat} {t : TypeId} {fs : Array Field} {cs : List PV} (hu : P.underlying t = some (.struct fs)) (h : Typ P (d + 1) t cs) : TypF (Typ P d) fs.toList cs := by
  unfold Typ at h
  rw [hu] at h
  exact h
theorem arg_struct {P : Program} {d : Nat} {t : TypeId} {fs : Array Field} {p : PV} (hu : P.underlying t = some (.struct fs)) (h : ArgT P (d + 1) t p) : ∃ cs, p = .agg cs ∧ TypF (Typ P d) fs.toList cs := by
  unfold ArgT at h
  rw [hu] at h
  obtain ⟨cs, rfl, h⟩ := h
  exact ⟨cs, rfl, typ_struct hu h⟩
theorem arg_Ival {p : PV} (h : ArgT Pq 9 34 p) : ∃ a b, p = .agg [.int .i64 a, .int .i64 b] ∧ (-9223372036854775808 ≤ a ∧ a ≤ 9223372036854775807) ∧ (-9223372036854775808 ≤ b ∧ b ≤ 9223372036854775807) := by
  obtain ⟨cs, rfl, p, q, rfl, h1, p', q', rfl, h2, rfl⟩ := arg_struct (d := 8) Try.underlying34 h
  obtain ⟨a, rfl, ha⟩ := typ_i64 (d := 7) h1
  obtain ⟨b, rfl, hb⟩ := typ_i64 (d := 7) h2
  exact ⟨a, b, rfl, ha, hb⟩
theorem proper'_r (a b : Int) : Rq 17 [.agg [.int .i64 a, .int .i64 b]] = some (.bool (dec (a ≤ b ∧ -2305843009213693952 ≤ a ∧ b ≤ 2305843009213693952))) := by
  refine RL_of (f := 17) (fn := Try.f17) Try.func17 rfl rfl rfl (Nat.le_of_ble_eq_true rfl) ?_
  by_cases h1 : a ≤ b
  · by_cases h2 : -2305843009213693952 ≤ a
    · by_cases h3 : b ≤ 2305843009213693952
      · simp -implicitDefEqProofs (disch := omega) only [go_sem, h1, h2, h3, if_pos, if_neg, dec_t, dec_f, IntWalk.i64_in, IntWalk.u32_in, IntWalk.u64_in, beq_no]
      · simp -implicitDefEqProofs (disch := omega) only [go_sem, h1, h2, h3, if_pos, if_neg, dec_t, dec_f, IntWalk.i64_in, IntWalk.u32_in, IntWalk.u64_in, beq_no]
    · simp -implicitDefEqProofs (disch := omega) only [go_sem, h1, h2, if_pos, if_neg, dec_t, dec_f, IntWalk.i64_in, IntWalk.u32_in, IntWalk.u64_in, beq_no]
  · simp -implicitDefEqProofs (disch := omega) only [go_sem, h1, if_pos, if_neg, dec_t, dec_f, IntWalk.i64_in, IntWalk.u32_in, IntWalk.u64_in, beq_no]
theorem of'_r (a b : Int) : Rq 19 [.agg [.int .i64 a, .int .i64 b]] = some (.agg [.int .i64 a, .int .i64 b]) := by
  refine RL_of (f := 19) (fn := Try.f19) Try.func19 rfl rfl rfl (Nat.le_of_ble_eq_true rfl) ?_
  simp -implicitDefEqProofs (disch := omega) only [go_sem, if_pos, if_neg, dec_t, dec_f, IntWalk.i64_in, IntWalk.u32_in, IntWalk.u64_in, beq_no]
theorem sign4_r (a b : Int) : Rq 36 [.agg [.int .i64 a, .int .i64 b]] = some (.tup [.int .i64 (if 0 < a then 1 else if b < 0 then -1 else 0), .bool (dec (0 < a ∨ b < 0 ∨ a = 0 ∧ b = 0))]) := by
  refine RL_of (f := 36) (fn := Try.f36) Try.func36 rfl rfl rfl (Nat.le_of_ble_eq_true rfl) ?_
  by_cases h1 : 0 < a
  · simp -implicitDefEqProofs (disch := omega) only [go_sem, h1, if_pos, if_neg, dec_t, dec_f, IntWalk.i64_in, IntWalk.u32_in, IntWalk.u64_in, beq_no]
  · by_cases h2 : b < 0
    · simp -implicitDefEqProofs (disch := omega) only [go_sem, h1, h2, if_pos, if_neg, dec_t, dec_f, IntWalk.i64_in, IntWalk.u32_in, IntWalk.u64_in, beq_no]
    · by_cases h3 : a = 0
      · subst h3
        simp -implicitDefEqProofs (disch := omega) only [go_sem, h2, if_pos, if_neg, dec_t, dec_f, IntWalk.i64_in, IntWalk.u32_in, IntWalk.u64_in, beq_no]
      · simp -implicitDefEqProofs (disch := omega) only [go_sem, h1, h2, h3, if_pos, if_neg, dec_t, dec_f, IntWalk.i64_in, IntWalk.u32_in, IntWalk.u64_in, beq_no]
theorem sign_law {p : PV} (h : ArgT Pq 9 34 p) : Rq 8 [p] = some (.bool true) := by
  obtain ⟨a, b, rfl, ha, hb⟩ := arg_Ival h
  refine RL_of (f := 8) (fn := Try.f8) Try.func8 rfl rfl rfl (Nat.le_of_ble_eq_true rfl) ?_
  have aw := awake_r
  have pr := proper'_r a b
  have of := of'_r a b
  have s1 := iSign_r a b
  have s2 := sign4_r a b
  by_cases hp : a ≤ b ∧ -2305843009213693952 ≤ a ∧ b ≤ 2305843009213693952
  · rw [dec_t hp] at pr
    generalize (if 0 < a then (1 : Int) else if b < 0 then -1 else 0) = n at *
    generalize dec (0 < a ∨ b < 0 ∨ a = 0 ∧ b = 0) = k at *
    simp -implicitDefEqProofs (disch := omega) only [go_sem, aw, pr, of, s1, s2, beq_self_eq_true, if_pos, if_neg, dec_t, dec_f, IntWalk.i64_in, IntWalk.u32_in, IntWalk.u64_in, beq_no]
  · rw [dec_f hp] at pr
    simp -implicitDefEqProofs (disch := omega) only [go_sem, aw, pr, if_pos, if_neg, dec_t, dec_f, IntWalk.i64_in, IntWalk.u32_in, IntWalk.u64_in, beq_no]
end Go.Pi

set_option linter.all false
namespace Go.Proofs.Ytekdboalpckloaa.filterSign
open Go.ChangeShapes Go.WideShapes Go.ChangeAt Go.RowKit Go.Pi
theorem own : ownKnob Try.prog.godebug = none := by kernel_rfl
theorem laidOut : laidOutB Try.prog = true := by kernel_rfl
theorem ok1 : okTy Try.prog 9 34 = true := by kernel_rfl
set_option maxRecDepth 100000 in
theorem plain (p1 : PV) (h1 : ArgT Try.prog 9 34 p1) : Rq 8 [p1] = some (.bool true) := sign_law h1
set_option maxRecDepth 100000 in
theorem lifted (os : Os) (started : os.Started) (H : Type) (enc : TypeId × Value → H) :
    ReturnsInHanded {} Try.checked os 8 .any (Rows.filterSignSpec.pre6 enc Try.prog Try.f8 Rows.filterSignRow.domain false) (Rows.filterSignSpec.post enc Try.prog Try.f8 false true false false) := by
  refine returnsInHanded_of_change_sized (C := Try.checked) own started (by kernel_rfl) Try.func8
    (ChangeSpec.witness6 (enc := enc) (C := Try.checked) false ⟨#[], #[.agg #[.int .i64 0, .int .i64 0]], []⟩ 8 (by kernel_rfl) (by kernel_rfl) (by kernel_rfl) (by kernel_rfl)) ?_
  intro W base args ds gs before hval0 hW hcnd hsz0 _
  have hval : ∀ (j : Nat) t v, Try.f8.params[j]? = some t → args[j]? = some v → Value.okWide Try.prog W .any base t v := hval0
  have hW' := hW
  obtain ⟨p, q, hA0, hV, rfl, hfz, hnd⟩ := hW
  have hA : DataW.TrodAll enc Try.prog W 0 (fun _ => true) true Try.f8.params.toList args.toList ds p := hA0
  rw [Try.params8] at hA hval
  obtain ⟨v0, vs0, d0, ds0, p0, q0, hargs, rfl, rfl, h0, r0⟩ := trodAll_cons hA
  obtain ⟨rfl, rfl, rfl⟩ := trodAll_nil r0
  obtain rfl : args = #[v0] := by cases args; simp_all
  obtain ⟨rfl, rfl⟩ := trodVars_none hV
  have lt0 : ∀ x ∈ p0, x.block < W.heap.size := by obtain ⟨m, hm⟩ := h0; exact DataW.trod_lt m _ _ _ hm
  obtain ⟨u0, t0, e0⟩ := arg_ok (hval 0 34 v0 rfl rfl) h0 ok1
  clear hA0 hval0 hsz0
  refine (walk_of (args := #[v0]) (W := W) (plain u0 t0) ⟨rfl, fun i c v hc hv => by
    match i, hc, hv with
    | 0, hc, hv => simp at hc hv; subst hc; subst hv; exact e0⟩).mono fun e W' ⟨he, bel⟩ => ?_
  subst he
  exact ⟨_, rfl, _, _, _, [], _, [], hW', trodAll_mk1 (shut_bool Try.underlying4 _), (trodAll_cons_mk (Below.trod laidOut (by kernel_rfl) (of_decide_eq_true (by kernel_rfl)) h0 bel lt0) trodAll_mk0), rfl, bel.frame _, fun h => by cases h⟩
theorem over : Rows.filterSignRow.holds Try.pinned (OpenSpec.ofChange Rows.filterSignSpec) :=
  OpenClaim.holds_of_wide 8 Try.f8 rfl rfl rfl rfl rfl rfl rfl ⟨rfl, rfl, rfl, rfl, rfl⟩ rfl rfl rfl rfl rfl (by kernel_rfl) Try.func8 (by kernel_rfl)
    (of_decide_eq_true (by kernel_rfl)) (by unfold Func.isWrapper; first | (rw [if_pos (by decide +kernel)]; kernel_rfl) | (rw [if_neg (by decide +kernel)]; exact ⟨rfl, rfl⟩))
    (fun os started H enc _ => lifted os started H enc)
theorem proved : Rows.FilterSignSaid := over
end Go.Proofs.Ytekdboalpckloaa.filterSign
