/- What is proved: the program passes the static check, and what it answers as values is what it answers. No conditions beyond those in the statements. -/
import Derived.Test.YtnhfplmgkhdmlaaGreatNa
import Derived.Test.YtnhfplmgkhdmlaaGreatSx
import Derived.Test.YtnhfplmgkhdmlaaGreatFr
set_option linter.unusedVariables false
set_option maxHeartbeats 4000000
set_option maxRecDepth 8000
/-
What stands in the program is checked; what it answers as values is what it answers.
-/
namespace Go.Pi
open Go Go.Proofs Go.RowKit
theorem fnsOk : (List.range Tryz.funcs.size).all (fun i => match Tryz.funcs[i]? with | some fn => fnOk (sq i) frq (cq i) fn | none => true) = true := by kernel_rfl
theorem fnOk_all (f : FuncId) (fn : Func) (h : Pq.funcs[f]? = some fn) : fnOk (sq f) frq (cq f) fn = true := by
  have h1 := List.all_eq_true.1 fnsOk f (List.mem_range.2 (Array.getElem?_eq_some_iff.1 h).1)
  have h2 : Tryz.funcs[f]? = some fn := h
  rw [h2] at h1
  exact h1
theorem follows : Pq.follows .mixedOrders = true := by kernel_rfl
theorem xOk : XOk Pq Xq := fun f g h => by cases h
theorem frm_all (k : Nat) : Frm (call Pq Xq sq cq k) frq := with_frm k
/-- A law that answers true as values answers true. -/
theorem walk_of {f : FuncId} {ps : List PV} {args : Array Value} {W : World} (h : Rq f ps = some (.bool true)) (hr : RepL W (fun b _ => b < W.heap.size) (fun _ => none) ps args) :
    Calls Pq f args W fun e W' => e = .returned (.bool true) ∧ Below W.heap.size W W' := by
  obtain ⟨⟨p, M'⟩, h1, h2⟩ := Option.bind_eq_some_iff.1 (show (CL Pq Xq sq cq f ps mem0).bind (fun q => frz q.2 q.1) = some (.bool true) from h)
  obtain ⟨k0, hk⟩ := of_lim h1
  have hp : p = .bool true := by
    dsimp only at h2
    cases p <;> simp [frz, frz1, frz0] at h2
    · exact congrArg _ h2
    all_goals (first | (split at h2 <;> simp at h2; done) | skip)
    all_goals (split at h2 <;> first | (simp at h2; done) | (split at h2 <;> simp at h2))
  subst hp
  have := (call_ok follows xOk fnOk_all (fr := frq) frm_all k0).ok f ps mem0 _ _ (hk k0 (Nat.le_refl _)) W.heap.size W _ _ _ W args (sim_start W) hr
  refine this.mono fun e W' ⟨v, fx', bs', he, hv, hF⟩ => ?_
  cases hv
  exact ⟨he, hF.sim.below⟩
end Go.Pi
