/- What is proved: calls of function values. No conditions beyond those in the statements. -/
import Derived.Test.YtnhfplmgkhdmlaaGreatNa
import Derived.Test.YtnhfplmgkhdmlaaGreatPd
set_option linter.unusedVariables false
/-
Calls of function values; what is appended where an order is open.
-/
namespace Go.Pi
open Go
variable {P : Program} {X : FuncId → Option (List PV → Option PV)} {S : FuncId → FuncId → Bool} {cf : FuncId → Nat → List (Nat × Nat)} {sh : FuncId → Bool}
noncomputable def dynV (P : Program) (X : FuncId → Option (List PV → Option PV)) (S : FuncId → FuncId → Bool) (cf : FuncId → Nat → List (Nat × Nat)) (M : Mem) (vs : Option (List PV)) : PV → Option (PV × Mem)
  | .fn f cs => vs.bind fun vs => clS P X S cf f (vs ++ cs) M false
  | _ => none
noncomputable def dynK (P : Program) (X : FuncId → Option (List PV → Option PV)) (S : FuncId → FuncId → Bool) (cf : FuncId → Nat → List (Nat × Nat)) (f : FuncId) (cs : List PV) (M : Mem) (vs : List PV) : Option (PV × Mem) := clS P X S cf f (vs ++ cs) M false
@[go_sem] theorem dynV_fn {M : Mem} {vs : Option (List PV)} {f : FuncId} {cs : List PV} : dynV P X S cf M vs (.fn f cs) = vs.bind (dynK P X S cf f cs M) := rfl
@[go_sem] theorem dynK_ap {M : Mem} {vs : List PV} {f : FuncId} : dynK P X S cf f [] M vs = clS P X S cf f vs M false := by
  simp only [dynK, List.append_nil]
@[go_sem] theorem dynK_two {M : Mem} {vs : List PV} {f : FuncId} {a : PV} {cs : List PV} : dynK P X S cf f (a :: cs) M vs = clS P X S cf f (vs ++ a :: cs) M false := rfl
@[go_sem] theorem drw_dyn {k : Nat} {r : Nat → PV} {M : Mem} {t : Tmp} {xs : Array Operand} {ts : Array TypeId} : drwOp P (CL P X S cf) sh k r M (.call ⟨.value (.tmp t), xs, ts⟩) = dynV P X S cf M (evL r xs.toList) (r t) := by
  simp only [drwOp, ev, dynV]
  cases r t <;> try rfl
  rename_i f cs
  dsimp only
  congr 1
  funext vs
  rw [callOp_RL (g := fun _ => false) rfl]
  rfl
/-- The rest of the memory is the caller's. -/
def dnx (nx : Nat) (q : PV × Mem) : Option (PV × Mem) := some (q.1, ⟨q.2.m, nx⟩)
@[go_sem] theorem dnx_ap {nx nx' : Nat} {v : PV} {m : Nat → Blk} : dnx nx (v, ⟨m, nx'⟩) = some (v, ⟨m, nx⟩) := rfl
@[go_sem] theorem apN_two {k nx : Nat} {m : Nat → Blk} {t u : TypeId} {s : PV} {ys : List PV} : apN P k ⟨m, nx⟩ [t, u].toArray [s, .sl true ys] = (apT P ⟨m, k⟩ (ti P t) (ti P u) s (.sl true ys)).bind (dnx nx) := by
  rw [← apK_two (M := ⟨m, k⟩)]
  have e : apN P k ⟨m, nx⟩ [t, u].toArray [s, .sl true ys] = (app P k [t, u].toArray ⟨m, nx⟩ [s, .sl true ys]).map fun q => (q.1, ⟨q.2, nx⟩) := by
    cases s <;> try rfl
    rename_i ex xs
    cases ex <;> rfl
  rw [e]
  have e2 : app P k [t, u].toArray ⟨m, nx⟩ [s, .sl true ys] = app P k [t, u].toArray ⟨m, k⟩ [s, .sl true ys] := rfl
  rw [e2]
  simp only [apK]
  cases app P k [t, u].toArray ⟨m, k⟩ [s, .sl true ys] <;> rfl
end Go.Pi
