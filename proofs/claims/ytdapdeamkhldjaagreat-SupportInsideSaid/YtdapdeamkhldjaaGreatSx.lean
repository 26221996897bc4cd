/- What is proved: the program of the seat and its types. No conditions beyond those in the statements. -/
import Derived.Test.YtdapdeamkhldjaaGreatPd
import Derived.Test.YtdapdeamkhldjaaGreatNa
import Derived.Test.YtdapdeamkhldjaaGreatChecked
set_option linter.unusedVariables false
set_option linter.unusedSimpArgs false
/-
The program of the seat, its types, and which calls share their caller's memory.
-/
namespace Go.Pi
open Go Go.Proofs Num
def sq : FuncId → FuncId → Bool := fun g f => g == 150 && (f == 164 || f == 166 || f == 167 || f == 154)
def cq : FuncId → Nat → List (Nat × Nat) := fun f r => if f = 156 ∧ r = 7 then [(1, 2)]
  else if f = 21 ∧ r = 5 then [(3, 6)]
  else if f = 114 ∧ r = 7 then [(1, 2)] else []
attribute [go_sem] sq cq
noncomputable abbrev Pq := Tryz.prog
abbrev Xq : FuncId → Option (List PV → Option PV) := fun _ => none
noncomputable abbrev Rq := RL Pq Xq sq cq
noncomputable abbrev Cq := CL Pq Xq sq cq
@[go_sem] theorem ti_i64 : ti Pq 2 = some ⟨.int .i64, 1, 8, [.int .i64 0]⟩ := by kernel_rfl
@[go_sem] theorem ti_int : ti Pq 3 = some ⟨.int .i64, 1, 8, [.int .i64 0]⟩ := by kernel_rfl
@[go_sem] theorem ti_bool : ti Pq 4 = some ⟨.bool, 1, 1, [.bool false]⟩ := by kernel_rfl
@[go_sem] theorem ti_u8 : ti Pq 5 = some ⟨.int .u8, 1, 1, [.int .u8 0]⟩ := by kernel_rfl
@[go_sem] theorem ti_u32 : ti Pq 128 = some ⟨.int .u32, 1, 4, [.int .u32 0]⟩ := by kernel_rfl
@[go_sem] theorem ti_u64 : ti Pq 134 = some ⟨.int .u64, 1, 8, [.int .u64 0]⟩ := by kernel_rfl
@[go_sem] theorem ti_limbs : ti Pq 26 = some ⟨.slice 128, 1, 24, [.sl true []]⟩ := by kernel_rfl
@[go_sem] theorem ti_Int : ti Pq 28 = some ⟨.struct [(0, 1), (1, 1)], 2, 32, [.bool false, .sl true []]⟩ := by kernel_rfl
@[go_sem] theorem ti_Rat : ti Pq 30 = some ⟨.struct [(0, 2), (2, 2)], 4, 64, [.bool false, .sl true [], .bool false, .sl true []]⟩ := by kernel_rfl
@[go_sem] theorem ti_Ival : ti Pq 109 = some ⟨.struct [(0, 1), (1, 1)], 2, 16, [.int .i64 0, .int .i64 0]⟩ := by kernel_rfl
end Go.Pi
