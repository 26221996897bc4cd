/- What is proved: the program of the seat and its types. No conditions beyond those in the statements. -/
import Derived.Test.YtnhfplmgkhdmlaaGreatPd
import Derived.Test.YtnhfplmgkhdmlaaGreatNa
import Derived.Test.YtnhfplmgkhdmlaaGreatChecked
set_option linter.unusedVariables false
set_option linter.unusedSimpArgs false
/-
The program of the seat, its types, and which calls share their caller's memory.
-/
namespace Go.Pi
open Go Go.Proofs Num
def sq : FuncId → FuncId → Bool := fun g f => g == 153 && (f == 150 || f == 170 || f == 171 || f == 119)
  || g == 9 && (f == 30 || f == 31) || g == 30 && f == 72 || g == 138 && f == 164 || g == 6 && f == 22
def cq : FuncId → Nat → List (Nat × Nat) := fun f r => if f = 154 ∧ r = 7 then [(1, 2)]
  else if f = 6 ∧ r = 5 then [(15, 28), (19, 28), (23, 28)]
  else if f = 12 ∧ r = 3 then [(3, 6)]
  else if f = 138 ∧ r = 6 then [(7, 8)]
  else if f = 138 ∧ r = 7 then [(7, 8)]
  else if f = 138 ∧ r = 8 then [(7, 9), (7, 10)]
  else if f = 138 ∧ r = 11 then [(8, 9), (8, 15), (13, 15), (8, 16), (13, 16)]
  else if f = 129 ∧ r = 7 then [(1, 2)] else []
def frq : List FuncId := []
  ++ [164]
attribute [go_sem] sq cq
noncomputable abbrev Pq := Tryz.prog
abbrev Xq : FuncId → Option (List PV → Option PV) := fun _ => none
noncomputable abbrev Rq := RL Pq Xq sq cq
noncomputable abbrev Cq := CL Pq Xq sq cq
@[go_sem] theorem ti_i64 : ti Pq 2 = some ⟨.int .i64, 1, 8, [.int .i64 0]⟩ := by kernel_rfl
@[go_sem] theorem ti_int : ti Pq 3 = some ⟨.int .i64, 1, 8, [.int .i64 0]⟩ := by kernel_rfl
@[go_sem] theorem ti_bool : ti Pq 4 = some ⟨.bool, 1, 1, [.bool false]⟩ := by kernel_rfl
@[go_sem] theorem ti_u8 : ti Pq 5 = some ⟨.int .u8, 1, 1, [.int .u8 0]⟩ := by kernel_rfl
@[go_sem] theorem ti_u32 : ti Pq 143 = some ⟨.int .u32, 1, 4, [.int .u32 0]⟩ := by kernel_rfl
@[go_sem] theorem ti_u64 : ti Pq 127 = some ⟨.int .u64, 1, 8, [.int .u64 0]⟩ := by kernel_rfl
@[go_sem] theorem ti_limbs : ti Pq 33 = some ⟨.slice 143, 1, 24, [.sl true []]⟩ := by kernel_rfl
@[go_sem] theorem ti_Int : ti Pq 35 = some ⟨.struct [(0, 1), (1, 1)], 2, 32, [.bool false, .sl true []]⟩ := by kernel_rfl
@[go_sem] theorem ti_Rat : ti Pq 37 = some ⟨.struct [(0, 2), (2, 2)], 4, 64, [.bool false, .sl true [], .bool false, .sl true []]⟩ := by kernel_rfl
@[go_sem] theorem ti_Ival : ti Pq 139 = some ⟨.struct [(0, 1), (1, 1)], 2, 16, [.int .i64 0, .int .i64 0]⟩ := by kernel_rfl
end Go.Pi
