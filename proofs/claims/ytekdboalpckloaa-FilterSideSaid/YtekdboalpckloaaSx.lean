/- What is proved: the program of the seat and its types. No conditions beyond those in the statements. -/
import Derived.Test.YtekdboalpckloaaPd
import Derived.Test.YtekdboalpckloaaNa
import Derived.Test.YtekdboalpckloaaChecked
set_option linter.unusedVariables false
set_option linter.unusedSimpArgs false
/-
The program of the seat, its types, and which calls share their caller's memory.
-/
namespace Go.Pi
open Go Go.Proofs Num
def sq : FuncId → FuncId → Bool := fun g f => g == 103 && (f == 108 || f == 110 || f == 111 || f == 100)
def cq : FuncId → Nat → List (Nat × Nat) := fun f r => if f = 79 ∧ r = 7 then [(1, 2)] else if f = 82 ∧ r = 7 then [(1, 2)] else []
attribute [go_sem] sq cq
noncomputable abbrev Pq := Try.prog
abbrev Xq : FuncId → Option (List PV → Option PV) := fun _ => none
noncomputable abbrev Rq := RL Pq Xq sq cq
noncomputable abbrev Cq := CL Pq Xq sq cq
@[go_sem] theorem ti_i64 : ti Pq 2 = some ⟨.int .i64, 1, 8, [.int .i64 0]⟩ := by kernel_rfl
@[go_sem] theorem ti_int : ti Pq 3 = some ⟨.int .i64, 1, 8, [.int .i64 0]⟩ := by kernel_rfl
@[go_sem] theorem ti_bool : ti Pq 4 = some ⟨.bool, 1, 1, [.bool false]⟩ := by kernel_rfl
@[go_sem] theorem ti_u8 : ti Pq 5 = some ⟨.int .u8, 1, 1, [.int .u8 0]⟩ := by kernel_rfl
@[go_sem] theorem ti_u32 : ti Pq 71 = some ⟨.int .u32, 1, 4, [.int .u32 0]⟩ := by kernel_rfl
@[go_sem] theorem ti_u64 : ti Pq 101 = some ⟨.int .u64, 1, 8, [.int .u64 0]⟩ := by kernel_rfl
@[go_sem] theorem ti_limbs : ti Pq 22 = some ⟨.slice 71, 1, 24, [.sl true []]⟩ := by kernel_rfl
@[go_sem] theorem ti_Int : ti Pq 24 = some ⟨.struct [(0, 1), (1, 1)], 2, 32, [.bool false, .sl true []]⟩ := by kernel_rfl
@[go_sem] theorem ti_Rat : ti Pq 26 = some ⟨.struct [(0, 2), (2, 2)], 4, 64, [.bool false, .sl true [], .bool false, .sl true []]⟩ := by kernel_rfl
@[go_sem] theorem ti_Ival : ti Pq 31 = some ⟨.struct [(0, 1), (1, 1)], 2, 16, [.int .i64 0, .int .i64 0]⟩ := by kernel_rfl
@[go_sem] theorem ti_Jval : ti Pq 34 = some ⟨.struct [(0, 1), (1, 1)], 2, 16, [.int .i64 0, .int .i64 0]⟩ := by kernel_rfl
end Go.Pi
