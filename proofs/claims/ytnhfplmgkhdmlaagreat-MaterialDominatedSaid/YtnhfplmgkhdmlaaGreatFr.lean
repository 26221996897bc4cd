/- What is proved: a function that writes where it is told alone. No conditions beyond those in the statements. -/
import Derived.Test.YtnhfplmgkhdmlaaGreatNa
import Derived.Test.YtnhfplmgkhdmlaaGreatSx
import Derived.Test.YtnhfplmgkhdmlaaGreatKp
set_option linter.unusedVariables false
set_option maxHeartbeats 4000000
set_option maxRecDepth 8000
/-
A function that writes where it is told alone.
-/
namespace Go.Pi
open Go Go.Proofs Go.RowKit
theorem with_frm (k : Nat) : Frm (call Pq Xq sq cq k) frq := by
  intro f hf vs M p M' h id h1 h2
  have e : f = 164 := by
    simpa [frq] using hf
  subst e
  exact call_kp (fun j => j == 0 || j == 6 || j == 7 || j == 8 || j == 9 || j == 10 || j == 15 || j == 16) Tryz.func164 rfl rfl (by kernel_rfl) k h h1 h2
end Go.Pi
