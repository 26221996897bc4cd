/-
  No cell of these rows narrows 'for every input' (looked for: loops, veiled, ifaces, maps, wideKeys, modest, calm, conditions, laid).
  DERIVED. THE GIVEN ROWS OF THIS SEAT. 7 by the template 'for every input the law returns true; each argument reads behind the call as it read before'; 0 by the template 'total and deterministic' (their statements: YtnhfplmgkhdmlaaGreatTotals.lean).
  GIVEN WITH THE SEED: the statements are not yours to turn. If you find one false, say at which input.
  Laid BY PROGRAM, IN A SANDBOX (cutbox-rows.mjs): the forced cells as the released guide's own fill.sh prints them over the translation 85fbfa4ff2d389e8… (all of the seat's roots in one cut). By AI agents, Wed Nov 11 2026. No macro, syntax, notation, axiom, sorry.
-/
import Derived.Test.YtnhfplmgkhdmlaaGreatChecked
import GoSem.Claim
import GoSem.ClaimJoined
import GoSem.ClaimMapViews
import Derived.JoinedTies
import Derived.KernelRfl
namespace Go.Proofs.YtnhfplmgkhdmlaaGreat
/- THE CELL 'sum', in the pinned program and in every row, IS THE sha256 OF THE DUMP (.gsa) THAT YtnhfplmgkhdmlaaGreatProg.lean LOADS. Nothing in Lean hashes anything: it is a label: what it is worth is what the hold of that sum in a sandbox is worth. -/
noncomputable def Tryz.pinned : Pinned := { name := "ytnhfplmgkhdmlaagreat", sum := "85fbfa4ff2d389e8d6688ea21690e4731d024d7c1f0a81b53ca85e2a9c65d576", checked := Tryz.checked }
namespace Rows
def none {H : Type} : Left H := { results := [], args := [] }

/-- 'swarflaw52.MaterialSwept': WHATEVER THE INPUT: true; the input reads as it did. -/
def materialSweptSpec : ChangeSpec := { name := "materialSwept", fn := fun _ => fun
  | [d1, d2] => { results := [.lit (.bool true)], args := [d1, d2] }
  | _ => none }
def materialSweptRow : OpenClaim := { program := "ytnhfplmgkhdmlaagreat", sum := "85fbfa4ff2d389e8d6688ea21690e4731d024d7c1f0a81b53ca85e2a9c65d576", func := "swarf/swarflaw52.MaterialSwept", spec := "materialSwept", apart := false }
def MaterialSweptSaid : Prop := materialSweptRow.holds Tryz.pinned (OpenSpec.ofChange materialSweptSpec)

/-- ITS FALSE NEIGHBOUR: 'it returns false'. Refute it at one input. -/
def materialSweptWrong : ChangeSpec := { name := "materialSwept", fn := fun _ => fun
  | [d1, d2] => { results := [.lit (.bool false)], args := [d1, d2] }
  | _ => none }
def MaterialSweptWrongFalsely : Prop := materialSweptRow.holds Tryz.pinned (OpenSpec.ofChange materialSweptWrong)

/-- 'swarflaw52.MaterialDominated': WHATEVER THE INPUT: true; the input reads as it did. -/
def materialDominatedSpec : ChangeSpec := { name := "materialDominated", fn := fun _ => fun
  | [d1, d2] => { results := [.lit (.bool true)], args := [d1, d2] }
  | _ => none }
def materialDominatedRow : OpenClaim := { program := "ytnhfplmgkhdmlaagreat", sum := "85fbfa4ff2d389e8d6688ea21690e4731d024d7c1f0a81b53ca85e2a9c65d576", func := "swarf/swarflaw52.MaterialDominated", spec := "materialDominated", apart := false }
def MaterialDominatedSaid : Prop := materialDominatedRow.holds Tryz.pinned (OpenSpec.ofChange materialDominatedSpec)

/-- ITS FALSE NEIGHBOUR: 'it returns false'. Refute it at one input. -/
def materialDominatedWrong : ChangeSpec := { name := "materialDominated", fn := fun _ => fun
  | [d1, d2] => { results := [.lit (.bool false)], args := [d1, d2] }
  | _ => none }
def MaterialDominatedWrongFalsely : Prop := materialDominatedRow.holds Tryz.pinned (OpenSpec.ofChange materialDominatedWrong)

/-- 'swarflaw52.MaterialHeight': WHATEVER THE INPUT: true; the input reads as it did. -/
def materialHeightSpec : ChangeSpec := { name := "materialHeight", fn := fun _ => fun
  | [d1, d2, d3] => { results := [.lit (.bool true)], args := [d1, d2, d3] }
  | _ => none }
def materialHeightRow : OpenClaim := { program := "ytnhfplmgkhdmlaagreat", sum := "85fbfa4ff2d389e8d6688ea21690e4731d024d7c1f0a81b53ca85e2a9c65d576", func := "swarf/swarflaw52.MaterialHeight", spec := "materialHeight", unfollowed := true, recurses := true, apart := false }
def MaterialHeightSaid : Prop := materialHeightRow.holds Tryz.pinned (OpenSpec.ofChange materialHeightSpec)

/-- ITS FALSE NEIGHBOUR: 'it returns false'. Refute it at one input. -/
def materialHeightWrong : ChangeSpec := { name := "materialHeight", fn := fun _ => fun
  | [d1, d2, d3] => { results := [.lit (.bool false)], args := [d1, d2, d3] }
  | _ => none }
def MaterialHeightWrongFalsely : Prop := materialHeightRow.holds Tryz.pinned (OpenSpec.ofChange materialHeightWrong)

/-- 'swarflaw52.MaterialDivided': WHATEVER THE INPUT: true; the input reads as it did. -/
def materialDividedSpec : ChangeSpec := { name := "materialDivided", fn := fun _ => fun
  | [d1, d2, d3] => { results := [.lit (.bool true)], args := [d1, d2, d3] }
  | _ => none }
def materialDividedRow : OpenClaim := { program := "ytnhfplmgkhdmlaagreat", sum := "85fbfa4ff2d389e8d6688ea21690e4731d024d7c1f0a81b53ca85e2a9c65d576", func := "swarf/swarflaw52.MaterialDivided", spec := "materialDivided", unfollowed := true, recurses := true, apart := false }
def MaterialDividedSaid : Prop := materialDividedRow.holds Tryz.pinned (OpenSpec.ofChange materialDividedSpec)

/-- ITS FALSE NEIGHBOUR: 'it returns false'. Refute it at one input. -/
def materialDividedWrong : ChangeSpec := { name := "materialDivided", fn := fun _ => fun
  | [d1, d2, d3] => { results := [.lit (.bool false)], args := [d1, d2, d3] }
  | _ => none }
def MaterialDividedWrongFalsely : Prop := materialDividedRow.holds Tryz.pinned (OpenSpec.ofChange materialDividedWrong)

/-- 'swarflaw52.MaterialRemoved': WHATEVER THE INPUT: true; the input reads as it did. -/
def materialRemovedSpec : ChangeSpec := { name := "materialRemoved", fn := fun _ => fun
  | [d1, d2, d3] => { results := [.lit (.bool true)], args := [d1, d2, d3] }
  | _ => none }
def materialRemovedRow : OpenClaim := { program := "ytnhfplmgkhdmlaagreat", sum := "85fbfa4ff2d389e8d6688ea21690e4731d024d7c1f0a81b53ca85e2a9c65d576", func := "swarf/swarflaw52.MaterialRemoved", spec := "materialRemoved", unfollowed := true, recurses := true, apart := false }
def MaterialRemovedSaid : Prop := materialRemovedRow.holds Tryz.pinned (OpenSpec.ofChange materialRemovedSpec)

/-- ITS FALSE NEIGHBOUR: 'it returns false'. Refute it at one input. -/
def materialRemovedWrong : ChangeSpec := { name := "materialRemoved", fn := fun _ => fun
  | [d1, d2, d3] => { results := [.lit (.bool false)], args := [d1, d2, d3] }
  | _ => none }
def MaterialRemovedWrongFalsely : Prop := materialRemovedRow.holds Tryz.pinned (OpenSpec.ofChange materialRemovedWrong)

/-- 'swarflaw52.MaterialReduce': WHATEVER THE INPUT: true; the input reads as it did. -/
def materialReduceSpec : ChangeSpec := { name := "materialReduce", fn := fun _ => fun
  | [d1, d2] => { results := [.lit (.bool true)], args := [d1, d2] }
  | _ => none }
def materialReduceRow : OpenClaim := { program := "ytnhfplmgkhdmlaagreat", sum := "85fbfa4ff2d389e8d6688ea21690e4731d024d7c1f0a81b53ca85e2a9c65d576", func := "swarf/swarflaw52.MaterialReduce", spec := "materialReduce", unfollowed := true, recurses := true, apart := false }
def MaterialReduceSaid : Prop := materialReduceRow.holds Tryz.pinned (OpenSpec.ofChange materialReduceSpec)

/-- ITS FALSE NEIGHBOUR: 'it returns false'. Refute it at one input. -/
def materialReduceWrong : ChangeSpec := { name := "materialReduce", fn := fun _ => fun
  | [d1, d2] => { results := [.lit (.bool false)], args := [d1, d2] }
  | _ => none }
def MaterialReduceWrongFalsely : Prop := materialReduceRow.holds Tryz.pinned (OpenSpec.ofChange materialReduceWrong)

/-- 'swarflaw52.MaterialOrder': WHATEVER THE INPUT: true; the input reads as it did. -/
def materialOrderSpec : ChangeSpec := { name := "materialOrder", fn := fun _ => fun
  | [d1, d2, d3] => { results := [.lit (.bool true)], args := [d1, d2, d3] }
  | _ => none }
def materialOrderRow : OpenClaim := { program := "ytnhfplmgkhdmlaagreat", sum := "85fbfa4ff2d389e8d6688ea21690e4731d024d7c1f0a81b53ca85e2a9c65d576", func := "swarf/swarflaw52.MaterialOrder", spec := "materialOrder", unfollowed := true, recurses := true, apart := false }
def MaterialOrderSaid : Prop := materialOrderRow.holds Tryz.pinned (OpenSpec.ofChange materialOrderSpec)

/-- ITS FALSE NEIGHBOUR: 'it returns false'. Refute it at one input. -/
def materialOrderWrong : ChangeSpec := { name := "materialOrder", fn := fun _ => fun
  | [d1, d2, d3] => { results := [.lit (.bool false)], args := [d1, d2, d3] }
  | _ => none }
def MaterialOrderWrongFalsely : Prop := materialOrderRow.holds Tryz.pinned (OpenSpec.ofChange materialOrderWrong)

/- THE SECOND FORM. 'bulk': how many values and letters a reading holds, each counted each time it is reached (what is shared counts as often as it is met; a slice's spare places count too). A statement '..UptoSaid' is the law's where the arguments, and the package variables that the reading takes, are together of bulk at most 1048576: NARROWER than '..Said'. Prove '..Said' where nothing that the law and all that it calls make is longer than what came in: it says more and counts as full. Else prove '..UptoSaid'. A law counts once. -/
mutual
def uptoBulk {H : Type} : DataW H → Nat
  | .lit (.string bytes) => bytes.length + 1
  | .lit _ => 1
  | .nil => 1
  | .ptr d => uptoBulk d + 1
  | .slice elems spare => uptoBulkAll elems + uptoBulkAll spare + 1
  | .agg parts => uptoBulkAll parts + 1
  | .iface _ d => uptoBulk d + 1
  | .map entries => uptoBulkEntries entries + 1
  | .held _ => 1
def uptoBulkAll {H : Type} : List (DataW H) → Nat
  | [] => 0
  | d :: r => uptoBulk d + uptoBulkAll r
def uptoBulkEntries {H : Type} : List (Lit × DataW H) → Nat
  | [] => 0
  | x :: r => uptoBulkEntry x + uptoBulkEntries r
def uptoBulkEntry {H : Type} : Lit × DataW H → Nat
  | (.string bytes, d) => bytes.length + uptoBulk d + 1
  | (_, d) => uptoBulk d + 1
 end
def uptoSmall : (H : Type) → List (DataW H) → Bool := fun _ ds => decide (uptoBulkAll ds ≤ 1048576)
def OpenSpec.upto (s : _root_.Go.ChangeSpec) : _root_.Go.OpenSpec := { _root_.Go.OpenSpec.ofChange s with cond := some uptoSmall }

/-- 'swarflaw52.MaterialSwept', WHERE WHAT IT READS IS OF BULK AT MOST 1048576: true; the input reads as it did. -/
def materialSweptUptoRow : OpenClaim := { program := "ytnhfplmgkhdmlaagreat", sum := "85fbfa4ff2d389e8d6688ea21690e4731d024d7c1f0a81b53ca85e2a9c65d576", func := "swarf/swarflaw52.MaterialSwept", spec := "materialSwept", apart := false, narrowed := true }
def MaterialSweptUptoSaid : Prop := materialSweptUptoRow.holds Tryz.pinned (OpenSpec.upto materialSweptSpec)

/-- 'swarflaw52.MaterialDominated', WHERE WHAT IT READS IS OF BULK AT MOST 1048576: true; the input reads as it did. -/
def materialDominatedUptoRow : OpenClaim := { program := "ytnhfplmgkhdmlaagreat", sum := "85fbfa4ff2d389e8d6688ea21690e4731d024d7c1f0a81b53ca85e2a9c65d576", func := "swarf/swarflaw52.MaterialDominated", spec := "materialDominated", apart := false, narrowed := true }
def MaterialDominatedUptoSaid : Prop := materialDominatedUptoRow.holds Tryz.pinned (OpenSpec.upto materialDominatedSpec)

/-- 'swarflaw52.MaterialHeight', WHERE WHAT IT READS IS OF BULK AT MOST 1048576: true; the input reads as it did. -/
def materialHeightUptoRow : OpenClaim := { program := "ytnhfplmgkhdmlaagreat", sum := "85fbfa4ff2d389e8d6688ea21690e4731d024d7c1f0a81b53ca85e2a9c65d576", func := "swarf/swarflaw52.MaterialHeight", spec := "materialHeight", unfollowed := true, recurses := true, apart := false, narrowed := true }
def MaterialHeightUptoSaid : Prop := materialHeightUptoRow.holds Tryz.pinned (OpenSpec.upto materialHeightSpec)

/-- 'swarflaw52.MaterialDivided', WHERE WHAT IT READS IS OF BULK AT MOST 1048576: true; the input reads as it did. -/
def materialDividedUptoRow : OpenClaim := { program := "ytnhfplmgkhdmlaagreat", sum := "85fbfa4ff2d389e8d6688ea21690e4731d024d7c1f0a81b53ca85e2a9c65d576", func := "swarf/swarflaw52.MaterialDivided", spec := "materialDivided", unfollowed := true, recurses := true, apart := false, narrowed := true }
def MaterialDividedUptoSaid : Prop := materialDividedUptoRow.holds Tryz.pinned (OpenSpec.upto materialDividedSpec)

/-- 'swarflaw52.MaterialRemoved', WHERE WHAT IT READS IS OF BULK AT MOST 1048576: true; the input reads as it did. -/
def materialRemovedUptoRow : OpenClaim := { program := "ytnhfplmgkhdmlaagreat", sum := "85fbfa4ff2d389e8d6688ea21690e4731d024d7c1f0a81b53ca85e2a9c65d576", func := "swarf/swarflaw52.MaterialRemoved", spec := "materialRemoved", unfollowed := true, recurses := true, apart := false, narrowed := true }
def MaterialRemovedUptoSaid : Prop := materialRemovedUptoRow.holds Tryz.pinned (OpenSpec.upto materialRemovedSpec)

/-- 'swarflaw52.MaterialReduce', WHERE WHAT IT READS IS OF BULK AT MOST 1048576: true; the input reads as it did. -/
def materialReduceUptoRow : OpenClaim := { program := "ytnhfplmgkhdmlaagreat", sum := "85fbfa4ff2d389e8d6688ea21690e4731d024d7c1f0a81b53ca85e2a9c65d576", func := "swarf/swarflaw52.MaterialReduce", spec := "materialReduce", unfollowed := true, recurses := true, apart := false, narrowed := true }
def MaterialReduceUptoSaid : Prop := materialReduceUptoRow.holds Tryz.pinned (OpenSpec.upto materialReduceSpec)

/-- 'swarflaw52.MaterialOrder', WHERE WHAT IT READS IS OF BULK AT MOST 1048576: true; the input reads as it did. -/
def materialOrderUptoRow : OpenClaim := { program := "ytnhfplmgkhdmlaagreat", sum := "85fbfa4ff2d389e8d6688ea21690e4731d024d7c1f0a81b53ca85e2a9c65d576", func := "swarf/swarflaw52.MaterialOrder", spec := "materialOrder", unfollowed := true, recurses := true, apart := false, narrowed := true }
def MaterialOrderUptoSaid : Prop := materialOrderUptoRow.holds Tryz.pinned (OpenSpec.upto materialOrderSpec)

end Rows
end Go.Proofs.YtnhfplmgkhdmlaaGreat
