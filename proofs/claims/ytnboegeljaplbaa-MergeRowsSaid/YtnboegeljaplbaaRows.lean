/-
  No cell of these rows narrows 'for every input' (looked for: loops, veiled, ifaces, maps, wideKeys, modest, calm, conditions, laid).
  DERIVED. THE GIVEN ROWS OF THIS SEAT. 7 by the template 'for every input the law returns true; each argument reads behind the call as it read before'; 0 by the template 'total and deterministic' (their statements: YtnboegeljaplbaaTotals.lean).
  GIVEN WITH THE SEED: the statements are not yours to turn. If you find one false, say at which input.
  Laid BY PROGRAM, IN A SANDBOX (cutbox-rows.mjs): the forced cells as the released guide's own fill.sh prints them over the translation 5d0015f1ebcb57f5… (all of the seat's roots in one cut). By AI agents, Wed Nov 11 2026. No macro, syntax, notation, axiom, sorry.
-/
import Derived.Test.YtnboegeljaplbaaChecked
import GoSem.Claim
import GoSem.ClaimJoined
import GoSem.ClaimMapViews
import Derived.JoinedTies
import Derived.KernelRfl
namespace Go.Proofs.Ytnboegeljaplbaa
/- THE CELL 'sum', in the pinned program and in every row, IS THE sha256 OF THE DUMP (.gsa) THAT YtnboegeljaplbaaProg.lean LOADS. Nothing in Lean hashes anything: it is a label: what it is worth is what the hold of that sum in a sandbox is worth. -/
noncomputable def Try.pinned : Pinned := { name := "ytnboegeljaplbaa", sum := "5d0015f1ebcb57f54db77aa568f1cd28e63e2e65f2c3a6debb7de839d69d7bed", checked := Try.checked }
namespace Rows
def none {H : Type} : Left H := { results := [], args := [] }

/-- 'levellinglaw10.AbsorbNear': WHATEVER THE INPUT: true; the input reads as it did. -/
def absorbNearSpec : ChangeSpec := { name := "absorbNear", fn := fun _ => fun
  | [d1, d2] => { results := [.lit (.bool true)], args := [d1, d2] }
  | _ => none }
def absorbNearRow : OpenClaim := { program := "ytnboegeljaplbaa", sum := "5d0015f1ebcb57f54db77aa568f1cd28e63e2e65f2c3a6debb7de839d69d7bed", func := "levelling/levellinglaw10.AbsorbNear", spec := "absorbNear", inPlace := ["math.Float64bits", "math.Float64frombits", "math.sqrt"], unfollowed := true, recurses := true, apart := false }
def AbsorbNearSaid : Prop := absorbNearRow.holds Try.pinned (OpenSpec.ofChange absorbNearSpec)

/-- ITS FALSE NEIGHBOUR: 'it returns false'. Refute it at one input. -/
def absorbNearWrong : ChangeSpec := { name := "absorbNear", fn := fun _ => fun
  | [d1, d2] => { results := [.lit (.bool false)], args := [d1, d2] }
  | _ => none }
def AbsorbNearWrongFalsely : Prop := absorbNearRow.holds Try.pinned (OpenSpec.ofChange absorbNearWrong)

/-- 'levellinglaw13.MergeNear': WHATEVER THE INPUT: true; the input reads as it did. -/
def mergeNearSpec : ChangeSpec := { name := "mergeNear", fn := fun _ => fun
  | [d1, d2] => { results := [.lit (.bool true)], args := [d1, d2] }
  | _ => none }
def mergeNearRow : OpenClaim := { program := "ytnboegeljaplbaa", sum := "5d0015f1ebcb57f54db77aa568f1cd28e63e2e65f2c3a6debb7de839d69d7bed", func := "levelling/levellinglaw13.MergeNear", spec := "mergeNear", inPlace := ["math.Float64bits", "math.Float64frombits", "math.sqrt"], unfollowed := true, recurses := true, apart := false }
def MergeNearSaid : Prop := mergeNearRow.holds Try.pinned (OpenSpec.ofChange mergeNearSpec)

/-- ITS FALSE NEIGHBOUR: 'it returns false'. Refute it at one input. -/
def mergeNearWrong : ChangeSpec := { name := "mergeNear", fn := fun _ => fun
  | [d1, d2] => { results := [.lit (.bool false)], args := [d1, d2] }
  | _ => none }
def MergeNearWrongFalsely : Prop := mergeNearRow.holds Try.pinned (OpenSpec.ofChange mergeNearWrong)

/-- 'levellinglaw13.MergeOrder': WHATEVER THE INPUT: true; the input reads as it did. -/
def mergeOrderSpec : ChangeSpec := { name := "mergeOrder", fn := fun _ => fun
  | [d1, d2] => { results := [.lit (.bool true)], args := [d1, d2] }
  | _ => none }
def mergeOrderRow : OpenClaim := { program := "ytnboegeljaplbaa", sum := "5d0015f1ebcb57f54db77aa568f1cd28e63e2e65f2c3a6debb7de839d69d7bed", func := "levelling/levellinglaw13.MergeOrder", spec := "mergeOrder", inPlace := ["math.Float64bits", "math.Float64frombits", "math.sqrt"], unfollowed := true, recurses := true, apart := false }
def MergeOrderSaid : Prop := mergeOrderRow.holds Try.pinned (OpenSpec.ofChange mergeOrderSpec)

/-- ITS FALSE NEIGHBOUR: 'it returns false'. Refute it at one input. -/
def mergeOrderWrong : ChangeSpec := { name := "mergeOrder", fn := fun _ => fun
  | [d1, d2] => { results := [.lit (.bool false)], args := [d1, d2] }
  | _ => none }
def MergeOrderWrongFalsely : Prop := mergeOrderRow.holds Try.pinned (OpenSpec.ofChange mergeOrderWrong)

/-- 'levellinglaw13.MergeRows': WHATEVER THE INPUT: true; the input reads as it did. -/
def mergeRowsSpec : ChangeSpec := { name := "mergeRows", fn := fun _ => fun
  | [d1, d2, d3] => { results := [.lit (.bool true)], args := [d1, d2, d3] }
  | _ => none }
def mergeRowsRow : OpenClaim := { program := "ytnboegeljaplbaa", sum := "5d0015f1ebcb57f54db77aa568f1cd28e63e2e65f2c3a6debb7de839d69d7bed", func := "levelling/levellinglaw13.MergeRows", spec := "mergeRows", inPlace := ["math.Float64bits", "math.Float64frombits", "math.sqrt"], unfollowed := true, recurses := true, apart := false }
def MergeRowsSaid : Prop := mergeRowsRow.holds Try.pinned (OpenSpec.ofChange mergeRowsSpec)

/-- ITS FALSE NEIGHBOUR: 'it returns false'. Refute it at one input. -/
def mergeRowsWrong : ChangeSpec := { name := "mergeRows", fn := fun _ => fun
  | [d1, d2, d3] => { results := [.lit (.bool false)], args := [d1, d2, d3] }
  | _ => none }
def MergeRowsWrongFalsely : Prop := mergeRowsRow.holds Try.pinned (OpenSpec.ofChange mergeRowsWrong)

/-- 'levellinglaw16.SolveNear': WHATEVER THE INPUT: true; the input reads as it did. -/
def solveNearSpec : ChangeSpec := { name := "solveNear", fn := fun _ => fun
  | [d] => { results := [.lit (.bool true)], args := [d] }
  | _ => none }
def solveNearRow : OpenClaim := { program := "ytnboegeljaplbaa", sum := "5d0015f1ebcb57f54db77aa568f1cd28e63e2e65f2c3a6debb7de839d69d7bed", func := "levelling/levellinglaw16.SolveNear", spec := "solveNear", inPlace := ["math.Float64bits", "math.Float64frombits", "math.sqrt"], unfollowed := true, recurses := true, apart := false }
def SolveNearSaid : Prop := solveNearRow.holds Try.pinned (OpenSpec.ofChange solveNearSpec)

/-- ITS FALSE NEIGHBOUR: 'it returns false'. Refute it at one input. -/
def solveNearWrong : ChangeSpec := { name := "solveNear", fn := fun _ => fun
  | [d] => { results := [.lit (.bool false)], args := [d] }
  | _ => none }
def SolveNearWrongFalsely : Prop := solveNearRow.holds Try.pinned (OpenSpec.ofChange solveNearWrong)

/-- 'levellinglaw16.SolveNearForward': WHATEVER THE INPUT: true; the input reads as it did. -/
def solveNearForwardSpec : ChangeSpec := { name := "solveNearForward", fn := fun _ => fun
  | [d1, d2] => { results := [.lit (.bool true)], args := [d1, d2] }
  | _ => none }
def solveNearForwardRow : OpenClaim := { program := "ytnboegeljaplbaa", sum := "5d0015f1ebcb57f54db77aa568f1cd28e63e2e65f2c3a6debb7de839d69d7bed", func := "levelling/levellinglaw16.SolveNearForward", spec := "solveNearForward", inPlace := ["math.Float64bits", "math.Float64frombits", "math.sqrt"], unfollowed := true, recurses := true, apart := false }
def SolveNearForwardSaid : Prop := solveNearForwardRow.holds Try.pinned (OpenSpec.ofChange solveNearForwardSpec)

/-- ITS FALSE NEIGHBOUR: 'it returns false'. Refute it at one input. -/
def solveNearForwardWrong : ChangeSpec := { name := "solveNearForward", fn := fun _ => fun
  | [d1, d2] => { results := [.lit (.bool false)], args := [d1, d2] }
  | _ => none }
def SolveNearForwardWrongFalsely : Prop := solveNearForwardRow.holds Try.pinned (OpenSpec.ofChange solveNearForwardWrong)

/-- 'levellinglaw16.SolveNormal': WHATEVER THE INPUT: true; the input reads as it did. -/
def solveNormalSpec : ChangeSpec := { name := "solveNormal", fn := fun _ => fun
  | [d] => { results := [.lit (.bool true)], args := [d] }
  | _ => none }
def solveNormalRow : OpenClaim := { program := "ytnboegeljaplbaa", sum := "5d0015f1ebcb57f54db77aa568f1cd28e63e2e65f2c3a6debb7de839d69d7bed", func := "levelling/levellinglaw16.SolveNormal", spec := "solveNormal", inPlace := ["math.Float64bits", "math.Float64frombits", "math.sqrt"], unfollowed := true, recurses := true, apart := false }
def SolveNormalSaid : Prop := solveNormalRow.holds Try.pinned (OpenSpec.ofChange solveNormalSpec)

/-- ITS FALSE NEIGHBOUR: 'it returns false'. Refute it at one input. -/
def solveNormalWrong : ChangeSpec := { name := "solveNormal", fn := fun _ => fun
  | [d] => { results := [.lit (.bool false)], args := [d] }
  | _ => none }
def SolveNormalWrongFalsely : Prop := solveNormalRow.holds Try.pinned (OpenSpec.ofChange solveNormalWrong)

/- THE SECOND FORM. 'bulk': how many values and letters a reading holds, each counted each time it is reached (what is shared counts as often as it is met; a slice's spare places count too). A statement '..UptoSaid' is the law's where the arguments, and the package variables that the reading takes, are together of bulk at most 1048576: NARROWER than '..Said'. Prove '..Said' where nothing that the law and all that it calls make is longer than what came in: it says more and counts as full. Else prove '..UptoSaid'. A law counts once. -/
mutual
def uptoBulk {H : Type} : DataW H → Nat
  | .lit (.string bytes) => bytes.length + 1
  | .lit _ => 1
  | .nil => 1
  | .ptr d => uptoBulk d + 1
  | .slice elems spare => uptoBulkAll elems + uptoBulkAll spare + 1
  | .agg parts => uptoBulkAll parts + 1
  | .iface _ d => uptoBulk d + 1
  | .map entries => uptoBulkEntries entries + 1
  | .held _ => 1
def uptoBulkAll {H : Type} : List (DataW H) → Nat
  | [] => 0
  | d :: r => uptoBulk d + uptoBulkAll r
def uptoBulkEntries {H : Type} : List (Lit × DataW H) → Nat
  | [] => 0
  | x :: r => uptoBulkEntry x + uptoBulkEntries r
def uptoBulkEntry {H : Type} : Lit × DataW H → Nat
  | (.string bytes, d) => bytes.length + uptoBulk d + 1
  | (_, d) => uptoBulk d + 1
 end
def uptoSmall : (H : Type) → List (DataW H) → Bool := fun _ ds => decide (uptoBulkAll ds ≤ 1048576)
def OpenSpec.upto (s : _root_.Go.ChangeSpec) : _root_.Go.OpenSpec := { _root_.Go.OpenSpec.ofChange s with cond := some uptoSmall }

/-- 'levellinglaw10.AbsorbNear', WHERE WHAT IT READS IS OF BULK AT MOST 1048576: true; the input reads as it did. -/
def absorbNearUptoRow : OpenClaim := { program := "ytnboegeljaplbaa", sum := "5d0015f1ebcb57f54db77aa568f1cd28e63e2e65f2c3a6debb7de839d69d7bed", func := "levelling/levellinglaw10.AbsorbNear", spec := "absorbNear", inPlace := ["math.Float64bits", "math.Float64frombits", "math.sqrt"], unfollowed := true, recurses := true, apart := false, narrowed := true }
def AbsorbNearUptoSaid : Prop := absorbNearUptoRow.holds Try.pinned (OpenSpec.upto absorbNearSpec)

/-- 'levellinglaw13.MergeNear', WHERE WHAT IT READS IS OF BULK AT MOST 1048576: true; the input reads as it did. -/
def mergeNearUptoRow : OpenClaim := { program := "ytnboegeljaplbaa", sum := "5d0015f1ebcb57f54db77aa568f1cd28e63e2e65f2c3a6debb7de839d69d7bed", func := "levelling/levellinglaw13.MergeNear", spec := "mergeNear", inPlace := ["math.Float64bits", "math.Float64frombits", "math.sqrt"], unfollowed := true, recurses := true, apart := false, narrowed := true }
def MergeNearUptoSaid : Prop := mergeNearUptoRow.holds Try.pinned (OpenSpec.upto mergeNearSpec)

/-- 'levellinglaw13.MergeOrder', WHERE WHAT IT READS IS OF BULK AT MOST 1048576: true; the input reads as it did. -/
def mergeOrderUptoRow : OpenClaim := { program := "ytnboegeljaplbaa", sum := "5d0015f1ebcb57f54db77aa568f1cd28e63e2e65f2c3a6debb7de839d69d7bed", func := "levelling/levellinglaw13.MergeOrder", spec := "mergeOrder", inPlace := ["math.Float64bits", "math.Float64frombits", "math.sqrt"], unfollowed := true, recurses := true, apart := false, narrowed := true }
def MergeOrderUptoSaid : Prop := mergeOrderUptoRow.holds Try.pinned (OpenSpec.upto mergeOrderSpec)

/-- 'levellinglaw13.MergeRows', WHERE WHAT IT READS IS OF BULK AT MOST 1048576: true; the input reads as it did. -/
def mergeRowsUptoRow : OpenClaim := { program := "ytnboegeljaplbaa", sum := "5d0015f1ebcb57f54db77aa568f1cd28e63e2e65f2c3a6debb7de839d69d7bed", func := "levelling/levellinglaw13.MergeRows", spec := "mergeRows", inPlace := ["math.Float64bits", "math.Float64frombits", "math.sqrt"], unfollowed := true, recurses := true, apart := false, narrowed := true }
def MergeRowsUptoSaid : Prop := mergeRowsUptoRow.holds Try.pinned (OpenSpec.upto mergeRowsSpec)

/-- 'levellinglaw16.SolveNear', WHERE WHAT IT READS IS OF BULK AT MOST 1048576: true; the input reads as it did. -/
def solveNearUptoRow : OpenClaim := { program := "ytnboegeljaplbaa", sum := "5d0015f1ebcb57f54db77aa568f1cd28e63e2e65f2c3a6debb7de839d69d7bed", func := "levelling/levellinglaw16.SolveNear", spec := "solveNear", inPlace := ["math.Float64bits", "math.Float64frombits", "math.sqrt"], unfollowed := true, recurses := true, apart := false, narrowed := true }
def SolveNearUptoSaid : Prop := solveNearUptoRow.holds Try.pinned (OpenSpec.upto solveNearSpec)

/-- 'levellinglaw16.SolveNearForward', WHERE WHAT IT READS IS OF BULK AT MOST 1048576: true; the input reads as it did. -/
def solveNearForwardUptoRow : OpenClaim := { program := "ytnboegeljaplbaa", sum := "5d0015f1ebcb57f54db77aa568f1cd28e63e2e65f2c3a6debb7de839d69d7bed", func := "levelling/levellinglaw16.SolveNearForward", spec := "solveNearForward", inPlace := ["math.Float64bits", "math.Float64frombits", "math.sqrt"], unfollowed := true, recurses := true, apart := false, narrowed := true }
def SolveNearForwardUptoSaid : Prop := solveNearForwardUptoRow.holds Try.pinned (OpenSpec.upto solveNearForwardSpec)

/-- 'levellinglaw16.SolveNormal', WHERE WHAT IT READS IS OF BULK AT MOST 1048576: true; the input reads as it did. -/
def solveNormalUptoRow : OpenClaim := { program := "ytnboegeljaplbaa", sum := "5d0015f1ebcb57f54db77aa568f1cd28e63e2e65f2c3a6debb7de839d69d7bed", func := "levelling/levellinglaw16.SolveNormal", spec := "solveNormal", inPlace := ["math.Float64bits", "math.Float64frombits", "math.sqrt"], unfollowed := true, recurses := true, apart := false, narrowed := true }
def SolveNormalUptoSaid : Prop := solveNormalUptoRow.holds Try.pinned (OpenSpec.upto solveNormalSpec)

end Rows
end Go.Proofs.Ytnboegeljaplbaa
