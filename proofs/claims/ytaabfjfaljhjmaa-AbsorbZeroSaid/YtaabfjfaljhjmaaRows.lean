/-
  No cell of these rows narrows 'for every input' (looked for: loops, veiled, ifaces, maps, wideKeys, modest, calm, conditions, laid).
  DERIVED. THE GIVEN ROWS OF THIS SEAT. 10 by the template 'for every input the law returns true; each argument reads behind the call as it read before'; 0 by the template 'total and deterministic' (their statements: YtaabfjfaljhjmaaTotals.lean).
  GIVEN WITH THE SEED: the statements are not yours to turn. If you find one false, say at which input.
  Laid BY PROGRAM, IN A SANDBOX (cutbox-rows.mjs): the forced cells as the released guide's own fill.sh prints them over the translation fa8aec69c50f6510… (all of the seat's roots in one cut). By AI agents, Wed Nov 11 2026. No macro, syntax, notation, axiom, sorry.
-/
import Derived.Test.YtaabfjfaljhjmaaChecked
import GoSem.Claim
import GoSem.ClaimJoined
import GoSem.ClaimMapViews
import Derived.JoinedTies
import Derived.KernelRfl
namespace Go.Proofs.Ytaabfjfaljhjmaa
/- THE CELL 'sum', in the pinned program and in every row, IS THE sha256 OF THE DUMP (.gsa) THAT YtaabfjfaljhjmaaProg.lean LOADS. Nothing in Lean hashes anything: it is a label: what it is worth is what the hold of that sum in a sandbox is worth. -/
noncomputable def Try.pinned : Pinned := { name := "ytaabfjfaljhjmaa", sum := "fa8aec69c50f6510d3ad38e6ca82659d3733b2ade74d13889cc705c7dbaa3668", checked := Try.checked }
namespace Rows
def none {H : Type} : Left H := { results := [], args := [] }

/-- 'levellinglaw13.MergeTells': WHATEVER THE INPUT: true; the input reads as it did. -/
def mergeTellsSpec : ChangeSpec := { name := "mergeTells", fn := fun _ => fun
  | [d1, d2, d3] => { results := [.lit (.bool true)], args := [d1, d2, d3] }
  | _ => none }
def mergeTellsRow : OpenClaim := { program := "ytaabfjfaljhjmaa", sum := "fa8aec69c50f6510d3ad38e6ca82659d3733b2ade74d13889cc705c7dbaa3668", func := "levelling/levellinglaw13.MergeTells", spec := "mergeTells", inPlace := ["math.Float64bits", "math.Float64frombits", "math.sqrt"], unfollowed := true, recurses := true, apart := false }
def MergeTellsSaid : Prop := mergeTellsRow.holds Try.pinned (OpenSpec.ofChange mergeTellsSpec)

/-- ITS FALSE NEIGHBOUR: 'it returns false'. Refute it at one input. -/
def mergeTellsWrong : ChangeSpec := { name := "mergeTells", fn := fun _ => fun
  | [d1, d2, d3] => { results := [.lit (.bool false)], args := [d1, d2, d3] }
  | _ => none }
def MergeTellsWrongFalsely : Prop := mergeTellsRow.holds Try.pinned (OpenSpec.ofChange mergeTellsWrong)

/-- 'levellinglaw13.MergeAll': WHATEVER THE INPUT: true; the input reads as it did. -/
def mergeAllSpec : ChangeSpec := { name := "mergeAll", fn := fun _ => fun
  | [d] => { results := [.lit (.bool true)], args := [d] }
  | _ => none }
def mergeAllRow : OpenClaim := { program := "ytaabfjfaljhjmaa", sum := "fa8aec69c50f6510d3ad38e6ca82659d3733b2ade74d13889cc705c7dbaa3668", func := "levelling/levellinglaw13.MergeAll", spec := "mergeAll", inPlace := ["math.Float64bits", "math.Float64frombits", "math.sqrt"], unfollowed := true, recurses := true, apart := false }
def MergeAllSaid : Prop := mergeAllRow.holds Try.pinned (OpenSpec.ofChange mergeAllSpec)

/-- ITS FALSE NEIGHBOUR: 'it returns false'. Refute it at one input. -/
def mergeAllWrong : ChangeSpec := { name := "mergeAll", fn := fun _ => fun
  | [d] => { results := [.lit (.bool false)], args := [d] }
  | _ => none }
def MergeAllWrongFalsely : Prop := mergeAllRow.holds Try.pinned (OpenSpec.ofChange mergeAllWrong)

/-- 'levellinglaw13.MergeMay': WHATEVER THE INPUT: true; the input reads as it did. -/
def mergeMaySpec : ChangeSpec := { name := "mergeMay", fn := fun _ => fun
  | [d1, d2] => { results := [.lit (.bool true)], args := [d1, d2] }
  | _ => none }
def mergeMayRow : OpenClaim := { program := "ytaabfjfaljhjmaa", sum := "fa8aec69c50f6510d3ad38e6ca82659d3733b2ade74d13889cc705c7dbaa3668", func := "levelling/levellinglaw13.MergeMay", spec := "mergeMay", inPlace := ["math.Float64bits", "math.Float64frombits", "math.sqrt"], unfollowed := true, recurses := true, apart := false }
def MergeMaySaid : Prop := mergeMayRow.holds Try.pinned (OpenSpec.ofChange mergeMaySpec)

/-- ITS FALSE NEIGHBOUR: 'it returns false'. Refute it at one input. -/
def mergeMayWrong : ChangeSpec := { name := "mergeMay", fn := fun _ => fun
  | [d1, d2] => { results := [.lit (.bool false)], args := [d1, d2] }
  | _ => none }
def MergeMayWrongFalsely : Prop := mergeMayRow.holds Try.pinned (OpenSpec.ofChange mergeMayWrong)

/-- 'levellinglaw13.MergeNew': WHATEVER THE INPUT: true; the input reads as it did. -/
def mergeNewSpec : ChangeSpec := { name := "mergeNew", fn := fun _ => fun
  | [d] => { results := [.lit (.bool true)], args := [d] }
  | _ => none }
def mergeNewRow : OpenClaim := { program := "ytaabfjfaljhjmaa", sum := "fa8aec69c50f6510d3ad38e6ca82659d3733b2ade74d13889cc705c7dbaa3668", func := "levelling/levellinglaw13.MergeNew", spec := "mergeNew", inPlace := ["math.Float64bits", "math.Float64frombits", "math.sqrt"], unfollowed := true, recurses := true, apart := false }
def MergeNewSaid : Prop := mergeNewRow.holds Try.pinned (OpenSpec.ofChange mergeNewSpec)

/-- ITS FALSE NEIGHBOUR: 'it returns false'. Refute it at one input. -/
def mergeNewWrong : ChangeSpec := { name := "mergeNew", fn := fun _ => fun
  | [d] => { results := [.lit (.bool false)], args := [d] }
  | _ => none }
def MergeNewWrongFalsely : Prop := mergeNewRow.holds Try.pinned (OpenSpec.ofChange mergeNewWrong)

/-- 'levellinglaw10.AbsorbLines': WHATEVER THE INPUT: true; the input reads as it did. -/
def absorbLinesSpec : ChangeSpec := { name := "absorbLines", fn := fun _ => fun
  | [d1, d2, d3] => { results := [.lit (.bool true)], args := [d1, d2, d3] }
  | _ => none }
def absorbLinesRow : OpenClaim := { program := "ytaabfjfaljhjmaa", sum := "fa8aec69c50f6510d3ad38e6ca82659d3733b2ade74d13889cc705c7dbaa3668", func := "levelling/levellinglaw10.AbsorbLines", spec := "absorbLines", inPlace := ["math.Float64bits", "math.Float64frombits", "math.sqrt"], unfollowed := true, recurses := true, apart := false }
def AbsorbLinesSaid : Prop := absorbLinesRow.holds Try.pinned (OpenSpec.ofChange absorbLinesSpec)

/-- ITS FALSE NEIGHBOUR: 'it returns false'. Refute it at one input. -/
def absorbLinesWrong : ChangeSpec := { name := "absorbLines", fn := fun _ => fun
  | [d1, d2, d3] => { results := [.lit (.bool false)], args := [d1, d2, d3] }
  | _ => none }
def AbsorbLinesWrongFalsely : Prop := absorbLinesRow.holds Try.pinned (OpenSpec.ofChange absorbLinesWrong)

/-- 'levellinglaw10.AbsorbTells': WHATEVER THE INPUT: true; the input reads as it did. -/
def absorbTellsSpec : ChangeSpec := { name := "absorbTells", fn := fun _ => fun
  | [d1, d2, d3] => { results := [.lit (.bool true)], args := [d1, d2, d3] }
  | _ => none }
def absorbTellsRow : OpenClaim := { program := "ytaabfjfaljhjmaa", sum := "fa8aec69c50f6510d3ad38e6ca82659d3733b2ade74d13889cc705c7dbaa3668", func := "levelling/levellinglaw10.AbsorbTells", spec := "absorbTells", inPlace := ["math.Float64bits", "math.Float64frombits", "math.sqrt"], unfollowed := true, recurses := true, apart := false }
def AbsorbTellsSaid : Prop := absorbTellsRow.holds Try.pinned (OpenSpec.ofChange absorbTellsSpec)

/-- ITS FALSE NEIGHBOUR: 'it returns false'. Refute it at one input. -/
def absorbTellsWrong : ChangeSpec := { name := "absorbTells", fn := fun _ => fun
  | [d1, d2, d3] => { results := [.lit (.bool false)], args := [d1, d2, d3] }
  | _ => none }
def AbsorbTellsWrongFalsely : Prop := absorbTellsRow.holds Try.pinned (OpenSpec.ofChange absorbTellsWrong)

/-- 'levellinglaw10.AbsorbAll': WHATEVER THE INPUT: true; the input reads as it did. -/
def absorbAllSpec : ChangeSpec := { name := "absorbAll", fn := fun _ => fun
  | [d1, d2, d3] => { results := [.lit (.bool true)], args := [d1, d2, d3] }
  | _ => none }
def absorbAllRow : OpenClaim := { program := "ytaabfjfaljhjmaa", sum := "fa8aec69c50f6510d3ad38e6ca82659d3733b2ade74d13889cc705c7dbaa3668", func := "levelling/levellinglaw10.AbsorbAll", spec := "absorbAll", inPlace := ["math.Float64bits", "math.Float64frombits", "math.sqrt"], unfollowed := true, recurses := true, apart := false }
def AbsorbAllSaid : Prop := absorbAllRow.holds Try.pinned (OpenSpec.ofChange absorbAllSpec)

/-- ITS FALSE NEIGHBOUR: 'it returns false'. Refute it at one input. -/
def absorbAllWrong : ChangeSpec := { name := "absorbAll", fn := fun _ => fun
  | [d1, d2, d3] => { results := [.lit (.bool false)], args := [d1, d2, d3] }
  | _ => none }
def AbsorbAllWrongFalsely : Prop := absorbAllRow.holds Try.pinned (OpenSpec.ofChange absorbAllWrong)

/-- 'levellinglaw10.AbsorbMay': WHATEVER THE INPUT: true; the input reads as it did. -/
def absorbMaySpec : ChangeSpec := { name := "absorbMay", fn := fun _ => fun
  | [d1, d2] => { results := [.lit (.bool true)], args := [d1, d2] }
  | _ => none }
def absorbMayRow : OpenClaim := { program := "ytaabfjfaljhjmaa", sum := "fa8aec69c50f6510d3ad38e6ca82659d3733b2ade74d13889cc705c7dbaa3668", func := "levelling/levellinglaw10.AbsorbMay", spec := "absorbMay", inPlace := ["math.Float64bits", "math.Float64frombits", "math.sqrt"], unfollowed := true, recurses := true, apart := false }
def AbsorbMaySaid : Prop := absorbMayRow.holds Try.pinned (OpenSpec.ofChange absorbMaySpec)

/-- ITS FALSE NEIGHBOUR: 'it returns false'. Refute it at one input. -/
def absorbMayWrong : ChangeSpec := { name := "absorbMay", fn := fun _ => fun
  | [d1, d2] => { results := [.lit (.bool false)], args := [d1, d2] }
  | _ => none }
def AbsorbMayWrongFalsely : Prop := absorbMayRow.holds Try.pinned (OpenSpec.ofChange absorbMayWrong)

/-- 'levellinglaw10.AbsorbZero': WHATEVER THE INPUT: true; the input reads as it did. -/
def absorbZeroSpec : ChangeSpec := { name := "absorbZero", fn := fun _ => fun
  | [d] => { results := [.lit (.bool true)], args := [d] }
  | _ => none }
def absorbZeroRow : OpenClaim := { program := "ytaabfjfaljhjmaa", sum := "fa8aec69c50f6510d3ad38e6ca82659d3733b2ade74d13889cc705c7dbaa3668", func := "levelling/levellinglaw10.AbsorbZero", spec := "absorbZero", inPlace := ["math.Float64bits", "math.Float64frombits", "math.sqrt"], unfollowed := true, recurses := true, apart := false }
def AbsorbZeroSaid : Prop := absorbZeroRow.holds Try.pinned (OpenSpec.ofChange absorbZeroSpec)

/-- ITS FALSE NEIGHBOUR: 'it returns false'. Refute it at one input. -/
def absorbZeroWrong : ChangeSpec := { name := "absorbZero", fn := fun _ => fun
  | [d] => { results := [.lit (.bool false)], args := [d] }
  | _ => none }
def AbsorbZeroWrongFalsely : Prop := absorbZeroRow.holds Try.pinned (OpenSpec.ofChange absorbZeroWrong)

/-- 'levellinglaw10.AbsorbFirst': WHATEVER THE INPUT: true; the input reads as it did. -/
def absorbFirstSpec : ChangeSpec := { name := "absorbFirst", fn := fun _ => fun
  | [d] => { results := [.lit (.bool true)], args := [d] }
  | _ => none }
def absorbFirstRow : OpenClaim := { program := "ytaabfjfaljhjmaa", sum := "fa8aec69c50f6510d3ad38e6ca82659d3733b2ade74d13889cc705c7dbaa3668", func := "levelling/levellinglaw10.AbsorbFirst", spec := "absorbFirst", inPlace := ["math.Float64bits", "math.Float64frombits", "math.sqrt"], unfollowed := true, recurses := true, apart := false }
def AbsorbFirstSaid : Prop := absorbFirstRow.holds Try.pinned (OpenSpec.ofChange absorbFirstSpec)

/-- ITS FALSE NEIGHBOUR: 'it returns false'. Refute it at one input. -/
def absorbFirstWrong : ChangeSpec := { name := "absorbFirst", fn := fun _ => fun
  | [d] => { results := [.lit (.bool false)], args := [d] }
  | _ => none }
def AbsorbFirstWrongFalsely : Prop := absorbFirstRow.holds Try.pinned (OpenSpec.ofChange absorbFirstWrong)

/- THE SECOND FORM. 'bulk': how many values and letters a reading holds, each counted each time it is reached (what is shared counts as often as it is met; a slice's spare places count too). A statement '..UptoSaid' is the law's where the arguments, and the package variables that the reading takes, are together of bulk at most 1048576: NARROWER than '..Said'. Prove '..Said' where nothing that the law and all that it calls make is longer than what came in: it says more and counts as full. Else prove '..UptoSaid'. A law counts once. -/
mutual
def uptoBulk {H : Type} : DataW H → Nat
  | .lit (.string bytes) => bytes.length + 1
  | .lit _ => 1
  | .nil => 1
  | .ptr d => uptoBulk d + 1
  | .slice elems spare => uptoBulkAll elems + uptoBulkAll spare + 1
  | .agg parts => uptoBulkAll parts + 1
  | .iface _ d => uptoBulk d + 1
  | .map entries => uptoBulkEntries entries + 1
  | .held _ => 1
def uptoBulkAll {H : Type} : List (DataW H) → Nat
  | [] => 0
  | d :: r => uptoBulk d + uptoBulkAll r
def uptoBulkEntries {H : Type} : List (Lit × DataW H) → Nat
  | [] => 0
  | x :: r => uptoBulkEntry x + uptoBulkEntries r
def uptoBulkEntry {H : Type} : Lit × DataW H → Nat
  | (.string bytes, d) => bytes.length + uptoBulk d + 1
  | (_, d) => uptoBulk d + 1
 end
def uptoSmall : (H : Type) → List (DataW H) → Bool := fun _ ds => decide (uptoBulkAll ds ≤ 1048576)
def OpenSpec.upto (s : _root_.Go.ChangeSpec) : _root_.Go.OpenSpec := { _root_.Go.OpenSpec.ofChange s with cond := some uptoSmall }

/-- 'levellinglaw13.MergeTells', WHERE WHAT IT READS IS OF BULK AT MOST 1048576: true; the input reads as it did. -/
def mergeTellsUptoRow : OpenClaim := { program := "ytaabfjfaljhjmaa", sum := "fa8aec69c50f6510d3ad38e6ca82659d3733b2ade74d13889cc705c7dbaa3668", func := "levelling/levellinglaw13.MergeTells", spec := "mergeTells", inPlace := ["math.Float64bits", "math.Float64frombits", "math.sqrt"], unfollowed := true, recurses := true, apart := false, narrowed := true }
def MergeTellsUptoSaid : Prop := mergeTellsUptoRow.holds Try.pinned (OpenSpec.upto mergeTellsSpec)

/-- 'levellinglaw13.MergeAll', WHERE WHAT IT READS IS OF BULK AT MOST 1048576: true; the input reads as it did. -/
def mergeAllUptoRow : OpenClaim := { program := "ytaabfjfaljhjmaa", sum := "fa8aec69c50f6510d3ad38e6ca82659d3733b2ade74d13889cc705c7dbaa3668", func := "levelling/levellinglaw13.MergeAll", spec := "mergeAll", inPlace := ["math.Float64bits", "math.Float64frombits", "math.sqrt"], unfollowed := true, recurses := true, apart := false, narrowed := true }
def MergeAllUptoSaid : Prop := mergeAllUptoRow.holds Try.pinned (OpenSpec.upto mergeAllSpec)

/-- 'levellinglaw13.MergeMay', WHERE WHAT IT READS IS OF BULK AT MOST 1048576: true; the input reads as it did. -/
def mergeMayUptoRow : OpenClaim := { program := "ytaabfjfaljhjmaa", sum := "fa8aec69c50f6510d3ad38e6ca82659d3733b2ade74d13889cc705c7dbaa3668", func := "levelling/levellinglaw13.MergeMay", spec := "mergeMay", inPlace := ["math.Float64bits", "math.Float64frombits", "math.sqrt"], unfollowed := true, recurses := true, apart := false, narrowed := true }
def MergeMayUptoSaid : Prop := mergeMayUptoRow.holds Try.pinned (OpenSpec.upto mergeMaySpec)

/-- 'levellinglaw13.MergeNew', WHERE WHAT IT READS IS OF BULK AT MOST 1048576: true; the input reads as it did. -/
def mergeNewUptoRow : OpenClaim := { program := "ytaabfjfaljhjmaa", sum := "fa8aec69c50f6510d3ad38e6ca82659d3733b2ade74d13889cc705c7dbaa3668", func := "levelling/levellinglaw13.MergeNew", spec := "mergeNew", inPlace := ["math.Float64bits", "math.Float64frombits", "math.sqrt"], unfollowed := true, recurses := true, apart := false, narrowed := true }
def MergeNewUptoSaid : Prop := mergeNewUptoRow.holds Try.pinned (OpenSpec.upto mergeNewSpec)

/-- 'levellinglaw10.AbsorbLines', WHERE WHAT IT READS IS OF BULK AT MOST 1048576: true; the input reads as it did. -/
def absorbLinesUptoRow : OpenClaim := { program := "ytaabfjfaljhjmaa", sum := "fa8aec69c50f6510d3ad38e6ca82659d3733b2ade74d13889cc705c7dbaa3668", func := "levelling/levellinglaw10.AbsorbLines", spec := "absorbLines", inPlace := ["math.Float64bits", "math.Float64frombits", "math.sqrt"], unfollowed := true, recurses := true, apart := false, narrowed := true }
def AbsorbLinesUptoSaid : Prop := absorbLinesUptoRow.holds Try.pinned (OpenSpec.upto absorbLinesSpec)

/-- 'levellinglaw10.AbsorbTells', WHERE WHAT IT READS IS OF BULK AT MOST 1048576: true; the input reads as it did. -/
def absorbTellsUptoRow : OpenClaim := { program := "ytaabfjfaljhjmaa", sum := "fa8aec69c50f6510d3ad38e6ca82659d3733b2ade74d13889cc705c7dbaa3668", func := "levelling/levellinglaw10.AbsorbTells", spec := "absorbTells", inPlace := ["math.Float64bits", "math.Float64frombits", "math.sqrt"], unfollowed := true, recurses := true, apart := false, narrowed := true }
def AbsorbTellsUptoSaid : Prop := absorbTellsUptoRow.holds Try.pinned (OpenSpec.upto absorbTellsSpec)

/-- 'levellinglaw10.AbsorbAll', WHERE WHAT IT READS IS OF BULK AT MOST 1048576: true; the input reads as it did. -/
def absorbAllUptoRow : OpenClaim := { program := "ytaabfjfaljhjmaa", sum := "fa8aec69c50f6510d3ad38e6ca82659d3733b2ade74d13889cc705c7dbaa3668", func := "levelling/levellinglaw10.AbsorbAll", spec := "absorbAll", inPlace := ["math.Float64bits", "math.Float64frombits", "math.sqrt"], unfollowed := true, recurses := true, apart := false, narrowed := true }
def AbsorbAllUptoSaid : Prop := absorbAllUptoRow.holds Try.pinned (OpenSpec.upto absorbAllSpec)

/-- 'levellinglaw10.AbsorbMay', WHERE WHAT IT READS IS OF BULK AT MOST 1048576: true; the input reads as it did. -/
def absorbMayUptoRow : OpenClaim := { program := "ytaabfjfaljhjmaa", sum := "fa8aec69c50f6510d3ad38e6ca82659d3733b2ade74d13889cc705c7dbaa3668", func := "levelling/levellinglaw10.AbsorbMay", spec := "absorbMay", inPlace := ["math.Float64bits", "math.Float64frombits", "math.sqrt"], unfollowed := true, recurses := true, apart := false, narrowed := true }
def AbsorbMayUptoSaid : Prop := absorbMayUptoRow.holds Try.pinned (OpenSpec.upto absorbMaySpec)

/-- 'levellinglaw10.AbsorbZero', WHERE WHAT IT READS IS OF BULK AT MOST 1048576: true; the input reads as it did. -/
def absorbZeroUptoRow : OpenClaim := { program := "ytaabfjfaljhjmaa", sum := "fa8aec69c50f6510d3ad38e6ca82659d3733b2ade74d13889cc705c7dbaa3668", func := "levelling/levellinglaw10.AbsorbZero", spec := "absorbZero", inPlace := ["math.Float64bits", "math.Float64frombits", "math.sqrt"], unfollowed := true, recurses := true, apart := false, narrowed := true }
def AbsorbZeroUptoSaid : Prop := absorbZeroUptoRow.holds Try.pinned (OpenSpec.upto absorbZeroSpec)

/-- 'levellinglaw10.AbsorbFirst', WHERE WHAT IT READS IS OF BULK AT MOST 1048576: true; the input reads as it did. -/
def absorbFirstUptoRow : OpenClaim := { program := "ytaabfjfaljhjmaa", sum := "fa8aec69c50f6510d3ad38e6ca82659d3733b2ade74d13889cc705c7dbaa3668", func := "levelling/levellinglaw10.AbsorbFirst", spec := "absorbFirst", inPlace := ["math.Float64bits", "math.Float64frombits", "math.sqrt"], unfollowed := true, recurses := true, apart := false, narrowed := true }
def AbsorbFirstUptoSaid : Prop := absorbFirstUptoRow.holds Try.pinned (OpenSpec.upto absorbFirstSpec)

end Rows
end Go.Proofs.Ytaabfjfaljhjmaa
