/-
  No cell of these rows narrows 'for every input' (looked for: loops, veiled, ifaces, maps, wideKeys, modest, calm, conditions, laid).
  DERIVED. THE GIVEN ROWS OF THIS SEAT. 3 by the template 'for every input the law returns true; each argument reads behind the call as it read before'; 0 by the template 'total and deterministic' (their statements: YtnboegeljaplbaaGreatTotals.lean).
  GIVEN WITH THE SEED: the statements are not yours to turn. If you find one false, say at which input.
  Laid BY PROGRAM, IN A SANDBOX (cutbox-rows.mjs): the forced cells as the released guide's own fill.sh prints them over the translation c128c2330a62552c… (all of the seat's roots in one cut). By AI agents, Wed Nov 11 2026. No macro, syntax, notation, axiom, sorry.
-/
import Derived.Test.YtnboegeljaplbaaGreatChecked
import GoSem.Claim
import GoSem.ClaimJoined
import GoSem.ClaimMapViews
import Derived.JoinedTies
import Derived.KernelRfl
namespace Go.Proofs.YtnboegeljaplbaaGreat
/- THE CELL 'sum', in the pinned program and in every row, IS THE sha256 OF THE DUMP (.gsa) THAT YtnboegeljaplbaaGreatProg.lean LOADS. Nothing in Lean hashes anything: it is a label: what it is worth is what the hold of that sum in a sandbox is worth. -/
noncomputable def Tryz.pinned : Pinned := { name := "ytnboegeljaplbaagreat", sum := "c128c2330a62552ca7ad639b6ef0eabf9a9640102a4bbfc2d33dcac4f6c714e7", checked := Tryz.checked }
namespace Rows
def none {H : Type} : Left H := { results := [], args := [] }

/-- 'levellinglaw14.PlanNear': WHATEVER THE INPUT: true; the input reads as it did. -/
def planNearSpec : ChangeSpec := { name := "planNear", fn := fun _ => fun
  | [d1, d2] => { results := [.lit (.bool true)], args := [d1, d2] }
  | _ => none }
def planNearRow : OpenClaim := { program := "ytnboegeljaplbaagreat", sum := "c128c2330a62552ca7ad639b6ef0eabf9a9640102a4bbfc2d33dcac4f6c714e7", func := "levelling/levellinglaw14.PlanNear", spec := "planNear", inPlace := ["math.Float64bits", "math.Float64frombits", "math.sqrt"], unfollowed := true, recurses := true, apart := false }
def PlanNearSaid : Prop := planNearRow.holds Tryz.pinned (OpenSpec.ofChange planNearSpec)

/-- ITS FALSE NEIGHBOUR: 'it returns false'. Refute it at one input. -/
def planNearWrong : ChangeSpec := { name := "planNear", fn := fun _ => fun
  | [d1, d2] => { results := [.lit (.bool false)], args := [d1, d2] }
  | _ => none }
def PlanNearWrongFalsely : Prop := planNearRow.holds Tryz.pinned (OpenSpec.ofChange planNearWrong)

/-- 'levellinglaw14.PlanTrees': WHATEVER THE INPUT: true; the input reads as it did. -/
def planTreesSpec : ChangeSpec := { name := "planTrees", fn := fun _ => fun
  | [d1, d2] => { results := [.lit (.bool true)], args := [d1, d2] }
  | _ => none }
def planTreesRow : OpenClaim := { program := "ytnboegeljaplbaagreat", sum := "c128c2330a62552ca7ad639b6ef0eabf9a9640102a4bbfc2d33dcac4f6c714e7", func := "levelling/levellinglaw14.PlanTrees", spec := "planTrees", inPlace := ["math.Float64bits", "math.Float64frombits", "math.sqrt"], unfollowed := true, recurses := true, apart := false }
def PlanTreesSaid : Prop := planTreesRow.holds Tryz.pinned (OpenSpec.ofChange planTreesSpec)

/-- ITS FALSE NEIGHBOUR: 'it returns false'. Refute it at one input. -/
def planTreesWrong : ChangeSpec := { name := "planTrees", fn := fun _ => fun
  | [d1, d2] => { results := [.lit (.bool false)], args := [d1, d2] }
  | _ => none }
def PlanTreesWrongFalsely : Prop := planTreesRow.holds Tryz.pinned (OpenSpec.ofChange planTreesWrong)

/-- 'levellinglaw16.SolveRidge': WHATEVER THE INPUT: true; the input reads as it did. -/
def solveRidgeSpec : ChangeSpec := { name := "solveRidge", fn := fun _ => fun
  | [d1, d2] => { results := [.lit (.bool true)], args := [d1, d2] }
  | _ => none }
def solveRidgeRow : OpenClaim := { program := "ytnboegeljaplbaagreat", sum := "c128c2330a62552ca7ad639b6ef0eabf9a9640102a4bbfc2d33dcac4f6c714e7", func := "levelling/levellinglaw16.SolveRidge", spec := "solveRidge", inPlace := ["math.Float64bits", "math.Float64frombits", "math.sqrt"], unfollowed := true, recurses := true, apart := false }
def SolveRidgeSaid : Prop := solveRidgeRow.holds Tryz.pinned (OpenSpec.ofChange solveRidgeSpec)

/-- ITS FALSE NEIGHBOUR: 'it returns false'. Refute it at one input. -/
def solveRidgeWrong : ChangeSpec := { name := "solveRidge", fn := fun _ => fun
  | [d1, d2] => { results := [.lit (.bool false)], args := [d1, d2] }
  | _ => none }
def SolveRidgeWrongFalsely : Prop := solveRidgeRow.holds Tryz.pinned (OpenSpec.ofChange solveRidgeWrong)

/- THE SECOND FORM. 'bulk': how many values and letters a reading holds, each counted each time it is reached (what is shared counts as often as it is met; a slice's spare places count too). A statement '..UptoSaid' is the law's where the arguments, and the package variables that the reading takes, are together of bulk at most 1048576: NARROWER than '..Said'. Prove '..Said' where nothing that the law and all that it calls make is longer than what came in: it says more and counts as full. Else prove '..UptoSaid'. A law counts once. -/
mutual
def uptoBulk {H : Type} : DataW H → Nat
  | .lit (.string bytes) => bytes.length + 1
  | .lit _ => 1
  | .nil => 1
  | .ptr d => uptoBulk d + 1
  | .slice elems spare => uptoBulkAll elems + uptoBulkAll spare + 1
  | .agg parts => uptoBulkAll parts + 1
  | .iface _ d => uptoBulk d + 1
  | .map entries => uptoBulkEntries entries + 1
  | .held _ => 1
def uptoBulkAll {H : Type} : List (DataW H) → Nat
  | [] => 0
  | d :: r => uptoBulk d + uptoBulkAll r
def uptoBulkEntries {H : Type} : List (Lit × DataW H) → Nat
  | [] => 0
  | x :: r => uptoBulkEntry x + uptoBulkEntries r
def uptoBulkEntry {H : Type} : Lit × DataW H → Nat
  | (.string bytes, d) => bytes.length + uptoBulk d + 1
  | (_, d) => uptoBulk d + 1
 end
def uptoSmall : (H : Type) → List (DataW H) → Bool := fun _ ds => decide (uptoBulkAll ds ≤ 1048576)
def OpenSpec.upto (s : _root_.Go.ChangeSpec) : _root_.Go.OpenSpec := { _root_.Go.OpenSpec.ofChange s with cond := some uptoSmall }

/-- 'levellinglaw14.PlanNear', WHERE WHAT IT READS IS OF BULK AT MOST 1048576: true; the input reads as it did. -/
def planNearUptoRow : OpenClaim := { program := "ytnboegeljaplbaagreat", sum := "c128c2330a62552ca7ad639b6ef0eabf9a9640102a4bbfc2d33dcac4f6c714e7", func := "levelling/levellinglaw14.PlanNear", spec := "planNear", inPlace := ["math.Float64bits", "math.Float64frombits", "math.sqrt"], unfollowed := true, recurses := true, apart := false, narrowed := true }
def PlanNearUptoSaid : Prop := planNearUptoRow.holds Tryz.pinned (OpenSpec.upto planNearSpec)

/-- 'levellinglaw14.PlanTrees', WHERE WHAT IT READS IS OF BULK AT MOST 1048576: true; the input reads as it did. -/
def planTreesUptoRow : OpenClaim := { program := "ytnboegeljaplbaagreat", sum := "c128c2330a62552ca7ad639b6ef0eabf9a9640102a4bbfc2d33dcac4f6c714e7", func := "levelling/levellinglaw14.PlanTrees", spec := "planTrees", inPlace := ["math.Float64bits", "math.Float64frombits", "math.sqrt"], unfollowed := true, recurses := true, apart := false, narrowed := true }
def PlanTreesUptoSaid : Prop := planTreesUptoRow.holds Tryz.pinned (OpenSpec.upto planTreesSpec)

/-- 'levellinglaw16.SolveRidge', WHERE WHAT IT READS IS OF BULK AT MOST 1048576: true; the input reads as it did. -/
def solveRidgeUptoRow : OpenClaim := { program := "ytnboegeljaplbaagreat", sum := "c128c2330a62552ca7ad639b6ef0eabf9a9640102a4bbfc2d33dcac4f6c714e7", func := "levelling/levellinglaw16.SolveRidge", spec := "solveRidge", inPlace := ["math.Float64bits", "math.Float64frombits", "math.sqrt"], unfollowed := true, recurses := true, apart := false, narrowed := true }
def SolveRidgeUptoSaid : Prop := solveRidgeUptoRow.holds Tryz.pinned (OpenSpec.upto solveRidgeSpec)

end Rows
end Go.Proofs.YtnboegeljaplbaaGreat
