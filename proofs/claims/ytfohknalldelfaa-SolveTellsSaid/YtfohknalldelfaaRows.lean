/-
  No cell of these rows narrows 'for every input' (looked for: loops, veiled, ifaces, maps, wideKeys, modest, calm, conditions, laid).
  DERIVED. THE GIVEN ROWS OF THIS SEAT. 3 by the template 'for every input the law returns true; each argument reads behind the call as it read before'; 0 by the template 'total and deterministic' (their statements: YtfohknalldelfaaTotals.lean).
  GIVEN WITH THE SEED: the statements are not yours to turn. If you find one false, say at which input.
  Laid BY PROGRAM, IN A SANDBOX (cutbox-rows.mjs): the forced cells as the released guide's own fill.sh prints them over the translation 73fcbb744317f5a9… (all of the seat's roots in one cut). By AI agents, Wed Nov 11 2026. No macro, syntax, notation, axiom, sorry.
-/
import Derived.Test.YtfohknalldelfaaChecked
import GoSem.Claim
import GoSem.ClaimJoined
import GoSem.ClaimMapViews
import Derived.JoinedTies
import Derived.KernelRfl
namespace Go.Proofs.Ytfohknalldelfaa
/- THE CELL 'sum', in the pinned program and in every row, IS THE sha256 OF THE DUMP (.gsa) THAT YtfohknalldelfaaProg.lean LOADS. Nothing in Lean hashes anything: it is a label: what it is worth is what the hold of that sum in a sandbox is worth. -/
noncomputable def Try.pinned : Pinned := { name := "ytfohknalldelfaa", sum := "73fcbb744317f5a9506cd38c251d008eaeac6ed275379874886de1460d95eb12", checked := Try.checked }
namespace Rows
def none {H : Type} : Left H := { results := [], args := [] }

/-- 'levellinglaw16.SolveTells': WHATEVER THE INPUT: true; the input reads as it did. -/
def solveTellsSpec : ChangeSpec := { name := "solveTells", fn := fun _ => fun
  | [d1, d2] => { results := [.lit (.bool true)], args := [d1, d2] }
  | _ => none }
def solveTellsRow : OpenClaim := { program := "ytfohknalldelfaa", sum := "73fcbb744317f5a9506cd38c251d008eaeac6ed275379874886de1460d95eb12", func := "levelling/levellinglaw16.SolveTells", spec := "solveTells", inPlace := ["math.Float64bits", "math.Float64frombits", "math.sqrt"], unfollowed := true, recurses := true, apart := false }
def SolveTellsSaid : Prop := solveTellsRow.holds Try.pinned (OpenSpec.ofChange solveTellsSpec)

/-- ITS FALSE NEIGHBOUR: 'it returns false'. Refute it at one input. -/
def solveTellsWrong : ChangeSpec := { name := "solveTells", fn := fun _ => fun
  | [d1, d2] => { results := [.lit (.bool false)], args := [d1, d2] }
  | _ => none }
def SolveTellsWrongFalsely : Prop := solveTellsRow.holds Try.pinned (OpenSpec.ofChange solveTellsWrong)

/-- 'levellinglaw16.SolveForward': WHATEVER THE INPUT: true; the input reads as it did. -/
def solveForwardSpec : ChangeSpec := { name := "solveForward", fn := fun _ => fun
  | [d1, d2] => { results := [.lit (.bool true)], args := [d1, d2] }
  | _ => none }
def solveForwardRow : OpenClaim := { program := "ytfohknalldelfaa", sum := "73fcbb744317f5a9506cd38c251d008eaeac6ed275379874886de1460d95eb12", func := "levelling/levellinglaw16.SolveForward", spec := "solveForward", inPlace := ["math.Float64bits", "math.Float64frombits", "math.sqrt"], unfollowed := true, recurses := true, apart := false }
def SolveForwardSaid : Prop := solveForwardRow.holds Try.pinned (OpenSpec.ofChange solveForwardSpec)

/-- ITS FALSE NEIGHBOUR: 'it returns false'. Refute it at one input. -/
def solveForwardWrong : ChangeSpec := { name := "solveForward", fn := fun _ => fun
  | [d1, d2] => { results := [.lit (.bool false)], args := [d1, d2] }
  | _ => none }
def SolveForwardWrongFalsely : Prop := solveForwardRow.holds Try.pinned (OpenSpec.ofChange solveForwardWrong)

/-- 'levellinglaw16.SolveErrors': WHATEVER THE INPUT: true; the input reads as it did. -/
def solveErrorsSpec : ChangeSpec := { name := "solveErrors", fn := fun _ => fun
  | [d1, d2] => { results := [.lit (.bool true)], args := [d1, d2] }
  | _ => none }
def solveErrorsRow : OpenClaim := { program := "ytfohknalldelfaa", sum := "73fcbb744317f5a9506cd38c251d008eaeac6ed275379874886de1460d95eb12", func := "levelling/levellinglaw16.SolveErrors", spec := "solveErrors", inPlace := ["math.Float64bits", "math.Float64frombits", "math.sqrt"], unfollowed := true, recurses := true, apart := false }
def SolveErrorsSaid : Prop := solveErrorsRow.holds Try.pinned (OpenSpec.ofChange solveErrorsSpec)

/-- ITS FALSE NEIGHBOUR: 'it returns false'. Refute it at one input. -/
def solveErrorsWrong : ChangeSpec := { name := "solveErrors", fn := fun _ => fun
  | [d1, d2] => { results := [.lit (.bool false)], args := [d1, d2] }
  | _ => none }
def SolveErrorsWrongFalsely : Prop := solveErrorsRow.holds Try.pinned (OpenSpec.ofChange solveErrorsWrong)

/- THE SECOND FORM. 'bulk': how many values and letters a reading holds, each counted each time it is reached (what is shared counts as often as it is met; a slice's spare places count too). A statement '..UptoSaid' is the law's where the arguments, and the package variables that the reading takes, are together of bulk at most 1048576: NARROWER than '..Said'. Prove '..Said' where nothing that the law and all that it calls make is longer than what came in: it says more and counts as full. Else prove '..UptoSaid'. A law counts once. -/
mutual
def uptoBulk {H : Type} : DataW H → Nat
  | .lit (.string bytes) => bytes.length + 1
  | .lit _ => 1
  | .nil => 1
  | .ptr d => uptoBulk d + 1
  | .slice elems spare => uptoBulkAll elems + uptoBulkAll spare + 1
  | .agg parts => uptoBulkAll parts + 1
  | .iface _ d => uptoBulk d + 1
  | .map entries => uptoBulkEntries entries + 1
  | .held _ => 1
def uptoBulkAll {H : Type} : List (DataW H) → Nat
  | [] => 0
  | d :: r => uptoBulk d + uptoBulkAll r
def uptoBulkEntries {H : Type} : List (Lit × DataW H) → Nat
  | [] => 0
  | x :: r => uptoBulkEntry x + uptoBulkEntries r
def uptoBulkEntry {H : Type} : Lit × DataW H → Nat
  | (.string bytes, d) => bytes.length + uptoBulk d + 1
  | (_, d) => uptoBulk d + 1
 end
def uptoSmall : (H : Type) → List (DataW H) → Bool := fun _ ds => decide (uptoBulkAll ds ≤ 1048576)
def OpenSpec.upto (s : _root_.Go.ChangeSpec) : _root_.Go.OpenSpec := { _root_.Go.OpenSpec.ofChange s with cond := some uptoSmall }

/-- 'levellinglaw16.SolveTells', WHERE WHAT IT READS IS OF BULK AT MOST 1048576: true; the input reads as it did. -/
def solveTellsUptoRow : OpenClaim := { program := "ytfohknalldelfaa", sum := "73fcbb744317f5a9506cd38c251d008eaeac6ed275379874886de1460d95eb12", func := "levelling/levellinglaw16.SolveTells", spec := "solveTells", inPlace := ["math.Float64bits", "math.Float64frombits", "math.sqrt"], unfollowed := true, recurses := true, apart := false, narrowed := true }
def SolveTellsUptoSaid : Prop := solveTellsUptoRow.holds Try.pinned (OpenSpec.upto solveTellsSpec)

/-- 'levellinglaw16.SolveForward', WHERE WHAT IT READS IS OF BULK AT MOST 1048576: true; the input reads as it did. -/
def solveForwardUptoRow : OpenClaim := { program := "ytfohknalldelfaa", sum := "73fcbb744317f5a9506cd38c251d008eaeac6ed275379874886de1460d95eb12", func := "levelling/levellinglaw16.SolveForward", spec := "solveForward", inPlace := ["math.Float64bits", "math.Float64frombits", "math.sqrt"], unfollowed := true, recurses := true, apart := false, narrowed := true }
def SolveForwardUptoSaid : Prop := solveForwardUptoRow.holds Try.pinned (OpenSpec.upto solveForwardSpec)

/-- 'levellinglaw16.SolveErrors', WHERE WHAT IT READS IS OF BULK AT MOST 1048576: true; the input reads as it did. -/
def solveErrorsUptoRow : OpenClaim := { program := "ytfohknalldelfaa", sum := "73fcbb744317f5a9506cd38c251d008eaeac6ed275379874886de1460d95eb12", func := "levelling/levellinglaw16.SolveErrors", spec := "solveErrors", inPlace := ["math.Float64bits", "math.Float64frombits", "math.sqrt"], unfollowed := true, recurses := true, apart := false, narrowed := true }
def SolveErrorsUptoSaid : Prop := solveErrorsUptoRow.holds Try.pinned (OpenSpec.upto solveErrorsSpec)

end Rows
end Go.Proofs.Ytfohknalldelfaa
