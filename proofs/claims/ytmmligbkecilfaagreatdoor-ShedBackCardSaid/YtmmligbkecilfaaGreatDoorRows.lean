/-
  NARROWER THAN 'FOR EVERY INPUT', by the rows' own cells (each row's printed sentence says how): ShedNear: laid · ShedBack: laid.
  DERIVED. THE GIVEN ROWS OF THIS SEAT. 2 by the template 'for every input the law returns true; each argument reads behind the call as it read before'; 0 by the template 'total and deterministic' (their statements: YtmmligbkecilfaaGreatDoorTotals.lean).
  GIVEN WITH THE SEED: the statements are not yours to turn. If you find one false, say at which input.
  Laid BY PROGRAM, IN A SANDBOX (cutbox-rows.mjs): the forced cells as the released guide's own fill.sh prints them over the translation c60122052664edb4… (all of the seat's roots in one cut). By AI agents, Wed Nov 11 2026. No macro, syntax, notation, axiom, sorry.
-/
import Derived.Test.YtmmligbkecilfaaGreatDoorChecked
import GoSem.Claim
import GoSem.ClaimJoined
import GoSem.ClaimMapViews
import Derived.JoinedTies
import Derived.KernelRfl
namespace Go.Proofs.YtmmligbkecilfaaGreatDoor
/- THE CELL 'sum', in the pinned program and in every row, IS THE sha256 OF THE DUMP (.gsa) THAT YtmmligbkecilfaaGreatDoorProg.lean LOADS. Nothing in Lean hashes anything: it is a label: what it is worth is what the hold of that sum in a sandbox is worth. -/
noncomputable def Tryz.pinned : Pinned := { name := "ytmmligbkecilfaagreatdoor", sum := "c60122052664edb42343c128c699b46807c4bbefebdf62be6fc18c2cc6472aad", checked := Tryz.checked }
namespace Rows
def none {H : Type} : Left H := { results := [], args := [] }

/- WHAT THE LISTED PACKAGE-LEVEL VARIABLES READ AS WHEN THE CALL BEGINS. Each datum BY PROGRAM (the guide's laid-datum.mjs) off the statement by which the dump's own 'gosem.cut.vars' lays the variable. In a bare row this is a premise. The card (YtmmligbkecilfaaGreatDoorCards.lean) ties it to the program's text. -/
def laid_levelling_shed_errArg {H : Type} : DataW H := .iface "*errors.errorString" (.ptr (.agg [.lit (.string [97, 32, 102, 97, 99, 116, 111, 114, 44, 32, 111, 114, 32, 97, 32, 108, 105, 110, 101, 44, 32, 116, 104, 97, 116, 32, 109, 97, 121, 32, 110, 111, 116, 32, 98, 101])]))
def laid_levelling_shed_errShed {H : Type} : DataW H := .iface "*errors.errorString" (.ptr (.agg [.lit (.string [109, 111, 114, 101, 32, 105, 115, 32, 116, 97, 107, 101, 110, 32, 111, 117, 116, 32, 116, 104, 97, 110, 32, 116, 104, 101, 114, 101, 32, 105, 115])]))
def laid_levelling_shed_errRange {H : Type} : DataW H := .iface "*errors.errorString" (.ptr (.agg [.lit (.string [116, 111, 111, 32, 103, 114, 101, 97, 116])]))

/-- 'levellinglaw11.ShedNear': WHATEVER THE INPUT: true; the input reads as it did. -/
def shedNearSpec : ChangeSpec := { name := "shedNear", fn := fun _ => fun
  | [d1, d2] => { results := [.lit (.bool true)], args := [d1, d2] }
  | _ => none }
def shedNearRow : OpenClaim := { program := "ytmmligbkecilfaagreatdoor", sum := "c60122052664edb42343c128c699b46807c4bbefebdf62be6fc18c2cc6472aad", func := "levelling/levellinglaw11.ShedNear", spec := "shedNear", inPlace := ["math.Float64bits", "math.Float64frombits", "math.sqrt", "internal/reflectlite.TypeOf"], unfollowed := true, recurses := true, named := ["levelling/shed.errArg", "levelling/shed.errShed", "levelling/shed.errRange"], apart := false, laid := [("levelling/shed.errArg", laid_levelling_shed_errArg), ("levelling/shed.errShed", laid_levelling_shed_errShed), ("levelling/shed.errRange", laid_levelling_shed_errRange)] }
def ShedNearSaid : Prop := shedNearRow.holds Tryz.pinned (OpenSpec.ofChange shedNearSpec)

/-- ITS FALSE NEIGHBOUR: 'it returns false'. Refute it at one input. -/
def shedNearWrong : ChangeSpec := { name := "shedNear", fn := fun _ => fun
  | [d1, d2] => { results := [.lit (.bool false)], args := [d1, d2] }
  | _ => none }
def ShedNearWrongFalsely : Prop := shedNearRow.holds Tryz.pinned (OpenSpec.ofChange shedNearWrong)

/-- 'levellinglaw11.ShedBack': WHATEVER THE INPUT: true; the input reads as it did. -/
def shedBackSpec : ChangeSpec := { name := "shedBack", fn := fun _ => fun
  | [d1, d2] => { results := [.lit (.bool true)], args := [d1, d2] }
  | _ => none }
def shedBackRow : OpenClaim := { program := "ytmmligbkecilfaagreatdoor", sum := "c60122052664edb42343c128c699b46807c4bbefebdf62be6fc18c2cc6472aad", func := "levelling/levellinglaw11.ShedBack", spec := "shedBack", inPlace := ["math.Float64bits", "math.Float64frombits", "math.sqrt", "internal/reflectlite.TypeOf"], unfollowed := true, recurses := true, named := ["levelling/shed.errArg", "levelling/shed.errShed", "levelling/shed.errRange"], apart := false, laid := [("levelling/shed.errArg", laid_levelling_shed_errArg), ("levelling/shed.errShed", laid_levelling_shed_errShed), ("levelling/shed.errRange", laid_levelling_shed_errRange)] }
def ShedBackSaid : Prop := shedBackRow.holds Tryz.pinned (OpenSpec.ofChange shedBackSpec)

/-- ITS FALSE NEIGHBOUR: 'it returns false'. Refute it at one input. -/
def shedBackWrong : ChangeSpec := { name := "shedBack", fn := fun _ => fun
  | [d1, d2] => { results := [.lit (.bool false)], args := [d1, d2] }
  | _ => none }
def ShedBackWrongFalsely : Prop := shedBackRow.holds Tryz.pinned (OpenSpec.ofChange shedBackWrong)

/- THE SECOND FORM. 'bulk': how many values and letters a reading holds, each counted each time it is reached (what is shared counts as often as it is met; a slice's spare places count too). A statement '..UptoSaid' is the law's where the arguments, and the package variables that the reading takes, are together of bulk at most 1048576: NARROWER than '..Said'. Prove '..Said' where nothing that the law and all that it calls make is longer than what came in: it says more and counts as full. Else prove '..UptoSaid'. A law counts once. -/
mutual
def uptoBulk {H : Type} : DataW H → Nat
  | .lit (.string bytes) => bytes.length + 1
  | .lit _ => 1
  | .nil => 1
  | .ptr d => uptoBulk d + 1
  | .slice elems spare => uptoBulkAll elems + uptoBulkAll spare + 1
  | .agg parts => uptoBulkAll parts + 1
  | .iface _ d => uptoBulk d + 1
  | .map entries => uptoBulkEntries entries + 1
  | .held _ => 1
def uptoBulkAll {H : Type} : List (DataW H) → Nat
  | [] => 0
  | d :: r => uptoBulk d + uptoBulkAll r
def uptoBulkEntries {H : Type} : List (Lit × DataW H) → Nat
  | [] => 0
  | x :: r => uptoBulkEntry x + uptoBulkEntries r
def uptoBulkEntry {H : Type} : Lit × DataW H → Nat
  | (.string bytes, d) => bytes.length + uptoBulk d + 1
  | (_, d) => uptoBulk d + 1
 end
def uptoSmall : (H : Type) → List (DataW H) → Bool := fun _ ds => decide (uptoBulkAll ds ≤ 1048576)
def OpenSpec.upto (s : _root_.Go.ChangeSpec) : _root_.Go.OpenSpec := { _root_.Go.OpenSpec.ofChange s with cond := some uptoSmall }

/-- 'levellinglaw11.ShedNear', WHERE WHAT IT READS IS OF BULK AT MOST 1048576: true; the input reads as it did. -/
def shedNearUptoRow : OpenClaim := { program := "ytmmligbkecilfaagreatdoor", sum := "c60122052664edb42343c128c699b46807c4bbefebdf62be6fc18c2cc6472aad", func := "levelling/levellinglaw11.ShedNear", spec := "shedNear", inPlace := ["math.Float64bits", "math.Float64frombits", "math.sqrt", "internal/reflectlite.TypeOf"], unfollowed := true, recurses := true, named := ["levelling/shed.errArg", "levelling/shed.errShed", "levelling/shed.errRange"], apart := false, laid := [("levelling/shed.errArg", laid_levelling_shed_errArg), ("levelling/shed.errShed", laid_levelling_shed_errShed), ("levelling/shed.errRange", laid_levelling_shed_errRange)], narrowed := true }
def ShedNearUptoSaid : Prop := shedNearUptoRow.holds Tryz.pinned (OpenSpec.upto shedNearSpec)

/-- 'levellinglaw11.ShedBack', WHERE WHAT IT READS IS OF BULK AT MOST 1048576: true; the input reads as it did. -/
def shedBackUptoRow : OpenClaim := { program := "ytmmligbkecilfaagreatdoor", sum := "c60122052664edb42343c128c699b46807c4bbefebdf62be6fc18c2cc6472aad", func := "levelling/levellinglaw11.ShedBack", spec := "shedBack", inPlace := ["math.Float64bits", "math.Float64frombits", "math.sqrt", "internal/reflectlite.TypeOf"], unfollowed := true, recurses := true, named := ["levelling/shed.errArg", "levelling/shed.errShed", "levelling/shed.errRange"], apart := false, laid := [("levelling/shed.errArg", laid_levelling_shed_errArg), ("levelling/shed.errShed", laid_levelling_shed_errShed), ("levelling/shed.errRange", laid_levelling_shed_errRange)], narrowed := true }
def ShedBackUptoSaid : Prop := shedBackUptoRow.holds Tryz.pinned (OpenSpec.upto shedBackSpec)

end Rows
end Go.Proofs.YtmmligbkecilfaaGreatDoor
