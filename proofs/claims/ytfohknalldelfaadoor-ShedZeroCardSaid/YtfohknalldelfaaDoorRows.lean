/-
  NARROWER THAN 'FOR EVERY INPUT', by the rows' own cells (each row's printed sentence says how): ShedLines: laid · ShedTells: laid · ShedAll: laid · ShedMay: laid · ShedZero: laid · ShedOne: laid.
  DERIVED. THE GIVEN ROWS OF THIS SEAT. 6 by the template 'for every input the law returns true; each argument reads behind the call as it read before'; 0 by the template 'total and deterministic' (their statements: YtfohknalldelfaaDoorTotals.lean).
  GIVEN WITH THE SEED: the statements are not yours to turn. If you find one false, say at which input.
  Laid BY PROGRAM, IN A SANDBOX (cutbox-rows.mjs): the forced cells as the released guide's own fill.sh prints them over the translation f4aeebc25436d097… (all of the seat's roots in one cut). By AI agents, Wed Nov 11 2026. No macro, syntax, notation, axiom, sorry.
-/
import Derived.Test.YtfohknalldelfaaDoorChecked
import GoSem.Claim
import GoSem.ClaimJoined
import GoSem.ClaimMapViews
import Derived.JoinedTies
import Derived.KernelRfl
namespace Go.Proofs.YtfohknalldelfaaDoor
/- THE CELL 'sum', in the pinned program and in every row, IS THE sha256 OF THE DUMP (.gsa) THAT YtfohknalldelfaaDoorProg.lean LOADS. Nothing in Lean hashes anything: it is a label: what it is worth is what the hold of that sum in a sandbox is worth. -/
noncomputable def Tryd.pinned : Pinned := { name := "ytfohknalldelfaadoor", sum := "f4aeebc25436d097c4648192cace5ccaa06fa2ff7771c741a8693aa4311c42b8", checked := Tryd.checked }
namespace Rows
def none {H : Type} : Left H := { results := [], args := [] }

/- WHAT THE LISTED PACKAGE-LEVEL VARIABLES READ AS WHEN THE CALL BEGINS. Each datum BY PROGRAM (the guide's laid-datum.mjs) off the statement by which the dump's own 'gosem.cut.vars' lays the variable. In a bare row this is a premise. The card (YtfohknalldelfaaDoorCards.lean) ties it to the program's text. -/
def laid_levelling_shed_errArg {H : Type} : DataW H := .iface "*errors.errorString" (.ptr (.agg [.lit (.string [97, 32, 102, 97, 99, 116, 111, 114, 44, 32, 111, 114, 32, 97, 32, 108, 105, 110, 101, 44, 32, 116, 104, 97, 116, 32, 109, 97, 121, 32, 110, 111, 116, 32, 98, 101])]))
def laid_levelling_shed_errShed {H : Type} : DataW H := .iface "*errors.errorString" (.ptr (.agg [.lit (.string [109, 111, 114, 101, 32, 105, 115, 32, 116, 97, 107, 101, 110, 32, 111, 117, 116, 32, 116, 104, 97, 110, 32, 116, 104, 101, 114, 101, 32, 105, 115])]))
def laid_levelling_shed_errRange {H : Type} : DataW H := .iface "*errors.errorString" (.ptr (.agg [.lit (.string [116, 111, 111, 32, 103, 114, 101, 97, 116])]))

/-- 'levellinglaw11.ShedLines': WHATEVER THE INPUT: true; the input reads as it did. -/
def shedLinesSpec : ChangeSpec := { name := "shedLines", fn := fun _ => fun
  | [d1, d2] => { results := [.lit (.bool true)], args := [d1, d2] }
  | _ => none }
def shedLinesRow : OpenClaim := { program := "ytfohknalldelfaadoor", sum := "f4aeebc25436d097c4648192cace5ccaa06fa2ff7771c741a8693aa4311c42b8", func := "levelling/levellinglaw11.ShedLines", spec := "shedLines", inPlace := ["math.Float64bits", "math.Float64frombits", "math.sqrt", "internal/reflectlite.TypeOf"], unfollowed := true, recurses := true, named := ["levelling/shed.errArg", "levelling/shed.errShed", "levelling/shed.errRange"], apart := false, laid := [("levelling/shed.errArg", laid_levelling_shed_errArg), ("levelling/shed.errShed", laid_levelling_shed_errShed), ("levelling/shed.errRange", laid_levelling_shed_errRange)] }
def ShedLinesSaid : Prop := shedLinesRow.holds Tryd.pinned (OpenSpec.ofChange shedLinesSpec)

/-- ITS FALSE NEIGHBOUR: 'it returns false'. Refute it at one input. -/
def shedLinesWrong : ChangeSpec := { name := "shedLines", fn := fun _ => fun
  | [d1, d2] => { results := [.lit (.bool false)], args := [d1, d2] }
  | _ => none }
def ShedLinesWrongFalsely : Prop := shedLinesRow.holds Tryd.pinned (OpenSpec.ofChange shedLinesWrong)

/-- 'levellinglaw11.ShedTells': WHATEVER THE INPUT: true; the input reads as it did. -/
def shedTellsSpec : ChangeSpec := { name := "shedTells", fn := fun _ => fun
  | [d1, d2] => { results := [.lit (.bool true)], args := [d1, d2] }
  | _ => none }
def shedTellsRow : OpenClaim := { program := "ytfohknalldelfaadoor", sum := "f4aeebc25436d097c4648192cace5ccaa06fa2ff7771c741a8693aa4311c42b8", func := "levelling/levellinglaw11.ShedTells", spec := "shedTells", inPlace := ["math.Float64bits", "math.Float64frombits", "math.sqrt", "internal/reflectlite.TypeOf"], unfollowed := true, recurses := true, named := ["levelling/shed.errArg", "levelling/shed.errShed", "levelling/shed.errRange"], apart := false, laid := [("levelling/shed.errArg", laid_levelling_shed_errArg), ("levelling/shed.errShed", laid_levelling_shed_errShed), ("levelling/shed.errRange", laid_levelling_shed_errRange)] }
def ShedTellsSaid : Prop := shedTellsRow.holds Tryd.pinned (OpenSpec.ofChange shedTellsSpec)

/-- ITS FALSE NEIGHBOUR: 'it returns false'. Refute it at one input. -/
def shedTellsWrong : ChangeSpec := { name := "shedTells", fn := fun _ => fun
  | [d1, d2] => { results := [.lit (.bool false)], args := [d1, d2] }
  | _ => none }
def ShedTellsWrongFalsely : Prop := shedTellsRow.holds Tryd.pinned (OpenSpec.ofChange shedTellsWrong)

/-- 'levellinglaw11.ShedAll': WHATEVER THE INPUT: true; the input reads as it did. -/
def shedAllSpec : ChangeSpec := { name := "shedAll", fn := fun _ => fun
  | [d1, d2, d3] => { results := [.lit (.bool true)], args := [d1, d2, d3] }
  | _ => none }
def shedAllRow : OpenClaim := { program := "ytfohknalldelfaadoor", sum := "f4aeebc25436d097c4648192cace5ccaa06fa2ff7771c741a8693aa4311c42b8", func := "levelling/levellinglaw11.ShedAll", spec := "shedAll", inPlace := ["math.Float64bits", "math.Float64frombits", "math.sqrt", "internal/reflectlite.TypeOf"], unfollowed := true, recurses := true, named := ["levelling/shed.errArg", "levelling/shed.errShed", "levelling/shed.errRange"], apart := false, laid := [("levelling/shed.errArg", laid_levelling_shed_errArg), ("levelling/shed.errShed", laid_levelling_shed_errShed), ("levelling/shed.errRange", laid_levelling_shed_errRange)] }
def ShedAllSaid : Prop := shedAllRow.holds Tryd.pinned (OpenSpec.ofChange shedAllSpec)

/-- ITS FALSE NEIGHBOUR: 'it returns false'. Refute it at one input. -/
def shedAllWrong : ChangeSpec := { name := "shedAll", fn := fun _ => fun
  | [d1, d2, d3] => { results := [.lit (.bool false)], args := [d1, d2, d3] }
  | _ => none }
def ShedAllWrongFalsely : Prop := shedAllRow.holds Tryd.pinned (OpenSpec.ofChange shedAllWrong)

/-- 'levellinglaw11.ShedMay': WHATEVER THE INPUT: true; the input reads as it did. -/
def shedMaySpec : ChangeSpec := { name := "shedMay", fn := fun _ => fun
  | [d1, d2] => { results := [.lit (.bool true)], args := [d1, d2] }
  | _ => none }
def shedMayRow : OpenClaim := { program := "ytfohknalldelfaadoor", sum := "f4aeebc25436d097c4648192cace5ccaa06fa2ff7771c741a8693aa4311c42b8", func := "levelling/levellinglaw11.ShedMay", spec := "shedMay", inPlace := ["math.Float64bits", "math.Float64frombits", "math.sqrt", "internal/reflectlite.TypeOf"], unfollowed := true, recurses := true, named := ["levelling/shed.errArg", "levelling/shed.errShed", "levelling/shed.errRange"], apart := false, laid := [("levelling/shed.errArg", laid_levelling_shed_errArg), ("levelling/shed.errShed", laid_levelling_shed_errShed), ("levelling/shed.errRange", laid_levelling_shed_errRange)] }
def ShedMaySaid : Prop := shedMayRow.holds Tryd.pinned (OpenSpec.ofChange shedMaySpec)

/-- ITS FALSE NEIGHBOUR: 'it returns false'. Refute it at one input. -/
def shedMayWrong : ChangeSpec := { name := "shedMay", fn := fun _ => fun
  | [d1, d2] => { results := [.lit (.bool false)], args := [d1, d2] }
  | _ => none }
def ShedMayWrongFalsely : Prop := shedMayRow.holds Tryd.pinned (OpenSpec.ofChange shedMayWrong)

/-- 'levellinglaw11.ShedZero': WHATEVER THE INPUT: true; the input reads as it did. -/
def shedZeroSpec : ChangeSpec := { name := "shedZero", fn := fun _ => fun
  | [d] => { results := [.lit (.bool true)], args := [d] }
  | _ => none }
def shedZeroRow : OpenClaim := { program := "ytfohknalldelfaadoor", sum := "f4aeebc25436d097c4648192cace5ccaa06fa2ff7771c741a8693aa4311c42b8", func := "levelling/levellinglaw11.ShedZero", spec := "shedZero", inPlace := ["math.Float64bits", "math.Float64frombits", "math.sqrt", "internal/reflectlite.TypeOf"], unfollowed := true, recurses := true, named := ["levelling/shed.errArg", "levelling/shed.errShed", "levelling/shed.errRange"], apart := false, laid := [("levelling/shed.errArg", laid_levelling_shed_errArg), ("levelling/shed.errShed", laid_levelling_shed_errShed), ("levelling/shed.errRange", laid_levelling_shed_errRange)] }
def ShedZeroSaid : Prop := shedZeroRow.holds Tryd.pinned (OpenSpec.ofChange shedZeroSpec)

/-- ITS FALSE NEIGHBOUR: 'it returns false'. Refute it at one input. -/
def shedZeroWrong : ChangeSpec := { name := "shedZero", fn := fun _ => fun
  | [d] => { results := [.lit (.bool false)], args := [d] }
  | _ => none }
def ShedZeroWrongFalsely : Prop := shedZeroRow.holds Tryd.pinned (OpenSpec.ofChange shedZeroWrong)

/-- 'levellinglaw11.ShedOne': WHATEVER THE INPUT: true; the input reads as it did. -/
def shedOneSpec : ChangeSpec := { name := "shedOne", fn := fun _ => fun
  | [d] => { results := [.lit (.bool true)], args := [d] }
  | _ => none }
def shedOneRow : OpenClaim := { program := "ytfohknalldelfaadoor", sum := "f4aeebc25436d097c4648192cace5ccaa06fa2ff7771c741a8693aa4311c42b8", func := "levelling/levellinglaw11.ShedOne", spec := "shedOne", inPlace := ["math.Float64bits", "math.Float64frombits", "math.sqrt", "internal/reflectlite.TypeOf"], unfollowed := true, recurses := true, named := ["levelling/shed.errArg", "levelling/shed.errShed", "levelling/shed.errRange"], apart := false, laid := [("levelling/shed.errArg", laid_levelling_shed_errArg), ("levelling/shed.errShed", laid_levelling_shed_errShed), ("levelling/shed.errRange", laid_levelling_shed_errRange)] }
def ShedOneSaid : Prop := shedOneRow.holds Tryd.pinned (OpenSpec.ofChange shedOneSpec)

/-- ITS FALSE NEIGHBOUR: 'it returns false'. Refute it at one input. -/
def shedOneWrong : ChangeSpec := { name := "shedOne", fn := fun _ => fun
  | [d] => { results := [.lit (.bool false)], args := [d] }
  | _ => none }
def ShedOneWrongFalsely : Prop := shedOneRow.holds Tryd.pinned (OpenSpec.ofChange shedOneWrong)

/- THE SECOND FORM. 'bulk': how many values and letters a reading holds, each counted each time it is reached (what is shared counts as often as it is met; a slice's spare places count too). A statement '..UptoSaid' is the law's where the arguments, and the package variables that the reading takes, are together of bulk at most 1048576: NARROWER than '..Said'. Prove '..Said' where nothing that the law and all that it calls make is longer than what came in: it says more and counts as full. Else prove '..UptoSaid'. A law counts once. -/
mutual
def uptoBulk {H : Type} : DataW H → Nat
  | .lit (.string bytes) => bytes.length + 1
  | .lit _ => 1
  | .nil => 1
  | .ptr d => uptoBulk d + 1
  | .slice elems spare => uptoBulkAll elems + uptoBulkAll spare + 1
  | .agg parts => uptoBulkAll parts + 1
  | .iface _ d => uptoBulk d + 1
  | .map entries => uptoBulkEntries entries + 1
  | .held _ => 1
def uptoBulkAll {H : Type} : List (DataW H) → Nat
  | [] => 0
  | d :: r => uptoBulk d + uptoBulkAll r
def uptoBulkEntries {H : Type} : List (Lit × DataW H) → Nat
  | [] => 0
  | x :: r => uptoBulkEntry x + uptoBulkEntries r
def uptoBulkEntry {H : Type} : Lit × DataW H → Nat
  | (.string bytes, d) => bytes.length + uptoBulk d + 1
  | (_, d) => uptoBulk d + 1
 end
def uptoSmall : (H : Type) → List (DataW H) → Bool := fun _ ds => decide (uptoBulkAll ds ≤ 1048576)
def OpenSpec.upto (s : _root_.Go.ChangeSpec) : _root_.Go.OpenSpec := { _root_.Go.OpenSpec.ofChange s with cond := some uptoSmall }

/-- 'levellinglaw11.ShedLines', WHERE WHAT IT READS IS OF BULK AT MOST 1048576: true; the input reads as it did. -/
def shedLinesUptoRow : OpenClaim := { program := "ytfohknalldelfaadoor", sum := "f4aeebc25436d097c4648192cace5ccaa06fa2ff7771c741a8693aa4311c42b8", func := "levelling/levellinglaw11.ShedLines", spec := "shedLines", inPlace := ["math.Float64bits", "math.Float64frombits", "math.sqrt", "internal/reflectlite.TypeOf"], unfollowed := true, recurses := true, named := ["levelling/shed.errArg", "levelling/shed.errShed", "levelling/shed.errRange"], apart := false, laid := [("levelling/shed.errArg", laid_levelling_shed_errArg), ("levelling/shed.errShed", laid_levelling_shed_errShed), ("levelling/shed.errRange", laid_levelling_shed_errRange)], narrowed := true }
def ShedLinesUptoSaid : Prop := shedLinesUptoRow.holds Tryd.pinned (OpenSpec.upto shedLinesSpec)

/-- 'levellinglaw11.ShedTells', WHERE WHAT IT READS IS OF BULK AT MOST 1048576: true; the input reads as it did. -/
def shedTellsUptoRow : OpenClaim := { program := "ytfohknalldelfaadoor", sum := "f4aeebc25436d097c4648192cace5ccaa06fa2ff7771c741a8693aa4311c42b8", func := "levelling/levellinglaw11.ShedTells", spec := "shedTells", inPlace := ["math.Float64bits", "math.Float64frombits", "math.sqrt", "internal/reflectlite.TypeOf"], unfollowed := true, recurses := true, named := ["levelling/shed.errArg", "levelling/shed.errShed", "levelling/shed.errRange"], apart := false, laid := [("levelling/shed.errArg", laid_levelling_shed_errArg), ("levelling/shed.errShed", laid_levelling_shed_errShed), ("levelling/shed.errRange", laid_levelling_shed_errRange)], narrowed := true }
def ShedTellsUptoSaid : Prop := shedTellsUptoRow.holds Tryd.pinned (OpenSpec.upto shedTellsSpec)

/-- 'levellinglaw11.ShedAll', WHERE WHAT IT READS IS OF BULK AT MOST 1048576: true; the input reads as it did. -/
def shedAllUptoRow : OpenClaim := { program := "ytfohknalldelfaadoor", sum := "f4aeebc25436d097c4648192cace5ccaa06fa2ff7771c741a8693aa4311c42b8", func := "levelling/levellinglaw11.ShedAll", spec := "shedAll", inPlace := ["math.Float64bits", "math.Float64frombits", "math.sqrt", "internal/reflectlite.TypeOf"], unfollowed := true, recurses := true, named := ["levelling/shed.errArg", "levelling/shed.errShed", "levelling/shed.errRange"], apart := false, laid := [("levelling/shed.errArg", laid_levelling_shed_errArg), ("levelling/shed.errShed", laid_levelling_shed_errShed), ("levelling/shed.errRange", laid_levelling_shed_errRange)], narrowed := true }
def ShedAllUptoSaid : Prop := shedAllUptoRow.holds Tryd.pinned (OpenSpec.upto shedAllSpec)

/-- 'levellinglaw11.ShedMay', WHERE WHAT IT READS IS OF BULK AT MOST 1048576: true; the input reads as it did. -/
def shedMayUptoRow : OpenClaim := { program := "ytfohknalldelfaadoor", sum := "f4aeebc25436d097c4648192cace5ccaa06fa2ff7771c741a8693aa4311c42b8", func := "levelling/levellinglaw11.ShedMay", spec := "shedMay", inPlace := ["math.Float64bits", "math.Float64frombits", "math.sqrt", "internal/reflectlite.TypeOf"], unfollowed := true, recurses := true, named := ["levelling/shed.errArg", "levelling/shed.errShed", "levelling/shed.errRange"], apart := false, laid := [("levelling/shed.errArg", laid_levelling_shed_errArg), ("levelling/shed.errShed", laid_levelling_shed_errShed), ("levelling/shed.errRange", laid_levelling_shed_errRange)], narrowed := true }
def ShedMayUptoSaid : Prop := shedMayUptoRow.holds Tryd.pinned (OpenSpec.upto shedMaySpec)

/-- 'levellinglaw11.ShedZero', WHERE WHAT IT READS IS OF BULK AT MOST 1048576: true; the input reads as it did. -/
def shedZeroUptoRow : OpenClaim := { program := "ytfohknalldelfaadoor", sum := "f4aeebc25436d097c4648192cace5ccaa06fa2ff7771c741a8693aa4311c42b8", func := "levelling/levellinglaw11.ShedZero", spec := "shedZero", inPlace := ["math.Float64bits", "math.Float64frombits", "math.sqrt", "internal/reflectlite.TypeOf"], unfollowed := true, recurses := true, named := ["levelling/shed.errArg", "levelling/shed.errShed", "levelling/shed.errRange"], apart := false, laid := [("levelling/shed.errArg", laid_levelling_shed_errArg), ("levelling/shed.errShed", laid_levelling_shed_errShed), ("levelling/shed.errRange", laid_levelling_shed_errRange)], narrowed := true }
def ShedZeroUptoSaid : Prop := shedZeroUptoRow.holds Tryd.pinned (OpenSpec.upto shedZeroSpec)

/-- 'levellinglaw11.ShedOne', WHERE WHAT IT READS IS OF BULK AT MOST 1048576: true; the input reads as it did. -/
def shedOneUptoRow : OpenClaim := { program := "ytfohknalldelfaadoor", sum := "f4aeebc25436d097c4648192cace5ccaa06fa2ff7771c741a8693aa4311c42b8", func := "levelling/levellinglaw11.ShedOne", spec := "shedOne", inPlace := ["math.Float64bits", "math.Float64frombits", "math.sqrt", "internal/reflectlite.TypeOf"], unfollowed := true, recurses := true, named := ["levelling/shed.errArg", "levelling/shed.errShed", "levelling/shed.errRange"], apart := false, laid := [("levelling/shed.errArg", laid_levelling_shed_errArg), ("levelling/shed.errShed", laid_levelling_shed_errShed), ("levelling/shed.errRange", laid_levelling_shed_errRange)], narrowed := true }
def ShedOneUptoSaid : Prop := shedOneUptoRow.holds Tryd.pinned (OpenSpec.upto shedOneSpec)

end Rows
end Go.Proofs.YtfohknalldelfaaDoor
