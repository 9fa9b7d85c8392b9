/-
  DERIVED. GIVEN WITH THE SEED: THE CARDS: each row of YtfohknalldelfaaDoorRows.lean that lists a variable, with what it lists TIED to the program's text (the seventh form; the later family's looks); each row that meets fmt, with fmt's text TOLD by the authors' own Lean function (tested against real Go, not proved from fmt's source: count such statements apart). THE CARD IS WHAT COUNTS. Prove the row's statement (the work); the ties are given (YtfohknalldelfaaDoorTie.lean); close each card by the builder's one call (the guide's Derived/Test/ToyasCard.lean, 'card_holds'). Laid BY PROGRAM, IN A SANDBOX (cutbox-door.mjs). By AI agents, Wed Nov 11 2026. No macro, syntax, notation, axiom, sorry.
-/
import Derived.Test.YtfohknalldelfaaDoorRows
import GoSem.ClaimSeven
namespace Go.Proofs.YtfohknalldelfaaDoor
namespace Rows

/-- THE TIED CARD OF 'levellinglaw11.ShedLines'. -/
def shedLinesCard : Claim7 := { stood := { row := shedLinesRow, standIns := [], harness := (true, "b30d883109636af08f78487d86e236d39d5edf88fb01f312f2c6664033d016a0"), looks := true }, kinds := [], alts := [], laidByText := true, laidKinds := [.sentinel, .sentinel, .sentinel], laidTests := true, laidLooks := .later }
def ShedLinesCardSaid : Prop := Claim7.holds Tryd.pinned (.plain (OpenSpec.ofChange shedLinesSpec)) shedLinesCard

/-- THE TIED CARD OF 'levellinglaw11.ShedTells'. -/
def shedTellsCard : Claim7 := { stood := { row := shedTellsRow, standIns := [], harness := (true, "b30d883109636af08f78487d86e236d39d5edf88fb01f312f2c6664033d016a0"), looks := true }, kinds := [], alts := [], laidByText := true, laidKinds := [.sentinel, .sentinel, .sentinel], laidTests := true, laidLooks := .later }
def ShedTellsCardSaid : Prop := Claim7.holds Tryd.pinned (.plain (OpenSpec.ofChange shedTellsSpec)) shedTellsCard

/-- THE TIED CARD OF 'levellinglaw11.ShedAll'. -/
def shedAllCard : Claim7 := { stood := { row := shedAllRow, standIns := [], harness := (true, "b30d883109636af08f78487d86e236d39d5edf88fb01f312f2c6664033d016a0"), looks := true }, kinds := [], alts := [], laidByText := true, laidKinds := [.sentinel, .sentinel, .sentinel], laidTests := true, laidLooks := .later }
def ShedAllCardSaid : Prop := Claim7.holds Tryd.pinned (.plain (OpenSpec.ofChange shedAllSpec)) shedAllCard

/-- THE TIED CARD OF 'levellinglaw11.ShedMay'. -/
def shedMayCard : Claim7 := { stood := { row := shedMayRow, standIns := [], harness := (true, "b30d883109636af08f78487d86e236d39d5edf88fb01f312f2c6664033d016a0"), looks := true }, kinds := [], alts := [], laidByText := true, laidKinds := [.sentinel, .sentinel, .sentinel], laidTests := true, laidLooks := .later }
def ShedMayCardSaid : Prop := Claim7.holds Tryd.pinned (.plain (OpenSpec.ofChange shedMaySpec)) shedMayCard

/-- THE TIED CARD OF 'levellinglaw11.ShedZero'. -/
def shedZeroCard : Claim7 := { stood := { row := shedZeroRow, standIns := [], harness := (true, "b30d883109636af08f78487d86e236d39d5edf88fb01f312f2c6664033d016a0"), looks := true }, kinds := [], alts := [], laidByText := true, laidKinds := [.sentinel, .sentinel, .sentinel], laidTests := true, laidLooks := .later }
def ShedZeroCardSaid : Prop := Claim7.holds Tryd.pinned (.plain (OpenSpec.ofChange shedZeroSpec)) shedZeroCard

/-- THE TIED CARD OF 'levellinglaw11.ShedOne'. -/
def shedOneCard : Claim7 := { stood := { row := shedOneRow, standIns := [], harness := (true, "b30d883109636af08f78487d86e236d39d5edf88fb01f312f2c6664033d016a0"), looks := true }, kinds := [], alts := [], laidByText := true, laidKinds := [.sentinel, .sentinel, .sentinel], laidTests := true, laidLooks := .later }
def ShedOneCardSaid : Prop := Claim7.holds Tryd.pinned (.plain (OpenSpec.ofChange shedOneSpec)) shedOneCard

/-- THE SECOND FORM's CARD OF 'levellinglaw11.ShedLines'. -/
def shedLinesUptoCard : Claim7 := { stood := { row := shedLinesUptoRow, standIns := [], harness := (true, "b30d883109636af08f78487d86e236d39d5edf88fb01f312f2c6664033d016a0"), looks := true }, kinds := [], alts := [], laidByText := true, laidKinds := [.sentinel, .sentinel, .sentinel], laidTests := true, laidLooks := .later }
def ShedLinesUptoCardSaid : Prop := Claim7.holds Tryd.pinned (.plain (OpenSpec.upto shedLinesSpec)) shedLinesUptoCard

/-- THE SECOND FORM's CARD OF 'levellinglaw11.ShedTells'. -/
def shedTellsUptoCard : Claim7 := { stood := { row := shedTellsUptoRow, standIns := [], harness := (true, "b30d883109636af08f78487d86e236d39d5edf88fb01f312f2c6664033d016a0"), looks := true }, kinds := [], alts := [], laidByText := true, laidKinds := [.sentinel, .sentinel, .sentinel], laidTests := true, laidLooks := .later }
def ShedTellsUptoCardSaid : Prop := Claim7.holds Tryd.pinned (.plain (OpenSpec.upto shedTellsSpec)) shedTellsUptoCard

/-- THE SECOND FORM's CARD OF 'levellinglaw11.ShedAll'. -/
def shedAllUptoCard : Claim7 := { stood := { row := shedAllUptoRow, standIns := [], harness := (true, "b30d883109636af08f78487d86e236d39d5edf88fb01f312f2c6664033d016a0"), looks := true }, kinds := [], alts := [], laidByText := true, laidKinds := [.sentinel, .sentinel, .sentinel], laidTests := true, laidLooks := .later }
def ShedAllUptoCardSaid : Prop := Claim7.holds Tryd.pinned (.plain (OpenSpec.upto shedAllSpec)) shedAllUptoCard

/-- THE SECOND FORM's CARD OF 'levellinglaw11.ShedMay'. -/
def shedMayUptoCard : Claim7 := { stood := { row := shedMayUptoRow, standIns := [], harness := (true, "b30d883109636af08f78487d86e236d39d5edf88fb01f312f2c6664033d016a0"), looks := true }, kinds := [], alts := [], laidByText := true, laidKinds := [.sentinel, .sentinel, .sentinel], laidTests := true, laidLooks := .later }
def ShedMayUptoCardSaid : Prop := Claim7.holds Tryd.pinned (.plain (OpenSpec.upto shedMaySpec)) shedMayUptoCard

/-- THE SECOND FORM's CARD OF 'levellinglaw11.ShedZero'. -/
def shedZeroUptoCard : Claim7 := { stood := { row := shedZeroUptoRow, standIns := [], harness := (true, "b30d883109636af08f78487d86e236d39d5edf88fb01f312f2c6664033d016a0"), looks := true }, kinds := [], alts := [], laidByText := true, laidKinds := [.sentinel, .sentinel, .sentinel], laidTests := true, laidLooks := .later }
def ShedZeroUptoCardSaid : Prop := Claim7.holds Tryd.pinned (.plain (OpenSpec.upto shedZeroSpec)) shedZeroUptoCard

/-- THE SECOND FORM's CARD OF 'levellinglaw11.ShedOne'. -/
def shedOneUptoCard : Claim7 := { stood := { row := shedOneUptoRow, standIns := [], harness := (true, "b30d883109636af08f78487d86e236d39d5edf88fb01f312f2c6664033d016a0"), looks := true }, kinds := [], alts := [], laidByText := true, laidKinds := [.sentinel, .sentinel, .sentinel], laidTests := true, laidLooks := .later }
def ShedOneUptoCardSaid : Prop := Claim7.holds Tryd.pinned (.plain (OpenSpec.upto shedOneSpec)) shedOneUptoCard
end Rows
end Go.Proofs.YtfohknalldelfaaDoor
