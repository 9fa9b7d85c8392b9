/-
  DERIVED. GIVEN WITH THE SEED: THE CARDS: each row of YtmmligbkecilfaaGreatDoorRows.lean that lists a variable, with what it lists TIED to the program's text (the seventh form; the later family's looks); each row that meets fmt, with fmt's text TOLD by the authors' own Lean function (tested against real Go, not proved from fmt's source: count such statements apart). THE CARD IS WHAT COUNTS. Prove the row's statement (the work); the ties are given (YtmmligbkecilfaaGreatDoorTie.lean); close each card by the builder's one call (the guide's Derived/Test/ToyasCard.lean, 'card_holds'). Laid BY PROGRAM, IN A SANDBOX (cutbox-door.mjs). By AI agents, Wed Nov 11 2026. No macro, syntax, notation, axiom, sorry.
-/
import Derived.Test.YtmmligbkecilfaaGreatDoorRows
import GoSem.ClaimSeven
namespace Go.Proofs.YtmmligbkecilfaaGreatDoor
namespace Rows

/-- THE TIED CARD OF 'levellinglaw11.ShedNear'. -/
def shedNearCard : Claim7 := { stood := { row := shedNearRow, standIns := [], harness := (true, "6ecff1b92eded1f90c3242fa368e39c88707a787d81c77a489a7f1c1e47103a1"), looks := true }, kinds := [], alts := [], laidByText := true, laidKinds := [.sentinel, .sentinel, .sentinel], laidTests := true, laidLooks := .later }
def ShedNearCardSaid : Prop := Claim7.holds Tryz.pinned (.plain (OpenSpec.ofChange shedNearSpec)) shedNearCard

/-- THE TIED CARD OF 'levellinglaw11.ShedBack'. -/
def shedBackCard : Claim7 := { stood := { row := shedBackRow, standIns := [], harness := (true, "6ecff1b92eded1f90c3242fa368e39c88707a787d81c77a489a7f1c1e47103a1"), looks := true }, kinds := [], alts := [], laidByText := true, laidKinds := [.sentinel, .sentinel, .sentinel], laidTests := true, laidLooks := .later }
def ShedBackCardSaid : Prop := Claim7.holds Tryz.pinned (.plain (OpenSpec.ofChange shedBackSpec)) shedBackCard

/-- THE SECOND FORM's CARD OF 'levellinglaw11.ShedNear'. -/
def shedNearUptoCard : Claim7 := { stood := { row := shedNearUptoRow, standIns := [], harness := (true, "6ecff1b92eded1f90c3242fa368e39c88707a787d81c77a489a7f1c1e47103a1"), looks := true }, kinds := [], alts := [], laidByText := true, laidKinds := [.sentinel, .sentinel, .sentinel], laidTests := true, laidLooks := .later }
def ShedNearUptoCardSaid : Prop := Claim7.holds Tryz.pinned (.plain (OpenSpec.upto shedNearSpec)) shedNearUptoCard

/-- THE SECOND FORM's CARD OF 'levellinglaw11.ShedBack'. -/
def shedBackUptoCard : Claim7 := { stood := { row := shedBackUptoRow, standIns := [], harness := (true, "6ecff1b92eded1f90c3242fa368e39c88707a787d81c77a489a7f1c1e47103a1"), looks := true }, kinds := [], alts := [], laidByText := true, laidKinds := [.sentinel, .sentinel, .sentinel], laidTests := true, laidLooks := .later }
def ShedBackUptoCardSaid : Prop := Claim7.holds Tryz.pinned (.plain (OpenSpec.upto shedBackSpec)) shedBackUptoCard
end Rows
end Go.Proofs.YtmmligbkecilfaaGreatDoor
