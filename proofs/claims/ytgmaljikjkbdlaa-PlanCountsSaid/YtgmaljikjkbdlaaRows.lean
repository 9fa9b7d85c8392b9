/-
  No cell of these rows narrows 'for every input' (looked for: loops, veiled, ifaces, maps, wideKeys, modest, calm, conditions, laid).
  DERIVED. THE GIVEN ROWS OF THIS SEAT. 5 by the template 'for every input the law returns true; each argument reads behind the call as it read before'; 0 by the template 'total and deterministic' (their statements: YtgmaljikjkbdlaaTotals.lean).
  GIVEN WITH THE SEED: the statements are not yours to turn. If you find one false, say at which input.
  Laid BY PROGRAM, IN A SANDBOX (cutbox-rows.mjs): the forced cells as the released guide's own fill.sh prints them over the translation 88e1677f3dcc1f86… (all of the seat's roots in one cut). By AI agents, Wed Nov 11 2026. No macro, syntax, notation, axiom, sorry.
-/
import Derived.Test.YtgmaljikjkbdlaaChecked
import GoSem.Claim
import GoSem.ClaimJoined
import GoSem.ClaimMapViews
import Derived.JoinedTies
import Derived.KernelRfl
namespace Go.Proofs.Ytgmaljikjkbdlaa
/- THE CELL 'sum', in the pinned program and in every row, IS THE sha256 OF THE DUMP (.gsa) THAT YtgmaljikjkbdlaaProg.lean LOADS. Nothing in Lean hashes anything: it is a label: what it is worth is what the hold of that sum in a sandbox is worth. -/
noncomputable def Try.pinned : Pinned := { name := "ytgmaljikjkbdlaa", sum := "88e1677f3dcc1f8621f191ff6406889238a664b5fa492d38f8233cb86ca2be43", checked := Try.checked }
namespace Rows
def none {H : Type} : Left H := { results := [], args := [] }

/-- 'levellinglaw14.PlanTells': WHATEVER THE INPUT: true; the input reads as it did. -/
def planTellsSpec : ChangeSpec := { name := "planTells", fn := fun _ => fun
  | [d1, d2, d3] => { results := [.lit (.bool true)], args := [d1, d2, d3] }
  | _ => none }
def planTellsRow : OpenClaim := { program := "ytgmaljikjkbdlaa", sum := "88e1677f3dcc1f8621f191ff6406889238a664b5fa492d38f8233cb86ca2be43", func := "levelling/levellinglaw14.PlanTells", spec := "planTells", inPlace := ["math.Float64bits", "math.Float64frombits", "math.sqrt"], unfollowed := true, recurses := true, apart := false }
def PlanTellsSaid : Prop := planTellsRow.holds Try.pinned (OpenSpec.ofChange planTellsSpec)

/-- ITS FALSE NEIGHBOUR: 'it returns false'. Refute it at one input. -/
def planTellsWrong : ChangeSpec := { name := "planTells", fn := fun _ => fun
  | [d1, d2, d3] => { results := [.lit (.bool false)], args := [d1, d2, d3] }
  | _ => none }
def PlanTellsWrongFalsely : Prop := planTellsRow.holds Try.pinned (OpenSpec.ofChange planTellsWrong)

/-- 'levellinglaw14.PlanRuns': WHATEVER THE INPUT: true; the input reads as it did. -/
def planRunsSpec : ChangeSpec := { name := "planRuns", fn := fun _ => fun
  | [d1, d2, d3] => { results := [.lit (.bool true)], args := [d1, d2, d3] }
  | _ => none }
def planRunsRow : OpenClaim := { program := "ytgmaljikjkbdlaa", sum := "88e1677f3dcc1f8621f191ff6406889238a664b5fa492d38f8233cb86ca2be43", func := "levelling/levellinglaw14.PlanRuns", spec := "planRuns", inPlace := ["math.Float64bits", "math.Float64frombits", "math.sqrt"], unfollowed := true, recurses := true, apart := false }
def PlanRunsSaid : Prop := planRunsRow.holds Try.pinned (OpenSpec.ofChange planRunsSpec)

/-- ITS FALSE NEIGHBOUR: 'it returns false'. Refute it at one input. -/
def planRunsWrong : ChangeSpec := { name := "planRuns", fn := fun _ => fun
  | [d1, d2, d3] => { results := [.lit (.bool false)], args := [d1, d2, d3] }
  | _ => none }
def PlanRunsWrongFalsely : Prop := planRunsRow.holds Try.pinned (OpenSpec.ofChange planRunsWrong)

/-- 'levellinglaw14.PlanMakes': WHATEVER THE INPUT: true; the input reads as it did. -/
def planMakesSpec : ChangeSpec := { name := "planMakes", fn := fun _ => fun
  | [d] => { results := [.lit (.bool true)], args := [d] }
  | _ => none }
def planMakesRow : OpenClaim := { program := "ytgmaljikjkbdlaa", sum := "88e1677f3dcc1f8621f191ff6406889238a664b5fa492d38f8233cb86ca2be43", func := "levelling/levellinglaw14.PlanMakes", spec := "planMakes", inPlace := ["math.Float64bits", "math.Float64frombits", "math.sqrt"], unfollowed := true, recurses := true, apart := false }
def PlanMakesSaid : Prop := planMakesRow.holds Try.pinned (OpenSpec.ofChange planMakesSpec)

/-- ITS FALSE NEIGHBOUR: 'it returns false'. Refute it at one input. -/
def planMakesWrong : ChangeSpec := { name := "planMakes", fn := fun _ => fun
  | [d] => { results := [.lit (.bool false)], args := [d] }
  | _ => none }
def PlanMakesWrongFalsely : Prop := planMakesRow.holds Try.pinned (OpenSpec.ofChange planMakesWrong)

/-- 'levellinglaw14.PlanCounts': WHATEVER THE INPUT: true; the input reads as it did. -/
def planCountsSpec : ChangeSpec := { name := "planCounts", fn := fun _ => fun
  | [d1, d2] => { results := [.lit (.bool true)], args := [d1, d2] }
  | _ => none }
def planCountsRow : OpenClaim := { program := "ytgmaljikjkbdlaa", sum := "88e1677f3dcc1f8621f191ff6406889238a664b5fa492d38f8233cb86ca2be43", func := "levelling/levellinglaw14.PlanCounts", spec := "planCounts", inPlace := ["math.Float64bits", "math.Float64frombits", "math.sqrt"], unfollowed := true, recurses := true, apart := false }
def PlanCountsSaid : Prop := planCountsRow.holds Try.pinned (OpenSpec.ofChange planCountsSpec)

/-- ITS FALSE NEIGHBOUR: 'it returns false'. Refute it at one input. -/
def planCountsWrong : ChangeSpec := { name := "planCounts", fn := fun _ => fun
  | [d1, d2] => { results := [.lit (.bool false)], args := [d1, d2] }
  | _ => none }
def PlanCountsWrongFalsely : Prop := planCountsRow.holds Try.pinned (OpenSpec.ofChange planCountsWrong)

/-- 'levellinglaw14.PlanLeft': WHATEVER THE INPUT: true; the input reads as it did. -/
def planLeftSpec : ChangeSpec := { name := "planLeft", fn := fun _ => fun
  | [d] => { results := [.lit (.bool true)], args := [d] }
  | _ => none }
def planLeftRow : OpenClaim := { program := "ytgmaljikjkbdlaa", sum := "88e1677f3dcc1f8621f191ff6406889238a664b5fa492d38f8233cb86ca2be43", func := "levelling/levellinglaw14.PlanLeft", spec := "planLeft", inPlace := ["math.Float64bits", "math.Float64frombits", "math.sqrt"], unfollowed := true, recurses := true, apart := false }
def PlanLeftSaid : Prop := planLeftRow.holds Try.pinned (OpenSpec.ofChange planLeftSpec)

/-- ITS FALSE NEIGHBOUR: 'it returns false'. Refute it at one input. -/
def planLeftWrong : ChangeSpec := { name := "planLeft", fn := fun _ => fun
  | [d] => { results := [.lit (.bool false)], args := [d] }
  | _ => none }
def PlanLeftWrongFalsely : Prop := planLeftRow.holds Try.pinned (OpenSpec.ofChange planLeftWrong)

/- THE SECOND FORM. 'bulk': how many values and letters a reading holds, each counted each time it is reached (what is shared counts as often as it is met; a slice's spare places count too). A statement '..UptoSaid' is the law's where the arguments, and the package variables that the reading takes, are together of bulk at most 1048576: NARROWER than '..Said'. Prove '..Said' where nothing that the law and all that it calls make is longer than what came in: it says more and counts as full. Else prove '..UptoSaid'. A law counts once. -/
mutual
def uptoBulk {H : Type} : DataW H → Nat
  | .lit (.string bytes) => bytes.length + 1
  | .lit _ => 1
  | .nil => 1
  | .ptr d => uptoBulk d + 1
  | .slice elems spare => uptoBulkAll elems + uptoBulkAll spare + 1
  | .agg parts => uptoBulkAll parts + 1
  | .iface _ d => uptoBulk d + 1
  | .map entries => uptoBulkEntries entries + 1
  | .held _ => 1
def uptoBulkAll {H : Type} : List (DataW H) → Nat
  | [] => 0
  | d :: r => uptoBulk d + uptoBulkAll r
def uptoBulkEntries {H : Type} : List (Lit × DataW H) → Nat
  | [] => 0
  | x :: r => uptoBulkEntry x + uptoBulkEntries r
def uptoBulkEntry {H : Type} : Lit × DataW H → Nat
  | (.string bytes, d) => bytes.length + uptoBulk d + 1
  | (_, d) => uptoBulk d + 1
 end
def uptoSmall : (H : Type) → List (DataW H) → Bool := fun _ ds => decide (uptoBulkAll ds ≤ 1048576)
def OpenSpec.upto (s : _root_.Go.ChangeSpec) : _root_.Go.OpenSpec := { _root_.Go.OpenSpec.ofChange s with cond := some uptoSmall }

/-- 'levellinglaw14.PlanTells', WHERE WHAT IT READS IS OF BULK AT MOST 1048576: true; the input reads as it did. -/
def planTellsUptoRow : OpenClaim := { program := "ytgmaljikjkbdlaa", sum := "88e1677f3dcc1f8621f191ff6406889238a664b5fa492d38f8233cb86ca2be43", func := "levelling/levellinglaw14.PlanTells", spec := "planTells", inPlace := ["math.Float64bits", "math.Float64frombits", "math.sqrt"], unfollowed := true, recurses := true, apart := false, narrowed := true }
def PlanTellsUptoSaid : Prop := planTellsUptoRow.holds Try.pinned (OpenSpec.upto planTellsSpec)

/-- 'levellinglaw14.PlanRuns', WHERE WHAT IT READS IS OF BULK AT MOST 1048576: true; the input reads as it did. -/
def planRunsUptoRow : OpenClaim := { program := "ytgmaljikjkbdlaa", sum := "88e1677f3dcc1f8621f191ff6406889238a664b5fa492d38f8233cb86ca2be43", func := "levelling/levellinglaw14.PlanRuns", spec := "planRuns", inPlace := ["math.Float64bits", "math.Float64frombits", "math.sqrt"], unfollowed := true, recurses := true, apart := false, narrowed := true }
def PlanRunsUptoSaid : Prop := planRunsUptoRow.holds Try.pinned (OpenSpec.upto planRunsSpec)

/-- 'levellinglaw14.PlanMakes', WHERE WHAT IT READS IS OF BULK AT MOST 1048576: true; the input reads as it did. -/
def planMakesUptoRow : OpenClaim := { program := "ytgmaljikjkbdlaa", sum := "88e1677f3dcc1f8621f191ff6406889238a664b5fa492d38f8233cb86ca2be43", func := "levelling/levellinglaw14.PlanMakes", spec := "planMakes", inPlace := ["math.Float64bits", "math.Float64frombits", "math.sqrt"], unfollowed := true, recurses := true, apart := false, narrowed := true }
def PlanMakesUptoSaid : Prop := planMakesUptoRow.holds Try.pinned (OpenSpec.upto planMakesSpec)

/-- 'levellinglaw14.PlanCounts', WHERE WHAT IT READS IS OF BULK AT MOST 1048576: true; the input reads as it did. -/
def planCountsUptoRow : OpenClaim := { program := "ytgmaljikjkbdlaa", sum := "88e1677f3dcc1f8621f191ff6406889238a664b5fa492d38f8233cb86ca2be43", func := "levelling/levellinglaw14.PlanCounts", spec := "planCounts", inPlace := ["math.Float64bits", "math.Float64frombits", "math.sqrt"], unfollowed := true, recurses := true, apart := false, narrowed := true }
def PlanCountsUptoSaid : Prop := planCountsUptoRow.holds Try.pinned (OpenSpec.upto planCountsSpec)

/-- 'levellinglaw14.PlanLeft', WHERE WHAT IT READS IS OF BULK AT MOST 1048576: true; the input reads as it did. -/
def planLeftUptoRow : OpenClaim := { program := "ytgmaljikjkbdlaa", sum := "88e1677f3dcc1f8621f191ff6406889238a664b5fa492d38f8233cb86ca2be43", func := "levelling/levellinglaw14.PlanLeft", spec := "planLeft", inPlace := ["math.Float64bits", "math.Float64frombits", "math.sqrt"], unfollowed := true, recurses := true, apart := false, narrowed := true }
def PlanLeftUptoSaid : Prop := planLeftUptoRow.holds Try.pinned (OpenSpec.upto planLeftSpec)

end Rows
end Go.Proofs.Ytgmaljikjkbdlaa
