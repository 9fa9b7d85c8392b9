/- A row absorbed: the program's Row where it comes to its Line. -/
import Derived.Test.YtnboegeljaplbaaGreatSe
import Derived.Deep.CutRange
namespace Go.Proofs.YtnboegeljaplbaaGreat
open Go.RowKit Lv Go.Shelf
open Ieee (double Format Datum Toward)
attribute [local go_sem] Oper.semAt_some run_store_float drewN_alloc drewN_setCell

theorem OwnV.base {w : World} {B : Nat} {v : Value} {xs : List (Option Nat)} (h : OwnV w B v xs) (k : Nat) (e : v.ownBlock = some k) : B ≤ k := by
  obtain ⟨vs, hown, hv⟩ := h
  rcases hown.2 with ⟨rfl, h0⟩ | ⟨g, cap, cur, rfl, h2, _⟩
  · simp [Value.ownBlock] at e
  · simp [Value.ownBlock] at e
    omega
/-- behind the statement that calls Line -/
def RowCut (w : World) (b4 : Nat) (G : FacD) (s7 : Value) (gb : Bool) (W : World) : Prop :=
  ∃ ga gn gcp, s7 = .bool gb ∧ Cells4 W w.heap.size (.int .i64 G.cols) (.slice ga gn gcp) (.int .i64 G.rws) (.int .i64 G.trn) ∧ Row W (.slice ga gn gcp) G.xs ∧ Cells4 W b4 (.int .i64 0) (.slice none 0 0) (.int .i64 0) (.int .i64 0) ∧ Below w.heap.size w W

end Go.Proofs.YtnboegeljaplbaaGreat
