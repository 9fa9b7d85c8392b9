/- A row absorbed: the reference's Row, walked. A ridge, plainly; what is refused of it, and a ridge of 0, walked, of both. -/
import Derived.Test.YtmmligbkecilfaaGreatDoorSe
import Derived.Deep.CutRange
namespace Go.Proofs.YtmmligbkecilfaaGreatDoor
open Go.RowKit Lv Go.Shelf
open Ieee (double Format Datum Toward)
attribute [local go_sem] Oper.semAt_some run_store_float drewN_alloc drewN_setCell

theorem early_range (F : FacD) (ls : List (Option Nat)) (Y : Option Nat) : 0 ≤ earlyD F ls Y ∧ earlyD F ls Y ≤ 3 := by
  unfold earlyD
  repeat' split
  all_goals omega

/-- behind the statement that calls Line -/
def RRowCut (w : World) (b7 b4 : Nat) (F G : FacD) (a : Option Addr) (n cap : Nat) (s8 : Value) (gb : Bool) (W : World) : Prop :=
  ∃ ga gn gcp, s8 = .bool gb ∧ Cells4 W b7 (.int .i64 G.cols) (.slice ga gn gcp) (.int .i64 G.rws) (.int .i64 G.trn) ∧ Row W (.slice ga gn gcp) G.xs ∧ Cells4 W b4 (.int .i64 0) (.slice none 0 0) (.int .i64 0) (.int .i64 0) ∧
    Cells4 W w.heap.size (.int .i64 F.cols) (.slice a n cap) (.int .i64 F.rws) (.int .i64 F.trn) ∧ b4 < b7 ∧ Below w.heap.size w W
theorem Cells4.newRow {W : World} {a : Option Addr} {n cap : Nat} {xs : List (Option Nat)} (h : Row W (.slice a n cap) xs) (o : Obj) : Row (W.alloc o) (.slice a n cap) xs := h.alloc o
end Go.Proofs.YtmmligbkecilfaaGreatDoor
namespace Go.Proofs.YtmmligbkecilfaaGreatDoor
open Go.RowKit Lv Go.Shelf
open Ieee (double Format Datum Toward)
attribute [local go_sem] Oper.semAt_some run_store_float drewN_alloc drewN_setCell

/-- the line of a ridge -/
def ridgeL (c j : Nat) (mu : Option Nat) : List (Option Nat) := (List.replicate (c + 1) (some 0)).set j mu
/-- n lines of a ridge, from j on -/
def ridgeLoop (c : Nat) (mu : Option Nat) : Nat → Nat → FacD → FacD × Bool
  | 0, _, G => (G, true)
  | n + 1, j, G => if (lineD G (ridgeL c j mu) j).2 = false then (fac0, false) else ridgeLoop c mu n (j + 1) (lineD G (ridgeL c j mu) j).1
/-- is a ridge refused, or 0, ahead of all? -/
def ridgeEarly (F : FacD) (mu : Option Nat) : Option (FacD × Int) :=
  if F.ok = false then some (fac0, 1) else if (outF mu || sgnF mu) = true then some (fac0, 2) else if zeroF mu = true then some (F, 0)
  else if 4096 < F.trn + F.cols * (F.cols + 1) then some (fac0, 6) else none
def ridgeD (F : FacD) (mu : Option Nat) : FacD × Int :=
  match ridgeEarly F mu with
  | some r => r
  | none => if (ridgeLoop F.cols.toNat mu F.cols.toNat 0 F).2 = false then (fac0, 2)
      else (⟨(ridgeLoop F.cols.toNat mu F.cols.toNat 0 F).1.cols, (ridgeLoop F.cols.toNat mu F.cols.toNat 0 F).1.xs, (ridgeLoop F.cols.toNat mu F.cols.toNat 0 F).1.rws, F.trn + F.cols * (F.cols + 1)⟩, 0)
theorem ridgeD_some {F : FacD} {mu : Option Nat} {r : FacD × Int} (h : ridgeEarly F mu = some r) : ridgeD F mu = r := by unfold ridgeD; rw [h]
theorem cols_sq {c : Int} (h1 : 1 ≤ c) (h6 : c ≤ 6) : 2 ≤ c * (c + 1) ∧ c * (c + 1) ≤ 42 := by
  obtain ⟨n, rfl⟩ := Int.eq_ofNat_of_zero_le (show 0 ≤ c by omega)
  have : ∀ n : Nat, n < 7 → 1 ≤ n → 2 ≤ (n : Int) * ((n : Int) + 1) ∧ (n : Int) * ((n : Int) + 1) ≤ 42 := by decide +kernel
  exact this n (by omega) (by omega)
theorem is_zero' (b : Nat) (hb : W64 b) : (FloatKind.f64.format.order b 0 == some Ordering.eq) = decide (b % 9223372036854775808 = 0) := is_zero b hb


theorem sgn_word {y : Nat} {mu : Option Nat} (hy : FW y mu) (ho : outF mu = false) : decide (9223372036854775808 ≤ y) = sgnF mu := by
  obtain ⟨_, h⟩ := hy
  cases mu with
  | none => cases ho
  | some c => obtain ⟨rfl, _⟩ := ab_some h; rfl

end Go.Proofs.YtmmligbkecilfaaGreatDoor
