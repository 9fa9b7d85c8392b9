/- A row's entries, of a row that has some; what is refused of a row ahead of counting. A row absorbed, plainly; what is refused of it, walked: Early, Row. -/
import Derived.Test.YtgmaljikjkbdlaaSb
namespace Go.Proofs.Ytgmaljikjkbdlaa
open Go.RowKit Lv Go.Shelf
open Ieee (double Format Datum Toward)
attribute [local go_sem] run_store_float drewN_alloc drewN_setCell

theorem row_one (w : World) (y : Nat) {Y : Option Nat} (hy : FW y Y) : Row (w.alloc (.cells #[.float .f64 y] 48)) (.slice (some ⟨w.heap.size, 0, none⟩) 1 1) [Y] := by
  refine ⟨_, _, rfl, Nat.le_refl _, by unfold maxLen; omega, .inr ⟨w.heap.size, 0, rfl, fun i hi => ?_⟩⟩
  obtain rfl : i = 0 := by simp at hi; omega
  exact ⟨y, by simp [go_sem], hy⟩

end Go.Proofs.Ytgmaljikjkbdlaa
namespace Go.Proofs.Ytgmaljikjkbdlaa
open Go.RowKit Lv Go.Shelf
open Ieee (double Format Datum Toward)
attribute [local go_sem] run_store_float drewN_alloc drewN_setCell

/-- what is wrong ahead of counting -/
def earlyD (F : FacD) (ls : List (Option Nat)) (Y : Option Nat) : Int :=
  if F.ok = false then 1 else if (ls.length : Int) ≠ F.cols then 3 else if (ls.any outF || outF Y) = true then 2 else 0
/-- is there no room? -/
def fullD (F : FacD) : Bool := decide (F.rws = 200) || decide (4096 < F.trn + (F.cols + 1))
/-- a row absorbed -/
def rowD (F : FacD) (ls : List (Option Nat)) (Y : Option Nat) : FacD × Int :=
  if earlyD F ls Y ≠ 0 then (fac0, earlyD F ls Y)
  else if fullD F = true then (fac0, 6)
  else if (lineD F (ls ++ [Y]) 0).2 = false then (fac0, 2)
  else (⟨(lineD F (ls ++ [Y]) 0).1.cols, (lineD F (ls ++ [Y]) 0).1.xs, F.rws + 1, F.trn + (F.cols + 1)⟩, 0)

theorem Row.form {w : World} {v : Value} {xs : List (Option Nat)} (h : Row w v xs) : ∃ a n cap, v = .slice a n cap := by
  obtain ⟨a, cap, hv, _⟩ := h
  exact ⟨a, _, cap, hv⟩
theorem ok_cols {F : FacD} (h : F.ok = true) : 1 ≤ F.cols ∧ F.cols ≤ 6 := checkP_cols h
theorem ok_rows {F : FacD} (h : F.ok = true) : 0 ≤ F.rws ∧ F.rws ≤ 200 ∧ 0 ≤ F.trn ∧ F.trn ≤ 4096 := by
  unfold FacD.ok checkP at h
  simp at h
  omega

theorem early_zero {F : FacD} {ls : List (Option Nat)} {Y : Option Nat} (h : earlyD F ls Y = 0) : F.ok = true ∧ (ls.length : Int) = F.cols ∧ ls.any outF = false ∧ outF Y = false := by
  unfold earlyD at h
  by_cases h1 : F.ok = false
  · rw [if_pos h1] at h; cases h
  · rw [if_neg h1] at h
    by_cases h2 : (ls.length : Int) ≠ F.cols
    · rw [if_pos h2] at h; cases h
    · rw [if_neg h2] at h
      cases h3 : (ls.any outF || outF Y) with
      | true => rw [h3, if_pos rfl] at h; cases h
      | false =>
        rw [Bool.or_eq_false_iff] at h3
        exact ⟨by simpa using h1, by simpa using h2, h3.1, h3.2⟩
theorem rowD_line {F : FacD} {ls : List (Option Nat)} {Y : Option Nat} (h : earlyD F ls Y = 0) (hf : fullD F = false) : rowD F ls Y = if (lineD F (ls ++ [Y]) 0).2 = false then (fac0, 2)
  else (⟨(lineD F (ls ++ [Y]) 0).1.cols, (lineD F (ls ++ [Y]) 0).1.xs, F.rws + 1, F.trn + (F.cols + 1)⟩, 0) := by unfold rowD; rw [h, if_neg (by decide), if_neg (by rw [hf]; decide)]

end Go.Proofs.Ytgmaljikjkbdlaa
