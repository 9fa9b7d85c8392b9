/- A ridge: the program's loop over the columns. A ridge: the reference's loop over the columns. -/
import Derived.Test.YtmmligbkecilfaaGreatDoorSi
import Derived.LoopTactic
namespace Go.Proofs.YtmmligbkecilfaaGreatDoor
open Go.RowKit Lv Go.Shelf
open Ieee (double Format Datum Toward)
attribute [local go_sem] Oper.semAt_some run_store_float drewN_alloc drewN_setCell

theorem ridge_none {F : FacD} {mu : Option Nat} (h : ridgeEarly F mu = none) : F.ok = true ∧ outF mu = false ∧ sgnF mu = false ∧ zeroF mu = false ∧ ¬ 4096 < F.trn + F.cols * (F.cols + 1) := by
  unfold ridgeEarly at h
  by_cases h1 : F.ok = false
  · rw [if_pos h1] at h; cases h
  · rw [if_neg h1] at h
    cases h2 : (outF mu || sgnF mu) with
    | true => rw [h2, if_pos rfl] at h; cases h
    | false =>
      rw [h2, if_neg (by decide)] at h
      cases h3 : zeroF mu with
      | true => rw [h3, if_pos rfl] at h; cases h
      | false =>
        rw [h3, if_neg (by decide)] at h
        by_cases h4 : 4096 < F.trn + F.cols * (F.cols + 1)
        · rw [if_pos h4] at h; cases h
        · rw [Bool.or_eq_false_iff] at h2
          exact ⟨by simpa using h1, h2.1, h2.2, rfl, h4⟩
theorem ridgeD_none {F : FacD} {mu : Option Nat} (h : ridgeEarly F mu = none) {R : FacD × Bool} (hR : ridgeLoop F.cols.toNat mu F.cols.toNat 0 F = R) : ridgeD F mu = if R.2 = false then (fac0, 2) else (⟨R.1.cols, R.1.xs, R.1.rws, F.trn + F.cols * (F.cols + 1)⟩, 0) := by
  unfold ridgeD
  rw [h, hR]

theorem own_made (W : World) (B c : Nat) (hB : B ≤ W.heap.size) (hc : c ≤ 6) : OwnV (W.alloc (.cells (madeCells #[.float .f64 0] (c + 1)) 25)) B (.slice (some ⟨W.heap.size, 0, none⟩) (c + 1) (c + 1)) (List.replicate (c + 1) (some 0)) := by
  refine ⟨List.replicate (c + 1) (.float .f64 0), ⟨by simp, .inr ⟨W.heap.size, c + 1, madeCells #[.float .f64 0] (c + 1), by simp, by omega, ?_, by simp, by unfold maxLen; omega, by rw [size_madeCells]; simp, ?_⟩⟩, Vals.zeros (c + 1)⟩
  · exact World.alloc_heap_new W _
  · rw [toList_madeCells_one]; simp
theorem row_made (W : World) (c j y : Nat) {mu : Option Nat} (hc : c ≤ 6) (hy : FW y mu) : Row ((W.alloc (.cells (madeCells #[.float .f64 0] (c + 1)) 25)).setCell ⟨W.heap.size, j, none⟩ (.float .f64 y)) (.slice (some ⟨W.heap.size, 0, none⟩) (c + 1) (c + 1)) (ridgeL c j mu) :=
  ((own_made W W.heap.size c (Nat.le_refl _) hc).set (by simp) j hy).row
theorem row_made' (W : World) (c j y : Nat) {mu : Option Nat} (hc : c ≤ 6) (hy : FW y mu) : Row (W.alloc (.cells ((madeCells #[.float .f64 0] (c + 1)).setIfInBounds j (.float .f64 y)) 25)) (.slice (some ⟨W.heap.size, 0, none⟩) (c + 1) (c + 1)) (ridgeL c j mu) := by
  have := row_made W c j y hc hy
  rw [World.setCell_alloc_at _ _ _ _ _ rfl] at this
  exact this
theorem made_at (c j : Nat) (h : j < c + 1) : (madeCells #[.float .f64 0] (c + 1))[j]? = some (Value.float .f64 0) := by
  rw [← Array.getElem?_toList, toList_madeCells_one, List.getElem?_replicate, if_pos h]

/-- what stands at the loop's head -/
structure GInv (w : World) (b b4 : Nat) (c : Nat) (rws trn : Int) (R : FacD × Bool) (mu : Option Nat) (W : World) (j : Nat) (gx : List (Option Nat)) (a : Option Addr) (n cap : Nat) : Prop where
  c2 : Cells4 W b (.int .i64 (c : Int)) (.slice a n cap) (.int .i64 rws) (.int .i64 trn)
  c4 : Cells4 W b4 (.int .i64 0) (.slice none 0 0) (.int .i64 0) (.int .i64 0)
  row : Row W (.slice a n cap) gx
  eq : ridgeLoop c mu (c - j) j ⟨c, gx, rws, trn⟩ = R
  below : Below w.heap.size w W
theorem ridge_step {c j : Nat} {mu : Option Nat} {gx : List (Option Nat)} {rws trn : Int} {R : FacD × Bool} (hj : j < c) (h : ridgeLoop c mu (c - j) j ⟨c, gx, rws, trn⟩ = R) :
    ((lineD ⟨c, gx, rws, trn⟩ (ridgeL c j mu) j).2 = false ∧ R = (fac0, false)) ∨ (∃ gy, lineD ⟨c, gx, rws, trn⟩ (ridgeL c j mu) j = (⟨c, gy, rws, trn⟩, true) ∧ ridgeLoop c mu (c - (j + 1)) (j + 1) ⟨c, gy, rws, trn⟩ = R) := by
  rw [show c - j = (c - (j + 1)) + 1 by omega] at h
  unfold ridgeLoop at h
  cases h2 : (lineD ⟨c, gx, rws, trn⟩ (ridgeL c j mu) j).2 with
  | false => rw [if_pos h2] at h; exact .inl ⟨rfl, h.symm⟩
  | true =>
    rw [if_neg (by rw [h2]; decide)] at h
    obtain ⟨_, e1, e2, e3, _⟩ := lineD_ok h2
    dsimp only at e1 e2 e3
    generalize lineD ⟨c, gx, rws, trn⟩ (ridgeL c j mu) j = G at *
    obtain ⟨⟨a1, a2, a3, a4⟩, a5⟩ := G
    dsimp only at *
    subst e1 e2 e3 h2
    exact .inr ⟨a2, rfl, h⟩

end Go.Proofs.YtmmligbkecilfaaGreatDoor
namespace Go.Proofs.YtmmligbkecilfaaGreatDoor
open Go.RowKit Lv Go.Shelf
open Ieee (double Format Datum Toward)
attribute [local go_sem] Oper.semAt_some run_store_float drewN_alloc drewN_setCell

end Go.Proofs.YtmmligbkecilfaaGreatDoor
