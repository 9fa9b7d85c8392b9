/- A row's entries, of a row that has some; what is refused of a row ahead of counting. -/
import Derived.Test.YtaabfjfaljhjmaaSb
namespace Go.Proofs.Ytaabfjfaljhjmaa
open Go.RowKit Lv Go.Shelf
open Ieee (double Format Datum Toward)
attribute [local go_sem] run_store_float drewN_alloc drewN_setCell

theorem row_one (w : World) (y : Nat) {Y : Option Nat} (hy : FW y Y) : Row (w.alloc (.cells #[.float .f64 y] 37)) (.slice (some ⟨w.heap.size, 0, none⟩) 1 1) [Y] := by
  refine ⟨_, _, rfl, Nat.le_refl _, by unfold maxLen; omega, .inr ⟨w.heap.size, 0, rfl, fun i hi => ?_⟩⟩
  obtain rfl : i = 0 := by simp at hi; omega
  exact ⟨y, by simp [go_sem], hy⟩

set_option maxRecDepth 100000 in
theorem rentries_calls (b : Option Addr) (m d y : Nat) (ls : List (Option Nat)) {Y : Option Nat} (w : World) (h : Row w (.slice b m d) ls) (hy : FW y Y) (h0 : 0 < m) (h9 : m ≤ 900) :
    Calls Try.prog 39 #[.agg #[.slice b m d, .float .f64 y]] w fun e w' => ∃ v, e = .returned v ∧ OwnV w' w.heap.size v (ls ++ [Y]) ∧ Below w.heap.size w w' := by
  obtain ⟨lb, lo, rfl, hlb, hlen⟩ := h.shape h0
  have HR := Lib.hid h
  have HL := Lib.hid hlen
  have HY := Lib.hid hy
  clear h hlen hy
  go_enter Try.func39, Try.ntmps39
  go_wp2_with (first | (at_builtin; refine wpList_append_F _ rfl _ _ rfl (w.heap.size + 1) _ [] ls rfl (ownV_empty' (w.alloc (.cells #[.slice (some ⟨lb, lo, none⟩) m d, .float .f64 y] 45)) _ (w.heap.size + 1) (by simp) (by simp)) _ _ _ rfl ((HR.out.alloc _).alloc _) (by rw [List.length_nil, HL.out]; omega) HL.out (by simp) ?_; intro v8 w2 hown8 hg8; rw [List.nil_append] at hown8; obtain ⟨g8, cap8, hv8, hk1, hk2, hk3, hk4⟩ := hown8.shape (by rw [HL.out]; exact h0); rw [HL.out] at hv8; subst hv8; have c1 := hg8.cell (a := ⟨w.heap.size, 1, none⟩) (v := .float .f64 y) (by simp [go_sem]) (ne_blk (by simp)); have HB2 := Lib.hid ((((Below.refl w.heap.size w).alloc (Nat.le_refl _) (.cells #[.slice (some ⟨lb, lo, none⟩) m d, .float .f64 y] 45)).alloc (by simp) (.cells #[] 37)).grown hg8 (by simp; omega) (fun k e => by cases e; simp)); have HO := Lib.hid hown8; clear hown8) | (at_builtin; go_must (refine wpList_append_F _ rfl _ _ rfl (w.heap.size + 1) _ ls [Y] rfl (HO.out.below ((Below.refl _ _).alloc (Nat.le_refl _) (.cells #[.float .f64 y] 37)) (Nat.le_refl _)) _ _ _ rfl (row_one w2 y HY.out) (by rw [HL.out]; simp; omega) rfl (by simp; omega) ?_; intro v9 w3 hown9 hg9)))
  go_ret
  refine ⟨v9, rfl, hown9.mono (by omega), ?_⟩
  exact (HB2.out.alloc (by omega) (.cells #[.float .f64 y] 37)).grown hg9 (by simp; omega) (fun k e => by cases e; show w.heap.size ≤ g8; omega)
end Go.Proofs.Ytaabfjfaljhjmaa
