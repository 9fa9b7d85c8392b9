/- Rows of data in memory; many rows absorbed, plainly; the program's All, walked. Many rows absorbed: the reference's All, walked. -/
import Derived.Test.YtmmligbkecilfaaGreatDoorSf
import Derived.Test.YtmmligbkecilfaaGreatDoorSi
import Derived.LoopTactic
import Derived.Deep.CutRange
namespace Go.Proofs.YtmmligbkecilfaaGreatDoor
open Go.RowKit Lv Go.Shelf
open Ieee (double Format Datum Toward)
attribute [local go_sem] Oper.semAt_some run_store_float drewN_alloc drewN_setCell

/-- a row of data -/
abbrev RowD := List (Option Nat) × Option Nat
/-- a slice value that reads as rows of data -/
def Rws (w : World) (v : Value) (rs : List RowD) : Prop :=
  ∃ (a : Option Addr) (cap : Nat), v = .slice a rs.length cap ∧ rs.length ≤ cap ∧ cap ≤ maxLen ∧
    (rs.length = 0 ∨ ∃ blk off, a = some ⟨blk, off, none⟩ ∧ ∀ i, i < rs.length → ∃ b m d y, w.cell? ⟨blk, off + i * 2, none⟩ = some (.slice b m d) ∧ w.cell? ⟨blk, off + i * 2 + 1, none⟩ = some (.float .f64 y) ∧ Row w (.slice b m d) (rs.getD i ([], none)).1 ∧ FW y (rs.getD i ([], none)).2)
theorem Rws.below {w w' : World} {v : Value} {rs : List RowD} (h : Rws w v rs) (hb : Below w.heap.size w w') : Rws w' v rs := by
  obtain ⟨a, cap, rfl, h1, h2, h3⟩ := h
  refine ⟨a, cap, rfl, h1, h2, ?_⟩
  rcases h3 with h3 | ⟨blk, off, rfl, hc⟩
  · exact .inl h3
  · refine .inr ⟨blk, off, rfl, fun i hi => ?_⟩
    obtain ⟨b, m, d, y, k1, k2, k3, k4⟩ := hc i hi
    exact ⟨b, m, d, y, (hb.cell (p := ⟨blk, off + i * 2, none⟩) (cell_lt k1)).trans k1, (hb.cell (p := ⟨blk, off + i * 2 + 1, none⟩) (cell_lt k2)).trans k2, k3.below hb, k4⟩
theorem Rws.len {w : World} {a : Option Addr} {n cap : Nat} {rs : List RowD} (h : Rws w (.slice a n cap) rs) : rs.length = n ∧ n ≤ 9223372036854775807 := by
  obtain ⟨_, _, hv, h1, h2, _⟩ := h
  simp only [Value.slice.injEq] at hv
  unfold maxLen at h2
  obtain ⟨_, rfl, rfl⟩ := hv
  exact ⟨rfl, by omega⟩
theorem Rws.at {w : World} {a : Option Addr} {n cap : Nat} {rs : List RowD} (h : Rws w (.slice a n cap) rs) (hn : 0 < n) : ∃ blk off, a = some ⟨blk, off, none⟩ ∧ ∀ i, i < n → ∃ b m d y, w.cell? ⟨blk, off + i * 2, none⟩ = some (.slice b m d) ∧ w.cell? ⟨blk, off + i * 2 + 1, none⟩ = some (.float .f64 y) ∧ Row w (.slice b m d) (rs.getD i ([], none)).1 ∧ FW y (rs.getD i ([], none)).2 := by
  obtain ⟨a', cap', hv, h1, h2, h3⟩ := h
  simp only [Value.slice.injEq] at hv
  obtain ⟨rfl, rfl, rfl⟩ := hv
  rcases h3 with h3 | h3
  · omega
  · exact h3

/-- rows absorbed one by one, k of them already -/
def allLoop : Nat → FacD → List RowD → FacD × Int × Int
  | k, F, [] => (F, (k : Int), 0)
  | k, F, r :: rs => if (rowD F r.1 r.2).2 ≠ 0 then (F, (k : Int), (rowD F r.1 r.2).2) else allLoop (k + 1) (rowD F r.1 r.2).1 rs
def allD (F : FacD) (rs : List RowD) : FacD × Int × Int := if F.ok = false then (fac0, 0, 1) else allLoop 0 F rs
/-- a factor, a count and an error -/
def FacN (G : FacD × Int × Int) (e : Ending) (w' : World) : Prop := ∃ a n cap, e = .returned (.tuple #[.agg #[.int .i64 G.1.cols, .slice a n cap, .int .i64 G.1.rws, .int .i64 G.1.trn], .int .i64 G.2.1, .int .i64 G.2.2]) ∧ Row w' (.slice a n cap) G.1.xs

theorem all_step {k : Nat} {G : FacD} {rs : List RowD} {R : FacD × Int × Int} (hk : k < rs.length) (h : allLoop k G (rs.drop k) = R) :
    ((rowD G (rs.getD k ([], none)).1 (rs.getD k ([], none)).2).2 ≠ 0 ∧ R = (G, (k : Int), (rowD G (rs.getD k ([], none)).1 (rs.getD k ([], none)).2).2)) ∨
    ((rowD G (rs.getD k ([], none)).1 (rs.getD k ([], none)).2).2 = 0 ∧ allLoop (k + 1) (rowD G (rs.getD k ([], none)).1 (rs.getD k ([], none)).2).1 (rs.drop (k + 1)) = R) := by
  have e : rs.getD k ([], none) = rs[k] := by rw [List.getD_eq_getElem?_getD, List.getElem?_eq_getElem hk]; rfl
  rw [e]
  rw [List.drop_eq_getElem_cons hk] at h
  unfold allLoop at h
  by_cases h2 : (rowD G rs[k].1 rs[k].2).2 ≠ 0
  · rw [if_pos h2] at h; exact .inl ⟨h2, h.symm⟩
  · rw [if_neg h2] at h; exact .inr ⟨by simpa using h2, h⟩

/-- what stands at the loop's head -/
structure NInv (w : World) (R : FacD × Int × Int) (rs : List RowD) (t : Option Addr) (tn tc : Nat) (W : World) (k : Nat) (G : FacD) (a : Option Addr) (n cap : Nat) : Prop where
  c2 : Cells4 W w.heap.size (.int .i64 G.cols) (.slice a n cap) (.int .i64 G.rws) (.int .i64 G.trn)
  c4 : Cells4 W (w.heap.size + 1) (.int .i64 0) (.slice none 0 0) (.int .i64 0) (.int .i64 0)
  row : Row W (.slice a n cap) G.xs
  rws : Rws W (.slice t tn tc) rs
  eq : allLoop k G (rs.drop k) = R
  below : Below w.heap.size w W

theorem facN_no (k err : Int) {e : Ending} {w' : World} (h : e = .returned (.tuple #[facZ, .int .i64 k, .int .i64 err])) : FacN (fac0, k, err) e w' := ⟨none, 0, 0, h, row_nil _⟩

end Go.Proofs.YtmmligbkecilfaaGreatDoor
namespace Go.Proofs.YtmmligbkecilfaaGreatDoor
open Go.RowKit Lv Go.Shelf
open Ieee (double Format Datum Toward)
attribute [local go_sem] Oper.semAt_some run_store_float drewN_alloc drewN_setCell

/-- behind the statement that calls Row -/
def AllCut (wr : World) (ge : Int) (G : FacD) (s8 s9 : Value) (W : World) : Prop :=
  ∃ (b8 : Nat) (ga : Option Addr) (gn gcp : Nat), s8 = .pointer (some ⟨b8, 0, none⟩) ∧ s9 = .int .i64 ge ∧ Cells4 W b8 (.int .i64 G.cols) (.slice ga gn gcp) (.int .i64 G.rws) (.int .i64 G.trn) ∧ Row W (.slice ga gn gcp) G.xs ∧ Below wr.heap.size wr W ∧ wr.heap.size ≤ b8

end Go.Proofs.YtmmligbkecilfaaGreatDoor
