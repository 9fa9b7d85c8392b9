/- Triangles: has, Line, Set, New, At, Get. -/
import Derived.Test.YtaabfjfaljhjmaaG
namespace Go.Proofs.Ytaabfjfaljhjmaa
open Go.RowKit Lv Go.Shelf

/-- a factor's value -/
def facV (cols : Int) (a : Option Addr) (n cap : Nat) (rws trn : Int) : Value := .agg #[.int .i64 cols, .slice a n cap, .int .i64 rws, .int .i64 trn]

theorem Row.alloc {w : World} {v : Value} {xs : List (Option Nat)} (h : Row w v xs) (o : Obj) : Row (w.alloc o) v xs :=
  h.below ((Below.refl _ _).alloc (Nat.le_refl _) _)

theorem has_calls (cols rws trn i : Int) (a : Option Addr) (n cap : Nat) (xs : List (Option Nat)) (w : World) (h : Row w (.slice a n cap) xs) :
    Calls Try.prog 64 #[.agg #[.int .i64 cols, .slice a n cap, .int .i64 rws, .int .i64 trn], .int .i64 i] w fun e w' =>
      e = .returned (.bool (checkP cols xs rws trn && decide (0 ≤ i) && decide (i ≤ cols))) ∧ Below w.heap.size w w' := by
  have hr := h.alloc (.cells #[.int .i64 cols, .slice a n cap, .int .i64 rws, .int .i64 trn] 24)
  clear h
  go_enter Try.func64, Try.ntmps64
  go_wp2_with (go_at_call 22; refine (check_calls _ _ _ _ _ _ xs _ hr).mono ?_; rintro e w1 ⟨rfl, hb⟩; have q0 := (hb.cell (p := ⟨w.heap.size, 0, none⟩) (by simp)).trans (show _ = some (.int .i64 cols) by simp [go_sem]))
  all_goals
    go_ret
    exact ⟨ret_bool (by simp [*] <;> omega), ((Below.refl _ _).alloc (Nat.le_refl _) _).trans (hb.mono (by simp))⟩

/-- a list of values that stand for floats -/
def Vals (vs : List Value) (xs : List (Option Nat)) : Prop := vs.length = xs.length ∧ ∀ i, i < xs.length → ∃ b, vs[i]? = some (.float .f64 b) ∧ FW b (xs.getD i none)

theorem Vals.append {u v : List Value} {xs ys : List (Option Nat)} (h : Vals u xs) (k : Vals v ys) : Vals (u ++ v) (xs ++ ys) := by
  refine ⟨by rw [List.length_append, List.length_append, h.1, k.1], fun i hi => ?_⟩
  rw [List.length_append] at hi
  by_cases hx : i < xs.length
  · obtain ⟨b, h1, h2⟩ := h.2 i hx
    exact ⟨b, by rw [List.getElem?_append_left (by rw [h.1]; exact hx)]; exact h1, by rw [List.getD_eq_getElem?_getD, List.getElem?_append_left hx, ← List.getD_eq_getElem?_getD]; exact h2⟩
  · obtain ⟨b, h1, h2⟩ := k.2 (i - xs.length) (by omega)
    exact ⟨b, by rw [List.getElem?_append_right (by rw [h.1]; omega), h.1]; exact h1, by rw [List.getD_eq_getElem?_getD, List.getElem?_append_right (by omega), ← List.getD_eq_getElem?_getD]; exact h2⟩

theorem fw_zero : FW 0 (some 0) := ⟨by unfold W64; omega, by decide⟩
theorem Vals.zeros (n : Nat) : Vals (List.replicate n (.float .f64 0)) (List.replicate n (some 0)) := by
  refine ⟨by simp, fun i hi => ⟨0, ?_, ?_⟩⟩
  · rw [List.length_replicate] at hi
    simp [hi]
  · rw [List.length_replicate] at hi
    simp [List.getD_eq_getElem?_getD, hi, fw_zero]
theorem Vals.set {vs : List Value} {xs : List (Option Nat)} (h : Vals vs xs) (j : Nat) {b : Nat} {x : Option Nat} (hb : FW b x) : Vals (vs.set j (.float .f64 b)) (xs.set j x) := by
  refine ⟨by simp [h.1], fun i hi => ?_⟩
  rw [List.length_set] at hi
  rw [List.getD_eq_getElem?_getD, List.getElem?_set, List.getElem?_set]
  by_cases hij : j = i
  · subst hij
    refine ⟨b, by rw [if_pos rfl, if_pos (by rw [h.1]; exact hi)], ?_⟩
    rw [if_pos rfl, if_pos hi]
    exact hb
  · rw [if_neg hij, if_neg hij, ← List.getD_eq_getElem?_getD]
    exact h.2 i hi
theorem Vals.one {vs : List Value} {xs : List (Option Nat)} (h : Vals vs xs) : ∀ u ∈ vs, u.oneCell' = true := by
  intro u hu
  obtain ⟨i, hi, rfl⟩ := List.mem_iff_getElem.1 hu
  obtain ⟨b, h1, _⟩ := h.2 i (by rw [← h.1]; exact hi)
  rw [List.getElem?_eq_getElem hi] at h1
  simp only [Option.some.injEq] at h1
  rw [h1]; rfl

/-- what a row's cells hold -/
theorem Row.vals {w : World} {a : Addr} {n cap : Nat} {xs : List (Option Nat)} (h : Row w (.slice (some a) n cap) xs) :
    ∃ vs, Vals vs xs ∧ vs.length = n ∧ ∀ j u, vs[j]? = some u → w.cell? (a.add j) = some u := by
  obtain ⟨a', cap', hv, h1, h2, h3⟩ := h
  simp only [Value.slice.injEq] at hv
  obtain ⟨rfl, rfl, rfl⟩ := hv
  rcases h3 with ⟨h3, _⟩ | ⟨blk, off, ha, hc⟩
  · refine ⟨[], ⟨by simp [h3], fun i hi => by omega⟩, by simp [h3], fun j u hj => by simp at hj⟩
  · simp only [Option.some.injEq] at ha
    subst ha
    have hf : ∃ f : Nat → Nat, ∀ i, i < xs.length → w.cell? ⟨blk, off + i, none⟩ = some (.float .f64 (f i)) ∧ FW (f i) (xs.getD i none) :=
      ⟨fun i => if h : i < xs.length then Classical.choose (hc i h) else 0, fun i hi => by dsimp only; rw [dif_pos hi]; exact Classical.choose_spec (hc i hi)⟩
    obtain ⟨f, hf⟩ := hf
    refine ⟨(List.range xs.length).map fun i => .float .f64 (f i), ⟨by simp, fun i hi => ⟨f i, by simp [hi], (hf i hi).2⟩⟩, by simp, fun j u hj => ?_⟩
    have hj' : j < xs.length := by
      by_cases hh : j < xs.length
      · exact hh
      · rw [List.getElem?_eq_none (by simp; omega)] at hj; cases hj
    simp [hj'] at hj
    subst hj
    have := (hf j hj').1
    unfold Addr.add
    split
    · rename_i hz; subst hz; exact this
    · exact this

/-- a slice value that owns its floats, in a block from B on -/
def OwnV (w : World) (B : Nat) (v : Value) (xs : List (Option Nat)) : Prop := ∃ vs, w.ownsRow B 37 1 v xs.length vs ∧ Vals vs xs

theorem OwnV.row {w : World} {B : Nat} {v : Value} {xs : List (Option Nat)} (h : OwnV w B v xs) : Row w v xs := by
  obtain ⟨vs, hown, hv⟩ := h
  rcases hown.2 with ⟨rfl, h0⟩ | ⟨g, cap, cur, rfl, _, _, h1, h2, _⟩
  · exact ⟨none, 0, by rw [h0], by omega, by unfold maxLen; omega, .inl ⟨h0, fun _ => rfl⟩⟩
  · refine ⟨some ⟨g, 0, none⟩, cap, rfl, h1, h2, .inr ⟨g, 0, rfl, fun i hi => ?_⟩⟩
    obtain ⟨b, hb1, hb2⟩ := hv.2 i hi
    exact ⟨b, by rw [Nat.zero_add, hown.cellAt i (by omega)]; exact hb1, hb2⟩

theorem OwnV.kept {w w' : World} {B : Nat} {v : Value} {xs : List (Option Nat)} {row : Option Nat} (h : OwnV w B v xs) (hg : w.grownBy w' row) (hne : v.ownBlock = none ∨ v.ownBlock ≠ row) : OwnV w' B v xs := by
  obtain ⟨vs, hown, hv⟩ := h
  exact ⟨vs, hown.kept hg hne, hv⟩

theorem OwnV.below {w w' : World} {B C : Nat} {v : Value} {xs : List (Option Nat)} (h : OwnV w B v xs) (hb : Below C w w') (hC : w.heap.size ≤ C) : OwnV w' B v xs := by
  obtain ⟨vs, hown, hv⟩ := h
  refine ⟨vs, ⟨hown.1, ?_⟩, hv⟩
  rcases hown.2 with h0 | ⟨g, cap, cur, h1, h2, h3, h4⟩
  · exact .inl h0
  · have : g < w.heap.size := (Array.getElem?_eq_some_iff.1 h3).1
    exact .inr ⟨g, cap, cur, h1, h2, by rw [hb.block g (by omega)]; exact h3, h4⟩

theorem OwnV.shape {w : World} {B : Nat} {v : Value} {xs : List (Option Nat)} (h : OwnV w B v xs) (hl : 0 < xs.length) : ∃ g cap, v = .slice (some ⟨g, 0, none⟩) xs.length cap ∧ B ≤ g ∧ g < w.heap.size ∧ xs.length ≤ cap ∧ cap ≤ maxLen := by
  obtain ⟨vs, hown, hv⟩ := h
  rcases hown.2 with ⟨_, h0⟩ | ⟨g, cap, cur, h1, h2, h3, h4, h5, _⟩
  · omega
  · exact ⟨g, cap, h1, h2, (Array.getElem?_eq_some_iff.1 h3).1, h4, h5⟩

theorem OwnV.cell {w : World} {B g n cap : Nat} {xs : List (Option Nat)} (h : OwnV w B (.slice (some ⟨g, 0, none⟩) n cap) xs) (hn : xs.length = n) {j : Nat} (hj : j < n) :
    ∃ b, w.cell? ⟨g, j, none⟩ = some (.float .f64 b) ∧ FW b (xs.getD j none) := by
  subst hn
  obtain ⟨vs, hown, hv⟩ := h
  obtain ⟨b, hb1, hb2⟩ := hv.2 j hj
  exact ⟨b, by rw [hown.cellAt j (by omega)]; exact hb1, hb2⟩
theorem OwnV.frozen {w : World} {B g n cap : Nat} {xs : List (Option Nat)} (h : OwnV w B (.slice (some ⟨g, 0, none⟩) n cap) xs) (hn : xs.length = n) (j : Nat) : w.frozen? ⟨g, j, none⟩ = false := by
  subst hn
  obtain ⟨vs, hown, hv⟩ := h
  exact hown.frozenAt j
theorem OwnV.set {w : World} {B g n cap : Nat} {xs : List (Option Nat)} (h : OwnV w B (.slice (some ⟨g, 0, none⟩) n cap) xs) (hn : xs.length = n) (j : Nat) {b : Nat} {x : Option Nat} (hb : FW b x) :
    OwnV (w.setCell ⟨g, j, none⟩ (.float .f64 b)) B (.slice (some ⟨g, 0, none⟩) n cap) (xs.set j x) := by
  subst hn
  obtain ⟨vs, hown, hv⟩ := h
  refine ⟨vs.set j (.float .f64 b), ?_, hv.set j hb⟩
  rw [List.length_set]
  exact (hown.stored j _).1

theorem cell_set_ne {W : World} {b o b' o' : Nat} {u v : Value} (h : W.cell? ⟨b', o', none⟩ = some u) (hne : b ≠ b') : (W.setCell ⟨b, o, none⟩ v).cell? ⟨b', o', none⟩ = some u :=
  (World.cell?_of_block (w := W) (a := ⟨b', o', none⟩) (Below.heap_setCell W ⟨b, o, none⟩ v b' (fun e => hne e.symm))).trans h
theorem cell_set_eq {W : World} {b o : Nat} {u v : Value} (h : W.cell? ⟨b, o, none⟩ = some u) : (W.setCell ⟨b, o, none⟩ v).cell? ⟨b, o, none⟩ = some v :=
  World.cell?_setCell_same' _ _ _ (by rw [h]; rfl)
theorem frozen_set {W : World} {b o b' o' : Nat} {v : Value} {t : Bool} (h : W.frozen? ⟨b', o', none⟩ = t) : (W.setCell ⟨b, o, none⟩ v).frozen? ⟨b', o', none⟩ = t := by
  rw [World.frozen?_setCell]; exact h
theorem OwnV.setOther {w : World} {B g n cap b o : Nat} {u : Value} {xs : List (Option Nat)} (h : OwnV w B (.slice (some ⟨g, 0, none⟩) n cap) xs) (hne : b ≠ g) : OwnV (w.setCell ⟨b, o, none⟩ u) B (.slice (some ⟨g, 0, none⟩) n cap) xs := by
  obtain ⟨vs, hown, hv⟩ := h
  exact ⟨vs, ownsRow_setCell_other hown (fun e => hne (Option.some.inj e).symm) u, hv⟩
theorem ne_blk {a b o n cap : Nat} (h : a ≠ b) : (some a : Option Nat) ≠ Value.ownBlock (.slice (some ⟨b, o, none⟩) n cap) := fun e => h (Option.some.inj e)
theorem OwnV.block {w : World} {B g n cap : Nat} {xs : List (Option Nat)} (h : OwnV w B (.slice (some ⟨g, 0, none⟩) n cap) xs) : ∃ cur, w.heap[g]? = some (.cells cur 37 (0, 0)) := by
  obtain ⟨vs, hown, hv⟩ := h
  rcases hown.2 with ⟨h, _⟩ | ⟨g', cap', cur, h1, h2, h3, h4⟩
  · simp at h
  · simp only [Value.slice.injEq, Option.some.injEq, Addr.mk.injEq, and_true] at h1
    obtain ⟨rfl, _⟩ := h1
    exact ⟨cur, h3⟩
theorem cell_set_off {W : World} {b o o' : Nat} {u v : Value} (h : W.cell? ⟨b, o', none⟩ = some u) (hne : o ≠ o') : (W.setCell ⟨b, o, none⟩ v).cell? ⟨b, o', none⟩ = some u :=
  (World.cell?_setCell_other W ⟨b, o, none⟩ ⟨b, o', none⟩ v (by simp)).trans h
theorem OwnV.mono {w : World} {B B' : Nat} {v : Value} {xs : List (Option Nat)} (h : OwnV w B v xs) (hB : B' ≤ B) : OwnV w B' v xs := by
  obtain ⟨vs, hown, hv⟩ := h
  refine ⟨vs, ⟨hown.1, ?_⟩, hv⟩
  rcases hown.2 with h0 | ⟨g, cap, cur, h1, h2, h3⟩
  · exact .inl h0
  · exact .inr ⟨g, cap, cur, h1, Nat.le_trans hB h2, h3⟩
end Go.Proofs.Ytaabfjfaljhjmaa
