/- Triangles: has, Line, Set, New, At, Get. A triangle's row, whole: tri.Line. -/
import Derived.Test.YtmmligbkecilfaaGreatDoorG
import Derived.Maps.AppendAt
namespace Go.Proofs.YtmmligbkecilfaaGreatDoor
open Go.RowKit Lv Go.Shelf

/-- a factor's value -/
def facV (cols : Int) (a : Option Addr) (n cap : Nat) (rws trn : Int) : Value := .agg #[.int .i64 cols, .slice a n cap, .int .i64 rws, .int .i64 trn]

theorem Row.alloc {w : World} {v : Value} {xs : List (Option Nat)} (h : Row w v xs) (o : Obj) : Row (w.alloc o) v xs :=
  h.below ((Below.refl _ _).alloc (Nat.le_refl _) _)

theorem has_calls (cols rws trn i : Int) (a : Option Addr) (n cap : Nat) (xs : List (Option Nat)) (w : World) (h : Row w (.slice a n cap) xs) :
    Calls Tryz.prog 79 #[.agg #[.int .i64 cols, .slice a n cap, .int .i64 rws, .int .i64 trn], .int .i64 i] w fun e w' =>
      e = .returned (.bool (checkP cols xs rws trn && decide (0 ≤ i) && decide (i ≤ cols))) ∧ Below w.heap.size w w' := by
  have hr := h.alloc (.cells #[.int .i64 cols, .slice a n cap, .int .i64 rws, .int .i64 trn] 24)
  clear h
  go_enter Tryz.func79, Tryz.ntmps79
  go_wp2_with (go_at_call 29; refine (check_calls _ _ _ _ _ _ xs _ hr).mono ?_; rintro e w1 ⟨rfl, hb⟩; have q0 := (hb.cell (p := ⟨w.heap.size, 0, none⟩) (by simp)).trans (show _ = some (.int .i64 cols) by simp [go_sem]))
  all_goals
    go_ret
    exact ⟨ret_bool (by simp [*] <;> omega), ((Below.refl _ _).alloc (Nat.le_refl _) _).trans (hb.mono (by simp))⟩

/-- a list of values that stand for floats -/
def Vals (vs : List Value) (xs : List (Option Nat)) : Prop := vs.length = xs.length ∧ ∀ i, i < xs.length → ∃ b, vs[i]? = some (.float .f64 b) ∧ FW b (xs.getD i none)

theorem Vals.append {u v : List Value} {xs ys : List (Option Nat)} (h : Vals u xs) (k : Vals v ys) : Vals (u ++ v) (xs ++ ys) := by
  refine ⟨by rw [List.length_append, List.length_append, h.1, k.1], fun i hi => ?_⟩
  rw [List.length_append] at hi
  by_cases hx : i < xs.length
  · obtain ⟨b, h1, h2⟩ := h.2 i hx
    exact ⟨b, by rw [List.getElem?_append_left (by rw [h.1]; exact hx)]; exact h1, by rw [List.getD_eq_getElem?_getD, List.getElem?_append_left hx, ← List.getD_eq_getElem?_getD]; exact h2⟩
  · obtain ⟨b, h1, h2⟩ := k.2 (i - xs.length) (by omega)
    exact ⟨b, by rw [List.getElem?_append_right (by rw [h.1]; omega), h.1]; exact h1, by rw [List.getD_eq_getElem?_getD, List.getElem?_append_right (by omega), ← List.getD_eq_getElem?_getD]; exact h2⟩

theorem fw_zero : FW 0 (some 0) := ⟨by unfold W64; omega, by decide⟩
theorem Vals.zeros (n : Nat) : Vals (List.replicate n (.float .f64 0)) (List.replicate n (some 0)) := by
  refine ⟨by simp, fun i hi => ⟨0, ?_, ?_⟩⟩
  · rw [List.length_replicate] at hi
    simp [hi]
  · rw [List.length_replicate] at hi
    simp [List.getD_eq_getElem?_getD, hi, fw_zero]
theorem Vals.set {vs : List Value} {xs : List (Option Nat)} (h : Vals vs xs) (j : Nat) {b : Nat} {x : Option Nat} (hb : FW b x) : Vals (vs.set j (.float .f64 b)) (xs.set j x) := by
  refine ⟨by simp [h.1], fun i hi => ?_⟩
  rw [List.length_set] at hi
  rw [List.getD_eq_getElem?_getD, List.getElem?_set, List.getElem?_set]
  by_cases hij : j = i
  · subst hij
    refine ⟨b, by rw [if_pos rfl, if_pos (by rw [h.1]; exact hi)], ?_⟩
    rw [if_pos rfl, if_pos hi]
    exact hb
  · rw [if_neg hij, if_neg hij, ← List.getD_eq_getElem?_getD]
    exact h.2 i hi
theorem Vals.one {vs : List Value} {xs : List (Option Nat)} (h : Vals vs xs) : ∀ u ∈ vs, u.oneCell' = true := by
  intro u hu
  obtain ⟨i, hi, rfl⟩ := List.mem_iff_getElem.1 hu
  obtain ⟨b, h1, _⟩ := h.2 i (by rw [← h.1]; exact hi)
  rw [List.getElem?_eq_getElem hi] at h1
  simp only [Option.some.injEq] at h1
  rw [h1]; rfl

/-- what a row's cells hold -/
theorem Row.vals {w : World} {a : Addr} {n cap : Nat} {xs : List (Option Nat)} (h : Row w (.slice (some a) n cap) xs) :
    ∃ vs, Vals vs xs ∧ vs.length = n ∧ ∀ j u, vs[j]? = some u → w.cell? (a.add j) = some u := by
  obtain ⟨a', cap', hv, h1, h2, h3⟩ := h
  simp only [Value.slice.injEq] at hv
  obtain ⟨rfl, rfl, rfl⟩ := hv
  rcases h3 with ⟨h3, _⟩ | ⟨blk, off, ha, hc⟩
  · refine ⟨[], ⟨by simp [h3], fun i hi => by omega⟩, by simp [h3], fun j u hj => by simp at hj⟩
  · simp only [Option.some.injEq] at ha
    subst ha
    have hf : ∃ f : Nat → Nat, ∀ i, i < xs.length → w.cell? ⟨blk, off + i, none⟩ = some (.float .f64 (f i)) ∧ FW (f i) (xs.getD i none) :=
      ⟨fun i => if h : i < xs.length then Classical.choose (hc i h) else 0, fun i hi => by dsimp only; rw [dif_pos hi]; exact Classical.choose_spec (hc i hi)⟩
    obtain ⟨f, hf⟩ := hf
    refine ⟨(List.range xs.length).map fun i => .float .f64 (f i), ⟨by simp, fun i hi => ⟨f i, by simp [hi], (hf i hi).2⟩⟩, by simp, fun j u hj => ?_⟩
    have hj' : j < xs.length := by
      by_cases hh : j < xs.length
      · exact hh
      · rw [List.getElem?_eq_none (by simp; omega)] at hj; cases hj
    simp [hj'] at hj
    subst hj
    have := (hf j hj').1
    unfold Addr.add
    split
    · rename_i hz; subst hz; exact this
    · exact this

/-- a slice value that owns its floats, in a block from B on -/
def OwnV (w : World) (B : Nat) (v : Value) (xs : List (Option Nat)) : Prop := ∃ vs, w.ownsRow B 25 1 v xs.length vs ∧ Vals vs xs

theorem OwnV.row {w : World} {B : Nat} {v : Value} {xs : List (Option Nat)} (h : OwnV w B v xs) : Row w v xs := by
  obtain ⟨vs, hown, hv⟩ := h
  rcases hown.2 with ⟨rfl, h0⟩ | ⟨g, cap, cur, rfl, _, _, h1, h2, _⟩
  · exact ⟨none, 0, by rw [h0], by omega, by unfold maxLen; omega, .inl ⟨h0, fun _ => rfl⟩⟩
  · refine ⟨some ⟨g, 0, none⟩, cap, rfl, h1, h2, .inr ⟨g, 0, rfl, fun i hi => ?_⟩⟩
    obtain ⟨b, hb1, hb2⟩ := hv.2 i hi
    exact ⟨b, by rw [Nat.zero_add, hown.cellAt i (by omega)]; exact hb1, hb2⟩

theorem OwnV.kept {w w' : World} {B : Nat} {v : Value} {xs : List (Option Nat)} {row : Option Nat} (h : OwnV w B v xs) (hg : w.grownBy w' row) (hne : v.ownBlock = none ∨ v.ownBlock ≠ row) : OwnV w' B v xs := by
  obtain ⟨vs, hown, hv⟩ := h
  exact ⟨vs, hown.kept hg hne, hv⟩

theorem OwnV.below {w w' : World} {B C : Nat} {v : Value} {xs : List (Option Nat)} (h : OwnV w B v xs) (hb : Below C w w') (hC : w.heap.size ≤ C) : OwnV w' B v xs := by
  obtain ⟨vs, hown, hv⟩ := h
  refine ⟨vs, ⟨hown.1, ?_⟩, hv⟩
  rcases hown.2 with h0 | ⟨g, cap, cur, h1, h2, h3, h4⟩
  · exact .inl h0
  · have : g < w.heap.size := (Array.getElem?_eq_some_iff.1 h3).1
    exact .inr ⟨g, cap, cur, h1, h2, by rw [hb.block g (by omega)]; exact h3, h4⟩

theorem OwnV.shape {w : World} {B : Nat} {v : Value} {xs : List (Option Nat)} (h : OwnV w B v xs) (hl : 0 < xs.length) : ∃ g cap, v = .slice (some ⟨g, 0, none⟩) xs.length cap ∧ B ≤ g ∧ g < w.heap.size ∧ xs.length ≤ cap ∧ cap ≤ maxLen := by
  obtain ⟨vs, hown, hv⟩ := h
  rcases hown.2 with ⟨_, h0⟩ | ⟨g, cap, cur, h1, h2, h3, h4, h5, _⟩
  · omega
  · exact ⟨g, cap, h1, h2, (Array.getElem?_eq_some_iff.1 h3).1, h4, h5⟩

theorem OwnV.cell {w : World} {B g n cap : Nat} {xs : List (Option Nat)} (h : OwnV w B (.slice (some ⟨g, 0, none⟩) n cap) xs) (hn : xs.length = n) {j : Nat} (hj : j < n) :
    ∃ b, w.cell? ⟨g, j, none⟩ = some (.float .f64 b) ∧ FW b (xs.getD j none) := by
  subst hn
  obtain ⟨vs, hown, hv⟩ := h
  obtain ⟨b, hb1, hb2⟩ := hv.2 j hj
  exact ⟨b, by rw [hown.cellAt j (by omega)]; exact hb1, hb2⟩
theorem OwnV.frozen {w : World} {B g n cap : Nat} {xs : List (Option Nat)} (h : OwnV w B (.slice (some ⟨g, 0, none⟩) n cap) xs) (hn : xs.length = n) (j : Nat) : w.frozen? ⟨g, j, none⟩ = false := by
  subst hn
  obtain ⟨vs, hown, hv⟩ := h
  exact hown.frozenAt j
theorem OwnV.set {w : World} {B g n cap : Nat} {xs : List (Option Nat)} (h : OwnV w B (.slice (some ⟨g, 0, none⟩) n cap) xs) (hn : xs.length = n) (j : Nat) {b : Nat} {x : Option Nat} (hb : FW b x) :
    OwnV (w.setCell ⟨g, j, none⟩ (.float .f64 b)) B (.slice (some ⟨g, 0, none⟩) n cap) (xs.set j x) := by
  subst hn
  obtain ⟨vs, hown, hv⟩ := h
  refine ⟨vs.set j (.float .f64 b), ?_, hv.set j hb⟩
  rw [List.length_set]
  exact (hown.stored j _).1

theorem cell_set_ne {W : World} {b o b' o' : Nat} {u v : Value} (h : W.cell? ⟨b', o', none⟩ = some u) (hne : b ≠ b') : (W.setCell ⟨b, o, none⟩ v).cell? ⟨b', o', none⟩ = some u :=
  (World.cell?_of_block (w := W) (a := ⟨b', o', none⟩) (Below.heap_setCell W ⟨b, o, none⟩ v b' (fun e => hne e.symm))).trans h
theorem cell_set_eq {W : World} {b o : Nat} {u v : Value} (h : W.cell? ⟨b, o, none⟩ = some u) : (W.setCell ⟨b, o, none⟩ v).cell? ⟨b, o, none⟩ = some v :=
  World.cell?_setCell_same' _ _ _ (by rw [h]; rfl)
theorem frozen_set {W : World} {b o b' o' : Nat} {v : Value} {t : Bool} (h : W.frozen? ⟨b', o', none⟩ = t) : (W.setCell ⟨b, o, none⟩ v).frozen? ⟨b', o', none⟩ = t := by
  rw [World.frozen?_setCell]; exact h
theorem OwnV.setOther {w : World} {B g n cap b o : Nat} {u : Value} {xs : List (Option Nat)} (h : OwnV w B (.slice (some ⟨g, 0, none⟩) n cap) xs) (hne : b ≠ g) : OwnV (w.setCell ⟨b, o, none⟩ u) B (.slice (some ⟨g, 0, none⟩) n cap) xs := by
  obtain ⟨vs, hown, hv⟩ := h
  exact ⟨vs, ownsRow_setCell_other hown (fun e => hne (Option.some.inj e).symm) u, hv⟩
theorem ne_blk {a b o n cap : Nat} (h : a ≠ b) : (some a : Option Nat) ≠ Value.ownBlock (.slice (some ⟨b, o, none⟩) n cap) := fun e => h (Option.some.inj e)
theorem OwnV.block {w : World} {B g n cap : Nat} {xs : List (Option Nat)} (h : OwnV w B (.slice (some ⟨g, 0, none⟩) n cap) xs) : ∃ cur, w.heap[g]? = some (.cells cur 25 (0, 0)) := by
  obtain ⟨vs, hown, hv⟩ := h
  rcases hown.2 with ⟨h, _⟩ | ⟨g', cap', cur, h1, h2, h3, h4⟩
  · simp at h
  · simp only [Value.slice.injEq, Option.some.injEq, Addr.mk.injEq, and_true] at h1
    obtain ⟨rfl, _⟩ := h1
    exact ⟨cur, h3⟩
theorem cell_set_off {W : World} {b o o' : Nat} {u v : Value} (h : W.cell? ⟨b, o', none⟩ = some u) (hne : o ≠ o') : (W.setCell ⟨b, o, none⟩ v).cell? ⟨b, o', none⟩ = some u :=
  (World.cell?_setCell_other W ⟨b, o, none⟩ ⟨b, o', none⟩ v (by simp)).trans h
theorem OwnV.mono {w : World} {B B' : Nat} {v : Value} {xs : List (Option Nat)} (h : OwnV w B v xs) (hB : B' ≤ B) : OwnV w B' v xs := by
  obtain ⟨vs, hown, hv⟩ := h
  refine ⟨vs, ⟨hown.1, ?_⟩, hv⟩
  rcases hown.2 with h0 | ⟨g, cap, cur, h1, h2, h3⟩
  · exact .inl h0
  · exact .inr ⟨g, cap, cur, h1, Nat.le_trans hB h2, h3⟩
end Go.Proofs.YtmmligbkecilfaaGreatDoor
namespace Go.Proofs.YtmmligbkecilfaaGreatDoor
open Go.RowKit Lv Go.Shelf
attribute [local go_sem] Oper.semAt_some

theorem infoF : (Tryz.prog.info? 25).map (fun i => (i.zero, i.size, i.bytes)) = some (some (.float .f64 0), 1, 8) := by kernel_rfl

/-- append of floats to what is one's own, in a fence -/
theorem wpListIn_append_F {F : Fence} {n : Nat} (w : World) {ops : Array Oper} {rest : List Oper} {o : Oper} {a : Act} {Q : Exit → Act → World → Prop}
    (hg : o.guard = none) (s x : Operand) (hop : o.op = Op.call { callee := Callee.builtin Builtin.append, args := #[s, x], argTypes := #[22, 22] })
    (B : Nat) (v : Value) (xs ys : List (Option Nat)) (hs : a.eval s = v) (hown : OwnV w B v xs) (ad : Addr) (m c : Nat) (hx : a.eval x = .slice (some ad) m c) (hy : Row w (.slice (some ad) m c) ys)
    (b1 : xs.length + ys.length ≤ 1000) (hm : ys.length = m) (b3 : B ≤ w.heap.size)
    (hK : ∀ v' w', OwnV w' B v' (xs ++ ys) → w.grownBy w' v.ownBlock → wpListIn F n Tryz.prog ops Q rest (a.put o.dst v') w') :
    wpListIn F n Tryz.prog ops Q (o :: rest) a w := by
  obtain ⟨i0, hin, hz0, hz1, hz2⟩ := info_parts infoF
  obtain ⟨vs, ho, hv⟩ := hown
  obtain ⟨us, hu, hul, huc⟩ := hy.vals
  refine wpListIn_append_own w hg s x _ hop B 25 i0 _ 1 8 Tryz.underlying22 hin hz0 hz1 hz2 rfl (by decide) v xs.length vs hs ho ad m c us hx (by omega) huc hu.one (by unfold maxLen; omega) (by omega) b3 ?_
  intro v' w' h1 h2 _
  refine hK v' w' ⟨vs ++ us, ?_, hv.append hu⟩ h2
  rw [List.length_append, hm]; exact h1
theorem wpList_append_F (w : World) {ops : Array Oper} {rest : List Oper} {o : Oper} {a : Act} {Q : Exit → Act → World → Prop}
    (hg : o.guard = none) (s x : Operand) (hop : o.op = Op.call { callee := Callee.builtin Builtin.append, args := #[s, x], argTypes := #[22, 22] })
    (B : Nat) (v : Value) (xs ys : List (Option Nat)) (hs : a.eval s = v) (hown : OwnV w B v xs) (ad : Addr) (m c : Nat) (hx : a.eval x = .slice (some ad) m c) (hy : Row w (.slice (some ad) m c) ys)
    (b1 : xs.length + ys.length ≤ 1000) (hm : ys.length = m) (b3 : B ≤ w.heap.size)
    (hK : ∀ v' w', OwnV w' B v' (xs ++ ys) → w.grownBy w' v.ownBlock → wpList Tryz.prog ops Q rest (a.put o.dst v') w') :
    wpList Tryz.prog ops Q (o :: rest) a w := by
  obtain ⟨i0, hin, hz0, hz1, hz2⟩ := info_parts infoF
  obtain ⟨vs, ho, hv⟩ := hown
  obtain ⟨us, hu, hul, huc⟩ := hy.vals
  refine wpList_append_own w hg s x _ hop B 25 i0 _ 1 8 Tryz.underlying22 hin hz0 hz1 hz2 rfl (by decide) v xs.length vs hs ho ad m c us hx (by omega) huc hu.one (by unfold maxLen; omega) (by omega) b3 ?_
  intro v' w' h1 h2 _
  refine hK v' w' ⟨vs ++ us, ?_, hv.append hu⟩ h2
  rw [List.length_append, hm]; exact h1

theorem OwnV.keptCells {w w' : World} {B : Nat} {v : Value} {xs : List (Option Nat)} {row : Option Nat} (h : OwnV w B v xs) (hg : w.grownBy w' row) (hr : ∀ r, row = some r → ∃ o : Obj, w.heap[r]? = some o ∧ o.isCells = false) : OwnV w' B v xs := by
  obtain ⟨vs, hown, hv⟩ := h
  refine ⟨vs, ⟨hown.1, ?_⟩, hv⟩
  rcases hown.2 with h0 | ⟨g, cap, cur, h1, h2, h3, h4⟩
  · exact .inl h0
  · exact .inr ⟨g, cap, cur, h1, h2, by rw [grownBy_keeps_cells hg hr h3 rfl]; exact h3, h4⟩

theorem line_no (cols rws trn i : Int) (a : Option Addr) (n cap : Nat) (xs : List (Option Nat)) (w : World) (h : Row w (.slice a n cap) xs) (hno : (checkP cols xs rws trn && decide (0 ≤ i) && decide (i ≤ cols)) = false) :
    Calls Tryz.prog 59 #[.agg #[.int .i64 cols, .slice a n cap, .int .i64 rws, .int .i64 trn], .int .i64 i] w fun e w' => e = .returned (.slice none 0 0) ∧ Below w.heap.size w w' := by
  have hr := (h.alloc (.cells #[.int .i64 cols, .slice a n cap, .int .i64 rws, .int .i64 trn] 24)).alloc (.cells #[.int .i64 i] 3)
  have L := Lib.hid (has_calls cols rws trn i a n cap xs _ hr)
  rw [hno] at L
  clear h hr hno
  go_enter Tryz.func59, Tryz.ntmps59
  go_wp2_with (go_at_call 79; refine L.out.mono ?_; rintro e w1 ⟨rfl, hb⟩)
  go_ret
  exact ⟨rfl, (((Below.refl _ _).alloc (Nat.le_refl _) _).alloc (by simp) _).trans (hb.mono (by simp; omega))⟩

/-- a row of a triangle, whole -/
def lineP (xs : List (Option Nat)) (c i : Nat) : List (Option Nat) := List.replicate i (some 0) ++ seg xs c i

set_option maxRecDepth 100000 in
set_option maxHeartbeats 2000000 in
theorem line_yes (c i : Nat) (rws trn : Int) (blk off cap : Nat) (xs : List (Option Nat)) (w : World) (h1 : 1 ≤ c) (h6 : c ≤ 6) (hi : i ≤ c) (hl : xs.length = tsz c)
    (h : Row w (.slice (some ⟨blk, off, none⟩) xs.length cap) xs) (hch : checkP c xs rws trn = true) :
    Calls Tryz.prog 59 #[.agg #[.int .i64 (c : Int), .slice (some ⟨blk, off, none⟩) xs.length cap, .int .i64 rws, .int .i64 trn], .int .i64 (i : Int)] w fun e w' =>
      ∃ v, e = .returned v ∧ OwnV w' w.heap.size v (lineP xs c i) ∧ Below w.heap.size w w' := by
  have hr := (h.alloc (.cells #[.int .i64 (c : Int), .slice (some ⟨blk, off, none⟩) xs.length cap, .int .i64 rws, .int .i64 trn] 24)).alloc (.cells #[.int .i64 (i : Int)] 3)
  have L := Lib.hid (has_calls (c : Int) rws trn (i : Int) _ _ cap xs _ hr)
  have hyes : (checkP (c : Int) xs rws trn && decide (0 ≤ (i : Int)) && decide ((i : Int) ≤ (c : Int))) = true := by
    rw [hch]; simp; omega
  rw [hyes] at L
  clear hr hyes hch
  obtain ⟨i0, hin, hz0, hz1, hz2⟩ := info_parts infoF
  have hmk := fun W => run_make (P := Tryz.prog) W 22 25 i0 _ Tryz.underlying22 hin hz0 .i64 .i64 (i : Int) ((c : Int) + 1) (by omega) (by omega) (by rw [hz2]; omega) (by omega)
  rw [hz1] at hmk
  have hic : (i : Int) ≤ c := by omega
  have HR := Lib.hid h
  have HL := Lib.hid hl
  clear h hl
  refine (callsIn_wide (n := 6)).1 ?_
  refine callsIn_of_wp_marks Tryz.func59 rfl trivial ?_ rfl
  simp only [Tryz.ntmps59, List.size_toArray, List.length_cons, List.length_nil, Nat.reduceAdd, Nat.reduceSub, Array.replicate_succ, Array.replicate_zero, List.push_toArray, List.append_toArray, List.nil_append, List.cons_append]
  gi_wp2_with (first | (refine ⟨trivial, ?_⟩; gi_at_call 79; refine (callsIn_wide.2 L.out).mono ?_; rintro e w1 ⟨rfl, hb⟩; have hz1 : w.heap.size + 1 < w1.heap.size := (by have := hb.size; simp at this; omega); have hz0 : w.heap.size < w1.heap.size := (by omega); have hz2 : w.heap.size < w1.heap.size + 1 := (by omega); have hz3 : w.heap.size < w1.heap.size + 1 + 1 := (by omega); have q0 := (hb.cell (p := ⟨w.heap.size + 1, 0, none⟩) (by simp)).trans (show _ = some (.int .i64 (i : Int)) by simp [go_sem]); have q1 := (hb.cell (p := ⟨w.heap.size, 0, none⟩) (by simp; omega)).trans (show _ = some (.int .i64 (c : Int)) by simp [go_sem]); have q2 := (hb.cell (p := ⟨w.heap.size, 1, none⟩) (by simp; omega)).trans (show _ = some (.slice (some ⟨blk, off, none⟩) xs.length cap) by simp [go_sem]); have q3 := (hb.cell (p := ⟨w.heap.size, 2, none⟩) (by simp; omega)).trans (show _ = some (.int .i64 rws) by simp [go_sem]); have q4 := (hb.cell (p := ⟨w.heap.size, 3, none⟩) (by simp; omega)).trans (show _ = some (.int .i64 trn) by simp [go_sem])) | (refine ⟨trivial, ?_⟩; gi_at_call 54; refine (callsIn_wide.2 (rows_calls _ _ _ _ _)).mono ?_; rintro e w' ⟨rfl, rfl⟩))
  obtain ⟨hzz, hB0⟩ : w1.heap.size ≤ w1.heap.size ∧ Below w.heap.size w w1 := ⟨Nat.le_refl _, (((Below.refl _ _).alloc (Nat.le_refl _) _).alloc (by simp) _).trans (hb.mono (by simp; omega))⟩
  have hbel := (((hB0.alloc (by omega) (.cells (madeCells #[.float .f64 0] (c + 1)) 25)).alloc (by simp; omega) (.cells #[.slice (some ⟨w1.heap.size, 0, none⟩) i (c + 1)] 22)).alloc (by simp; omega) (.cells #[.int .i64 0] 3)).alloc (by simp; omega) (.cells #[.int .i64 (c : Int), .slice (some ⟨blk, off, none⟩) xs.length cap, .int .i64 rws, .int .i64 trn] 24)
  generalize hW0 : ((((w1.alloc (.cells (madeCells #[.float .f64 0] (c + 1)) 25)).alloc (.cells #[.slice (some ⟨w1.heap.size, 0, none⟩) i (c + 1)] 22)).alloc (.cells #[.int .i64 0] 3)).alloc (.cells #[.int .i64 (c : Int), .slice (some ⟨blk, off, none⟩) xs.length cap, .int .i64 rws, .int .i64 trn] 24)) = W0 at *
  have z0 : W0.heap.size = w1.heap.size + 4 := by rw [← hW0]; simp
  have p0 : W0.cell? ⟨w1.heap.size + 1 + 1 + 1, 0, none⟩ = some (.int .i64 (c : Int)) := by rw [← hW0]; simp [go_sem]
  have p1 : W0.cell? ⟨w1.heap.size + 1 + 1 + 1, 1, none⟩ = some (.slice (some ⟨blk, off, none⟩) xs.length cap) := by rw [← hW0]; simp [go_sem]
  have a0 : W0.cell? ⟨w1.heap.size + 1, 0, none⟩ = some (.slice (some ⟨w1.heap.size, 0, none⟩) i (c + 1)) := by rw [← hW0]; simp [go_sem]
  have a1 : W0.frozen? ⟨w1.heap.size + 1, 0, none⟩ = false := by rw [← hW0]; simp [go_sem]
  have b0 : W0.cell? ⟨w1.heap.size + 1 + 1, 0, none⟩ = some (.int .i64 0) := by rw [← hW0]; simp [go_sem]
  have b1 : W0.frozen? ⟨w1.heap.size + 1 + 1, 0, none⟩ = false := by rw [← hW0]; simp [go_sem]
  have e0 : W0.cell? ⟨w.heap.size + 1, 0, none⟩ = some (.int .i64 (i : Int)) := by
    rw [← hW0]
    have := hz1
    rw [World.cell?_alloc_past _ _ _ (by simp; omega), World.cell?_alloc_past _ _ _ (by simp; omega), World.cell?_alloc_past _ _ _ (by simp; omega), World.cell?_alloc_past _ _ _ (by omega)]
    exact q0
  have o0 : OwnV W0 w.heap.size (.slice (some ⟨w1.heap.size, 0, none⟩) i (c + 1)) (List.replicate i (some 0)) := by
    refine ⟨List.replicate i (.float .f64 0), ⟨by simp, .inr ⟨w1.heap.size, c + 1, madeCells #[.float .f64 0] (c + 1), by simp, by omega, ?_, by simp; omega, by unfold maxLen; omega, by rw [size_madeCells]; omega, ?_⟩⟩, Vals.zeros i⟩
    · rw [← hW0, Below.heap_alloc _ _ _ (by simp; omega), Below.heap_alloc _ _ _ (by simp; omega), Below.heap_alloc _ _ _ (by simp)]
      exact World.alloc_heap_new w1 _
    · rw [toList_madeCells_one]; simp; omega
  clear hW0 hmk
  refine wpIn_rangeRow (encs := encRow blk off cap c) 7 (by decide) rfl (enters_of Tryz.func77 (by kernel_rfl) rfl)
    (rows_stops 5 (w1.heap.size + 1 + 1 + 1) blk off xs.length cap c h1 h6 HL.out ?cap1 ?cap2 (by decide) W0 (by omega) p0 p1)
    (fun pre W => (W.cell? ⟨w1.heap.size + 1, 0, none⟩ = some (.slice (some ⟨w1.heap.size, 0, none⟩) i (c + 1)) ∧ W.frozen? ⟨w1.heap.size + 1, 0, none⟩ = false ∧ W.cell? ⟨w1.heap.size + 1 + 1, 0, none⟩ = some (.int .i64 (pre.length : Int)) ∧ W.frozen? ⟨w1.heap.size + 1 + 1, 0, none⟩ = false ∧ W.cell? ⟨w.heap.size + 1, 0, none⟩ = some (.int .i64 (i : Int)) ∧ OwnV W w.heap.size (.slice (some ⟨w1.heap.size, 0, none⟩) i (c + 1)) (List.replicate i (some 0)) ∧ pre.length ≤ i) ∧ Below w.heap.size w W)
    (fun cd pre W => (cd = .exit 0 ∧ pre.length = i + 1 ∧ ∃ v, W.cell? ⟨w1.heap.size + 1, 0, none⟩ = some v ∧ ∃ x ∈ pre.getLast?, OwnV W w.heap.size v (List.replicate i (some 0) ++ seg xs c x.1)) ∧ Below w.heap.size w W)
    ?own1 ?own2
    ⟨⟨a0, a1, b0, b1, e0, o0, Nat.zero_le _⟩, hbel⟩ ?assign ?body ?done ?stop
  case cap1 => obtain ⟨a', cap', hv, c1, c2, _⟩ := HR.out; simp only [Value.slice.injEq] at hv; omega
  case cap2 => obtain ⟨a', cap', hv, c1, c2, _⟩ := HR.out; simp only [Value.slice.injEq] at hv; omega
  case own1 =>
    exact OwnFrom.and (fun s A B row hs hg hr => ⟨cell_kept hs.1 hg (fun r e => (hr r e).2), (frozen_kept hs.1 hg (fun r e => (hr r e).2)).trans hs.2.1, cell_kept hs.2.2.1 hg (fun r e => (hr r e).2), (frozen_kept hs.2.2.1 hg (fun r e => (hr r e).2)).trans hs.2.2.2.1, cell_kept hs.2.2.2.2.1 hg (fun r e => (hr r e).2), hs.2.2.2.2.2.1.keptCells hg (fun r e => (hr r e).2), hs.2.2.2.2.2.2⟩) (ownFrom_below (Nat.le_refl _) (by omega))
  case own2 =>
    intro cd
    refine OwnFrom.and (fun s A B row hs hg hr => ?_) (ownFrom_below (Nat.le_refl _) (by omega))
    obtain ⟨g1, g2, v, g3, x, g4, g5⟩ := hs
    exact ⟨g1, g2, v, cell_kept g3 hg (fun r e => (hr r e).2), x, g4, g5.keptCells hg (fun r e => (hr r e).2)⟩
  case assign =>
    intro l x W K hK
    gi_wp2
    exact hK
  case body =>
    rintro l pre ⟨x, hx⟩ W ⟨⟨ha0, ha1, hb0, hb1, he0, ho0, hpl⟩, hB⟩ hlt
    have hrow : Row W (.slice (some ⟨blk, off + offs c x, none⟩) (c + 1 - x) (cap - offs c x)) (seg xs c x) := by
      obtain ⟨a', cap', hv, c1, c2, c3⟩ := HR.out
      simp only [Value.slice.injEq] at hv
      obtain ⟨rfl, _, rfl⟩ := hv
      rcases c3 with ⟨c3, _⟩ | ⟨blk', off', e1, hc⟩
      · have := tsz_bounds h1 h6; have := HL.out; omega
      · simp only [Option.some.injEq, Addr.mk.injEq, and_true] at e1
        obtain ⟨rfl, rfl⟩ := e1
        have := (row_seg h1 h6 HL.out c1 c2 hc hx).below hB
        rw [seg_length h1 h6 HL.out hx] at this
        exact this
    have hsl := Lib.hid (seg_length h1 h6 HL.out hx)
    have hBs := hB.size
    obtain ⟨g0, cp0, hsh, hg1, hg2, _, _⟩ : ∃ g cap, Value.slice (some ⟨w1.heap.size, 0, none⟩) i (c + 1) = .slice (some ⟨g, 0, none⟩) i cap ∧ w.heap.size ≤ g ∧ g < W.heap.size ∧ i ≤ cap ∧ cap ≤ maxLen := by
      obtain ⟨vs, hown, hv⟩ := ho0
      rcases hown.2 with ⟨h, _⟩ | ⟨g, cap, cur, k1, k2, k3, k4, k5, _⟩
      · simp at h
      · simp only [List.length_replicate] at k1 k4
        exact ⟨g, cap, k1, k2, (Array.getElem?_eq_some_iff.1 k3).1, k4, k5⟩
    simp only [Value.slice.injEq, Option.some.injEq, Addr.mk.injEq, and_true, true_and] at hsh
    obtain ⟨rfl, rfl⟩ := hsh
    have HO := Lib.hid ho0
    have HRW := Lib.hid hrow
    clear ho0 hrow
    unfold encRow
    dsimp only
    by_cases hpi : pre.length = i
    · have ht : ((pre.length : Int) == (i : Int)) = true := by simp [hpi]
      have HPI := Lib.hid hpi
      clear hpi
      gi_wp2_with (gi_at_builtin; go_must (refine wpListIn_append_F W rfl _ _ rfl w.heap.size _ _ (seg xs c x) rfl HO.out _ _ _ rfl HRW.out (by rw [List.length_replicate, hsl.out]; omega) hsl.out (by omega) ?_; intro v' w2 hown' hgrow; obtain ⟨g', cap', hv', _, _, _, _⟩ := hown'.shape (by rw [List.length_append, hsl.out]; omega); subst hv'; have l0 := hgrow.cell ha0 (ne_blk (by simp)); have l1 : w2.frozen? ⟨w1.heap.size + 1, 0, none⟩ = false := (World.frozen?_of_block (hgrow.block _ (cell_lt ha0) (ne_blk (by simp)))).trans ha1))
      obtain ⟨cur, hcur⟩ := HO.out.block
      have hne : w1.heap.size + 1 ≠ g' := by
        intro e
        subst e
        obtain ⟨b, hb, _⟩ := hown'.cell (j := 0) rfl (by rw [List.length_append, hsl.out]; omega)
        rw [l0] at hb
        cases hb
      refine ⟨(KeepsOthers.of_grownBy hgrow (fun j o e ho => by cases e; rw [hcur] at ho; cases ho; rfl)).trans (KeepsOthers.setCell _ _ _), ⟨rfl, by rw [List.length_append, HPI.out]; rfl, _, cell_set_eq l0, ⟨x, hx⟩, by simp, ?_⟩, (hB.grown hgrow hB.size (fun k e => by cases e; exact hg1)).setCell (p := ⟨w1.heap.size + 1, 0, none⟩) (by simp; omega) _⟩
      have e2 : (List.replicate i (some 0) ++ seg xs c x).length = i + (seg xs c x).length := by simp
      rw [e2] at hown'
      exact hown'.setOther hne
    · have ht : ((pre.length : Int) == (i : Int)) = false := by simp; omega
      gi_wp2
      have HB2 := hB.setCell (p := ⟨w1.heap.size + 1 + 1, 0, none⟩) (by simp; omega) (.int .i64 ((pre.length : Int) + 1))
      refine ⟨KeepsOthers.setCell _ _ _, trivial, ⟨cell_set_ne ha0 (by simp), frozen_set ha1, ?_, frozen_set hb1, cell_set_ne he0 (by omega), HO.out.setOther (by omega), by rw [List.length_append]; simp; omega⟩, HB2⟩
      rw [cell_set_eq hb0]
      simp
  case done =>
    rintro D ys W hD rfl ⟨⟨_, _, _, _, _, _, hpl⟩, hB⟩ hK
    rw [allRows_length c (c + 1) (Nat.le_refl _)] at hpl
    omega
  case stop =>
    rintro D cd pre W hD ⟨k, hk, rfl⟩ ⟨⟨rfl, hpl, v, hv, x, hx, ho⟩, hB⟩ hK
    gi_wp2
    refine ⟨by simp, .inl ⟨_, _, rfl, run_takeDeferred hK, ?_⟩⟩
    have hkl := allRows_length c k hk
    have hki : k = i + 1 := by omega
    subst hki
    rw [allRows_succ c i hi] at hx
    simp at hx
    subst hx
    exact ⟨_, results_tmp rfl _ _ _, v, rfl, ho.keptCells (grownBy_putObj' _ D (.deferred none)) (fun r e => by cases e; exact ⟨_, hK, rfl⟩), hB.trans (belowK_b (w := w) (Nat.le_refl _) W D _ _ (by omega) hK rfl rfl)⟩
end Go.Proofs.YtmmligbkecilfaaGreatDoor
