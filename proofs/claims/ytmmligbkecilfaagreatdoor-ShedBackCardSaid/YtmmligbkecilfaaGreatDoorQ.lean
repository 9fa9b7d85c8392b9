/- A line rotated into a factor: what absorb.Line computes, plainly; small facts for its walk. -/
import Derived.Test.YtmmligbkecilfaaGreatDoorO
import Derived.Deep.RegionWith
import Derived.LoopTactic
namespace Go.Proofs.YtmmligbkecilfaaGreatDoor
open Go.RowKit Lv Go.Shelf
open Ieee (double Format Datum Toward)

/-- both lists, the first n entries behind j turned -/
def turnTo (c s : Option Nat) (j : Nat) : Nat → List (Option Nat) × List (Option Nat) → List (Option Nat) × List (Option Nat)
  | 0, p => p
  | n + 1, p => ((turnTo c s j n p).1.set (j + 1 + n) (fadd (fmul c ((turnTo c s j n p).1.getD (j + 1 + n) none)) (fmul s ((turnTo c s j n p).2.getD (j + 1 + n) none))),
      (turnTo c s j n p).2.set (j + 1 + n) (fsub (fmul c ((turnTo c s j n p).2.getD (j + 1 + n) none)) (fmul s ((turnTo c s j n p).1.getD (j + 1 + n) none))))
theorem turnTo_len (c s : Option Nat) (j : Nat) (p : List (Option Nat) × List (Option Nat)) : ∀ n, (turnTo c s j n p).1.length = p.1.length ∧ (turnTo c s j n p).2.length = p.2.length
  | 0 => ⟨rfl, rfl⟩
  | n + 1 => by
    have := turnTo_len c s j p n
    simp only [turnTo, List.length_set]
    exact this

/-- one column rotated -/
def stepP (c : Nat) (rws trn : Int) (j : Nat) (st : List (Option Nat) × List (Option Nat)) : Option (List (Option Nat) × List (Option Nat)) :=
  match ofF ((lineP st.1 c j).getD j none) (st.2.getD j none) with
  | none => none
  | some (cc, ss, r) =>
    if checkP c (setP st.1 c j (turnTo cc ss j (c - j) ((lineP st.1 c j).set j r, st.2)).1) rws trn = true
    then some (setP st.1 c j (turnTo cc ss j (c - j) ((lineP st.1 c j).set j r, st.2)).1, (turnTo cc ss j (c - j) ((lineP st.1 c j).set j r, st.2)).2) else none
/-- n columns, from j on -/
def lineFrom (c : Nat) (rws trn : Int) : Nat → Nat → List (Option Nat) × List (Option Nat) → Option (List (Option Nat))
  | 0, _, st => some st.1
  | n + 1, j, st => match stepP c rws trn j st with
    | none => none
    | some st' => lineFrom c rws trn n (j + 1) st'

theorem lineP_len {xs : List (Option Nat)} {c i : Nat} (h1 : 1 ≤ c) (h6 : c ≤ 6) (hl : xs.length = tsz c) (hi : i ≤ c) : (lineP xs c i).length = c + 1 := by
  unfold lineP
  rw [List.length_append, List.length_replicate, seg_length h1 h6 hl hi]
  omega
theorem setP_len {xs l : List (Option Nat)} {c i : Nat} (h1 : 1 ≤ c) (h6 : c ≤ 6) (hl : xs.length = tsz c) (hi : i ≤ c) (hll : l.length = c + 1) : (setP xs c i l).length = tsz c := by
  unfold setP
  have := offs_le c i h1 h6 (by omega)
  rw [length_splice _ _ _ (by rw [List.length_drop, hll, hl]; unfold tsz; omega), hl]

/-- four cells of a block -/
structure Cells4 (W : World) (b : Nat) (u0 u1 u2 u3 : Value) : Prop where
  c0 : W.cell? ⟨b, 0, none⟩ = some u0
  c1 : W.cell? ⟨b, 1, none⟩ = some u1
  c2 : W.cell? ⟨b, 2, none⟩ = some u2
  c3 : W.cell? ⟨b, 3, none⟩ = some u3
  f0 : W.frozen? ⟨b, 0, none⟩ = false
  f1 : W.frozen? ⟨b, 1, none⟩ = false
  f2 : W.frozen? ⟨b, 2, none⟩ = false
  f3 : W.frozen? ⟨b, 3, none⟩ = false
theorem Cells4.lt {W : World} {b : Nat} {u0 u1 u2 u3 : Value} (h : Cells4 W b u0 u1 u2 u3) : b < W.heap.size := cell_lt h.c0
theorem Cells4.below {W W' : World} {b : Nat} {u0 u1 u2 u3 : Value} (h : Cells4 W b u0 u1 u2 u3) (hb : Below W.heap.size W W') : Cells4 W' b u0 u1 u2 u3 :=
  ⟨(hb.cell (p := ⟨b, 0, none⟩) h.lt).trans h.c0, (hb.cell (p := ⟨b, 1, none⟩) h.lt).trans h.c1, (hb.cell (p := ⟨b, 2, none⟩) h.lt).trans h.c2, (hb.cell (p := ⟨b, 3, none⟩) h.lt).trans h.c3,
   (hb.frozen (p := ⟨b, 0, none⟩) h.lt).trans h.f0, (hb.frozen (p := ⟨b, 1, none⟩) h.lt).trans h.f1, (hb.frozen (p := ⟨b, 2, none⟩) h.lt).trans h.f2, (hb.frozen (p := ⟨b, 3, none⟩) h.lt).trans h.f3⟩
theorem Cells4.set {W : World} {b b' o : Nat} {u0 u1 u2 u3 v : Value} (h : Cells4 W b u0 u1 u2 u3) (hne : b' ≠ b) : Cells4 (W.setCell ⟨b', o, none⟩ v) b u0 u1 u2 u3 :=
  ⟨cell_set_ne h.c0 hne, cell_set_ne h.c1 hne, cell_set_ne h.c2 hne, cell_set_ne h.c3 hne, frozen_set h.f0, frozen_set h.f1, frozen_set h.f2, frozen_set h.f3⟩
/-- all four written anew -/
theorem Cells4.put {W : World} {b : Nat} {u0 u1 u2 u3 : Value} (h : Cells4 W b u0 u1 u2 u3) (v0 v1 v2 v3 : Value) :
    Cells4 ((((W.setCell ⟨b, 0, none⟩ v0).setCell ⟨b, 1, none⟩ v1).setCell ⟨b, 2, none⟩ v2).setCell ⟨b, 3, none⟩ v3) b v0 v1 v2 v3 :=
  ⟨cell_set_off (cell_set_off (cell_set_off (cell_set_eq h.c0) (by decide)) (by decide)) (by decide),
   cell_set_off (cell_set_off (cell_set_eq (cell_set_off h.c1 (by decide))) (by decide)) (by decide),
   cell_set_off (cell_set_eq (cell_set_off (cell_set_off h.c2 (by decide)) (by decide))) (by decide),
   cell_set_eq (cell_set_off (cell_set_off (cell_set_off h.c3 (by decide)) (by decide)) (by decide)),
   frozen_set (frozen_set (frozen_set (frozen_set h.f0))), frozen_set (frozen_set (frozen_set (frozen_set h.f1))), frozen_set (frozen_set (frozen_set (frozen_set h.f2))), frozen_set (frozen_set (frozen_set (frozen_set h.f3)))⟩
theorem Row.setOther {W : World} {tb to n cap b o : Nat} {v : Value} {xs : List (Option Nat)} (h : Row W (.slice (some ⟨tb, to, none⟩) n cap) xs) (hne : b ≠ tb) : Row (W.setCell ⟨b, o, none⟩ v) (.slice (some ⟨tb, to, none⟩) n cap) xs := by
  obtain ⟨a, cap', hv, h1, h2, h3⟩ := h
  refine ⟨a, cap', hv, h1, h2, ?_⟩
  rcases h3 with h3 | ⟨blk, off, ha, hc⟩
  · exact .inl h3
  · simp only [Value.slice.injEq] at hv
    obtain ⟨rfl, _⟩ := hv
    simp only [Option.some.injEq, Addr.mk.injEq, and_true] at ha
    obtain ⟨rfl, rfl⟩ := ha
    refine .inr ⟨tb, to, rfl, fun i hi => ?_⟩
    obtain ⟨x, hx1, hx2⟩ := hc i hi
    exact ⟨x, cell_set_ne hx1 hne, hx2⟩
theorem Row.shape {W : World} {a : Option Addr} {n cap : Nat} {xs : List (Option Nat)} (h : Row W (.slice a n cap) xs) (hl : 0 < n) : ∃ tb to, a = some ⟨tb, to, none⟩ ∧ tb < W.heap.size ∧ xs.length = n := by
  obtain ⟨a', cap', hv, h1, h2, h3⟩ := h
  simp only [Value.slice.injEq] at hv
  obtain ⟨rfl, rfl, rfl⟩ := hv
  rcases h3 with ⟨h3, _⟩ | ⟨blk, off, ha, hc⟩
  · omega
  · obtain ⟨x, hx, _⟩ := hc 0 hl
    exact ⟨blk, off, ha, cell_lt hx, rfl⟩

/-- what absorb.Line hands back -/
def LinePost (T : Option (List (Option Nat))) (c rws trn : Int) (e : Ending) (w' : World) : Prop :=
  match T with
  | none => e = .returned (.tuple #[facZ, .bool false])
  | some ys => ∃ v, e = .returned (.tuple #[.agg #[.int .i64 c, v, .int .i64 rws, .int .i64 trn], .bool true]) ∧ Row w' v ys
theorem of_none {F G : Option Nat} (h : ofF F G = none) (x y : Nat) (w : World) (hx : FW x F) (hy : FW y G) :
    Calls Tryz.prog 60 #[.float .f64 x, .float .f64 y] w fun e w' => e = .returned (.tuple #[.float .f64 0, .float .f64 0, .float .f64 0, .bool false]) ∧ Below w.heap.size w w' := by
  have := of_calls x y w hx hy
  rw [h] at this
  exact this
theorem of_some {F G c s r : Option Nat} (h : ofF F G = some (c, s, r)) (x y : Nat) (w : World) (hx : FW x F) (hy : FW y G) :
    Calls Tryz.prog 60 #[.float .f64 x, .float .f64 y] w fun e w' => (∃ u v z, e = .returned (.tuple #[.float .f64 u, .float .f64 v, .float .f64 z, .bool true]) ∧ FW u c ∧ FW v s ∧ FW z r) ∧ Below w.heap.size w w' := by
  have := of_calls x y w hx hy
  rw [h] at this
  exact this

/-- what stands at the head of absorb.Line's loop -/
structure AInv (w : World) (rb rcap c : Nat) (rws trn : Int) (T : Option (List (Option Nat))) (W : World) (j : Nat) (ys rest : List (Option Nat)) (tb to cap : Nat) : Prop where
  c3 : Cells4 W w.heap.size (.int .i64 c) (.slice (some ⟨tb, to, none⟩) ys.length cap) (.int .i64 rws) (.int .i64 trn)
  c6 : Cells4 W (w.heap.size + 1) (.int .i64 0) (.slice none 0 0) (.int .i64 0) (.int .i64 0)
  row : Row W (.slice (some ⟨tb, to, none⟩) ys.length cap) ys
  hyl : ys.length = tsz c
  own : OwnV W w.heap.size (.slice (some ⟨rb, 0, none⟩) (c + 1) rcap) rest
  hrl : rest.length = c + 1
  nrb : tb ≠ rb
  n0 : tb ≠ w.heap.size
  n6 : tb ≠ w.heap.size + 1
  r0 : rb ≠ w.heap.size
  r6 : rb ≠ w.heap.size + 1
  lt : tb < W.heap.size
  chk : checkP c ys rws trn = true
  eq : lineFrom c rws trn (c + 1 - j) j (ys, rest) = T
  below : Below w.heap.size w W

/-- what stands at the head of its inner loop -/
structure BInv (w : World) (gb gcap rb rcap c : Nat) (rws trn : Int) (W : World) (ys : List (Option Nat)) (p : List (Option Nat) × List (Option Nat)) (tb to cap : Nat) : Prop where
  c3 : Cells4 W w.heap.size (.int .i64 c) (.slice (some ⟨tb, to, none⟩) ys.length cap) (.int .i64 rws) (.int .i64 trn)
  c6 : Cells4 W (w.heap.size + 1) (.int .i64 0) (.slice none 0 0) (.int .i64 0) (.int .i64 0)
  row : Row W (.slice (some ⟨tb, to, none⟩) ys.length cap) ys
  own1 : OwnV W w.heap.size (.slice (some ⟨gb, 0, none⟩) (c + 1) gcap) p.1
  own2 : OwnV W w.heap.size (.slice (some ⟨rb, 0, none⟩) (c + 1) rcap) p.2
  l1 : p.1.length = c + 1
  l2 : p.2.length = c + 1
  below : Below w.heap.size w W
theorem BInv.turn {w : World} {gb gcap rb rcap c : Nat} {rws trn : Int} {W W' : World} {ys : List (Option Nat)} {cc ss : Option Nat} {j n : Nat} {p0 : List (Option Nat) × List (Option Nat)} {tb to cap : Nat} (h : BInv w gb gcap rb rcap c rws trn W ys (turnTo cc ss j n p0) tb to cap)
    (hb : Below W.heap.size W W') {u v : Nat}
    (hu : FW u (fadd (fmul cc ((turnTo cc ss j n p0).1.getD (j + 1 + n) none)) (fmul ss ((turnTo cc ss j n p0).2.getD (j + 1 + n) none))))
    (hv : FW v (fsub (fmul cc ((turnTo cc ss j n p0).2.getD (j + 1 + n) none)) (fmul ss ((turnTo cc ss j n p0).1.getD (j + 1 + n) none))))
    (h1 : gb ≠ w.heap.size) (h2 : gb ≠ w.heap.size + 1) (h3 : rb ≠ w.heap.size) (h4 : rb ≠ w.heap.size + 1) (h5 : gb ≠ rb) (h6 : gb ≠ tb) (h7 : rb ≠ tb) (h8 : w.heap.size ≤ gb) (h9 : w.heap.size ≤ rb) :
    BInv w gb gcap rb rcap c rws trn ((W'.setCell ⟨gb, j + 1 + n, none⟩ (.float .f64 u)).setCell ⟨rb, j + 1 + n, none⟩ (.float .f64 v)) ys (turnTo cc ss j (n + 1) p0) tb to cap := by
  have hs := h.below.size
  refine ⟨((h.c3.below hb).set h1).set h3, ((h.c6.below hb).set h2).set h4, ((h.row.below hb).setOther h6).setOther h7, ?_, ?_, ?_, ?_, ?_⟩
  · exact ((h.own1.below hb (Nat.le_refl _)).set h.l1 _ hu).setOther (Ne.symm h5)
  · exact ((h.own2.below hb (Nat.le_refl _)).setOther h5).set h.l2 _ hv
  · simp only [turnTo, List.length_set]; exact h.l1
  · simp only [turnTo, List.length_set]; exact h.l2
  · exact ((h.below.trans (hb.mono hs)).setCell (p := ⟨gb, j + 1 + n, none⟩) h8 _).setCell (p := ⟨rb, j + 1 + n, none⟩) h9 _
theorem set_f (c i : Nat) (rws trn : Int) (a b : Option Addr) (n cap d : Nat) (xs ls : List (Option Nat)) (w : World) (h : Row w (.slice a n cap) xs) (hl : Row w (.slice b (c + 1) d) ls)
    (hch : checkP (c : Int) xs rws trn = true) (h1 : 1 ≤ c) (h6 : c ≤ 6) (hi : i ≤ c) (hxl : xs.length = tsz c) (hk : checkP (c : Int) (setP xs c i ls) rws trn = false) :
    Calls Tryz.prog 62 #[.agg #[.int .i64 (c : Int), .slice a n cap, .int .i64 rws, .int .i64 trn], .int .i64 (i : Int), .slice b (c + 1) d] w fun e w' =>
      e = .returned (.tuple #[.agg #[.int .i64 0, .slice none 0 0, .int .i64 0, .int .i64 0], .bool false]) ∧ Below w.heap.size w w' := by
  have := set_yes c i rws trn a b n cap d xs ls w h hl hch h1 h6 hi hxl
  rw [hk] at this
  exact this
theorem set_t (c i : Nat) (rws trn : Int) (a b : Option Addr) (n cap d : Nat) (xs ls : List (Option Nat)) (w : World) (h : Row w (.slice a n cap) xs) (hl : Row w (.slice b (c + 1) d) ls)
    (hch : checkP (c : Int) xs rws trn = true) (h1 : 1 ≤ c) (h6 : c ≤ 6) (hi : i ≤ c) (hxl : xs.length = tsz c) (hk : checkP (c : Int) (setP xs c i ls) rws trn = true) :
    Calls Tryz.prog 62 #[.agg #[.int .i64 (c : Int), .slice a n cap, .int .i64 rws, .int .i64 trn], .int .i64 (i : Int), .slice b (c + 1) d] w fun e w' =>
      (∃ v, e = .returned (.tuple #[.agg #[.int .i64 (c : Int), v, .int .i64 rws, .int .i64 trn], .bool true]) ∧ OwnV w' w.heap.size v (setP xs c i ls)) ∧ Below w.heap.size w w' := by
  have := set_yes c i rws trn a b n cap d xs ls w h hl hch h1 h6 hi hxl
  rw [hk] at this
  exact this
end Go.Proofs.YtmmligbkecilfaaGreatDoor
