/- Solving, plainly; what stands below it (products taken off, a list of numbers, a zero on the diagonal), walked. Below solving, walked: a list of numbers, a zero on the diagonal, a factor's square part. A factor's square part and its last column, walked. solve.Back, walked: rows gone through backward. -/
import Derived.Test.YtmmligbkecilfaaGreatDoorMb
import Derived.Test.YtmmligbkecilfaaGreatDoorMh
import Derived.Deep.CutRange
import Derived.Test.YtmmligbkecilfaaGreatDoorSk
import Derived.Test.YtmmligbkecilfaaGreatDoorRe
import Derived.Deep.OwnRows
import Derived.Stop.RegionWithIn
namespace Go.Proofs.YtmmligbkecilfaaGreatDoor
open Go.RowKit Lv Go.Shelf
open Ieee (double Format Datum Toward)
attribute [local go_sem] run_store_float drewN_alloc drewN_setCell run_addF run_subF run_mulF run_quoF

/-- products taken off, one by one -/
def lessF (s : Option Nat) (a b : Nat → Option Nat) : Nat → Option Nat
  | 0 => s
  | k + 1 => fsub (lessF s a b k) (fmul (a k) (b k))
theorem lessF_congr {s : Option Nat} {a b a' b' : Nat → Option Nat} : ∀ n, (∀ k, k < n → a k = a' k) → (∀ k, k < n → b k = b' k) → lessF s a b n = lessF s a' b' n
  | 0, _, _ => rfl
  | n + 1, h1, h2 => by
    unfold lessF
    rw [lessF_congr n (fun k hk => h1 k (by omega)) (fun k hk => h2 k (by omega)), h1 n (by omega), h2 n (by omega)]
/-- a factor's entry, row i, column k -/
def ent (xs : List (Option Nat)) (c i k : Nat) : Option Nat := (lineP xs c i).getD k none
/-- the last n answers -/
def backT (xs : List (Option Nat)) (c : Nat) : Nat → List (Option Nat)
  | 0 => []
  | n + 1 => fdiv (lessF (ent xs c (c - (n + 1)) c) (fun k => ent xs c (c - (n + 1)) (c - (n + 1) + 1 + k)) (fun k => (backT xs c n).getD k none) n) (ent xs c (c - (n + 1)) (c - (n + 1))) :: backT xs c n
theorem backT_len (xs : List (Option Nat)) (c : Nat) : ∀ n, (backT xs c n).length = n
  | 0 => rfl
  | n + 1 => by unfold backT; rw [List.length_cons, backT_len xs c n]
/-- the first n answers, forward -/
def forwT (xs : List (Option Nat)) (c : Nat) (vs : List (Option Nat)) : Nat → List (Option Nat)
  | 0 => []
  | n + 1 => forwT xs c vs n ++ [fdiv (lessF (vs.getD n none) (fun k => ent xs c k n) (fun k => (forwT xs c vs n).getD k none) n) (ent xs c n n)]
theorem forwT_len (xs : List (Option Nat)) (c : Nat) (vs : List (Option Nat)) : ∀ n, (forwT xs c vs n).length = n
  | 0 => rfl
  | n + 1 => by unfold forwT; rw [List.length_append, forwT_len xs c vs n]; rfl
theorem forwT_get (xs : List (Option Nat)) (c : Nat) (vs : List (Option Nat)) (k : Nat) : ∀ n m, k < n → n ≤ m → (forwT xs c vs m).getD k none = (forwT xs c vs n).getD k none
  | n, 0, h1, h2 => by omega
  | n, m + 1, h1, h2 => by
    by_cases e : n = m + 1
    · rw [e]
    · rw [← forwT_get xs c vs k n m h1 (by omega)]
      have hl := forwT_len xs c vs m
      show (forwT xs c vs m ++ _).getD k none = _
      rw [List.getD_eq_getElem?_getD, List.getElem?_append_left (by omega), List.getD_eq_getElem?_getD]
/-- is there a zero on the diagonal of the square part? -/
def singD (xs : List (Option Nat)) (c : Nat) : Bool := (List.range c).any fun i => zeroF (ent xs c i i)
/-- a list of numbers, or none -/
def answD (ys : List (Option Nat)) : List (Option Nat) × Int := if ys.any (fun x => !numF x) = true then ([], 2) else (ys, 0)
def backD (F : FacD) : List (Option Nat) × Int :=
  if F.ok = false then ([], 1) else if singD F.xs F.cols.toNat = true then ([], 7) else answD (backT F.xs F.cols.toNat F.cols.toNat)
def forwD (F : FacD) (vs : List (Option Nat)) : List (Option Nat) × Int :=
  if F.ok = false ∨ (vs.length : Int) ≠ F.cols then ([], 1) else if singD F.xs F.cols.toNat = true then ([], 7) else answD (forwT F.xs F.cols.toNat vs F.cols.toNat)
/-- what is handed back: a list, and an error's number -/
def LstE (D : List (Option Nat) × Int) (e : Ending) (w : World) : Prop := ∃ (a : Option Addr) (n cap : Nat), e = .returned (.tuple #[.slice a n cap, .int .i64 D.2]) ∧ Row w (.slice a n cap) D.1

/-- is a float no number? -/
def wildW (b : Nat) : Bool := nan b || decide (b % 9223372036854775808 = 9218868437227405312)
def wildF (x : Option Nat) : Bool := !numF x
theorem wildW_F {b : Nat} {x : Option Nat} (h : FW b x) : wildW b = wildF x := by
  obtain ⟨_, h⟩ := h
  unfold wildW wildF numF
  cases x with
  | none => rw [ab_none h]; rfl
  | some c =>
    obtain ⟨rfl, h2⟩ := ab_some h
    rw [h2]
    have := nan_le h2
    dsimp only
    by_cases e : c % 9223372036854775808 = 9218868437227405312
    · rw [decide_eq_true e, decide_eq_false (by omega)]; rfl
    · rw [decide_eq_false e, decide_eq_true (by omega)]; rfl
end Go.Proofs.YtmmligbkecilfaaGreatDoor
namespace Go.Proofs.YtmmligbkecilfaaGreatDoor
open Go.RowKit Lv Go.Shelf
open Ieee (double Format Datum Toward)
attribute [local go_sem] Oper.semAt_some run_store_float drewN_alloc drewN_setCell

/-- rows of the square part, and the last column, as they are laid down: of the first j rows the slices stand in block qb -/
def SqAt (W : World) (B qb c : Nat) (xs : List (Option Nat)) (j : Nat) : Prop :=
  ∀ i, i < c → (∃ u, W.cell? ⟨qb, i, none⟩ = some u ∧ ∀ x, u ≠ .float .f64 x) ∧ W.frozen? ⟨qb, i, none⟩ = false ∧
    (i < j → ∃ g cap, W.cell? ⟨qb, i, none⟩ = some (.slice (some ⟨g, 0, none⟩) c cap) ∧ c + 1 ≤ cap ∧ cap ≤ maxLen ∧ B ≤ g ∧ g < W.heap.size ∧ ∀ k, k ≤ c → ∃ b, W.cell? ⟨g, k, none⟩ = some (.float .f64 b) ∧ FW b (ent xs c i k))
theorem SqAt.below {W W' : World} {B qb c j : Nat} {xs : List (Option Nat)} (h : SqAt W B qb c xs j) (hb : Below W.heap.size W W') : SqAt W' B qb c xs j := by
  intro i hi
  obtain ⟨⟨u, u1, u2⟩, f, r⟩ := h i hi
  refine ⟨⟨u, (hb.cell (p := ⟨qb, i, none⟩) (cell_lt u1)).trans u1, u2⟩, (hb.frozen (p := ⟨qb, i, none⟩) (cell_lt u1)).trans f, fun hij => ?_⟩
  obtain ⟨g, cap, r1, r2, r3, r4, r5, r6⟩ := r hij
  refine ⟨g, cap, (hb.cell (p := ⟨qb, i, none⟩) (cell_lt r1)).trans r1, r2, r3, r4, Nat.lt_of_lt_of_le r5 hb.size, fun k hk => ?_⟩
  obtain ⟨b, b1, b2⟩ := r6 k hk
  exact ⟨b, (hb.cell (p := ⟨g, k, none⟩) r5).trans b1, b2⟩
/-- a store into another block below the rows -/
theorem SqAt.set {W : World} {B qb c j b o : Nat} {xs : List (Option Nat)} {v : Value} (h : SqAt W B qb c xs j) (hq : b ≠ qb) (hg : b < B) : SqAt (W.setCell ⟨b, o, none⟩ v) B qb c xs j := by
  intro i hi
  obtain ⟨⟨u, u1, u2⟩, f, r⟩ := h i hi
  refine ⟨⟨u, cell_set_ne u1 hq, u2⟩, frozen_set f, fun hij => ?_⟩
  obtain ⟨g, cap, r1, r2, r3, r4, r5, r6⟩ := r hij
  refine ⟨g, cap, cell_set_ne r1 hq, r2, r3, r4, by simpa using r5, fun k hk => ?_⟩
  obtain ⟨b', b1, b2⟩ := r6 k hk
  exact ⟨b', cell_set_ne b1 (by omega), b2⟩
/-- the next row is laid down -/
theorem SqAt.next {W : World} {B qb c j g cap : Nat} {xs : List (Option Nat)} (h : SqAt W B qb c xs j) (hj : j < c) (ho : OwnV W B (.slice (some ⟨g, 0, none⟩) (c + 1) cap) (lineP xs c j)) (hl : (lineP xs c j).length = c + 1) (hc1 : c + 1 ≤ cap) (hc2 : cap ≤ maxLen) (hq : qb < B) (hB : B ≤ g) (hg : g < W.heap.size) :
    SqAt (W.setCell ⟨qb, j, none⟩ (.slice (some ⟨g, 0, none⟩) c cap)) B qb c xs (j + 1) := by
  intro i hi
  obtain ⟨⟨u, u1, u2⟩, f, r⟩ := h i hi
  by_cases e : i = j
  · subst e
    have k1 := cell_set_eq (v := .slice (some ⟨g, 0, none⟩) c cap) u1
    refine ⟨⟨_, k1, slice_ne⟩, frozen_set f, fun _ => ⟨g, cap, k1, hc1, hc2, hB, by simpa using hg, fun k hk => ?_⟩⟩
    obtain ⟨b, b1, b2⟩ := ho.cell hl (j := k) (by omega)
    exact ⟨b, cell_set_ne b1 (by omega), b2⟩
  · refine ⟨⟨u, cell_set_off u1 (Ne.symm e), u2⟩, frozen_set f, fun hij => ?_⟩
    obtain ⟨g', cap', r1, r2, r3, r4, r5, r6⟩ := r (by omega)
    refine ⟨g', cap', cell_set_off r1 (Ne.symm e), r2, r3, r4, by simpa using r5, fun k hk => ?_⟩
    obtain ⟨b, b1, b2⟩ := r6 k hk
    exact ⟨b, cell_set_ne b1 (by omega), b2⟩

theorem zero_word {b : Nat} {x : Option Nat} (h : FW b x) : (FloatKind.f64.format.order b 0 == some Ordering.eq) = zeroF x := by
  rw [is_zero' b h.1]
  obtain ⟨_, h⟩ := h
  cases x with
  | none =>
    have := nan_lt (ab_none h)
    exact decide_eq_false (by omega)
  | some c => obtain ⟨rfl, _⟩ := ab_some h; rfl
theorem any_range {p : Nat → Bool} {n : Nat} (k : Nat) (hk : k < n) (h : p k = true) : (List.range n).any p = true := List.any_eq_true.2 ⟨k, List.mem_range.2 hk, h⟩
theorem any_range_no {p : Nat → Bool} {n : Nat} (h : ∀ k, k < n → p k = false) : (List.range n).any p = false := by
  rw [List.any_eq_false]
  intro k hk
  rw [h k (List.mem_range.1 hk)]
  decide

end Go.Proofs.YtmmligbkecilfaaGreatDoor
namespace Go.Proofs.YtmmligbkecilfaaGreatDoor
open Go.RowKit Lv Go.Shelf
open Ieee (double Format Datum Toward)
attribute [local go_sem] Oper.semAt_some run_store_float drewN_alloc drewN_setCell

theorem made_sq {c i : Nat} (h : i < c) : (madeCells #[.slice none 0 0] c)[i]? = some (Value.slice none 0 0) := by
  rw [← Array.getElem?_toList, toList_madeCells_one, List.getElem?_replicate, if_pos h]
/-- both slices, made -/
def SqNew (W0 : World) (c : Nat) (s s' : Value) (W : World) : Prop :=
  ∃ qb xb : Nat, s = .slice (some ⟨qb, 0, none⟩) c c ∧ s' = .slice (some ⟨xb, 0, none⟩) c c ∧ qb ≠ xb ∧ W0.heap.size ≤ qb ∧ W0.heap.size ≤ xb ∧ qb < W.heap.size ∧ xb < W.heap.size ∧ W.heap.size = W0.heap.size + 2 ∧
    (∀ i, i < c → W.cell? ⟨qb, i, none⟩ = some (.slice none 0 0) ∧ W.frozen? ⟨qb, i, none⟩ = false) ∧ OwnV W W0.heap.size (.slice (some ⟨xb, 0, none⟩) c c) (List.replicate c (some 0)) ∧ Below W0.heap.size W0 W
theorem sqNew_a {W : World} {c N : Nat} (hN : W.heap.size = N) (t : TypeId) (h1 : 1 ≤ c) (h6 : c ≤ 6) : SqNew W c (.slice (some ⟨N, 0, none⟩) c c) (.slice (some ⟨N + 1, 0, none⟩) c c) (((W.alloc (.cells (madeCells #[.slice none 0 0] c) t)).alloc (.cells (madeCells #[.float .f64 0] c) 25)).drew) := by
  subst hN
  obtain ⟨k, rfl⟩ : ∃ k, c = k + 1 := ⟨c - 1, by omega⟩
  refine ⟨W.heap.size, W.heap.size + 1, rfl, rfl, by omega, Nat.le_refl _, by omega, by first | (simp; done) | (simp; omega), by first | (simp; done) | (simp; omega), by simp, fun i hi => ?_, ?_, (((Below.refl W.heap.size W).alloc (Nat.le_refl _) _).alloc (by simp) _).drew⟩
  · have hm := made_sq hi
    constructor
    · simp [go_sem, hm]
    · simp [go_sem]
  · have := own_made (W.alloc (.cells (madeCells #[.slice none 0 0] (k + 1)) t)) W.heap.size k (by simp) (by omega)
    have h2 := this.below (Below.refl _ _).drew (Nat.le_refl _)
    simpa using h2
theorem sqNew_b {W : World} {c N : Nat} (hN : W.heap.size = N) (t : TypeId) (h1 : 1 ≤ c) (h6 : c ≤ 6) : SqNew W c (.slice (some ⟨N + 1, 0, none⟩) c c) (.slice (some ⟨N, 0, none⟩) c c) (((W.alloc (.cells (madeCells #[.float .f64 0] c) 25)).alloc (.cells (madeCells #[.slice none 0 0] c) t)).drew) := by
  subst hN
  obtain ⟨k, rfl⟩ : ∃ k, c = k + 1 := ⟨c - 1, by omega⟩
  refine ⟨W.heap.size + 1, W.heap.size, rfl, rfl, by omega, by omega, Nat.le_refl _, by first | (simp; done) | (simp; omega), by first | (simp; done) | (simp; omega), by simp, fun i hi => ?_, ?_, (((Below.refl W.heap.size W).alloc (Nat.le_refl _) _).alloc (by simp) _).drew⟩
  · have hm := made_sq hi
    constructor
    · simp [go_sem, hm]
    · simp [go_sem]
  · have := own_made W W.heap.size k (Nat.le_refl _) (by omega)
    exact (this.below ((Below.refl _ _).alloc (Nat.le_refl _) _) (Nat.le_refl _)).below (Below.refl _ _).drew (Nat.le_refl _)
/-- what stands at the head of the loop over rows -/
structure SqInv (w : World) (qb xb c : Nat) (rws trn : Int) (xs : List (Option Nat)) (a : Option Addr) (n cap : Nat) (W : World) (j : Nat) (L : List (Option Nat)) : Prop where
  c1 : Cells4 W w.heap.size (.int .i64 c) (.slice a n cap) (.int .i64 rws) (.int .i64 trn)
  rows : SqAt W (w.heap.size + 3) qb c xs j
  own : OwnV W w.heap.size (.slice (some ⟨xb, 0, none⟩) c c) L
  len : L.length = c
  last : ∀ i, i < j → L.getD i none = ent xs c i c
  below : Below w.heap.size w W
  size : w.heap.size + 3 ≤ W.heap.size
/-- one row more: both orders of the stores -/
theorem SqInv.step {w W W' : World} {qb xb c n cap j g gcap x : Nat} {rws trn : Int} {xs L : List (Option Nat)} {a : Option Addr} (h : SqInv w qb xb c rws trn xs a n cap W j L) (hb : Below W.heap.size W W') (hj : j < c) (hq : w.heap.size < qb) (hx : w.heap.size < xb) (hqx : qb ≠ xb)
    (hq2 : qb < w.heap.size + 3) (hx2 : xb < w.heap.size + 3) (ho : OwnV W' W.heap.size (.slice (some ⟨g, 0, none⟩) (c + 1) gcap) (lineP xs c j)) (hl : (lineP xs c j).length = c + 1) (hc1 : c + 1 ≤ gcap) (hc2 : gcap ≤ maxLen) (hg : w.heap.size + 3 ≤ g) (hg2 : g < W'.heap.size) (hf : FW x (ent xs c j c)) :
    SqInv w qb xb c rws trn xs a n cap ((W'.setCell ⟨qb, j, none⟩ (.slice (some ⟨g, 0, none⟩) c gcap)).setCell ⟨xb, j, none⟩ (.float .f64 x)).drew (j + 1) (L.set j (ent xs c j c)) ∧
    SqInv w qb xb c rws trn xs a n cap ((W'.setCell ⟨xb, j, none⟩ (.float .f64 x)).setCell ⟨qb, j, none⟩ (.slice (some ⟨g, 0, none⟩) c gcap)).drew (j + 1) (L.set j (ent xs c j c)) := by
  have hlen : (L.set j (ent xs c j c)).length = c := by rw [List.length_set]; exact h.len
  have hlast : ∀ i, i < j + 1 → (L.set j (ent xs c j c)).getD i none = ent xs c i c := fun i hi => by
    rw [getD_set]
    by_cases e : i = j
    · rw [if_pos ⟨e, by rw [h.len]; omega⟩, e]
    · rw [if_neg (fun k => e k.1), h.last i (by omega)]
  have own := h.own.below hb (Nat.le_refl _)
  have hs := hb.size
  have hsz := h.size
  have dr : ∀ W : World, Below W.heap.size W W.drew := fun W => (Below.refl _ _).drew
  have hbl := h.below.trans (hb.mono h.below.size)
  constructor
  · refine ⟨(((h.c1.below hb).set (by omega)).set (by omega)).below (dr _), (((h.rows.below hb).next hj (ho.mono (by omega)) hl hc1 hc2 hq2 hg hg2).set (by omega) hx2).below (dr _), ((own.setOther (by omega)).set h.len j hf).below (dr _) (Nat.le_refl _), hlen, hlast, ((hbl.setCell (p := ⟨qb, j, none⟩) (show w.heap.size ≤ qb by omega) _).setCell (p := ⟨xb, j, none⟩) (show w.heap.size ≤ xb by omega) _).drew, ?_⟩
    simp
    omega
  · refine ⟨(((h.c1.below hb).set (by omega)).set (by omega)).below (dr _), (((h.rows.below hb).set (by omega) hx2).next hj ((ho.setOther (by omega)).mono (by omega)) hl hc1 hc2 hq2 hg (by simpa using hg2)).below (dr _), ((own.set h.len j hf).setOther (by omega)).below (dr _) (Nat.le_refl _), hlen, hlast, ((hbl.setCell (p := ⟨xb, j, none⟩) (show w.heap.size ≤ xb by omega) _).setCell (p := ⟨qb, j, none⟩) (show w.heap.size ≤ qb by omega) _).drew, ?_⟩
    simp
    omega
/-- what square hands back -/
def SqPost (w : World) (c : Nat) (xs : List (Option Nat)) (e : Ending) (w' : World) : Prop :=
  ∃ (qb xb : Nat) (L : List (Option Nat)), e = .returned (.tuple #[.slice (some ⟨qb, 0, none⟩) c c, .slice (some ⟨xb, 0, none⟩) c c]) ∧ SqAt w' (w.heap.size + 3) qb c xs c ∧ qb ≠ xb ∧ w.heap.size ≤ qb ∧ w.heap.size ≤ xb ∧ xb < w.heap.size + 3 ∧ qb < w.heap.size + 3 ∧
    OwnV w' w.heap.size (.slice (some ⟨xb, 0, none⟩) c c) L ∧ L.length = c ∧ (∀ i, i < c → L.getD i none = ent xs c i c) ∧ w.heap.size + 3 ≤ w'.heap.size

end Go.Proofs.YtmmligbkecilfaaGreatDoor
namespace Go.Proofs.YtmmligbkecilfaaGreatDoor
open Go.RowKit Lv Go.Shelf
open Ieee (double Format Datum Toward)
attribute [local go_sem] Oper.semAt_some run_store_float drewN_alloc drewN_setCell run_addF run_subF run_mulF run_quoF

/-- a row's number, of c rows -/
abbrev RowIx (c : Nat) := { i : Nat // i < c }
/-- the rows from the last one on, k of them -/
def downs (c k : Nat) : List (RowIx c) := (List.range k).filterMap fun i => if h : c - 1 - i < c then some ⟨c - 1 - i, h⟩ else none
theorem downs_succ (c k : Nat) (h : k < c) : downs c (k + 1) = downs c k ++ [⟨c - 1 - k, by omega⟩] := by
  unfold downs; rw [List.range_succ, List.filterMap_append]
  have : c - 1 - k < c := by omega
  simp [this]
theorem downs_length (c k : Nat) (h : k ≤ c) : (downs c k).length = k := by
  induction k with
  | zero => rfl
  | succ k ih => rw [downs_succ c k (by omega), List.length_append, ih (by omega)]; rfl
/-- what a round keeps: the slice's variable, and the rows -/
def KpB (Bf qb : Nat) (A B : World) : Prop := ∀ (p : Addr) (v : Value), p.block = Bf ∨ p.block = qb → A.cell? p = some v → B.cell? p = some v

/-- the law of a range of two variables, in slots q and q' -/
theorem wpIn_range2 {α : Type} {P : Program} {n : Nat} {g : Operand} {p p' : Tmp} (q q' : Tmp) {assign body : Code} {Q : Exit → Act → World → Prop} {a : Act} {w : World}
    (h1 : 1 ≤ n) {gf : Nat} {lb : Array Value} (hg : a.eval g = .func (.func gf) #[] lb) (eg : ∀ args w, (callFunc gf args).run P w = .ok (.enter gf args) w)
    {e1 e2 : α → Value} {Kp : World → World → Prop} {S Sp : List α → Prop} {N : Nat} (hseq : SeqStopsK Fence.wide (n - 1) P gf lb (fun x => #[e1 x, e2 x]) Kp S Sp N w)
    (hKt : ∀ {A B C : World}, Kp A B → Kp B C → Kp A C) (hKb : ∀ (W : World) (l : Nat) (o o' : Obj), w.heap.size ≤ l → W.heap[l]? = some o → o.isCells = false → o.isWalk = false → Kp W (W.putObj l o'))
    (I : List α → World → Prop) (Ix : Code → List α → World → Prop) (hI : OwnFrom w.heap.size I) (hIx : ∀ c, OwnFrom w.heap.size (Ix c)) (h0 : I [] w)
    (hassign : ∀ (l : Nat) (x : α) (W : World) (K : Act → World → Prop), K { tmps := (((a.tmps.setIfInBounds p (e1 x)).setIfInBounds p' (e2 x)).setIfInBounds q (e1 x)).setIfInBounds q' (e2 x), defers := [] } W →
      assign.wpIn (Fence.wide.inRound l) (n - 1 - 1) P (Exit.then K (fun _ _ _ => False)) { tmps := (a.tmps.setIfInBounds p (e1 x)).setIfInBounds p' (e2 x), defers := [] } W)
    (hbody : ∀ (l : Nat) (pre : List α) (x : α) (W : World), I pre W → pre.length < N → body.wpIn (Fence.wide.inRound l) (n - 1 - 1) P (ownPostK Kp I Ix (pre ++ [x]) W) { tmps := (((a.tmps.setIfInBounds p (e1 x)).setIfInBounds p' (e2 x)).setIfInBounds q (e1 x)).setIfInBounds q' (e2 x), defers := [] } W)
    (hdone : ∀ (D : Nat) (xs : List α) (W : World), w.heap.size ≤ D → S xs → I xs W → W.heap[D]? = some (.deferred (some [])) → Q .normal { a with defers := { target := .collected D, args := #[] } :: a.defers } W)
    (hstop : ∀ (D : Nat) (c : Code) (pre : List α) (W : World), w.heap.size ≤ D → Sp pre → Ix c pre W → W.heap[D]? = some (.deferred (some [])) → c.wpIn Fence.wide n P Q { a with defers := { target := .collected D, args := #[] } :: a.defers } W) :
    (Code.rangeFunc g #[p, p'] assign body).wpIn Fence.wide n P Q a w :=
  wpIn_rangeFunc_ownF rfl h1 hg trivial eg hseq (fun h k => hKt h k) hKb (Below.refl _ _) (fun _ => rfl) I Ix hI hIx h0
    (fun x => { tmps := (((a.tmps.setIfInBounds p (e1 x)).setIfInBounds p' (e2 x)).setIfInBounds q (e1 x)).setIfInBounds q' (e2 x), defers := [] }) (fun l x W K h => by
      have e : (#[p, p'].zip #[e1 x, e2 x]).foldl (fun t (y : Tmp × Value) => t.setIfInBounds y.1 y.2) a.tmps = (a.tmps.setIfInBounds p (e1 x)).setIfInBounds p' (e2 x) := by simp
      have := hassign l x W K h
      rw [← e] at this
      exact this) hbody hdone hstop
end Go.Proofs.YtmmligbkecilfaaGreatDoor
