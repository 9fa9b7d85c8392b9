/- The reference's Line of layer 10, plainly; what stands at the heads of its loops. -/
import Derived.Test.YtgmaljikjkbdlaaQ
import Derived.Test.YtgmaljikjkbdlaaW
namespace Go.Proofs.Ytgmaljikjkbdlaa
open Go.RowKit Lv Go.Shelf
open Ieee (double Format Datum Toward)

/-- the reference turns what is stored itself: entry j of the row stands at o -/
def rturn (c s : Option Nat) (j o : Nat) : Nat → List (Option Nat) × List (Option Nat) → List (Option Nat) × List (Option Nat)
  | 0, p => p
  | n + 1, p => ((rturn c s j o n p).1.set (o + 1 + n) (fadd (fmul c ((rturn c s j o n p).1.getD (o + 1 + n) none)) (fmul s ((rturn c s j o n p).2.getD (j + 1 + n) none))),
      (rturn c s j o n p).2.set (j + 1 + n) (fsub (fmul c ((rturn c s j o n p).2.getD (j + 1 + n) none)) (fmul s ((rturn c s j o n p).1.getD (o + 1 + n) none))))
theorem rturn_len (c s : Option Nat) (j o : Nat) (p : List (Option Nat) × List (Option Nat)) : ∀ n, (rturn c s j o n p).1.length = p.1.length ∧ (rturn c s j o n p).2.length = p.2.length
  | 0 => ⟨rfl, rfl⟩
  | n + 1 => by
    have := rturn_len c s j o p n
    simp only [rturn, List.length_set]
    exact this
def rstep (c j : Nat) (st : List (Option Nat) × List (Option Nat)) : Option (List (Option Nat) × List (Option Nat)) :=
  match ofF (st.1.getD (offs c j) none) (st.2.getD j none) with
  | none => none
  | some (cc, ss, r) => some (rturn cc ss j (offs c j) (c - j) (st.1.set (offs c j) r, st.2))
def rlineFrom (c : Nat) : Nat → Nat → List (Option Nat) × List (Option Nat) → Option (List (Option Nat))
  | 0, _, st => some st.1
  | n + 1, j, st => match rstep c j st with
    | none => none
    | some st' => rlineFrom c n (j + 1) st'
/-- what the reference's Line comes to -/
def rlineP (c : Nat) (rws trn : Int) (j : Nat) (st : List (Option Nat) × List (Option Nat)) : Option (List (Option Nat)) :=
  match rlineFrom c (c + 1 - j) j st with
  | none => none
  | some ys => if checkP c ys rws trn = true then some ys else none

structure RInv (w : World) (b8 gb gcap rb rcap c : Nat) (rws trn : Int) (v3 : Value) (W : World) (p : List (Option Nat) × List (Option Nat)) : Prop where
  c3 : Cells4 W w.heap.size (.int .i64 c) v3 (.int .i64 rws) (.int .i64 trn)
  c6 : Cells4 W (w.heap.size + 1) (.int .i64 0) (.slice none 0 0) (.int .i64 0) (.int .i64 0)
  c8 : Cells4 W b8 (.int .i64 c) (.slice (some ⟨gb, 0, none⟩) (tsz c) gcap) (.int .i64 rws) (.int .i64 trn)
  own1 : OwnV W w.heap.size (.slice (some ⟨gb, 0, none⟩) (tsz c) gcap) p.1
  own2 : OwnV W w.heap.size (.slice (some ⟨rb, 0, none⟩) (c + 1) rcap) p.2
  l1 : p.1.length = tsz c
  l2 : p.2.length = c + 1
  below : Below w.heap.size w W

theorem Cells4.grown {W W' : World} {b : Nat} {u0 u1 u2 u3 : Value} {row : Option Nat} (h : Cells4 W b u0 u1 u2 u3) (hg : W.grownBy W' row) (hne : some b ≠ row) : Cells4 W' b u0 u1 u2 u3 :=
  ⟨hg.cell h.c0 hne, hg.cell h.c1 hne, hg.cell h.c2 hne, hg.cell h.c3 hne,
   (World.frozen?_of_block (hg.block _ h.lt hne)).trans h.f0, (World.frozen?_of_block (hg.block _ h.lt hne)).trans h.f1, (World.frozen?_of_block (hg.block _ h.lt hne)).trans h.f2, (World.frozen?_of_block (hg.block _ h.lt hne)).trans h.f3⟩
theorem Cells4.alloc {W : World} {b : Nat} {u0 u1 u2 u3 : Value} (h : Cells4 W b u0 u1 u2 u3) (o : Obj) : Cells4 (W.alloc o) b u0 u1 u2 u3 := h.below ((Below.refl _ _).alloc (Nat.le_refl _) _)
/-- one cell written anew -/
theorem Cells4.put1 {W : World} {b : Nat} {u0 u1 u2 u3 : Value} (h : Cells4 W b u0 u1 u2 u3) (v1 : Value) : Cells4 (W.setCell ⟨b, 1, none⟩ v1) b u0 v1 u2 u3 :=
  ⟨cell_set_off h.c0 (by decide), cell_set_eq h.c1, cell_set_off h.c2 (by decide), cell_set_off h.c3 (by decide), frozen_set h.f0, frozen_set h.f1, frozen_set h.f2, frozen_set h.f3⟩
theorem Cells4.new (w : World) (u0 u1 u2 u3 : Value) (t : TypeId) : Cells4 (w.alloc (.cells #[u0, u1, u2, u3] t)) w.heap.size u0 u1 u2 u3 := by
  constructor <;> simp [go_sem]
theorem ownV_empty' (w : World) (B g : Nat) (hg : g = w.heap.size) (hB : B ≤ w.heap.size) : OwnV (w.alloc (.cells #[] 48)) B (.slice (some ⟨g, 0, none⟩) 0 0) [] := by
  subst hg; exact ownV_empty w B hB
theorem le_alloc {n : Nat} {W : World} (h : n ≤ W.heap.size) (o : Obj) : n ≤ (W.alloc o).heap.size := by simp; omega
theorem RInv.keep {w : World} {b8 gb gcap rb rcap c : Nat} {rws trn : Int} {v3 : Value} {W W' : World} {p : List (Option Nat) × List (Option Nat)} (h : RInv w b8 gb gcap rb rcap c rws trn v3 W p) (hb : Below W.heap.size W W') : RInv w b8 gb gcap rb rcap c rws trn v3 W' p :=
  ⟨h.c3.below hb, h.c6.below hb, h.c8.below hb, h.own1.below hb (Nat.le_refl _), h.own2.below hb (Nat.le_refl _), h.l1, h.l2, h.below.trans (hb.mono h.below.size)⟩
theorem RInv.put1 {w : World} {b8 gb gcap rb rcap c : Nat} {rws trn : Int} {v3 : Value} {W : World} {p : List (Option Nat) × List (Option Nat)} (h : RInv w b8 gb gcap rb rcap c rws trn v3 W p) {j u : Nat} {x : Option Nat} (hu : FW u x)
    (h1 : gb ≠ w.heap.size) (h2 : gb ≠ w.heap.size + 1) (h3 : gb ≠ b8) (h4 : gb ≠ rb) (h5 : w.heap.size ≤ gb) : RInv w b8 gb gcap rb rcap c rws trn v3 (W.setCell ⟨gb, j, none⟩ (.float .f64 u)) (p.1.set j x, p.2) :=
  ⟨h.c3.set h1, h.c6.set h2, h.c8.set h3, h.own1.set h.l1 _ hu, h.own2.setOther h4, by rw [List.length_set]; exact h.l1, h.l2, h.below.setCell (p := ⟨gb, j, none⟩) h5 _⟩
theorem RInv.put2 {w : World} {b8 gb gcap rb rcap c : Nat} {rws trn : Int} {v3 : Value} {W : World} {p : List (Option Nat) × List (Option Nat)} (h : RInv w b8 gb gcap rb rcap c rws trn v3 W p) {j u : Nat} {x : Option Nat} (hu : FW u x)
    (h1 : rb ≠ w.heap.size) (h2 : rb ≠ w.heap.size + 1) (h3 : rb ≠ b8) (h4 : rb ≠ gb) (h5 : w.heap.size ≤ rb) : RInv w b8 gb gcap rb rcap c rws trn v3 (W.setCell ⟨rb, j, none⟩ (.float .f64 u)) (p.1, p.2.set j x) :=
  ⟨h.c3.set h1, h.c6.set h2, h.c8.set h3, h.own1.setOther h4, h.own2.set h.l2 _ hu, h.l1, by rw [List.length_set]; exact h.l2, h.below.setCell (p := ⟨rb, j, none⟩) h5 _⟩
end Go.Proofs.Ytgmaljikjkbdlaa
