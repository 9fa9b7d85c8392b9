/- The reference's Check is the program's, Get, Line, Same. The reference's Line of layer 10, plainly; what stands at the heads of its loops. -/
import Derived.Test.YtmmligbkecilfaaGreatDoorV
import Derived.Test.YtmmligbkecilfaaGreatDoorQ
namespace Go.Proofs.YtmmligbkecilfaaGreatDoor
open Go.RowKit Lv Go.Shelf
open Ieee (double Format Datum Toward)

theorem in_row0 : ∀ c : Nat, c < 7 → ∀ k : Nat, k < 28 → 1 ≤ c → k < tsz c → ((List.range 7).any fun i => decide (i ≤ c) && (decide (offs c i ≤ k) && decide (k < offs c i + (c + 1 - i)))) = true := by decide +kernel
theorem in_row (c : Nat) (h6 : c < 7) (k : Nat) (hk : k < 28) (h1 : 1 ≤ c) (hkc : k < tsz c) : ∃ i : Nat, i < 7 ∧ i ≤ c ∧ offs c i ≤ k ∧ k < offs c i + (c + 1 - i) := by
  obtain ⟨i, hi, h⟩ := List.any_eq_true.1 (in_row0 c h6 k hk h1 hkc)
  simp only [Bool.and_eq_true, decide_eq_true_eq] at h
  exact ⟨i, List.mem_range.1 hi, h.1, h.2.1, h.2.2⟩
theorem any_segs {xs : List (Option Nat)} {c : Nat} (h1 : 1 ≤ c) (h6 : c ≤ 6) (hl : xs.length = tsz c) : xs.any largeF = (List.range (c + 1)).any fun i => (seg xs c i).any largeF := by
  rw [Bool.eq_iff_iff, List.any_eq_true, List.any_eq_true]
  constructor
  · rintro ⟨x, hx, hp⟩
    obtain ⟨k, hk, rfl⟩ := List.mem_iff_getElem.1 hx
    have hb := tsz_bounds h1 h6
    obtain ⟨i, _, hi, o1, o2⟩ := in_row c (by omega) k (by omega) h1 (by omega)
    refine ⟨i, List.mem_range.2 (by omega), List.any_eq_true.2 ⟨xs[k], ?_, hp⟩⟩
    unfold seg
    have e : xs[k] = ((xs.drop (offs c i)).take (c + 1 - i))[k - offs c i]'(by rw [List.length_take, List.length_drop]; omega) := by
      rw [List.getElem_take, List.getElem_drop]
      congr 1
      omega
    rw [e]
    exact List.getElem_mem _
  · rintro ⟨i, hi, hp⟩
    obtain ⟨x, hx, hp⟩ := List.any_eq_true.1 hp
    exact ⟨x, List.mem_of_mem_drop (List.mem_of_mem_take hx), hp⟩
theorem any_or {α : Type} (p q : α → Bool) : ∀ l : List α, (l.any fun x => p x || q x) = (l.any p || l.any q)
  | [] => rfl
  | x :: l => by
    simp only [List.any_cons, any_or p q l]
    cases p x <;> cases q x <;> cases l.any p <;> cases l.any q <;> rfl
theorem any_congr {α : Type} {p q : α → Bool} : ∀ {l : List α}, (∀ x ∈ l, p x = q x) → l.any p = l.any q
  | [], _ => rfl
  | x :: l, h => by rw [List.any_cons, List.any_cons, h x (List.mem_cons_self ..), any_congr fun y hy => h y (List.mem_cons_of_mem _ hy)]
theorem bad_all {xs : List (Option Nat)} {c : Nat} (h1 : 1 ≤ c) (h6 : c ≤ 6) (hl : xs.length = tsz c) :
    (xs.any largeF || (List.range (c + 1)).any fun i => sgnF (xs.getD (offs c i) none)) = (List.range (c + 1)).any fun i => badS (seg xs c i) := by
  have e : ((List.range (c + 1)).any fun i => badS (seg xs c i)) = ((List.range (c + 1)).any fun i => sgnF (xs.getD (offs c i) none) || (seg xs c i).any largeF) := by
    refine any_congr fun i hi => ?_
    have hi' := List.mem_range.1 hi
    unfold badS
    congr 2
    unfold seg
    rw [List.getD_eq_getElem?_getD, List.getD_eq_getElem?_getD, List.getElem?_take_of_lt (by omega), List.getElem?_drop, Nat.add_zero]
  rw [e, any_or, any_segs h1 h6 hl, Bool.or_comm]

theorem rcheck_calls (cols rws trn : Int) (a : Option Addr) (n cap : Nat) (xs : List (Option Nat)) (w : World) (h : Row w (.slice a n cap) xs) :
    Calls Tryz.prog 17 #[.agg #[.int .i64 cols, .slice a n cap, .int .i64 rws, .int .i64 trn]] w fun e w' => e = .returned (.bool (checkP cols xs rws trn)) ∧ Below w.heap.size w w' := by
  obtain ⟨a', cap', hv, h1, h2, h3⟩ := h
  simp only [Value.slice.injEq] at hv
  obtain ⟨rfl, rfl, rfl⟩ := hv
  by_cases hc : 1 ≤ cols ∧ cols ≤ 6
  · obtain ⟨c, rfl⟩ := Int.eq_ofNat_of_zero_le (show 0 ≤ cols by omega)
    obtain ⟨c1, c6⟩ := hc
    by_cases hl : xs.length = tsz c ∧ 0 ≤ rws ∧ rws ≤ 200 ∧ 0 ≤ trn ∧ trn ≤ 4096
    · obtain ⟨hl, r0, r1, t0, t1⟩ := hl
      have hb := tsz_bounds (c := c) (by omega) (by omega)
      rcases h3 with ⟨h3, _⟩ | ⟨blk, off, rfl, hcell⟩
      · omega
      · refine (rcheck_rows c rws trn blk off cap xs w (by omega) (by omega) hl h2 r0 r1 t0 t1 hcell).mono ?_
        rintro e w' ⟨rfl, hB⟩
        refine ⟨ret_bool ?_, hB⟩
        rw [bad_all (by omega) (by omega) hl]
        unfold checkP
        simp [c1, c6, hl, r0, r1, t0, t1]
    · refine (rcheck_early c rws trn a xs.length cap w (by omega) (by omega) (by omega)).mono ?_
      rintro e w' ⟨rfl, hB⟩
      refine ⟨ret_bool ?_, hB⟩
      unfold checkP
      symm
      rw [Bool.eq_false_iff]
      intro hh
      simp at hh
      omega
  · refine (rcheck_cols cols rws trn a xs.length cap w hc).mono ?_
    rintro e w' ⟨rfl, hB⟩
    refine ⟨ret_bool ?_, hB⟩
    unfold checkP
    symm
    rw [Bool.eq_false_iff]
    intro hh
    simp at hh
    omega
end Go.Proofs.YtmmligbkecilfaaGreatDoor
namespace Go.Proofs.YtmmligbkecilfaaGreatDoor
open Go.RowKit Lv Go.Shelf
open Ieee (double Format Datum Toward)

/-- the reference turns what is stored itself: entry j of the row stands at o -/
def rturn (c s : Option Nat) (j o : Nat) : Nat → List (Option Nat) × List (Option Nat) → List (Option Nat) × List (Option Nat)
  | 0, p => p
  | n + 1, p => ((rturn c s j o n p).1.set (o + 1 + n) (fadd (fmul c ((rturn c s j o n p).1.getD (o + 1 + n) none)) (fmul s ((rturn c s j o n p).2.getD (j + 1 + n) none))),
      (rturn c s j o n p).2.set (j + 1 + n) (fsub (fmul c ((rturn c s j o n p).2.getD (j + 1 + n) none)) (fmul s ((rturn c s j o n p).1.getD (o + 1 + n) none))))
theorem rturn_len (c s : Option Nat) (j o : Nat) (p : List (Option Nat) × List (Option Nat)) : ∀ n, (rturn c s j o n p).1.length = p.1.length ∧ (rturn c s j o n p).2.length = p.2.length
  | 0 => ⟨rfl, rfl⟩
  | n + 1 => by
    have := rturn_len c s j o p n
    simp only [rturn, List.length_set]
    exact this
def rstep (c j : Nat) (st : List (Option Nat) × List (Option Nat)) : Option (List (Option Nat) × List (Option Nat)) :=
  match ofF (st.1.getD (offs c j) none) (st.2.getD j none) with
  | none => none
  | some (cc, ss, r) => some (rturn cc ss j (offs c j) (c - j) (st.1.set (offs c j) r, st.2))
def rlineFrom (c : Nat) : Nat → Nat → List (Option Nat) × List (Option Nat) → Option (List (Option Nat))
  | 0, _, st => some st.1
  | n + 1, j, st => match rstep c j st with
    | none => none
    | some st' => rlineFrom c n (j + 1) st'
/-- what the reference's Line comes to -/
def rlineP (c : Nat) (rws trn : Int) (j : Nat) (st : List (Option Nat) × List (Option Nat)) : Option (List (Option Nat)) :=
  match rlineFrom c (c + 1 - j) j st with
  | none => none
  | some ys => if checkP c ys rws trn = true then some ys else none

structure RInv (w : World) (b8 gb gcap rb rcap c : Nat) (rws trn : Int) (v3 : Value) (W : World) (p : List (Option Nat) × List (Option Nat)) : Prop where
  c3 : Cells4 W w.heap.size (.int .i64 c) v3 (.int .i64 rws) (.int .i64 trn)
  c6 : Cells4 W (w.heap.size + 1) (.int .i64 0) (.slice none 0 0) (.int .i64 0) (.int .i64 0)
  c8 : Cells4 W b8 (.int .i64 c) (.slice (some ⟨gb, 0, none⟩) (tsz c) gcap) (.int .i64 rws) (.int .i64 trn)
  own1 : OwnV W w.heap.size (.slice (some ⟨gb, 0, none⟩) (tsz c) gcap) p.1
  own2 : OwnV W w.heap.size (.slice (some ⟨rb, 0, none⟩) (c + 1) rcap) p.2
  l1 : p.1.length = tsz c
  l2 : p.2.length = c + 1
  below : Below w.heap.size w W

theorem Cells4.grown {W W' : World} {b : Nat} {u0 u1 u2 u3 : Value} {row : Option Nat} (h : Cells4 W b u0 u1 u2 u3) (hg : W.grownBy W' row) (hne : some b ≠ row) : Cells4 W' b u0 u1 u2 u3 :=
  ⟨hg.cell h.c0 hne, hg.cell h.c1 hne, hg.cell h.c2 hne, hg.cell h.c3 hne,
   (World.frozen?_of_block (hg.block _ h.lt hne)).trans h.f0, (World.frozen?_of_block (hg.block _ h.lt hne)).trans h.f1, (World.frozen?_of_block (hg.block _ h.lt hne)).trans h.f2, (World.frozen?_of_block (hg.block _ h.lt hne)).trans h.f3⟩
theorem Cells4.alloc {W : World} {b : Nat} {u0 u1 u2 u3 : Value} (h : Cells4 W b u0 u1 u2 u3) (o : Obj) : Cells4 (W.alloc o) b u0 u1 u2 u3 := h.below ((Below.refl _ _).alloc (Nat.le_refl _) _)
/-- one cell written anew -/
theorem Cells4.put1 {W : World} {b : Nat} {u0 u1 u2 u3 : Value} (h : Cells4 W b u0 u1 u2 u3) (v1 : Value) : Cells4 (W.setCell ⟨b, 1, none⟩ v1) b u0 v1 u2 u3 :=
  ⟨cell_set_off h.c0 (by decide), cell_set_eq h.c1, cell_set_off h.c2 (by decide), cell_set_off h.c3 (by decide), frozen_set h.f0, frozen_set h.f1, frozen_set h.f2, frozen_set h.f3⟩
theorem Cells4.new (w : World) (u0 u1 u2 u3 : Value) (t : TypeId) : Cells4 (w.alloc (.cells #[u0, u1, u2, u3] t)) w.heap.size u0 u1 u2 u3 := by
  constructor <;> simp [go_sem]
theorem ownV_empty' (w : World) (B g : Nat) (hg : g = w.heap.size) (hB : B ≤ w.heap.size) : OwnV (w.alloc (.cells #[] 25)) B (.slice (some ⟨g, 0, none⟩) 0 0) [] := by
  subst hg; exact ownV_empty w B hB
theorem le_alloc {n : Nat} {W : World} (h : n ≤ W.heap.size) (o : Obj) : n ≤ (W.alloc o).heap.size := by simp; omega
theorem RInv.keep {w : World} {b8 gb gcap rb rcap c : Nat} {rws trn : Int} {v3 : Value} {W W' : World} {p : List (Option Nat) × List (Option Nat)} (h : RInv w b8 gb gcap rb rcap c rws trn v3 W p) (hb : Below W.heap.size W W') : RInv w b8 gb gcap rb rcap c rws trn v3 W' p :=
  ⟨h.c3.below hb, h.c6.below hb, h.c8.below hb, h.own1.below hb (Nat.le_refl _), h.own2.below hb (Nat.le_refl _), h.l1, h.l2, h.below.trans (hb.mono h.below.size)⟩
theorem RInv.put1 {w : World} {b8 gb gcap rb rcap c : Nat} {rws trn : Int} {v3 : Value} {W : World} {p : List (Option Nat) × List (Option Nat)} (h : RInv w b8 gb gcap rb rcap c rws trn v3 W p) {j u : Nat} {x : Option Nat} (hu : FW u x)
    (h1 : gb ≠ w.heap.size) (h2 : gb ≠ w.heap.size + 1) (h3 : gb ≠ b8) (h4 : gb ≠ rb) (h5 : w.heap.size ≤ gb) : RInv w b8 gb gcap rb rcap c rws trn v3 (W.setCell ⟨gb, j, none⟩ (.float .f64 u)) (p.1.set j x, p.2) :=
  ⟨h.c3.set h1, h.c6.set h2, h.c8.set h3, h.own1.set h.l1 _ hu, h.own2.setOther h4, by rw [List.length_set]; exact h.l1, h.l2, h.below.setCell (p := ⟨gb, j, none⟩) h5 _⟩
theorem RInv.put2 {w : World} {b8 gb gcap rb rcap c : Nat} {rws trn : Int} {v3 : Value} {W : World} {p : List (Option Nat) × List (Option Nat)} (h : RInv w b8 gb gcap rb rcap c rws trn v3 W p) {j u : Nat} {x : Option Nat} (hu : FW u x)
    (h1 : rb ≠ w.heap.size) (h2 : rb ≠ w.heap.size + 1) (h3 : rb ≠ b8) (h4 : rb ≠ gb) (h5 : w.heap.size ≤ rb) : RInv w b8 gb gcap rb rcap c rws trn v3 (W.setCell ⟨rb, j, none⟩ (.float .f64 u)) (p.1, p.2.set j x) :=
  ⟨h.c3.set h1, h.c6.set h2, h.c8.set h3, h.own1.setOther h4, h.own2.set h.l2 _ hu, h.l1, by rw [List.length_set]; exact h.l2, h.below.setCell (p := ⟨rb, j, none⟩) h5 _⟩
end Go.Proofs.YtmmligbkecilfaaGreatDoor
