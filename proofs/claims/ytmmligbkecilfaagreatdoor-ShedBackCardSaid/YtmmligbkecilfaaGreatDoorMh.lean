/- Two factors merged: what the program refuses, walked. Two factors merged: what the reference refuses, walked. Two factors merged: the reference's loop over the rows. Two factors merged: the program's loop over the rows. Factors in memory; factors merged one behind the other, plainly; the program's fold, walked. Factors merged one behind the other: the program's All and the reference's; the reference's Few. -/
import Derived.Test.YtmmligbkecilfaaGreatDoorMb
import Derived.Test.YtmmligbkecilfaaGreatDoorSk
import Derived.Deep.CutRange
import Derived.Deep.RegionWith
import Derived.BigQuiet
import Derived.Deep.QuietTactic
import Derived.IntWalk
import Derived.Deep.RegionHeld3
import Derived.LoopTactic
namespace Go.Proofs.YtmmligbkecilfaaGreatDoor
open Go.RowKit Lv Go.Shelf
open Ieee (double Format Datum Toward)
attribute [local go_sem high] run_maxI

attribute [local go_sem] Oper.semAt_some run_store_float drewN_alloc drewN_setCell

/-- where two factors and the zero factor stand -/
structure TwoAt (w W : World) (A B : FacD) (a : Option Addr) (n c : Nat) (b : Option Addr) (m d : Nat) : Prop where
  ca : Cells4 W w.heap.size (.int .i64 A.cols) (.slice a n c) (.int .i64 A.rws) (.int .i64 A.trn)
  cb : Cells4 W (w.heap.size + 1) (.int .i64 B.cols) (.slice b m d) (.int .i64 B.rws) (.int .i64 B.trn)
  cz : Cells4 W (w.heap.size + 1 + 1) (.int .i64 0) (.slice none 0 0) (.int .i64 0) (.int .i64 0)
  ra : Row W (.slice a n c) A.xs
  rb : Row W (.slice b m d) B.xs
  below : Below w.heap.size w W
theorem TwoAt.keep {w W W' : World} {A B : FacD} {a : Option Addr} {n c : Nat} {b : Option Addr} {m d : Nat} (h : TwoAt w W A B a n c b m d) (hb : Below W.heap.size W W') : TwoAt w W' A B a n c b m d :=
  ⟨h.ca.below hb, h.cb.below hb, h.cz.below hb, h.ra.below hb, h.rb.below hb, h.below.trans (hb.mono h.below.size)⟩
theorem TwoAt.start (w : World) (A B : FacD) (a : Option Addr) (n c : Nat) (b : Option Addr) (m d : Nat) (h : Row w (.slice a n c) A.xs) (h' : Row w (.slice b m d) B.xs) :
    TwoAt w (((w.alloc (.cells #[.int .i64 A.cols, .slice a n c, .int .i64 A.rws, .int .i64 A.trn] 24)).alloc (.cells #[.int .i64 B.cols, .slice b m d, .int .i64 B.rws, .int .i64 B.trn] 24)).alloc (.cells #[.int .i64 0, .slice none 0 0, .int .i64 0, .int .i64 0] 24)) A B a n c b m d := by
  refine ⟨((Cells4.new w _ _ _ _ _).alloc _).alloc _, ?_, ?_, ((h.alloc _).alloc _).alloc _, ((h'.alloc _).alloc _).alloc _, (((Below.refl _ _).alloc (Nat.le_refl _) _).alloc (by simp) _).alloc (by simp; omega) _⟩
  · have := (Cells4.new (w.alloc (.cells #[.int .i64 A.cols, .slice a n c, .int .i64 A.rws, .int .i64 A.trn] 24)) (.int .i64 B.cols) (.slice b m d) (.int .i64 B.rws) (.int .i64 B.trn) 24).alloc (.cells #[.int .i64 0, .slice none 0 0, .int .i64 0, .int .i64 0] 24)
    simpa using this
  · have := Cells4.new ((w.alloc (.cells #[.int .i64 A.cols, .slice a n c, .int .i64 A.rws, .int .i64 A.trn] 24)).alloc (.cells #[.int .i64 B.cols, .slice b m d, .int .i64 B.rws, .int .i64 B.trn] 24)) (.int .i64 0) (.slice none 0 0) (.int .i64 0) (.int .i64 0) 24
    simpa using this

end Go.Proofs.YtmmligbkecilfaaGreatDoor
namespace Go.Proofs.YtmmligbkecilfaaGreatDoor
open Go.RowKit Lv Go.Shelf
open Ieee (double Format Datum Toward)
attribute [local go_sem high] run_maxI

attribute [local go_sem] Oper.semAt_some run_store_float drewN_alloc drewN_setCell

end Go.Proofs.YtmmligbkecilfaaGreatDoor
namespace Go.Proofs.YtmmligbkecilfaaGreatDoor
open Go.RowKit Lv Go.Shelf
open Ieee (double Format Datum Toward)
attribute [local go_sem high] run_maxI

attribute [local go_sem] Oper.semAt_some run_store_float drewN_alloc drewN_setCell

/-- where two factors stand, and the one that is being made -/
structure RTwoAt (w W : World) (g : Nat) (A B G : FacD) (a : Option Addr) (n c : Nat) (b : Option Addr) (m d : Nat) (p : Option Addr) (pn pc : Nat) : Prop where
  t : TwoAt w W A B a n c b m d
  cg : Cells4 W g (.int .i64 G.cols) (.slice p pn pc) (.int .i64 G.rws) (.int .i64 G.trn)
  rg : Row W (.slice p pn pc) G.xs
  lt : w.heap.size + 1 + 1 < g
theorem RTwoAt.keep {w W W' : World} {g : Nat} {A B G : FacD} {a : Option Addr} {n c : Nat} {b : Option Addr} {m d : Nat} {p : Option Addr} {pn pc : Nat} (h : RTwoAt w W g A B G a n c b m d p pn pc) (hb : Below W.heap.size W W') : RTwoAt w W' g A B G a n c b m d p pn pc :=
  ⟨h.t.keep hb, h.cg.below hb, h.rg.below hb, h.lt⟩
theorem RTwoAt.put {w W : World} {g : Nat} {A B G G' : FacD} {a : Option Addr} {n c : Nat} {b : Option Addr} {m d : Nat} {p : Option Addr} {pn pc : Nat} {q : Option Addr} {qn qc : Nat} (h : RTwoAt w W g A B G a n c b m d p pn pc) (hq : Row W (.slice q qn qc) G'.xs) :
    RTwoAt w ((((W.setCell ⟨g, 0, none⟩ (.int .i64 G'.cols)).setCell ⟨g, 1, none⟩ (.slice q qn qc)).setCell ⟨g, 2, none⟩ (.int .i64 G'.rws)).setCell ⟨g, 3, none⟩ (.int .i64 G'.trn)) g A B G' a n c b m d q qn qc := by
  have := h.lt
  exact ⟨⟨h.t.ca.put_other (by omega) _ _ _ _, h.t.cb.put_other (by omega) _ _ _ _, h.t.cz.put_other (by omega) _ _ _ _, h.t.ra.put4 h.cg slice_ne _ _ _ _, h.t.rb.put4 h.cg slice_ne _ _ _ _, below_put4 h.t.below (by omega) _ _ _ _⟩, h.cg.put _ _ _ _, hq.put4 h.cg slice_ne _ _ _ _, this⟩
/-- behind the statement that rotates a row in -/
def RTwoCut (wr : World) (r : FacD × Bool) (s9 s10 : Value) (W : World) : Prop :=
  ∃ (b9 : Nat) (ga : Option Addr) (gn gcp : Nat), s9 = .pointer (some ⟨b9, 0, none⟩) ∧ s10 = .bool r.2 ∧ Cells4 W b9 (.int .i64 r.1.cols) (.slice ga gn gcp) (.int .i64 r.1.rws) (.int .i64 r.1.trn) ∧ Row W (.slice ga gn gcp) r.1.xs ∧ Below wr.heap.size wr W ∧ wr.heap.size ≤ b9

end Go.Proofs.YtmmligbkecilfaaGreatDoor
namespace Go.Proofs.YtmmligbkecilfaaGreatDoor
open Go.RowKit Lv Go.Shelf
open Ieee (double Format Datum Toward)
attribute [local go_sem high] run_maxI

attribute [local go_sem] Oper.semAt_some run_store_float drewN_alloc drewN_setCell

theorem line_calls (c i : Nat) (rws trn : Int) (a : Option Addr) (n cap : Nat) (xs : List (Option Nat)) (w : World) (h : Row w (.slice a n cap) xs) (hok : checkP (c : Int) xs rws trn = true) (hi : i ≤ c) :
    Calls Tryz.prog 59 #[.agg #[.int .i64 (c : Int), .slice a n cap, .int .i64 rws, .int .i64 trn], .int .i64 (i : Int)] w fun e w' => (∃ v, e = .returned v ∧ OwnV w' w.heap.size v (lineP xs c i)) ∧ Below w.heap.size w w' := by
  obtain ⟨hc1, hc6⟩ := checkP_cols hok
  have hxl := checkP_len hok
  have hb := tsz_bounds (c := c) (by omega) (by omega)
  have hn := h.len
  obtain ⟨tb, tf, rfl, htb, _⟩ := h.shape (by omega)
  subst hn
  refine (line_yes c i rws trn tb tf cap xs w (by omega) (by omega) hi hxl h hok).mono ?_
  rintro e w' ⟨v, rfl, ho, hb⟩
  exact ⟨⟨v, rfl, ho⟩, hb⟩

/-- behind the statement that rotates a row in -/
def TwoCut (w : World) (B : FacD) (b : Option Addr) (m d : Nat) (r : FacD × Bool) (s9 : Value) (W : World) : Prop :=
  ∃ ga gn gcp, s9 = .bool r.2 ∧ TwoAt w W r.1 B ga gn gcp b m d

end Go.Proofs.YtmmligbkecilfaaGreatDoor
namespace Go.Proofs.YtmmligbkecilfaaGreatDoor
open Go.RowKit Lv Go.Shelf
open Ieee (double Format Datum Toward)
attribute [local go_sem] Oper.semAt_some run_store_float drewN_alloc drewN_setCell

/-- a slice value that reads as factors -/
def Fcs (w : World) (v : Value) (Fs : List FacD) : Prop :=
  ∃ (a : Option Addr) (cap : Nat), v = .slice a Fs.length cap ∧ Fs.length ≤ cap ∧ cap ≤ maxLen ∧
    (Fs.length = 0 ∨ ∃ blk off, a = some ⟨blk, off, none⟩ ∧ ∀ i, i < Fs.length → ∃ b m d, w.cell? ⟨blk, off + i * 4, none⟩ = some (.int .i64 (Fs.getD i fac0).cols) ∧ w.cell? ⟨blk, off + i * 4 + 1, none⟩ = some (.slice b m d) ∧
      w.cell? ⟨blk, off + i * 4 + 2, none⟩ = some (.int .i64 (Fs.getD i fac0).rws) ∧ w.cell? ⟨blk, off + i * 4 + 3, none⟩ = some (.int .i64 (Fs.getD i fac0).trn) ∧ Row w (.slice b m d) (Fs.getD i fac0).xs)
theorem Fcs.below {w w' : World} {v : Value} {Fs : List FacD} (h : Fcs w v Fs) (hb : Below w.heap.size w w') : Fcs w' v Fs := by
  obtain ⟨a, cap, rfl, h1, h2, h3⟩ := h
  refine ⟨a, cap, rfl, h1, h2, ?_⟩
  rcases h3 with h3 | ⟨blk, off, rfl, hc⟩
  · exact .inl h3
  · refine .inr ⟨blk, off, rfl, fun i hi => ?_⟩
    obtain ⟨b, m, d, k1, k2, k3, k4, k5⟩ := hc i hi
    exact ⟨b, m, d, (hb.cell (p := ⟨blk, off + i * 4, none⟩) (cell_lt k1)).trans k1, (hb.cell (p := ⟨blk, off + i * 4 + 1, none⟩) (cell_lt k2)).trans k2, (hb.cell (p := ⟨blk, off + i * 4 + 2, none⟩) (cell_lt k3)).trans k3, (hb.cell (p := ⟨blk, off + i * 4 + 3, none⟩) (cell_lt k4)).trans k4, k5.below hb⟩
theorem Fcs.len {w : World} {a : Option Addr} {n cap : Nat} {Fs : List FacD} (h : Fcs w (.slice a n cap) Fs) : Fs.length = n ∧ n ≤ cap ∧ cap ≤ 9223372036854775807 := by
  obtain ⟨_, _, hv, h1, h2, _⟩ := h
  simp only [Value.slice.injEq] at hv
  unfold maxLen at h2
  obtain ⟨_, rfl, rfl⟩ := hv
  exact ⟨rfl, h1, by omega⟩
theorem Fcs.at {w : World} {a : Option Addr} {n cap : Nat} {Fs : List FacD} (h : Fcs w (.slice a n cap) Fs) (hn : 0 < n) : ∃ blk off, a = some ⟨blk, off, none⟩ ∧ ∀ i, i < n → ∃ b m d, w.cell? ⟨blk, off + i * 4, none⟩ = some (.int .i64 (Fs.getD i fac0).cols) ∧ w.cell? ⟨blk, off + i * 4 + 1, none⟩ = some (.slice b m d) ∧
      w.cell? ⟨blk, off + i * 4 + 2, none⟩ = some (.int .i64 (Fs.getD i fac0).rws) ∧ w.cell? ⟨blk, off + i * 4 + 3, none⟩ = some (.int .i64 (Fs.getD i fac0).trn) ∧ Row w (.slice b m d) (Fs.getD i fac0).xs := by
  obtain ⟨a', cap', hv, h1, h2, h3⟩ := h
  simp only [Value.slice.injEq] at hv
  obtain ⟨rfl, rfl, rfl⟩ := hv
  rcases h3 with h3 | h3
  · omega
  · exact h3
theorem Fcs.tail {w : World} {blk off n cap : Nat} {a' : Option Addr} {A : FacD} {Bs : List FacD} (h : Fcs w (.slice (some ⟨blk, off, none⟩) n cap) (A :: Bs)) (ha : n = 1 ∨ a' = some ⟨blk, off + 4, none⟩) : Fcs w (.slice a' (n - 1) (cap - 1)) Bs := by
  obtain ⟨a1, cap1, hv, h1, h2, h3⟩ := h
  simp only [Value.slice.injEq] at hv
  obtain ⟨rfl, rfl, rfl⟩ := hv
  simp only [List.length_cons] at h1 h3 ha ⊢
  refine ⟨a', cap - 1, rfl, by omega, by omega, ?_⟩
  rcases ha with ha | rfl
  · exact .inl (by omega)
  · rcases h3 with h3 | ⟨b1, o1, e, hc⟩
    · omega
    · simp only [Option.some.injEq, Addr.mk.injEq, and_true] at e
      obtain ⟨rfl, rfl⟩ := e
      refine .inr ⟨blk, off + 4, rfl, fun i hi => ?_⟩
      have := hc (i + 1) (by omega)
      simp only [List.getD_cons_succ] at this
      rw [show off + (i + 1) * 4 = off + 4 + i * 4 by omega] at this
      exact this

/-- factors merged from the left -/
def mfold : FacD → List FacD → FacD × Int
  | G, [] => (G, 0)
  | G, B :: Bs => if (twoD G B).2 ≠ 0 then (fac0, (twoD G B).2) else mfold (twoD G B).1 Bs
def mallD : List FacD → FacD × Int
  | [] => (fac0, 4)
  | A :: Bs => if A.ok = false then (fac0, 1) else mfold A Bs
theorem fold_step {k : Nat} {G : FacD} {Bs : List FacD} {R : FacD × Int} (hk : k < Bs.length) (h : mfold G (Bs.drop k) = R) :
    ((twoD G (Bs.getD k fac0)).2 ≠ 0 ∧ R = (fac0, (twoD G (Bs.getD k fac0)).2)) ∨ ((twoD G (Bs.getD k fac0)).2 = 0 ∧ mfold (twoD G (Bs.getD k fac0)).1 (Bs.drop (k + 1)) = R) := by
  have e : Bs.getD k fac0 = Bs[k] := by rw [List.getD_eq_getElem?_getD, List.getElem?_eq_getElem hk]; rfl
  rw [e]
  rw [List.drop_eq_getElem_cons hk] at h
  unfold mfold at h
  by_cases h2 : (twoD G Bs[k]).2 ≠ 0
  · rw [if_pos h2] at h; exact .inl ⟨h2, h.symm⟩
  · rw [if_neg h2] at h; exact .inr ⟨by simpa using h2, h⟩

/-- what stands at the loop's head -/
structure FInv (w : World) (R : FacD × Int) (Bs : List FacD) (W : World) (k : Nat) (G : FacD) (a : Option Addr) (n cap : Nat) : Prop where
  c3 : Cells4 W w.heap.size (.int .i64 G.cols) (.slice a n cap) (.int .i64 G.rws) (.int .i64 G.trn)
  c6 : Cells4 W (w.heap.size + 1) (.int .i64 0) (.slice none 0 0) (.int .i64 0) (.int .i64 0)
  c8 : Cells4 W (w.heap.size + 1 + 1) (.int .i64 0) (.slice none 0 0) (.int .i64 0) (.int .i64 0)
  row : Row W (.slice a n cap) G.xs
  eq : mfold G (Bs.drop k) = R
  below : Below w.heap.size w W

end Go.Proofs.YtmmligbkecilfaaGreatDoor
namespace Go.Proofs.YtmmligbkecilfaaGreatDoor
open Go.RowKit Lv Go.Shelf
open Ieee (double Format Datum Toward)
attribute [local go_sem] Oper.semAt_some run_store_float drewN_alloc drewN_setCell

end Go.Proofs.YtmmligbkecilfaaGreatDoor
