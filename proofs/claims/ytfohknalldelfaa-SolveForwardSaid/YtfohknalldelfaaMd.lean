/- Two factors merged: the program's loop over the rows. -/
import Derived.Test.YtfohknalldelfaaMc
import Derived.LoopTactic
namespace Go.Proofs.Ytfohknalldelfaa
open Go.RowKit Lv Go.Shelf
open Ieee (double Format Datum Toward)
attribute [local go_sem high] run_maxI

attribute [local go_sem] Oper.semAt_some run_store_float drewN_alloc drewN_setCell

theorem line_calls (c i : Nat) (rws trn : Int) (a : Option Addr) (n cap : Nat) (xs : List (Option Nat)) (w : World) (h : Row w (.slice a n cap) xs) (hok : checkP (c : Int) xs rws trn = true) (hi : i ≤ c) :
    Calls Try.prog 41 #[.agg #[.int .i64 (c : Int), .slice a n cap, .int .i64 rws, .int .i64 trn], .int .i64 (i : Int)] w fun e w' => (∃ v, e = .returned v ∧ OwnV w' w.heap.size v (lineP xs c i)) ∧ Below w.heap.size w w' := by
  obtain ⟨hc1, hc6⟩ := checkP_cols hok
  have hxl := checkP_len hok
  have hb := tsz_bounds (c := c) (by omega) (by omega)
  have hn := h.len
  obtain ⟨tb, tf, rfl, htb, _⟩ := h.shape (by omega)
  subst hn
  refine (line_yes c i rws trn tb tf cap xs w (by omega) (by omega) hi hxl h hok).mono ?_
  rintro e w' ⟨v, rfl, ho, hb⟩
  exact ⟨⟨v, rfl, ho⟩, hb⟩

/-- behind the statement that rotates a row in -/
def TwoCut (w : World) (B : FacD) (b : Option Addr) (m d : Nat) (r : FacD × Bool) (s9 : Value) (W : World) : Prop :=
  ∃ ga gn gcp, s9 = .bool r.2 ∧ TwoAt w W r.1 B ga gn gcp b m d

end Go.Proofs.Ytfohknalldelfaa
