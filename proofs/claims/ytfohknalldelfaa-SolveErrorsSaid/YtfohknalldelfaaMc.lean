/- Two factors merged: what the program refuses, walked. -/
import Derived.Test.YtfohknalldelfaaMb
import Derived.Test.YtfohknalldelfaaSk
import Derived.Deep.CutRange
namespace Go.Proofs.Ytfohknalldelfaa
open Go.RowKit Lv Go.Shelf
open Ieee (double Format Datum Toward)
attribute [local go_sem high] run_maxI

attribute [local go_sem] Oper.semAt_some run_store_float drewN_alloc drewN_setCell

/-- where two factors and the zero factor stand -/
structure TwoAt (w W : World) (A B : FacD) (a : Option Addr) (n c : Nat) (b : Option Addr) (m d : Nat) : Prop where
  ca : Cells4 W w.heap.size (.int .i64 A.cols) (.slice a n c) (.int .i64 A.rws) (.int .i64 A.trn)
  cb : Cells4 W (w.heap.size + 1) (.int .i64 B.cols) (.slice b m d) (.int .i64 B.rws) (.int .i64 B.trn)
  cz : Cells4 W (w.heap.size + 1 + 1) (.int .i64 0) (.slice none 0 0) (.int .i64 0) (.int .i64 0)
  ra : Row W (.slice a n c) A.xs
  rb : Row W (.slice b m d) B.xs
  below : Below w.heap.size w W
theorem TwoAt.keep {w W W' : World} {A B : FacD} {a : Option Addr} {n c : Nat} {b : Option Addr} {m d : Nat} (h : TwoAt w W A B a n c b m d) (hb : Below W.heap.size W W') : TwoAt w W' A B a n c b m d :=
  ⟨h.ca.below hb, h.cb.below hb, h.cz.below hb, h.ra.below hb, h.rb.below hb, h.below.trans (hb.mono h.below.size)⟩
theorem TwoAt.start (w : World) (A B : FacD) (a : Option Addr) (n c : Nat) (b : Option Addr) (m d : Nat) (h : Row w (.slice a n c) A.xs) (h' : Row w (.slice b m d) B.xs) :
    TwoAt w (((w.alloc (.cells #[.int .i64 A.cols, .slice a n c, .int .i64 A.rws, .int .i64 A.trn] 24)).alloc (.cells #[.int .i64 B.cols, .slice b m d, .int .i64 B.rws, .int .i64 B.trn] 24)).alloc (.cells #[.int .i64 0, .slice none 0 0, .int .i64 0, .int .i64 0] 24)) A B a n c b m d := by
  refine ⟨((Cells4.new w _ _ _ _ _).alloc _).alloc _, ?_, ?_, ((h.alloc _).alloc _).alloc _, ((h'.alloc _).alloc _).alloc _, (((Below.refl _ _).alloc (Nat.le_refl _) _).alloc (by simp) _).alloc (by simp; omega) _⟩
  · have := (Cells4.new (w.alloc (.cells #[.int .i64 A.cols, .slice a n c, .int .i64 A.rws, .int .i64 A.trn] 24)) (.int .i64 B.cols) (.slice b m d) (.int .i64 B.rws) (.int .i64 B.trn) 24).alloc (.cells #[.int .i64 0, .slice none 0 0, .int .i64 0, .int .i64 0] 24)
    simpa using this
  · have := Cells4.new ((w.alloc (.cells #[.int .i64 A.cols, .slice a n c, .int .i64 A.rws, .int .i64 A.trn] 24)).alloc (.cells #[.int .i64 B.cols, .slice b m d, .int .i64 B.rws, .int .i64 B.trn] 24)) (.int .i64 0) (.slice none 0 0) (.int .i64 0) (.int .i64 0) 24
    simpa using this

end Go.Proofs.Ytfohknalldelfaa
