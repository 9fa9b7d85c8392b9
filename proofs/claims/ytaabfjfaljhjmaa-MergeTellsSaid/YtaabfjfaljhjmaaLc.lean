/- MergeTells, walked. -/
import Derived.Test.YtaabfjfaljhjmaaMj
namespace Go.Proofs.Ytaabfjfaljhjmaa
open Go.RowKit Lv Go.Shelf
open Ieee (double Format Datum Toward)
attribute [local go_sem] Oper.semAt_some run_store_float drewN_alloc drewN_setCell

set_option maxRecDepth 100000 in
set_option maxHeartbeats 1000000 in
theorem mergeTells_walk (w : World) (A : FacD) (a : Option Addr) (n c : Nat) (h : Row w (.slice a n c) A.xs) (B : FacD) (b : Option Addr) (m d : Nat) (h' : Row w (.slice b m d) B.xs) (cc : Int) (_ : (Lit.int .i64 cc).wf = true) :
    Calls Try.prog 3 #[.agg #[.int .i64 A.cols, .slice a n c, .int .i64 A.rws, .int .i64 A.trn], .agg #[.int .i64 B.cols, .slice b m d, .int .i64 B.rws, .int .i64 B.trn], .int .i64 cc] w fun e w' => e = .returned (.bool true) ∧ Below w.heap.size w w' := by
  have hB := ((Below.refl w.heap.size w).alloc (Nat.le_refl _) (.cells #[.int .i64 A.cols, .slice a n c, .int .i64 A.rws, .int .i64 A.trn] 24)).alloc (by simp) (.cells #[.int .i64 B.cols, .slice b m d, .int .i64 B.rws, .int .i64 B.trn] 24)
  have HA := Lib.hid h
  have HB' := Lib.hid h'
  by_cases hbig : 60 < n ∨ 60 < m
  · by_cases h1 : 60 < n
    · have h1i : (60 : Int) < (n : Int) := by omega
      clear h h'
      go_enter Try.func3, Try.ntmps3
      go_wp2_with (go_at_call 13; refine (live13_calls _).mono ?_; rintro e w1 ⟨rfl, hb⟩)
      go_ret
      exact ⟨rfl, hB.trans (hb.mono (by simp; omega))⟩
    · have h1i : ¬ (60 : Int) < (n : Int) := by omega
      have h2i : (60 : Int) < (m : Int) := by omega
      clear h h' hbig
      go_enter Try.func3, Try.ntmps3
      go_wp2_with (go_at_call 13; refine (live13_calls _).mono ?_; rintro e w1 ⟨rfl, hb⟩)
      go_ret
      exact ⟨rfl, hB.trans (hb.mono (by simp; omega))⟩
  · have h1i : ¬ (60 : Int) < (n : Int) := by omega
    have h2i : ¬ (60 : Int) < (m : Int) := by omega
    have C3 := Lib.hid ((Cells4.new w (.int .i64 A.cols) (.slice a n c) (.int .i64 A.rws) (.int .i64 A.trn) 24).alloc (.cells #[.int .i64 B.cols, .slice b m d, .int .i64 B.rws, .int .i64 B.trn] 24))
    have C4 : Hid (Cells4 ((w.alloc (.cells #[.int .i64 A.cols, .slice a n c, .int .i64 A.rws, .int .i64 A.trn] 24)).alloc (.cells #[.int .i64 B.cols, .slice b m d, .int .i64 B.rws, .int .i64 B.trn] 24)) (w.heap.size + 1) (.int .i64 B.cols) (.slice b m d) (.int .i64 B.rws) (.int .i64 B.trn)) := by
      unfold Hid
      have := Cells4.new (w.alloc (.cells #[.int .i64 A.cols, .slice a n c, .int .i64 A.rws, .int .i64 A.trn] 24)) (.int .i64 B.cols) (.slice b m d) (.int .i64 B.rws) (.int .i64 B.trn) 24
      simpa using this
    have HB := Lib.hid hB
    have A1 := Lib.hid (fun W h h' => two_calls A B a b n c m d W h h')
    have A2 := Lib.hid (fun W h h' => rtwo_calls A B a b n c m d W h h')
    have K1 := Lib.hid (fun W => cost_calls cc W)
    have K2 := Lib.hid (fun W => rcost_calls cc W)
    clear h h' hbig hB
    generalize twoD A B = G at *
    generalize sizeI cc = sz at *
    obtain ⟨G, ge⟩ := G
    have hee : (ge == ge) = true := by simp
    have hss : (sz == sz) = true := by simp
    go_enter Try.func3, Try.ntmps3
    go_wp2_with (first
      | (go_at_call 14; go_must (refine (A1.out _ (HA.out.below HB.out) (HB'.out.below HB.out)).mono ?_; rintro e w1 ⟨⟨ga, gn, gcp, rfl, hr1⟩, hb1⟩; have B1 := Lib.hid (HB.out.trans (hb1.mono (by simp; omega))); have R1 := Lib.hid hr1; have E3 := Lib.hid (C3.out.below hb1); have E4 := Lib.hid (C4.out.below hb1); obtain ⟨c0, c1, c2, c3, _, _, _, _⟩ := E3.out; obtain ⟨d0, d1, d2, d3, _, _, _, _⟩ := E4.out; have hz1 := hb1.size; simp at hz1; have hy1 : w.heap.size < w1.heap.size := (by omega); have hx1 : w.heap.size + 1 < w1.heap.size := (by omega); clear hr1 hb1))
      | (go_at_call 15; go_must (refine (A2.out _ ((HA.out.below B1.out).alloc _) ((HB'.out.below B1.out).alloc _)).mono ?_; rintro e w2 ⟨⟨ka, kn, kcp, rfl, hr2⟩, hb2⟩; have B2 := Lib.hid ((B1.out.alloc (by omega) (.cells #[.int .i64 G.cols, .slice ga gn gcp, .int .i64 G.rws, .int .i64 G.trn] 24)).trans (hb2.mono (by simp; omega))); have R1b := Lib.hid ((R1.out.alloc (.cells #[.int .i64 G.cols, .slice ga gn gcp, .int .i64 G.rws, .int .i64 G.trn] 24)).below hb2); have R2 := Lib.hid hr2; have D7 := (Cells4.new w1 (.int .i64 G.cols) (.slice ga gn gcp) (.int .i64 G.rws) (.int .i64 G.trn) 24).below hb2; clear c0 c1 c2 c3 d0 d1 d2 d3; obtain ⟨c0, c1, c2, c3, _, _, _, _⟩ := D7; have hz2 := hb2.size; simp at hz2; have hx2 : w1.heap.size < w2.heap.size := (by omega); clear hr2 hb2))
      | (go_at_call 16; go_must (refine (rsame7_calls G ga ka gn kn gcp kcp _ (R1b.out.alloc _) (R2.out.alloc _)).mono ?_; rintro e w3 ⟨rfl, hb3⟩; have B3 := Lib.hid ((B2.out.alloc (by omega) (.cells #[.int .i64 G.cols, .slice ka kn kcp, .int .i64 G.rws, .int .i64 G.trn] 24)).trans (hb3.mono (by simp; omega))); have hz3 := hb3.size; simp at hz3))
      | (go_at_call 17; refine (K1.out _).mono ?_; rintro e w4 ⟨rfl, rfl⟩)
      | (go_at_call 18; refine (K2.out _).mono ?_; rintro e w5 ⟨rfl, rfl⟩)
      | (go_at_call 13; refine (live13_calls _).mono ?_; rintro e w6 ⟨rfl, hb6⟩))
    go_ret
    exact ⟨by simp, B3.out.trans (hb6.mono (by omega))⟩
end Go.Proofs.Ytaabfjfaljhjmaa
