/- AbsorbLines, walked. -/
import Derived.Test.YtaabfjfaljhjmaaSo
namespace Go.Proofs.Ytaabfjfaljhjmaa
open Go.RowKit Lv Go.Shelf
open Ieee (double Format Datum Toward)
attribute [local go_sem] Oper.semAt_some run_store_float drewN_alloc drewN_setCell

set_option maxRecDepth 100000 in
set_option maxHeartbeats 1000000 in
theorem absorbLines_walk (w : World) (F : FacD) (a : Option Addr) (n cap : Nat) (h : Row w (.slice a n cap) F.xs) (ls : List (Option Nat)) (b : Option Addr) (m d : Nat) (hl : Row w (.slice b m d) ls) (fr : Int) (_ : (Lit.int .i64 fr).wf = true) :
    Calls Try.prog 7 #[.agg #[.int .i64 F.cols, .slice a n cap, .int .i64 F.rws, .int .i64 F.trn], .slice b m d, .int .i64 fr] w fun e w' => e = .returned (.bool true) ∧ Below w.heap.size w w' := by
  have hB := (Below.refl w.heap.size w).alloc (Nat.le_refl _) (.cells #[.int .i64 F.cols, .slice a n cap, .int .i64 F.rws, .int .i64 F.trn] 24)
  have HR := Lib.hid h
  have HL := Lib.hid hl
  by_cases hbig : 60 < n ∨ 20 < m
  · by_cases h1 : 60 < n
    · have h1i : (60 : Int) < (n : Int) := by omega
      clear h hl
      go_enter Try.func7, Try.ntmps7
      go_wp2_with (go_at_call 26; refine (live10_calls _).mono ?_; rintro e w1 ⟨rfl, hb⟩)
      go_ret
      exact ⟨rfl, hB.trans (hb.mono (by simp))⟩
    · have h1i : ¬ (60 : Int) < (n : Int) := by omega
      have h2i : (20 : Int) < (m : Int) := by omega
      clear h hl hbig
      go_enter Try.func7, Try.ntmps7
      go_wp2_with (go_at_call 26; refine (live10_calls _).mono ?_; rintro e w1 ⟨rfl, hb⟩)
      go_ret
      exact ⟨rfl, hB.trans (hb.mono (by simp))⟩
  · have h1i : ¬ (60 : Int) < (n : Int) := by omega
    have h2i : ¬ (20 : Int) < (m : Int) := by omega
    have C3 := Lib.hid (Cells4.new w (.int .i64 F.cols) (.slice a n cap) (.int .i64 F.rws) (.int .i64 F.trn) 24)
    have HB := Lib.hid hB
    have A1 := Lib.hid (fun W h h' => ALine_calls F fr a b n cap m d ls W h h')
    have A2 := Lib.hid (fun W h h' => rALine_calls F fr a b n cap m d ls W h h')
    clear h hl hbig hB
    generalize lineD F ls fr = G at *
    obtain ⟨G, t⟩ := G
    go_enter Try.func7, Try.ntmps7
    go_wp2_with (first
      | (go_at_call 27; go_must (refine (A1.out _ (HR.out.below HB.out) (HL.out.below HB.out)).mono ?_; rintro e w1 ⟨⟨ga, gn, gcp, rfl, hr1⟩, hb1⟩; have B1 := Lib.hid (HB.out.trans (hb1.mono (by simp))); have R1 := Lib.hid hr1; have D1 := C3.out.below hb1; obtain ⟨c0, c1, c2, c3, _, _, _, _⟩ := D1; have E1 := Lib.hid (C3.out.below hb1); have hz1 := hb1.size; simp at hz1; have hy1 : w.heap.size < w1.heap.size := (by omega); clear hr1 hb1))
      | (go_at_call 28; go_must (refine (A2.out _ ((HR.out.below B1.out).alloc _) ((HL.out.below B1.out).alloc _)).mono ?_; rintro e w2 ⟨⟨ka, kn, kcp, rfl, hr2⟩, hb2⟩; have B2 := Lib.hid ((B1.out.alloc (by omega) (.cells #[.int .i64 G.cols, .slice ga gn gcp, .int .i64 G.rws, .int .i64 G.trn] 24)).trans (hb2.mono (by simp; omega))); have R1b := Lib.hid ((R1.out.alloc (.cells #[.int .i64 G.cols, .slice ga gn gcp, .int .i64 G.rws, .int .i64 G.trn] 24)).below hb2); have R2 := Lib.hid hr2; have D2 := (Cells4.new w1 (.int .i64 G.cols) (.slice ga gn gcp) (.int .i64 G.rws) (.int .i64 G.trn) 24).below hb2; obtain ⟨d0, d1, d2, d3, _, _, _, _⟩ := D2; have hz2 := hb2.size; simp at hz2; have hy2 : w1.heap.size < w2.heap.size := (by omega); clear hr2 hb2))
      | (go_at_call 16; go_must (refine (rsame7_calls G ga ka gn kn gcp kcp _ (R1b.out.alloc _) (R2.out.alloc _)).mono ?_; rintro e w3 ⟨rfl, hb3⟩; have B3 := Lib.hid ((B2.out.alloc (by omega) (.cells #[.int .i64 G.cols, .slice ka kn kcp, .int .i64 G.rws, .int .i64 G.trn] 24)).trans (hb3.mono (by simp; omega))); have hz3 := hb3.size; simp at hz3))
      | (go_at_call 26; refine (live10_calls _).mono ?_; rintro e w4 ⟨rfl, hb4⟩))
    go_ret
    exact ⟨by simp, B3.out.trans (hb4.mono (by omega))⟩
end Go.Proofs.Ytaabfjfaljhjmaa
