/- ShedLines, walked. -/
import Derived.Test.YtfohknalldelfaaDoorTm
namespace Go.Proofs.YtfohknalldelfaaDoor
open Go.RowKit Lv Go.Shelf
open Ieee (double Format Datum Toward)
attribute [local go_sem] Oper.semAt_some run_store_float drewN_alloc drewN_setCell

set_option maxRecDepth 100000 in
set_option maxHeartbeats 1000000 in
theorem shedLines_walk (w : World) (a0 a1 a2 : Addr) (LD : Laid w a0 a1 a2) (F : FacD) (a : Option Addr) (n cap : Nat) (h : Row w (.slice a n cap) F.xs) (ls : List (Option Nat)) (b : Option Addr) (m d : Nat) (hl : Row w (.slice b m d) ls) :
    Calls Tryd.prog 3 #[.agg #[.int .i64 F.cols, .slice a n cap, .int .i64 F.rws, .int .i64 F.trn], .slice b m d] w fun e w' => e = .returned (.bool true) ∧ Below w.heap.size w w' := by
  have hB := (Below.refl w.heap.size w).alloc (Nat.le_refl _) (.cells #[.int .i64 F.cols, .slice a n cap, .int .i64 F.rws, .int .i64 F.trn] 24)
  have HR := Lib.hid h
  have HLD := Lib.hid LD
  clear LD
  have HL := Lib.hid hl
  by_cases hbig : 60 < n ∨ 20 < m
  · by_cases h1 : 60 < n
    · have h1i : (60 : Int) < (n : Int) := by omega
      clear h hl
      go_enter Tryd.func3, Tryd.ntmps3
      go_wp2_with (go_at_call 9; refine (live11_calls _ a0 a1 a2 (HLD.out.below (hB))).mono ?_; rintro e w1 ⟨rfl, hb⟩)
      go_ret
      exact ⟨rfl, hB.trans (hb.mono (by simp))⟩
    · have h1i : ¬ (60 : Int) < (n : Int) := by omega
      have h2i : (20 : Int) < (m : Int) := by omega
      clear h hl hbig
      go_enter Tryd.func3, Tryd.ntmps3
      go_wp2_with (go_at_call 9; refine (live11_calls _ a0 a1 a2 (HLD.out.below (hB))).mono ?_; rintro e w1 ⟨rfl, hb⟩)
      go_ret
      exact ⟨rfl, hB.trans (hb.mono (by simp))⟩
  · have h1i : ¬ (60 : Int) < (n : Int) := by omega
    have h2i : ¬ (20 : Int) < (m : Int) := by omega
    have C3 := Lib.hid (Cells4.new w (.int .i64 F.cols) (.slice a n cap) (.int .i64 F.rws) (.int .i64 F.trn) 24)
    have HB := Lib.hid hB
    have A1 := Lib.hid (fun W ld h h' => sLine_calls F a b n cap m d ls W a0 a1 a2 ld h h')
    have A2 := Lib.hid (fun W h h' => rsLine_calls F a b n cap m d ls W h h')
    clear h hl hbig hB
    generalize shedD F ls = G at *
    obtain ⟨G, t⟩ := G
    have htt : (t == t) = true := by simp
    go_enter Tryd.func3, Tryd.ntmps3
    go_wp2_with (first
      | (go_at_call 10; go_must (refine (A1.out _ (HLD.out.below HB.out) (HR.out.below HB.out) (HL.out.below HB.out)).mono ?_; rintro e w1 ⟨⟨ga, gn, gcp, rfl, hr1⟩, hb1⟩; have B1 := Lib.hid (HB.out.trans (hb1.mono (by simp))); have R1 := Lib.hid hr1; have D1 := C3.out.below hb1; obtain ⟨c0, c1, c2, c3, _, _, _, _⟩ := D1; have E1 := Lib.hid (C3.out.below hb1); have hz1 := hb1.size; simp at hz1; have hy1 : w.heap.size < w1.heap.size := (by omega); clear hr1 hb1))
      | (go_at_call 11; go_must (refine (A2.out _ ((HR.out.below B1.out).alloc _) ((HL.out.below B1.out).alloc _)).mono ?_; rintro e w2 ⟨⟨ka, kn, kcp, rfl, hr2⟩, hb2⟩; have B2 := Lib.hid ((B1.out.alloc (by omega) (.cells #[.int .i64 G.cols, .slice ga gn gcp, .int .i64 G.rws, .int .i64 G.trn] 24)).trans (hb2.mono (by simp; omega))); have R1b := Lib.hid ((R1.out.alloc (.cells #[.int .i64 G.cols, .slice ga gn gcp, .int .i64 G.rws, .int .i64 G.trn] 24)).below hb2); have R2 := Lib.hid hr2; have D2 := (Cells4.new w1 (.int .i64 G.cols) (.slice ga gn gcp) (.int .i64 G.rws) (.int .i64 G.trn) 24).below hb2; obtain ⟨d0, d1, d2, d3, _, _, _, _⟩ := D2; have hz2 := hb2.size; simp at hz2; have hy2 : w1.heap.size < w2.heap.size := (by omega); clear hr2 hb2))
      | (go_at_call 12; go_must (refine (rsame7_calls G ga ka gn kn gcp kcp _ (R1b.out.alloc _) (R2.out.alloc _)).mono ?_; rintro e w3 ⟨rfl, hb3⟩; have B3 := Lib.hid ((B2.out.alloc (by omega) (.cells #[.int .i64 G.cols, .slice ka kn kcp, .int .i64 G.rws, .int .i64 G.trn] 24)).trans (hb3.mono (by simp; omega))); have hz3 := hb3.size; simp at hz3))
      | (go_at_call 9; refine (live11_calls _ a0 a1 a2 (HLD.out.below (B3.out))).mono ?_; rintro e w4 ⟨rfl, hb4⟩))
    go_ret
    exact ⟨by simp, B3.out.trans (hb4.mono (by omega))⟩
end Go.Proofs.YtfohknalldelfaaDoor
