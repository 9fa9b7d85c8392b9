/- AbsorbTells, walked. -/
import Derived.Test.YtaabfjfaljhjmaaSo
namespace Go.Proofs.Ytaabfjfaljhjmaa
open Go.RowKit Lv Go.Shelf
open Ieee (double Format Datum Toward)
attribute [local go_sem] Oper.semAt_some run_store_float drewN_alloc drewN_setCell

/-- two cells of a block -/
structure Cells2 (W : World) (b : Nat) (u0 u1 : Value) : Prop where
  c0 : W.cell? ⟨b, 0, none⟩ = some u0
  c1 : W.cell? ⟨b, 1, none⟩ = some u1
theorem Cells2.below {W W' : World} {b : Nat} {u0 u1 : Value} (h : Cells2 W b u0 u1) (hb : Below W.heap.size W W') : Cells2 W' b u0 u1 :=
  ⟨(hb.cell (p := ⟨b, 0, none⟩) (cell_lt h.c0)).trans h.c0, (hb.cell (p := ⟨b, 1, none⟩) (cell_lt h.c1)).trans h.c1⟩
theorem Cells2.alloc {W : World} {b : Nat} {u0 u1 : Value} (h : Cells2 W b u0 u1) (o : Obj) : Cells2 (W.alloc o) b u0 u1 := h.below ((Below.refl _ _).alloc (Nat.le_refl _) _)
theorem Cells2.new (w : World) (u0 u1 : Value) (t : TypeId) : Cells2 (w.alloc (.cells #[u0, u1] t)) w.heap.size u0 u1 := by
  constructor <;> simp [go_sem]

set_option maxRecDepth 100000 in
set_option maxHeartbeats 4000000 in
theorem absorbTells_walk (w : World) (F : FacD) (a : Option Addr) (n cap : Nat) (h : Row w (.slice a n cap) F.xs) (ls : List (Option Nat)) (Y : Option Nat) (b : Option Addr) (m d y : Nat) (hl : Row w (.slice b m d) ls) (hy : FW y Y) (z : Nat) (mu : Option Nat) (hz : FW z mu) :
    Calls Try.prog 8 #[.agg #[.int .i64 F.cols, .slice a n cap, .int .i64 F.rws, .int .i64 F.trn], .agg #[.slice b m d, .float .f64 y], .float .f64 z] w fun e w' => e = .returned (.bool true) ∧ Below w.heap.size w w' := by
  have hB := ((Below.refl w.heap.size w).alloc (Nat.le_refl _) (.cells #[.int .i64 F.cols, .slice a n cap, .int .i64 F.rws, .int .i64 F.trn] 24)).alloc (by simp) (.cells #[.slice b m d, .float .f64 y] 45)
  have HR := Lib.hid h
  have HL := Lib.hid hl
  by_cases hbig : 60 < n ∨ 20 < m
  · by_cases h1 : 60 < n
    · have h1i : (60 : Int) < (n : Int) := by omega
      clear h hl
      go_enter Try.func8, Try.ntmps8
      go_wp2_with (go_at_call 26; refine (live10_calls _).mono ?_; rintro e w1 ⟨rfl, hb⟩)
      go_ret
      exact ⟨rfl, hB.trans (hb.mono (by simp; omega))⟩
    · have h1i : ¬ (60 : Int) < (n : Int) := by omega
      have h2i : (20 : Int) < (m : Int) := by omega
      clear h hl hbig
      go_enter Try.func8, Try.ntmps8
      go_wp2_with (go_at_call 26; refine (live10_calls _).mono ?_; rintro e w1 ⟨rfl, hb⟩)
      go_ret
      exact ⟨rfl, hB.trans (hb.mono (by simp; omega))⟩
  · have h1i : ¬ (60 : Int) < (n : Int) := by omega
    have h2i : ¬ (20 : Int) < (m : Int) := by omega
    have C3 := Lib.hid ((Cells4.new w (.int .i64 F.cols) (.slice a n cap) (.int .i64 F.rws) (.int .i64 F.trn) 24).alloc (.cells #[.slice b m d, .float .f64 y] 45))
    have C4 : Hid (Cells2 ((w.alloc (.cells #[.int .i64 F.cols, .slice a n cap, .int .i64 F.rws, .int .i64 F.trn] 24)).alloc (.cells #[.slice b m d, .float .f64 y] 45)) (w.heap.size + 1) (.slice b m d) (.float .f64 y)) := by
      unfold Hid
      have := Cells2.new (w.alloc (.cells #[.int .i64 F.cols, .slice a n cap, .int .i64 F.rws, .int .i64 F.trn] 24)) (.slice b m d) (.float .f64 y) 45
      simpa using this
    have HB := Lib.hid hB
    have A1 := Lib.hid (fun W h h' => arow_calls F a b n cap m d y ls W h h' hy)
    have A2 := Lib.hid (fun W h h' => rarow_calls F a b n cap m d y ls W h h' hy)
    have A3 := Lib.hid (fun W h => aridge_calls F a n cap z W h hz)
    have A4 := Lib.hid (fun W h => raridge_calls F a n cap z W h hz)
    clear h hl hbig hB hy hz
    generalize rowD F ls Y = G at *
    generalize ridgeD F mu = J at *
    obtain ⟨G, ge⟩ := G
    obtain ⟨J, je⟩ := J
    go_enter Try.func8, Try.ntmps8
    go_wp2_with (first
      | (go_at_call 29; go_must (refine (A1.out _ (HR.out.below HB.out) (HL.out.below HB.out)).mono ?_; rintro e w1 ⟨⟨ga, gn, gcp, rfl, hr1⟩, hb1⟩; have B1 := Lib.hid (HB.out.trans (hb1.mono (by simp; omega))); have R1 := Lib.hid hr1; have E3 := Lib.hid (C3.out.below hb1); have E4 := Lib.hid (C4.out.below hb1); obtain ⟨c0, c1, c2, c3, _, _, _, _⟩ := E3.out; obtain ⟨d0, d1⟩ := E4.out; have hz1 := hb1.size; simp at hz1; have hy1 : w.heap.size < w1.heap.size := (by omega); have hx1 : w.heap.size + 1 < w1.heap.size := (by omega); clear hr1 hb1))
      | (go_at_call 30; go_must (refine (A2.out _ ((HR.out.below B1.out).alloc _) ((HL.out.below B1.out).alloc _)).mono ?_; rintro e w2 ⟨⟨ka, kn, kcp, rfl, hr2⟩, hb2⟩; have B2 := Lib.hid ((B1.out.alloc (by omega) (.cells #[.int .i64 G.cols, .slice ga gn gcp, .int .i64 G.rws, .int .i64 G.trn] 24)).trans (hb2.mono (by simp; omega))); have R1b := Lib.hid ((R1.out.alloc (.cells #[.int .i64 G.cols, .slice ga gn gcp, .int .i64 G.rws, .int .i64 G.trn] 24)).below hb2); have R2 := Lib.hid hr2; have D7 := Lib.hid ((Cells4.new w1 (.int .i64 G.cols) (.slice ga gn gcp) (.int .i64 G.rws) (.int .i64 G.trn) 24).below hb2); have E3b := Lib.hid ((E3.out.alloc (.cells #[.int .i64 G.cols, .slice ga gn gcp, .int .i64 G.rws, .int .i64 G.trn] 24)).below hb2); clear c0 c1 c2 c3 d0 d1; obtain ⟨c0, c1, c2, c3, _, _, _, _⟩ := E3b.out; have hz2 := hb2.size; simp at hz2; have hy2 : w.heap.size < w2.heap.size := (by omega); have hx2 : w1.heap.size < w2.heap.size := (by omega); clear hr2 hb2))
      | (go_at_call 31; go_must (refine (A3.out _ ((HR.out.below B2.out).alloc _)).mono ?_; rintro e w3 ⟨⟨pa, pn, pcp, rfl, hr3⟩, hb3⟩; have B3 := Lib.hid ((B2.out.alloc (by omega) (.cells #[.int .i64 G.cols, .slice ka kn kcp, .int .i64 G.rws, .int .i64 G.trn] 24)).trans (hb3.mono (by simp; omega))); have R1c := Lib.hid ((R1b.out.alloc (.cells #[.int .i64 G.cols, .slice ka kn kcp, .int .i64 G.rws, .int .i64 G.trn] 24)).below hb3); have R2c := Lib.hid ((R2.out.alloc (.cells #[.int .i64 G.cols, .slice ka kn kcp, .int .i64 G.rws, .int .i64 G.trn] 24)).below hb3); have R3 := Lib.hid hr3; have D7c := Lib.hid ((D7.out.alloc (.cells #[.int .i64 G.cols, .slice ka kn kcp, .int .i64 G.rws, .int .i64 G.trn] 24)).below hb3); have D9 := Lib.hid ((Cells4.new w2 (.int .i64 G.cols) (.slice ka kn kcp) (.int .i64 G.rws) (.int .i64 G.trn) 24).below hb3); have E3c := Lib.hid ((E3b.out.alloc (.cells #[.int .i64 G.cols, .slice ka kn kcp, .int .i64 G.rws, .int .i64 G.trn] 24)).below hb3); clear c0 c1 c2 c3; obtain ⟨c0, c1, c2, c3, _, _, _, _⟩ := E3c.out; have hz3 := hb3.size; simp at hz3; have hy3 : w.heap.size < w3.heap.size := (by omega); have hx3 : w1.heap.size < w3.heap.size := (by omega); have hv3 : w2.heap.size < w3.heap.size := (by omega); clear hr3 hb3))
      | (go_at_call 32; go_must (refine (A4.out _ ((HR.out.below B3.out).alloc _)).mono ?_; rintro e w4 ⟨⟨qa, qn, qcp, rfl, hr4⟩, hb4⟩; have B4 := Lib.hid ((B3.out.alloc (by omega) (.cells #[.int .i64 J.cols, .slice pa pn pcp, .int .i64 J.rws, .int .i64 J.trn] 24)).trans (hb4.mono (by simp; omega))); have R1d := Lib.hid ((R1c.out.alloc (.cells #[.int .i64 J.cols, .slice pa pn pcp, .int .i64 J.rws, .int .i64 J.trn] 24)).below hb4); have R2d := Lib.hid ((R2c.out.alloc (.cells #[.int .i64 J.cols, .slice pa pn pcp, .int .i64 J.rws, .int .i64 J.trn] 24)).below hb4); have R3d := Lib.hid ((R3.out.alloc (.cells #[.int .i64 J.cols, .slice pa pn pcp, .int .i64 J.rws, .int .i64 J.trn] 24)).below hb4); have R4 := Lib.hid hr4; have D7d := Lib.hid ((D7c.out.alloc (.cells #[.int .i64 J.cols, .slice pa pn pcp, .int .i64 J.rws, .int .i64 J.trn] 24)).below hb4); have D9d := Lib.hid ((D9.out.alloc (.cells #[.int .i64 J.cols, .slice pa pn pcp, .int .i64 J.rws, .int .i64 J.trn] 24)).below hb4); have D11 := Lib.hid ((Cells4.new w3 (.int .i64 J.cols) (.slice pa pn pcp) (.int .i64 J.rws) (.int .i64 J.trn) 24).below hb4); clear c0 c1 c2 c3; obtain ⟨c0, c1, c2, c3, _, _, _, _⟩ := D7d.out; obtain ⟨d0, d1, d2, d3, _, _, _, _⟩ := D9d.out; have hz4 := hb4.size; simp at hz4; have hx4 : w1.heap.size < w4.heap.size := (by omega); have hv4 : w2.heap.size < w4.heap.size := (by omega); have hu4 : w3.heap.size < w4.heap.size := (by omega); clear hr4 hb4))
      | (go_at_call_of 16 (Value.agg #[.int .i64 G.cols, .slice ga gn gcp, .int .i64 G.rws, .int .i64 G.trn]); go_must (refine (rsame7_calls G ga ka gn kn gcp kcp _ (R1d.out.alloc _) (R2d.out.alloc _)).mono ?_; rintro e w5 ⟨rfl, hb5⟩; have B5 := Lib.hid ((B4.out.alloc (by omega) (.cells #[.int .i64 J.cols, .slice qa qn qcp, .int .i64 J.rws, .int .i64 J.trn] 24)).trans (hb5.mono (by simp; omega))); have hz5 := hb5.size; simp at hz5; have R3e := Lib.hid ((R3d.out.alloc (.cells #[.int .i64 J.cols, .slice qa qn qcp, .int .i64 J.rws, .int .i64 J.trn] 24)).below hb5); have R4e := Lib.hid ((R4.out.alloc (.cells #[.int .i64 J.cols, .slice qa qn qcp, .int .i64 J.rws, .int .i64 J.trn] 24)).below hb5); have D11e := Lib.hid ((D11.out.alloc (.cells #[.int .i64 J.cols, .slice qa qn qcp, .int .i64 J.rws, .int .i64 J.trn] 24)).below hb5); have D13 := Lib.hid ((Cells4.new w4 (.int .i64 J.cols) (.slice qa qn qcp) (.int .i64 J.rws) (.int .i64 J.trn) 24).below hb5); clear c0 c1 c2 c3 d0 d1 d2 d3; obtain ⟨c0, c1, c2, c3, _, _, _, _⟩ := D11e.out; obtain ⟨d0, d1, d2, d3, _, _, _, _⟩ := D13.out))
      | (go_at_call 16; go_must (refine (rsame7_calls J pa qa pn qn pcp qcp _ R3e.out R4e.out).mono ?_; rintro e w6 ⟨rfl, hb6⟩; have B6 := Lib.hid (B5.out.trans (hb6.mono (by omega))); have hz6 := hb6.size))
      | (go_at_call 26; refine (live10_calls _).mono ?_; rintro e w7 ⟨rfl, hb7⟩))
    go_ret
    exact ⟨by simp, B6.out.trans (hb7.mono (by omega))⟩
end Go.Proofs.Ytaabfjfaljhjmaa
