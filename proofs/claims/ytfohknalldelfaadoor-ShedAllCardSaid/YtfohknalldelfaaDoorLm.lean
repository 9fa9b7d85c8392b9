/- ShedAll, walked. -/
import Derived.Test.YtfohknalldelfaaDoorLl
import Derived.Test.YtfohknalldelfaaDoorAa
namespace Go.Proofs.YtfohknalldelfaaDoor
open Go.RowKit Lv Go.Shelf
open Ieee (double Format Datum Toward)
attribute [local go_sem] Oper.semAt_some run_store_float drewN_alloc drewN_setCell

/-- behind a statement that calls All -/
def AbsCut (wr : World) (c e : Int) (G : FacD) (s s' s'' : Value) (W : World) : Prop :=
  ∃ (b : Nat) (ga : Option Addr) (gn gcp : Nat), s = .pointer (some ⟨b, 0, none⟩) ∧ s' = .int .i64 c ∧ s'' = .int .i64 e ∧ Cells4 W b (.int .i64 G.cols) (.slice ga gn gcp) (.int .i64 G.rws) (.int .i64 G.trn) ∧ Row W (.slice ga gn gcp) G.xs ∧ Below wr.heap.size wr W
theorem rws_empty {W : World} {a : Option Addr} {c : Nat} (h : c ≤ maxLen) : Rws W (.slice a 0 c) [] := ⟨a, c, rfl, Nat.zero_le _, h, .inl rfl⟩

set_option maxRecDepth 100000 in
set_option maxHeartbeats 4000000 in
theorem shedAll_walk (w : World) (a0 a1 a2 : Addr) (LD : Laid w a0 a1 a2) (F : FacD) (a : Option Addr) (n cap : Nat) (h : Row w (.slice a n cap) F.xs) (rs : List RowD) (t : Option Addr) (tn tc : Nat) (hl : Rws w (.slice t tn tc) rs) (cc : Int) (_ : (Lit.int .i64 cc).wf = true) :
    Calls Tryd.prog 5 #[.agg #[.int .i64 F.cols, .slice a n cap, .int .i64 F.rws, .int .i64 F.trn], .slice t tn tc, .int .i64 cc] w fun e w' => e = .returned (.bool true) ∧ Below w.heap.size w w' := by
  have hB := (Below.refl w.heap.size w).alloc (Nat.le_refl _) (.cells #[.int .i64 F.cols, .slice a n cap, .int .i64 F.rws, .int .i64 F.trn] 24)
  have HR := Lib.hid h
  have HLD := Lib.hid LD
  clear LD
  have HL := Lib.hid hl
  have HB := Lib.hid hB
  obtain ⟨hn1, hn2⟩ := hl.len
  have htt : tn ≤ tc ∧ tc ≤ maxLen := by obtain ⟨a', c', hv, k1, k2, _⟩ := hl; simp only [Value.slice.injEq] at hv; obtain ⟨_, rfl, rfl⟩ := hv; exact ⟨k1, k2⟩
  obtain ⟨ht1, ht2⟩ := htt
  by_cases h1 : 60 < n
  · have h1i : (60 : Int) < (n : Int) := by omega
    clear h hl
    go_enter Tryd.func5, Tryd.ntmps5
    go_wp2_with (go_at_call 9; refine (live11_calls _ a0 a1 a2 (HLD.out.below (hB))).mono ?_; rintro e w6 ⟨rfl, hb6⟩)
    go_ret
    exact ⟨rfl, hB.trans (hb6.mono (by simp))⟩
  have h1i : ¬ (60 : Int) < (n : Int) := by omega
  have FW8 := Lib.hid (rfew8_calls t tn tc 20 rs _ (hl.below hB))
  cases hf : fewR rs 20
  · rw [hf] at FW8
    clear hf h hl
    go_enter Tryd.func5, Tryd.ntmps5
    go_wp2_with (first | (go_at_call 15; refine FW8.out.mono ?_; rintro e w0 ⟨rfl, rfl⟩) | (go_at_call 9; refine (live11_calls _ a0 a1 a2 (HLD.out.below (hB))).mono ?_; rintro e w6 ⟨rfl, hb6⟩))
    go_ret
    exact ⟨rfl, hB.trans (hb6.mono (by simp))⟩
  rw [hf] at FW8
  have C3 := Lib.hid (Cells4.new w (.int .i64 F.cols) (.slice a n cap) (.int .i64 F.rws) (.int .i64 F.trn) 24)
  have A1 := Lib.hid (fun W ld h h' => sall_calls F a t n cap tn tc rs W a0 a1 a2 ld h h')
  have A2 := Lib.hid (fun W h h' => rsall_calls F a t n cap tn tc rs W h h')
  have CUT := fun (G : FacD) (cnt : Int) (e : sAllD F rs = (G, cnt, 0)) (k : Nat) (hk : k ≤ rs.length) => sall_cut e k hk
  have HCUT := Lib.hid CUT
  clear CUT hf h hB h1
  obtain ⟨R, hR⟩ : ∃ R, R = sAllD F rs := ⟨_, rfl⟩
  rw [← hR] at A1 A2
  obtain ⟨G, cnt, ge⟩ := R
  try dsimp only at A1 A2
  by_cases hge : ge ≠ 0
  · have hne : (ge != 0) = true := by simpa using hge
    clear hR HCUT
    go_enter Tryd.func5, Tryd.ntmps5
    go_wp2_with (first
      | (go_at_call 15; refine FW8.out.mono ?_; rintro e w0 ⟨rfl, rfl⟩)
      | (go_at_call 16; go_must (refine (A1.out _ (HLD.out.below HB.out) (HR.out.below HB.out) (HL.out.below HB.out)).mono ?_; rintro e w1 ⟨⟨ga, gn, gcp, rfl, hr1⟩, hb1⟩; have B1 := Lib.hid (HB.out.trans (hb1.mono (by simp))); have R1 := Lib.hid hr1; have E3 := Lib.hid (C3.out.below hb1); obtain ⟨c0, c1, c2, c3, _, _, _, _⟩ := E3.out; have hz1 := hb1.size; simp at hz1; have hy1 : w.heap.size < w1.heap.size := (by omega); clear hr1 hb1))
      | (go_at_call 17; go_must (refine (A2.out _ ((HR.out.below B1.out).alloc _) ((HL.out.below B1.out).below ((Below.refl _ _).alloc (Nat.le_refl _) _))).mono ?_; rintro e w2 ⟨⟨ka, kn, kcp, rfl, hr2⟩, hb2⟩; have B2 := Lib.hid ((B1.out.alloc (by omega) (.cells #[.int .i64 G.cols, .slice ga gn gcp, .int .i64 G.rws, .int .i64 G.trn] 24)).trans (hb2.mono (by simp; omega))); have R1b := Lib.hid ((R1.out.alloc (.cells #[.int .i64 G.cols, .slice ga gn gcp, .int .i64 G.rws, .int .i64 G.trn] 24)).below hb2); have R2 := Lib.hid hr2; have D7 := Lib.hid ((Cells4.new w1 (.int .i64 G.cols) (.slice ga gn gcp) (.int .i64 G.rws) (.int .i64 G.trn) 24).below hb2); have E3b := Lib.hid ((E3.out.alloc (.cells #[.int .i64 G.cols, .slice ga gn gcp, .int .i64 G.rws, .int .i64 G.trn] 24)).below hb2); clear c0 c1 c2 c3; obtain ⟨c0, c1, c2, c3, _, _, _, _⟩ := D7.out; have hz2 := hb2.size; simp at hz2; have hy2 : w.heap.size < w2.heap.size := (by omega); have hx2 : w1.heap.size < w2.heap.size := (by omega); clear hr2 hb2))
      | (go_at_call 12; go_must (refine (rsame7_calls G ga ka gn kn gcp kcp _ (R1b.out.alloc _) (R2.out.alloc _)).mono ?_; rintro e w3 ⟨rfl, hb3⟩; have B3 := Lib.hid ((B2.out.alloc (by omega) (.cells #[.int .i64 G.cols, .slice ka kn kcp, .int .i64 G.rws, .int .i64 G.trn] 24)).trans (hb3.mono (by simp; omega))); have R1c := Lib.hid ((R1b.out.alloc (.cells #[.int .i64 G.cols, .slice ka kn kcp, .int .i64 G.rws, .int .i64 G.trn] 24)).below hb3); have D7c := Lib.hid ((D7.out.alloc (.cells #[.int .i64 G.cols, .slice ka kn kcp, .int .i64 G.rws, .int .i64 G.trn] 24)).below hb3); have E3c := Lib.hid ((E3b.out.alloc (.cells #[.int .i64 G.cols, .slice ka kn kcp, .int .i64 G.rws, .int .i64 G.trn] 24)).below hb3); have hz3 := hb3.size; simp at hz3; clear hb3))
      | (go_at_call 9; refine (live11_calls _ a0 a1 a2 (HLD.out.below (B3.out))).mono ?_; rintro e w6 ⟨rfl, hb6⟩))
    go_ret
    exact ⟨rfl, B3.out.trans (hb6.mono (by omega))⟩
  obtain rfl : ge = 0 := by simpa using hge
  clear hge
  by_cases hneg : cc < 0
  · clear hR HCUT
    go_enter Tryd.func5, Tryd.ntmps5
    go_wp2_with (first
      | (go_at_call 15; refine FW8.out.mono ?_; rintro e w0 ⟨rfl, rfl⟩)
      | (go_at_call 16; go_must (refine (A1.out _ (HLD.out.below HB.out) (HR.out.below HB.out) (HL.out.below HB.out)).mono ?_; rintro e w1 ⟨⟨ga, gn, gcp, rfl, hr1⟩, hb1⟩; have B1 := Lib.hid (HB.out.trans (hb1.mono (by simp))); have R1 := Lib.hid hr1; have E3 := Lib.hid (C3.out.below hb1); obtain ⟨c0, c1, c2, c3, _, _, _, _⟩ := E3.out; have hz1 := hb1.size; simp at hz1; have hy1 : w.heap.size < w1.heap.size := (by omega); clear hr1 hb1))
      | (go_at_call 17; go_must (refine (A2.out _ ((HR.out.below B1.out).alloc _) ((HL.out.below B1.out).below ((Below.refl _ _).alloc (Nat.le_refl _) _))).mono ?_; rintro e w2 ⟨⟨ka, kn, kcp, rfl, hr2⟩, hb2⟩; have B2 := Lib.hid ((B1.out.alloc (by omega) (.cells #[.int .i64 G.cols, .slice ga gn gcp, .int .i64 G.rws, .int .i64 G.trn] 24)).trans (hb2.mono (by simp; omega))); have R1b := Lib.hid ((R1.out.alloc (.cells #[.int .i64 G.cols, .slice ga gn gcp, .int .i64 G.rws, .int .i64 G.trn] 24)).below hb2); have R2 := Lib.hid hr2; have D7 := Lib.hid ((Cells4.new w1 (.int .i64 G.cols) (.slice ga gn gcp) (.int .i64 G.rws) (.int .i64 G.trn) 24).below hb2); have E3b := Lib.hid ((E3.out.alloc (.cells #[.int .i64 G.cols, .slice ga gn gcp, .int .i64 G.rws, .int .i64 G.trn] 24)).below hb2); clear c0 c1 c2 c3; obtain ⟨c0, c1, c2, c3, _, _, _, _⟩ := D7.out; have hz2 := hb2.size; simp at hz2; have hy2 : w.heap.size < w2.heap.size := (by omega); have hx2 : w1.heap.size < w2.heap.size := (by omega); clear hr2 hb2))
      | (go_at_call 12; go_must (refine (rsame7_calls G ga ka gn kn gcp kcp _ (R1b.out.alloc _) (R2.out.alloc _)).mono ?_; rintro e w3 ⟨rfl, hb3⟩; have B3 := Lib.hid ((B2.out.alloc (by omega) (.cells #[.int .i64 G.cols, .slice ka kn kcp, .int .i64 G.rws, .int .i64 G.trn] 24)).trans (hb3.mono (by simp; omega))); have R1c := Lib.hid ((R1b.out.alloc (.cells #[.int .i64 G.cols, .slice ka kn kcp, .int .i64 G.rws, .int .i64 G.trn] 24)).below hb3); have D7c := Lib.hid ((D7.out.alloc (.cells #[.int .i64 G.cols, .slice ka kn kcp, .int .i64 G.rws, .int .i64 G.trn] 24)).below hb3); have E3c := Lib.hid ((E3b.out.alloc (.cells #[.int .i64 G.cols, .slice ka kn kcp, .int .i64 G.rws, .int .i64 G.trn] 24)).below hb3); have hz3 := hb3.size; simp at hz3; clear hb3))
      | (go_at_call 9; refine (live11_calls _ a0 a1 a2 (HLD.out.below (B3.out))).mono ?_; rintro e w6 ⟨rfl, hb6⟩))
    go_ret
    exact ⟨rfl, B3.out.trans (hb6.mono (by omega))⟩
  obtain ⟨k, rfl⟩ : ∃ k : Nat, cc = (k : Int) := ⟨cc.toNat, by omega⟩
  by_cases hbig : tn < k
  · have hbigi : (tn : Int) < (k : Int) := by omega
    clear hR HCUT
    go_enter Tryd.func5, Tryd.ntmps5
    go_wp2_with (first
      | (go_at_call 15; refine FW8.out.mono ?_; rintro e w0 ⟨rfl, rfl⟩)
      | (go_at_call 16; go_must (refine (A1.out _ (HLD.out.below HB.out) (HR.out.below HB.out) (HL.out.below HB.out)).mono ?_; rintro e w1 ⟨⟨ga, gn, gcp, rfl, hr1⟩, hb1⟩; have B1 := Lib.hid (HB.out.trans (hb1.mono (by simp))); have R1 := Lib.hid hr1; have E3 := Lib.hid (C3.out.below hb1); obtain ⟨c0, c1, c2, c3, _, _, _, _⟩ := E3.out; have hz1 := hb1.size; simp at hz1; have hy1 : w.heap.size < w1.heap.size := (by omega); clear hr1 hb1))
      | (go_at_call 17; go_must (refine (A2.out _ ((HR.out.below B1.out).alloc _) ((HL.out.below B1.out).below ((Below.refl _ _).alloc (Nat.le_refl _) _))).mono ?_; rintro e w2 ⟨⟨ka, kn, kcp, rfl, hr2⟩, hb2⟩; have B2 := Lib.hid ((B1.out.alloc (by omega) (.cells #[.int .i64 G.cols, .slice ga gn gcp, .int .i64 G.rws, .int .i64 G.trn] 24)).trans (hb2.mono (by simp; omega))); have R1b := Lib.hid ((R1.out.alloc (.cells #[.int .i64 G.cols, .slice ga gn gcp, .int .i64 G.rws, .int .i64 G.trn] 24)).below hb2); have R2 := Lib.hid hr2; have D7 := Lib.hid ((Cells4.new w1 (.int .i64 G.cols) (.slice ga gn gcp) (.int .i64 G.rws) (.int .i64 G.trn) 24).below hb2); have E3b := Lib.hid ((E3.out.alloc (.cells #[.int .i64 G.cols, .slice ga gn gcp, .int .i64 G.rws, .int .i64 G.trn] 24)).below hb2); clear c0 c1 c2 c3; obtain ⟨c0, c1, c2, c3, _, _, _, _⟩ := D7.out; have hz2 := hb2.size; simp at hz2; have hy2 : w.heap.size < w2.heap.size := (by omega); have hx2 : w1.heap.size < w2.heap.size := (by omega); clear hr2 hb2))
      | (go_at_call 12; go_must (refine (rsame7_calls G ga ka gn kn gcp kcp _ (R1b.out.alloc _) (R2.out.alloc _)).mono ?_; rintro e w3 ⟨rfl, hb3⟩; have B3 := Lib.hid ((B2.out.alloc (by omega) (.cells #[.int .i64 G.cols, .slice ka kn kcp, .int .i64 G.rws, .int .i64 G.trn] 24)).trans (hb3.mono (by simp; omega))); have R1c := Lib.hid ((R1b.out.alloc (.cells #[.int .i64 G.cols, .slice ka kn kcp, .int .i64 G.rws, .int .i64 G.trn] 24)).below hb3); have D7c := Lib.hid ((D7.out.alloc (.cells #[.int .i64 G.cols, .slice ka kn kcp, .int .i64 G.rws, .int .i64 G.trn] 24)).below hb3); have E3c := Lib.hid ((E3b.out.alloc (.cells #[.int .i64 G.cols, .slice ka kn kcp, .int .i64 G.rws, .int .i64 G.trn] 24)).below hb3); have hz3 := hb3.size; simp at hz3; clear hb3))
      | (go_at_call 9; refine (live11_calls _ a0 a1 a2 (HLD.out.below (B3.out))).mono ?_; rintro e w6 ⟨rfl, hb6⟩))
    go_ret
    exact ⟨rfl, B3.out.trans (hb6.mono (by omega))⟩
  have hki : ¬ (tn : Int) < (k : Int) := by omega
  have hk1 : k ≤ tn := by omega
  have hk2 : k ≤ tc := by omega
  have hk1i : (k : Int) ≤ (tn : Int) := by omega
  have hk2i : (k : Int) ≤ (tc : Int) := by omega
  obtain ⟨P, p1, p2⟩ := HCUT.out G cnt hR.symm k (by omega)
  obtain ⟨cn, hc2⟩ : ∃ cn : Int, cn = (((rs.length - k : Nat) : Int)) := ⟨_, rfl⟩
  rw [← hc2] at p2
  have hs2 : (k : Int) + cn = (tn : Int) := by omega
  have hadd : ((k : Int) + cn == (tn : Int)) = true := by simpa using hs2
  have hc2a : 0 ≤ cn := by omega
  have hc2b : cn ≤ (tn : Int) := by omega
  have hc2k : (k : Int) + cn ≤ 9223372036854775807 := by omega
  have hmx : (tn : Int) ≤ 9223372036854775807 := by omega
  have hkmx : (k : Int) ≤ 9223372036854775807 := by omega
  have A3 := Lib.hid (fun W t' tn' tc' ld h h' => by have := sall_calls F a t' n cap tn' tc' (rs.take k) W a0 a1 a2 ld h h'; rw [p1] at this; exact this)
  have A4 := Lib.hid (fun W a' n' cap' t' tn' tc' ld h h' => by have := sall_calls P a' t' n' cap' tn' tc' (rs.drop k) W a0 a1 a2 ld h h'; rw [p2] at this; exact this)
  have HRW : Hid (∀ W, Below w.heap.size w W → (∀ a', (tn = 0 ∨ t = a') → Rws W (.slice a' k tc) (rs.take k)) ∧ (∀ blk off a', t = some ⟨blk, off, none⟩ → (k = tn ∨ a' = some ⟨blk, off + k * 2, none⟩) → Rws W (.slice a' (tn - k) (tc - k)) (rs.drop k)) ∧ (tn = 0 → ∀ a', Rws W (.slice a' (tn - k) (tc - k)) (rs.drop k))) := by
    intro W hW
    have hw := HL.out.below hW
    have hm := ht2
    refine ⟨fun a' ha => ?_, fun blk off a' e ha => ?_, fun h0 a' => ?_⟩
    · rcases ha with h0 | rfl
      · obtain rfl : k = 0 := by omega
        exact rws_empty hm
      · exact hw.take k hk1
    · subst e
      exact hw.drop k hk1 ha
    · obtain rfl := List.length_eq_zero_iff.1 (hn1.trans h0)
      obtain rfl : k = 0 := by omega
      subst h0
      exact rws_empty (by omega)
  clear hR HCUT p1 p2 hc2
  by_cases h0 : tn = 0
  · have H0 := Lib.hid h0
    clear h0
    by_cases hc : tc = k
    · obtain rfl : k = tc := hc.symm
      have HRA : Hid (∀ W, Below w.heap.size w W → ∀ a', Rws W (.slice a' 0 0) (rs.drop k)) := by
        intro W hW a'
        have := (HRW.out W hW).2.2 H0.out a'
        rw [Nat.sub_self, Nat.sub_eq_zero_of_le ht1] at this
        exact this
      go_enter Tryd.func5, Tryd.ntmps5
      go_wp2_with (first
        | (go_at_call 15; refine FW8.out.mono ?_; rintro e w0 ⟨rfl, rfl⟩)
        | (go_at_call 16; go_must (refine (A1.out _ (HLD.out.below HB.out) (HR.out.below HB.out) (HL.out.below HB.out)).mono ?_; rintro e w1 ⟨⟨ga, gn, gcp, rfl, hr1⟩, hb1⟩; have B1 := Lib.hid (HB.out.trans (hb1.mono (by simp))); have R1 := Lib.hid hr1; have E3 := Lib.hid (C3.out.below hb1); obtain ⟨c0, c1, c2, c3, _, _, _, _⟩ := E3.out; have hz1 := hb1.size; simp at hz1; have hy1 : w.heap.size < w1.heap.size := (by omega); clear hr1 hb1))
        | (go_at_call 17; go_must (refine (A2.out _ ((HR.out.below B1.out).alloc _) ((HL.out.below B1.out).below ((Below.refl _ _).alloc (Nat.le_refl _) _))).mono ?_; rintro e w2 ⟨⟨ka, kn, kcp, rfl, hr2⟩, hb2⟩; have B2 := Lib.hid ((B1.out.alloc (by omega) (.cells #[.int .i64 G.cols, .slice ga gn gcp, .int .i64 G.rws, .int .i64 G.trn] 24)).trans (hb2.mono (by simp; omega))); have R1b := Lib.hid ((R1.out.alloc (.cells #[.int .i64 G.cols, .slice ga gn gcp, .int .i64 G.rws, .int .i64 G.trn] 24)).below hb2); have R2 := Lib.hid hr2; have D7 := Lib.hid ((Cells4.new w1 (.int .i64 G.cols) (.slice ga gn gcp) (.int .i64 G.rws) (.int .i64 G.trn) 24).below hb2); have E3b := Lib.hid ((E3.out.alloc (.cells #[.int .i64 G.cols, .slice ga gn gcp, .int .i64 G.rws, .int .i64 G.trn] 24)).below hb2); clear c0 c1 c2 c3; obtain ⟨c0, c1, c2, c3, _, _, _, _⟩ := D7.out; have hz2 := hb2.size; simp at hz2; have hy2 : w.heap.size < w2.heap.size := (by omega); have hx2 : w1.heap.size < w2.heap.size := (by omega); clear hr2 hb2))
        | (go_at_call 12; go_must (refine (rsame7_calls G ga ka gn kn gcp kcp _ (R1b.out.alloc _) (R2.out.alloc _)).mono ?_; rintro e w3 ⟨rfl, hb3⟩; have B3 := Lib.hid ((B2.out.alloc (by omega) (.cells #[.int .i64 G.cols, .slice ka kn kcp, .int .i64 G.rws, .int .i64 G.trn] 24)).trans (hb3.mono (by simp; omega))); have R1c := Lib.hid ((R1b.out.alloc (.cells #[.int .i64 G.cols, .slice ka kn kcp, .int .i64 G.rws, .int .i64 G.trn] 24)).below hb3); have D7c := Lib.hid ((D7.out.alloc (.cells #[.int .i64 G.cols, .slice ka kn kcp, .int .i64 G.rws, .int .i64 G.trn] 24)).below hb3); have E3c := Lib.hid ((E3b.out.alloc (.cells #[.int .i64 G.cols, .slice ka kn kcp, .int .i64 G.rws, .int .i64 G.trn] 24)).below hb3); have hz3 := hb3.size; simp at hz3; clear hb3)))
      go_cut [13, 14, 15] from 70 to 78 (fun s13 s14 s15 wx => AbsCut w3 (k : Int) 0 P s13 s14 s15 wx)
      case first =>
        rename_i J K' hJ hK'
        have hs3 := B3.out.size
        obtain ⟨c0', c1', c2', c3', _, _, _, _⟩ := E3c.out
        have hl4 := E3c.out.lt
        have bA : Below w3.heap.size w3 w3.drew := (Below.refl _ _).drew
        have bB : Below w3.heap.size w3 (w3.alloc (.cells #[.int .i64 0, .slice none 0 0, .int .i64 0, .int .i64 0] 24)).drew := ((Below.refl w3.heap.size w3).alloc (Nat.le_refl _) _).drew
        have zB : Cells4 (w3.alloc (.cells #[.int .i64 0, .slice none 0 0, .int .i64 0, .int .i64 0] 24)).drew w3.heap.size (.int .i64 0) (.slice none 0 0) (.int .i64 0) (.int .i64 0) := (Cells4.new w3 _ _ _ _ 24).below ((Below.refl _ _).drew)
        have HbA := Lib.hid bA
        have HbB := Lib.hid bB
        have HzB := Lib.hid zB
        have HQA := Lib.hid (B3.out.trans (bA.mono hs3))
        have HQB := Lib.hid (B3.out.trans (bB.mono hs3))
        clear bA bB zB
        go_region_held3 (fun w' => w'.cell? ⟨w.heap.size, 0, none⟩ = some (.int .i64 F.cols) ∧ w'.cell? ⟨w.heap.size, 1, none⟩ = some (.slice a n cap) ∧ w'.cell? ⟨w.heap.size, 2, none⟩ = some (.int .i64 F.rws) ∧ w'.cell? ⟨w.heap.size, 3, none⟩ = some (.int .i64 F.trn))
          (first
            | with_reducible exact ⟨((BL.out).cell (p := ⟨w.heap.size, 0, none⟩) hl4).trans c0', ((BL.out).cell (p := ⟨w.heap.size, 1, none⟩) hl4).trans c1', ((BL.out).cell (p := ⟨w.heap.size, 2, none⟩) hl4).trans c2', ((BL.out).cell (p := ⟨w.heap.size, 3, none⟩) hl4).trans c3'⟩
            | with_reducible exact ⟨((BL.out.alloc BL.out.size _).cell (p := ⟨w.heap.size, 0, none⟩) hl4).trans c0', ((BL.out.alloc BL.out.size _).cell (p := ⟨w.heap.size, 1, none⟩) hl4).trans c1', ((BL.out.alloc BL.out.size _).cell (p := ⟨w.heap.size, 2, none⟩) hl4).trans c2', ((BL.out.alloc BL.out.size _).cell (p := ⟨w.heap.size, 3, none⟩) hl4).trans c3'⟩
            | with_reducible exact ⟨((HbB.out).cell (p := ⟨w.heap.size, 0, none⟩) hl4).trans c0', ((HbB.out).cell (p := ⟨w.heap.size, 1, none⟩) hl4).trans c1', ((HbB.out).cell (p := ⟨w.heap.size, 2, none⟩) hl4).trans c2', ((HbB.out).cell (p := ⟨w.heap.size, 3, none⟩) hl4).trans c3'⟩
            | with_reducible exact ⟨((HbA.out).cell (p := ⟨w.heap.size, 0, none⟩) hl4).trans c0', ((HbA.out).cell (p := ⟨w.heap.size, 1, none⟩) hl4).trans c1', ((HbA.out).cell (p := ⟨w.heap.size, 2, none⟩) hl4).trans c2', ((HbA.out).cell (p := ⟨w.heap.size, 3, none⟩) hl4).trans c3'⟩
            | with_reducible exact ⟨((below_put4 BL.out (Nat.le_refl _) _ _ _ _).cell (p := ⟨w.heap.size, 0, none⟩) hl4).trans c0', ((below_put4 BL.out (Nat.le_refl _) _ _ _ _).cell (p := ⟨w.heap.size, 1, none⟩) hl4).trans c1', ((below_put4 BL.out (Nat.le_refl _) _ _ _ _).cell (p := ⟨w.heap.size, 2, none⟩) hl4).trans c2', ((below_put4 BL.out (Nat.le_refl _) _ _ _ _).cell (p := ⟨w.heap.size, 3, none⟩) hl4).trans c3'⟩
            | go_keep)
          (first
            | (go_at_call 16; go_must ((first | refine (A3.out _ _ _ _ (HLD.out.below HQA.out) (HR.out.below HQA.out) ((HRW.out _ HQA.out).1 _ (.inl H0.out))).mono ?_ | refine (A3.out _ _ _ _ (HLD.out.below HQB.out) (HR.out.below HQB.out) ((HRW.out _ HQB.out).1 _ (.inl H0.out))).mono ?_); rintro e wL ⟨⟨pa, pn, pcp, rfl, hrowL⟩, hbL⟩; have BL' : Below w3.heap.size w3 wL := (by first | with_reducible exact HbA.out.trans (hbL.mono (by simp)) | with_reducible exact HbB.out.trans (hbL.mono (by simp))); have hszL := BL'.size; have hLz0 : w.heap.size < wL.heap.size := (by omega); (first | ((with_reducible have yy := HzB.out.below hbL); have YL := Lib.hid yy; obtain ⟨y0, y1, y2, y3, yf0, yf1, yf2, yf3⟩ := yy) | (have YN : True := trivial)); have BL := Lib.hid BL'; have RL := Lib.hid hrowL; clear BL' hrowL hbL)))
        all_goals
          refine hK' _ _ (Met.intro (hJ _ _ ?_))
          (repeat apply Exists.intro)
          refine ⟨?_, rfl⟩
          have hwL := BL.out.size
          unfold AbsCut
          (first
            | (refine ⟨wL.heap.size, pa, pn, pcp, rfl, rfl, rfl, ?_⟩; with_reducible exact ⟨Cells4.new wL _ _ _ _ _, RL.out.alloc _, BL.out.alloc hwL _⟩)
            | (refine ⟨w3.heap.size, pa, pn, pcp, rfl, rfl, rfl, ?_⟩; with_reducible exact ⟨YL.out.put _ _ _ _, RL.out.put4 YL.out slice_ne _ _ _ _, below_put4 BL.out (Nat.le_refl _) _ _ _ _⟩))
      case rest =>
        obtain ⟨b13, pa, pn, pcp, rfl, rfl, rfl, PC, PR, PB⟩ := hcut
        obtain ⟨W5, rfl⟩ : ∃ x, x = wc := ⟨_, rfl⟩
        have HPR := Lib.hid PR
        have B5 := Lib.hid (B3.out.trans (PB.mono B3.out.size))
        have D7d := Lib.hid (D7c.out.below PB)
        have R1d := Lib.hid (R1c.out.below PB)
        clear PR
        go_wp2
        go_cut [16, 17, 18] from 79 to 87 (fun s16 s17 s18 wx => AbsCut W5 cn 0 G s16 s17 s18 wx)
        case first =>
          rename_i J K' hJ hK'
          have hs5 := B5.out.size
          have hl4 := PC.lt
          obtain ⟨d0, d1, d2, d3, _, _, _, _⟩ := PC
          have bA : Below W5.heap.size W5 W5.drew := (Below.refl _ _).drew
          have bB : Below W5.heap.size W5 (W5.alloc (.cells #[.int .i64 0, .slice none 0 0, .int .i64 0, .int .i64 0] 24)).drew := ((Below.refl W5.heap.size W5).alloc (Nat.le_refl _) _).drew
          have zB : Cells4 (W5.alloc (.cells #[.int .i64 0, .slice none 0 0, .int .i64 0, .int .i64 0] 24)).drew W5.heap.size (.int .i64 0) (.slice none 0 0) (.int .i64 0) (.int .i64 0) := (Cells4.new W5 _ _ _ _ 24).below ((Below.refl _ _).drew)
          have HbA := Lib.hid bA
          have HbB := Lib.hid bB
          have HzB := Lib.hid zB
          have HQA := Lib.hid (B5.out.trans (bA.mono hs5))
          have HQB := Lib.hid (B5.out.trans (bB.mono hs5))
          clear bA bB zB
          go_region_held3 (fun w' => w'.cell? ⟨b13, 0, none⟩ = some (.int .i64 P.cols) ∧ w'.cell? ⟨b13, 1, none⟩ = some (.slice pa pn pcp) ∧ w'.cell? ⟨b13, 2, none⟩ = some (.int .i64 P.rws) ∧ w'.cell? ⟨b13, 3, none⟩ = some (.int .i64 P.trn))
            (first
              | with_reducible exact ⟨((BL.out).cell (p := ⟨b13, 0, none⟩) hl4).trans d0, ((BL.out).cell (p := ⟨b13, 1, none⟩) hl4).trans d1, ((BL.out).cell (p := ⟨b13, 2, none⟩) hl4).trans d2, ((BL.out).cell (p := ⟨b13, 3, none⟩) hl4).trans d3⟩
              | with_reducible exact ⟨((BL.out.alloc BL.out.size _).cell (p := ⟨b13, 0, none⟩) hl4).trans d0, ((BL.out.alloc BL.out.size _).cell (p := ⟨b13, 1, none⟩) hl4).trans d1, ((BL.out.alloc BL.out.size _).cell (p := ⟨b13, 2, none⟩) hl4).trans d2, ((BL.out.alloc BL.out.size _).cell (p := ⟨b13, 3, none⟩) hl4).trans d3⟩
              | with_reducible exact ⟨((HbB.out).cell (p := ⟨b13, 0, none⟩) hl4).trans d0, ((HbB.out).cell (p := ⟨b13, 1, none⟩) hl4).trans d1, ((HbB.out).cell (p := ⟨b13, 2, none⟩) hl4).trans d2, ((HbB.out).cell (p := ⟨b13, 3, none⟩) hl4).trans d3⟩
              | with_reducible exact ⟨((HbA.out).cell (p := ⟨b13, 0, none⟩) hl4).trans d0, ((HbA.out).cell (p := ⟨b13, 1, none⟩) hl4).trans d1, ((HbA.out).cell (p := ⟨b13, 2, none⟩) hl4).trans d2, ((HbA.out).cell (p := ⟨b13, 3, none⟩) hl4).trans d3⟩
              | with_reducible exact ⟨((below_put4 BL.out (Nat.le_refl _) _ _ _ _).cell (p := ⟨b13, 0, none⟩) hl4).trans d0, ((below_put4 BL.out (Nat.le_refl _) _ _ _ _).cell (p := ⟨b13, 1, none⟩) hl4).trans d1, ((below_put4 BL.out (Nat.le_refl _) _ _ _ _).cell (p := ⟨b13, 2, none⟩) hl4).trans d2, ((below_put4 BL.out (Nat.le_refl _) _ _ _ _).cell (p := ⟨b13, 3, none⟩) hl4).trans d3⟩
              | go_keep)
            (first
              | (go_at_call 16; go_must ((first | refine (A4.out _ _ _ _ _ _ _ (HLD.out.below HQA.out) (HPR.out.below HbA.out) (HRA.out _ HQA.out _)).mono ?_ | refine (A4.out _ _ _ _ _ _ _ (HLD.out.below HQB.out) (HPR.out.below HbB.out) (HRA.out _ HQB.out _)).mono ?_); rintro e wL ⟨⟨qa, qn, qcp, rfl, hrowL⟩, hbL⟩; have BL' : Below W5.heap.size W5 wL := (by first | with_reducible exact HbA.out.trans (hbL.mono (by simp)) | with_reducible exact HbB.out.trans (hbL.mono (by simp))); have hszL := BL'.size; have hLz0 : b13 < wL.heap.size := (by omega); (first | ((with_reducible have yy := HzB.out.below hbL); have YL := Lib.hid yy; obtain ⟨y0, y1, y2, y3, yf0, yf1, yf2, yf3⟩ := yy) | (have YN : True := trivial)); have BL := Lib.hid BL'; have RL := Lib.hid hrowL; clear BL' hrowL hbL)))
          all_goals
            refine hK' _ _ (Met.intro (hJ _ _ ?_))
            (repeat apply Exists.intro)
            refine ⟨?_, rfl⟩
            have hwL := BL.out.size
            unfold AbsCut
            (first
              | (refine ⟨wL.heap.size, qa, qn, qcp, rfl, rfl, rfl, ?_⟩; with_reducible exact ⟨Cells4.new wL _ _ _ _ _, RL.out.alloc _, BL.out.alloc hwL _⟩)
              | (refine ⟨W5.heap.size, qa, qn, qcp, rfl, rfl, rfl, ?_⟩; with_reducible exact ⟨YL.out.put _ _ _ _, RL.out.put4 YL.out slice_ne _ _ _ _, below_put4 BL.out (Nat.le_refl _) _ _ _ _⟩))
        case rest =>
          obtain ⟨b16, qa, qn, qcp, rfl, rfl, rfl, QC, QR, QB⟩ := hcut
          obtain ⟨W7, rfl⟩ : ∃ x, x = wc := ⟨_, rfl⟩
          have B7 := Lib.hid (B5.out.trans (QB.mono B5.out.size))
          have HQR := Lib.hid QR
          have R1e := Lib.hid (R1d.out.below QB)
          obtain ⟨d0, d1, d2, d3, _, _, _, _⟩ := QC
          obtain ⟨e0, e1, e2, e3, _, _, _, _⟩ := D7d.out.below QB
          clear QR PC c0 c1 c2 c3
          go_wp2_with (first
            | (go_at_call 12; go_must (refine (rsame7_calls G qa ga qn gn qcp gcp _ HQR.out R1e.out).mono ?_; rintro e w5 ⟨rfl, hb5⟩; have B8 := Lib.hid (B7.out.trans (hb5.mono B7.out.size)); have hz8 := B8.out.size))
            | (go_at_call 9; refine (live11_calls _ a0 a1 a2 (HLD.out.below (B8.out))).mono ?_; rintro e w6 ⟨rfl, hb6⟩))
          go_ret
          exact ⟨by simp, B8.out.trans (hb6.mono hz8)⟩
    · have hne : ¬ tc = k := hc
      go_enter Tryd.func5, Tryd.ntmps5
      go_wp2_with (first
        | (go_at_call 15; refine FW8.out.mono ?_; rintro e w0 ⟨rfl, rfl⟩)
        | (go_at_call 16; go_must (refine (A1.out _ (HLD.out.below HB.out) (HR.out.below HB.out) (HL.out.below HB.out)).mono ?_; rintro e w1 ⟨⟨ga, gn, gcp, rfl, hr1⟩, hb1⟩; have B1 := Lib.hid (HB.out.trans (hb1.mono (by simp))); have R1 := Lib.hid hr1; have E3 := Lib.hid (C3.out.below hb1); obtain ⟨c0, c1, c2, c3, _, _, _, _⟩ := E3.out; have hz1 := hb1.size; simp at hz1; have hy1 : w.heap.size < w1.heap.size := (by omega); clear hr1 hb1))
        | (go_at_call 17; go_must (refine (A2.out _ ((HR.out.below B1.out).alloc _) ((HL.out.below B1.out).below ((Below.refl _ _).alloc (Nat.le_refl _) _))).mono ?_; rintro e w2 ⟨⟨ka, kn, kcp, rfl, hr2⟩, hb2⟩; have B2 := Lib.hid ((B1.out.alloc (by omega) (.cells #[.int .i64 G.cols, .slice ga gn gcp, .int .i64 G.rws, .int .i64 G.trn] 24)).trans (hb2.mono (by simp; omega))); have R1b := Lib.hid ((R1.out.alloc (.cells #[.int .i64 G.cols, .slice ga gn gcp, .int .i64 G.rws, .int .i64 G.trn] 24)).below hb2); have R2 := Lib.hid hr2; have D7 := Lib.hid ((Cells4.new w1 (.int .i64 G.cols) (.slice ga gn gcp) (.int .i64 G.rws) (.int .i64 G.trn) 24).below hb2); have E3b := Lib.hid ((E3.out.alloc (.cells #[.int .i64 G.cols, .slice ga gn gcp, .int .i64 G.rws, .int .i64 G.trn] 24)).below hb2); clear c0 c1 c2 c3; obtain ⟨c0, c1, c2, c3, _, _, _, _⟩ := D7.out; have hz2 := hb2.size; simp at hz2; have hy2 : w.heap.size < w2.heap.size := (by omega); have hx2 : w1.heap.size < w2.heap.size := (by omega); clear hr2 hb2))
        | (go_at_call 12; go_must (refine (rsame7_calls G ga ka gn kn gcp kcp _ (R1b.out.alloc _) (R2.out.alloc _)).mono ?_; rintro e w3 ⟨rfl, hb3⟩; have B3 := Lib.hid ((B2.out.alloc (by omega) (.cells #[.int .i64 G.cols, .slice ka kn kcp, .int .i64 G.rws, .int .i64 G.trn] 24)).trans (hb3.mono (by simp; omega))); have R1c := Lib.hid ((R1b.out.alloc (.cells #[.int .i64 G.cols, .slice ka kn kcp, .int .i64 G.rws, .int .i64 G.trn] 24)).below hb3); have D7c := Lib.hid ((D7.out.alloc (.cells #[.int .i64 G.cols, .slice ka kn kcp, .int .i64 G.rws, .int .i64 G.trn] 24)).below hb3); have E3c := Lib.hid ((E3b.out.alloc (.cells #[.int .i64 G.cols, .slice ka kn kcp, .int .i64 G.rws, .int .i64 G.trn] 24)).below hb3); have hz3 := hb3.size; simp at hz3; clear hb3)))
      go_cut [13, 14, 15] from 70 to 78 (fun s13 s14 s15 wx => AbsCut w3 (k : Int) 0 P s13 s14 s15 wx)
      case first =>
        rename_i J K' hJ hK'
        have hs3 := B3.out.size
        obtain ⟨c0', c1', c2', c3', _, _, _, _⟩ := E3c.out
        have hl4 := E3c.out.lt
        have bA : Below w3.heap.size w3 w3.drew := (Below.refl _ _).drew
        have bB : Below w3.heap.size w3 (w3.alloc (.cells #[.int .i64 0, .slice none 0 0, .int .i64 0, .int .i64 0] 24)).drew := ((Below.refl w3.heap.size w3).alloc (Nat.le_refl _) _).drew
        have zB : Cells4 (w3.alloc (.cells #[.int .i64 0, .slice none 0 0, .int .i64 0, .int .i64 0] 24)).drew w3.heap.size (.int .i64 0) (.slice none 0 0) (.int .i64 0) (.int .i64 0) := (Cells4.new w3 _ _ _ _ 24).below ((Below.refl _ _).drew)
        have HbA := Lib.hid bA
        have HbB := Lib.hid bB
        have HzB := Lib.hid zB
        have HQA := Lib.hid (B3.out.trans (bA.mono hs3))
        have HQB := Lib.hid (B3.out.trans (bB.mono hs3))
        clear bA bB zB
        go_region_held3 (fun w' => w'.cell? ⟨w.heap.size, 0, none⟩ = some (.int .i64 F.cols) ∧ w'.cell? ⟨w.heap.size, 1, none⟩ = some (.slice a n cap) ∧ w'.cell? ⟨w.heap.size, 2, none⟩ = some (.int .i64 F.rws) ∧ w'.cell? ⟨w.heap.size, 3, none⟩ = some (.int .i64 F.trn))
          (first
            | with_reducible exact ⟨((BL.out).cell (p := ⟨w.heap.size, 0, none⟩) hl4).trans c0', ((BL.out).cell (p := ⟨w.heap.size, 1, none⟩) hl4).trans c1', ((BL.out).cell (p := ⟨w.heap.size, 2, none⟩) hl4).trans c2', ((BL.out).cell (p := ⟨w.heap.size, 3, none⟩) hl4).trans c3'⟩
            | with_reducible exact ⟨((BL.out.alloc BL.out.size _).cell (p := ⟨w.heap.size, 0, none⟩) hl4).trans c0', ((BL.out.alloc BL.out.size _).cell (p := ⟨w.heap.size, 1, none⟩) hl4).trans c1', ((BL.out.alloc BL.out.size _).cell (p := ⟨w.heap.size, 2, none⟩) hl4).trans c2', ((BL.out.alloc BL.out.size _).cell (p := ⟨w.heap.size, 3, none⟩) hl4).trans c3'⟩
            | with_reducible exact ⟨((HbB.out).cell (p := ⟨w.heap.size, 0, none⟩) hl4).trans c0', ((HbB.out).cell (p := ⟨w.heap.size, 1, none⟩) hl4).trans c1', ((HbB.out).cell (p := ⟨w.heap.size, 2, none⟩) hl4).trans c2', ((HbB.out).cell (p := ⟨w.heap.size, 3, none⟩) hl4).trans c3'⟩
            | with_reducible exact ⟨((HbA.out).cell (p := ⟨w.heap.size, 0, none⟩) hl4).trans c0', ((HbA.out).cell (p := ⟨w.heap.size, 1, none⟩) hl4).trans c1', ((HbA.out).cell (p := ⟨w.heap.size, 2, none⟩) hl4).trans c2', ((HbA.out).cell (p := ⟨w.heap.size, 3, none⟩) hl4).trans c3'⟩
            | with_reducible exact ⟨((below_put4 BL.out (Nat.le_refl _) _ _ _ _).cell (p := ⟨w.heap.size, 0, none⟩) hl4).trans c0', ((below_put4 BL.out (Nat.le_refl _) _ _ _ _).cell (p := ⟨w.heap.size, 1, none⟩) hl4).trans c1', ((below_put4 BL.out (Nat.le_refl _) _ _ _ _).cell (p := ⟨w.heap.size, 2, none⟩) hl4).trans c2', ((below_put4 BL.out (Nat.le_refl _) _ _ _ _).cell (p := ⟨w.heap.size, 3, none⟩) hl4).trans c3'⟩
            | go_keep)
          (first
            | (go_at_call 16; go_must ((first | refine (A3.out _ _ _ _ (HLD.out.below HQA.out) (HR.out.below HQA.out) ((HRW.out _ HQA.out).1 _ (.inl H0.out))).mono ?_ | refine (A3.out _ _ _ _ (HLD.out.below HQB.out) (HR.out.below HQB.out) ((HRW.out _ HQB.out).1 _ (.inl H0.out))).mono ?_); rintro e wL ⟨⟨pa, pn, pcp, rfl, hrowL⟩, hbL⟩; have BL' : Below w3.heap.size w3 wL := (by first | with_reducible exact HbA.out.trans (hbL.mono (by simp)) | with_reducible exact HbB.out.trans (hbL.mono (by simp))); have hszL := BL'.size; have hLz0 : w.heap.size < wL.heap.size := (by omega); (first | ((with_reducible have yy := HzB.out.below hbL); have YL := Lib.hid yy; obtain ⟨y0, y1, y2, y3, yf0, yf1, yf2, yf3⟩ := yy) | (have YN : True := trivial)); have BL := Lib.hid BL'; have RL := Lib.hid hrowL; clear BL' hrowL hbL)))
        all_goals
          refine hK' _ _ (Met.intro (hJ _ _ ?_))
          (repeat apply Exists.intro)
          refine ⟨?_, rfl⟩
          have hwL := BL.out.size
          unfold AbsCut
          (first
            | (refine ⟨wL.heap.size, pa, pn, pcp, rfl, rfl, rfl, ?_⟩; with_reducible exact ⟨Cells4.new wL _ _ _ _ _, RL.out.alloc _, BL.out.alloc hwL _⟩)
            | (refine ⟨w3.heap.size, pa, pn, pcp, rfl, rfl, rfl, ?_⟩; with_reducible exact ⟨YL.out.put _ _ _ _, RL.out.put4 YL.out slice_ne _ _ _ _, below_put4 BL.out (Nat.le_refl _) _ _ _ _⟩))
      case rest =>
        obtain ⟨b13, pa, pn, pcp, rfl, rfl, rfl, PC, PR, PB⟩ := hcut
        obtain ⟨W5, rfl⟩ : ∃ x, x = wc := ⟨_, rfl⟩
        have HPR := Lib.hid PR
        have B5 := Lib.hid (B3.out.trans (PB.mono B3.out.size))
        have D7d := Lib.hid (D7c.out.below PB)
        have R1d := Lib.hid (R1c.out.below PB)
        clear PR
        go_wp2
        go_cut [16, 17, 18] from 79 to 87 (fun s16 s17 s18 wx => AbsCut W5 cn 0 G s16 s17 s18 wx)
        case first =>
          rename_i J K' hJ hK'
          have hs5 := B5.out.size
          have hl4 := PC.lt
          obtain ⟨d0, d1, d2, d3, _, _, _, _⟩ := PC
          have bA : Below W5.heap.size W5 W5.drew := (Below.refl _ _).drew
          have bB : Below W5.heap.size W5 (W5.alloc (.cells #[.int .i64 0, .slice none 0 0, .int .i64 0, .int .i64 0] 24)).drew := ((Below.refl W5.heap.size W5).alloc (Nat.le_refl _) _).drew
          have zB : Cells4 (W5.alloc (.cells #[.int .i64 0, .slice none 0 0, .int .i64 0, .int .i64 0] 24)).drew W5.heap.size (.int .i64 0) (.slice none 0 0) (.int .i64 0) (.int .i64 0) := (Cells4.new W5 _ _ _ _ 24).below ((Below.refl _ _).drew)
          have HbA := Lib.hid bA
          have HbB := Lib.hid bB
          have HzB := Lib.hid zB
          have HQA := Lib.hid (B5.out.trans (bA.mono hs5))
          have HQB := Lib.hid (B5.out.trans (bB.mono hs5))
          clear bA bB zB
          go_region_held3 (fun w' => w'.cell? ⟨b13, 0, none⟩ = some (.int .i64 P.cols) ∧ w'.cell? ⟨b13, 1, none⟩ = some (.slice pa pn pcp) ∧ w'.cell? ⟨b13, 2, none⟩ = some (.int .i64 P.rws) ∧ w'.cell? ⟨b13, 3, none⟩ = some (.int .i64 P.trn))
            (first
              | with_reducible exact ⟨((BL.out).cell (p := ⟨b13, 0, none⟩) hl4).trans d0, ((BL.out).cell (p := ⟨b13, 1, none⟩) hl4).trans d1, ((BL.out).cell (p := ⟨b13, 2, none⟩) hl4).trans d2, ((BL.out).cell (p := ⟨b13, 3, none⟩) hl4).trans d3⟩
              | with_reducible exact ⟨((BL.out.alloc BL.out.size _).cell (p := ⟨b13, 0, none⟩) hl4).trans d0, ((BL.out.alloc BL.out.size _).cell (p := ⟨b13, 1, none⟩) hl4).trans d1, ((BL.out.alloc BL.out.size _).cell (p := ⟨b13, 2, none⟩) hl4).trans d2, ((BL.out.alloc BL.out.size _).cell (p := ⟨b13, 3, none⟩) hl4).trans d3⟩
              | with_reducible exact ⟨((HbB.out).cell (p := ⟨b13, 0, none⟩) hl4).trans d0, ((HbB.out).cell (p := ⟨b13, 1, none⟩) hl4).trans d1, ((HbB.out).cell (p := ⟨b13, 2, none⟩) hl4).trans d2, ((HbB.out).cell (p := ⟨b13, 3, none⟩) hl4).trans d3⟩
              | with_reducible exact ⟨((HbA.out).cell (p := ⟨b13, 0, none⟩) hl4).trans d0, ((HbA.out).cell (p := ⟨b13, 1, none⟩) hl4).trans d1, ((HbA.out).cell (p := ⟨b13, 2, none⟩) hl4).trans d2, ((HbA.out).cell (p := ⟨b13, 3, none⟩) hl4).trans d3⟩
              | with_reducible exact ⟨((below_put4 BL.out (Nat.le_refl _) _ _ _ _).cell (p := ⟨b13, 0, none⟩) hl4).trans d0, ((below_put4 BL.out (Nat.le_refl _) _ _ _ _).cell (p := ⟨b13, 1, none⟩) hl4).trans d1, ((below_put4 BL.out (Nat.le_refl _) _ _ _ _).cell (p := ⟨b13, 2, none⟩) hl4).trans d2, ((below_put4 BL.out (Nat.le_refl _) _ _ _ _).cell (p := ⟨b13, 3, none⟩) hl4).trans d3⟩
              | go_keep)
            (first
              | (go_at_call 16; go_must ((first | refine (A4.out _ _ _ _ _ _ _ (HLD.out.below HQA.out) (HPR.out.below HbA.out) ((HRW.out _ HQA.out).2.2 H0.out _)).mono ?_ | refine (A4.out _ _ _ _ _ _ _ (HLD.out.below HQB.out) (HPR.out.below HbB.out) ((HRW.out _ HQB.out).2.2 H0.out _)).mono ?_); rintro e wL ⟨⟨qa, qn, qcp, rfl, hrowL⟩, hbL⟩; have BL' : Below W5.heap.size W5 wL := (by first | with_reducible exact HbA.out.trans (hbL.mono (by simp)) | with_reducible exact HbB.out.trans (hbL.mono (by simp))); have hszL := BL'.size; have hLz0 : b13 < wL.heap.size := (by omega); (first | ((with_reducible have yy := HzB.out.below hbL); have YL := Lib.hid yy; obtain ⟨y0, y1, y2, y3, yf0, yf1, yf2, yf3⟩ := yy) | (have YN : True := trivial)); have BL := Lib.hid BL'; have RL := Lib.hid hrowL; clear BL' hrowL hbL)))
          all_goals
            refine hK' _ _ (Met.intro (hJ _ _ ?_))
            (repeat apply Exists.intro)
            refine ⟨?_, rfl⟩
            have hwL := BL.out.size
            unfold AbsCut
            (first
              | (refine ⟨wL.heap.size, qa, qn, qcp, rfl, rfl, rfl, ?_⟩; with_reducible exact ⟨Cells4.new wL _ _ _ _ _, RL.out.alloc _, BL.out.alloc hwL _⟩)
              | (refine ⟨W5.heap.size, qa, qn, qcp, rfl, rfl, rfl, ?_⟩; with_reducible exact ⟨YL.out.put _ _ _ _, RL.out.put4 YL.out slice_ne _ _ _ _, below_put4 BL.out (Nat.le_refl _) _ _ _ _⟩))
        case rest =>
          obtain ⟨b16, qa, qn, qcp, rfl, rfl, rfl, QC, QR, QB⟩ := hcut
          obtain ⟨W7, rfl⟩ : ∃ x, x = wc := ⟨_, rfl⟩
          have B7 := Lib.hid (B5.out.trans (QB.mono B5.out.size))
          have HQR := Lib.hid QR
          have R1e := Lib.hid (R1d.out.below QB)
          obtain ⟨d0, d1, d2, d3, _, _, _, _⟩ := QC
          obtain ⟨e0, e1, e2, e3, _, _, _, _⟩ := D7d.out.below QB
          clear QR PC c0 c1 c2 c3
          go_wp2_with (first
            | (go_at_call 12; go_must (refine (rsame7_calls G qa ga qn gn qcp gcp _ HQR.out R1e.out).mono ?_; rintro e w5 ⟨rfl, hb5⟩; have B8 := Lib.hid (B7.out.trans (hb5.mono B7.out.size)); have hz8 := B8.out.size))
            | (go_at_call 9; refine (live11_calls _ a0 a1 a2 (HLD.out.below (B8.out))).mono ?_; rintro e w6 ⟨rfl, hb6⟩))
          go_ret
          exact ⟨by simp, B8.out.trans (hb6.mono hz8)⟩
  · obtain ⟨blk, off, rfl, _⟩ := HL.out.at (by omega)
    have htc : ¬ tc = 0 := by omega
    by_cases hc : tc = k
    · obtain rfl : k = tc := hc.symm
      obtain rfl : k = tn := by omega
      have HRB : Hid (∀ W, Below w.heap.size w W → Rws W (.slice (some ⟨blk, off, none⟩) 0 0) (rs.drop k)) := by
        intro W hW
        have := (HRW.out W hW).2.1 blk off (some ⟨blk, off, none⟩) rfl (.inl rfl)
        rw [Nat.sub_self] at this
        exact this
      go_enter Tryd.func5, Tryd.ntmps5
      go_wp2_with (first
        | (go_at_call 15; refine FW8.out.mono ?_; rintro e w0 ⟨rfl, rfl⟩)
        | (go_at_call 16; go_must (refine (A1.out _ (HLD.out.below HB.out) (HR.out.below HB.out) (HL.out.below HB.out)).mono ?_; rintro e w1 ⟨⟨ga, gn, gcp, rfl, hr1⟩, hb1⟩; have B1 := Lib.hid (HB.out.trans (hb1.mono (by simp))); have R1 := Lib.hid hr1; have E3 := Lib.hid (C3.out.below hb1); obtain ⟨c0, c1, c2, c3, _, _, _, _⟩ := E3.out; have hz1 := hb1.size; simp at hz1; have hy1 : w.heap.size < w1.heap.size := (by omega); clear hr1 hb1))
        | (go_at_call 17; go_must (refine (A2.out _ ((HR.out.below B1.out).alloc _) ((HL.out.below B1.out).below ((Below.refl _ _).alloc (Nat.le_refl _) _))).mono ?_; rintro e w2 ⟨⟨ka, kn, kcp, rfl, hr2⟩, hb2⟩; have B2 := Lib.hid ((B1.out.alloc (by omega) (.cells #[.int .i64 G.cols, .slice ga gn gcp, .int .i64 G.rws, .int .i64 G.trn] 24)).trans (hb2.mono (by simp; omega))); have R1b := Lib.hid ((R1.out.alloc (.cells #[.int .i64 G.cols, .slice ga gn gcp, .int .i64 G.rws, .int .i64 G.trn] 24)).below hb2); have R2 := Lib.hid hr2; have D7 := Lib.hid ((Cells4.new w1 (.int .i64 G.cols) (.slice ga gn gcp) (.int .i64 G.rws) (.int .i64 G.trn) 24).below hb2); have E3b := Lib.hid ((E3.out.alloc (.cells #[.int .i64 G.cols, .slice ga gn gcp, .int .i64 G.rws, .int .i64 G.trn] 24)).below hb2); clear c0 c1 c2 c3; obtain ⟨c0, c1, c2, c3, _, _, _, _⟩ := D7.out; have hz2 := hb2.size; simp at hz2; have hy2 : w.heap.size < w2.heap.size := (by omega); have hx2 : w1.heap.size < w2.heap.size := (by omega); clear hr2 hb2))
        | (go_at_call 12; go_must (refine (rsame7_calls G ga ka gn kn gcp kcp _ (R1b.out.alloc _) (R2.out.alloc _)).mono ?_; rintro e w3 ⟨rfl, hb3⟩; have B3 := Lib.hid ((B2.out.alloc (by omega) (.cells #[.int .i64 G.cols, .slice ka kn kcp, .int .i64 G.rws, .int .i64 G.trn] 24)).trans (hb3.mono (by simp; omega))); have R1c := Lib.hid ((R1b.out.alloc (.cells #[.int .i64 G.cols, .slice ka kn kcp, .int .i64 G.rws, .int .i64 G.trn] 24)).below hb3); have D7c := Lib.hid ((D7.out.alloc (.cells #[.int .i64 G.cols, .slice ka kn kcp, .int .i64 G.rws, .int .i64 G.trn] 24)).below hb3); have E3c := Lib.hid ((E3b.out.alloc (.cells #[.int .i64 G.cols, .slice ka kn kcp, .int .i64 G.rws, .int .i64 G.trn] 24)).below hb3); have hz3 := hb3.size; simp at hz3; clear hb3)))
      go_cut [13, 14, 15] from 70 to 78 (fun s13 s14 s15 wx => AbsCut w3 (k : Int) 0 P s13 s14 s15 wx)
      case first =>
        rename_i J K' hJ hK'
        have hs3 := B3.out.size
        obtain ⟨c0', c1', c2', c3', _, _, _, _⟩ := E3c.out
        have hl4 := E3c.out.lt
        have bA : Below w3.heap.size w3 w3.drew := (Below.refl _ _).drew
        have bB : Below w3.heap.size w3 (w3.alloc (.cells #[.int .i64 0, .slice none 0 0, .int .i64 0, .int .i64 0] 24)).drew := ((Below.refl w3.heap.size w3).alloc (Nat.le_refl _) _).drew
        have zB : Cells4 (w3.alloc (.cells #[.int .i64 0, .slice none 0 0, .int .i64 0, .int .i64 0] 24)).drew w3.heap.size (.int .i64 0) (.slice none 0 0) (.int .i64 0) (.int .i64 0) := (Cells4.new w3 _ _ _ _ 24).below ((Below.refl _ _).drew)
        have HbA := Lib.hid bA
        have HbB := Lib.hid bB
        have HzB := Lib.hid zB
        have HQA := Lib.hid (B3.out.trans (bA.mono hs3))
        have HQB := Lib.hid (B3.out.trans (bB.mono hs3))
        clear bA bB zB
        go_region_held3 (fun w' => w'.cell? ⟨w.heap.size, 0, none⟩ = some (.int .i64 F.cols) ∧ w'.cell? ⟨w.heap.size, 1, none⟩ = some (.slice a n cap) ∧ w'.cell? ⟨w.heap.size, 2, none⟩ = some (.int .i64 F.rws) ∧ w'.cell? ⟨w.heap.size, 3, none⟩ = some (.int .i64 F.trn))
          (first
            | with_reducible exact ⟨((BL.out).cell (p := ⟨w.heap.size, 0, none⟩) hl4).trans c0', ((BL.out).cell (p := ⟨w.heap.size, 1, none⟩) hl4).trans c1', ((BL.out).cell (p := ⟨w.heap.size, 2, none⟩) hl4).trans c2', ((BL.out).cell (p := ⟨w.heap.size, 3, none⟩) hl4).trans c3'⟩
            | with_reducible exact ⟨((BL.out.alloc BL.out.size _).cell (p := ⟨w.heap.size, 0, none⟩) hl4).trans c0', ((BL.out.alloc BL.out.size _).cell (p := ⟨w.heap.size, 1, none⟩) hl4).trans c1', ((BL.out.alloc BL.out.size _).cell (p := ⟨w.heap.size, 2, none⟩) hl4).trans c2', ((BL.out.alloc BL.out.size _).cell (p := ⟨w.heap.size, 3, none⟩) hl4).trans c3'⟩
            | with_reducible exact ⟨((HbB.out).cell (p := ⟨w.heap.size, 0, none⟩) hl4).trans c0', ((HbB.out).cell (p := ⟨w.heap.size, 1, none⟩) hl4).trans c1', ((HbB.out).cell (p := ⟨w.heap.size, 2, none⟩) hl4).trans c2', ((HbB.out).cell (p := ⟨w.heap.size, 3, none⟩) hl4).trans c3'⟩
            | with_reducible exact ⟨((HbA.out).cell (p := ⟨w.heap.size, 0, none⟩) hl4).trans c0', ((HbA.out).cell (p := ⟨w.heap.size, 1, none⟩) hl4).trans c1', ((HbA.out).cell (p := ⟨w.heap.size, 2, none⟩) hl4).trans c2', ((HbA.out).cell (p := ⟨w.heap.size, 3, none⟩) hl4).trans c3'⟩
            | with_reducible exact ⟨((below_put4 BL.out (Nat.le_refl _) _ _ _ _).cell (p := ⟨w.heap.size, 0, none⟩) hl4).trans c0', ((below_put4 BL.out (Nat.le_refl _) _ _ _ _).cell (p := ⟨w.heap.size, 1, none⟩) hl4).trans c1', ((below_put4 BL.out (Nat.le_refl _) _ _ _ _).cell (p := ⟨w.heap.size, 2, none⟩) hl4).trans c2', ((below_put4 BL.out (Nat.le_refl _) _ _ _ _).cell (p := ⟨w.heap.size, 3, none⟩) hl4).trans c3'⟩
            | go_keep)
          (first
            | (go_at_call 16; go_must ((first | refine (A3.out _ _ _ _ (HLD.out.below HQA.out) (HR.out.below HQA.out) ((HRW.out _ HQA.out).1 _ (.inr rfl))).mono ?_ | refine (A3.out _ _ _ _ (HLD.out.below HQB.out) (HR.out.below HQB.out) ((HRW.out _ HQB.out).1 _ (.inr rfl))).mono ?_); rintro e wL ⟨⟨pa, pn, pcp, rfl, hrowL⟩, hbL⟩; have BL' : Below w3.heap.size w3 wL := (by first | with_reducible exact HbA.out.trans (hbL.mono (by simp)) | with_reducible exact HbB.out.trans (hbL.mono (by simp))); have hszL := BL'.size; have hLz0 : w.heap.size < wL.heap.size := (by omega); (first | ((with_reducible have yy := HzB.out.below hbL); have YL := Lib.hid yy; obtain ⟨y0, y1, y2, y3, yf0, yf1, yf2, yf3⟩ := yy) | (have YN : True := trivial)); have BL := Lib.hid BL'; have RL := Lib.hid hrowL; clear BL' hrowL hbL)))
        all_goals
          refine hK' _ _ (Met.intro (hJ _ _ ?_))
          (repeat apply Exists.intro)
          refine ⟨?_, rfl⟩
          have hwL := BL.out.size
          unfold AbsCut
          (first
            | (refine ⟨wL.heap.size, pa, pn, pcp, rfl, rfl, rfl, ?_⟩; with_reducible exact ⟨Cells4.new wL _ _ _ _ _, RL.out.alloc _, BL.out.alloc hwL _⟩)
            | (refine ⟨w3.heap.size, pa, pn, pcp, rfl, rfl, rfl, ?_⟩; with_reducible exact ⟨YL.out.put _ _ _ _, RL.out.put4 YL.out slice_ne _ _ _ _, below_put4 BL.out (Nat.le_refl _) _ _ _ _⟩))
      case rest =>
        obtain ⟨b13, pa, pn, pcp, rfl, rfl, rfl, PC, PR, PB⟩ := hcut
        obtain ⟨W5, rfl⟩ : ∃ x, x = wc := ⟨_, rfl⟩
        have HPR := Lib.hid PR
        have B5 := Lib.hid (B3.out.trans (PB.mono B3.out.size))
        have D7d := Lib.hid (D7c.out.below PB)
        have R1d := Lib.hid (R1c.out.below PB)
        clear PR
        go_wp2
        go_cut [16, 17, 18] from 79 to 87 (fun s16 s17 s18 wx => AbsCut W5 cn 0 G s16 s17 s18 wx)
        case first =>
          rename_i J K' hJ hK'
          have hs5 := B5.out.size
          have hl4 := PC.lt
          obtain ⟨d0, d1, d2, d3, _, _, _, _⟩ := PC
          have bA : Below W5.heap.size W5 W5.drew := (Below.refl _ _).drew
          have bB : Below W5.heap.size W5 (W5.alloc (.cells #[.int .i64 0, .slice none 0 0, .int .i64 0, .int .i64 0] 24)).drew := ((Below.refl W5.heap.size W5).alloc (Nat.le_refl _) _).drew
          have zB : Cells4 (W5.alloc (.cells #[.int .i64 0, .slice none 0 0, .int .i64 0, .int .i64 0] 24)).drew W5.heap.size (.int .i64 0) (.slice none 0 0) (.int .i64 0) (.int .i64 0) := (Cells4.new W5 _ _ _ _ 24).below ((Below.refl _ _).drew)
          have HbA := Lib.hid bA
          have HbB := Lib.hid bB
          have HzB := Lib.hid zB
          have HQA := Lib.hid (B5.out.trans (bA.mono hs5))
          have HQB := Lib.hid (B5.out.trans (bB.mono hs5))
          clear bA bB zB
          go_region_held3 (fun w' => w'.cell? ⟨b13, 0, none⟩ = some (.int .i64 P.cols) ∧ w'.cell? ⟨b13, 1, none⟩ = some (.slice pa pn pcp) ∧ w'.cell? ⟨b13, 2, none⟩ = some (.int .i64 P.rws) ∧ w'.cell? ⟨b13, 3, none⟩ = some (.int .i64 P.trn))
            (first
              | with_reducible exact ⟨((BL.out).cell (p := ⟨b13, 0, none⟩) hl4).trans d0, ((BL.out).cell (p := ⟨b13, 1, none⟩) hl4).trans d1, ((BL.out).cell (p := ⟨b13, 2, none⟩) hl4).trans d2, ((BL.out).cell (p := ⟨b13, 3, none⟩) hl4).trans d3⟩
              | with_reducible exact ⟨((BL.out.alloc BL.out.size _).cell (p := ⟨b13, 0, none⟩) hl4).trans d0, ((BL.out.alloc BL.out.size _).cell (p := ⟨b13, 1, none⟩) hl4).trans d1, ((BL.out.alloc BL.out.size _).cell (p := ⟨b13, 2, none⟩) hl4).trans d2, ((BL.out.alloc BL.out.size _).cell (p := ⟨b13, 3, none⟩) hl4).trans d3⟩
              | with_reducible exact ⟨((HbB.out).cell (p := ⟨b13, 0, none⟩) hl4).trans d0, ((HbB.out).cell (p := ⟨b13, 1, none⟩) hl4).trans d1, ((HbB.out).cell (p := ⟨b13, 2, none⟩) hl4).trans d2, ((HbB.out).cell (p := ⟨b13, 3, none⟩) hl4).trans d3⟩
              | with_reducible exact ⟨((HbA.out).cell (p := ⟨b13, 0, none⟩) hl4).trans d0, ((HbA.out).cell (p := ⟨b13, 1, none⟩) hl4).trans d1, ((HbA.out).cell (p := ⟨b13, 2, none⟩) hl4).trans d2, ((HbA.out).cell (p := ⟨b13, 3, none⟩) hl4).trans d3⟩
              | with_reducible exact ⟨((below_put4 BL.out (Nat.le_refl _) _ _ _ _).cell (p := ⟨b13, 0, none⟩) hl4).trans d0, ((below_put4 BL.out (Nat.le_refl _) _ _ _ _).cell (p := ⟨b13, 1, none⟩) hl4).trans d1, ((below_put4 BL.out (Nat.le_refl _) _ _ _ _).cell (p := ⟨b13, 2, none⟩) hl4).trans d2, ((below_put4 BL.out (Nat.le_refl _) _ _ _ _).cell (p := ⟨b13, 3, none⟩) hl4).trans d3⟩
              | go_keep)
            (first
              | (go_at_call 16; go_must ((first | refine (A4.out _ _ _ _ _ _ _ (HLD.out.below HQA.out) (HPR.out.below HbA.out) (HRB.out _ HQA.out)).mono ?_ | refine (A4.out _ _ _ _ _ _ _ (HLD.out.below HQB.out) (HPR.out.below HbB.out) (HRB.out _ HQB.out)).mono ?_); rintro e wL ⟨⟨qa, qn, qcp, rfl, hrowL⟩, hbL⟩; have BL' : Below W5.heap.size W5 wL := (by first | with_reducible exact HbA.out.trans (hbL.mono (by simp)) | with_reducible exact HbB.out.trans (hbL.mono (by simp))); have hszL := BL'.size; have hLz0 : b13 < wL.heap.size := (by omega); (first | ((with_reducible have yy := HzB.out.below hbL); have YL := Lib.hid yy; obtain ⟨y0, y1, y2, y3, yf0, yf1, yf2, yf3⟩ := yy) | (have YN : True := trivial)); have BL := Lib.hid BL'; have RL := Lib.hid hrowL; clear BL' hrowL hbL)))
          all_goals
            refine hK' _ _ (Met.intro (hJ _ _ ?_))
            (repeat apply Exists.intro)
            refine ⟨?_, rfl⟩
            have hwL := BL.out.size
            unfold AbsCut
            (first
              | (refine ⟨wL.heap.size, qa, qn, qcp, rfl, rfl, rfl, ?_⟩; with_reducible exact ⟨Cells4.new wL _ _ _ _ _, RL.out.alloc _, BL.out.alloc hwL _⟩)
              | (refine ⟨W5.heap.size, qa, qn, qcp, rfl, rfl, rfl, ?_⟩; with_reducible exact ⟨YL.out.put _ _ _ _, RL.out.put4 YL.out slice_ne _ _ _ _, below_put4 BL.out (Nat.le_refl _) _ _ _ _⟩))
        case rest =>
          obtain ⟨b16, qa, qn, qcp, rfl, rfl, rfl, QC, QR, QB⟩ := hcut
          obtain ⟨W7, rfl⟩ : ∃ x, x = wc := ⟨_, rfl⟩
          have B7 := Lib.hid (B5.out.trans (QB.mono B5.out.size))
          have HQR := Lib.hid QR
          have R1e := Lib.hid (R1d.out.below QB)
          obtain ⟨d0, d1, d2, d3, _, _, _, _⟩ := QC
          obtain ⟨e0, e1, e2, e3, _, _, _, _⟩ := D7d.out.below QB
          clear QR PC c0 c1 c2 c3
          go_wp2_with (first
            | (go_at_call 12; go_must (refine (rsame7_calls G qa ga qn gn qcp gcp _ HQR.out R1e.out).mono ?_; rintro e w5 ⟨rfl, hb5⟩; have B8 := Lib.hid (B7.out.trans (hb5.mono B7.out.size)); have hz8 := B8.out.size))
            | (go_at_call 9; refine (live11_calls _ a0 a1 a2 (HLD.out.below (B8.out))).mono ?_; rintro e w6 ⟨rfl, hb6⟩))
          go_ret
          exact ⟨by simp, B8.out.trans (hb6.mono hz8)⟩
    · have hne : ¬ tc = k := hc
      go_enter Tryd.func5, Tryd.ntmps5
      go_wp2_with (first
        | (go_at_call 15; refine FW8.out.mono ?_; rintro e w0 ⟨rfl, rfl⟩)
        | (go_at_call 16; go_must (refine (A1.out _ (HLD.out.below HB.out) (HR.out.below HB.out) (HL.out.below HB.out)).mono ?_; rintro e w1 ⟨⟨ga, gn, gcp, rfl, hr1⟩, hb1⟩; have B1 := Lib.hid (HB.out.trans (hb1.mono (by simp))); have R1 := Lib.hid hr1; have E3 := Lib.hid (C3.out.below hb1); obtain ⟨c0, c1, c2, c3, _, _, _, _⟩ := E3.out; have hz1 := hb1.size; simp at hz1; have hy1 : w.heap.size < w1.heap.size := (by omega); clear hr1 hb1))
        | (go_at_call 17; go_must (refine (A2.out _ ((HR.out.below B1.out).alloc _) ((HL.out.below B1.out).below ((Below.refl _ _).alloc (Nat.le_refl _) _))).mono ?_; rintro e w2 ⟨⟨ka, kn, kcp, rfl, hr2⟩, hb2⟩; have B2 := Lib.hid ((B1.out.alloc (by omega) (.cells #[.int .i64 G.cols, .slice ga gn gcp, .int .i64 G.rws, .int .i64 G.trn] 24)).trans (hb2.mono (by simp; omega))); have R1b := Lib.hid ((R1.out.alloc (.cells #[.int .i64 G.cols, .slice ga gn gcp, .int .i64 G.rws, .int .i64 G.trn] 24)).below hb2); have R2 := Lib.hid hr2; have D7 := Lib.hid ((Cells4.new w1 (.int .i64 G.cols) (.slice ga gn gcp) (.int .i64 G.rws) (.int .i64 G.trn) 24).below hb2); have E3b := Lib.hid ((E3.out.alloc (.cells #[.int .i64 G.cols, .slice ga gn gcp, .int .i64 G.rws, .int .i64 G.trn] 24)).below hb2); clear c0 c1 c2 c3; obtain ⟨c0, c1, c2, c3, _, _, _, _⟩ := D7.out; have hz2 := hb2.size; simp at hz2; have hy2 : w.heap.size < w2.heap.size := (by omega); have hx2 : w1.heap.size < w2.heap.size := (by omega); clear hr2 hb2))
        | (go_at_call 12; go_must (refine (rsame7_calls G ga ka gn kn gcp kcp _ (R1b.out.alloc _) (R2.out.alloc _)).mono ?_; rintro e w3 ⟨rfl, hb3⟩; have B3 := Lib.hid ((B2.out.alloc (by omega) (.cells #[.int .i64 G.cols, .slice ka kn kcp, .int .i64 G.rws, .int .i64 G.trn] 24)).trans (hb3.mono (by simp; omega))); have R1c := Lib.hid ((R1b.out.alloc (.cells #[.int .i64 G.cols, .slice ka kn kcp, .int .i64 G.rws, .int .i64 G.trn] 24)).below hb3); have D7c := Lib.hid ((D7.out.alloc (.cells #[.int .i64 G.cols, .slice ka kn kcp, .int .i64 G.rws, .int .i64 G.trn] 24)).below hb3); have E3c := Lib.hid ((E3b.out.alloc (.cells #[.int .i64 G.cols, .slice ka kn kcp, .int .i64 G.rws, .int .i64 G.trn] 24)).below hb3); have hz3 := hb3.size; simp at hz3; clear hb3)))
      go_cut [13, 14, 15] from 70 to 78 (fun s13 s14 s15 wx => AbsCut w3 (k : Int) 0 P s13 s14 s15 wx)
      case first =>
        rename_i J K' hJ hK'
        have hs3 := B3.out.size
        obtain ⟨c0', c1', c2', c3', _, _, _, _⟩ := E3c.out
        have hl4 := E3c.out.lt
        have bA : Below w3.heap.size w3 w3.drew := (Below.refl _ _).drew
        have bB : Below w3.heap.size w3 (w3.alloc (.cells #[.int .i64 0, .slice none 0 0, .int .i64 0, .int .i64 0] 24)).drew := ((Below.refl w3.heap.size w3).alloc (Nat.le_refl _) _).drew
        have zB : Cells4 (w3.alloc (.cells #[.int .i64 0, .slice none 0 0, .int .i64 0, .int .i64 0] 24)).drew w3.heap.size (.int .i64 0) (.slice none 0 0) (.int .i64 0) (.int .i64 0) := (Cells4.new w3 _ _ _ _ 24).below ((Below.refl _ _).drew)
        have HbA := Lib.hid bA
        have HbB := Lib.hid bB
        have HzB := Lib.hid zB
        have HQA := Lib.hid (B3.out.trans (bA.mono hs3))
        have HQB := Lib.hid (B3.out.trans (bB.mono hs3))
        clear bA bB zB
        go_region_held3 (fun w' => w'.cell? ⟨w.heap.size, 0, none⟩ = some (.int .i64 F.cols) ∧ w'.cell? ⟨w.heap.size, 1, none⟩ = some (.slice a n cap) ∧ w'.cell? ⟨w.heap.size, 2, none⟩ = some (.int .i64 F.rws) ∧ w'.cell? ⟨w.heap.size, 3, none⟩ = some (.int .i64 F.trn))
          (first
            | with_reducible exact ⟨((BL.out).cell (p := ⟨w.heap.size, 0, none⟩) hl4).trans c0', ((BL.out).cell (p := ⟨w.heap.size, 1, none⟩) hl4).trans c1', ((BL.out).cell (p := ⟨w.heap.size, 2, none⟩) hl4).trans c2', ((BL.out).cell (p := ⟨w.heap.size, 3, none⟩) hl4).trans c3'⟩
            | with_reducible exact ⟨((BL.out.alloc BL.out.size _).cell (p := ⟨w.heap.size, 0, none⟩) hl4).trans c0', ((BL.out.alloc BL.out.size _).cell (p := ⟨w.heap.size, 1, none⟩) hl4).trans c1', ((BL.out.alloc BL.out.size _).cell (p := ⟨w.heap.size, 2, none⟩) hl4).trans c2', ((BL.out.alloc BL.out.size _).cell (p := ⟨w.heap.size, 3, none⟩) hl4).trans c3'⟩
            | with_reducible exact ⟨((HbB.out).cell (p := ⟨w.heap.size, 0, none⟩) hl4).trans c0', ((HbB.out).cell (p := ⟨w.heap.size, 1, none⟩) hl4).trans c1', ((HbB.out).cell (p := ⟨w.heap.size, 2, none⟩) hl4).trans c2', ((HbB.out).cell (p := ⟨w.heap.size, 3, none⟩) hl4).trans c3'⟩
            | with_reducible exact ⟨((HbA.out).cell (p := ⟨w.heap.size, 0, none⟩) hl4).trans c0', ((HbA.out).cell (p := ⟨w.heap.size, 1, none⟩) hl4).trans c1', ((HbA.out).cell (p := ⟨w.heap.size, 2, none⟩) hl4).trans c2', ((HbA.out).cell (p := ⟨w.heap.size, 3, none⟩) hl4).trans c3'⟩
            | with_reducible exact ⟨((below_put4 BL.out (Nat.le_refl _) _ _ _ _).cell (p := ⟨w.heap.size, 0, none⟩) hl4).trans c0', ((below_put4 BL.out (Nat.le_refl _) _ _ _ _).cell (p := ⟨w.heap.size, 1, none⟩) hl4).trans c1', ((below_put4 BL.out (Nat.le_refl _) _ _ _ _).cell (p := ⟨w.heap.size, 2, none⟩) hl4).trans c2', ((below_put4 BL.out (Nat.le_refl _) _ _ _ _).cell (p := ⟨w.heap.size, 3, none⟩) hl4).trans c3'⟩
            | go_keep)
          (first
            | (go_at_call 16; go_must ((first | refine (A3.out _ _ _ _ (HLD.out.below HQA.out) (HR.out.below HQA.out) ((HRW.out _ HQA.out).1 _ (.inr rfl))).mono ?_ | refine (A3.out _ _ _ _ (HLD.out.below HQB.out) (HR.out.below HQB.out) ((HRW.out _ HQB.out).1 _ (.inr rfl))).mono ?_); rintro e wL ⟨⟨pa, pn, pcp, rfl, hrowL⟩, hbL⟩; have BL' : Below w3.heap.size w3 wL := (by first | with_reducible exact HbA.out.trans (hbL.mono (by simp)) | with_reducible exact HbB.out.trans (hbL.mono (by simp))); have hszL := BL'.size; have hLz0 : w.heap.size < wL.heap.size := (by omega); (first | ((with_reducible have yy := HzB.out.below hbL); have YL := Lib.hid yy; obtain ⟨y0, y1, y2, y3, yf0, yf1, yf2, yf3⟩ := yy) | (have YN : True := trivial)); have BL := Lib.hid BL'; have RL := Lib.hid hrowL; clear BL' hrowL hbL)))
        all_goals
          refine hK' _ _ (Met.intro (hJ _ _ ?_))
          (repeat apply Exists.intro)
          refine ⟨?_, rfl⟩
          have hwL := BL.out.size
          unfold AbsCut
          (first
            | (refine ⟨wL.heap.size, pa, pn, pcp, rfl, rfl, rfl, ?_⟩; with_reducible exact ⟨Cells4.new wL _ _ _ _ _, RL.out.alloc _, BL.out.alloc hwL _⟩)
            | (refine ⟨w3.heap.size, pa, pn, pcp, rfl, rfl, rfl, ?_⟩; with_reducible exact ⟨YL.out.put _ _ _ _, RL.out.put4 YL.out slice_ne _ _ _ _, below_put4 BL.out (Nat.le_refl _) _ _ _ _⟩))
      case rest =>
        obtain ⟨b13, pa, pn, pcp, rfl, rfl, rfl, PC, PR, PB⟩ := hcut
        obtain ⟨W5, rfl⟩ : ∃ x, x = wc := ⟨_, rfl⟩
        have HPR := Lib.hid PR
        have B5 := Lib.hid (B3.out.trans (PB.mono B3.out.size))
        have D7d := Lib.hid (D7c.out.below PB)
        have R1d := Lib.hid (R1c.out.below PB)
        clear PR
        go_wp2
        go_cut [16, 17, 18] from 79 to 87 (fun s16 s17 s18 wx => AbsCut W5 cn 0 G s16 s17 s18 wx)
        case first =>
          rename_i J K' hJ hK'
          have hs5 := B5.out.size
          have hl4 := PC.lt
          obtain ⟨d0, d1, d2, d3, _, _, _, _⟩ := PC
          have bA : Below W5.heap.size W5 W5.drew := (Below.refl _ _).drew
          have bB : Below W5.heap.size W5 (W5.alloc (.cells #[.int .i64 0, .slice none 0 0, .int .i64 0, .int .i64 0] 24)).drew := ((Below.refl W5.heap.size W5).alloc (Nat.le_refl _) _).drew
          have zB : Cells4 (W5.alloc (.cells #[.int .i64 0, .slice none 0 0, .int .i64 0, .int .i64 0] 24)).drew W5.heap.size (.int .i64 0) (.slice none 0 0) (.int .i64 0) (.int .i64 0) := (Cells4.new W5 _ _ _ _ 24).below ((Below.refl _ _).drew)
          have HbA := Lib.hid bA
          have HbB := Lib.hid bB
          have HzB := Lib.hid zB
          have HQA := Lib.hid (B5.out.trans (bA.mono hs5))
          have HQB := Lib.hid (B5.out.trans (bB.mono hs5))
          clear bA bB zB
          go_region_held3 (fun w' => w'.cell? ⟨b13, 0, none⟩ = some (.int .i64 P.cols) ∧ w'.cell? ⟨b13, 1, none⟩ = some (.slice pa pn pcp) ∧ w'.cell? ⟨b13, 2, none⟩ = some (.int .i64 P.rws) ∧ w'.cell? ⟨b13, 3, none⟩ = some (.int .i64 P.trn))
            (first
              | with_reducible exact ⟨((BL.out).cell (p := ⟨b13, 0, none⟩) hl4).trans d0, ((BL.out).cell (p := ⟨b13, 1, none⟩) hl4).trans d1, ((BL.out).cell (p := ⟨b13, 2, none⟩) hl4).trans d2, ((BL.out).cell (p := ⟨b13, 3, none⟩) hl4).trans d3⟩
              | with_reducible exact ⟨((BL.out.alloc BL.out.size _).cell (p := ⟨b13, 0, none⟩) hl4).trans d0, ((BL.out.alloc BL.out.size _).cell (p := ⟨b13, 1, none⟩) hl4).trans d1, ((BL.out.alloc BL.out.size _).cell (p := ⟨b13, 2, none⟩) hl4).trans d2, ((BL.out.alloc BL.out.size _).cell (p := ⟨b13, 3, none⟩) hl4).trans d3⟩
              | with_reducible exact ⟨((HbB.out).cell (p := ⟨b13, 0, none⟩) hl4).trans d0, ((HbB.out).cell (p := ⟨b13, 1, none⟩) hl4).trans d1, ((HbB.out).cell (p := ⟨b13, 2, none⟩) hl4).trans d2, ((HbB.out).cell (p := ⟨b13, 3, none⟩) hl4).trans d3⟩
              | with_reducible exact ⟨((HbA.out).cell (p := ⟨b13, 0, none⟩) hl4).trans d0, ((HbA.out).cell (p := ⟨b13, 1, none⟩) hl4).trans d1, ((HbA.out).cell (p := ⟨b13, 2, none⟩) hl4).trans d2, ((HbA.out).cell (p := ⟨b13, 3, none⟩) hl4).trans d3⟩
              | with_reducible exact ⟨((below_put4 BL.out (Nat.le_refl _) _ _ _ _).cell (p := ⟨b13, 0, none⟩) hl4).trans d0, ((below_put4 BL.out (Nat.le_refl _) _ _ _ _).cell (p := ⟨b13, 1, none⟩) hl4).trans d1, ((below_put4 BL.out (Nat.le_refl _) _ _ _ _).cell (p := ⟨b13, 2, none⟩) hl4).trans d2, ((below_put4 BL.out (Nat.le_refl _) _ _ _ _).cell (p := ⟨b13, 3, none⟩) hl4).trans d3⟩
              | go_keep)
            (first
              | (go_at_call 16; go_must ((first | refine (A4.out _ _ _ _ _ _ _ (HLD.out.below HQA.out) (HPR.out.below HbA.out) ((HRW.out _ HQA.out).2.1 _ _ _ rfl (.inr rfl))).mono ?_ | refine (A4.out _ _ _ _ _ _ _ (HLD.out.below HQB.out) (HPR.out.below HbB.out) ((HRW.out _ HQB.out).2.1 _ _ _ rfl (.inr rfl))).mono ?_); rintro e wL ⟨⟨qa, qn, qcp, rfl, hrowL⟩, hbL⟩; have BL' : Below W5.heap.size W5 wL := (by first | with_reducible exact HbA.out.trans (hbL.mono (by simp)) | with_reducible exact HbB.out.trans (hbL.mono (by simp))); have hszL := BL'.size; have hLz0 : b13 < wL.heap.size := (by omega); (first | ((with_reducible have yy := HzB.out.below hbL); have YL := Lib.hid yy; obtain ⟨y0, y1, y2, y3, yf0, yf1, yf2, yf3⟩ := yy) | (have YN : True := trivial)); have BL := Lib.hid BL'; have RL := Lib.hid hrowL; clear BL' hrowL hbL)))
          all_goals
            refine hK' _ _ (Met.intro (hJ _ _ ?_))
            (repeat apply Exists.intro)
            refine ⟨?_, rfl⟩
            have hwL := BL.out.size
            unfold AbsCut
            (first
              | (refine ⟨wL.heap.size, qa, qn, qcp, rfl, rfl, rfl, ?_⟩; with_reducible exact ⟨Cells4.new wL _ _ _ _ _, RL.out.alloc _, BL.out.alloc hwL _⟩)
              | (refine ⟨W5.heap.size, qa, qn, qcp, rfl, rfl, rfl, ?_⟩; with_reducible exact ⟨YL.out.put _ _ _ _, RL.out.put4 YL.out slice_ne _ _ _ _, below_put4 BL.out (Nat.le_refl _) _ _ _ _⟩))
        case rest =>
          obtain ⟨b16, qa, qn, qcp, rfl, rfl, rfl, QC, QR, QB⟩ := hcut
          obtain ⟨W7, rfl⟩ : ∃ x, x = wc := ⟨_, rfl⟩
          have B7 := Lib.hid (B5.out.trans (QB.mono B5.out.size))
          have HQR := Lib.hid QR
          have R1e := Lib.hid (R1d.out.below QB)
          obtain ⟨d0, d1, d2, d3, _, _, _, _⟩ := QC
          obtain ⟨e0, e1, e2, e3, _, _, _, _⟩ := D7d.out.below QB
          clear QR PC c0 c1 c2 c3
          go_wp2_with (first
            | (go_at_call 12; go_must (refine (rsame7_calls G qa ga qn gn qcp gcp _ HQR.out R1e.out).mono ?_; rintro e w5 ⟨rfl, hb5⟩; have B8 := Lib.hid (B7.out.trans (hb5.mono B7.out.size)); have hz8 := B8.out.size))
            | (go_at_call 9; refine (live11_calls _ a0 a1 a2 (HLD.out.below (B8.out))).mono ?_; rintro e w6 ⟨rfl, hb6⟩))
          go_ret
          exact ⟨by simp, B8.out.trans (hb6.mono hz8)⟩
end Go.Proofs.YtfohknalldelfaaDoor
