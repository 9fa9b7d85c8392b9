/- The statements PlanLeft and PlanTells, walked. -/
import Derived.Test.YtgmaljikjkbdlaaYu
import Derived.Test.YtgmaljikjkbdlaaLdP
namespace Go.Proofs.Ytgmaljikjkbdlaa
open Go.RowKit Lv Go.Shelf
open Ieee (double Format Datum Toward)
attribute [local go_sem] Oper.semAt_some run_store_float drewN_alloc drewN_setCell

theorem mayP_in {n : Int} (h : mayP n = true) : ∃ k : Nat, n = (k : Int) ∧ 1 ≤ k ∧ k < 9 := by
  unfold mayP at h
  simp only [Bool.and_eq_true, decide_eq_true_eq] at h
  exact ⟨n.toNat, by omega, by omega, by omega⟩
theorem leftD_len (n : Int) : (leftD n).length ≤ 100 := by
  unfold leftD
  split
  · rename_i h
    obtain ⟨k, rfl, h1, h8⟩ := mayP_in h
    have := makes_ok k h8 h1
    unfold makesOk at this
    simp only [Bool.and_eq_true, decide_eq_true_eq] at this
    rw [Int.toNat_natCast, this.1.1.2]
    omega
  · simp
theorem few_len {Fs : List FacD} {k : Nat} (h : fewF Fs k = true) : Fs.length ≤ k := by
  unfold fewF at h
  simp only [Bool.and_eq_true, decide_eq_true_eq] at h
  exact h.1
set_option maxRecDepth 100000 in
set_option maxHeartbeats 2000000 in
theorem planLeft_walk (w : World) (Fs : List FacD) (t : Option Addr) (tn tc : Nat) (hl : Fcs w (.slice t tn tc) Fs) :
    Calls Try.prog 7 #[.slice t tn tc] w fun e w' => e = .returned (.bool true) ∧ Below w.heap.size w w' := by
  obtain ⟨hn1, hn2, hn3⟩ := hl.len
  have HF := Lib.hid (rfew_calls t tn tc 8 Fs w hl)
  have HL := Lib.hid hl
  cases hf : fewF Fs 8
  · rw [hf] at HF
    clear hf hl hn1
    go_enter Try.func7, Try.ntmps7
    go_wp2_with (first | (go_at_call 22; refine HF.out.mono ?_; rintro e w1 ⟨rfl, rfl⟩) | (go_at_call 8; refine (live14_calls _).mono ?_; rintro e w1 ⟨rfl, hb⟩))
    go_ret
    exact ⟨rfl, hb⟩
  · rw [hf] at HF
    have h8 := few_len hf
    clear hf
    by_cases h0 : tn = 0
    · have hz : ((tn : Int) == 0) = true := by simp; omega
      clear hl hn1 h0
      go_enter Try.func7, Try.ntmps7
      go_wp2_with (first | (go_at_call 22; refine HF.out.mono ?_; rintro e w1 ⟨rfl, rfl⟩) | (go_at_call 8; refine (live14_calls _).mono ?_; rintro e w1 ⟨rfl, hb⟩))
      go_ret
      exact ⟨rfl, hb⟩
    · have hz : ((tn : Int) == 0) = false := by simp; omega
      subst hn1
      have HR := Lib.hid (run_left (Fs := Fs) (by omega) (by omega))
      have A1 := Lib.hid (fun a n c W h h' => prun_calls (leftD Fs.length) a n c Fs t Fs.length tc W h (leftD_len _) h')
      rw [HR.out] at A1
      have A2 := Lib.hid (fun W h => mall_calls t Fs.length tc Fs W h)
      have HLL := Lib.hid (fun W => pleft_calls (Fs.length : Int) W)
      clear hl h0 h8 HR
      generalize mallD Fs = G at *
      generalize leftD (Fs.length : Int) = ll at *
      obtain ⟨G, ge⟩ := G
      have hee : (ge == ge) = true := by simp
      go_enter Try.func7, Try.ntmps7
      go_wp2_with (first
        | (go_at_call 22; refine HF.out.mono ?_; rintro e w1 ⟨rfl, rfl⟩)
        | (go_at_call 16; go_must (refine (HLL.out _).mono ?_; rintro e w0 ⟨⟨v, rfl, hv⟩, hb0⟩; obtain ⟨la, lc, rfl⟩ := hv.form; have HV := Lib.hid hv; have B0 := Lib.hid hb0; clear hv hb0))
        | (go_at_call 23; go_must (refine (A1.out _ _ _ _ HV.out (HL.out.below B0.out)).mono ?_; rintro e w1 ⟨⟨ga, gn, gcp, rfl, hr1⟩, hb1⟩; have B1 := Lib.hid (B0.out.trans (hb1.mono B0.out.size)); have R1 := Lib.hid hr1; have hz1 := B1.out.size; clear hr1 hb1))
        | (go_at_call 29; go_must (refine (A2.out _ ((HL.out.below B1.out).below ((Below.refl _ _).alloc (Nat.le_refl _) _))).mono ?_; rintro e w2 ⟨⟨ka, kn, kcp, rfl, hr2⟩, hb2⟩; have B2 := Lib.hid ((B1.out.alloc hz1 (.cells #[.int .i64 G.cols, .slice ga gn gcp, .int .i64 G.rws, .int .i64 G.trn] 36)).trans (hb2.mono (by simp; omega))); have R1b := Lib.hid ((R1.out.alloc (.cells #[.int .i64 G.cols, .slice ga gn gcp, .int .i64 G.rws, .int .i64 G.trn] 36)).below hb2); have R2 := Lib.hid hr2; have D7 := (Cells4.new w1 (.int .i64 G.cols) (.slice ga gn gcp) (.int .i64 G.rws) (.int .i64 G.trn) 36).below hb2; obtain ⟨c0, c1, c2, c3, _, _, _, _⟩ := D7; have hz2 := hb2.size; simp at hz2; have hx2 : w1.heap.size < w2.heap.size := (by omega); clear hr2 hb2))
        | (go_at_call 27; go_must (refine (rsame7_calls G ga ka gn kn gcp kcp _ (R1b.out.alloc _) (R2.out.alloc _)).mono ?_; rintro e w3 ⟨rfl, hb3⟩; have B3 := Lib.hid ((B2.out.alloc (by omega) (.cells #[.int .i64 G.cols, .slice ka kn kcp, .int .i64 G.rws, .int .i64 G.trn] 36)).trans (hb3.mono (by simp; omega))); have hz3 := hb3.size; simp at hz3))
        | (go_at_call 8; refine (live14_calls _).mono ?_; rintro e w6 ⟨rfl, hb6⟩))
      go_ret
      exact ⟨by simp, B3.out.trans (hb6.mono (by omega))⟩

set_option maxRecDepth 100000 in
set_option maxHeartbeats 2000000 in
theorem planTells_walk (w : World) (l : List Int) (a : Option Addr) (n cap : Nat) (hl : LI w (.slice a n cap) l) (sh : Int) {p1 : Prop} (_ : p1) (m : Int) {p2 : Prop} (_ : p2) :
    Calls Try.prog 3 #[.slice a n cap, .int .i64 sh, .int .i64 m] w fun e w' => e = .returned (.bool true) ∧ Below w.heap.size w w' := by
  obtain ⟨l1, l2, l3⟩ := hl.len
  have H := Lib.hid hl
  by_cases h60 : 60 < n
  · have h60i : (60 : Int) < (n : Int) := by omega
    clear hl l1
    go_enter Try.func3, Try.ntmps3
    go_wp2_with (go_at_call 8; refine (live14_calls _).mono ?_; rintro e w1 ⟨rfl, hb⟩)
    go_ret
    exact ⟨rfl, hb⟩
  · have h60i : ¬ (60 : Int) < (n : Int) := by omega
    have HL := Lib.hid (show l.length ≤ 100 by omega)
    clear hl l1
    have K1 := Lib.hid (fun W h => pcheck_calls a n cap sh l W h HL.out)
    have K2 := Lib.hid (fun W h => rpcheck_calls a n cap sh l W h HL.out)
    generalize pcheckD l sh = pc at *
    have K3 := Lib.hid (fun W h => porder_calls a n cap l W h HL.out)
    have K4 := Lib.hid (fun W h => rporder_calls a n cap l W h HL.out)
    generalize orderD l = od at *
    have K5 := Lib.hid (fun W h => pheight_calls a n cap l W h HL.out)
    have K6 := Lib.hid (fun W h => rpheight_calls a n cap l W h HL.out)
    generalize heightD l = hd at *
    have K7 := Lib.hid (fun W => pleft_calls m W)
    have K8 := Lib.hid (fun W => rpleft_calls m W)
    generalize leftD m = ld at *
    have K9 := Lib.hid (fun W => pright_calls m W)
    have K10 := Lib.hid (fun W => rpright_calls m W)
    generalize rightD m = rd at *
    have K11 := Lib.hid (fun W => pEven_calls m W)
    have K12 := Lib.hid (fun W => rpEven_calls m W)
    generalize evenD m = ed at *
    have hpp : (pc != pc) = false := by simp
    have hhh : (hd != hd) = false := by simp
    have RI := Lib.hid (fun (zs : List Int) a b n c m d W h h' => show Calls Try.prog 11 #[.slice a n c, .slice b m d] W fun e w' => e = .returned (.bool true) ∧ Below W.heap.size W w' by have := rints_calls a b n c m d zs zs W h h'; rw [decide_eq_true rfl] at this; exact this)
    go_enter Try.func3, Try.ntmps3
    go_wp2_with (first
      | (go_at_call 9; go_must (refine (K1.out _ H.out).mono ?_; rintro e w1 ⟨rfl, hb⟩; have B1 := Lib.hid hb; clear hb))
      | (go_at_call 10; go_must (refine (K2.out _ (H.out.below B1.out)).mono ?_; rintro e w2 ⟨rfl, hb⟩; have B2 := Lib.hid (B1.out.trans (hb.mono B1.out.size)); clear hb))
      | (go_at_call 12; go_must (refine (K3.out _ (H.out.below B2.out)).mono ?_; rintro e w3 ⟨⟨v3, rfl, hv3⟩, hb⟩; obtain ⟨a3, c3, rfl⟩ := hv3.form; have V3 := Lib.hid hv3; have B3 := Lib.hid (B2.out.trans (hb.mono B2.out.size)); clear hb hv3))
      | (go_at_call 13; go_must (refine (K4.out _ (H.out.below B3.out)).mono ?_; rintro e w4 ⟨⟨v4, rfl, hv4⟩, hb⟩; obtain ⟨a4, c4, rfl⟩ := hv4.form; have V4 := Lib.hid hv4; have V3b := Lib.hid (V3.out.below hb); have B4 := Lib.hid (B3.out.trans (hb.mono B3.out.size)); clear hb hv4))
      | (go_at_call 14; go_must (refine (K5.out _ (H.out.below B5.out)).mono ?_; rintro e w6 ⟨rfl, hb⟩; have B6 := Lib.hid (B5.out.trans (hb.mono B5.out.size)); clear hb))
      | (go_at_call 15; go_must (refine (K6.out _ (H.out.below B6.out)).mono ?_; rintro e w7 ⟨rfl, hb⟩; have B7 := Lib.hid (B6.out.trans (hb.mono B6.out.size)); clear hb))
      | (go_at_call 16; go_must (refine (K7.out _).mono ?_; rintro e w8 ⟨⟨v8, rfl, hv8⟩, hb⟩; obtain ⟨a8, c8, rfl⟩ := hv8.form; have V8 := Lib.hid hv8; have B8 := Lib.hid (B7.out.trans (hb.mono B7.out.size)); clear hb hv8))
      | (go_at_call 17; go_must (refine (K8.out _).mono ?_; rintro e w9 ⟨⟨v9, rfl, hv9⟩, hb⟩; obtain ⟨a9, c9, rfl⟩ := hv9.form; have V9 := Lib.hid hv9; have V8b := Lib.hid (V8.out.below hb); have B9 := Lib.hid (B8.out.trans (hb.mono B8.out.size)); clear hb hv9))
      | (go_at_call 18; go_must (refine (K9.out _).mono ?_; rintro e w11 ⟨⟨v11, rfl, hv11⟩, hb⟩; obtain ⟨a11, c11, rfl⟩ := hv11.form; have V11 := Lib.hid hv11; have B11 := Lib.hid (B10.out.trans (hb.mono B10.out.size)); clear hb hv11))
      | (go_at_call 19; go_must (refine (K10.out _).mono ?_; rintro e w12 ⟨⟨v12, rfl, hv12⟩, hb⟩; obtain ⟨a12, c12, rfl⟩ := hv12.form; have V12 := Lib.hid hv12; have V11b := Lib.hid (V11.out.below hb); have B12 := Lib.hid (B11.out.trans (hb.mono B11.out.size)); clear hb hv12))
      | (go_at_call 20; go_must (refine (K11.out _).mono ?_; rintro e w14 ⟨⟨v14, rfl, hv14⟩, hb⟩; obtain ⟨a14, c14, rfl⟩ := hv14.form; have V14 := Lib.hid hv14; have B14 := Lib.hid (B13.out.trans (hb.mono B13.out.size)); clear hb hv14))
      | (go_at_call 21; go_must (refine (K12.out _).mono ?_; rintro e w15 ⟨⟨v15, rfl, hv15⟩, hb⟩; obtain ⟨a15, c15, rfl⟩ := hv15.form; have V15 := Lib.hid hv15; have V14b := Lib.hid (V14.out.below hb); have B15 := Lib.hid (B14.out.trans (hb.mono B14.out.size)); clear hb hv15))
      | (go_at_call 11; refine (RI.out ed a14 a15 _ _ _ _ _ V14b.out V15.out).mono ?_; rintro e w16 ⟨rfl, hb⟩; have B16 := Lib.hid (B15.out.trans (hb.mono B15.out.size)); clear hb)
      | (go_at_call 11; refine (RI.out rd a11 a12 _ _ _ _ _ V11b.out V12.out).mono ?_; rintro e w13 ⟨rfl, hb⟩; have B13 := Lib.hid (B12.out.trans (hb.mono B12.out.size)); clear hb)
      | (go_at_call 11; refine (RI.out ld a8 a9 _ _ _ _ _ V8b.out V9.out).mono ?_; rintro e w10 ⟨rfl, hb⟩; have B10 := Lib.hid (B9.out.trans (hb.mono B9.out.size)); clear hb)
      | (go_at_call 11; go_must (refine (RI.out od a3 a4 _ _ _ _ _ V3b.out V4.out).mono ?_; rintro e w5 ⟨rfl, hb⟩; have B5 := Lib.hid (B4.out.trans (hb.mono B4.out.size)); clear hb))
      | (go_at_call 8; refine (live14_calls _).mono ?_; rintro e w17 ⟨rfl, hb⟩))
    go_ret
    exact ⟨rfl, B16.out.trans (hb.mono B16.out.size)⟩
end Go.Proofs.Ytgmaljikjkbdlaa
