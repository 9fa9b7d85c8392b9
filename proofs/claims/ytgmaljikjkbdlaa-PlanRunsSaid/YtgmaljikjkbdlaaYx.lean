/- The statement PlanRuns, walked. -/
import Derived.Test.YtgmaljikjkbdlaaYu
import Derived.Test.YtgmaljikjkbdlaaLdP
namespace Go.Proofs.Ytgmaljikjkbdlaa
open Go.RowKit Lv Go.Shelf
open Ieee (double Format Datum Toward)
attribute [local go_sem] Oper.semAt_some run_store_float drewN_alloc drewN_setCell

set_option maxRecDepth 100000 in
set_option maxHeartbeats 4000000 in
theorem planRuns_walk (w : World) (l : List Int) (a : Option Addr) (n cap : Nat) (hl : LI w (.slice a n cap) l) (Fs : List FacD) (t : Option Addr) (tn tc : Nat) (hs : Fcs w (.slice t tn tc) Fs)
    (rs : List Int) (ra : Option Addr) (rn rc : Nat) (hr : LI w (.slice ra rn rc) rs) (ts : List Int) (ta : Option Addr) (tm td : Nat) (ht : LI w (.slice ta tm td) ts) :
    Calls Try.prog 4 #[.slice a n cap, .slice t tn tc, .agg #[.slice ra rn rc, .slice ta tm td]] w fun e w' => e = .returned (.bool true) ∧ Below w.heap.size w w' := by
  obtain ⟨l1, l2, l3⟩ := hl.len
  have H := Lib.hid hl
  have HS := Lib.hid hs
  have HC := Lib.hid (And.intro hr ht)
  have B0 := Lib.hid ((Below.refl w.heap.size w).alloc (Nat.le_refl _) (.cells #[.slice ra rn rc, .slice ta tm td] 32))
  have D0 := Lib.hid (Cells2.new w (.slice ra rn rc) (.slice ta tm td) 32)
  obtain ⟨d0, d1, _, _⟩ := D0.out
  have HF := Lib.hid (fun W h => rfew_calls t tn tc 8 Fs W h)
  have z0 : w.heap.size < (w.alloc (.cells #[.slice ra rn rc, .slice ta tm td] 32)).heap.size := by simp
  by_cases c1 : 30 < n
  · have h1 : (30 : Int) < (n : Int) := by omega
    clear hl hs hr ht l1
    go_enter Try.func4, Try.ntmps4
    go_wp2_with (first | (go_at_call 8; refine (live14_calls _).mono ?_; rintro e w1 ⟨rfl, hb⟩))
    go_ret
    exact ⟨rfl, B0.out.trans (hb.mono B0.out.size)⟩
  · have h1 : ¬ (30 : Int) < (n : Int) := by omega
    have HL := Lib.hid (show l.length ≤ 100 by omega)
    cases hf : fewF Fs 8
    · rw [hf] at HF
      clear hl hs hr ht l1 hf
      go_enter Try.func4, Try.ntmps4
      go_wp2_with (first | (go_at_call 22; refine (HF.out _ (HS.out.below B0.out)).mono ?_; rintro e w1 ⟨rfl, rfl⟩) | (go_at_call 8; refine (live14_calls _).mono ?_; rintro e w1 ⟨rfl, hb⟩))
      go_ret
      exact ⟨rfl, B0.out.trans (hb.mono B0.out.size)⟩
    · rw [hf] at HF
      by_cases c2 : 20 < rn
      · have h2 : (20 : Int) < (rn : Int) := by omega
        clear hl hs hr ht l1 hf
        go_enter Try.func4, Try.ntmps4
        go_wp2_with (first | (go_at_call 22; refine (HF.out _ (HS.out.below B0.out)).mono ?_; rintro e w1 ⟨rfl, rfl⟩) | (go_at_call 8; refine (live14_calls _).mono ?_; rintro e w1 ⟨rfl, hb⟩))
        go_ret
        exact ⟨rfl, B0.out.trans (hb.mono B0.out.size)⟩
      · have h2 : ¬ (20 : Int) < (rn : Int) := by omega
        by_cases c3 : 20 < tm
        · have h3 : (20 : Int) < (tm : Int) := by omega
          clear hl hs hr ht l1 hf
          go_enter Try.func4, Try.ntmps4
          go_wp2_with (first | (go_at_call 22; refine (HF.out _ (HS.out.below B0.out)).mono ?_; rintro e w1 ⟨rfl, rfl⟩) | (go_at_call 8; refine (live14_calls _).mono ?_; rintro e w1 ⟨rfl, hb⟩))
          go_ret
          exact ⟨rfl, B0.out.trans (hb.mono B0.out.size)⟩
        · have h3 : ¬ (20 : Int) < (tm : Int) := by omega
          obtain ⟨C, hC⟩ : ∃ C, Int.tmod (rn : Int) 8 = C := ⟨_, rfl⟩
          have A1 := Lib.hid (fun W h h' => prun_calls l a n cap Fs t tn tc W h HL.out h')
          have A2 := Lib.hid (fun W h h' => rprun_calls l a n cap Fs t tn tc W h HL.out h')
          have A3 := Lib.hid (fun W h h' h'' => pcounts_calls l a n cap C rs ts ra ta rn rc tm td W h HL.out h' h'')
          have A4 := Lib.hid (fun W h h' h'' => rpcounts_calls l a n cap C rs ts ra ta rn rc tm td W h HL.out h' h'')
          clear hl hs hr ht l1 hf
          generalize runD l Fs = G at *
          generalize countsD l C rs ts = D at *
          obtain ⟨G, ge⟩ := G
          obtain ⟨⟨e1, e2⟩, e3⟩ := D
          have q0 : (ge == ge) = true := by simp
          have q1 : (e1 == e1) = true := by simp
          have q2 : (e2 == e2) = true := by simp
          have q3 : (e3 == e3) = true := by simp
          go_enter Try.func4, Try.ntmps4
          go_wp2_with (first
            | (go_at_call 22; refine (HF.out _ (HS.out.below B0.out)).mono ?_; rintro e w1 ⟨rfl, rfl⟩)
            | (go_at_call 23; go_must (refine (A1.out _ (H.out.below B0.out) (HS.out.below B0.out)).mono ?_; rintro e w1 ⟨⟨ga, gn, gcp, rfl, hr1⟩, hb1⟩; have B1 := Lib.hid (B0.out.trans (hb1.mono B0.out.size)); have R1 := Lib.hid hr1; have E1 := Lib.hid (D0.out.below hb1); have hz1 := hb1.size; simp at hz1; clear hr1 hb1))
            | (go_at_call 24; go_must (refine (A2.out _ ((H.out.below B1.out).below ((Below.refl _ _).alloc (Nat.le_refl _) _)) ((HS.out.below B1.out).below ((Below.refl _ _).alloc (Nat.le_refl _) _))).mono ?_; rintro e w2 ⟨⟨ka, kn, kcp, rfl, hr2⟩, hb2⟩; have B2 := Lib.hid ((B1.out.alloc B1.out.size (.cells #[.int .i64 G.cols, .slice ga gn gcp, .int .i64 G.rws, .int .i64 G.trn] 36)).trans (hb2.mono (by have := B1.out.size; simp; omega))); have R1b := Lib.hid ((R1.out.alloc (.cells #[.int .i64 G.cols, .slice ga gn gcp, .int .i64 G.rws, .int .i64 G.trn] 36)).below hb2); have R2 := Lib.hid hr2; have D7 := Lib.hid ((Cells4.new w1 (.int .i64 G.cols) (.slice ga gn gcp) (.int .i64 G.rws) (.int .i64 G.trn) 36).below hb2); have E2 := Lib.hid ((E1.out.alloc (.cells #[.int .i64 G.cols, .slice ga gn gcp, .int .i64 G.rws, .int .i64 G.trn] 36)).below hb2); have E3 := E2.out.alloc (.cells #[.int .i64 G.cols, .slice ka kn kcp, .int .i64 G.rws, .int .i64 G.trn] 36); obtain ⟨f0, f1, _, _⟩ := E3; have hz2 := hb2.size; simp at hz2; clear hr2 hb2))
            | (go_at_call 25; go_must (refine (A3.out _ ((H.out.below B2.out).below ((Below.refl _ _).alloc (Nat.le_refl _) _)) ((HC.out.1.below B2.out).below ((Below.refl _ _).alloc (Nat.le_refl _) _)) ((HC.out.2.below B2.out).below ((Below.refl _ _).alloc (Nat.le_refl _) _))).mono ?_; rintro e w3 ⟨rfl, hb3⟩; have B3 := Lib.hid ((B2.out.alloc B2.out.size (.cells #[.int .i64 G.cols, .slice ka kn kcp, .int .i64 G.rws, .int .i64 G.trn] 36)).trans (hb3.mono (by have := B2.out.size; simp; omega))); have D8 := Lib.hid ((D7.out.alloc (.cells #[.int .i64 G.cols, .slice ka kn kcp, .int .i64 G.rws, .int .i64 G.trn] 36)).below hb3); have D9 := Lib.hid ((Cells4.new w2 (.int .i64 G.cols) (.slice ka kn kcp) (.int .i64 G.rws) (.int .i64 G.trn) 36).below hb3); have R1c := Lib.hid ((R1b.out.alloc (.cells #[.int .i64 G.cols, .slice ka kn kcp, .int .i64 G.rws, .int .i64 G.trn] 36)).below hb3); have R2b := Lib.hid ((R2.out.alloc (.cells #[.int .i64 G.cols, .slice ka kn kcp, .int .i64 G.rws, .int .i64 G.trn] 36)).below hb3); have E4 := (E2.out.alloc (.cells #[.int .i64 G.cols, .slice ka kn kcp, .int .i64 G.rws, .int .i64 G.trn] 36)).below hb3; obtain ⟨k0, k1, _, _⟩ := E4; clear hb3))
            | (go_at_call 26; go_must (refine (A4.out _ (H.out.below B3.out) (HC.out.1.below B3.out) (HC.out.2.below B3.out)).mono ?_; rintro e w4 ⟨rfl, hb4⟩; have B4 := Lib.hid (B3.out.trans (hb4.mono B3.out.size)); have D10 := D8.out.below hb4; have D11 := D9.out.below hb4; obtain ⟨m0, m1, m2, m3, _, _, _, _⟩ := D10; obtain ⟨n0, n1, n2, n3, _, _, _, _⟩ := D11; have R1d := Lib.hid (R1c.out.below hb4); have R2c := Lib.hid (R2b.out.below hb4); clear hb4))
            | (go_at_call 27; go_must (refine (rsame7_calls G ga ka gn kn gcp kcp _ R1d.out R2c.out).mono ?_; rintro e w5 ⟨rfl, hb5⟩; have B5 := Lib.hid (B4.out.trans (hb5.mono B4.out.size))))
            | (go_at_call 8; refine (live14_calls _).mono ?_; rintro e w6 ⟨rfl, hb6⟩))
          go_ret
          exact ⟨rfl, B5.out.trans (hb6.mono B5.out.size)⟩
end Go.Proofs.Ytgmaljikjkbdlaa
