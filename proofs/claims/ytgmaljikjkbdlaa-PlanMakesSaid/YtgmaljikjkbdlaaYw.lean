/- The statement PlanMakes, walked. -/
import Derived.Test.YtgmaljikjkbdlaaYv
namespace Go.Proofs.Ytgmaljikjkbdlaa
open Go.RowKit Lv Go.Shelf
open Ieee (double Format Datum Toward)
attribute [local go_sem high] run_maxI run_minI

attribute [local go_sem] Oper.semAt_some run_store_float drewN_alloc drewN_setCell

def idxL (k : Nat) : List Int := (List.range k).map (fun (i : Nat) => (i : Int))
theorem idxL_snoc (k : Nat) : idxL (k + 1) = idxL k ++ [(k : Int)] := by unfold idxL; rw [List.range_succ, List.map_append]; rfl
theorem idxL_len (k : Nat) : (idxL k).length = k := by unfold idxL; simp
theorem pcheck_ten {l : List Int} {s : Int} (h : pcheckD l s ≠ 0) : pcheckD l s = 10 := by
  unfold pcheckD at h ⊢
  split at h
  · exact absurd rfl h
  · rename_i c; rw [if_neg c]
set_option maxRecDepth 100000 in
set_option maxHeartbeats 4000000 in
theorem planMakes_walk (w : World) (n : Int) {p1 : Prop} (_ : p1) :
    Calls Try.prog 5 #[.int .i64 n] w fun e w' => e = .returned (.bool true) ∧ Below w.heap.size w w' := by
  have K7 := Lib.hid (fun W => pleft_calls n W)
  have K9 := Lib.hid (fun W => pright_calls n W)
  have K11 := Lib.hid (fun W => pEven_calls n W)
  by_cases hm : mayP n = true
  · obtain ⟨k, rfl, h1, h8⟩ := mayP_in hm
    have MK := makes_ok k h8 h1
    unfold makesOk at MK
    simp only [Bool.and_eq_true, decide_eq_true_eq] at MK
    obtain ⟨⟨⟨⟨⟨⟨⟨⟨⟨⟨⟨⟨⟨m1, m2⟩, m3⟩, m4⟩, m5⟩, m6⟩, m7⟩, m8⟩, m9⟩, m10⟩, m11⟩, m12⟩, m13⟩, m14⟩ := MK
    have m4 := pcheck_ten m4
    rw [show leftD (k : Int) = leftL k by unfold leftD; rw [if_pos hm, Int.toNat_natCast]] at K7
    rw [show rightD (k : Int) = rightL k by unfold rightD; rw [if_pos hm, Int.toNat_natCast]] at K9
    rw [show evenD (k : Int) = evenF 4 0 k by unfold evenD; rw [if_pos hm, Int.toNat_natCast]] at K11
    generalize leftL k = ll at *
    generalize rightL k = rl at *
    generalize evenF 4 0 k = el at *
    have c1 : ¬ (k : Int) < 1 := by omega
    have c2 : ¬ 8 < (k : Int) := by omega
    have LN := Lib.hid (And.intro m12 (And.intro m13 m14))
    have C1 := Lib.hid (fun a n cap W h => show Calls Try.prog 9 #[.slice a n cap, .int .i64 (k : Int)] W _ by have := pcheck_calls a n cap (k : Int) ll W h (by omega); rw [m1] at this; exact this)
    have C2 := Lib.hid (fun a n cap W h => show Calls Try.prog 9 #[.slice a n cap, .int .i64 (k : Int)] W _ by have := pcheck_calls a n cap (k : Int) rl W h (by omega); rw [m2] at this; exact this)
    have C3 := Lib.hid (fun a n cap W h => show Calls Try.prog 9 #[.slice a n cap, .int .i64 (k : Int)] W _ by have := pcheck_calls a n cap (k : Int) el W h (by omega); rw [m3] at this; exact this)
    have C4 := Lib.hid (fun a n cap W h => show Calls Try.prog 9 #[.slice a n cap, .int .i64 ((k : Int) - 1)] W _ by have := pcheck_calls a n cap ((k : Int) - 1) ll W h (by omega); rw [m4] at this; exact this)
    have O1 := Lib.hid (fun a n cap W h => show Calls Try.prog 12 #[.slice a n cap] W _ by have := porder_calls a n cap ll W h (by omega); rw [show orderD ll = idxL k from m5] at this; exact this)
    have O2 := Lib.hid (fun a n cap W h => show Calls Try.prog 12 #[.slice a n cap] W _ by have := porder_calls a n cap rl W h (by omega); rw [show orderD rl = idxL k from m6] at this; exact this)
    have O3 := Lib.hid (fun a n cap W h => show Calls Try.prog 12 #[.slice a n cap] W _ by have := porder_calls a n cap el W h (by omega); rw [show orderD el = idxL k from m7] at this; exact this)
    have H1 := Lib.hid (fun a n cap W h => show Calls Try.prog 14 #[.slice a n cap] W _ by have := pheight_calls a n cap ll W h (by omega); rw [m8] at this; exact this)
    have H2 := Lib.hid (fun a n cap W h => show Calls Try.prog 14 #[.slice a n cap] W _ by have := pheight_calls a n cap rl W h (by omega); rw [m9] at this; exact this)
    have H3 := Lib.hid (fun a n cap W h => pheight_calls a n cap el W h (by omega))
    have RI := Lib.hid (fun (zs : List Int) a b n c m d W h h' => show Calls Try.prog 11 #[.slice a n c, .slice b m d] W fun e w' => e = .returned (.bool true) ∧ Below W.heap.size W w' by have := rints_calls a b n c m d zs zs W h h'; rw [decide_eq_true rfl] at this; exact this)
    generalize heightD el = he at *
    have i12 : ((ll.length : Int) == 2 * (k : Int) - 1) = true := by simp; omega
    have i13 : ((rl.length : Int) == 2 * (k : Int) - 1) = true := by simp; omega
    have i14 : ((el.length : Int) == 2 * (k : Int) - 1) = true := by simp; omega
    clear m1 m2 m3 m4 m5 m6 m7 m8 m9 m12 m13 m14 hm
    have hw2 : IntKind.i64.wrap (2 * (k : Int)) = 2 * (k : Int) := IntWalk.i64_in _ (by omega)
    go_enter Try.func5, Try.ntmps5
    go_wp2_with (first
      | (go_at_call 16; go_must (refine (K7.out _).mono ?_; rintro e w8 ⟨⟨v8, rfl, hv8⟩, hb⟩; obtain ⟨a8, c8, rfl⟩ := hv8.form; have V8 := Lib.hid hv8; have B8 := Lib.hid hb; clear hb hv8))
      | (go_at_call 18; go_must (refine (K9.out _).mono ?_; rintro e w11 ⟨⟨v11, rfl, hv11⟩, hb⟩; obtain ⟨a11, c11, rfl⟩ := hv11.form; have V11 := Lib.hid hv11; have V8b := Lib.hid (V8.out.below hb); have B11 := Lib.hid (B8.out.trans (hb.mono B8.out.size)); clear hb hv11))
      | (go_at_call 20; go_must (refine (K11.out _).mono ?_; rintro e w14 ⟨⟨v14, rfl, hv14⟩, hb⟩; obtain ⟨a14, c14, rfl⟩ := hv14.form; have V14 := Lib.hid hv14; have V8c := Lib.hid (V8b.out.below hb); have V11b := Lib.hid (V11.out.below hb); have B14 := Lib.hid (B11.out.trans (hb.mono B11.out.size)); clear hb hv14)))
    go_loopw [6, 7] (fun s6 s7 wr => ∃ i : Nat, s7 = .int .i64 (i : Int) ∧ i ≤ k ∧ Hid (OwnI wr w14.heap.size s6 (idxL i) ∧ Below w14.heap.size w14 wr)) (fun _ s7 _ => k - (intOf s7).toNat)
    case atStart => exact ⟨0, rfl, Nat.zero_le _, ownI_nil _ _, Below.refl _ _⟩
    case round =>
      obtain ⟨i, rfl, hi, HR⟩ := hrel
      by_cases hlt : i < k
      · have hii : (i : Int) < (k : Int) := by omega
        have hsz := Lib.hid HR.out.2.size
        have hlen : Hid ((idxL i).length + 1 ≤ 1000) := by unfold Hid; rw [idxL_len]; omega
        have HB := Lib.hid (fun e (he : u6.ownBlock = some e) => HR.out.1.base e he)
        go_wp2_with (at_builtin; go_must (refine wpList_append_I _ rfl _ _ rfl w14.heap.size _ _ [_] rfl (HR.out.1.below ((Below.refl _ _).alloc (Nat.le_refl _) _) (Nat.le_refl _)) _ _ _ rfl (li_one' (by simp)) hlen.out (by have := hsz.out; simp; omega) ?_; intro v9 w3 hown9 hg9))
        have hBf : Below w14.heap.size w14 w3 := (HR.out.2.alloc hsz.out _).grown hg9 (by have := hsz.out; simp; omega) HB.out
        go_roundw
        case rel => exact ⟨i + 1, by go_num, by omega, by rw [idxL_snoc]; exact hown9, hBf⟩
        case measure => simp [intOf]; omega
      · have hii : ¬ (i : Int) < (k : Int) := by omega
        obtain rfl : i = k := by omega
        have VI := Lib.hid HR.out.1.li
        obtain ⟨a6, c6, rfl⟩ := VI.out.form
        rw [idxL_len] at VI HR
        rw [idxL_len]
        have BW := Lib.hid (B14.out.trans (HR.out.2.mono B14.out.size))
        have V8 := Lib.hid (V8c.out.below HR.out.2)
        have V11 := Lib.hid (V11b.out.below HR.out.2)
        have V14 := Lib.hid (V14.out.below HR.out.2)
        clear hlt hii HR h1 h8
        go_wp2_with (first
          | (go_at_call 9; refine (C4.out a8 _ c8 _ (V8.out.below X3.out)).mono ?_; rintro e wX4 ⟨rfl, hb⟩; have X4 := Lib.hid (X3.out.trans (hb.mono X3.out.size)); clear hb)
          | (go_at_call 9; refine (C3.out a14 _ c14 _ (V14.out.below X2.out)).mono ?_; rintro e wX3 ⟨rfl, hb⟩; have X3 := Lib.hid (X2.out.trans (hb.mono X2.out.size)); clear hb)
          | (go_at_call 9; refine (C2.out a11 _ c11 _ (V11.out.below X1.out)).mono ?_; rintro e wX2 ⟨rfl, hb⟩; have X2 := Lib.hid (X1.out.trans (hb.mono X1.out.size)); clear hb)
          | (go_at_call 9; go_must (refine (C1.out a8 _ c8 _ V8.out).mono ?_; rintro e wX1 ⟨rfl, hb⟩; have X1 := Lib.hid (hb); clear hb))
          | (go_at_call 12; refine (O3.out a14 _ c14 _ (V14.out.below X8.out)).mono ?_; rintro e wX9 ⟨⟨vq, rfl, hvq⟩, hb⟩; obtain ⟨aq, cq, rfl⟩ := hvq.form; rw [idxL_len] at hvq ⊢; have VQX9 := Lib.hid (And.intro hvq trivial); have X9 := Lib.hid (X8.out.trans (hb.mono X8.out.size)); clear hb hvq)
          | (go_at_call 12; refine (O2.out a11 _ c11 _ (V11.out.below X6.out)).mono ?_; rintro e wX7 ⟨⟨vq, rfl, hvq⟩, hb⟩; obtain ⟨aq, cq, rfl⟩ := hvq.form; rw [idxL_len] at hvq ⊢; have VQX7 := Lib.hid (And.intro hvq trivial); have X7 := Lib.hid (X6.out.trans (hb.mono X6.out.size)); clear hb hvq)
          | (go_at_call 12; go_must (refine (O1.out a8 _ c8 _ (V8.out.below X4.out)).mono ?_; rintro e wX5 ⟨⟨vq, rfl, hvq⟩, hb⟩; obtain ⟨aq, cq, rfl⟩ := hvq.form; rw [idxL_len] at hvq ⊢; have VQX5 := Lib.hid (And.intro hvq trivial); have X5 := Lib.hid (X4.out.trans (hb.mono X4.out.size)); clear hb hvq))
          | (go_at_call 11; refine (RI.out (idxL i) _ a6 _ _ _ c6 _ VQX9.out.1 (VI.out.below X9.out)).mono ?_; rintro e wX10 ⟨rfl, hb⟩; have X10 := Lib.hid (X9.out.trans (hb.mono X9.out.size)); clear hb)
          | (go_at_call 11; refine (RI.out (idxL i) _ a6 _ _ _ c6 _ VQX7.out.1 (VI.out.below X7.out)).mono ?_; rintro e wX8 ⟨rfl, hb⟩; have X8 := Lib.hid (X7.out.trans (hb.mono X7.out.size)); clear hb)
          | (go_at_call 11; go_must (refine (RI.out (idxL i) _ a6 _ _ _ c6 _ VQX5.out.1 (VI.out.below X5.out)).mono ?_; rintro e wX6 ⟨rfl, hb⟩; have X6 := Lib.hid (X5.out.trans (hb.mono X5.out.size)); clear hb))
          | (go_at_call 14; refine (H3.out a14 _ c14 _ (V14.out.below X13.out)).mono ?_; rintro e wX14 ⟨rfl, hb⟩; have X14 := Lib.hid (X13.out.trans (hb.mono X13.out.size)); clear hb)
          | (go_at_call 14; refine (H3.out a14 _ c14 _ (V14.out.below X12.out)).mono ?_; rintro e wX13 ⟨rfl, hb⟩; have X13 := Lib.hid (X12.out.trans (hb.mono X12.out.size)); clear hb)
          | (go_at_call 14; refine (H2.out a11 _ c11 _ (V11.out.below X11.out)).mono ?_; rintro e wX12 ⟨rfl, hb⟩; have X12 := Lib.hid (X11.out.trans (hb.mono X11.out.size)); clear hb)
          | (go_at_call 14; go_must (refine (H1.out a8 _ c8 _ (V8.out.below X10.out)).mono ?_; rintro e wX11 ⟨rfl, hb⟩; have X11 := Lib.hid (X10.out.trans (hb.mono X10.out.size)); clear hb))
          | (go_at_call 8; refine (live14_calls _).mono ?_; rintro e w17 ⟨rfl, hb⟩))
        go_ret
        exact ⟨rfl, BW.out.trans ((X14.out.trans (hb.mono X14.out.size)).mono BW.out.size)⟩
  · have e1 : leftD n = [] := by unfold leftD; rw [if_neg hm]
    have e2 : rightD n = [] := by unfold rightD; rw [if_neg hm]
    have e3 : evenD n = [] := by unfold evenD; rw [if_neg hm]
    rw [e1] at K7
    rw [e2] at K9
    rw [e3] at K11
    have hn := mayP_not hm
    clear e1 e2 e3 hm
    rcases hn with c1 | ⟨c1, c2⟩
    all_goals
      go_enter Try.func5, Try.ntmps5
      go_wp2_with (first
        | (go_at_call 16; go_must (refine (K7.out _).mono ?_; rintro e w8 ⟨⟨v8, rfl, hv8⟩, hb⟩; obtain ⟨a8, c8, rfl⟩ := hv8.form; have B8 := Lib.hid hb; clear hb hv8))
        | (go_at_call 18; go_must (refine (K9.out _).mono ?_; rintro e w11 ⟨⟨v11, rfl, hv11⟩, hb⟩; obtain ⟨a11, c11, rfl⟩ := hv11.form; have B11 := Lib.hid (B8.out.trans (hb.mono B8.out.size)); clear hb hv11))
        | (go_at_call 20; go_must (refine (K11.out _).mono ?_; rintro e w14 ⟨⟨v14, rfl, hv14⟩, hb⟩; obtain ⟨a14, c14, rfl⟩ := hv14.form; have B14 := Lib.hid (B11.out.trans (hb.mono B11.out.size)); clear hb hv14))
        | (go_at_call 8; refine (live14_calls _).mono ?_; rintro e w17 ⟨rfl, hb⟩))
      go_ret
      exact ⟨rfl, B14.out.trans (hb.mono B14.out.size)⟩
end Go.Proofs.Ytgmaljikjkbdlaa
