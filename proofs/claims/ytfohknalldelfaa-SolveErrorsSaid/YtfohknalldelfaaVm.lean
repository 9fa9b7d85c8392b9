/- SolveErrors, walked. -/
import Derived.Test.YtfohknalldelfaaVl
namespace Go.Proofs.Ytfohknalldelfaa
open Go.RowKit Lv Go.Shelf
open Ieee (double Format Datum Toward)
attribute [local go_sem] Oper.semAt_some run_store_float drewN_alloc drewN_setCell

theorem answ_codes (ys : List (Option Nat)) : ((answD ys).2 = 0 ∧ (answD ys).1 = ys ∧ ∀ i, i < ys.length → numF (ys.getD i none) = true) ∨ ((answD ys).2 = 2 ∧ (answD ys).1 = []) := by
  unfold answD
  cases h : ys.any (fun x => !numF x)
  · left
    rw [if_neg (by decide)]
    refine ⟨rfl, rfl, fun i hi => ?_⟩
    have := List.any_eq_false.1 h (ys.getD i none) (by rw [List.getD_eq_getElem?_getD, List.getElem?_eq_getElem hi]; exact List.getElem_mem _)
    simpa using this
  · right
    rw [if_pos rfl]
    exact ⟨rfl, rfl⟩
/-- what the answers' errors tell -/
def BkCodes (S : Bool) (c : Nat) (D : List (Option Nat) × Int) : Prop := (S = true ∧ D.2 = 7 ∧ D.1 = []) ∨ (S = false ∧ D.2 = 0 ∧ D.1.length = c ∧ ∀ i, i < D.1.length → numF (D.1.getD i none) = true) ∨ (S = false ∧ D.2 = 2 ∧ D.1 = [])
theorem back_codes {c : Nat} {xs : List (Option Nat)} {rws trn : Int} (hok : checkP (c : Int) xs rws trn = true) : BkCodes (singD xs c) c (backD ⟨(c : Int), xs, rws, trn⟩) := by
  have hk : ¬ (⟨(c : Int), xs, rws, trn⟩ : FacD).ok = false := by rw [show (⟨(c : Int), xs, rws, trn⟩ : FacD).ok = true from hok]; decide
  unfold backD BkCodes
  rw [if_neg hk]
  dsimp only
  rw [Int.toNat_natCast]
  cases hs : singD xs c
  · rw [if_neg (by decide)]
    rcases answ_codes (backT xs c c) with ⟨h1, h2, h3⟩ | ⟨h1, h2⟩
    · exact .inr (.inl ⟨rfl, h1, by rw [h2, backT_len], by rw [h2]; exact h3⟩)
    · exact .inr (.inr ⟨rfl, h1, h2⟩)
  · rw [if_pos rfl]
    exact .inl ⟨rfl, rfl, rfl⟩
def FwCodes (S : Bool) (c m : Nat) (D : List (Option Nat) × Int) : Prop := (m ≠ c ∧ D.2 = 1 ∧ D.1 = []) ∨ (m = c ∧ BkCodes S c D)
theorem forw_codes {c : Nat} {xs vs : List (Option Nat)} {rws trn : Int} (hok : checkP (c : Int) xs rws trn = true) : FwCodes (singD xs c) c vs.length (forwD ⟨(c : Int), xs, rws, trn⟩ vs) := by
  have hk : ¬ (⟨(c : Int), xs, rws, trn⟩ : FacD).ok = false := by rw [show (⟨(c : Int), xs, rws, trn⟩ : FacD).ok = true from hok]; decide
  unfold forwD FwCodes BkCodes
  dsimp only
  by_cases hm : vs.length = c
  · rw [if_neg (by rintro (e | e); exact hk e; exact e (by omega)), Int.toNat_natCast]
    refine .inr ⟨hm, ?_⟩
    cases hs : singD xs c
    · rw [if_neg (by decide)]
      rcases answ_codes (forwT xs c vs c) with ⟨h1, h2, h3⟩ | ⟨h1, h2⟩
      · exact .inr (.inl ⟨rfl, h1, by rw [h2, forwT_len], by rw [h2]; exact h3⟩)
      · exact .inr (.inr ⟨rfl, h1, h2⟩)
    · rw [if_pos rfl]
      exact .inl ⟨rfl, rfl, rfl⟩
  · rw [if_pos (.inr (by omega))]
    exact .inl ⟨hm, rfl, rfl⟩
theorem num_no {b : Nat} {x : Option Nat} (h : FW b x) (hn : numF x = true) : nan b = false ∧ decide (b % 9223372036854775808 = 9218868437227405312) = false := by
  have := wildW_F h
  unfold wildF at this
  rw [hn, Bool.not_true] at this
  unfold wildW at this
  rw [Bool.or_eq_false_iff] at this
  exact this

set_option maxRecDepth 100000 in
set_option maxHeartbeats 8000000 in
theorem solveErrors_walk (w : World) (F : FacD) (a : Option Addr) (n cap : Nat) (h : Row w (.slice a n cap) F.xs) (vs : List (Option Nat)) (b : Option Addr) (m d : Nat) (hv : Row w (.slice b m d) vs) :
    Calls Try.prog 5 #[.agg #[.int .i64 F.cols, .slice a n cap, .int .i64 F.rws, .int .i64 F.trn], .slice b m d] w fun e w' => e = .returned (.bool true) ∧ Below w.heap.size w w' := by
  have hB := (Below.refl w.heap.size w).alloc (Nat.le_refl _) (.cells #[.int .i64 F.cols, .slice a n cap, .int .i64 F.rws, .int .i64 F.trn] 24)
  have HR := Lib.hid h
  have HV := Lib.hid hv
  have HB := Lib.hid hB
  have HC := Lib.hid (Cells4.new w (.int .i64 F.cols) (.slice a n cap) (.int .i64 F.rws) (.int .i64 F.trn) 24)
  by_cases h1 : 60 < n
  · have h1i : (60 : Int) < (n : Int) := by omega
    clear h hv
    go_enter Try.func5, Try.ntmps5
    go_wp2_with (go_at_call 6; refine (live16_calls _).mono ?_; rintro e w6 ⟨rfl, hb6⟩)
    go_ret
    exact ⟨rfl, hB.trans (hb6.mono (by simp))⟩
  have h1i : ¬ (60 : Int) < (n : Int) := by omega
  by_cases h2 : 20 < m
  · have h2i : (20 : Int) < (m : Int) := by omega
    clear h hv
    go_enter Try.func5, Try.ntmps5
    go_wp2_with (go_at_call 6; refine (live16_calls _).mono ?_; rintro e w6 ⟨rfl, hb6⟩)
    go_ret
    exact ⟨rfl, hB.trans (hb6.mono (by simp))⟩
  have h2i : ¬ (20 : Int) < (m : Int) := by omega
  have A1 := Lib.hid (fun W hW => back_calls F a n cap W hW)
  have A2 := Lib.hid (fun W hW hV => forw_calls F a b n cap m d vs W hW hV)
  have CK := Lib.hid (fun W hW => rcheck_calls F.cols F.rws F.trn a n cap F.xs W hW)
  cases hok : F.ok
  · have e1 : backD F = ([], 1) := by unfold backD; rw [if_pos hok]
    have e2 : forwD F vs = ([], 1) := by unfold forwD; rw [if_pos (.inl hok)]
    rw [e1] at A1
    rw [e2] at A2
    rw [show checkP F.cols F.xs F.rws F.trn = false from hok] at CK
    clear h hv hB e1 e2 hok
    obtain ⟨c0, c1, c2, c3, _, _, _, _⟩ := HC.out
    go_enter Try.func5, Try.ntmps5
    go_wp2_with (first
      | (go_at_call 7; go_must (refine (A1.out _ (HR.out.below HB.out)).mono ?_; rintro e w1 ⟨⟨pa, pn, pcp, rfl, hp⟩, hb⟩; dsimp only at hp; have B1 := Lib.hid (HB.out.trans (hb.mono HB.out.size)); obtain rfl : pn = 0 := (by have := hp.len; simpa using this.symm); have C1 := Lib.hid (HC.out.below hb); clear hp hb c0 c1 c2 c3; obtain ⟨c0, c1, c2, c3, _, _, _, _⟩ := C1.out))
      | (go_at_call 12; go_must (refine (A2.out _ (HR.out.below B1.out) (HV.out.below B1.out)).mono ?_; rintro e w2 ⟨⟨qa, qn, qcp, rfl, hq⟩, hb⟩; dsimp only at hq; have B2 := Lib.hid (B1.out.trans (hb.mono B1.out.size)); obtain rfl : qn = 0 := (by have := hq.len; simpa using this.symm); have C2 := Lib.hid (C1.out.below hb); clear hq hb c0 c1 c2 c3; obtain ⟨c0, c1, c2, c3, _, _, _, _⟩ := C2.out))
      | (go_at_call 14; go_must (refine (CK.out _ (HR.out.below B2.out)).mono ?_; rintro e w3 ⟨rfl, hb⟩; have B3 := Lib.hid (B2.out.trans (hb.mono B2.out.size)); clear hb c0 c1 c2 c3))
      | (go_at_call 6; refine (live16_calls _).mono ?_; rintro e w6 ⟨rfl, hb6⟩))
    go_ret
    exact ⟨rfl, B3.out.trans (hb6.mono B3.out.size)⟩
  · obtain ⟨cols, xs, rws, trn⟩ := F
    have hck : checkP cols xs rws trn = true := hok
    obtain ⟨hc1, hc6⟩ := checkP_cols hck
    obtain ⟨c, rfl⟩ := Int.eq_ofNat_of_zero_le (show 0 ≤ cols by omega)
    dsimp only at h HR HB HC A1 A2 CK ⊢
    have SG := Lib.hid (fun W hW => rsing_calls c rws trn a n cap xs W hW hck)
    rw [hck] at CK
    have F1 := back_codes hck
    have F2 := forw_codes (vs := vs) hck
    rw [hv.len] at F2
    generalize backD ⟨(c : Int), xs, rws, trn⟩ = D at *
    generalize forwD ⟨(c : Int), xs, rws, trn⟩ vs = E at *
    generalize singD xs c = S at *
    obtain ⟨Dl, De⟩ := D
    obtain ⟨El, Ee⟩ := E
    unfold FwCodes BkCodes at F2
    unfold BkCodes at F1
    dsimp only at F1 F2 A1 A2
    have N1 : Hid (∀ i, i < Dl.length → numF (Dl.getD i none) = true) := by
      rcases F1 with ⟨_, _, rfl⟩ | ⟨_, _, _, k⟩ | ⟨_, _, rfl⟩
      · exact fun i hi => absurd hi (Nat.not_lt_zero i)
      · exact k
      · exact fun i hi => absurd hi (Nat.not_lt_zero i)
    have N2 : Hid (∀ i, i < El.length → numF (El.getD i none) = true) := by
      rcases F2 with ⟨_, _, rfl⟩ | ⟨_, ⟨_, _, rfl⟩ | ⟨_, _, _, k⟩ | ⟨_, _, rfl⟩⟩
      · exact fun i hi => absurd hi (Nat.not_lt_zero i)
      · exact fun i hi => absurd hi (Nat.not_lt_zero i)
      · exact k
      · exact fun i hi => absurd hi (Nat.not_lt_zero i)
    obtain ⟨nd, hnd0⟩ : ∃ nd, nd = Dl.length := ⟨_, rfl⟩
    obtain ⟨ne, hne0⟩ : ∃ ne, ne = El.length := ⟨_, rfl⟩
    rw [← hnd0] at N1
    rw [← hne0] at N2
    have HND := Lib.hid hnd0
    have HNE := Lib.hid hne0
    have hc0 : 1 ≤ c := by omega
    clear h hv hB hok hck hnd0 hne0
    rcases F1 with ⟨rfl, rfl, rfl⟩ | ⟨rfl, rfl, k1, _⟩ | ⟨rfl, rfl, rfl⟩ <;> rcases F2 with ⟨hm, rfl, rfl⟩ | ⟨hm, ⟨e, rfl, rfl⟩ | ⟨e, rfl, k3, _⟩ | ⟨e, rfl, rfl⟩⟩ <;> (first | (cases e; done) | skip)
    all_goals
      first
        | (have hm1 : ((m : Int) == (c : Int)) = false := by simp; omega); (have hm2 : ((m : Int) != (c : Int)) = true := by simp; omega)
        | (have hm1 : ((m : Int) == (c : Int)) = true := by simp; omega); (have hm2 : ((m : Int) != (c : Int)) = false := by simp; omega)
      clear hm
      obtain ⟨c0, c1, c2, c3, _, _, _, _⟩ := HC.out
      go_enter Try.func5, Try.ntmps5
      go_wp2_with (first
        | (go_at_call 7; go_must (refine (A1.out _ (HR.out.below HB.out)).mono ?_; rintro e w1 ⟨⟨pa, pn, pcp, rfl, hp⟩, hb⟩; dsimp only at hp; have B1 := Lib.hid (HB.out.trans (hb.mono HB.out.size)); have P1 := Lib.hid hp; (first | (have hpn : 0 = pn := by have := hp.len; simp at this; omega) | (have hpn : c = pn := by have := hp.len; omega)); subst hpn; have C1 := Lib.hid (HC.out.below hb); clear hp hb c0 c1 c2 c3; obtain ⟨c0, c1, c2, c3, _, _, _, _⟩ := C1.out))
        | (go_at_call 12; go_must (refine (A2.out _ (HR.out.below B1.out) (HV.out.below B1.out)).mono ?_; rintro e w2 ⟨⟨qa, qn, qcp, rfl, hq⟩, hb⟩; dsimp only at hq; have B2 := Lib.hid (B1.out.trans (hb.mono B1.out.size)); have P2 := Lib.hid (P1.out.below hb); have Q2 := Lib.hid hq; (first | (have hqn : 0 = qn := by have := hq.len; simp at this; omega) | (have hqn : c = qn := by have := hq.len; omega)); subst hqn; have C2 := Lib.hid (C1.out.below hb); clear hq hb c0 c1 c2 c3; obtain ⟨c0, c1, c2, c3, _, _, _, _⟩ := C2.out))
        | (go_at_call 14; go_must (refine (CK.out _ (HR.out.below B2.out)).mono ?_; rintro e w3 ⟨rfl, hb⟩; have B3 := Lib.hid (B2.out.trans (hb.mono B2.out.size)); have P3 := Lib.hid (P2.out.below hb); have Q3 := Lib.hid (Q2.out.below hb); have C3 := Lib.hid (C2.out.below hb); clear hb c0 c1 c2 c3; obtain ⟨c0, c1, c2, c3, _, _, _, _⟩ := C3.out))
        | (go_at_call 15; (refine (SG.out _ (HR.out.below B4.out)).mono ?_); rintro e w5 ⟨rfl, hb⟩; have B5 := Lib.hid (B4.out.trans (hb.mono B4.out.size)); have P5 := Lib.hid (P4.out.below hb); have Q5 := Lib.hid (Q4.out.below hb); have C5 := Lib.hid (C4.out.below hb); clear hb c0 c1 c2 c3; obtain ⟨c0, c1, c2, c3, _, _, _, _⟩ := C5.out)
        | (go_at_call 15; go_must (refine (SG.out _ (HR.out.below B3.out)).mono ?_; rintro e w4 ⟨rfl, hb⟩; have B4 := Lib.hid (B3.out.trans (hb.mono B3.out.size)); have P4 := Lib.hid (P3.out.below hb); have Q4 := Lib.hid (Q3.out.below hb); have C4 := Lib.hid (C3.out.below hb); clear hb c0 c1 c2 c3; obtain ⟨c0, c1, c2, c3, _, _, _, _⟩ := C4.out)))
      first | (have PX := P5; have QX := Q5; have BX := B5) | (have PX := P4; have QX := Q4; have BX := B4)
      clear c0 c1 c2 c3
      have hnd := HND.out.trans PX.out.len
      have hne := HNE.out.trans QX.out.len
      go_loop [9] (fun i => ∃ k : Nat, i = .int .i64 (k : Int) ∧ k ≤ nd) (fun i => nd - (intOf i).toNat)
      case atStart => exact ⟨0, rfl, Nat.zero_le _⟩
      case round =>
        obtain ⟨k, rfl, hk⟩ := hrel
        by_cases hlt : k < nd
        · first
            | (exfalso; omega; done)
            | (obtain ⟨blk, off, rfl, hcl⟩ := row_cell PX.out (by omega)
               obtain ⟨x, hx, hfx⟩ := hcl k (by omega)
               obtain ⟨nn, ni⟩ := num_no hfx (N1.out k hlt)
               have I1 := Lib.hid (isNaN_calls x hfx.1)
               have I2 := Lib.hid (isInf_calls x hfx.1)
               rw [nn] at I1
               rw [ni] at I2
               have hi : (k : Int) < (c : Int) := by omega
               clear hcl hfx nn ni
               go_wp2_with (first | (go_at_call 16; go_must (refine (I1.out _).mono ?_; rintro e w' ⟨rfl, rfl⟩)) | (go_at_call 17; go_must (refine (I2.out _).mono ?_; rintro e w' ⟨rfl, rfl⟩)))
               go_round
               case rel => exact ⟨k + 1, by go_num, by omega⟩
               case measure => first | (simp [intOf]; done) | (simp [intOf]; omega))
        · have hkn : k = nd := by omega
          first
            | (have hi : ¬ (k : Int) < (c : Int) := by omega)
            | (have hi : ¬ (k : Int) < 0 := by omega)
          clear hlt
          clear hkn hk
          go_wp2
          go_loop [10] (fun i => ∃ k : Nat, i = .int .i64 (k : Int) ∧ k ≤ ne) (fun i => ne - (intOf i).toNat)
          case atStart => exact ⟨0, rfl, Nat.zero_le _⟩
          case round =>
            obtain ⟨k, rfl, hk⟩ := hrel
            by_cases hlt : k < ne
            · first
                | (exfalso; omega; done)
                | (obtain ⟨blk, off, rfl, hcl⟩ := row_cell QX.out (by omega)
                   obtain ⟨x, hx, hfx⟩ := hcl k (by omega)
                   obtain ⟨nn, ni⟩ := num_no hfx (N2.out k hlt)
                   have I1 := Lib.hid (isNaN_calls x hfx.1)
                   have I2 := Lib.hid (isInf_calls x hfx.1)
                   rw [nn] at I1
                   rw [ni] at I2
                   have hi : (k : Int) < (c : Int) := by omega
                   clear hcl hfx nn ni
                   go_wp2_with (first | (go_at_call 16; go_must (refine (I1.out _).mono ?_; rintro e w' ⟨rfl, rfl⟩)) | (go_at_call 17; go_must (refine (I2.out _).mono ?_; rintro e w' ⟨rfl, rfl⟩)))
                   go_round
                   case rel => exact ⟨k + 1, by go_num, by omega⟩
                   case measure => first | (simp [intOf]; done) | (simp [intOf]; omega))
            · have hkn : k = ne := by omega
              first
                | (have hi : ¬ (k : Int) < (c : Int) := by omega)
                | (have hi : ¬ (k : Int) < 0 := by omega)
              clear hlt
              go_wp2_with (go_at_call 6; refine (live16_calls _).mono ?_; rintro e w7 ⟨rfl, hb7⟩)
              go_ret
              exact ⟨rfl, BX.out.trans (hb7.mono BX.out.size)⟩
end Go.Proofs.Ytfohknalldelfaa
