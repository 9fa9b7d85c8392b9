/- SolveNear, walked. -/
import Derived.Test.YtnboegeljaplbaaVl
import Derived.Test.YtnboegeljaplbaaZq
import Derived.Test.YtnboegeljaplbaaZr
namespace Go.Proofs.Ytnboegeljaplbaa
open Go.RowKit Lv Go.Shelf
open Ieee (double Format Datum Toward)
attribute [local go_sem] Oper.semAt_some run_store_float drewN_alloc drewN_setCell

theorem back_err {F : FacD} {ys : List (Option Nat)} (h : backD F = (ys, 0)) : F.ok = true := by
  unfold backD at h
  by_cases h1 : F.ok = false
  · rw [if_pos h1] at h; cases (Prod.mk.inj h).2
  · simpa using h1
theorem take_get {l : List (Option Nat)} {c k : Nat} (h : k < c) : (l.take c).getD k none = l.getD k none := by
  rw [List.getD_eq_getElem?_getD, List.getElem?_take_of_lt h, ← List.getD_eq_getElem?_getD]
set_option maxRecDepth 100000 in
set_option maxHeartbeats 4000000 in
theorem solveNear_walk (w : World) (F : FacD) (a : Option Addr) (n cap : Nat) (h : Row w (.slice a n cap) F.xs) :
    Calls Try.prog 7 #[.agg #[.int .i64 F.cols, .slice a n cap, .int .i64 F.rws, .int .i64 F.trn]] w fun e w' => e = .returned (.bool true) ∧ Below w.heap.size w w' := by
  have HB := Lib.hid ((Below.refl w.heap.size w).alloc (Nat.le_refl _) (.cells #[.int .i64 F.cols, .slice a n cap, .int .i64 F.rws, .int .i64 F.trn] 24))
  have C0 := Lib.hid (Cells4.new w (.int .i64 F.cols) (.slice a n cap) (.int .i64 F.rws) (.int .i64 F.trn) 24)
  have HR := Lib.hid h
  by_cases h1 : 60 < n
  · have h1i : (60 : Int) < (n : Int) := by omega
    clear h
    go_enter Try.func7, Try.ntmps7
    go_wp2_with (go_at_call 23; refine (live16_calls _).mono ?_; rintro e w6 ⟨rfl, hb6⟩)
    go_ret
    exact ⟨rfl, HB.out.trans (hb6.mono (by simp))⟩
  have h1i : ¬ (60 : Int) < (n : Int) := by omega
  have BC := Lib.hid (fun W hW => back_calls F a n cap W hW)
  have HW := Lib.hid (row_wd h)
  obtain ⟨R, hR⟩ : ∃ R, R = backD F := ⟨_, rfl⟩
  rw [← hR] at BC
  obtain ⟨ys, ye⟩ := R
  by_cases hge : ye ≠ 0
  · have hne : (ye != 0) = true := by simpa using hge
    clear h hR hge
    go_enter Try.func7, Try.ntmps7
    go_wp2_with (first
      | (go_at_call 24; go_must (refine (BC.out _ (HR.out.below HB.out)).mono ?_; rintro e w2 ⟨⟨pa, pn, pcp, rfl, hp⟩, hb2⟩; dsimp only at hp; have B2 := Lib.hid (HB.out.trans (hb2.mono HB.out.size)); clear hp hb2))
      | (go_at_call 23; refine (live16_calls _).mono ?_; rintro e w8 ⟨rfl, hb8⟩))
    go_ret
    exact ⟨rfl, B2.out.trans (hb8.mono B2.out.size)⟩
  · obtain rfl : ye = 0 := by simpa using hge
    have hok := back_err hR.symm
    obtain ⟨fc, fx, fr, ft⟩ := F
    obtain ⟨c, rfl⟩ := Int.eq_ofNat_of_zero_le (show 0 ≤ fc by have := ok_cols hok; dsimp only at this; omega)
    obtain ⟨hck, hT, hyl, hyn, hfit⟩ := back_fits HW.out hR.symm
    have h1c := hT.h1
    have h6c := hT.h6
    have RL := Lib.hid (fun i (hi : i ≤ c) W hW => rline7_calls c i fr ft a n cap fx W hW hck hi)
    have LL := Lib.hid (fun i (hi : i ≤ c) => lineP_len h1c h6c hT.len hi)
    have FI := Lib.hid hfit
    have YN := Lib.hid hyn
    have YL := Lib.hid hyl
    have EN := Lib.hid (fun i k (hi : i ≤ c) (hk : k ≤ c) => ent_wb hT hi hk)
    obtain ⟨m, hm⟩ : ∃ m, c + 1 = m := ⟨_, rfl⟩
    have hmi : (c : Int) + 1 = (m : Int) := by omega
    have hmw : IntKind.i64.wrap (m : Int) = (m : Int) := IntWalk.i64_in _ (by omega)
    have hcc : ((c : Int) != (c : Int)) = false := by simp
    have hmm : ((m : Int) != (m : Int)) = false := by simp
    clear h hR hge hok hck hT hyl hyn hfit HW
    go_enter Try.func7, Try.ntmps7
    go_upto_region 4 with (go_at_call 24; go_must (refine (BC.out _ (HR.out.below HB.out)).mono ?_; rintro e w2 ⟨⟨pa, pn, pcp, rfl, hp⟩, hb2⟩; dsimp only at hp; have B2 := Lib.hid (HB.out.trans (hb2.mono HB.out.size)); have C2 := Lib.hid (C0.out.below hb2); have P2 := Lib.hid hp; clear hb2 hp))
    obtain rfl : pn = c := by have := P2.out.len; rw [YL.out] at this; exact this.symm
    obtain ⟨c0, c1, c2, c3, _, _, _, _⟩ := C2.out
    go_wp2
    go_loopw [5] (fun s5 wr => ∃ i : Nat, s5 = .int .i64 (i : Int) ∧ i ≤ pn ∧ Hid (Below w2.heap.size w2 wr)) (fun s5 _ => pn - (intOf s5).toNat)
    case atStart => exact ⟨0, rfl, Nat.zero_le _, Below.refl _ _⟩
    case round =>
      obtain ⟨i, rfl, hi, HI⟩ := hrel
      clear c0 c1 c2 c3
      have C3 := Lib.hid (C2.out.below HI.out)
      obtain ⟨c0, c1, c2, c3, _, _, _, _⟩ := C3.out
      by_cases hlt : i < pn
      · have hii : (i : Int) < (pn : Int) := by omega
        have him : (i : Int) < (m : Int) := by omega
        have hpm : (pn : Int) < (m : Int) := by omega
        have hi0 : (0 : Int) ≤ (i : Int) := by omega
        have hp0 : (0 : Int) ≤ (pn : Int) := by omega
        have RI := Lib.hid (RL.out i (by omega) wr (HR.out.below (B2.out.trans (HI.out.mono B2.out.size))))
        have hli := LL.out i (by omega)
        rw [hm] at hli
        have hft := FI.out i hlt
        have he1 : ∀ k, k ≤ pn → Lv.Fn ((lineP fx pn i).getD k none) := fun k hk => EN.out i k (by omega) hk
        unfold ent at hft
        have HLI := Lib.hid hli
        have HFT := Lib.hid hft
        have HEN := Lib.hid he1
        generalize lineP fx pn i = l at *
        clear hli hft he1
        have hs3 := Lib.hid HI.out.size
        go_upto_region 12 with (go_at_call 25; go_must (refine RI.out.mono ?_; rintro e w4 ⟨⟨v, rfl, hv⟩, hb⟩; have HV := Lib.hid hv; obtain ⟨g, gc, hv0, hg1, hg2, hg3, hg4⟩ := hv.shape (by rw [HLI.out]; omega); rw [HLI.out] at hv0 hg3; subst hv0; have C4 := Lib.hid (C3.out.below hb); have B4 := Lib.hid hb; clear hv hb c0 c1 c2 c3))
        obtain ⟨yz, hyz, fyz⟩ := HV.out.cell HLI.out (j := pn) (by omega)
        obtain ⟨yp, hyp, fyp⟩ := HV.out.cell HLI.out (j := i) (by omega)
        have hpg : (pn : Int) ≤ (gc : Int) := by omega
        have HFY := Lib.hid (And.intro fyz fyp)
        have HRT := Lib.hid (HV.out.row.takeR (k := pn) h1c (by omega))
        have B24 := Lib.hid (HI.out.trans (B4.out.mono HI.out.size))
        have hin : absR (fv (l.getD pn none) - sumQ (fun j => fv ((l.take pn).getD j none) * fv (ys.getD j none)) pn) ≤ sumQ (fun j => absR (fv ((l.take pn).getD j none) * fv (ys.getD j none))) pn * ((pn + 2 : Nat) : Rat) * p2 (-53) + ((pn : Rat) + absR (fv (l.getD i none))) * p2 (-1070) := by
          rw [sumQ_same pn (fun k hk => by rw [take_get hk] : ∀ k, k < pn → fv ((l.take pn).getD k none) * fv (ys.getD k none) = fv (l.getD k none) * fv (ys.getD k none)), sumQ_same pn (fun k hk => by rw [take_get hk] : ∀ k, k < pn → absR (fv ((l.take pn).getD k none) * fv (ys.getD k none)) = absR (fv (l.getD k none) * fv (ys.getD k none)))]
          exact HFT.out
        have FT := Lib.hid (fun W (hb : Below w4.heap.size w4 W) => sfits_calls (some ⟨g, 0, none⟩) pa pn gc pcp yz yp (l.take pn) ys (l.getD pn none) (l.getD i none) W (HRT.out.below hb) (P2.out.below (B24.out.trans (hb.mono B24.out.size))) HFY.out.1 HFY.out.2 h1c h6c (fun j hj => by rw [take_get hj]; exact HEN.out j (by omega)) YN.out (HEN.out pn (Nat.le_refl _)) (HEN.out i (by omega)) hin)
        have bA := Lib.hid (show Below w4.heap.size w4 w4.drew from (Below.refl _ _).drew)
        obtain ⟨c0, c1, c2, c3, _, _, _, _⟩ := C4.out
        have KP := Lib.hid (show ∀ W, Below w4.heap.size w4 W → W.cell? ⟨w.heap.size, 0, none⟩ = some (.int .i64 (pn : Int)) ∧ W.cell? ⟨g, pn, none⟩ = some (.float .f64 yz) ∧ W.cell? ⟨g, i, none⟩ = some (.float .f64 yp) from fun W hb => ⟨(hb.cell (p := ⟨w.heap.size, 0, none⟩) (cell_lt c0)).trans c0, (hb.cell (p := ⟨g, pn, none⟩) (cell_lt hyz)).trans hyz, (hb.cell (p := ⟨g, i, none⟩) (cell_lt hyp)).trans hyp⟩)
        have ka := Lib.hid (KP.out _ bA.out)
        clear c0 c1 c2 c3 hyz hyp fyz fyp hin
        go_region_held3 (fun w' => w'.cell? ⟨w.heap.size, 0, none⟩ = some (.int .i64 (pn : Int)) ∧ w'.cell? ⟨g, pn, none⟩ = some (.float .f64 yz) ∧ w'.cell? ⟨g, i, none⟩ = some (.float .f64 yp))
          (first
            | with_reducible exact ka.out
            | with_reducible exact K5.out)
          (first
            | (go_at_call 26; go_must (refine (FT.out _ bA.out).mono ?_; rintro e w5 ⟨rfl, hb⟩; have B5 := Lib.hid (bA.out.trans (hb.mono bA.out.size)); have K5 := Lib.hid (KP.out _ B5.out); clear hb)))
        go_wp2
        go_roundw
        case rel => exact ⟨i + 1, by go_num, by omega, B24.out.trans (B5.out.mono B24.out.size)⟩
        case measure => simp [intOf]; omega
      · obtain rfl : i = pn := by omega
        have hii : ¬ (i : Int) < (i : Int) := by omega
        go_wp2_with (go_at_call 23; refine (live16_calls _).mono ?_; rintro e w8 ⟨rfl, hb8⟩)
        go_ret
        exact ⟨rfl, (B2.out.trans (HI.out.mono B2.out.size)).trans (hb8.mono (by have := B2.out.size; have := HI.out.size; omega))⟩
end Go.Proofs.Ytnboegeljaplbaa
