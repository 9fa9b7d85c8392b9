/- ShedZero, walked. -/
import Derived.Test.YtfohknalldelfaaDoorLl
import Derived.Test.YtfohknalldelfaaDoorOk
namespace Go.Proofs.YtfohknalldelfaaDoor
open Go.RowKit Lv Go.Shelf
open Ieee (double Format Datum Toward)
attribute [local go_sem] Oper.semAt_some run_store_float drewN_alloc drewN_setCell

theorem szRow (W : World) (m : Nat) (h1 : 1 ≤ m) (h6 : m ≤ 6) : Row (W.alloc (.cells (madeCells #[.float .f64 0] m) 31)) (.slice (some ⟨W.heap.size, 0, none⟩) m m) (List.replicate m (some 0)) := by
  obtain ⟨k, rfl⟩ : ∃ k, m = k + 1 := ⟨m - 1, by omega⟩
  exact (own_made W W.heap.size k (Nat.le_refl _) (by omega)).row
/-- behind the statement that takes the zeros out -/
def SZCut (wr : World) (e : Int) (G : FacD) (s s' : Value) (W : World) : Prop :=
  ∃ (b : Nat) (ga : Option Addr) (gn gcp : Nat), s = .pointer (some ⟨b, 0, none⟩) ∧ s' = .int .i64 e ∧ Cells4 W b (.int .i64 G.cols) (.slice ga gn gcp) (.int .i64 G.rws) (.int .i64 G.trn) ∧ Row W (.slice ga gn gcp) G.xs ∧ Below wr.heap.size wr W

set_option maxRecDepth 100000 in
set_option maxHeartbeats 4000000 in
theorem shedZero_walk (w : World) (a0 a1 a2 : Addr) (LD : Laid w a0 a1 a2) (F : FacD) (a : Option Addr) (n cap : Nat) (h : Row w (.slice a n cap) F.xs) :
    Calls Tryd.prog 7 #[.agg #[.int .i64 F.cols, .slice a n cap, .int .i64 F.rws, .int .i64 F.trn]] w fun e w' => e = .returned (.bool true) ∧ Below w.heap.size w w' := by
  have hB := (Below.refl w.heap.size w).alloc (Nat.le_refl _) (.cells #[.int .i64 F.cols, .slice a n cap, .int .i64 F.rws, .int .i64 F.trn] 24)
  have HR := Lib.hid h
  have HLD := Lib.hid LD
  clear LD
  have HB := Lib.hid hB
  by_cases h1 : 60 < n
  · have h1i : (60 : Int) < (n : Int) := by omega
    clear h
    go_enter Tryd.func7, Tryd.ntmps7
    go_wp2_with (go_at_call 9; refine (live11_calls _ a0 a1 a2 (HLD.out.below hB)).mono ?_; rintro e w6 ⟨rfl, hb6⟩)
    go_ret
    exact ⟨rfl, hB.trans (hb6.mono (by simp))⟩
  have h1i : ¬ (60 : Int) < (n : Int) := by omega
  have CK := check_calls F.cols F.rws F.trn a n cap F.xs _ (h.below hB)
  cases hok : F.ok
  · rw [show checkP F.cols F.xs F.rws F.trn = false from hok] at CK
    have LH := Lib.hid CK
    clear CK h
    go_enter Tryd.func7, Tryd.ntmps7
    go_wp2_with (first | (go_at_call 18; refine LH.out.mono ?_; rintro e w1 ⟨rfl, hb⟩; have hC := Lib.hid (HB.out.trans (hb.mono (by simp)))) | (go_at_call 9; refine (live11_calls _ a0 a1 a2 (HLD.out.below hC.out)).mono ?_; rintro e w6 ⟨rfl, hb6⟩))
    go_ret
    exact ⟨rfl, hC.out.trans (hb6.mono hC.out.size)⟩
  rw [show checkP F.cols F.xs F.rws F.trn = true from hok] at CK
  have LH := Lib.hid CK
  have C3 := Lib.hid (Cells4.new w (.int .i64 F.cols) (.slice a n cap) (.int .i64 F.rws) (.int .i64 F.trn) 24)
  obtain ⟨hc1, hc6⟩ := ok_cols hok
  obtain ⟨r0, r1, t0, t1⟩ := ok_rows hok
  obtain ⟨m, hm⟩ : ∃ m, m = F.cols.toNat := ⟨_, rfl⟩
  have hm1 : 1 ≤ m := by omega
  have hm6 : m ≤ 6 := by omega
  have RZ := srow_zero hok (row_words h)
  rw [← hm] at RZ
  have RW := Lib.hid (fun W b' (hb : Below w.heap.size w W) h' => srow_calls F a b' n cap m m 0 (List.replicate m (some 0)) (Y := some 0) W a0 a1 a2 (HLD.out.below hb) (HR.out.below hb) h' fw_zero)
  obtain ⟨R, hR⟩ : ∃ R, R = sRowD F (List.replicate m (some 0)) (some 0) := ⟨_, rfl⟩
  rw [← hR] at RZ RW
  obtain ⟨G, ge⟩ := R
  have H5 := Lib.hid (fun h => congrArg Prod.snd (RZ.1 h))
  have H6 := Lib.hid (fun h h2 => congrArg Prod.snd (RZ.2.1 h h2))
  have H0 : Hid (F.rws ≠ 0 → ¬ 4096 < F.trn + F.cols + 1 → ge = 0 ∧ Eqs G.xs F.xs) := fun h h2 => by
    obtain ⟨ys, e1, e2⟩ := RZ.2.2 h h2
    obtain ⟨rfl, rfl⟩ := Prod.mk.inj e1
    exact ⟨rfl, e2⟩
  dsimp only at H5 H6 RW
  obtain ⟨i0, hin, hiz0, hiz1, hiz2⟩ := info_parts infoF
  have hmk := fun W => run_make (P := Tryd.prog) W 22 31 i0 _ Tryd.underlying22 hin hiz0 .i64 .i64 F.cols F.cols (by omega) (by omega) (by rw [hiz2]; omega) (by omega)
  rw [hiz1, Nat.mul_one, ← hm] at hmk
  clear CK hin hiz0 hiz1 hiz2 RZ hR hm h
  go_enter Tryd.func7, Tryd.ntmps7
  go_wp2_with (go_at_call 18; refine LH.out.mono ?_; rintro e W3 ⟨rfl, hb⟩; have B3 := Lib.hid (HB.out.trans (hb.mono (by simp))); have HF := Lib.hid (C3.out.below hb); have hz1 := hb.size; simp at hz1; have hsz : w.heap.size < W3.heap.size := (by omega); clear hb)
  go_cut [3, 4] from 15 to 23 (fun s3 s4 wx => SZCut W3 ge G s3 s4 wx)
  case first =>
    rename_i J K' hJ hK'
    have hs3 := B3.out.size
    obtain ⟨c0, c1, c2, c3, _, _, _, _⟩ := HF.out
    have rA : Row ((W3.alloc (.cells #[.int .i64 0, .slice none 0 0, .int .i64 0, .int .i64 0] 24)).alloc (.cells (madeCells #[.float .f64 0] m) 31)).drew (.slice (some ⟨W3.heap.size + 1, 0, none⟩) m m) (List.replicate m (some 0)) := by have := (szRow (W3.alloc (.cells #[.int .i64 0, .slice none 0 0, .int .i64 0, .int .i64 0] 24)) m hm1 hm6).below (Below.refl _ _).drew; simpa using this
    have rB : Row ((W3.alloc (.cells (madeCells #[.float .f64 0] m) 31)).alloc (.cells #[.int .i64 0, .slice none 0 0, .int .i64 0, .int .i64 0] 24)).drew (.slice (some ⟨W3.heap.size, 0, none⟩) m m) (List.replicate m (some 0)) := ((szRow W3 m hm1 hm6).alloc _).below (Below.refl _ _).drew
    have rC : Row (W3.alloc (.cells (madeCells #[.float .f64 0] m) 31)).drew (.slice (some ⟨W3.heap.size, 0, none⟩) m m) (List.replicate m (some 0)) := (szRow W3 m hm1 hm6).below (Below.refl _ _).drew
    have bA : Below W3.heap.size W3 ((W3.alloc (.cells #[.int .i64 0, .slice none 0 0, .int .i64 0, .int .i64 0] 24)).alloc (.cells (madeCells #[.float .f64 0] m) 31)).drew := (((Below.refl W3.heap.size W3).alloc (Nat.le_refl _) _).alloc (by simp) _).drew
    have bB : Below W3.heap.size W3 ((W3.alloc (.cells (madeCells #[.float .f64 0] m) 31)).alloc (.cells #[.int .i64 0, .slice none 0 0, .int .i64 0, .int .i64 0] 24)).drew := (((Below.refl W3.heap.size W3).alloc (Nat.le_refl _) _).alloc (by simp) _).drew
    have bC : Below W3.heap.size W3 (W3.alloc (.cells (madeCells #[.float .f64 0] m) 31)).drew := ((Below.refl W3.heap.size W3).alloc (Nat.le_refl _) _).drew
    have bD : Below W3.heap.size W3 (W3.alloc (.cells #[.int .i64 0, .slice none 0 0, .int .i64 0, .int .i64 0] 24)).drew := ((Below.refl W3.heap.size W3).alloc (Nat.le_refl _) _).drew
    have bE : Below W3.heap.size W3 W3.drew := (Below.refl W3.heap.size W3).drew
    have zA : Cells4 ((W3.alloc (.cells #[.int .i64 0, .slice none 0 0, .int .i64 0, .int .i64 0] 24)).alloc (.cells (madeCells #[.float .f64 0] m) 31)).drew W3.heap.size (.int .i64 0) (.slice none 0 0) (.int .i64 0) (.int .i64 0) := ((Cells4.new W3 _ _ _ _ 24).alloc _).below (Below.refl _ _).drew
    have zB : Cells4 ((W3.alloc (.cells (madeCells #[.float .f64 0] m) 31)).alloc (.cells #[.int .i64 0, .slice none 0 0, .int .i64 0, .int .i64 0] 24)).drew (W3.heap.size + 1) (.int .i64 0) (.slice none 0 0) (.int .i64 0) (.int .i64 0) := by have := (Cells4.new (W3.alloc (.cells (madeCells #[.float .f64 0] m) 31)) (.int .i64 0) (.slice none 0 0) (.int .i64 0) (.int .i64 0) 24).below (Below.refl _ _).drew; simpa using this
    have HrA := Lib.hid rA
    have HrB := Lib.hid rB
    have HrC := Lib.hid rC
    have HbA := Lib.hid bA
    have HbB := Lib.hid bB
    have HbC := Lib.hid bC
    have HbD := Lib.hid bD
    have HbE := Lib.hid bE
    have HzA := Lib.hid zA
    have HzB := Lib.hid zB
    have HQA := Lib.hid (B3.out.trans (bA.mono hs3))
    have HQB := Lib.hid (B3.out.trans (bB.mono hs3))
    have HQC := Lib.hid (B3.out.trans (bC.mono hs3))
    clear rA rB rC bA bB bC bD bE zA zB
    go_region_held3 (fun w' => w'.cell? ⟨w.heap.size, 0, none⟩ = some (.int .i64 F.cols) ∧ w'.cell? ⟨w.heap.size, 1, none⟩ = some (.slice a n cap) ∧ w'.cell? ⟨w.heap.size, 2, none⟩ = some (.int .i64 F.rws) ∧ w'.cell? ⟨w.heap.size, 3, none⟩ = some (.int .i64 F.trn))
      (first
        | with_reducible exact ⟨((BL.out).cell (p := ⟨w.heap.size, 0, none⟩) hsz).trans c0, ((BL.out).cell (p := ⟨w.heap.size, 1, none⟩) hsz).trans c1, ((BL.out).cell (p := ⟨w.heap.size, 2, none⟩) hsz).trans c2, ((BL.out).cell (p := ⟨w.heap.size, 3, none⟩) hsz).trans c3⟩
        | with_reducible exact ⟨((BL.out.alloc BL.out.size _).cell (p := ⟨w.heap.size, 0, none⟩) hsz).trans c0, ((BL.out.alloc BL.out.size _).cell (p := ⟨w.heap.size, 1, none⟩) hsz).trans c1, ((BL.out.alloc BL.out.size _).cell (p := ⟨w.heap.size, 2, none⟩) hsz).trans c2, ((BL.out.alloc BL.out.size _).cell (p := ⟨w.heap.size, 3, none⟩) hsz).trans c3⟩
        | with_reducible exact ⟨((HbA.out).cell (p := ⟨w.heap.size, 0, none⟩) hsz).trans c0, ((HbA.out).cell (p := ⟨w.heap.size, 1, none⟩) hsz).trans c1, ((HbA.out).cell (p := ⟨w.heap.size, 2, none⟩) hsz).trans c2, ((HbA.out).cell (p := ⟨w.heap.size, 3, none⟩) hsz).trans c3⟩
        | with_reducible exact ⟨((HbB.out).cell (p := ⟨w.heap.size, 0, none⟩) hsz).trans c0, ((HbB.out).cell (p := ⟨w.heap.size, 1, none⟩) hsz).trans c1, ((HbB.out).cell (p := ⟨w.heap.size, 2, none⟩) hsz).trans c2, ((HbB.out).cell (p := ⟨w.heap.size, 3, none⟩) hsz).trans c3⟩
        | with_reducible exact ⟨((HbC.out).cell (p := ⟨w.heap.size, 0, none⟩) hsz).trans c0, ((HbC.out).cell (p := ⟨w.heap.size, 1, none⟩) hsz).trans c1, ((HbC.out).cell (p := ⟨w.heap.size, 2, none⟩) hsz).trans c2, ((HbC.out).cell (p := ⟨w.heap.size, 3, none⟩) hsz).trans c3⟩
        | with_reducible exact ⟨((HbD.out).cell (p := ⟨w.heap.size, 0, none⟩) hsz).trans c0, ((HbD.out).cell (p := ⟨w.heap.size, 1, none⟩) hsz).trans c1, ((HbD.out).cell (p := ⟨w.heap.size, 2, none⟩) hsz).trans c2, ((HbD.out).cell (p := ⟨w.heap.size, 3, none⟩) hsz).trans c3⟩
        | with_reducible exact ⟨((HbE.out).cell (p := ⟨w.heap.size, 0, none⟩) hsz).trans c0, ((HbE.out).cell (p := ⟨w.heap.size, 1, none⟩) hsz).trans c1, ((HbE.out).cell (p := ⟨w.heap.size, 2, none⟩) hsz).trans c2, ((HbE.out).cell (p := ⟨w.heap.size, 3, none⟩) hsz).trans c3⟩
        | with_reducible exact ⟨((below_put4 BL.out (Nat.le_refl _) _ _ _ _).cell (p := ⟨w.heap.size, 0, none⟩) hsz).trans c0, ((below_put4 BL.out (Nat.le_refl _) _ _ _ _).cell (p := ⟨w.heap.size, 1, none⟩) hsz).trans c1, ((below_put4 BL.out (Nat.le_refl _) _ _ _ _).cell (p := ⟨w.heap.size, 2, none⟩) hsz).trans c2, ((below_put4 BL.out (Nat.le_refl _) _ _ _ _).cell (p := ⟨w.heap.size, 3, none⟩) hsz).trans c3⟩
        | with_reducible exact ⟨((below_put4 BL.out (Nat.le_succ _) _ _ _ _).cell (p := ⟨w.heap.size, 0, none⟩) hsz).trans c0, ((below_put4 BL.out (Nat.le_succ _) _ _ _ _).cell (p := ⟨w.heap.size, 1, none⟩) hsz).trans c1, ((below_put4 BL.out (Nat.le_succ _) _ _ _ _).cell (p := ⟨w.heap.size, 2, none⟩) hsz).trans c2, ((below_put4 BL.out (Nat.le_succ _) _ _ _ _).cell (p := ⟨w.heap.size, 3, none⟩) hsz).trans c3⟩
        | go_keep)
      (first | (go_at_call 13; go_must (refine (RW.out _ _ (by first | with_reducible exact HQA.out | with_reducible exact HQB.out | with_reducible exact HQC.out) (by first | with_reducible exact HrA.out | with_reducible exact HrB.out | with_reducible exact HrC.out)).mono ?_; rintro e wL ⟨⟨ga, gn, gcp, rfl, hrow⟩, hbL⟩; have BL' : Below W3.heap.size W3 wL := (by first | with_reducible exact HbA.out.trans (hbL.mono (by simp; omega)) | with_reducible exact HbB.out.trans (hbL.mono (by simp; omega)) | with_reducible exact HbC.out.trans (hbL.mono (by simp))); have hszL := BL'.size; have hLb : w.heap.size < wL.heap.size := (by omega); (first | ((with_reducible have yy := HzA.out.below hbL); have YL := Lib.hid yy; obtain ⟨y0, y1, y2, y3, yf0, yf1, yf2, yf3⟩ := yy) | ((with_reducible have yy := HzB.out.below hbL); have YL := Lib.hid yy; obtain ⟨y0, y1, y2, y3, yf0, yf1, yf2, yf3⟩ := yy) | (have YN : True := trivial)); have BL := Lib.hid BL'; have RL := Lib.hid hrow; clear BL' hrow hbL)))
    all_goals
      refine hK' _ _ (Met.intro (hJ _ _ ?_))
      (repeat apply Exists.intro)
      refine ⟨?_, rfl⟩
      unfold SZCut
      (first
        | (refine ⟨wL.heap.size, ga, gn, gcp, rfl, rfl, ?_⟩; exact ⟨Cells4.new wL _ _ _ _ _, RL.out.alloc _, BL.out.alloc BL.out.size _⟩)
        | (refine ⟨W3.heap.size, ga, gn, gcp, rfl, rfl, ?_⟩; exact ⟨YL.out.put _ _ _ _, RL.out.put4 YL.out slice_ne _ _ _ _, below_put4 BL.out (Nat.le_refl _) _ _ _ _⟩)
        | (refine ⟨W3.heap.size + 1, ga, gn, gcp, rfl, rfl, ?_⟩; exact ⟨YL.out.put _ _ _ _, RL.out.put4 YL.out slice_ne _ _ _ _, below_put4 BL.out (Nat.le_succ _) _ _ _ _⟩))
  case rest =>
    obtain ⟨b5, ga, gn, gcp, rfl, rfl, D5, RG, BG⟩ := hcut
    obtain ⟨W5, rfl⟩ : ∃ x, x = wc := ⟨_, rfl⟩
    have B5 := Lib.hid (B3.out.trans (BG.mono B3.out.size))
    have HF5 := Lib.hid (HF.out.below BG)
    have HRG := Lib.hid RG
    have HD5 := Lib.hid D5
    obtain ⟨c0, c1, c2, c3, _, _, _, _⟩ := HF5.out
    obtain ⟨d0, d1, d2, d3, _, _, _, _⟩ := HD5.out
    clear RG D5 RW hmk LH
    by_cases hr0 : F.rws = 0
    · obtain rfl := H5.out hr0
      have hr : (F.rws == 0) = true := by simpa using hr0
      clear hr0 H5 H6 H0
      go_wp2_with (go_at_call 9; refine (live11_calls _ a0 a1 a2 (HLD.out.below B5.out)).mono ?_; rintro e w8 ⟨rfl, hb8⟩)
      go_ret
      exact ⟨rfl, B5.out.trans (hb8.mono B5.out.size)⟩
    · have hr : (F.rws == 0) = false := by simpa using hr0
      by_cases hf : 4096 < F.trn + F.cols + 1
      · obtain rfl := H6.out hr0 hf
        clear hr0 H5 H6 H0
        go_wp2_with (go_at_call 9; refine (live11_calls _ a0 a1 a2 (HLD.out.below B5.out)).mono ?_; rintro e w8 ⟨rfl, hb8⟩)
        go_ret
        exact ⟨rfl, B5.out.trans (hb8.mono B5.out.size)⟩
      · obtain ⟨rfl, e2⟩ := H0.out hr0 (by omega)
        have HE2 := Lib.hid e2
        obtain rfl : n = gn := by have k1 := HRG.out.len; have k2 := HR.out.len; have k3 := e2.1; omega
        clear hr0 H5 H6 H0 e2
        go_wp2_with (first
          | (go_at_call 20; go_must (refine (requal_calls ga a n gcp cap G.xs F.xs _ HRG.out (HR.out.below B5.out) HE2.out).mono ?_; rintro e w7 ⟨rfl, hb7⟩; have B7 := Lib.hid (B5.out.trans (hb7.mono B5.out.size)); clear hb7))
          | (go_at_call 9; go_must (refine (live11_calls _ a0 a1 a2 (HLD.out.below B7.out)).mono ?_; rintro e w8 ⟨rfl, hb8⟩)))
        go_ret
        exact ⟨rfl, B7.out.trans (hb8.mono B7.out.size)⟩
end Go.Proofs.YtfohknalldelfaaDoor
