/- AbsorbZero, walked. -/
import Derived.Test.YtaabfjfaljhjmaaSo
import Derived.Test.YtaabfjfaljhjmaaNh
import Derived.Test.YtaabfjfaljhjmaaAa
namespace Go.Proofs.Ytaabfjfaljhjmaa
open Go.RowKit Lv Go.Shelf
open Ieee (double Format Datum Toward)
attribute [local go_sem] Oper.semAt_some run_store_float drewN_alloc drewN_setCell

theorem row_mk (W : World) (m : Nat) (h1 : 1 ≤ m) (h6 : m ≤ 6) : Row (W.alloc (.cells (madeCells #[.float .f64 0] m) 37)) (.slice (some ⟨W.heap.size, 0, none⟩) m m) (List.replicate m (some 0)) := by
  obtain ⟨k, rfl⟩ : ∃ k, m = k + 1 := ⟨m - 1, by omega⟩
  exact (own_made W W.heap.size k (Nat.le_refl _) (by omega)).row
/-- behind the statement that absorbs the zeros -/
def ZeroCut (wr : World) (e : Int) (G : FacD) (s s' : Value) (W : World) : Prop :=
  ∃ (b : Nat) (ga : Option Addr) (gn gcp : Nat), s = .pointer (some ⟨b, 0, none⟩) ∧ s' = .int .i64 e ∧ Cells4 W b (.int .i64 G.cols) (.slice ga gn gcp) (.int .i64 G.rws) (.int .i64 G.trn) ∧ Row W (.slice ga gn gcp) G.xs ∧ Below wr.heap.size wr W

set_option maxRecDepth 100000 in
set_option maxHeartbeats 4000000 in
theorem absorbZero_walk (w : World) (F : FacD) (a : Option Addr) (n cap : Nat) (h : Row w (.slice a n cap) F.xs) :
    Calls Try.prog 11 #[.agg #[.int .i64 F.cols, .slice a n cap, .int .i64 F.rws, .int .i64 F.trn]] w fun e w' => e = .returned (.bool true) ∧ Below w.heap.size w w' := by
  have hB := (Below.refl w.heap.size w).alloc (Nat.le_refl _) (.cells #[.int .i64 F.cols, .slice a n cap, .int .i64 F.rws, .int .i64 F.trn] 24)
  have HR := Lib.hid h
  have HB := Lib.hid hB
  by_cases h1 : 60 < n
  · have h1i : (60 : Int) < (n : Int) := by omega
    clear h
    go_enter Try.func11, Try.ntmps11
    go_wp2_with (go_at_call 26; refine (live10_calls _).mono ?_; rintro e w6 ⟨rfl, hb6⟩)
    go_ret
    exact ⟨rfl, hB.trans (hb6.mono (by simp))⟩
  have h1i : ¬ (60 : Int) < (n : Int) := by omega
  have CK := check_calls F.cols F.rws F.trn a n cap F.xs _ (h.below hB)
  cases hok : F.ok
  · rw [show checkP F.cols F.xs F.rws F.trn = false from hok] at CK
    have LH := Lib.hid CK
    clear CK h
    go_enter Try.func11, Try.ntmps11
    go_wp2_with (first | (go_at_call 22; refine LH.out.mono ?_; rintro e w1 ⟨rfl, hb⟩; have hC := Lib.hid (HB.out.trans (hb.mono (by simp)))) | (go_at_call 26; refine (live10_calls _).mono ?_; rintro e w6 ⟨rfl, hb6⟩))
    go_ret
    exact ⟨rfl, hC.out.trans (hb6.mono hC.out.size)⟩
  rw [show checkP F.cols F.xs F.rws F.trn = true from hok] at CK
  have LH := Lib.hid CK
  have C3 := Lib.hid (Cells4.new w (.int .i64 F.cols) (.slice a n cap) (.int .i64 F.rws) (.int .i64 F.trn) 24)
  have RD := Lib.hid (fun W h => by have := aridge_calls F a n cap 0 W h fw_zero; rw [ridge_nought hok] at this; exact this)
  obtain ⟨hc1, hc6⟩ := ok_cols hok
  obtain ⟨r0, r1, t0, t1⟩ := ok_rows hok
  obtain ⟨m, hm⟩ : ∃ m, m = F.cols.toNat := ⟨_, rfl⟩
  have hm1 : 1 ≤ m := by omega
  have hm6 : m ≤ 6 := by omega
  have RZ := row_zero hok (row_words h)
  rw [← hm] at RZ
  have RW := Lib.hid (fun W b' h h' => arow_calls F a b' n cap m m 0 (List.replicate m (some 0)) (Y := some 0) W h h' fw_zero)
  obtain ⟨i0, hin, hiz0, hiz1, hiz2⟩ := info_parts infoF
  have hmk := fun W => run_make (P := Try.prog) W 22 37 i0 _ Try.underlying22 hin hiz0 .i64 .i64 F.cols F.cols (by omega) (by omega) (by rw [hiz2]; omega) (by omega)
  rw [hiz1, Nat.mul_one, ← hm] at hmk
  have GT := Lib.hid (fun W (G : FacD) (ga : Option Addr) (gn gcp : Nat) (hG : Row W (.slice ga gn gcp) G.xs) (hGo : G.ok = true) => (by
    obtain ⟨d, hd⟩ := Int.eq_ofNat_of_zero_le (show 0 ≤ G.cols by have := ok_cols hGo; omega)
    have := get_calls d 0 0 G.rws G.trn ga gn gcp G.xs W hG (by rw [← hd]; exact hGo) (Nat.zero_le _) (Nat.zero_le _) (Nat.le_refl _)
    rw [← hd] at this
    exact this : Calls Try.prog 23 #[.agg #[.int .i64 G.cols, .slice ga gn gcp, .int .i64 G.rws, .int .i64 G.trn], .int .i64 0, .int .i64 0] W fun e w' => (∃ b, e = .returned (.float .f64 b) ∧ FW b (G.xs.getD 0 none)) ∧ Below W.heap.size W w'))
  clear CK hin hiz0 hiz1 hiz2
  cases hfu : fullD F
  · obtain ⟨ys, e1, e2, e3⟩ := RZ.2 hfu
    rw [e1] at RW
    have hfu1 : ¬ (200 : Int) ≤ F.rws := by unfold fullD at hfu; rw [Bool.or_eq_false_iff] at hfu; have := of_decide_eq_false hfu.1; omega
    have hfu2 : ¬ (4096 : Int) < F.trn + F.cols + 1 := by unfold fullD at hfu; rw [Bool.or_eq_false_iff] at hfu; have := of_decide_eq_false hfu.2; omega
    have hgo : (⟨F.cols, ys, F.rws + 1, F.trn + (F.cols + 1)⟩ : FacD).ok = true := by have := (rowD_ok (F := F) (ls := List.replicate m (some 0)) (Y := some 0) (by rw [e1])).1; rw [e1] at this; exact this
    clear RZ e1 hfu hm
    go_enter Try.func11, Try.ntmps11
    go_wp2_with (first
      | (go_at_call 22; refine LH.out.mono ?_; rintro e w1 ⟨rfl, hb⟩; have B1 := Lib.hid (HB.out.trans (hb.mono (by simp))); have E3 := Lib.hid (C3.out.below hb); obtain ⟨c0, c1, c2, c3, _, _, _, _⟩ := E3.out; have hz1 := hb.size; simp at hz1; have hy1 : w.heap.size < w1.heap.size := (by omega); clear hb)
      | (go_at_call 31; go_must (refine (RD.out _ (HR.out.below B1.out)).mono ?_; rintro e w2 ⟨⟨pa, pn, pcp, rfl, hr2⟩, hb2⟩; have B2 := Lib.hid (B1.out.trans (hb2.mono B1.out.size)); have E3b := Lib.hid (E3.out.below hb2); have R2 := Lib.hid hr2; have hz2 := hb2.size; have hy2 : w.heap.size < w2.heap.size := (by omega); clear c0 c1 c2 c3 hr2 hb2)))
    obtain ⟨W3, hW3⟩ : ∃ x, x = w2.alloc (.cells #[.int .i64 F.cols, .slice pa pn pcp, .int .i64 F.rws, .int .i64 F.trn] 24) := ⟨_, rfl⟩
    have HJ := Lib.hid (Cells4.new w2 (.int .i64 F.cols) (.slice pa pn pcp) (.int .i64 F.rws) (.int .i64 F.trn) 24)
    have RJ := Lib.hid (R2.out.alloc (.cells #[.int .i64 F.cols, .slice pa pn pcp, .int .i64 F.rws, .int .i64 F.trn] 24))
    have HF := Lib.hid (E3b.out.alloc (.cells #[.int .i64 F.cols, .slice pa pn pcp, .int .i64 F.rws, .int .i64 F.trn] 24))
    have B3 := Lib.hid (B2.out.alloc B2.out.size (.cells #[.int .i64 F.cols, .slice pa pn pcp, .int .i64 F.rws, .int .i64 F.trn] 24))
    rw [← hW3] at HJ RJ HF B3
    rw [← hW3]
    have hb3 := HJ.out.lt
    clear E3b R2 hW3
    go_cut [5, 6] from 22 to 30 (fun s5 s6 wx => ZeroCut W3 0 ⟨F.cols, ys, F.rws + 1, F.trn + (F.cols + 1)⟩ s5 s6 wx)
    case first =>
      rename_i J K' hJ hK'
      have hs3 := B3.out.size
      obtain ⟨c0, c1, c2, c3, _, _, _, _⟩ := HF.out
      have hsz := HF.out.lt
      have rA : Row ((W3.alloc (.cells #[.int .i64 0, .slice none 0 0, .int .i64 0, .int .i64 0] 24)).alloc (.cells (madeCells #[.float .f64 0] m) 37)).drew (.slice (some ⟨W3.heap.size + 1, 0, none⟩) m m) (List.replicate m (some 0)) := by have := (row_mk (W3.alloc (.cells #[.int .i64 0, .slice none 0 0, .int .i64 0, .int .i64 0] 24)) m hm1 hm6).below (Below.refl _ _).drew; simpa using this
      have rB : Row ((W3.alloc (.cells (madeCells #[.float .f64 0] m) 37)).alloc (.cells #[.int .i64 0, .slice none 0 0, .int .i64 0, .int .i64 0] 24)).drew (.slice (some ⟨W3.heap.size, 0, none⟩) m m) (List.replicate m (some 0)) := ((row_mk W3 m hm1 hm6).alloc _).below (Below.refl _ _).drew
      have rC : Row (W3.alloc (.cells (madeCells #[.float .f64 0] m) 37)).drew (.slice (some ⟨W3.heap.size, 0, none⟩) m m) (List.replicate m (some 0)) := (row_mk W3 m hm1 hm6).below (Below.refl _ _).drew
      have bA : Below W3.heap.size W3 ((W3.alloc (.cells #[.int .i64 0, .slice none 0 0, .int .i64 0, .int .i64 0] 24)).alloc (.cells (madeCells #[.float .f64 0] m) 37)).drew := (((Below.refl W3.heap.size W3).alloc (Nat.le_refl _) _).alloc (by simp) _).drew
      have bB : Below W3.heap.size W3 ((W3.alloc (.cells (madeCells #[.float .f64 0] m) 37)).alloc (.cells #[.int .i64 0, .slice none 0 0, .int .i64 0, .int .i64 0] 24)).drew := (((Below.refl W3.heap.size W3).alloc (Nat.le_refl _) _).alloc (by simp) _).drew
      have bC : Below W3.heap.size W3 (W3.alloc (.cells (madeCells #[.float .f64 0] m) 37)).drew := ((Below.refl W3.heap.size W3).alloc (Nat.le_refl _) _).drew
      have bD : Below W3.heap.size W3 (W3.alloc (.cells #[.int .i64 0, .slice none 0 0, .int .i64 0, .int .i64 0] 24)).drew := ((Below.refl W3.heap.size W3).alloc (Nat.le_refl _) _).drew
      have bE : Below W3.heap.size W3 W3.drew := (Below.refl W3.heap.size W3).drew
      have zA : Cells4 ((W3.alloc (.cells #[.int .i64 0, .slice none 0 0, .int .i64 0, .int .i64 0] 24)).alloc (.cells (madeCells #[.float .f64 0] m) 37)).drew W3.heap.size (.int .i64 0) (.slice none 0 0) (.int .i64 0) (.int .i64 0) := ((Cells4.new W3 _ _ _ _ 24).alloc _).below (Below.refl _ _).drew
      have zB : Cells4 ((W3.alloc (.cells (madeCells #[.float .f64 0] m) 37)).alloc (.cells #[.int .i64 0, .slice none 0 0, .int .i64 0, .int .i64 0] 24)).drew (W3.heap.size + 1) (.int .i64 0) (.slice none 0 0) (.int .i64 0) (.int .i64 0) := by have := (Cells4.new (W3.alloc (.cells (madeCells #[.float .f64 0] m) 37)) (.int .i64 0) (.slice none 0 0) (.int .i64 0) (.int .i64 0) 24).below (Below.refl _ _).drew; simpa using this
      have HrA := Lib.hid rA
      have HrB := Lib.hid rB
      have HrC := Lib.hid rC
      have HbA := Lib.hid bA
      have HbB := Lib.hid bB
      have HbC := Lib.hid bC
      have HbD := Lib.hid bD
      have HbE := Lib.hid bE
      have HzA := Lib.hid zA
      have HzB := Lib.hid zB
      have HQA := Lib.hid (B3.out.trans (bA.mono hs3))
      have HQB := Lib.hid (B3.out.trans (bB.mono hs3))
      have HQC := Lib.hid (B3.out.trans (bC.mono hs3))
      clear rA rB rC bA bB bC bD bE zA zB
      go_region_held3 (fun w' => w'.cell? ⟨w.heap.size, 0, none⟩ = some (.int .i64 F.cols) ∧ w'.cell? ⟨w.heap.size, 1, none⟩ = some (.slice a n cap) ∧ w'.cell? ⟨w.heap.size, 2, none⟩ = some (.int .i64 F.rws) ∧ w'.cell? ⟨w.heap.size, 3, none⟩ = some (.int .i64 F.trn))
        (first
          | with_reducible exact ⟨((BL.out).cell (p := ⟨w.heap.size, 0, none⟩) hsz).trans c0, ((BL.out).cell (p := ⟨w.heap.size, 1, none⟩) hsz).trans c1, ((BL.out).cell (p := ⟨w.heap.size, 2, none⟩) hsz).trans c2, ((BL.out).cell (p := ⟨w.heap.size, 3, none⟩) hsz).trans c3⟩
          | with_reducible exact ⟨((BL.out.alloc BL.out.size _).cell (p := ⟨w.heap.size, 0, none⟩) hsz).trans c0, ((BL.out.alloc BL.out.size _).cell (p := ⟨w.heap.size, 1, none⟩) hsz).trans c1, ((BL.out.alloc BL.out.size _).cell (p := ⟨w.heap.size, 2, none⟩) hsz).trans c2, ((BL.out.alloc BL.out.size _).cell (p := ⟨w.heap.size, 3, none⟩) hsz).trans c3⟩
          | with_reducible exact ⟨((HbA.out).cell (p := ⟨w.heap.size, 0, none⟩) hsz).trans c0, ((HbA.out).cell (p := ⟨w.heap.size, 1, none⟩) hsz).trans c1, ((HbA.out).cell (p := ⟨w.heap.size, 2, none⟩) hsz).trans c2, ((HbA.out).cell (p := ⟨w.heap.size, 3, none⟩) hsz).trans c3⟩
          | with_reducible exact ⟨((HbB.out).cell (p := ⟨w.heap.size, 0, none⟩) hsz).trans c0, ((HbB.out).cell (p := ⟨w.heap.size, 1, none⟩) hsz).trans c1, ((HbB.out).cell (p := ⟨w.heap.size, 2, none⟩) hsz).trans c2, ((HbB.out).cell (p := ⟨w.heap.size, 3, none⟩) hsz).trans c3⟩
          | with_reducible exact ⟨((HbC.out).cell (p := ⟨w.heap.size, 0, none⟩) hsz).trans c0, ((HbC.out).cell (p := ⟨w.heap.size, 1, none⟩) hsz).trans c1, ((HbC.out).cell (p := ⟨w.heap.size, 2, none⟩) hsz).trans c2, ((HbC.out).cell (p := ⟨w.heap.size, 3, none⟩) hsz).trans c3⟩
          | with_reducible exact ⟨((HbD.out).cell (p := ⟨w.heap.size, 0, none⟩) hsz).trans c0, ((HbD.out).cell (p := ⟨w.heap.size, 1, none⟩) hsz).trans c1, ((HbD.out).cell (p := ⟨w.heap.size, 2, none⟩) hsz).trans c2, ((HbD.out).cell (p := ⟨w.heap.size, 3, none⟩) hsz).trans c3⟩
          | with_reducible exact ⟨((HbE.out).cell (p := ⟨w.heap.size, 0, none⟩) hsz).trans c0, ((HbE.out).cell (p := ⟨w.heap.size, 1, none⟩) hsz).trans c1, ((HbE.out).cell (p := ⟨w.heap.size, 2, none⟩) hsz).trans c2, ((HbE.out).cell (p := ⟨w.heap.size, 3, none⟩) hsz).trans c3⟩
          | with_reducible exact ⟨((below_put4 BL.out (Nat.le_refl _) _ _ _ _).cell (p := ⟨w.heap.size, 0, none⟩) hsz).trans c0, ((below_put4 BL.out (Nat.le_refl _) _ _ _ _).cell (p := ⟨w.heap.size, 1, none⟩) hsz).trans c1, ((below_put4 BL.out (Nat.le_refl _) _ _ _ _).cell (p := ⟨w.heap.size, 2, none⟩) hsz).trans c2, ((below_put4 BL.out (Nat.le_refl _) _ _ _ _).cell (p := ⟨w.heap.size, 3, none⟩) hsz).trans c3⟩
          | with_reducible exact ⟨((below_put4 BL.out (Nat.le_succ _) _ _ _ _).cell (p := ⟨w.heap.size, 0, none⟩) hsz).trans c0, ((below_put4 BL.out (Nat.le_succ _) _ _ _ _).cell (p := ⟨w.heap.size, 1, none⟩) hsz).trans c1, ((below_put4 BL.out (Nat.le_succ _) _ _ _ _).cell (p := ⟨w.heap.size, 2, none⟩) hsz).trans c2, ((below_put4 BL.out (Nat.le_succ _) _ _ _ _).cell (p := ⟨w.heap.size, 3, none⟩) hsz).trans c3⟩
          | go_keep)
        (first | (go_at_call 29; go_must (refine (RW.out _ _ (HR.out.below (by first | with_reducible exact HQA.out | with_reducible exact HQB.out | with_reducible exact HQC.out)) (by first | with_reducible exact HrA.out | with_reducible exact HrB.out | with_reducible exact HrC.out)).mono ?_; rintro e wL ⟨⟨ga, gn, gcp, rfl, hrow⟩, hbL⟩; have BL' : Below W3.heap.size W3 wL := (by first | with_reducible exact HbA.out.trans (hbL.mono (by simp; omega)) | with_reducible exact HbB.out.trans (hbL.mono (by simp; omega)) | with_reducible exact HbC.out.trans (hbL.mono (by simp))); have hszL := BL'.size; have hLb : w.heap.size < wL.heap.size := (by omega); (first | ((with_reducible have yy := HzA.out.below hbL); have YL := Lib.hid yy; obtain ⟨y0, y1, y2, y3, yf0, yf1, yf2, yf3⟩ := yy) | ((with_reducible have yy := HzB.out.below hbL); have YL := Lib.hid yy; obtain ⟨y0, y1, y2, y3, yf0, yf1, yf2, yf3⟩ := yy) | (have YN : True := trivial)); have BL := Lib.hid BL'; have RL := Lib.hid hrow; clear BL' hrow hbL)))
      all_goals
        refine hK' _ _ (Met.intro (hJ _ _ ?_))
        (repeat apply Exists.intro)
        refine ⟨?_, rfl⟩
        unfold ZeroCut
        (first
          | (refine ⟨wL.heap.size, ga, gn, gcp, rfl, rfl, ?_⟩; exact ⟨Cells4.new wL _ _ _ _ _, RL.out.alloc _, BL.out.alloc BL.out.size _⟩)
          | (refine ⟨W3.heap.size, ga, gn, gcp, rfl, rfl, ?_⟩; exact ⟨YL.out.put _ _ _ _, RL.out.put4 YL.out slice_ne _ _ _ _, below_put4 BL.out (Nat.le_refl _) _ _ _ _⟩)
          | (refine ⟨W3.heap.size + 1, ga, gn, gcp, rfl, rfl, ?_⟩; exact ⟨YL.out.put _ _ _ _, RL.out.put4 YL.out slice_ne _ _ _ _, below_put4 BL.out (Nat.le_succ _) _ _ _ _⟩))
    case rest =>
      obtain ⟨b5, ga, gn, gcp, rfl, rfl, D5, RG, BG⟩ := hcut
      obtain ⟨W5, rfl⟩ : ∃ x, x = wc := ⟨_, rfl⟩
      have B5 := Lib.hid (B3.out.trans (BG.mono B3.out.size))
      have HF5 := Lib.hid (HF.out.below BG)
      have HJ5 := Lib.hid (HJ.out.below BG)
      have RJ5 := Lib.hid (RJ.out.below BG)
      have HRG := Lib.hid RG
      have HD5 := Lib.hid D5
      obtain ⟨c0, c1, c2, c3, _, _, _, _⟩ := HF5.out
      obtain ⟨d0, d1, d2, d3, _, _, _, _⟩ := HJ5.out
      clear RG D5
      go_wp2_with (first
        | (go_at_call 16; go_must (refine (rsame7_calls F pa a pn n pcp cap _ RJ5.out (HR.out.below B5.out)).mono ?_; rintro e w7 ⟨rfl, hb7⟩; have B7 := Lib.hid (B5.out.trans (hb7.mono B5.out.size)); have HF7 := Lib.hid (HF5.out.below hb7); have HD7 := Lib.hid (HD5.out.below hb7); have RG7 := Lib.hid (HRG.out.below hb7); clear c0 c1 c2 c3 d0 d1 d2 d3; obtain ⟨c0, c1, c2, c3, _, _, _, _⟩ := HF7.out; obtain ⟨d0, d1, d2, d3, _, _, _, _⟩ := HD7.out; clear hb7))
        | (go_at_call 26; refine (live10_calls _).mono ?_; rintro e w8 ⟨rfl, hb8⟩))
      obtain rfl : n = gn := by have k1 := HRG.out.len; have k2 := HR.out.len; have k3 := e2.1; omega
      have EQ := Lib.hid (fun W (hW : Below w7.heap.size w7 W) => requal_calls ga a n gcp cap ys F.xs W (RG7.out.below hW) ((HR.out.below B7.out).below hW) e2)
      have G1 := Lib.hid (fun W (hW : Below w7.heap.size w7 W) => GT.out W ⟨F.cols, ys, F.rws + 1, F.trn + (F.cols + 1)⟩ ga n gcp (RG7.out.below hW) hgo)
      have G2 := Lib.hid (fun W (hW : Below w7.heap.size w7 W) => GT.out W F a n cap ((HR.out.below B7.out).below hW) hok)
      have IDD := Lib.hid ((Below.refl w7.heap.size w7).drew)
      have S1 := Lib.hid (fun W x y X (hx : FW x X) (hy : FW y X) => rsame1_calls x y W hx hy)
      have BI := Lib.hid (Below.refl w7.heap.size w7)
      go_region_held3 (fun w' => w'.cell? ⟨w.heap.size, 0, none⟩ = some (.int .i64 F.cols) ∧ w'.cell? ⟨w.heap.size, 1, none⟩ = some (.slice a n cap) ∧ w'.cell? ⟨w.heap.size, 2, none⟩ = some (.int .i64 F.rws) ∧ w'.cell? ⟨w.heap.size, 3, none⟩ = some (.int .i64 F.trn) ∧ w'.cell? ⟨b5, 0, none⟩ = some (.int .i64 F.cols) ∧ w'.cell? ⟨b5, 1, none⟩ = some (.slice ga n gcp) ∧ w'.cell? ⟨b5, 2, none⟩ = some (.int .i64 (F.rws + 1)) ∧ w'.cell? ⟨b5, 3, none⟩ = some (.int .i64 (F.trn + (F.cols + 1))))
        (first
          | with_reducible exact ⟨(HF7.out.below BL.out).c0, (HF7.out.below BL.out).c1, (HF7.out.below BL.out).c2, (HF7.out.below BL.out).c3, (HD7.out.below BL.out).c0, (HD7.out.below BL.out).c1, (HD7.out.below BL.out).c2, (HD7.out.below BL.out).c3⟩
          | with_reducible exact ⟨(HF7.out.below BP.out).c0, (HF7.out.below BP.out).c1, (HF7.out.below BP.out).c2, (HF7.out.below BP.out).c3, (HD7.out.below BP.out).c0, (HD7.out.below BP.out).c1, (HD7.out.below BP.out).c2, (HD7.out.below BP.out).c3⟩
          | with_reducible exact ⟨(HF7.out.below BQ.out).c0, (HF7.out.below BQ.out).c1, (HF7.out.below BQ.out).c2, (HF7.out.below BQ.out).c3, (HD7.out.below BQ.out).c0, (HD7.out.below BQ.out).c1, (HD7.out.below BQ.out).c2, (HD7.out.below BQ.out).c3⟩
          | with_reducible exact ⟨(HF7.out.below BA.out).c0, (HF7.out.below BA.out).c1, (HF7.out.below BA.out).c2, (HF7.out.below BA.out).c3, (HD7.out.below BA.out).c0, (HD7.out.below BA.out).c1, (HD7.out.below BA.out).c2, (HD7.out.below BA.out).c3⟩
          | with_reducible exact ⟨(HF7.out.below IDD.out).c0, (HF7.out.below IDD.out).c1, (HF7.out.below IDD.out).c2, (HF7.out.below IDD.out).c3, (HD7.out.below IDD.out).c0, (HD7.out.below IDD.out).c1, (HD7.out.below IDD.out).c2, (HD7.out.below IDD.out).c3⟩
          | go_keep)
        (first
          | (go_at_call 25; go_must ((with_reducible refine (EQ.out _ IDD.out).mono ?_); rintro e wa ⟨rfl, hba⟩; have BA := Lib.hid (IDD.out.trans (hba.mono (by simp))); clear hba))
          | (go_at_call 23; (with_reducible refine (G1.out _ (by first | with_reducible exact BA.out | with_reducible exact BQ.out)).mono ?_); rintro e wb ⟨⟨x1, rfl, hx1⟩, hbb⟩; (first | (with_reducible have BP' := BQ.out.trans (hbb.mono BQ.out.size)) | (with_reducible have BP' := BA.out.trans (hbb.mono BA.out.size))); have BP := Lib.hid BP'; have HX1 := Lib.hid hx1; clear BP' hx1 hbb)
          | (go_at_call 23; go_must ((with_reducible refine (G2.out _ (by first | with_reducible exact BA.out | with_reducible exact BP.out)).mono ?_); rintro e wc ⟨⟨x2, rfl, hx2⟩, hbc⟩; (first | (with_reducible have BQ' := BP.out.trans (hbc.mono BP.out.size)) | (with_reducible have BQ' := BA.out.trans (hbc.mono BA.out.size))); have BQ := Lib.hid BQ'; have HX2 := Lib.hid hx2; clear BQ' hx2 hbc))
          | (go_at_call 37; go_must ((refine (S1.out _ _ _ _ HX1.out (by rw [e3]; exact HX2.out)).mono ?_); rintro e wd' ⟨rfl, rfl⟩))
          | (go_at_call 26; go_must (refine (live10_calls _).mono ?_; rintro e w8 ⟨rfl, hb8⟩; (first | (with_reducible have BL' := BP.out.trans (hb8.mono BP.out.size)) | (with_reducible have BL' := BQ.out.trans (hb8.mono BQ.out.size))); have BL := Lib.hid BL'; clear BL' hb8)))
      all_goals
        go_wp2
        go_ret
        exact ⟨rfl, B7.out.trans (BL.out.mono B7.out.size)⟩
  · have e1 := RZ.1 hfu
    rw [e1] at RW
    have hfu1 : (200 : Int) ≤ F.rws ∨ (4096 : Int) < F.trn + F.cols + 1 := by unfold fullD at hfu; rw [Bool.or_eq_true] at hfu; rcases hfu with h | h <;> have := of_decide_eq_true h <;> omega
    clear RZ e1 hfu hm
    by_cases hf1 : (200 : Int) ≤ F.rws
    · clear hfu1
      go_enter Try.func11, Try.ntmps11
      go_wp2_with (first
        | (go_at_call 22; refine LH.out.mono ?_; rintro e w1 ⟨rfl, hb⟩; have B1 := Lib.hid (HB.out.trans (hb.mono (by simp))); have E3 := Lib.hid (C3.out.below hb); obtain ⟨c0, c1, c2, c3, _, _, _, _⟩ := E3.out; have hz1 := hb.size; simp at hz1; have hy1 : w.heap.size < w1.heap.size := (by omega); clear hb)
        | (go_at_call 31; go_must (refine (RD.out _ (HR.out.below B1.out)).mono ?_; rintro e w2 ⟨⟨pa, pn, pcp, rfl, hr2⟩, hb2⟩; have B2 := Lib.hid (B1.out.trans (hb2.mono B1.out.size)); have E3b := Lib.hid (E3.out.below hb2); have R2 := Lib.hid hr2; have hz2 := hb2.size; have hy2 : w.heap.size < w2.heap.size := (by omega); clear c0 c1 c2 c3 hr2 hb2)))
      obtain ⟨W3, hW3⟩ : ∃ x, x = w2.alloc (.cells #[.int .i64 F.cols, .slice pa pn pcp, .int .i64 F.rws, .int .i64 F.trn] 24) := ⟨_, rfl⟩
      have HJ := Lib.hid (Cells4.new w2 (.int .i64 F.cols) (.slice pa pn pcp) (.int .i64 F.rws) (.int .i64 F.trn) 24)
      have RJ := Lib.hid (R2.out.alloc (.cells #[.int .i64 F.cols, .slice pa pn pcp, .int .i64 F.rws, .int .i64 F.trn] 24))
      have HF := Lib.hid (E3b.out.alloc (.cells #[.int .i64 F.cols, .slice pa pn pcp, .int .i64 F.rws, .int .i64 F.trn] 24))
      have B3 := Lib.hid (B2.out.alloc B2.out.size (.cells #[.int .i64 F.cols, .slice pa pn pcp, .int .i64 F.rws, .int .i64 F.trn] 24))
      rw [← hW3] at HJ RJ HF B3
      rw [← hW3]
      have hb3 := HJ.out.lt
      clear E3b R2 hW3
      go_cut [5, 6] from 22 to 30 (fun s5 s6 wx => ZeroCut W3 6 fac0 s5 s6 wx)
      case first =>
        rename_i J K' hJ hK'
        have hs3 := B3.out.size
        obtain ⟨c0, c1, c2, c3, _, _, _, _⟩ := HF.out
        have hsz := HF.out.lt
        have rA : Row ((W3.alloc (.cells #[.int .i64 0, .slice none 0 0, .int .i64 0, .int .i64 0] 24)).alloc (.cells (madeCells #[.float .f64 0] m) 37)).drew (.slice (some ⟨W3.heap.size + 1, 0, none⟩) m m) (List.replicate m (some 0)) := by have := (row_mk (W3.alloc (.cells #[.int .i64 0, .slice none 0 0, .int .i64 0, .int .i64 0] 24)) m hm1 hm6).below (Below.refl _ _).drew; simpa using this
        have rB : Row ((W3.alloc (.cells (madeCells #[.float .f64 0] m) 37)).alloc (.cells #[.int .i64 0, .slice none 0 0, .int .i64 0, .int .i64 0] 24)).drew (.slice (some ⟨W3.heap.size, 0, none⟩) m m) (List.replicate m (some 0)) := ((row_mk W3 m hm1 hm6).alloc _).below (Below.refl _ _).drew
        have rC : Row (W3.alloc (.cells (madeCells #[.float .f64 0] m) 37)).drew (.slice (some ⟨W3.heap.size, 0, none⟩) m m) (List.replicate m (some 0)) := (row_mk W3 m hm1 hm6).below (Below.refl _ _).drew
        have bA : Below W3.heap.size W3 ((W3.alloc (.cells #[.int .i64 0, .slice none 0 0, .int .i64 0, .int .i64 0] 24)).alloc (.cells (madeCells #[.float .f64 0] m) 37)).drew := (((Below.refl W3.heap.size W3).alloc (Nat.le_refl _) _).alloc (by simp) _).drew
        have bB : Below W3.heap.size W3 ((W3.alloc (.cells (madeCells #[.float .f64 0] m) 37)).alloc (.cells #[.int .i64 0, .slice none 0 0, .int .i64 0, .int .i64 0] 24)).drew := (((Below.refl W3.heap.size W3).alloc (Nat.le_refl _) _).alloc (by simp) _).drew
        have bC : Below W3.heap.size W3 (W3.alloc (.cells (madeCells #[.float .f64 0] m) 37)).drew := ((Below.refl W3.heap.size W3).alloc (Nat.le_refl _) _).drew
        have bD : Below W3.heap.size W3 (W3.alloc (.cells #[.int .i64 0, .slice none 0 0, .int .i64 0, .int .i64 0] 24)).drew := ((Below.refl W3.heap.size W3).alloc (Nat.le_refl _) _).drew
        have bE : Below W3.heap.size W3 W3.drew := (Below.refl W3.heap.size W3).drew
        have zA : Cells4 ((W3.alloc (.cells #[.int .i64 0, .slice none 0 0, .int .i64 0, .int .i64 0] 24)).alloc (.cells (madeCells #[.float .f64 0] m) 37)).drew W3.heap.size (.int .i64 0) (.slice none 0 0) (.int .i64 0) (.int .i64 0) := ((Cells4.new W3 _ _ _ _ 24).alloc _).below (Below.refl _ _).drew
        have zB : Cells4 ((W3.alloc (.cells (madeCells #[.float .f64 0] m) 37)).alloc (.cells #[.int .i64 0, .slice none 0 0, .int .i64 0, .int .i64 0] 24)).drew (W3.heap.size + 1) (.int .i64 0) (.slice none 0 0) (.int .i64 0) (.int .i64 0) := by have := (Cells4.new (W3.alloc (.cells (madeCells #[.float .f64 0] m) 37)) (.int .i64 0) (.slice none 0 0) (.int .i64 0) (.int .i64 0) 24).below (Below.refl _ _).drew; simpa using this
        have HrA := Lib.hid rA
        have HrB := Lib.hid rB
        have HrC := Lib.hid rC
        have HbA := Lib.hid bA
        have HbB := Lib.hid bB
        have HbC := Lib.hid bC
        have HbD := Lib.hid bD
        have HbE := Lib.hid bE
        have HzA := Lib.hid zA
        have HzB := Lib.hid zB
        have HQA := Lib.hid (B3.out.trans (bA.mono hs3))
        have HQB := Lib.hid (B3.out.trans (bB.mono hs3))
        have HQC := Lib.hid (B3.out.trans (bC.mono hs3))
        clear rA rB rC bA bB bC bD bE zA zB
        go_region_held3 (fun w' => w'.cell? ⟨w.heap.size, 0, none⟩ = some (.int .i64 F.cols) ∧ w'.cell? ⟨w.heap.size, 1, none⟩ = some (.slice a n cap) ∧ w'.cell? ⟨w.heap.size, 2, none⟩ = some (.int .i64 F.rws) ∧ w'.cell? ⟨w.heap.size, 3, none⟩ = some (.int .i64 F.trn))
          (first
            | with_reducible exact ⟨((BL.out).cell (p := ⟨w.heap.size, 0, none⟩) hsz).trans c0, ((BL.out).cell (p := ⟨w.heap.size, 1, none⟩) hsz).trans c1, ((BL.out).cell (p := ⟨w.heap.size, 2, none⟩) hsz).trans c2, ((BL.out).cell (p := ⟨w.heap.size, 3, none⟩) hsz).trans c3⟩
            | with_reducible exact ⟨((BL.out.alloc BL.out.size _).cell (p := ⟨w.heap.size, 0, none⟩) hsz).trans c0, ((BL.out.alloc BL.out.size _).cell (p := ⟨w.heap.size, 1, none⟩) hsz).trans c1, ((BL.out.alloc BL.out.size _).cell (p := ⟨w.heap.size, 2, none⟩) hsz).trans c2, ((BL.out.alloc BL.out.size _).cell (p := ⟨w.heap.size, 3, none⟩) hsz).trans c3⟩
            | with_reducible exact ⟨((HbA.out).cell (p := ⟨w.heap.size, 0, none⟩) hsz).trans c0, ((HbA.out).cell (p := ⟨w.heap.size, 1, none⟩) hsz).trans c1, ((HbA.out).cell (p := ⟨w.heap.size, 2, none⟩) hsz).trans c2, ((HbA.out).cell (p := ⟨w.heap.size, 3, none⟩) hsz).trans c3⟩
            | with_reducible exact ⟨((HbB.out).cell (p := ⟨w.heap.size, 0, none⟩) hsz).trans c0, ((HbB.out).cell (p := ⟨w.heap.size, 1, none⟩) hsz).trans c1, ((HbB.out).cell (p := ⟨w.heap.size, 2, none⟩) hsz).trans c2, ((HbB.out).cell (p := ⟨w.heap.size, 3, none⟩) hsz).trans c3⟩
            | with_reducible exact ⟨((HbC.out).cell (p := ⟨w.heap.size, 0, none⟩) hsz).trans c0, ((HbC.out).cell (p := ⟨w.heap.size, 1, none⟩) hsz).trans c1, ((HbC.out).cell (p := ⟨w.heap.size, 2, none⟩) hsz).trans c2, ((HbC.out).cell (p := ⟨w.heap.size, 3, none⟩) hsz).trans c3⟩
            | with_reducible exact ⟨((HbD.out).cell (p := ⟨w.heap.size, 0, none⟩) hsz).trans c0, ((HbD.out).cell (p := ⟨w.heap.size, 1, none⟩) hsz).trans c1, ((HbD.out).cell (p := ⟨w.heap.size, 2, none⟩) hsz).trans c2, ((HbD.out).cell (p := ⟨w.heap.size, 3, none⟩) hsz).trans c3⟩
            | with_reducible exact ⟨((HbE.out).cell (p := ⟨w.heap.size, 0, none⟩) hsz).trans c0, ((HbE.out).cell (p := ⟨w.heap.size, 1, none⟩) hsz).trans c1, ((HbE.out).cell (p := ⟨w.heap.size, 2, none⟩) hsz).trans c2, ((HbE.out).cell (p := ⟨w.heap.size, 3, none⟩) hsz).trans c3⟩
            | with_reducible exact ⟨((below_put4 BL.out (Nat.le_refl _) _ _ _ _).cell (p := ⟨w.heap.size, 0, none⟩) hsz).trans c0, ((below_put4 BL.out (Nat.le_refl _) _ _ _ _).cell (p := ⟨w.heap.size, 1, none⟩) hsz).trans c1, ((below_put4 BL.out (Nat.le_refl _) _ _ _ _).cell (p := ⟨w.heap.size, 2, none⟩) hsz).trans c2, ((below_put4 BL.out (Nat.le_refl _) _ _ _ _).cell (p := ⟨w.heap.size, 3, none⟩) hsz).trans c3⟩
            | with_reducible exact ⟨((below_put4 BL.out (Nat.le_succ _) _ _ _ _).cell (p := ⟨w.heap.size, 0, none⟩) hsz).trans c0, ((below_put4 BL.out (Nat.le_succ _) _ _ _ _).cell (p := ⟨w.heap.size, 1, none⟩) hsz).trans c1, ((below_put4 BL.out (Nat.le_succ _) _ _ _ _).cell (p := ⟨w.heap.size, 2, none⟩) hsz).trans c2, ((below_put4 BL.out (Nat.le_succ _) _ _ _ _).cell (p := ⟨w.heap.size, 3, none⟩) hsz).trans c3⟩
            | go_keep)
          (first | (go_at_call 29; go_must (refine (RW.out _ _ (HR.out.below (by first | with_reducible exact HQA.out | with_reducible exact HQB.out | with_reducible exact HQC.out)) (by first | with_reducible exact HrA.out | with_reducible exact HrB.out | with_reducible exact HrC.out)).mono ?_; rintro e wL ⟨⟨ga, gn, gcp, rfl, hrow⟩, hbL⟩; have BL' : Below W3.heap.size W3 wL := (by first | with_reducible exact HbA.out.trans (hbL.mono (by simp; omega)) | with_reducible exact HbB.out.trans (hbL.mono (by simp; omega)) | with_reducible exact HbC.out.trans (hbL.mono (by simp))); have hszL := BL'.size; have hLb : w.heap.size < wL.heap.size := (by omega); (first | ((with_reducible have yy := HzA.out.below hbL); have YL := Lib.hid yy; obtain ⟨y0, y1, y2, y3, yf0, yf1, yf2, yf3⟩ := yy) | ((with_reducible have yy := HzB.out.below hbL); have YL := Lib.hid yy; obtain ⟨y0, y1, y2, y3, yf0, yf1, yf2, yf3⟩ := yy) | (have YN : True := trivial)); have BL := Lib.hid BL'; have RL := Lib.hid hrow; clear BL' hrow hbL)))
        all_goals
          refine hK' _ _ (Met.intro (hJ _ _ ?_))
          (repeat apply Exists.intro)
          refine ⟨?_, rfl⟩
          unfold ZeroCut
          (first
            | (refine ⟨wL.heap.size, ga, gn, gcp, rfl, rfl, ?_⟩; exact ⟨Cells4.new wL _ _ _ _ _, RL.out.alloc _, BL.out.alloc BL.out.size _⟩)
            | (refine ⟨W3.heap.size, ga, gn, gcp, rfl, rfl, ?_⟩; exact ⟨YL.out.put _ _ _ _, RL.out.put4 YL.out slice_ne _ _ _ _, below_put4 BL.out (Nat.le_refl _) _ _ _ _⟩)
            | (refine ⟨W3.heap.size + 1, ga, gn, gcp, rfl, rfl, ?_⟩; exact ⟨YL.out.put _ _ _ _, RL.out.put4 YL.out slice_ne _ _ _ _, below_put4 BL.out (Nat.le_succ _) _ _ _ _⟩))
      case rest =>
        obtain ⟨b5, ga, gn, gcp, rfl, rfl, D5, RG, BG⟩ := hcut
        obtain ⟨W5, rfl⟩ : ∃ x, x = wc := ⟨_, rfl⟩
        have B5 := Lib.hid (B3.out.trans (BG.mono B3.out.size))
        have HF5 := Lib.hid (HF.out.below BG)
        have HJ5 := Lib.hid (HJ.out.below BG)
        have RJ5 := Lib.hid (RJ.out.below BG)
        have HRG := Lib.hid RG
        have HD5 := Lib.hid D5
        obtain ⟨c0, c1, c2, c3, _, _, _, _⟩ := HF5.out
        obtain ⟨d0, d1, d2, d3, _, _, _, _⟩ := HJ5.out
        clear RG D5
        go_wp2_with (first
          | (go_at_call 16; go_must (refine (rsame7_calls F pa a pn n pcp cap _ RJ5.out (HR.out.below B5.out)).mono ?_; rintro e w7 ⟨rfl, hb7⟩; have B7 := Lib.hid (B5.out.trans (hb7.mono B5.out.size)); have HF7 := Lib.hid (HF5.out.below hb7); have HD7 := Lib.hid (HD5.out.below hb7); have RG7 := Lib.hid (HRG.out.below hb7); clear c0 c1 c2 c3 d0 d1 d2 d3; obtain ⟨c0, c1, c2, c3, _, _, _, _⟩ := HF7.out; obtain ⟨d0, d1, d2, d3, _, _, _, _⟩ := HD7.out; clear hb7))
          | (go_at_call 26; refine (live10_calls _).mono ?_; rintro e w8 ⟨rfl, hb8⟩))
        go_ret
        exact ⟨rfl, B7.out.trans (hb8.mono B7.out.size)⟩
    · have hf2 : (4096 : Int) < F.trn + F.cols + 1 := by omega
      clear hfu1
      go_enter Try.func11, Try.ntmps11
      go_wp2_with (first
        | (go_at_call 22; refine LH.out.mono ?_; rintro e w1 ⟨rfl, hb⟩; have B1 := Lib.hid (HB.out.trans (hb.mono (by simp))); have E3 := Lib.hid (C3.out.below hb); obtain ⟨c0, c1, c2, c3, _, _, _, _⟩ := E3.out; have hz1 := hb.size; simp at hz1; have hy1 : w.heap.size < w1.heap.size := (by omega); clear hb)
        | (go_at_call 31; go_must (refine (RD.out _ (HR.out.below B1.out)).mono ?_; rintro e w2 ⟨⟨pa, pn, pcp, rfl, hr2⟩, hb2⟩; have B2 := Lib.hid (B1.out.trans (hb2.mono B1.out.size)); have E3b := Lib.hid (E3.out.below hb2); have R2 := Lib.hid hr2; have hz2 := hb2.size; have hy2 : w.heap.size < w2.heap.size := (by omega); clear c0 c1 c2 c3 hr2 hb2)))
      obtain ⟨W3, hW3⟩ : ∃ x, x = w2.alloc (.cells #[.int .i64 F.cols, .slice pa pn pcp, .int .i64 F.rws, .int .i64 F.trn] 24) := ⟨_, rfl⟩
      have HJ := Lib.hid (Cells4.new w2 (.int .i64 F.cols) (.slice pa pn pcp) (.int .i64 F.rws) (.int .i64 F.trn) 24)
      have RJ := Lib.hid (R2.out.alloc (.cells #[.int .i64 F.cols, .slice pa pn pcp, .int .i64 F.rws, .int .i64 F.trn] 24))
      have HF := Lib.hid (E3b.out.alloc (.cells #[.int .i64 F.cols, .slice pa pn pcp, .int .i64 F.rws, .int .i64 F.trn] 24))
      have B3 := Lib.hid (B2.out.alloc B2.out.size (.cells #[.int .i64 F.cols, .slice pa pn pcp, .int .i64 F.rws, .int .i64 F.trn] 24))
      rw [← hW3] at HJ RJ HF B3
      rw [← hW3]
      have hb3 := HJ.out.lt
      clear E3b R2 hW3
      go_cut [5, 6] from 22 to 30 (fun s5 s6 wx => ZeroCut W3 6 fac0 s5 s6 wx)
      case first =>
        rename_i J K' hJ hK'
        have hs3 := B3.out.size
        obtain ⟨c0, c1, c2, c3, _, _, _, _⟩ := HF.out
        have hsz := HF.out.lt
        have rA : Row ((W3.alloc (.cells #[.int .i64 0, .slice none 0 0, .int .i64 0, .int .i64 0] 24)).alloc (.cells (madeCells #[.float .f64 0] m) 37)).drew (.slice (some ⟨W3.heap.size + 1, 0, none⟩) m m) (List.replicate m (some 0)) := by have := (row_mk (W3.alloc (.cells #[.int .i64 0, .slice none 0 0, .int .i64 0, .int .i64 0] 24)) m hm1 hm6).below (Below.refl _ _).drew; simpa using this
        have rB : Row ((W3.alloc (.cells (madeCells #[.float .f64 0] m) 37)).alloc (.cells #[.int .i64 0, .slice none 0 0, .int .i64 0, .int .i64 0] 24)).drew (.slice (some ⟨W3.heap.size, 0, none⟩) m m) (List.replicate m (some 0)) := ((row_mk W3 m hm1 hm6).alloc _).below (Below.refl _ _).drew
        have rC : Row (W3.alloc (.cells (madeCells #[.float .f64 0] m) 37)).drew (.slice (some ⟨W3.heap.size, 0, none⟩) m m) (List.replicate m (some 0)) := (row_mk W3 m hm1 hm6).below (Below.refl _ _).drew
        have bA : Below W3.heap.size W3 ((W3.alloc (.cells #[.int .i64 0, .slice none 0 0, .int .i64 0, .int .i64 0] 24)).alloc (.cells (madeCells #[.float .f64 0] m) 37)).drew := (((Below.refl W3.heap.size W3).alloc (Nat.le_refl _) _).alloc (by simp) _).drew
        have bB : Below W3.heap.size W3 ((W3.alloc (.cells (madeCells #[.float .f64 0] m) 37)).alloc (.cells #[.int .i64 0, .slice none 0 0, .int .i64 0, .int .i64 0] 24)).drew := (((Below.refl W3.heap.size W3).alloc (Nat.le_refl _) _).alloc (by simp) _).drew
        have bC : Below W3.heap.size W3 (W3.alloc (.cells (madeCells #[.float .f64 0] m) 37)).drew := ((Below.refl W3.heap.size W3).alloc (Nat.le_refl _) _).drew
        have bD : Below W3.heap.size W3 (W3.alloc (.cells #[.int .i64 0, .slice none 0 0, .int .i64 0, .int .i64 0] 24)).drew := ((Below.refl W3.heap.size W3).alloc (Nat.le_refl _) _).drew
        have bE : Below W3.heap.size W3 W3.drew := (Below.refl W3.heap.size W3).drew
        have zA : Cells4 ((W3.alloc (.cells #[.int .i64 0, .slice none 0 0, .int .i64 0, .int .i64 0] 24)).alloc (.cells (madeCells #[.float .f64 0] m) 37)).drew W3.heap.size (.int .i64 0) (.slice none 0 0) (.int .i64 0) (.int .i64 0) := ((Cells4.new W3 _ _ _ _ 24).alloc _).below (Below.refl _ _).drew
        have zB : Cells4 ((W3.alloc (.cells (madeCells #[.float .f64 0] m) 37)).alloc (.cells #[.int .i64 0, .slice none 0 0, .int .i64 0, .int .i64 0] 24)).drew (W3.heap.size + 1) (.int .i64 0) (.slice none 0 0) (.int .i64 0) (.int .i64 0) := by have := (Cells4.new (W3.alloc (.cells (madeCells #[.float .f64 0] m) 37)) (.int .i64 0) (.slice none 0 0) (.int .i64 0) (.int .i64 0) 24).below (Below.refl _ _).drew; simpa using this
        have HrA := Lib.hid rA
        have HrB := Lib.hid rB
        have HrC := Lib.hid rC
        have HbA := Lib.hid bA
        have HbB := Lib.hid bB
        have HbC := Lib.hid bC
        have HbD := Lib.hid bD
        have HbE := Lib.hid bE
        have HzA := Lib.hid zA
        have HzB := Lib.hid zB
        have HQA := Lib.hid (B3.out.trans (bA.mono hs3))
        have HQB := Lib.hid (B3.out.trans (bB.mono hs3))
        have HQC := Lib.hid (B3.out.trans (bC.mono hs3))
        clear rA rB rC bA bB bC bD bE zA zB
        go_region_held3 (fun w' => w'.cell? ⟨w.heap.size, 0, none⟩ = some (.int .i64 F.cols) ∧ w'.cell? ⟨w.heap.size, 1, none⟩ = some (.slice a n cap) ∧ w'.cell? ⟨w.heap.size, 2, none⟩ = some (.int .i64 F.rws) ∧ w'.cell? ⟨w.heap.size, 3, none⟩ = some (.int .i64 F.trn))
          (first
            | with_reducible exact ⟨((BL.out).cell (p := ⟨w.heap.size, 0, none⟩) hsz).trans c0, ((BL.out).cell (p := ⟨w.heap.size, 1, none⟩) hsz).trans c1, ((BL.out).cell (p := ⟨w.heap.size, 2, none⟩) hsz).trans c2, ((BL.out).cell (p := ⟨w.heap.size, 3, none⟩) hsz).trans c3⟩
            | with_reducible exact ⟨((BL.out.alloc BL.out.size _).cell (p := ⟨w.heap.size, 0, none⟩) hsz).trans c0, ((BL.out.alloc BL.out.size _).cell (p := ⟨w.heap.size, 1, none⟩) hsz).trans c1, ((BL.out.alloc BL.out.size _).cell (p := ⟨w.heap.size, 2, none⟩) hsz).trans c2, ((BL.out.alloc BL.out.size _).cell (p := ⟨w.heap.size, 3, none⟩) hsz).trans c3⟩
            | with_reducible exact ⟨((HbA.out).cell (p := ⟨w.heap.size, 0, none⟩) hsz).trans c0, ((HbA.out).cell (p := ⟨w.heap.size, 1, none⟩) hsz).trans c1, ((HbA.out).cell (p := ⟨w.heap.size, 2, none⟩) hsz).trans c2, ((HbA.out).cell (p := ⟨w.heap.size, 3, none⟩) hsz).trans c3⟩
            | with_reducible exact ⟨((HbB.out).cell (p := ⟨w.heap.size, 0, none⟩) hsz).trans c0, ((HbB.out).cell (p := ⟨w.heap.size, 1, none⟩) hsz).trans c1, ((HbB.out).cell (p := ⟨w.heap.size, 2, none⟩) hsz).trans c2, ((HbB.out).cell (p := ⟨w.heap.size, 3, none⟩) hsz).trans c3⟩
            | with_reducible exact ⟨((HbC.out).cell (p := ⟨w.heap.size, 0, none⟩) hsz).trans c0, ((HbC.out).cell (p := ⟨w.heap.size, 1, none⟩) hsz).trans c1, ((HbC.out).cell (p := ⟨w.heap.size, 2, none⟩) hsz).trans c2, ((HbC.out).cell (p := ⟨w.heap.size, 3, none⟩) hsz).trans c3⟩
            | with_reducible exact ⟨((HbD.out).cell (p := ⟨w.heap.size, 0, none⟩) hsz).trans c0, ((HbD.out).cell (p := ⟨w.heap.size, 1, none⟩) hsz).trans c1, ((HbD.out).cell (p := ⟨w.heap.size, 2, none⟩) hsz).trans c2, ((HbD.out).cell (p := ⟨w.heap.size, 3, none⟩) hsz).trans c3⟩
            | with_reducible exact ⟨((HbE.out).cell (p := ⟨w.heap.size, 0, none⟩) hsz).trans c0, ((HbE.out).cell (p := ⟨w.heap.size, 1, none⟩) hsz).trans c1, ((HbE.out).cell (p := ⟨w.heap.size, 2, none⟩) hsz).trans c2, ((HbE.out).cell (p := ⟨w.heap.size, 3, none⟩) hsz).trans c3⟩
            | with_reducible exact ⟨((below_put4 BL.out (Nat.le_refl _) _ _ _ _).cell (p := ⟨w.heap.size, 0, none⟩) hsz).trans c0, ((below_put4 BL.out (Nat.le_refl _) _ _ _ _).cell (p := ⟨w.heap.size, 1, none⟩) hsz).trans c1, ((below_put4 BL.out (Nat.le_refl _) _ _ _ _).cell (p := ⟨w.heap.size, 2, none⟩) hsz).trans c2, ((below_put4 BL.out (Nat.le_refl _) _ _ _ _).cell (p := ⟨w.heap.size, 3, none⟩) hsz).trans c3⟩
            | with_reducible exact ⟨((below_put4 BL.out (Nat.le_succ _) _ _ _ _).cell (p := ⟨w.heap.size, 0, none⟩) hsz).trans c0, ((below_put4 BL.out (Nat.le_succ _) _ _ _ _).cell (p := ⟨w.heap.size, 1, none⟩) hsz).trans c1, ((below_put4 BL.out (Nat.le_succ _) _ _ _ _).cell (p := ⟨w.heap.size, 2, none⟩) hsz).trans c2, ((below_put4 BL.out (Nat.le_succ _) _ _ _ _).cell (p := ⟨w.heap.size, 3, none⟩) hsz).trans c3⟩
            | go_keep)
          (first | (go_at_call 29; go_must (refine (RW.out _ _ (HR.out.below (by first | with_reducible exact HQA.out | with_reducible exact HQB.out | with_reducible exact HQC.out)) (by first | with_reducible exact HrA.out | with_reducible exact HrB.out | with_reducible exact HrC.out)).mono ?_; rintro e wL ⟨⟨ga, gn, gcp, rfl, hrow⟩, hbL⟩; have BL' : Below W3.heap.size W3 wL := (by first | with_reducible exact HbA.out.trans (hbL.mono (by simp; omega)) | with_reducible exact HbB.out.trans (hbL.mono (by simp; omega)) | with_reducible exact HbC.out.trans (hbL.mono (by simp))); have hszL := BL'.size; have hLb : w.heap.size < wL.heap.size := (by omega); (first | ((with_reducible have yy := HzA.out.below hbL); have YL := Lib.hid yy; obtain ⟨y0, y1, y2, y3, yf0, yf1, yf2, yf3⟩ := yy) | ((with_reducible have yy := HzB.out.below hbL); have YL := Lib.hid yy; obtain ⟨y0, y1, y2, y3, yf0, yf1, yf2, yf3⟩ := yy) | (have YN : True := trivial)); have BL := Lib.hid BL'; have RL := Lib.hid hrow; clear BL' hrow hbL)))
        all_goals
          refine hK' _ _ (Met.intro (hJ _ _ ?_))
          (repeat apply Exists.intro)
          refine ⟨?_, rfl⟩
          unfold ZeroCut
          (first
            | (refine ⟨wL.heap.size, ga, gn, gcp, rfl, rfl, ?_⟩; exact ⟨Cells4.new wL _ _ _ _ _, RL.out.alloc _, BL.out.alloc BL.out.size _⟩)
            | (refine ⟨W3.heap.size, ga, gn, gcp, rfl, rfl, ?_⟩; exact ⟨YL.out.put _ _ _ _, RL.out.put4 YL.out slice_ne _ _ _ _, below_put4 BL.out (Nat.le_refl _) _ _ _ _⟩)
            | (refine ⟨W3.heap.size + 1, ga, gn, gcp, rfl, rfl, ?_⟩; exact ⟨YL.out.put _ _ _ _, RL.out.put4 YL.out slice_ne _ _ _ _, below_put4 BL.out (Nat.le_succ _) _ _ _ _⟩))
      case rest =>
        obtain ⟨b5, ga, gn, gcp, rfl, rfl, D5, RG, BG⟩ := hcut
        obtain ⟨W5, rfl⟩ : ∃ x, x = wc := ⟨_, rfl⟩
        have B5 := Lib.hid (B3.out.trans (BG.mono B3.out.size))
        have HF5 := Lib.hid (HF.out.below BG)
        have HJ5 := Lib.hid (HJ.out.below BG)
        have RJ5 := Lib.hid (RJ.out.below BG)
        have HRG := Lib.hid RG
        have HD5 := Lib.hid D5
        obtain ⟨c0, c1, c2, c3, _, _, _, _⟩ := HF5.out
        obtain ⟨d0, d1, d2, d3, _, _, _, _⟩ := HJ5.out
        clear RG D5
        go_wp2_with (first
          | (go_at_call 16; go_must (refine (rsame7_calls F pa a pn n pcp cap _ RJ5.out (HR.out.below B5.out)).mono ?_; rintro e w7 ⟨rfl, hb7⟩; have B7 := Lib.hid (B5.out.trans (hb7.mono B5.out.size)); have HF7 := Lib.hid (HF5.out.below hb7); have HD7 := Lib.hid (HD5.out.below hb7); have RG7 := Lib.hid (HRG.out.below hb7); clear c0 c1 c2 c3 d0 d1 d2 d3; obtain ⟨c0, c1, c2, c3, _, _, _, _⟩ := HF7.out; obtain ⟨d0, d1, d2, d3, _, _, _, _⟩ := HD7.out; clear hb7))
          | (go_at_call 26; refine (live10_calls _).mono ?_; rintro e w8 ⟨rfl, hb8⟩))
        go_ret
        exact ⟨rfl, B7.out.trans (hb8.mono B7.out.size)⟩

end Go.Proofs.Ytaabfjfaljhjmaa
