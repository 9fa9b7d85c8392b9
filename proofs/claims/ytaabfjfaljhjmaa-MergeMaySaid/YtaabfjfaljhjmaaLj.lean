/- MergeMay, walked. -/
import Derived.Test.YtaabfjfaljhjmaaMj
import Derived.Test.YtaabfjfaljhjmaaOh
import Derived.Test.YtaabfjfaljhjmaaOe
namespace Go.Proofs.Ytaabfjfaljhjmaa
open Go.RowKit Lv Go.Shelf
open Ieee (double Format Datum Toward)
attribute [local go_sem] Oper.semAt_some run_store_float drewN_alloc drewN_setCell
attribute [local go_sem high] run_maxI

theorem two_refused {A B : FacD} (h : (twoD A B).2 ≠ 0) : (twoD A B).1 = fac0 := by
  by_cases c1 : twoEarly A B = 0
  · rw [twoD_loop c1 rfl] at h ⊢
    split
    · rfl
    · rename_i c2
      rw [if_neg c2] at h
      exact absurd rfl h
  · rw [twoD_early rfl c1]

set_option maxRecDepth 100000 in
set_option maxHeartbeats 4000000 in
theorem mergeMay_walk (w : World) (A : FacD) (a : Option Addr) (n cap : Nat) (h : Row w (.slice a n cap) A.xs) (B : FacD) (b : Option Addr) (m d : Nat) (hl : Row w (.slice b m d) B.xs) :
    Calls Try.prog 5 #[.agg #[.int .i64 A.cols, .slice a n cap, .int .i64 A.rws, .int .i64 A.trn], .agg #[.int .i64 B.cols, .slice b m d, .int .i64 B.rws, .int .i64 B.trn]] w fun e w' => e = .returned (.bool true) ∧ Below w.heap.size w w' := by
  have hB1 := (Below.refl w.heap.size w).alloc (Nat.le_refl _) (.cells #[.int .i64 A.cols, .slice a n cap, .int .i64 A.rws, .int .i64 A.trn] 24)
  have hB := hB1.alloc (by simp) (.cells #[.int .i64 B.cols, .slice b m d, .int .i64 B.rws, .int .i64 B.trn] 24)
  have HR := Lib.hid h
  have HL := Lib.hid hl
  have HB := Lib.hid hB
  by_cases h1 : 60 < n
  · have h1i : (60 : Int) < (n : Int) := by omega
    clear h hl hB1
    go_enter Try.func5, Try.ntmps5
    go_wp2_with (go_at_call 13; refine (live13_calls _).mono ?_; rintro e w6 ⟨rfl, hb6⟩)
    go_ret
    exact ⟨rfl, hB.trans (hb6.mono (by simp; omega))⟩
  have h1i : ¬ (60 : Int) < (n : Int) := by omega
  by_cases h2 : 60 < m
  · have h2i : (60 : Int) < (m : Int) := by omega
    clear h hl hB1
    go_enter Try.func5, Try.ntmps5
    go_wp2_with (go_at_call 13; refine (live13_calls _).mono ?_; rintro e w6 ⟨rfl, hb6⟩)
    go_ret
    exact ⟨rfl, hB.trans (hb6.mono (by simp; omega))⟩
  have h2i : ¬ (60 : Int) < (m : Int) := by omega
  have C3 := Lib.hid ((Cells4.new w (.int .i64 A.cols) (.slice a n cap) (.int .i64 A.rws) (.int .i64 A.trn) 24).alloc (.cells #[.int .i64 B.cols, .slice b m d, .int .i64 B.rws, .int .i64 B.trn] 24))
  have hd3 : Cells4 ((w.alloc (.cells #[.int .i64 A.cols, .slice a n cap, .int .i64 A.rws, .int .i64 A.trn] 24)).alloc (.cells #[.int .i64 B.cols, .slice b m d, .int .i64 B.rws, .int .i64 B.trn] 24)) (w.heap.size + 1) (.int .i64 B.cols) (.slice b m d) (.int .i64 B.rws) (.int .i64 B.trn) := by
    have := Cells4.new (w.alloc (.cells #[.int .i64 A.cols, .slice a n cap, .int .i64 A.rws, .int .i64 A.trn] 24)) (.int .i64 B.cols) (.slice b m d) (.int .i64 B.rws) (.int .i64 B.trn) 24
    simpa using this
  have D3 := Lib.hid hd3
  clear hd3
  have TW := Lib.hid (fun W hF hL => two_calls A B a b n cap m d W hF hL)
  have HW := Lib.hid (And.intro (row_wd h) (row_wd hl))
  obtain ⟨R, hR⟩ : ∃ R, R = twoD A B := ⟨_, rfl⟩
  rw [← hR] at TW
  obtain ⟨G, ge⟩ := R
  obtain ⟨W2, hW2⟩ : ∃ x, x = (w.alloc (.cells #[.int .i64 A.cols, .slice a n cap, .int .i64 A.rws, .int .i64 A.trn] 24)).alloc (.cells #[.int .i64 B.cols, .slice b m d, .int .i64 B.rws, .int .i64 B.trn] 24) := ⟨_, rfl⟩
  rw [← hW2] at C3 D3 HB
  by_cases hge : ge ≠ 0
  · have RR := two_refused (A := A) (B := B) (by rw [← hR]; exact hge)
    rw [← hR] at RR
    dsimp only at RR
    subst RR
    have hne : (ge != 0) = true := by simpa using hge
    clear h hl hR hB hB1 hge
    go_enter Try.func5, Try.ntmps5
    go_upto_region 3 with (fail)
    rw [← hW2]
    clear hW2
    go_cut [5, 6] from 19 to 24 (fun s5 s6 wx => FacCut W2 fac0 ge s5 s6 wx)
    case first =>
      obtain ⟨c0, c1, c2, c3, _, _, _, _⟩ := C3.out
      obtain ⟨d0, d1, d2, d3, _, _, _, _⟩ := D3.out
      go_wp2_with (go_at_call 14; go_must (refine (TW.out _ (HR.out.below HB.out) (HL.out.below HB.out)).mono ?_; rintro e wL ⟨⟨ga, gn, gcp, he, hrow⟩, hbL⟩; dsimp only at he hrow; subst he))
      go_meet
      case rel => exact ⟨_, rfl, rfl, FacAt.new (F := fac0) hrow, hbL.alloc hbL.size _⟩
    case rest =>
      obtain ⟨b5, rfl, rfl, F5, B5⟩ := hcut
      obtain ⟨W5, rfl⟩ : ∃ x, x = wc := ⟨_, rfl⟩
      have B5' := Lib.hid (HB.out.trans (B5.mono HB.out.size))
      obtain ⟨fa, fn, fcp, fC, fR⟩ := F5
      have FR := Lib.hid fR
      obtain ⟨x0, x1, x2, x3, _, _, _, _⟩ := fC
      clear fR TW HW C3 D3
      go_wp2_with (first
        | (go_at_call 16; go_must (refine (rsame7_calls fac0 fa none fn 0 fcp 0 _ FR.out (row_nil _)).mono ?_; rintro e w7 ⟨rfl, hb7⟩; have B7 := Lib.hid (B5'.out.trans (hb7.mono B5'.out.size)); clear hb7))
        | (go_at_call 13; refine (live13_calls _).mono ?_; rintro e w8 ⟨rfl, hb8⟩))
      go_ret
      exact ⟨rfl, B7.out.trans (hb8.mono B7.out.size)⟩
  · obtain rfl : ge = 0 := by simpa using hge
    have hok : A.ok = true := by
      by_cases e : twoEarly A B = 0
      · exact (two_zero e).1
      · have := twoD_early (A := A) (B := B) rfl e
        rw [← hR] at this
        exact absurd (Prod.mk.inj this).2.symm e
    obtain ⟨ac, ax, ar, at'⟩ := A
    obtain ⟨bc, bx, br, bt⟩ := B
    obtain ⟨gc, gx, gr, gt⟩ := G
    obtain ⟨c, rfl⟩ := Int.eq_ofNat_of_zero_le (show 0 ≤ ac by have := ok_cols hok; dsimp only at this; omega)
    obtain ⟨g1, g2, g3, g4, g5, g6, g7, g8⟩ := merge_grows (A := ⟨(c : Int), ax, ar, at'⟩) (B := ⟨bc, bx, br, bt⟩) (c := c) rfl (fun i _ => HW.out.1 i) (fun i _ => HW.out.2 i) hR.symm
    dsimp only at g4 g5 g6 g7 g8
    subst g4 g5 g6 g7
    have hckA : checkP (c : Int) ax ar at' = true := g1
    have hckB : checkP (c : Int) bx br bt = true := g2
    have hckG : checkP (c : Int) gx (ar + br) (max at' bt + sizeI (c : Int)) = true := g3
    obtain ⟨k1, k6, _, _⟩ := check_parts hckA
    obtain ⟨r0, r1, t0, t1⟩ := ok_rt hckA
    obtain ⟨s0, s1, u0, u1⟩ := ok_rt hckB
    obtain ⟨z3, z28⟩ := sizeI_in (c := (c : Int)) (by omega) (by omega)
    have CST := Lib.hid (fun w => cost_calls (c : Int) w)
    obtain ⟨z, hz⟩ : ∃ z, z = sizeI (c : Int) := ⟨_, rfl⟩
    rw [← hz] at CST z3 z28 hckG
    rw [← hz] at TW
    have GR := Lib.hid g8
    have CKA := Lib.hid (fun W hW => (by have := check_calls (c : Int) ar at' a n cap ax W hW; rw [hckA] at this; exact this : Calls Try.prog 22 #[.agg #[.int .i64 (c : Int), .slice a n cap, .int .i64 ar, .int .i64 at']] W fun e w' => e = .returned (.bool true) ∧ Below W.heap.size W w'))
    have CKB := Lib.hid (fun W hW => (by have := check_calls (c : Int) br bt b m d bx W hW; rw [hckB] at this; exact this : Calls Try.prog 22 #[.agg #[.int .i64 (c : Int), .slice b m d, .int .i64 br, .int .i64 bt]] W fun e w' => e = .returned (.bool true) ∧ Below W.heap.size W w'))
    have CKG := Lib.hid (fun W f q x hW => (by have := check_calls (c : Int) (ar + br) (max at' bt + z) f q x gx W hW; rw [hckG] at this; exact this : Calls Try.prog 22 #[.agg #[.int .i64 (c : Int), .slice f q x, .int .i64 (ar + br), .int .i64 (max at' bt + z)]] W fun e w' => e = .returned (.bool true) ∧ Below W.heap.size W w'))
    have GTA := Lib.hid (fun W (hW : Row W (.slice a n cap) ax) k (hk : k ≤ c) => get_calls c k k ar at' a n cap ax W hW hckA hk hk (Nat.le_refl _))
    have GTB := Lib.hid (fun W (hW : Row W (.slice b m d) bx) k (hk : k ≤ c) => get_calls c k k br bt b m d bx W hW hckB hk hk (Nat.le_refl _))
    have GTG := Lib.hid (fun W f q x (hW : Row W (.slice f q x) gx) k (hk : k ≤ c) => get_calls c k k (ar + br) (max at' bt + z) f q x gx W hW hckG hk hk (Nat.le_refl _))
    have hmx : 0 ≤ max at' bt ∧ max at' bt ≤ 4096 := by omega
    obtain ⟨hm0, hm1⟩ := hmx
    clear h hl hR hB hB1 hckA hckB hckG hge hz g1 g2 g3 g8 hok
    go_enter Try.func5, Try.ntmps5
    go_upto_region 3 with (fail)
    rw [← hW2]
    clear hW2
    go_cut [5, 6] from 19 to 24 (fun s5 s6 wx => FacCut W2 ⟨(c : Int), gx, ar + br, max at' bt + z⟩ 0 s5 s6 wx)
    case first =>
      obtain ⟨c0, c1, c2, c3, _, _, _, _⟩ := C3.out
      obtain ⟨d0, d1, d2, d3, _, _, _, _⟩ := D3.out
      go_wp2_with (go_at_call 14; go_must (refine (TW.out _ (HR.out.below HB.out) (HL.out.below HB.out)).mono ?_; rintro e wL ⟨⟨ga, gn, gcp, he, hrow⟩, hbL⟩; dsimp only at he hrow; subst he))
      go_meet
      case rel => exact ⟨_, rfl, rfl, FacAt.new (F := ⟨(c : Int), gx, ar + br, max at' bt + z⟩) hrow, hbL.alloc hbL.size _⟩
    case rest =>
      obtain ⟨b5, rfl, rfl, F5, B5⟩ := hcut
      obtain ⟨W5, rfl⟩ : ∃ x, x = wc := ⟨_, rfl⟩
      have B5' := Lib.hid (HB.out.trans (B5.mono HB.out.size))
      have C5 := Lib.hid (C3.out.below B5)
      have D5 := Lib.hid (D3.out.below B5)
      obtain ⟨fa, fn, fcp, fC, fR⟩ := F5
      have X5 := Lib.hid fC
      have FR := Lib.hid fR
      have HR5 := Lib.hid (HR.out.below B5'.out)
      have HL5 := Lib.hid (HL.out.below B5'.out)
      obtain ⟨c0, c1, c2, c3, _, _, _, _⟩ := C5.out
      obtain ⟨d0, d1, d2, d3, _, _, _, _⟩ := D5.out
      obtain ⟨x0, x1, x2, x3, _, _, _, _⟩ := X5.out
      have BD := Lib.hid ((Below.refl W5.heap.size W5).drew)
      have w1 : IntKind.i64.wrap (ar + br) = ar + br := IntWalk.i64_in _ (by omega)
      have w2 : IntKind.i64.wrap (max at' bt + z) = max at' bt + z := IntWalk.i64_in _ (by omega)
      clear fC fR TW HW C3 D3
      go_wp2
      go_region_held3 (fun w' => w'.cell? ⟨w.heap.size, 0, none⟩ = some (.int .i64 (c : Int)) ∧ w'.cell? ⟨w.heap.size, 1, none⟩ = some (.slice a n cap) ∧ w'.cell? ⟨w.heap.size, 2, none⟩ = some (.int .i64 ar) ∧ w'.cell? ⟨w.heap.size, 3, none⟩ = some (.int .i64 at') ∧ w'.cell? ⟨w.heap.size + 1, 0, none⟩ = some (.int .i64 (c : Int)) ∧ w'.cell? ⟨w.heap.size + 1, 1, none⟩ = some (.slice b m d) ∧ w'.cell? ⟨w.heap.size + 1, 2, none⟩ = some (.int .i64 br) ∧ w'.cell? ⟨w.heap.size + 1, 3, none⟩ = some (.int .i64 bt) ∧ w'.cell? ⟨b5, 0, none⟩ = some (.int .i64 (c : Int)) ∧ w'.cell? ⟨b5, 1, none⟩ = some (.slice fa fn fcp) ∧ w'.cell? ⟨b5, 2, none⟩ = some (.int .i64 (ar + br)) ∧ w'.cell? ⟨b5, 3, none⟩ = some (.int .i64 (max at' bt + z)))
        (first
          | with_reducible exact ⟨(C5.out.below B8.out).c0, (C5.out.below B8.out).c1, (C5.out.below B8.out).c2, (C5.out.below B8.out).c3, (D5.out.below B8.out).c0, (D5.out.below B8.out).c1, (D5.out.below B8.out).c2, (D5.out.below B8.out).c3, (X5.out.below B8.out).c0, (X5.out.below B8.out).c1, (X5.out.below B8.out).c2, (X5.out.below B8.out).c3⟩
          | with_reducible exact ⟨(C5.out.below B7.out).c0, (C5.out.below B7.out).c1, (C5.out.below B7.out).c2, (C5.out.below B7.out).c3, (D5.out.below B7.out).c0, (D5.out.below B7.out).c1, (D5.out.below B7.out).c2, (D5.out.below B7.out).c3, (X5.out.below B7.out).c0, (X5.out.below B7.out).c1, (X5.out.below B7.out).c2, (X5.out.below B7.out).c3⟩
          | with_reducible exact ⟨(C5.out.below B6.out).c0, (C5.out.below B6.out).c1, (C5.out.below B6.out).c2, (C5.out.below B6.out).c3, (D5.out.below B6.out).c0, (D5.out.below B6.out).c1, (D5.out.below B6.out).c2, (D5.out.below B6.out).c3, (X5.out.below B6.out).c0, (X5.out.below B6.out).c1, (X5.out.below B6.out).c2, (X5.out.below B6.out).c3⟩
          | with_reducible exact ⟨(C5.out.below BD.out).c0, (C5.out.below BD.out).c1, (C5.out.below BD.out).c2, (C5.out.below BD.out).c3, (D5.out.below BD.out).c0, (D5.out.below BD.out).c1, (D5.out.below BD.out).c2, (D5.out.below BD.out).c3, (X5.out.below BD.out).c0, (X5.out.below BD.out).c1, (X5.out.below BD.out).c2, (X5.out.below BD.out).c3⟩
          | go_keep)
        (first
          | (go_at_call_of 22 (Value.agg #[.int .i64 (c : Int), .slice a n cap, .int .i64 ar, .int .i64 at']); go_must ((with_reducible refine (CKA.out _ (HR5.out.below BD.out)).mono ?_); rintro e w6 ⟨rfl, hb6⟩; have B6 := Lib.hid (BD.out.trans (hb6.mono BD.out.size)); clear hb6))
          | (go_at_call_of 22 (Value.agg #[.int .i64 (c : Int), .slice b m d, .int .i64 br, .int .i64 bt]); go_must ((with_reducible refine (CKB.out _ (HL5.out.below B6.out)).mono ?_); rintro e w7 ⟨rfl, hb7⟩; have B7 := Lib.hid (B6.out.trans (hb7.mono B6.out.size)); clear hb7))
          | (go_at_call 22; go_must ((with_reducible refine (CKG.out _ _ _ _ (FR.out.below B7.out)).mono ?_); rintro e w8 ⟨rfl, hb8⟩; have B8 := Lib.hid (B7.out.trans (hb8.mono B7.out.size)); clear hb8))
          | (go_at_call 17; go_must ((refine (CST.out _).mono ?_); rintro e w9 ⟨rfl, rfl⟩)))
      all_goals
        have C8 := Lib.hid (C5.out.below B8.out)
        have D8 := Lib.hid (D5.out.below B8.out)
        have X8 := Lib.hid (X5.out.below B8.out)
        have HR8 := Lib.hid (HR5.out.below B8.out)
        have HL8 := Lib.hid (HL5.out.below B8.out)
        have FR8 := Lib.hid (FR.out.below B8.out)
        have B8' := Lib.hid (B5'.out.trans (B8.out.mono B5'.out.size))
        have S8 := B8'.out.size
        clear c0 c1 c2 c3 d0 d1 d2 d3 x0 x1 x2 x3 w1 w2
        go_wp2
        go_loopw [7] (fun s wr => ∃ k : Nat, s = .int .i64 (k : Int) ∧ k ≤ c + 1 ∧ Hid (Below w8.heap.size w8 wr)) (fun s _ => c + 1 - (intOf s).toNat)
        case atStart => exact ⟨0, rfl, Nat.zero_le _, Below.refl _ _⟩
        case round =>
          obtain ⟨k, rfl, hk, HK⟩ := hrel
          have C9 := Lib.hid (C8.out.below HK.out)
          have D9 := Lib.hid (D8.out.below HK.out)
          have X9 := Lib.hid (X8.out.below HK.out)
          obtain ⟨c0, c1, c2, c3, _, _, _, _⟩ := C9.out
          obtain ⟨d0, d1, d2, d3, _, _, _, _⟩ := D9.out
          obtain ⟨x0, x1, x2, x3, _, _, _, _⟩ := X9.out
          by_cases hlt : k ≤ c
          · have hi : (k : Int) ≤ (c : Int) := by omega
            have BI := Lib.hid ((Below.refl wr.heap.size wr).drew)
            have GRK := Lib.hid (GR.out k hlt)
            have HRr := Lib.hid (HR8.out.below HK.out)
            have HLr := Lib.hid (HL8.out.below HK.out)
            have FRr := Lib.hid (FR8.out.below HK.out)
            go_wp2
            go_region_held3 (fun w' => w'.cell? ⟨w.heap.size, 0, none⟩ = some (.int .i64 (c : Int)) ∧ w'.cell? ⟨w.heap.size, 1, none⟩ = some (.slice a n cap) ∧ w'.cell? ⟨w.heap.size, 2, none⟩ = some (.int .i64 ar) ∧ w'.cell? ⟨w.heap.size, 3, none⟩ = some (.int .i64 at') ∧ w'.cell? ⟨w.heap.size + 1, 0, none⟩ = some (.int .i64 (c : Int)) ∧ w'.cell? ⟨w.heap.size + 1, 1, none⟩ = some (.slice b m d) ∧ w'.cell? ⟨w.heap.size + 1, 2, none⟩ = some (.int .i64 br) ∧ w'.cell? ⟨w.heap.size + 1, 3, none⟩ = some (.int .i64 bt) ∧ w'.cell? ⟨b5, 0, none⟩ = some (.int .i64 (c : Int)) ∧ w'.cell? ⟨b5, 1, none⟩ = some (.slice fa fn fcp) ∧ w'.cell? ⟨b5, 2, none⟩ = some (.int .i64 (ar + br)) ∧ w'.cell? ⟨b5, 3, none⟩ = some (.int .i64 (max at' bt + z)))
              (first
                | with_reducible exact ⟨(C9.out.below P4.out).c0, (C9.out.below P4.out).c1, (C9.out.below P4.out).c2, (C9.out.below P4.out).c3, (D9.out.below P4.out).c0, (D9.out.below P4.out).c1, (D9.out.below P4.out).c2, (D9.out.below P4.out).c3, (X9.out.below P4.out).c0, (X9.out.below P4.out).c1, (X9.out.below P4.out).c2, (X9.out.below P4.out).c3⟩
                | with_reducible exact ⟨(C9.out.below P3.out).c0, (C9.out.below P3.out).c1, (C9.out.below P3.out).c2, (C9.out.below P3.out).c3, (D9.out.below P3.out).c0, (D9.out.below P3.out).c1, (D9.out.below P3.out).c2, (D9.out.below P3.out).c3, (X9.out.below P3.out).c0, (X9.out.below P3.out).c1, (X9.out.below P3.out).c2, (X9.out.below P3.out).c3⟩
                | with_reducible exact ⟨(C9.out.below P2.out).c0, (C9.out.below P2.out).c1, (C9.out.below P2.out).c2, (C9.out.below P2.out).c3, (D9.out.below P2.out).c0, (D9.out.below P2.out).c1, (D9.out.below P2.out).c2, (D9.out.below P2.out).c3, (X9.out.below P2.out).c0, (X9.out.below P2.out).c1, (X9.out.below P2.out).c2, (X9.out.below P2.out).c3⟩
                | with_reducible exact ⟨(C9.out.below P1.out).c0, (C9.out.below P1.out).c1, (C9.out.below P1.out).c2, (C9.out.below P1.out).c3, (D9.out.below P1.out).c0, (D9.out.below P1.out).c1, (D9.out.below P1.out).c2, (D9.out.below P1.out).c3, (X9.out.below P1.out).c0, (X9.out.below P1.out).c1, (X9.out.below P1.out).c2, (X9.out.below P1.out).c3⟩
                | with_reducible exact ⟨(C9.out.below BI.out).c0, (C9.out.below BI.out).c1, (C9.out.below BI.out).c2, (C9.out.below BI.out).c3, (D9.out.below BI.out).c0, (D9.out.below BI.out).c1, (D9.out.below BI.out).c2, (D9.out.below BI.out).c3, (X9.out.below BI.out).c0, (X9.out.below BI.out).c1, (X9.out.below BI.out).c2, (X9.out.below BI.out).c3⟩
                | go_keep)
              (first
                | (go_at_call_of 23 (Value.agg #[.int .i64 (c : Int), .slice a n cap, .int .i64 ar, .int .i64 at']); go_must ((with_reducible refine (GTA.out _ (HRr.out.below P1.out) k hlt).mono ?_); rintro e wp ⟨⟨x, rfl, hx⟩, hbp⟩; rw [Nat.sub_self, Nat.add_zero] at hx; have hcmp := ged_not_lt hx HZ1.out GRK.out.1; have P2 := Lib.hid (P1.out.trans (hbp.mono P1.out.size)); clear hx hbp))
                | (go_at_call_of 23 (Value.agg #[.int .i64 (c : Int), .slice b m d, .int .i64 br, .int .i64 bt]); go_must ((with_reducible refine (GTB.out _ (HLr.out.below P3.out) k hlt).mono ?_); rintro e wp ⟨⟨x, rfl, hx⟩, hbp⟩; rw [Nat.sub_self, Nat.add_zero] at hx; have hcmp2 := ged_not_lt hx HZ2.out GRK.out.2; have P4 := Lib.hid (P3.out.trans (hbp.mono P3.out.size)); clear hx hbp))
                | (go_at_call 23; (with_reducible refine (GTG.out _ _ _ _ (FRr.out.below BI.out) k hlt).mono ?_); rintro e wq ⟨⟨z1, rfl, hz⟩, hbq⟩; rw [Nat.sub_self, Nat.add_zero] at hz; have HZ1 := Lib.hid hz; have P1 := Lib.hid (BI.out.trans (hbq.mono BI.out.size)); clear hz hbq)
                | (go_at_call 23; go_must ((with_reducible refine (GTG.out _ _ _ _ (FRr.out.below P2.out) k hlt).mono ?_); rintro e wq ⟨⟨z2, rfl, hz⟩, hbq⟩; rw [Nat.sub_self, Nat.add_zero] at hz; have HZ2 := Lib.hid hz; have P3 := Lib.hid (P2.out.trans (hbq.mono P2.out.size)); clear hz hbq)))
            go_wp2
            go_roundw
            case rel => exact ⟨k + 1, by go_num, by omega, HK.out.trans (P4.out.mono HK.out.size)⟩
            case measure => simp [intOf]; omega
          · have hi : ¬ (k : Int) ≤ (c : Int) := by omega
            go_wp2_with (go_at_call 13; refine (live13_calls _).mono ?_; rintro e wv ⟨rfl, hbv⟩)
            go_ret
            exact ⟨rfl, (B8'.out.trans (HK.out.mono S8)).trans (hbv.mono (by have := HK.out.size; omega))⟩
end Go.Proofs.Ytaabfjfaljhjmaa
