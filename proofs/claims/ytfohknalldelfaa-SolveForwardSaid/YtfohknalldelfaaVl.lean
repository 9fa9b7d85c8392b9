/- Layer 16's own examples, walked. SolveTells and SolveForward, walked. -/
import Derived.Test.YtfohknalldelfaaVk
import Derived.Deep.CutRange
namespace Go.Proofs.Ytfohknalldelfaa
open Go.RowKit Lv Go.Shelf
open Ieee (double Format Datum Toward)
attribute [local go_sem] Oper.semAt_some run_store_float drewN_alloc drewN_setCell

set_option maxRecDepth 100000 in
set_option maxHeartbeats 4000000 in
theorem live16_calls (w : World) : Calls Try.prog 6 #[] w fun e w' => e = .returned (.bool true) ∧ Below w.heap.size w w' := by
  have AB := Lib.hid (fun a n cap W hW => by have := back_calls FS2 a n cap W hW; rw [live16_a] at this; exact this)
  have AF := Lib.hid (fun a n cap b m d W hW hV => by have := forw_calls FS2 a b n cap m d [some 4616189618054758400, some 4621819117588971520] W hW hV; rw [live16_b] at this; exact this)
  have AC := Lib.hid (fun a n cap W hW => by have := back_calls FS1 a n cap W hW; rw [live16_c] at this; exact this)
  have AD := Lib.hid (fun a n cap W hW => by have := sridge_calls FS1 a n cap 4611686018427387904 W hW (fw_lit 4611686018427387904 (by unfold W64; decide) (by decide)); rw [live16_d] at this; exact this)
  have AE := Lib.hid (fun a n cap W hW => by have := forw_calls FS2 a none n cap 0 0 [] W hW (row_nil W); rw [live16_e] at this; exact this)
  dsimp only at AB AF AC AD AE
  go_enter Try.func6, Try.ntmps6
  go_upto_region 1 with (fail)
  go_cut [1] from 12 to 13 (fun s1 wx => ∃ b1 : Nat, s1 = .pointer (some ⟨b1, 0, none⟩) ∧ FacAt wx b1 FS2 ∧ Below w.heap.size w wx)
  case first =>
    go_wp2
    go_meet
    case rel => exact ⟨_, rfl, FacAt.new' (F := FS2) (row_lits w [4611686018427387904, 4607182418800017408, 4617315517961601024, 4616189618054758400, 4620693217682128896, 4613937818241073152] (by decide) 6 rfl (by decide)) (by simp), ((Below.refl _ _).alloc (Nat.le_refl _) _).alloc (by simp) _⟩
  case rest =>
    obtain ⟨b1, rfl, F1, B1⟩ := hcut
    obtain ⟨W1, rfl⟩ : ∃ x, x = wc := ⟨_, rfl⟩
    obtain ⟨fa, fn, fc, fC, fR⟩ := F1
    have C1 := Lib.hid fC
    have R1 := Lib.hid fR
    have B1 := Lib.hid B1
    obtain ⟨c0, c1, c2, c3, _, _, _, _⟩ := fC
    dsimp only at c0 c1 c2 c3
    clear fR
    go_upto_region 3 with (go_at_call 7; go_must (refine (AB.out fa fn fc _ R1.out).mono ?_; rintro e w2 ⟨⟨pa, pn, pcp, rfl, hp⟩, hb2⟩; dsimp only at hp; have RP := Lib.hid hp; have C2 := Lib.hid (C1.out.below hb2); have R2 := Lib.hid (R1.out.below hb2); have B2 := Lib.hid (B1.out.trans (hb2.mono B1.out.size)); clear hp hb2 c0 c1 c2 c3; obtain ⟨c0, c1, c2, c3, _, _, _, _⟩ := C2.out))
    have RV := Lib.hid (row_lits w2 [4616189618054758400, 4621819117588971520] (by decide) 2 rfl (by decide))
    have BV := Lib.hid ((Below.refl w2.heap.size w2).alloc (Nat.le_refl _) (.cells #[.float .f64 4616189618054758400, .float .f64 4621819117588971520] 25))
    go_upto_region 4 with (go_at_call 12; go_must (refine (AF.out fa fn fc _ 2 2 _ (R2.out.below BV.out) RV.out).mono ?_; rintro e w3 ⟨⟨qa, qn, qcp, rfl, hq⟩, hb3⟩; dsimp only at hq; have RQ := Lib.hid hq; have B23 := Lib.hid (BV.out.trans (hb3.mono BV.out.size)); clear hq hb3))
    have RP3 := Lib.hid (RP.out.below B23.out)
    have C3 := Lib.hid (C2.out.below B23.out)
    have R3 := Lib.hid (R2.out.below B23.out)
    have B3 := Lib.hid (B2.out.trans (B23.out.mono B2.out.size))
    clear c0 c1 c2 c3
    have RF := Lib.hid (row_lits w3 [0, 4607182418800017408, 4607182418800017408] (by decide) 3 rfl (by decide))
    have BF := Lib.hid ((Below.refl w3.heap.size w3).alloc (Nat.le_refl _) (.cells #[.float .f64 0, .float .f64 4607182418800017408, .float .f64 4607182418800017408] 25))
    go_upto_region 5 with (go_at_call 7; go_must (refine (AC.out _ 3 3 _ RF.out).mono ?_; rintro e w4 ⟨⟨ra, rn, rcp, rfl, hr⟩, hb4⟩; dsimp only at hr; have B34 := Lib.hid (BF.out.trans (hb4.mono BF.out.size)); clear hr hb4))
    have RP4 := Lib.hid (RP3.out.below B34.out)
    have RQ4 := Lib.hid (RQ.out.below B34.out)
    have C4 := Lib.hid (C3.out.below B34.out)
    have R4 := Lib.hid (R3.out.below B34.out)
    have B4 := Lib.hid (B3.out.trans (B34.out.mono B3.out.size))
    have RG := Lib.hid (row_lits w4 [0, 4607182418800017408, 4607182418800017408] (by decide) 3 rfl (by decide))
    have BG := Lib.hid ((Below.refl w4.heap.size w4).alloc (Nat.le_refl _) (.cells #[.float .f64 0, .float .f64 4607182418800017408, .float .f64 4607182418800017408] 25))
    go_upto_region 6 with (go_at_call 9; go_must (refine (AD.out _ 3 3 _ RG.out).mono ?_; rintro e w5 ⟨⟨ta, tn, tcp, rfl, ht⟩, hb5⟩; dsimp only at ht; have RT := Lib.hid ht; have B45 := Lib.hid (BG.out.trans (hb5.mono BG.out.size)); clear ht hb5))
    have RP5 := Lib.hid (RP4.out.below B45.out)
    have RQ5 := Lib.hid (RQ4.out.below B45.out)
    have C5 := Lib.hid (C4.out.below B45.out)
    have R5 := Lib.hid (R4.out.below B45.out)
    have B5 := Lib.hid (B4.out.trans (B45.out.mono B4.out.size))
    obtain ⟨c0, c1, c2, c3, _, _, _, _⟩ := C5.out
    go_upto_region 7 with (go_at_call 12; go_must (refine (AE.out fa fn fc _ R5.out).mono ?_; rintro e w6 ⟨⟨va, vn, vcp, rfl, hv⟩, hb6⟩; dsimp only at hv; have B56 := Lib.hid hb6; clear hv hb6))
    have B6 := Lib.hid (B5.out.trans (B56.out.mono B5.out.size))
    obtain ⟨pb, po, rfl, rfl, p0, p1⟩ := row_pair (RP5.out.below B56.out)
    obtain ⟨qb, qo, rfl, rfl, q0, q1⟩ := row_pair (RQ5.out.below B56.out)
    obtain ⟨tb, to', rfl, rfl, t0⟩ := row_single (RT.out.below B56.out)
    have o1 : (FloatKind.f64.format.order 4609434218613702656 4609434218613702656 == some Ordering.eq) = true := by decide +kernel
    have o2 : (FloatKind.f64.format.order 4611686018427387904 4611686018427387904 == some Ordering.eq) = true := by decide +kernel
    have o3 : (FloatKind.f64.format.order 0 0 == some Ordering.eq) = true := by decide +kernel
    clear c0 c1 c2 c3
    go_wp2
    go_ret
    exact ⟨rfl, B6.out⟩

set_option maxRecDepth 100000 in
set_option maxHeartbeats 4000000 in
theorem solveTells_walk (w : World) (F : FacD) (a : Option Addr) (n cap : Nat) (h : Row w (.slice a n cap) F.xs) (y : Nat) (mu : Option Nat) (hy : FW y mu) :
    Calls Try.prog 3 #[.agg #[.int .i64 F.cols, .slice a n cap, .int .i64 F.rws, .int .i64 F.trn], .float .f64 y] w fun e w' => e = .returned (.bool true) ∧ Below w.heap.size w w' := by
  have hB := (Below.refl w.heap.size w).alloc (Nat.le_refl _) (.cells #[.int .i64 F.cols, .slice a n cap, .int .i64 F.rws, .int .i64 F.trn] 24)
  have HR := Lib.hid h
  have HB := Lib.hid hB
  have HC := Lib.hid (Cells4.new w (.int .i64 F.cols) (.slice a n cap) (.int .i64 F.rws) (.int .i64 F.trn) 24)
  by_cases h1 : 60 < n
  · have h1i : (60 : Int) < (n : Int) := by omega
    clear h hy
    go_enter Try.func3, Try.ntmps3
    go_wp2_with (go_at_call 6; refine (live16_calls _).mono ?_; rintro e w6 ⟨rfl, hb6⟩)
    go_ret
    exact ⟨rfl, hB.trans (hb6.mono (by simp))⟩
  have h1i : ¬ (60 : Int) < (n : Int) := by omega
  have A1 := Lib.hid (fun W hW => back_calls F a n cap W hW)
  have A2 := Lib.hid (fun W hW => rback_calls F a n cap W hW)
  have A3 := Lib.hid (fun W hW => sridge_calls F a n cap y W hW hy)
  have A4 := Lib.hid (fun W hW => rsridge_calls F a n cap y W hW hy)
  clear h hy hB
  generalize backD F = D at *
  generalize sridgeD F mu = E at *
  obtain ⟨Dl, De⟩ := D
  obtain ⟨El, Ee⟩ := E
  obtain ⟨c0, c1, c2, c3, _, _, _, _⟩ := HC.out
  go_enter Try.func3, Try.ntmps3
  go_upto_region 7 with (first
    | (go_at_call 7; go_must (refine (A1.out _ (HR.out.below HB.out)).mono ?_; rintro e w1 ⟨⟨pa, pn, pcp, rfl, hp⟩, hb⟩; dsimp only at hp; have B1 := Lib.hid (HB.out.trans (hb.mono HB.out.size)); have P1 := Lib.hid hp; have C1 := Lib.hid (HC.out.below hb); clear hp hb c0 c1 c2 c3; obtain ⟨c0, c1, c2, c3, _, _, _, _⟩ := C1.out))
    | (go_at_call 8; go_must (refine (A2.out _ (HR.out.below B1.out)).mono ?_; rintro e w2 ⟨⟨qa, qn, qcp, rfl, hq⟩, hb⟩; dsimp only at hq; have B2 := Lib.hid (B1.out.trans (hb.mono B1.out.size)); have P2 := Lib.hid (P1.out.below hb); have Q2 := Lib.hid hq; have C2 := Lib.hid (C1.out.below hb); clear hq hb c0 c1 c2 c3; obtain ⟨c0, c1, c2, c3, _, _, _, _⟩ := C2.out))
    | (go_at_call 9; go_must (refine (A3.out _ (HR.out.below B2.out)).mono ?_; rintro e w3 ⟨⟨ra, rn, rcp, rfl, hr⟩, hb⟩; dsimp only at hr; have B3 := Lib.hid (B2.out.trans (hb.mono B2.out.size)); have P3 := Lib.hid (P2.out.below hb); have Q3 := Lib.hid (Q2.out.below hb); have R3 := Lib.hid hr; have C3 := Lib.hid (C2.out.below hb); clear hr hb c0 c1 c2 c3; obtain ⟨c0, c1, c2, c3, _, _, _, _⟩ := C3.out))
    | (go_at_call 10; go_must (refine (A4.out _ (HR.out.below B3.out)).mono ?_; rintro e w4 ⟨⟨ta, tn, tcp, rfl, ht⟩, hb⟩; dsimp only at ht; have B4 := Lib.hid (B3.out.trans (hb.mono B3.out.size)); have P4 := Lib.hid (P3.out.below hb); have Q4 := Lib.hid (Q3.out.below hb); have R4 := Lib.hid (R3.out.below hb); have T4 := Lib.hid ht; clear ht hb c0 c1 c2 c3)))
  obtain rfl : pn = qn := by have h1 := P4.out.len; have h2 := Q4.out.len; omega
  obtain rfl : rn = tn := by have h1 := R4.out.len; have h2 := T4.out.len; omega
  go_wp2_with (first
    | (go_at_call_of 11 (Value.slice pa pn pcp); go_must (refine (rall1_calls pa qa pn pcp qcp Dl _ P4.out Q4.out).mono ?_; rintro e w5 ⟨rfl, hb⟩; have B5 := Lib.hid (B4.out.trans (hb.mono B4.out.size)); have R5 := Lib.hid (R4.out.below hb); have T5 := Lib.hid (T4.out.below hb); clear hb))
    | (go_at_call 11; go_must (refine (rall1_calls ra ta rn rcp tcp El _ R5.out T5.out).mono ?_; rintro e w6 ⟨rfl, hb⟩; have B6 := Lib.hid (B5.out.trans (hb.mono B5.out.size)); clear hb))
    | (go_at_call 6; refine (live16_calls _).mono ?_; rintro e w7 ⟨rfl, hb7⟩))
  go_ret
  exact ⟨rfl, B6.out.trans (hb7.mono B6.out.size)⟩

set_option maxRecDepth 100000 in
set_option maxHeartbeats 4000000 in
theorem solveForward_walk (w : World) (F : FacD) (a : Option Addr) (n cap : Nat) (h : Row w (.slice a n cap) F.xs) (vs : List (Option Nat)) (b : Option Addr) (m d : Nat) (hv : Row w (.slice b m d) vs) :
    Calls Try.prog 4 #[.agg #[.int .i64 F.cols, .slice a n cap, .int .i64 F.rws, .int .i64 F.trn], .slice b m d] w fun e w' => e = .returned (.bool true) ∧ Below w.heap.size w w' := by
  have hB := (Below.refl w.heap.size w).alloc (Nat.le_refl _) (.cells #[.int .i64 F.cols, .slice a n cap, .int .i64 F.rws, .int .i64 F.trn] 24)
  have HR := Lib.hid h
  have HV := Lib.hid hv
  have HB := Lib.hid hB
  have HC := Lib.hid (Cells4.new w (.int .i64 F.cols) (.slice a n cap) (.int .i64 F.rws) (.int .i64 F.trn) 24)
  by_cases h1 : 60 < n
  · have h1i : (60 : Int) < (n : Int) := by omega
    clear h hv
    go_enter Try.func4, Try.ntmps4
    go_wp2_with (go_at_call 6; refine (live16_calls _).mono ?_; rintro e w6 ⟨rfl, hb6⟩)
    go_ret
    exact ⟨rfl, hB.trans (hb6.mono (by simp))⟩
  have h1i : ¬ (60 : Int) < (n : Int) := by omega
  by_cases h2 : 20 < m
  · have h2i : (20 : Int) < (m : Int) := by omega
    clear h hv
    go_enter Try.func4, Try.ntmps4
    go_wp2_with (go_at_call 6; refine (live16_calls _).mono ?_; rintro e w6 ⟨rfl, hb6⟩)
    go_ret
    exact ⟨rfl, hB.trans (hb6.mono (by simp))⟩
  have h2i : ¬ (20 : Int) < (m : Int) := by omega
  have A1 := Lib.hid (fun W hW hV => forw_calls F a b n cap m d vs W hW hV)
  have A2 := Lib.hid (fun W hW hV => rforw_calls F a b n cap m d vs W hW hV)
  clear h hv hB
  generalize forwD F vs = D at *
  obtain ⟨Dl, De⟩ := D
  obtain ⟨c0, c1, c2, c3, _, _, _, _⟩ := HC.out
  go_enter Try.func4, Try.ntmps4
  go_upto_region 5 with (first
    | (go_at_call 12; go_must (refine (A1.out _ (HR.out.below HB.out) (HV.out.below HB.out)).mono ?_; rintro e w1 ⟨⟨pa, pn, pcp, rfl, hp⟩, hb⟩; dsimp only at hp; have B1 := Lib.hid (HB.out.trans (hb.mono HB.out.size)); have P1 := Lib.hid hp; have C1 := Lib.hid (HC.out.below hb); clear hp hb c0 c1 c2 c3; obtain ⟨c0, c1, c2, c3, _, _, _, _⟩ := C1.out))
    | (go_at_call 13; go_must (refine (A2.out _ (HR.out.below B1.out) (HV.out.below B1.out)).mono ?_; rintro e w2 ⟨⟨qa, qn, qcp, rfl, hq⟩, hb⟩; dsimp only at hq; have B2 := Lib.hid (B1.out.trans (hb.mono B1.out.size)); have P2 := Lib.hid (P1.out.below hb); have Q2 := Lib.hid hq; clear hq hb c0 c1 c2 c3)))
  obtain rfl : pn = qn := by have h1 := P2.out.len; have h2 := Q2.out.len; omega
  go_wp2_with (first
    | (go_at_call 11; go_must (refine (rall1_calls pa qa pn pcp qcp Dl _ P2.out Q2.out).mono ?_; rintro e w5 ⟨rfl, hb⟩; have B5 := Lib.hid (B2.out.trans (hb.mono B2.out.size)); clear hb))
    | (go_at_call 6; refine (live16_calls _).mono ?_; rintro e w7 ⟨rfl, hb7⟩))
  go_ret
  exact ⟨rfl, B5.out.trans (hb7.mono B5.out.size)⟩
end Go.Proofs.Ytfohknalldelfaa
