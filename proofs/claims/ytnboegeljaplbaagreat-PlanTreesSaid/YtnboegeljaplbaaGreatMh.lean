/- Two factors merged: what the program refuses, walked. Two factors merged: what the reference refuses, walked. Two factors merged: the reference's loop over the rows. Two factors merged: the program's loop over the rows. Factors in memory; factors merged one behind the other, plainly; the program's fold, walked. Factors merged one behind the other: the program's All and the reference's; the reference's Few. -/
import Derived.Test.YtnboegeljaplbaaGreatMb
import Derived.Test.YtnboegeljaplbaaGreatSk
import Derived.Deep.CutRange
import Derived.Deep.RegionWith
import Derived.BigQuiet
import Derived.Deep.QuietTactic
import Derived.IntWalk
import Derived.Deep.RegionHeld3
import Derived.LoopTactic
namespace Go.Proofs.YtnboegeljaplbaaGreat
open Go.RowKit Lv Go.Shelf
open Ieee (double Format Datum Toward)
attribute [local go_sem high] run_maxI

attribute [local go_sem] Oper.semAt_some run_store_float drewN_alloc drewN_setCell

/-- where two factors and the zero factor stand -/
structure TwoAt (w W : World) (A B : FacD) (a : Option Addr) (n c : Nat) (b : Option Addr) (m d : Nat) : Prop where
  ca : Cells4 W w.heap.size (.int .i64 A.cols) (.slice a n c) (.int .i64 A.rws) (.int .i64 A.trn)
  cb : Cells4 W (w.heap.size + 1) (.int .i64 B.cols) (.slice b m d) (.int .i64 B.rws) (.int .i64 B.trn)
  cz : Cells4 W (w.heap.size + 1 + 1) (.int .i64 0) (.slice none 0 0) (.int .i64 0) (.int .i64 0)
  ra : Row W (.slice a n c) A.xs
  rb : Row W (.slice b m d) B.xs
  below : Below w.heap.size w W
theorem TwoAt.keep {w W W' : World} {A B : FacD} {a : Option Addr} {n c : Nat} {b : Option Addr} {m d : Nat} (h : TwoAt w W A B a n c b m d) (hb : Below W.heap.size W W') : TwoAt w W' A B a n c b m d :=
  ⟨h.ca.below hb, h.cb.below hb, h.cz.below hb, h.ra.below hb, h.rb.below hb, h.below.trans (hb.mono h.below.size)⟩
theorem TwoAt.start (w : World) (A B : FacD) (a : Option Addr) (n c : Nat) (b : Option Addr) (m d : Nat) (h : Row w (.slice a n c) A.xs) (h' : Row w (.slice b m d) B.xs) :
    TwoAt w (((w.alloc (.cells #[.int .i64 A.cols, .slice a n c, .int .i64 A.rws, .int .i64 A.trn] 28)).alloc (.cells #[.int .i64 B.cols, .slice b m d, .int .i64 B.rws, .int .i64 B.trn] 28)).alloc (.cells #[.int .i64 0, .slice none 0 0, .int .i64 0, .int .i64 0] 28)) A B a n c b m d := by
  refine ⟨((Cells4.new w _ _ _ _ _).alloc _).alloc _, ?_, ?_, ((h.alloc _).alloc _).alloc _, ((h'.alloc _).alloc _).alloc _, (((Below.refl _ _).alloc (Nat.le_refl _) _).alloc (by simp) _).alloc (by simp; omega) _⟩
  · have := (Cells4.new (w.alloc (.cells #[.int .i64 A.cols, .slice a n c, .int .i64 A.rws, .int .i64 A.trn] 28)) (.int .i64 B.cols) (.slice b m d) (.int .i64 B.rws) (.int .i64 B.trn) 28).alloc (.cells #[.int .i64 0, .slice none 0 0, .int .i64 0, .int .i64 0] 28)
    simpa using this
  · have := Cells4.new ((w.alloc (.cells #[.int .i64 A.cols, .slice a n c, .int .i64 A.rws, .int .i64 A.trn] 28)).alloc (.cells #[.int .i64 B.cols, .slice b m d, .int .i64 B.rws, .int .i64 B.trn] 28)) (.int .i64 0) (.slice none 0 0) (.int .i64 0) (.int .i64 0) 28
    simpa using this

set_option maxRecDepth 100000 in
set_option maxHeartbeats 2000000 in
theorem two_no (A B : FacD) (a b : Option Addr) (n c m d : Nat) (w : World) (h : Row w (.slice a n c) A.xs) (h' : Row w (.slice b m d) B.xs) (hno : twoEarly A B ≠ 0) :
    Calls Tryz.prog 30 #[.agg #[.int .i64 A.cols, .slice a n c, .int .i64 A.rws, .int .i64 A.trn], .agg #[.int .i64 B.cols, .slice b m d, .int .i64 B.rws, .int .i64 B.trn]] w fun e w' => FacE (twoD A B) e w' ∧ Below w.heap.size w w' := by
  have CA : ∀ W, Row W (.slice a n c) A.xs → Calls Tryz.prog 28 #[.agg #[.int .i64 A.cols, .slice a n c, .int .i64 A.rws, .int .i64 A.trn]] W fun e w' => e = .returned (.bool A.ok) ∧ Below W.heap.size W w' := fun W hW => check_calls A.cols A.rws A.trn a n c A.xs W hW
  have CB : ∀ W, Row W (.slice b m d) B.xs → Calls Tryz.prog 28 #[.agg #[.int .i64 B.cols, .slice b m d, .int .i64 B.rws, .int .i64 B.trn]] W fun e w' => e = .returned (.bool B.ok) ∧ Below W.heap.size W w' := fun W hW => check_calls B.cols B.rws B.trn b m d B.xs W hW
  cases hA : A.ok
  · rw [twoD_early (x := 1) (by unfold twoEarly; rw [if_pos (.inl hA)]) (by decide)]
    rw [hA] at CA
    have CA := Lib.hid CA
    clear CB hA hno
    have T := TwoAt.start w A B a n c b m d h h'
    go_enter Tryz.func30, Tryz.ntmps30
    go_wp2
    generalize (((w.alloc (.cells #[.int .i64 A.cols, .slice a n c, .int .i64 A.rws, .int .i64 A.trn] 28)).alloc (.cells #[.int .i64 B.cols, .slice b m d, .int .i64 B.rws, .int .i64 B.trn] 28)).alloc (.cells #[.int .i64 0, .slice none 0 0, .int .i64 0, .int .i64 0] 28)) = W0 at *
    have HT0 := Lib.hid T
    have HT := Lib.hid (T.keep ((Below.refl _ _).drew))
    obtain ⟨a0, a1, a2, a3, _, _, _, _⟩ := T.ca
    obtain ⟨b0, b1, b2, b3, _, _, _, _⟩ := T.cb
    clear T h h'
    go_region
    clear a0 a1 a2 a3 b0 b1 b2 b3 HT0
    generalize W0.drew = W at *
    obtain ⟨a0, a1, a2, a3, _, _, _, _⟩ := HT.out.ca
    obtain ⟨b0, b1, b2, b3, _, _, _, _⟩ := HT.out.cb
    obtain ⟨z0, z1, z2, z3, zf0, zf1, zf2, zf3⟩ := HT.out.cz
    have hsz := HT.out.cz.lt
    go_wp2_with (go_at_call_of 28 (Value.agg #[.int .i64 A.cols, .slice a n c, .int .i64 A.rws, .int .i64 A.trn]); go_must (refine (CA.out _ HT.out.ra).mono ?_; rintro e w1 ⟨rfl, hb1⟩; have HT1 := Lib.hid (HT.out.keep hb1); clear a0 a1 a2 a3 b0 b1 b2 b3 z0 z1 z2 z3 zf0 zf1 zf2 zf3; obtain ⟨a0, a1, a2, a3, _, _, _, _⟩ := HT1.out.ca; obtain ⟨b0, b1, b2, b3, _, _, _, _⟩ := HT1.out.cb; obtain ⟨z0, z1, z2, z3, zf0, zf1, zf2, zf3⟩ := HT1.out.cz; clear hb1))
    exact bodyPost_ret (v := .tuple #[facZ, .int .i64 1]) (by simp [results, Tryz.results30, go_sem, facZ, (HT1.out.cz.put (.int .i64 0) (.slice none 0 0) (.int .i64 0) (.int .i64 0)).c0, (HT1.out.cz.put (.int .i64 0) (.slice none 0 0) (.int .i64 0) (.int .i64 0)).c1, (HT1.out.cz.put (.int .i64 0) (.slice none 0 0) (.int .i64 0) (.int .i64 0)).c2, (HT1.out.cz.put (.int .i64 0) (.slice none 0 0) (.int .i64 0) (.int .i64 0)).c3]) rfl ⟨facE_no _ rfl, below_put4 HT1.out.below (by omega) _ _ _ _⟩
  · have hokA := ok_rows hA
    obtain ⟨hA1, hA6⟩ := ok_cols hA
    rw [hA] at CA
    have CA := Lib.hid CA
    cases hB : B.ok
    · rw [twoD_early (x := 1) (by unfold twoEarly; rw [if_pos (.inr hB)]) (by decide)]
      rw [hB] at CB
      have CB := Lib.hid CB
      clear hA hB hno
      have T := TwoAt.start w A B a n c b m d h h'
      go_enter Tryz.func30, Tryz.ntmps30
      go_wp2
      generalize (((w.alloc (.cells #[.int .i64 A.cols, .slice a n c, .int .i64 A.rws, .int .i64 A.trn] 28)).alloc (.cells #[.int .i64 B.cols, .slice b m d, .int .i64 B.rws, .int .i64 B.trn] 28)).alloc (.cells #[.int .i64 0, .slice none 0 0, .int .i64 0, .int .i64 0] 28)) = W0 at *
      have HT0 := Lib.hid T
      have HT := Lib.hid (T.keep ((Below.refl _ _).drew))
      obtain ⟨a0, a1, a2, a3, _, _, _, _⟩ := T.ca
      obtain ⟨b0, b1, b2, b3, _, _, _, _⟩ := T.cb
      clear T h h'
      go_region
      clear a0 a1 a2 a3 b0 b1 b2 b3 HT0
      generalize W0.drew = W at *
      obtain ⟨a0, a1, a2, a3, _, _, _, _⟩ := HT.out.ca
      obtain ⟨b0, b1, b2, b3, _, _, _, _⟩ := HT.out.cb
      obtain ⟨z0, z1, z2, z3, zf0, zf1, zf2, zf3⟩ := HT.out.cz
      have hsz := HT.out.cz.lt
      go_wp2_with (first | (go_at_call_of 28 (Value.agg #[.int .i64 A.cols, .slice a n c, .int .i64 A.rws, .int .i64 A.trn]); go_must (refine (CA.out _ HT.out.ra).mono ?_; rintro e w1 ⟨rfl, hb1⟩; have HT1 := Lib.hid (HT.out.keep hb1); clear a0 a1 a2 a3 b0 b1 b2 b3 z0 z1 z2 z3 zf0 zf1 zf2 zf3; obtain ⟨a0, a1, a2, a3, _, _, _, _⟩ := HT1.out.ca; obtain ⟨b0, b1, b2, b3, _, _, _, _⟩ := HT1.out.cb; obtain ⟨z0, z1, z2, z3, zf0, zf1, zf2, zf3⟩ := HT1.out.cz; clear hb1)) | (go_at_call 28; go_must (refine (CB.out _ HT1.out.rb).mono ?_; rintro e w2 ⟨rfl, hb2⟩; have HT2 := Lib.hid (HT1.out.keep hb2); clear a0 a1 a2 a3 b0 b1 b2 b3 z0 z1 z2 z3 zf0 zf1 zf2 zf3; obtain ⟨a0, a1, a2, a3, _, _, _, _⟩ := HT2.out.ca; obtain ⟨b0, b1, b2, b3, _, _, _, _⟩ := HT2.out.cb; obtain ⟨z0, z1, z2, z3, zf0, zf1, zf2, zf3⟩ := HT2.out.cz; clear hb2)))
      exact bodyPost_ret (v := .tuple #[facZ, .int .i64 1]) (by simp [results, Tryz.results30, go_sem, facZ, (HT2.out.cz.put (.int .i64 0) (.slice none 0 0) (.int .i64 0) (.int .i64 0)).c0, (HT2.out.cz.put (.int .i64 0) (.slice none 0 0) (.int .i64 0) (.int .i64 0)).c1, (HT2.out.cz.put (.int .i64 0) (.slice none 0 0) (.int .i64 0) (.int .i64 0)).c2, (HT2.out.cz.put (.int .i64 0) (.slice none 0 0) (.int .i64 0) (.int .i64 0)).c3]) rfl ⟨facE_no _ rfl, below_put4 HT2.out.below (by omega) _ _ _ _⟩
    · have hokB := ok_rows hB
      rw [hB] at CB
      have CB := Lib.hid CB
      have hn : ¬ (A.ok = false ∨ B.ok = false) := by rw [hA, hB]; simp
      by_cases hc : A.cols ≠ B.cols
      · rw [twoD_early (x := 3) (by unfold twoEarly; rw [if_neg hn, if_pos hc]) (by decide)]
        have hne : (A.cols != B.cols) = true := by simpa using hc
        clear hA hB hno hn hc
        have T := TwoAt.start w A B a n c b m d h h'
        go_enter Tryz.func30, Tryz.ntmps30
        go_wp2
        generalize (((w.alloc (.cells #[.int .i64 A.cols, .slice a n c, .int .i64 A.rws, .int .i64 A.trn] 28)).alloc (.cells #[.int .i64 B.cols, .slice b m d, .int .i64 B.rws, .int .i64 B.trn] 28)).alloc (.cells #[.int .i64 0, .slice none 0 0, .int .i64 0, .int .i64 0] 28)) = W0 at *
        have HT0 := Lib.hid T
        have HT := Lib.hid (T.keep ((Below.refl _ _).drew))
        obtain ⟨a0, a1, a2, a3, _, _, _, _⟩ := T.ca
        obtain ⟨b0, b1, b2, b3, _, _, _, _⟩ := T.cb
        clear T h h'
        go_region
        clear a0 a1 a2 a3 b0 b1 b2 b3 HT0
        generalize W0.drew = W at *
        obtain ⟨a0, a1, a2, a3, _, _, _, _⟩ := HT.out.ca
        obtain ⟨b0, b1, b2, b3, _, _, _, _⟩ := HT.out.cb
        obtain ⟨z0, z1, z2, z3, zf0, zf1, zf2, zf3⟩ := HT.out.cz
        have hsz := HT.out.cz.lt
        go_wp2_with (first | (go_at_call_of 28 (Value.agg #[.int .i64 A.cols, .slice a n c, .int .i64 A.rws, .int .i64 A.trn]); go_must (refine (CA.out _ HT.out.ra).mono ?_; rintro e w1 ⟨rfl, hb1⟩; have HT1 := Lib.hid (HT.out.keep hb1); clear a0 a1 a2 a3 b0 b1 b2 b3 z0 z1 z2 z3 zf0 zf1 zf2 zf3; obtain ⟨a0, a1, a2, a3, _, _, _, _⟩ := HT1.out.ca; obtain ⟨b0, b1, b2, b3, _, _, _, _⟩ := HT1.out.cb; obtain ⟨z0, z1, z2, z3, zf0, zf1, zf2, zf3⟩ := HT1.out.cz; clear hb1)) | (go_at_call 28; go_must (refine (CB.out _ HT1.out.rb).mono ?_; rintro e w2 ⟨rfl, hb2⟩; have HT2 := Lib.hid (HT1.out.keep hb2); clear a0 a1 a2 a3 b0 b1 b2 b3 z0 z1 z2 z3 zf0 zf1 zf2 zf3; obtain ⟨a0, a1, a2, a3, _, _, _, _⟩ := HT2.out.ca; obtain ⟨b0, b1, b2, b3, _, _, _, _⟩ := HT2.out.cb; obtain ⟨z0, z1, z2, z3, zf0, zf1, zf2, zf3⟩ := HT2.out.cz; clear hb2)))
        exact bodyPost_ret (v := .tuple #[facZ, .int .i64 3]) (by simp [results, Tryz.results30, go_sem, facZ, (HT2.out.cz.put (.int .i64 0) (.slice none 0 0) (.int .i64 0) (.int .i64 0)).c0, (HT2.out.cz.put (.int .i64 0) (.slice none 0 0) (.int .i64 0) (.int .i64 0)).c1, (HT2.out.cz.put (.int .i64 0) (.slice none 0 0) (.int .i64 0) (.int .i64 0)).c2, (HT2.out.cz.put (.int .i64 0) (.slice none 0 0) (.int .i64 0) (.int .i64 0)).c3]) rfl ⟨facE_no _ rfl, below_put4 HT2.out.below (by omega) _ _ _ _⟩
      · have e0 : twoEarly A B = if 200 < A.rws + B.rws ∨ 4096 < max A.trn B.trn + sizeI A.cols then 6 else 0 := by unfold twoEarly; rw [if_neg hn, if_neg hc]
        have h3 : 200 < A.rws + B.rws ∨ 4096 < max A.trn B.trn + sizeI A.cols := by
          by_cases h3 : 200 < A.rws + B.rws ∨ 4096 < max A.trn B.trn + sizeI A.cols
          · exact h3
          · rw [e0, if_neg h3] at hno; exact absurd rfl hno
        rw [twoD_early (x := 6) (by rw [e0, if_pos h3]) (by decide)]
        have hne : (A.cols != B.cols) = false := by simpa using hc
        obtain ⟨z3, z28⟩ := sizeI_in hA1 hA6
        obtain ⟨p0, p1, p2, p3⟩ := hokA
        obtain ⟨q0, q1, q2, q3⟩ := hokB
        have hmx : 0 ≤ max A.trn B.trn ∧ max A.trn B.trn ≤ 4096 := by omega
        obtain ⟨hm0, hm1⟩ := hmx
        have CS := Lib.hid (cost_calls A.cols)
        by_cases hr : 200 < A.rws + B.rws
        · clear hA hB hno hn hc e0 h3
          generalize sizeI A.cols = sz at *
          have T := TwoAt.start w A B a n c b m d h h'
          go_enter Tryz.func30, Tryz.ntmps30
          go_wp2
          generalize (((w.alloc (.cells #[.int .i64 A.cols, .slice a n c, .int .i64 A.rws, .int .i64 A.trn] 28)).alloc (.cells #[.int .i64 B.cols, .slice b m d, .int .i64 B.rws, .int .i64 B.trn] 28)).alloc (.cells #[.int .i64 0, .slice none 0 0, .int .i64 0, .int .i64 0] 28)) = W0 at *
          have HT0 := Lib.hid T
          have HT := Lib.hid (T.keep ((Below.refl _ _).drew))
          obtain ⟨a0, a1, a2, a3, _, _, _, _⟩ := T.ca
          obtain ⟨b0, b1, b2, b3, _, _, _, _⟩ := T.cb
          clear T h h'
          go_region
          clear a0 a1 a2 a3 b0 b1 b2 b3 HT0
          generalize W0.drew = W at *
          obtain ⟨a0, a1, a2, a3, _, _, _, _⟩ := HT.out.ca
          obtain ⟨b0, b1, b2, b3, _, _, _, _⟩ := HT.out.cb
          obtain ⟨z0, z1, z2, z3, zf0, zf1, zf2, zf3⟩ := HT.out.cz
          have hsz := HT.out.cz.lt
          go_wp2_with (first | (go_at_call_of 28 (Value.agg #[.int .i64 A.cols, .slice a n c, .int .i64 A.rws, .int .i64 A.trn]); go_must (refine (CA.out _ HT.out.ra).mono ?_; rintro e w1 ⟨rfl, hb1⟩; have HT1 := Lib.hid (HT.out.keep hb1); clear a0 a1 a2 a3 b0 b1 b2 b3 z0 z1 z2 z3 zf0 zf1 zf2 zf3; obtain ⟨a0, a1, a2, a3, _, _, _, _⟩ := HT1.out.ca; obtain ⟨b0, b1, b2, b3, _, _, _, _⟩ := HT1.out.cb; obtain ⟨z0, z1, z2, z3, zf0, zf1, zf2, zf3⟩ := HT1.out.cz; clear hb1)) | (go_at_call 28; go_must (refine (CB.out _ HT1.out.rb).mono ?_; rintro e w2 ⟨rfl, hb2⟩; have HT2 := Lib.hid (HT1.out.keep hb2); clear a0 a1 a2 a3 b0 b1 b2 b3 z0 z1 z2 z3 zf0 zf1 zf2 zf3; obtain ⟨a0, a1, a2, a3, _, _, _, _⟩ := HT2.out.ca; obtain ⟨b0, b1, b2, b3, _, _, _, _⟩ := HT2.out.cb; obtain ⟨z0, z1, z2, z3, zf0, zf1, zf2, zf3⟩ := HT2.out.cz; clear hb2)))
          exact bodyPost_ret (v := .tuple #[facZ, .int .i64 6]) (by simp [results, Tryz.results30, go_sem, facZ, (HT2.out.cz.put (.int .i64 0) (.slice none 0 0) (.int .i64 0) (.int .i64 0)).c0, (HT2.out.cz.put (.int .i64 0) (.slice none 0 0) (.int .i64 0) (.int .i64 0)).c1, (HT2.out.cz.put (.int .i64 0) (.slice none 0 0) (.int .i64 0) (.int .i64 0)).c2, (HT2.out.cz.put (.int .i64 0) (.slice none 0 0) (.int .i64 0) (.int .i64 0)).c3]) rfl ⟨facE_no _ rfl, below_put4 HT2.out.below (by omega) _ _ _ _⟩
        · have ht : 4096 < max A.trn B.trn + sizeI A.cols := by omega
          clear hA hB hno hn hc e0 h3
          generalize sizeI A.cols = sz at *
          have T := TwoAt.start w A B a n c b m d h h'
          go_enter Tryz.func30, Tryz.ntmps30
          go_wp2
          generalize (((w.alloc (.cells #[.int .i64 A.cols, .slice a n c, .int .i64 A.rws, .int .i64 A.trn] 28)).alloc (.cells #[.int .i64 B.cols, .slice b m d, .int .i64 B.rws, .int .i64 B.trn] 28)).alloc (.cells #[.int .i64 0, .slice none 0 0, .int .i64 0, .int .i64 0] 28)) = W0 at *
          have HT0 := Lib.hid T
          have HT := Lib.hid (T.keep ((Below.refl _ _).drew))
          obtain ⟨a0, a1, a2, a3, _, _, _, _⟩ := T.ca
          obtain ⟨b0, b1, b2, b3, _, _, _, _⟩ := T.cb
          clear T h h'
          go_region
          clear a0 a1 a2 a3 b0 b1 b2 b3 HT0
          generalize W0.drew = W at *
          obtain ⟨a0, a1, a2, a3, _, _, _, _⟩ := HT.out.ca
          obtain ⟨b0, b1, b2, b3, _, _, _, _⟩ := HT.out.cb
          obtain ⟨z0, z1, z2, z3, zf0, zf1, zf2, zf3⟩ := HT.out.cz
          have hsz := HT.out.cz.lt
          go_wp2_with (first | (go_at_call_of 28 (Value.agg #[.int .i64 A.cols, .slice a n c, .int .i64 A.rws, .int .i64 A.trn]); go_must (refine (CA.out _ HT.out.ra).mono ?_; rintro e w1 ⟨rfl, hb1⟩; have HT1 := Lib.hid (HT.out.keep hb1); clear a0 a1 a2 a3 b0 b1 b2 b3 z0 z1 z2 z3 zf0 zf1 zf2 zf3; obtain ⟨a0, a1, a2, a3, _, _, _, _⟩ := HT1.out.ca; obtain ⟨b0, b1, b2, b3, _, _, _, _⟩ := HT1.out.cb; obtain ⟨z0, z1, z2, z3, zf0, zf1, zf2, zf3⟩ := HT1.out.cz; clear hb1)) | (go_at_call 28; go_must (refine (CB.out _ HT1.out.rb).mono ?_; rintro e w2 ⟨rfl, hb2⟩; have HT2 := Lib.hid (HT1.out.keep hb2); clear a0 a1 a2 a3 b0 b1 b2 b3 z0 z1 z2 z3 zf0 zf1 zf2 zf3; obtain ⟨a0, a1, a2, a3, _, _, _, _⟩ := HT2.out.ca; obtain ⟨b0, b1, b2, b3, _, _, _, _⟩ := HT2.out.cb; obtain ⟨z0, z1, z2, z3, zf0, zf1, zf2, zf3⟩ := HT2.out.cz; clear hb2)) | (go_at_call 62; refine (CS.out _).mono ?_; rintro e w' ⟨rfl, rfl⟩))
          exact bodyPost_ret (v := .tuple #[facZ, .int .i64 6]) (by simp [results, Tryz.results30, go_sem, facZ, (HT2.out.cz.put (.int .i64 0) (.slice none 0 0) (.int .i64 0) (.int .i64 0)).c0, (HT2.out.cz.put (.int .i64 0) (.slice none 0 0) (.int .i64 0) (.int .i64 0)).c1, (HT2.out.cz.put (.int .i64 0) (.slice none 0 0) (.int .i64 0) (.int .i64 0)).c2, (HT2.out.cz.put (.int .i64 0) (.slice none 0 0) (.int .i64 0) (.int .i64 0)).c3]) rfl ⟨facE_no _ rfl, below_put4 HT2.out.below (by omega) _ _ _ _⟩
end Go.Proofs.YtnboegeljaplbaaGreat
namespace Go.Proofs.YtnboegeljaplbaaGreat
open Go.RowKit Lv Go.Shelf
open Ieee (double Format Datum Toward)
attribute [local go_sem high] run_maxI

attribute [local go_sem] Oper.semAt_some run_store_float drewN_alloc drewN_setCell

end Go.Proofs.YtnboegeljaplbaaGreat
namespace Go.Proofs.YtnboegeljaplbaaGreat
open Go.RowKit Lv Go.Shelf
open Ieee (double Format Datum Toward)
attribute [local go_sem high] run_maxI

attribute [local go_sem] Oper.semAt_some run_store_float drewN_alloc drewN_setCell

/-- where two factors stand, and the one that is being made -/
structure RTwoAt (w W : World) (g : Nat) (A B G : FacD) (a : Option Addr) (n c : Nat) (b : Option Addr) (m d : Nat) (p : Option Addr) (pn pc : Nat) : Prop where
  t : TwoAt w W A B a n c b m d
  cg : Cells4 W g (.int .i64 G.cols) (.slice p pn pc) (.int .i64 G.rws) (.int .i64 G.trn)
  rg : Row W (.slice p pn pc) G.xs
  lt : w.heap.size + 1 + 1 < g
theorem RTwoAt.keep {w W W' : World} {g : Nat} {A B G : FacD} {a : Option Addr} {n c : Nat} {b : Option Addr} {m d : Nat} {p : Option Addr} {pn pc : Nat} (h : RTwoAt w W g A B G a n c b m d p pn pc) (hb : Below W.heap.size W W') : RTwoAt w W' g A B G a n c b m d p pn pc :=
  ⟨h.t.keep hb, h.cg.below hb, h.rg.below hb, h.lt⟩
theorem RTwoAt.put {w W : World} {g : Nat} {A B G G' : FacD} {a : Option Addr} {n c : Nat} {b : Option Addr} {m d : Nat} {p : Option Addr} {pn pc : Nat} {q : Option Addr} {qn qc : Nat} (h : RTwoAt w W g A B G a n c b m d p pn pc) (hq : Row W (.slice q qn qc) G'.xs) :
    RTwoAt w ((((W.setCell ⟨g, 0, none⟩ (.int .i64 G'.cols)).setCell ⟨g, 1, none⟩ (.slice q qn qc)).setCell ⟨g, 2, none⟩ (.int .i64 G'.rws)).setCell ⟨g, 3, none⟩ (.int .i64 G'.trn)) g A B G' a n c b m d q qn qc := by
  have := h.lt
  exact ⟨⟨h.t.ca.put_other (by omega) _ _ _ _, h.t.cb.put_other (by omega) _ _ _ _, h.t.cz.put_other (by omega) _ _ _ _, h.t.ra.put4 h.cg slice_ne _ _ _ _, h.t.rb.put4 h.cg slice_ne _ _ _ _, below_put4 h.t.below (by omega) _ _ _ _⟩, h.cg.put _ _ _ _, hq.put4 h.cg slice_ne _ _ _ _, this⟩
/-- behind the statement that rotates a row in -/
def RTwoCut (wr : World) (r : FacD × Bool) (s9 s10 : Value) (W : World) : Prop :=
  ∃ (b9 : Nat) (ga : Option Addr) (gn gcp : Nat), s9 = .pointer (some ⟨b9, 0, none⟩) ∧ s10 = .bool r.2 ∧ Cells4 W b9 (.int .i64 r.1.cols) (.slice ga gn gcp) (.int .i64 r.1.rws) (.int .i64 r.1.trn) ∧ Row W (.slice ga gn gcp) r.1.xs ∧ Below wr.heap.size wr W ∧ wr.heap.size ≤ b9

end Go.Proofs.YtnboegeljaplbaaGreat
namespace Go.Proofs.YtnboegeljaplbaaGreat
open Go.RowKit Lv Go.Shelf
open Ieee (double Format Datum Toward)
attribute [local go_sem high] run_maxI

attribute [local go_sem] Oper.semAt_some run_store_float drewN_alloc drewN_setCell

theorem line_calls (c i : Nat) (rws trn : Int) (a : Option Addr) (n cap : Nat) (xs : List (Option Nat)) (w : World) (h : Row w (.slice a n cap) xs) (hok : checkP (c : Int) xs rws trn = true) (hi : i ≤ c) :
    Calls Tryz.prog 73 #[.agg #[.int .i64 (c : Int), .slice a n cap, .int .i64 rws, .int .i64 trn], .int .i64 (i : Int)] w fun e w' => (∃ v, e = .returned v ∧ OwnV w' w.heap.size v (lineP xs c i)) ∧ Below w.heap.size w w' := by
  obtain ⟨hc1, hc6⟩ := checkP_cols hok
  have hxl := checkP_len hok
  have hb := tsz_bounds (c := c) (by omega) (by omega)
  have hn := h.len
  obtain ⟨tb, tf, rfl, htb, _⟩ := h.shape (by omega)
  subst hn
  refine (line_yes c i rws trn tb tf cap xs w (by omega) (by omega) hi hxl h hok).mono ?_
  rintro e w' ⟨v, rfl, ho, hb⟩
  exact ⟨⟨v, rfl, ho⟩, hb⟩

/-- behind the statement that rotates a row in -/
def TwoCut (w : World) (B : FacD) (b : Option Addr) (m d : Nat) (r : FacD × Bool) (s9 : Value) (W : World) : Prop :=
  ∃ ga gn gcp, s9 = .bool r.2 ∧ TwoAt w W r.1 B ga gn gcp b m d

set_option maxRecDepth 100000 in
set_option maxHeartbeats 4000000 in
theorem two_yes (c : Nat) (ax bx : List (Option Nat)) (ar atn br bt : Int) (a b : Option Addr) (n ac m d : Nat) (w : World) (h : Row w (.slice a n ac) ax) (h' : Row w (.slice b m d) bx) (hno : twoEarly ⟨c, ax, ar, atn⟩ ⟨c, bx, br, bt⟩ = 0) (R : FacD × Bool) (hR : twoLoop c bx (c + 1) 0 ⟨c, ax, ar, atn⟩ = R) :
    Calls Tryz.prog 30 #[.agg #[.int .i64 (c : Int), .slice a n ac, .int .i64 ar, .int .i64 atn], .agg #[.int .i64 (c : Int), .slice b m d, .int .i64 br, .int .i64 bt]] w fun e w' => FacE (if R.2 = false then (fac0, 2) else (⟨c, R.1.xs, ar + br, max atn bt + sizeI c⟩, 0)) e w' ∧ Below w.heap.size w w' := by
  obtain ⟨hA, hB, _, hr, ht⟩ := two_zero hno
  dsimp only at hr ht
  obtain ⟨hc1, hc6⟩ := ok_cols hA
  dsimp only at hc1 hc6
  obtain ⟨p0, p1, p2, p3⟩ := ok_rows hA
  obtain ⟨q0, q1, q2, q3⟩ := ok_rows hB
  dsimp only at p0 p1 p2 p3 q0 q1 q2 q3
  obtain ⟨y3, y28⟩ := sizeI_in hc1 hc6
  have CA : ∀ W, Row W (.slice a n ac) ax → Calls Tryz.prog 28 #[.agg #[.int .i64 (c : Int), .slice a n ac, .int .i64 ar, .int .i64 atn]] W fun e w' => e = .returned (.bool true) ∧ Below W.heap.size W w' := fun W hW => by have := check_calls (c : Int) ar atn a n ac ax W hW; rw [show checkP (c : Int) ax ar atn = true from hA] at this; exact this
  have CB : ∀ W, Row W (.slice b m d) bx → Calls Tryz.prog 28 #[.agg #[.int .i64 (c : Int), .slice b m d, .int .i64 br, .int .i64 bt]] W fun e w' => e = .returned (.bool true) ∧ Below W.heap.size W w' := fun W hW => by have := check_calls (c : Int) br bt b m d bx W hW; rw [show checkP (c : Int) bx br bt = true from hB] at this; exact this
  have CA := Lib.hid CA
  have CB := Lib.hid CB
  have CS := Lib.hid (fun w => cost_calls (c : Int) w)
  have HRR := Lib.hid hR
  have HBok := Lib.hid (show checkP (c : Int) bx br bt = true from hB)
  have hmx : 0 ≤ max atn bt ∧ max atn bt ≤ 4096 := by omega
  obtain ⟨hm0, hm1⟩ := hmx
  have hr' : ¬ 200 < ar + br := by omega
  have ht' : ¬ 4096 < max atn bt + sizeI (c : Int) := by omega
  clear hA hB hno hR
  generalize sizeI (c : Int) = sz at *
  have T := TwoAt.start w ⟨c, ax, ar, atn⟩ ⟨c, bx, br, bt⟩ a n ac b m d h h'
  dsimp only at T
  go_enter Tryz.func30, Tryz.ntmps30
  go_wp2
  generalize (((w.alloc (.cells #[.int .i64 (c : Int), .slice a n ac, .int .i64 ar, .int .i64 atn] 28)).alloc (.cells #[.int .i64 (c : Int), .slice b m d, .int .i64 br, .int .i64 bt] 28)).alloc (.cells #[.int .i64 0, .slice none 0 0, .int .i64 0, .int .i64 0] 28)) = W0 at *
  have HT0 := Lib.hid T
  have HT := Lib.hid (T.keep ((Below.refl _ _).drew))
  obtain ⟨a0, a1, a2, a3, _, _, _, _⟩ := T.ca
  obtain ⟨b0, b1, b2, b3, _, _, _, _⟩ := T.cb
  clear T h h'
  go_region
  clear a0 a1 a2 a3 b0 b1 b2 b3 HT0
  generalize W0.drew = W at *
  obtain ⟨a0, a1, a2, a3, _, _, _, _⟩ := HT.out.ca
  obtain ⟨b0, b1, b2, b3, _, _, _, _⟩ := HT.out.cb
  obtain ⟨z0, z1, z2, z3, zf0, zf1, zf2, zf3⟩ := HT.out.cz
  have hsz := HT.out.cz.lt
  go_wp2_with (first | (go_at_call_of 28 (Value.agg #[.int .i64 (c : Int), .slice a n ac, .int .i64 ar, .int .i64 atn]); go_must (refine (CA.out _ HT.out.ra).mono ?_; rintro e w1 ⟨rfl, hb1⟩; have HT1 := Lib.hid (HT.out.keep hb1); clear a0 a1 a2 a3 b0 b1 b2 b3 z0 z1 z2 z3 zf0 zf1 zf2 zf3; obtain ⟨a0, a1, a2, a3, _, _, _, _⟩ := HT1.out.ca; obtain ⟨b0, b1, b2, b3, _, _, _, _⟩ := HT1.out.cb; obtain ⟨z0, z1, z2, z3, zf0, zf1, zf2, zf3⟩ := HT1.out.cz; clear hb1)) | (go_at_call 28; go_must (refine (CB.out _ HT1.out.rb).mono ?_; rintro e w2 ⟨rfl, hb2⟩; have HT2 := Lib.hid (HT1.out.keep hb2); clear a0 a1 a2 a3 b0 b1 b2 b3 z0 z1 z2 z3 zf0 zf1 zf2 zf3; obtain ⟨a0, a1, a2, a3, _, _, _, _⟩ := HT2.out.ca; obtain ⟨b0, b1, b2, b3, _, _, _, _⟩ := HT2.out.cb; obtain ⟨z0, z1, z2, z3, zf0, zf1, zf2, zf3⟩ := HT2.out.cz; clear hb2)) | (go_at_call 62; refine (CS.out _).mono ?_; rintro e w' ⟨rfl, rfl⟩))
  clear a0 a1 a2 a3 b0 b1 b2 b3 z0 z1 z2 z3 zf0 zf1 zf2 zf3 CA CB HT1 HT
  go_loopw [52] (fun s52 wr => ∃ (i : Nat) (gx : List (Option Nat)) (ga : Option Addr) (gn gcp : Nat), s52 = .int .i64 (i : Int) ∧ i ≤ c + 1 ∧ Hid (twoLoop c bx (c + 1 - i) i ⟨c, gx, ar, atn⟩ = R ∧ TwoAt w wr ⟨c, gx, ar, atn⟩ ⟨c, bx, br, bt⟩ ga gn gcp b m d)) (fun s52 _ => c + 1 - (intOf s52).toNat)
  case atStart => exact ⟨0, ax, a, n, ac, rfl, Nat.zero_le _, HRR.out, HT2.out⟩
  case round =>
    obtain ⟨i, gx, ga, gn, gcp, rfl, hi, HI⟩ := hrel
    have TI := HI.out.2
    obtain ⟨a0, a1, a2, a3, af0, af1, af2, af3⟩ := TI.ca
    obtain ⟨b0, b1, b2, b3, _, _, _, _⟩ := TI.cb
    obtain ⟨z0, z1, z2, z3, zf0, zf1, zf2, zf3⟩ := TI.cz
    dsimp only at a0 a1 a2 a3 b0 b1 b2 b3
    have hlz := TI.cz.lt
    have hla : w.heap.size < wr.heap.size := by omega
    have hlb : w.heap.size + 1 < wr.heap.size := by omega
    clear TI
    by_cases hic : i ≤ c
    · have hii : (i : Int) < (c : Int) + 1 := by omega
      have eL := HI.out.1
      rw [show c + 1 - i = (c - i) + 1 by omega] at eL
      have ST := two_step eL
      have LN := Lib.hid (fun W (hW : Row W (.slice b m d) bx) => line_calls c i br bt b m d bx W hW HBok.out hic)
      have AL := Lib.hid (fun a b n cap m d w => ALine_calls ⟨c, gx, ar, atn⟩ i a b n cap m d (lineP bx c i) w)
      clear eL
      generalize lineD ⟨c, gx, ar, atn⟩ (lineP bx c i) i = r at *
      go_wp2
      go_cut [9, 52] from 52 to 67 (fun s9 s52 wx => s52 = .int .i64 (i : Int) ∧ TwoCut w ⟨c, bx, br, bt⟩ b m d r s9 wx)
      case first =>
        rename_i J K' hJ hK'
        have TD := Lib.hid (HI.out.2.keep (Below.refl _ _).drew)
        clear ST
        go_region_with (first
          | (go_at_call 73; go_must (refine (LN.out _ TD.out.rb).mono ?_; rintro e wL ⟨⟨vL, rfl, hownL⟩, hbL⟩; obtain ⟨oa, on, oc, hvL⟩ := hownL.row.form; subst hvL; have RL := Lib.hid hownL.row; have TL := Lib.hid (TD.out.keep hbL); obtain ⟨k0, k1, k2, k3, _, _, _, _⟩ := TL.out.ca; clear hownL hbL))
          | (go_at_call 46; go_must (refine (AL.out _ _ _ _ _ _ _ TL.out.ra RL.out).mono ?_; rintro e wA ⟨⟨pa, pn, pcp, rfl, hrowA⟩, hbA⟩; have TA := Lib.hid (TL.out.keep hbA); obtain ⟨l0, l1, l2, l3, lf0, lf1, lf2, lf3⟩ := TA.out.ca; have RA := Lib.hid hrowA; clear hrowA hbA)))
        all_goals
          refine hK' _ _ (Met.intro (hJ _ _ ?_))
          (repeat apply Exists.intro)
          refine ⟨?_, rfl⟩
          refine ⟨rfl, ?_⟩
          unfold TwoCut
          refine ⟨pa, pn, pcp, rfl, ?_⟩
          exact ⟨TA.out.ca.put _ _ _ _, TA.out.cb.put_other (by omega) _ _ _ _, TA.out.cz.put_other (by omega) _ _ _ _, RA.out.put4 TA.out.ca slice_ne _ _ _ _, TA.out.rb.put4 TA.out.ca slice_ne _ _ _ _, below_put4 TA.out.below (Nat.le_refl _) _ _ _ _⟩
      case rest =>
        obtain ⟨rfl, gb, gm, gd, rfl, TC⟩ := hcut
        have HTC := Lib.hid TC
        obtain ⟨k0, k1, k2, k3, kf0, kf1, kf2, kf3⟩ := TC.ca
        obtain ⟨m0, m1, m2, m3, _, _, _, _⟩ := TC.cb
        obtain ⟨l0, l1, l2, l3, lf0, lf1, lf2, lf3⟩ := TC.cz
        clear TC
        rcases ST with ⟨e2, eR⟩ | ⟨gy, eL, eR⟩
        · subst eR
          rw [e2]
          clear e2
          go_wp2
          exact bodyPost_ret (v := .tuple #[facZ, .int .i64 2]) (by simp [results, Tryz.results30, go_sem, facZ, (HTC.out.cz.put (.int .i64 0) (.slice none 0 0) (.int .i64 0) (.int .i64 0)).c0, (HTC.out.cz.put (.int .i64 0) (.slice none 0 0) (.int .i64 0) (.int .i64 0)).c1, (HTC.out.cz.put (.int .i64 0) (.slice none 0 0) (.int .i64 0) (.int .i64 0)).c2, (HTC.out.cz.put (.int .i64 0) (.slice none 0 0) (.int .i64 0) (.int .i64 0)).c3]) rfl ⟨facE_no _ rfl, below_put4 HTC.out.below (by omega) _ _ _ _⟩
        · subst eL
          have ER := Lib.hid eR
          clear eR
          go_wp2
          refine ⟨⟨i + 1, gy, gb, gm, gd, by go_num, by omega, ?_, HTC.out⟩, by simp [intOf]; omega⟩
          have := ER.out
          rw [show c + 1 - (i + 1) = c - i by omega]
          exact this
    · obtain rfl : i = c + 1 := by omega
      have hii : ¬ ((c + 1 : Nat) : Int) < (c : Int) + 1 := by omega
      have hii' : ¬ (c : Int) + 1 < (c : Int) + 1 := by omega
      have eR := HI.out.1
      rw [Nat.sub_self] at eR
      obtain rfl : R = (⟨c, gx, ar, atn⟩, true) := eR.symm
      have HT := Lib.hid HI.out.2
      clear HI eR
      go_wp2
      go_region_with (go_at_call 62; refine (CS.out _).mono ?_; rintro e w' ⟨rfl, rfl⟩)
      all_goals
        go_wp2
        have E2 : Cells4 ((wr.setCell ⟨w.heap.size, 2, none⟩ (.int .i64 (ar + br))).setCell ⟨w.heap.size, 3, none⟩ (.int .i64 (max atn bt + sz))) w.heap.size (.int .i64 (c : Int)) (.slice ga gn gcp) (.int .i64 (ar + br)) (.int .i64 (max atn bt + sz)) :=
          ⟨cell_set_off (cell_set_off a0 (by decide)) (by decide), cell_set_off (cell_set_off a1 (by decide)) (by decide), cell_set_off (cell_set_eq a2) (by decide), cell_set_eq (cell_set_off a3 (by decide)), frozen_set (frozen_set af0), frozen_set (frozen_set af1), frozen_set (frozen_set af2), frozen_set (frozen_set af3)⟩
        have E4 := (HT.out.cz.set (b' := w.heap.size) (o := 2) (v := .int .i64 (ar + br)) (by omega)).set (b' := w.heap.size) (o := 3) (v := .int .i64 (max atn bt + sz)) (by omega)
        have RE : Row ((wr.setCell ⟨w.heap.size, 2, none⟩ (.int .i64 (ar + br))).setCell ⟨w.heap.size, 3, none⟩ (.int .i64 (max atn bt + sz))) (.slice ga gn gcp) gx :=
          (HT.out.ra.setAt HT.out.ca.c2 (fun _ e => by cases e) _).setAt (cell_set_off (o := 2) (v := .int .i64 (ar + br)) HT.out.ca.c3 (by decide)) (fun _ e => by cases e) _
        have P4 := E4.put (.int .i64 (c : Int)) (.slice ga gn gcp) (.int .i64 (ar + br)) (.int .i64 (max atn bt + sz))
        refine bodyPost_ret (v := .tuple #[.agg #[.int .i64 (c : Int), .slice ga gn gcp, .int .i64 (ar + br), .int .i64 (max atn bt + sz)], .int .i64 0]) (by simp [results, Tryz.results30, go_sem, P4.c0, P4.c1, P4.c2, P4.c3]) rfl ⟨⟨ga, gn, gcp, rfl, (RE.put4 E4 slice_ne _ _ _ _).below (Below.refl _ _).drew⟩, ?_⟩
        exact (below_put4 ((HT.out.below.setCell (p := ⟨w.heap.size, 2, none⟩) (Nat.le_refl _) _).setCell (p := ⟨w.heap.size, 3, none⟩) (Nat.le_refl _) _) (by omega) _ _ _ _).drew

/-- the program's Two -/
theorem two_calls (A B : FacD) (a b : Option Addr) (n c m d : Nat) (w : World) (h : Row w (.slice a n c) A.xs) (h' : Row w (.slice b m d) B.xs) :
    Calls Tryz.prog 30 #[.agg #[.int .i64 A.cols, .slice a n c, .int .i64 A.rws, .int .i64 A.trn], .agg #[.int .i64 B.cols, .slice b m d, .int .i64 B.rws, .int .i64 B.trn]] w fun e w' => FacE (twoD A B) e w' ∧ Below w.heap.size w w' := by
  by_cases he : twoEarly A B = 0
  · rw [twoD_loop he rfl]
    obtain ⟨hA, hB, hc, _, _⟩ := two_zero he
    obtain ⟨h1, h6⟩ := ok_cols hA
    obtain ⟨ac, ax, ar, atn⟩ := A
    obtain ⟨bc, bx, br, bt⟩ := B
    dsimp only at hc h1 h6 h h' ⊢
    subst hc
    obtain ⟨k, rfl⟩ := Int.eq_ofNat_of_zero_le (show 0 ≤ ac by omega)
    exact two_yes k ax bx ar atn br bt a b n c m d w h h' he _ rfl
  · exact two_no A B a b n c m d w h h' he
end Go.Proofs.YtnboegeljaplbaaGreat
namespace Go.Proofs.YtnboegeljaplbaaGreat
open Go.RowKit Lv Go.Shelf
open Ieee (double Format Datum Toward)
attribute [local go_sem] Oper.semAt_some run_store_float drewN_alloc drewN_setCell

/-- a slice value that reads as factors -/
def Fcs (w : World) (v : Value) (Fs : List FacD) : Prop :=
  ∃ (a : Option Addr) (cap : Nat), v = .slice a Fs.length cap ∧ Fs.length ≤ cap ∧ cap ≤ maxLen ∧
    (Fs.length = 0 ∨ ∃ blk off, a = some ⟨blk, off, none⟩ ∧ ∀ i, i < Fs.length → ∃ b m d, w.cell? ⟨blk, off + i * 4, none⟩ = some (.int .i64 (Fs.getD i fac0).cols) ∧ w.cell? ⟨blk, off + i * 4 + 1, none⟩ = some (.slice b m d) ∧
      w.cell? ⟨blk, off + i * 4 + 2, none⟩ = some (.int .i64 (Fs.getD i fac0).rws) ∧ w.cell? ⟨blk, off + i * 4 + 3, none⟩ = some (.int .i64 (Fs.getD i fac0).trn) ∧ Row w (.slice b m d) (Fs.getD i fac0).xs)
theorem Fcs.below {w w' : World} {v : Value} {Fs : List FacD} (h : Fcs w v Fs) (hb : Below w.heap.size w w') : Fcs w' v Fs := by
  obtain ⟨a, cap, rfl, h1, h2, h3⟩ := h
  refine ⟨a, cap, rfl, h1, h2, ?_⟩
  rcases h3 with h3 | ⟨blk, off, rfl, hc⟩
  · exact .inl h3
  · refine .inr ⟨blk, off, rfl, fun i hi => ?_⟩
    obtain ⟨b, m, d, k1, k2, k3, k4, k5⟩ := hc i hi
    exact ⟨b, m, d, (hb.cell (p := ⟨blk, off + i * 4, none⟩) (cell_lt k1)).trans k1, (hb.cell (p := ⟨blk, off + i * 4 + 1, none⟩) (cell_lt k2)).trans k2, (hb.cell (p := ⟨blk, off + i * 4 + 2, none⟩) (cell_lt k3)).trans k3, (hb.cell (p := ⟨blk, off + i * 4 + 3, none⟩) (cell_lt k4)).trans k4, k5.below hb⟩
theorem Fcs.len {w : World} {a : Option Addr} {n cap : Nat} {Fs : List FacD} (h : Fcs w (.slice a n cap) Fs) : Fs.length = n ∧ n ≤ cap ∧ cap ≤ 9223372036854775807 := by
  obtain ⟨_, _, hv, h1, h2, _⟩ := h
  simp only [Value.slice.injEq] at hv
  unfold maxLen at h2
  obtain ⟨_, rfl, rfl⟩ := hv
  exact ⟨rfl, h1, by omega⟩
theorem Fcs.at {w : World} {a : Option Addr} {n cap : Nat} {Fs : List FacD} (h : Fcs w (.slice a n cap) Fs) (hn : 0 < n) : ∃ blk off, a = some ⟨blk, off, none⟩ ∧ ∀ i, i < n → ∃ b m d, w.cell? ⟨blk, off + i * 4, none⟩ = some (.int .i64 (Fs.getD i fac0).cols) ∧ w.cell? ⟨blk, off + i * 4 + 1, none⟩ = some (.slice b m d) ∧
      w.cell? ⟨blk, off + i * 4 + 2, none⟩ = some (.int .i64 (Fs.getD i fac0).rws) ∧ w.cell? ⟨blk, off + i * 4 + 3, none⟩ = some (.int .i64 (Fs.getD i fac0).trn) ∧ Row w (.slice b m d) (Fs.getD i fac0).xs := by
  obtain ⟨a', cap', hv, h1, h2, h3⟩ := h
  simp only [Value.slice.injEq] at hv
  obtain ⟨rfl, rfl, rfl⟩ := hv
  rcases h3 with h3 | h3
  · omega
  · exact h3
theorem Fcs.tail {w : World} {blk off n cap : Nat} {a' : Option Addr} {A : FacD} {Bs : List FacD} (h : Fcs w (.slice (some ⟨blk, off, none⟩) n cap) (A :: Bs)) (ha : n = 1 ∨ a' = some ⟨blk, off + 4, none⟩) : Fcs w (.slice a' (n - 1) (cap - 1)) Bs := by
  obtain ⟨a1, cap1, hv, h1, h2, h3⟩ := h
  simp only [Value.slice.injEq] at hv
  obtain ⟨rfl, rfl, rfl⟩ := hv
  simp only [List.length_cons] at h1 h3 ha ⊢
  refine ⟨a', cap - 1, rfl, by omega, by omega, ?_⟩
  rcases ha with ha | rfl
  · exact .inl (by omega)
  · rcases h3 with h3 | ⟨b1, o1, e, hc⟩
    · omega
    · simp only [Option.some.injEq, Addr.mk.injEq, and_true] at e
      obtain ⟨rfl, rfl⟩ := e
      refine .inr ⟨blk, off + 4, rfl, fun i hi => ?_⟩
      have := hc (i + 1) (by omega)
      simp only [List.getD_cons_succ] at this
      rw [show off + (i + 1) * 4 = off + 4 + i * 4 by omega] at this
      exact this

/-- factors merged from the left -/
def mfold : FacD → List FacD → FacD × Int
  | G, [] => (G, 0)
  | G, B :: Bs => if (twoD G B).2 ≠ 0 then (fac0, (twoD G B).2) else mfold (twoD G B).1 Bs
def mallD : List FacD → FacD × Int
  | [] => (fac0, 4)
  | A :: Bs => if A.ok = false then (fac0, 1) else mfold A Bs
theorem fold_step {k : Nat} {G : FacD} {Bs : List FacD} {R : FacD × Int} (hk : k < Bs.length) (h : mfold G (Bs.drop k) = R) :
    ((twoD G (Bs.getD k fac0)).2 ≠ 0 ∧ R = (fac0, (twoD G (Bs.getD k fac0)).2)) ∨ ((twoD G (Bs.getD k fac0)).2 = 0 ∧ mfold (twoD G (Bs.getD k fac0)).1 (Bs.drop (k + 1)) = R) := by
  have e : Bs.getD k fac0 = Bs[k] := by rw [List.getD_eq_getElem?_getD, List.getElem?_eq_getElem hk]; rfl
  rw [e]
  rw [List.drop_eq_getElem_cons hk] at h
  unfold mfold at h
  by_cases h2 : (twoD G Bs[k]).2 ≠ 0
  · rw [if_pos h2] at h; exact .inl ⟨h2, h.symm⟩
  · rw [if_neg h2] at h; exact .inr ⟨by simpa using h2, h⟩

/-- what stands at the loop's head -/
structure FInv (w : World) (R : FacD × Int) (Bs : List FacD) (W : World) (k : Nat) (G : FacD) (a : Option Addr) (n cap : Nat) : Prop where
  c3 : Cells4 W w.heap.size (.int .i64 G.cols) (.slice a n cap) (.int .i64 G.rws) (.int .i64 G.trn)
  c6 : Cells4 W (w.heap.size + 1) (.int .i64 0) (.slice none 0 0) (.int .i64 0) (.int .i64 0)
  c8 : Cells4 W (w.heap.size + 1 + 1) (.int .i64 0) (.slice none 0 0) (.int .i64 0) (.int .i64 0)
  row : Row W (.slice a n cap) G.xs
  eq : mfold G (Bs.drop k) = R
  below : Below w.heap.size w W

end Go.Proofs.YtnboegeljaplbaaGreat
namespace Go.Proofs.YtnboegeljaplbaaGreat
open Go.RowKit Lv Go.Shelf
open Ieee (double Format Datum Toward)
attribute [local go_sem] Oper.semAt_some run_store_float drewN_alloc drewN_setCell

end Go.Proofs.YtnboegeljaplbaaGreat
