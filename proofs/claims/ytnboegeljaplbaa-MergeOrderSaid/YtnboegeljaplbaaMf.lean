/- Two factors merged: what the program refuses, walked. Two factors merged: what the reference refuses, walked. Two factors merged: the reference's loop over the rows. -/
import Derived.Test.YtnboegeljaplbaaMb
import Derived.Test.YtnboegeljaplbaaSk
import Derived.Deep.CutRange
import Derived.Deep.RegionWith
import Derived.BigQuiet
import Derived.Deep.QuietTactic
import Derived.IntWalk
import Derived.Deep.RegionHeld3
import Derived.LoopTactic
namespace Go.Proofs.Ytnboegeljaplbaa
open Go.RowKit Lv Go.Shelf
open Ieee (double Format Datum Toward)
attribute [local go_sem high] run_maxI

attribute [local go_sem] Oper.semAt_some run_store_float drewN_alloc drewN_setCell

/-- where two factors and the zero factor stand -/
structure TwoAt (w W : World) (A B : FacD) (a : Option Addr) (n c : Nat) (b : Option Addr) (m d : Nat) : Prop where
  ca : Cells4 W w.heap.size (.int .i64 A.cols) (.slice a n c) (.int .i64 A.rws) (.int .i64 A.trn)
  cb : Cells4 W (w.heap.size + 1) (.int .i64 B.cols) (.slice b m d) (.int .i64 B.rws) (.int .i64 B.trn)
  cz : Cells4 W (w.heap.size + 1 + 1) (.int .i64 0) (.slice none 0 0) (.int .i64 0) (.int .i64 0)
  ra : Row W (.slice a n c) A.xs
  rb : Row W (.slice b m d) B.xs
  below : Below w.heap.size w W
theorem TwoAt.keep {w W W' : World} {A B : FacD} {a : Option Addr} {n c : Nat} {b : Option Addr} {m d : Nat} (h : TwoAt w W A B a n c b m d) (hb : Below W.heap.size W W') : TwoAt w W' A B a n c b m d :=
  ⟨h.ca.below hb, h.cb.below hb, h.cz.below hb, h.ra.below hb, h.rb.below hb, h.below.trans (hb.mono h.below.size)⟩
theorem TwoAt.start (w : World) (A B : FacD) (a : Option Addr) (n c : Nat) (b : Option Addr) (m d : Nat) (h : Row w (.slice a n c) A.xs) (h' : Row w (.slice b m d) B.xs) :
    TwoAt w (((w.alloc (.cells #[.int .i64 A.cols, .slice a n c, .int .i64 A.rws, .int .i64 A.trn] 24)).alloc (.cells #[.int .i64 B.cols, .slice b m d, .int .i64 B.rws, .int .i64 B.trn] 24)).alloc (.cells #[.int .i64 0, .slice none 0 0, .int .i64 0, .int .i64 0] 24)) A B a n c b m d := by
  refine ⟨((Cells4.new w _ _ _ _ _).alloc _).alloc _, ?_, ?_, ((h.alloc _).alloc _).alloc _, ((h'.alloc _).alloc _).alloc _, (((Below.refl _ _).alloc (Nat.le_refl _) _).alloc (by simp) _).alloc (by simp; omega) _⟩
  · have := (Cells4.new (w.alloc (.cells #[.int .i64 A.cols, .slice a n c, .int .i64 A.rws, .int .i64 A.trn] 24)) (.int .i64 B.cols) (.slice b m d) (.int .i64 B.rws) (.int .i64 B.trn) 24).alloc (.cells #[.int .i64 0, .slice none 0 0, .int .i64 0, .int .i64 0] 24)
    simpa using this
  · have := Cells4.new ((w.alloc (.cells #[.int .i64 A.cols, .slice a n c, .int .i64 A.rws, .int .i64 A.trn] 24)).alloc (.cells #[.int .i64 B.cols, .slice b m d, .int .i64 B.rws, .int .i64 B.trn] 24)) (.int .i64 0) (.slice none 0 0) (.int .i64 0) (.int .i64 0) 24
    simpa using this

set_option maxRecDepth 100000 in
set_option maxHeartbeats 2000000 in
theorem two_no (A B : FacD) (a b : Option Addr) (n c m d : Nat) (w : World) (h : Row w (.slice a n c) A.xs) (h' : Row w (.slice b m d) B.xs) (hno : twoEarly A B ≠ 0) :
    Calls Try.prog 17 #[.agg #[.int .i64 A.cols, .slice a n c, .int .i64 A.rws, .int .i64 A.trn], .agg #[.int .i64 B.cols, .slice b m d, .int .i64 B.rws, .int .i64 B.trn]] w fun e w' => FacE (twoD A B) e w' ∧ Below w.heap.size w w' := by
  have CA : ∀ W, Row W (.slice a n c) A.xs → Calls Try.prog 33 #[.agg #[.int .i64 A.cols, .slice a n c, .int .i64 A.rws, .int .i64 A.trn]] W fun e w' => e = .returned (.bool A.ok) ∧ Below W.heap.size W w' := fun W hW => check_calls A.cols A.rws A.trn a n c A.xs W hW
  have CB : ∀ W, Row W (.slice b m d) B.xs → Calls Try.prog 33 #[.agg #[.int .i64 B.cols, .slice b m d, .int .i64 B.rws, .int .i64 B.trn]] W fun e w' => e = .returned (.bool B.ok) ∧ Below W.heap.size W w' := fun W hW => check_calls B.cols B.rws B.trn b m d B.xs W hW
  cases hA : A.ok
  · rw [twoD_early (x := 1) (by unfold twoEarly; rw [if_pos (.inl hA)]) (by decide)]
    rw [hA] at CA
    have CA := Lib.hid CA
    clear CB hA hno
    have T := TwoAt.start w A B a n c b m d h h'
    go_enter Try.func17, Try.ntmps17
    go_wp2
    generalize (((w.alloc (.cells #[.int .i64 A.cols, .slice a n c, .int .i64 A.rws, .int .i64 A.trn] 24)).alloc (.cells #[.int .i64 B.cols, .slice b m d, .int .i64 B.rws, .int .i64 B.trn] 24)).alloc (.cells #[.int .i64 0, .slice none 0 0, .int .i64 0, .int .i64 0] 24)) = W0 at *
    have HT0 := Lib.hid T
    have HT := Lib.hid (T.keep ((Below.refl _ _).drew))
    obtain ⟨a0, a1, a2, a3, _, _, _, _⟩ := T.ca
    obtain ⟨b0, b1, b2, b3, _, _, _, _⟩ := T.cb
    clear T h h'
    go_region
    clear a0 a1 a2 a3 b0 b1 b2 b3 HT0
    generalize W0.drew = W at *
    obtain ⟨a0, a1, a2, a3, _, _, _, _⟩ := HT.out.ca
    obtain ⟨b0, b1, b2, b3, _, _, _, _⟩ := HT.out.cb
    obtain ⟨z0, z1, z2, z3, zf0, zf1, zf2, zf3⟩ := HT.out.cz
    have hsz := HT.out.cz.lt
    go_wp2_with (go_at_call_of 33 (Value.agg #[.int .i64 A.cols, .slice a n c, .int .i64 A.rws, .int .i64 A.trn]); go_must (refine (CA.out _ HT.out.ra).mono ?_; rintro e w1 ⟨rfl, hb1⟩; have HT1 := Lib.hid (HT.out.keep hb1); clear a0 a1 a2 a3 b0 b1 b2 b3 z0 z1 z2 z3 zf0 zf1 zf2 zf3; obtain ⟨a0, a1, a2, a3, _, _, _, _⟩ := HT1.out.ca; obtain ⟨b0, b1, b2, b3, _, _, _, _⟩ := HT1.out.cb; obtain ⟨z0, z1, z2, z3, zf0, zf1, zf2, zf3⟩ := HT1.out.cz; clear hb1))
    exact bodyPost_ret (v := .tuple #[facZ, .int .i64 1]) (by simp [results, Try.results17, go_sem, facZ, (HT1.out.cz.put (.int .i64 0) (.slice none 0 0) (.int .i64 0) (.int .i64 0)).c0, (HT1.out.cz.put (.int .i64 0) (.slice none 0 0) (.int .i64 0) (.int .i64 0)).c1, (HT1.out.cz.put (.int .i64 0) (.slice none 0 0) (.int .i64 0) (.int .i64 0)).c2, (HT1.out.cz.put (.int .i64 0) (.slice none 0 0) (.int .i64 0) (.int .i64 0)).c3]) rfl ⟨facE_no _ rfl, below_put4 HT1.out.below (by omega) _ _ _ _⟩
  · have hokA := ok_rows hA
    obtain ⟨hA1, hA6⟩ := ok_cols hA
    rw [hA] at CA
    have CA := Lib.hid CA
    cases hB : B.ok
    · rw [twoD_early (x := 1) (by unfold twoEarly; rw [if_pos (.inr hB)]) (by decide)]
      rw [hB] at CB
      have CB := Lib.hid CB
      clear hA hB hno
      have T := TwoAt.start w A B a n c b m d h h'
      go_enter Try.func17, Try.ntmps17
      go_wp2
      generalize (((w.alloc (.cells #[.int .i64 A.cols, .slice a n c, .int .i64 A.rws, .int .i64 A.trn] 24)).alloc (.cells #[.int .i64 B.cols, .slice b m d, .int .i64 B.rws, .int .i64 B.trn] 24)).alloc (.cells #[.int .i64 0, .slice none 0 0, .int .i64 0, .int .i64 0] 24)) = W0 at *
      have HT0 := Lib.hid T
      have HT := Lib.hid (T.keep ((Below.refl _ _).drew))
      obtain ⟨a0, a1, a2, a3, _, _, _, _⟩ := T.ca
      obtain ⟨b0, b1, b2, b3, _, _, _, _⟩ := T.cb
      clear T h h'
      go_region
      clear a0 a1 a2 a3 b0 b1 b2 b3 HT0
      generalize W0.drew = W at *
      obtain ⟨a0, a1, a2, a3, _, _, _, _⟩ := HT.out.ca
      obtain ⟨b0, b1, b2, b3, _, _, _, _⟩ := HT.out.cb
      obtain ⟨z0, z1, z2, z3, zf0, zf1, zf2, zf3⟩ := HT.out.cz
      have hsz := HT.out.cz.lt
      go_wp2_with (first | (go_at_call_of 33 (Value.agg #[.int .i64 A.cols, .slice a n c, .int .i64 A.rws, .int .i64 A.trn]); go_must (refine (CA.out _ HT.out.ra).mono ?_; rintro e w1 ⟨rfl, hb1⟩; have HT1 := Lib.hid (HT.out.keep hb1); clear a0 a1 a2 a3 b0 b1 b2 b3 z0 z1 z2 z3 zf0 zf1 zf2 zf3; obtain ⟨a0, a1, a2, a3, _, _, _, _⟩ := HT1.out.ca; obtain ⟨b0, b1, b2, b3, _, _, _, _⟩ := HT1.out.cb; obtain ⟨z0, z1, z2, z3, zf0, zf1, zf2, zf3⟩ := HT1.out.cz; clear hb1)) | (go_at_call 33; go_must (refine (CB.out _ HT1.out.rb).mono ?_; rintro e w2 ⟨rfl, hb2⟩; have HT2 := Lib.hid (HT1.out.keep hb2); clear a0 a1 a2 a3 b0 b1 b2 b3 z0 z1 z2 z3 zf0 zf1 zf2 zf3; obtain ⟨a0, a1, a2, a3, _, _, _, _⟩ := HT2.out.ca; obtain ⟨b0, b1, b2, b3, _, _, _, _⟩ := HT2.out.cb; obtain ⟨z0, z1, z2, z3, zf0, zf1, zf2, zf3⟩ := HT2.out.cz; clear hb2)))
      exact bodyPost_ret (v := .tuple #[facZ, .int .i64 1]) (by simp [results, Try.results17, go_sem, facZ, (HT2.out.cz.put (.int .i64 0) (.slice none 0 0) (.int .i64 0) (.int .i64 0)).c0, (HT2.out.cz.put (.int .i64 0) (.slice none 0 0) (.int .i64 0) (.int .i64 0)).c1, (HT2.out.cz.put (.int .i64 0) (.slice none 0 0) (.int .i64 0) (.int .i64 0)).c2, (HT2.out.cz.put (.int .i64 0) (.slice none 0 0) (.int .i64 0) (.int .i64 0)).c3]) rfl ⟨facE_no _ rfl, below_put4 HT2.out.below (by omega) _ _ _ _⟩
    · have hokB := ok_rows hB
      rw [hB] at CB
      have CB := Lib.hid CB
      have hn : ¬ (A.ok = false ∨ B.ok = false) := by rw [hA, hB]; simp
      by_cases hc : A.cols ≠ B.cols
      · rw [twoD_early (x := 3) (by unfold twoEarly; rw [if_neg hn, if_pos hc]) (by decide)]
        have hne : (A.cols != B.cols) = true := by simpa using hc
        clear hA hB hno hn hc
        have T := TwoAt.start w A B a n c b m d h h'
        go_enter Try.func17, Try.ntmps17
        go_wp2
        generalize (((w.alloc (.cells #[.int .i64 A.cols, .slice a n c, .int .i64 A.rws, .int .i64 A.trn] 24)).alloc (.cells #[.int .i64 B.cols, .slice b m d, .int .i64 B.rws, .int .i64 B.trn] 24)).alloc (.cells #[.int .i64 0, .slice none 0 0, .int .i64 0, .int .i64 0] 24)) = W0 at *
        have HT0 := Lib.hid T
        have HT := Lib.hid (T.keep ((Below.refl _ _).drew))
        obtain ⟨a0, a1, a2, a3, _, _, _, _⟩ := T.ca
        obtain ⟨b0, b1, b2, b3, _, _, _, _⟩ := T.cb
        clear T h h'
        go_region
        clear a0 a1 a2 a3 b0 b1 b2 b3 HT0
        generalize W0.drew = W at *
        obtain ⟨a0, a1, a2, a3, _, _, _, _⟩ := HT.out.ca
        obtain ⟨b0, b1, b2, b3, _, _, _, _⟩ := HT.out.cb
        obtain ⟨z0, z1, z2, z3, zf0, zf1, zf2, zf3⟩ := HT.out.cz
        have hsz := HT.out.cz.lt
        go_wp2_with (first | (go_at_call_of 33 (Value.agg #[.int .i64 A.cols, .slice a n c, .int .i64 A.rws, .int .i64 A.trn]); go_must (refine (CA.out _ HT.out.ra).mono ?_; rintro e w1 ⟨rfl, hb1⟩; have HT1 := Lib.hid (HT.out.keep hb1); clear a0 a1 a2 a3 b0 b1 b2 b3 z0 z1 z2 z3 zf0 zf1 zf2 zf3; obtain ⟨a0, a1, a2, a3, _, _, _, _⟩ := HT1.out.ca; obtain ⟨b0, b1, b2, b3, _, _, _, _⟩ := HT1.out.cb; obtain ⟨z0, z1, z2, z3, zf0, zf1, zf2, zf3⟩ := HT1.out.cz; clear hb1)) | (go_at_call 33; go_must (refine (CB.out _ HT1.out.rb).mono ?_; rintro e w2 ⟨rfl, hb2⟩; have HT2 := Lib.hid (HT1.out.keep hb2); clear a0 a1 a2 a3 b0 b1 b2 b3 z0 z1 z2 z3 zf0 zf1 zf2 zf3; obtain ⟨a0, a1, a2, a3, _, _, _, _⟩ := HT2.out.ca; obtain ⟨b0, b1, b2, b3, _, _, _, _⟩ := HT2.out.cb; obtain ⟨z0, z1, z2, z3, zf0, zf1, zf2, zf3⟩ := HT2.out.cz; clear hb2)))
        exact bodyPost_ret (v := .tuple #[facZ, .int .i64 3]) (by simp [results, Try.results17, go_sem, facZ, (HT2.out.cz.put (.int .i64 0) (.slice none 0 0) (.int .i64 0) (.int .i64 0)).c0, (HT2.out.cz.put (.int .i64 0) (.slice none 0 0) (.int .i64 0) (.int .i64 0)).c1, (HT2.out.cz.put (.int .i64 0) (.slice none 0 0) (.int .i64 0) (.int .i64 0)).c2, (HT2.out.cz.put (.int .i64 0) (.slice none 0 0) (.int .i64 0) (.int .i64 0)).c3]) rfl ⟨facE_no _ rfl, below_put4 HT2.out.below (by omega) _ _ _ _⟩
      · have e0 : twoEarly A B = if 200 < A.rws + B.rws ∨ 4096 < max A.trn B.trn + sizeI A.cols then 6 else 0 := by unfold twoEarly; rw [if_neg hn, if_neg hc]
        have h3 : 200 < A.rws + B.rws ∨ 4096 < max A.trn B.trn + sizeI A.cols := by
          by_cases h3 : 200 < A.rws + B.rws ∨ 4096 < max A.trn B.trn + sizeI A.cols
          · exact h3
          · rw [e0, if_neg h3] at hno; exact absurd rfl hno
        rw [twoD_early (x := 6) (by rw [e0, if_pos h3]) (by decide)]
        have hne : (A.cols != B.cols) = false := by simpa using hc
        obtain ⟨z3, z28⟩ := sizeI_in hA1 hA6
        obtain ⟨p0, p1, p2, p3⟩ := hokA
        obtain ⟨q0, q1, q2, q3⟩ := hokB
        have hmx : 0 ≤ max A.trn B.trn ∧ max A.trn B.trn ≤ 4096 := by omega
        obtain ⟨hm0, hm1⟩ := hmx
        have CS := Lib.hid (cost_calls A.cols)
        by_cases hr : 200 < A.rws + B.rws
        · clear hA hB hno hn hc e0 h3
          generalize sizeI A.cols = sz at *
          have T := TwoAt.start w A B a n c b m d h h'
          go_enter Try.func17, Try.ntmps17
          go_wp2
          generalize (((w.alloc (.cells #[.int .i64 A.cols, .slice a n c, .int .i64 A.rws, .int .i64 A.trn] 24)).alloc (.cells #[.int .i64 B.cols, .slice b m d, .int .i64 B.rws, .int .i64 B.trn] 24)).alloc (.cells #[.int .i64 0, .slice none 0 0, .int .i64 0, .int .i64 0] 24)) = W0 at *
          have HT0 := Lib.hid T
          have HT := Lib.hid (T.keep ((Below.refl _ _).drew))
          obtain ⟨a0, a1, a2, a3, _, _, _, _⟩ := T.ca
          obtain ⟨b0, b1, b2, b3, _, _, _, _⟩ := T.cb
          clear T h h'
          go_region
          clear a0 a1 a2 a3 b0 b1 b2 b3 HT0
          generalize W0.drew = W at *
          obtain ⟨a0, a1, a2, a3, _, _, _, _⟩ := HT.out.ca
          obtain ⟨b0, b1, b2, b3, _, _, _, _⟩ := HT.out.cb
          obtain ⟨z0, z1, z2, z3, zf0, zf1, zf2, zf3⟩ := HT.out.cz
          have hsz := HT.out.cz.lt
          go_wp2_with (first | (go_at_call_of 33 (Value.agg #[.int .i64 A.cols, .slice a n c, .int .i64 A.rws, .int .i64 A.trn]); go_must (refine (CA.out _ HT.out.ra).mono ?_; rintro e w1 ⟨rfl, hb1⟩; have HT1 := Lib.hid (HT.out.keep hb1); clear a0 a1 a2 a3 b0 b1 b2 b3 z0 z1 z2 z3 zf0 zf1 zf2 zf3; obtain ⟨a0, a1, a2, a3, _, _, _, _⟩ := HT1.out.ca; obtain ⟨b0, b1, b2, b3, _, _, _, _⟩ := HT1.out.cb; obtain ⟨z0, z1, z2, z3, zf0, zf1, zf2, zf3⟩ := HT1.out.cz; clear hb1)) | (go_at_call 33; go_must (refine (CB.out _ HT1.out.rb).mono ?_; rintro e w2 ⟨rfl, hb2⟩; have HT2 := Lib.hid (HT1.out.keep hb2); clear a0 a1 a2 a3 b0 b1 b2 b3 z0 z1 z2 z3 zf0 zf1 zf2 zf3; obtain ⟨a0, a1, a2, a3, _, _, _, _⟩ := HT2.out.ca; obtain ⟨b0, b1, b2, b3, _, _, _, _⟩ := HT2.out.cb; obtain ⟨z0, z1, z2, z3, zf0, zf1, zf2, zf3⟩ := HT2.out.cz; clear hb2)))
          exact bodyPost_ret (v := .tuple #[facZ, .int .i64 6]) (by simp [results, Try.results17, go_sem, facZ, (HT2.out.cz.put (.int .i64 0) (.slice none 0 0) (.int .i64 0) (.int .i64 0)).c0, (HT2.out.cz.put (.int .i64 0) (.slice none 0 0) (.int .i64 0) (.int .i64 0)).c1, (HT2.out.cz.put (.int .i64 0) (.slice none 0 0) (.int .i64 0) (.int .i64 0)).c2, (HT2.out.cz.put (.int .i64 0) (.slice none 0 0) (.int .i64 0) (.int .i64 0)).c3]) rfl ⟨facE_no _ rfl, below_put4 HT2.out.below (by omega) _ _ _ _⟩
        · have ht : 4096 < max A.trn B.trn + sizeI A.cols := by omega
          clear hA hB hno hn hc e0 h3
          generalize sizeI A.cols = sz at *
          have T := TwoAt.start w A B a n c b m d h h'
          go_enter Try.func17, Try.ntmps17
          go_wp2
          generalize (((w.alloc (.cells #[.int .i64 A.cols, .slice a n c, .int .i64 A.rws, .int .i64 A.trn] 24)).alloc (.cells #[.int .i64 B.cols, .slice b m d, .int .i64 B.rws, .int .i64 B.trn] 24)).alloc (.cells #[.int .i64 0, .slice none 0 0, .int .i64 0, .int .i64 0] 24)) = W0 at *
          have HT0 := Lib.hid T
          have HT := Lib.hid (T.keep ((Below.refl _ _).drew))
          obtain ⟨a0, a1, a2, a3, _, _, _, _⟩ := T.ca
          obtain ⟨b0, b1, b2, b3, _, _, _, _⟩ := T.cb
          clear T h h'
          go_region
          clear a0 a1 a2 a3 b0 b1 b2 b3 HT0
          generalize W0.drew = W at *
          obtain ⟨a0, a1, a2, a3, _, _, _, _⟩ := HT.out.ca
          obtain ⟨b0, b1, b2, b3, _, _, _, _⟩ := HT.out.cb
          obtain ⟨z0, z1, z2, z3, zf0, zf1, zf2, zf3⟩ := HT.out.cz
          have hsz := HT.out.cz.lt
          go_wp2_with (first | (go_at_call_of 33 (Value.agg #[.int .i64 A.cols, .slice a n c, .int .i64 A.rws, .int .i64 A.trn]); go_must (refine (CA.out _ HT.out.ra).mono ?_; rintro e w1 ⟨rfl, hb1⟩; have HT1 := Lib.hid (HT.out.keep hb1); clear a0 a1 a2 a3 b0 b1 b2 b3 z0 z1 z2 z3 zf0 zf1 zf2 zf3; obtain ⟨a0, a1, a2, a3, _, _, _, _⟩ := HT1.out.ca; obtain ⟨b0, b1, b2, b3, _, _, _, _⟩ := HT1.out.cb; obtain ⟨z0, z1, z2, z3, zf0, zf1, zf2, zf3⟩ := HT1.out.cz; clear hb1)) | (go_at_call 33; go_must (refine (CB.out _ HT1.out.rb).mono ?_; rintro e w2 ⟨rfl, hb2⟩; have HT2 := Lib.hid (HT1.out.keep hb2); clear a0 a1 a2 a3 b0 b1 b2 b3 z0 z1 z2 z3 zf0 zf1 zf2 zf3; obtain ⟨a0, a1, a2, a3, _, _, _, _⟩ := HT2.out.ca; obtain ⟨b0, b1, b2, b3, _, _, _, _⟩ := HT2.out.cb; obtain ⟨z0, z1, z2, z3, zf0, zf1, zf2, zf3⟩ := HT2.out.cz; clear hb2)) | (go_at_call 18; refine (CS.out _).mono ?_; rintro e w' ⟨rfl, rfl⟩))
          exact bodyPost_ret (v := .tuple #[facZ, .int .i64 6]) (by simp [results, Try.results17, go_sem, facZ, (HT2.out.cz.put (.int .i64 0) (.slice none 0 0) (.int .i64 0) (.int .i64 0)).c0, (HT2.out.cz.put (.int .i64 0) (.slice none 0 0) (.int .i64 0) (.int .i64 0)).c1, (HT2.out.cz.put (.int .i64 0) (.slice none 0 0) (.int .i64 0) (.int .i64 0)).c2, (HT2.out.cz.put (.int .i64 0) (.slice none 0 0) (.int .i64 0) (.int .i64 0)).c3]) rfl ⟨facE_no _ rfl, below_put4 HT2.out.below (by omega) _ _ _ _⟩
end Go.Proofs.Ytnboegeljaplbaa
namespace Go.Proofs.Ytnboegeljaplbaa
open Go.RowKit Lv Go.Shelf
open Ieee (double Format Datum Toward)
attribute [local go_sem high] run_maxI

attribute [local go_sem] Oper.semAt_some run_store_float drewN_alloc drewN_setCell

end Go.Proofs.Ytnboegeljaplbaa
namespace Go.Proofs.Ytnboegeljaplbaa
open Go.RowKit Lv Go.Shelf
open Ieee (double Format Datum Toward)
attribute [local go_sem high] run_maxI

attribute [local go_sem] Oper.semAt_some run_store_float drewN_alloc drewN_setCell

/-- where two factors stand, and the one that is being made -/
structure RTwoAt (w W : World) (g : Nat) (A B G : FacD) (a : Option Addr) (n c : Nat) (b : Option Addr) (m d : Nat) (p : Option Addr) (pn pc : Nat) : Prop where
  t : TwoAt w W A B a n c b m d
  cg : Cells4 W g (.int .i64 G.cols) (.slice p pn pc) (.int .i64 G.rws) (.int .i64 G.trn)
  rg : Row W (.slice p pn pc) G.xs
  lt : w.heap.size + 1 + 1 < g
theorem RTwoAt.keep {w W W' : World} {g : Nat} {A B G : FacD} {a : Option Addr} {n c : Nat} {b : Option Addr} {m d : Nat} {p : Option Addr} {pn pc : Nat} (h : RTwoAt w W g A B G a n c b m d p pn pc) (hb : Below W.heap.size W W') : RTwoAt w W' g A B G a n c b m d p pn pc :=
  ⟨h.t.keep hb, h.cg.below hb, h.rg.below hb, h.lt⟩
theorem RTwoAt.put {w W : World} {g : Nat} {A B G G' : FacD} {a : Option Addr} {n c : Nat} {b : Option Addr} {m d : Nat} {p : Option Addr} {pn pc : Nat} {q : Option Addr} {qn qc : Nat} (h : RTwoAt w W g A B G a n c b m d p pn pc) (hq : Row W (.slice q qn qc) G'.xs) :
    RTwoAt w ((((W.setCell ⟨g, 0, none⟩ (.int .i64 G'.cols)).setCell ⟨g, 1, none⟩ (.slice q qn qc)).setCell ⟨g, 2, none⟩ (.int .i64 G'.rws)).setCell ⟨g, 3, none⟩ (.int .i64 G'.trn)) g A B G' a n c b m d q qn qc := by
  have := h.lt
  exact ⟨⟨h.t.ca.put_other (by omega) _ _ _ _, h.t.cb.put_other (by omega) _ _ _ _, h.t.cz.put_other (by omega) _ _ _ _, h.t.ra.put4 h.cg slice_ne _ _ _ _, h.t.rb.put4 h.cg slice_ne _ _ _ _, below_put4 h.t.below (by omega) _ _ _ _⟩, h.cg.put _ _ _ _, hq.put4 h.cg slice_ne _ _ _ _, this⟩
/-- behind the statement that rotates a row in -/
def RTwoCut (wr : World) (r : FacD × Bool) (s9 s10 : Value) (W : World) : Prop :=
  ∃ (b9 : Nat) (ga : Option Addr) (gn gcp : Nat), s9 = .pointer (some ⟨b9, 0, none⟩) ∧ s10 = .bool r.2 ∧ Cells4 W b9 (.int .i64 r.1.cols) (.slice ga gn gcp) (.int .i64 r.1.rws) (.int .i64 r.1.trn) ∧ Row W (.slice ga gn gcp) r.1.xs ∧ Below wr.heap.size wr W ∧ wr.heap.size ≤ b9

end Go.Proofs.Ytnboegeljaplbaa
