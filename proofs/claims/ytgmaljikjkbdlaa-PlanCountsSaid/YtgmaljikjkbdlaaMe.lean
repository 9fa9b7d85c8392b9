/- Two factors merged: what the reference refuses, walked. -/
import Derived.Test.YtgmaljikjkbdlaaMc
import Derived.Deep.RegionWith
import Derived.BigQuiet
import Derived.Deep.QuietTactic
import Derived.IntWalk
namespace Go.Proofs.Ytgmaljikjkbdlaa
open Go.RowKit Lv Go.Shelf
open Ieee (double Format Datum Toward)
attribute [local go_sem high] run_maxI

attribute [local go_sem] Oper.semAt_some run_store_float drewN_alloc drewN_setCell

set_option maxRecDepth 100000 in
set_option maxHeartbeats 2000000 in
theorem rtwo_no (A B : FacD) (a b : Option Addr) (n c m d : Nat) (w : World) (h : Row w (.slice a n c) A.xs) (h' : Row w (.slice b m d) B.xs) (hno : twoEarly A B ≠ 0) :
    Calls Try.prog 42 #[.agg #[.int .i64 A.cols, .slice a n c, .int .i64 A.rws, .int .i64 A.trn], .agg #[.int .i64 B.cols, .slice b m d, .int .i64 B.rws, .int .i64 B.trn]] w fun e w' => FacE (twoD A B) e w' ∧ Below w.heap.size w w' := by
  have CA : ∀ W, Row W (.slice a n c) A.xs → Calls Try.prog 28 #[.agg #[.int .i64 A.cols, .slice a n c, .int .i64 A.rws, .int .i64 A.trn]] W fun e w' => e = .returned (.bool A.ok) ∧ Below W.heap.size W w' := fun W hW => rcheck_calls A.cols A.rws A.trn a n c A.xs W hW
  have CB : ∀ W, Row W (.slice b m d) B.xs → Calls Try.prog 28 #[.agg #[.int .i64 B.cols, .slice b m d, .int .i64 B.rws, .int .i64 B.trn]] W fun e w' => e = .returned (.bool B.ok) ∧ Below W.heap.size W w' := fun W hW => rcheck_calls B.cols B.rws B.trn b m d B.xs W hW
  cases hA : A.ok
  · rw [twoD_early (x := 1) (by unfold twoEarly; rw [if_pos (.inl hA)]) (by decide)]
    rw [hA] at CA
    have CA := Lib.hid CA
    clear CB hA hno
    have T := TwoAt.start w A B a n c b m d h h'
    go_enter Try.func42, Try.ntmps42
    go_wp2_with fail
    generalize (((w.alloc (.cells #[.int .i64 A.cols, .slice a n c, .int .i64 A.rws, .int .i64 A.trn] 36)).alloc (.cells #[.int .i64 B.cols, .slice b m d, .int .i64 B.rws, .int .i64 B.trn] 36)).alloc (.cells #[.int .i64 0, .slice none 0 0, .int .i64 0, .int .i64 0] 36)) = W at *
    have HT := Lib.hid T
    clear T h h'
    obtain ⟨a0, a1, a2, a3, _, _, _, _⟩ := HT.out.ca
    obtain ⟨b0, b1, b2, b3, _, _, _, _⟩ := HT.out.cb
    obtain ⟨z0, z1, z2, z3, zf0, zf1, zf2, zf3⟩ := HT.out.cz
    have hsz := HT.out.cz.lt
    go_wp2_with (go_at_call_of 28 (Value.agg #[.int .i64 A.cols, .slice a n c, .int .i64 A.rws, .int .i64 A.trn]); go_must (refine (CA.out _ HT.out.ra).mono ?_; rintro e w1 ⟨rfl, hb1⟩; have HT1 := Lib.hid (HT.out.keep hb1); clear a0 a1 a2 a3 b0 b1 b2 b3 z0 z1 z2 z3 zf0 zf1 zf2 zf3; obtain ⟨a0, a1, a2, a3, _, _, _, _⟩ := HT1.out.ca; obtain ⟨b0, b1, b2, b3, _, _, _, _⟩ := HT1.out.cb; obtain ⟨z0, z1, z2, z3, zf0, zf1, zf2, zf3⟩ := HT1.out.cz; clear hb1))
    exact bodyPost_ret (v := .tuple #[facZ, .int .i64 1]) (by simp [results, Try.results42, go_sem, facZ, (HT1.out.cz.put (.int .i64 0) (.slice none 0 0) (.int .i64 0) (.int .i64 0)).c0, (HT1.out.cz.put (.int .i64 0) (.slice none 0 0) (.int .i64 0) (.int .i64 0)).c1, (HT1.out.cz.put (.int .i64 0) (.slice none 0 0) (.int .i64 0) (.int .i64 0)).c2, (HT1.out.cz.put (.int .i64 0) (.slice none 0 0) (.int .i64 0) (.int .i64 0)).c3]) rfl ⟨facE_no _ rfl, below_put4 HT1.out.below (by omega) _ _ _ _⟩
  · have hokA := ok_rows hA
    obtain ⟨hA1, hA6⟩ := ok_cols hA
    rw [hA] at CA
    have CA := Lib.hid CA
    cases hB : B.ok
    · rw [twoD_early (x := 1) (by unfold twoEarly; rw [if_pos (.inr hB)]) (by decide)]
      rw [hB] at CB
      have CB := Lib.hid CB
      clear hA hB hno
      have T := TwoAt.start w A B a n c b m d h h'
      go_enter Try.func42, Try.ntmps42
      go_wp2_with fail
      generalize (((w.alloc (.cells #[.int .i64 A.cols, .slice a n c, .int .i64 A.rws, .int .i64 A.trn] 36)).alloc (.cells #[.int .i64 B.cols, .slice b m d, .int .i64 B.rws, .int .i64 B.trn] 36)).alloc (.cells #[.int .i64 0, .slice none 0 0, .int .i64 0, .int .i64 0] 36)) = W at *
      have HT := Lib.hid T
      clear T h h'
      obtain ⟨a0, a1, a2, a3, _, _, _, _⟩ := HT.out.ca
      obtain ⟨b0, b1, b2, b3, _, _, _, _⟩ := HT.out.cb
      obtain ⟨z0, z1, z2, z3, zf0, zf1, zf2, zf3⟩ := HT.out.cz
      have hsz := HT.out.cz.lt
      go_wp2_with (first | (go_at_call_of 28 (Value.agg #[.int .i64 A.cols, .slice a n c, .int .i64 A.rws, .int .i64 A.trn]); go_must (refine (CA.out _ HT.out.ra).mono ?_; rintro e w1 ⟨rfl, hb1⟩; have HT1 := Lib.hid (HT.out.keep hb1); clear a0 a1 a2 a3 b0 b1 b2 b3 z0 z1 z2 z3 zf0 zf1 zf2 zf3; obtain ⟨a0, a1, a2, a3, _, _, _, _⟩ := HT1.out.ca; obtain ⟨b0, b1, b2, b3, _, _, _, _⟩ := HT1.out.cb; obtain ⟨z0, z1, z2, z3, zf0, zf1, zf2, zf3⟩ := HT1.out.cz; clear hb1)) | (go_at_call 28; go_must (refine (CB.out _ HT1.out.rb).mono ?_; rintro e w2 ⟨rfl, hb2⟩; have HT2 := Lib.hid (HT1.out.keep hb2); clear a0 a1 a2 a3 b0 b1 b2 b3 z0 z1 z2 z3 zf0 zf1 zf2 zf3; obtain ⟨a0, a1, a2, a3, _, _, _, _⟩ := HT2.out.ca; obtain ⟨b0, b1, b2, b3, _, _, _, _⟩ := HT2.out.cb; obtain ⟨z0, z1, z2, z3, zf0, zf1, zf2, zf3⟩ := HT2.out.cz; clear hb2)))
      exact bodyPost_ret (v := .tuple #[facZ, .int .i64 1]) (by simp [results, Try.results42, go_sem, facZ, (HT2.out.cz.put (.int .i64 0) (.slice none 0 0) (.int .i64 0) (.int .i64 0)).c0, (HT2.out.cz.put (.int .i64 0) (.slice none 0 0) (.int .i64 0) (.int .i64 0)).c1, (HT2.out.cz.put (.int .i64 0) (.slice none 0 0) (.int .i64 0) (.int .i64 0)).c2, (HT2.out.cz.put (.int .i64 0) (.slice none 0 0) (.int .i64 0) (.int .i64 0)).c3]) rfl ⟨facE_no _ rfl, below_put4 HT2.out.below (by omega) _ _ _ _⟩
    · have hokB := ok_rows hB
      rw [hB] at CB
      have CB := Lib.hid CB
      have hn : ¬ (A.ok = false ∨ B.ok = false) := by rw [hA, hB]; simp
      by_cases hc : A.cols ≠ B.cols
      · rw [twoD_early (x := 3) (by unfold twoEarly; rw [if_neg hn, if_pos hc]) (by decide)]
        have hne : (A.cols != B.cols) = true := by simpa using hc
        clear hA hB hno hn hc
        have T := TwoAt.start w A B a n c b m d h h'
        go_enter Try.func42, Try.ntmps42
        go_wp2_with fail
        generalize (((w.alloc (.cells #[.int .i64 A.cols, .slice a n c, .int .i64 A.rws, .int .i64 A.trn] 36)).alloc (.cells #[.int .i64 B.cols, .slice b m d, .int .i64 B.rws, .int .i64 B.trn] 36)).alloc (.cells #[.int .i64 0, .slice none 0 0, .int .i64 0, .int .i64 0] 36)) = W at *
        have HT := Lib.hid T
        clear T h h'
        obtain ⟨a0, a1, a2, a3, _, _, _, _⟩ := HT.out.ca
        obtain ⟨b0, b1, b2, b3, _, _, _, _⟩ := HT.out.cb
        obtain ⟨z0, z1, z2, z3, zf0, zf1, zf2, zf3⟩ := HT.out.cz
        have hsz := HT.out.cz.lt
        go_wp2_with (first | (go_at_call_of 28 (Value.agg #[.int .i64 A.cols, .slice a n c, .int .i64 A.rws, .int .i64 A.trn]); go_must (refine (CA.out _ HT.out.ra).mono ?_; rintro e w1 ⟨rfl, hb1⟩; have HT1 := Lib.hid (HT.out.keep hb1); clear a0 a1 a2 a3 b0 b1 b2 b3 z0 z1 z2 z3 zf0 zf1 zf2 zf3; obtain ⟨a0, a1, a2, a3, _, _, _, _⟩ := HT1.out.ca; obtain ⟨b0, b1, b2, b3, _, _, _, _⟩ := HT1.out.cb; obtain ⟨z0, z1, z2, z3, zf0, zf1, zf2, zf3⟩ := HT1.out.cz; clear hb1)) | (go_at_call 28; go_must (refine (CB.out _ HT1.out.rb).mono ?_; rintro e w2 ⟨rfl, hb2⟩; have HT2 := Lib.hid (HT1.out.keep hb2); clear a0 a1 a2 a3 b0 b1 b2 b3 z0 z1 z2 z3 zf0 zf1 zf2 zf3; obtain ⟨a0, a1, a2, a3, _, _, _, _⟩ := HT2.out.ca; obtain ⟨b0, b1, b2, b3, _, _, _, _⟩ := HT2.out.cb; obtain ⟨z0, z1, z2, z3, zf0, zf1, zf2, zf3⟩ := HT2.out.cz; clear hb2)))
        exact bodyPost_ret (v := .tuple #[facZ, .int .i64 3]) (by simp [results, Try.results42, go_sem, facZ, (HT2.out.cz.put (.int .i64 0) (.slice none 0 0) (.int .i64 0) (.int .i64 0)).c0, (HT2.out.cz.put (.int .i64 0) (.slice none 0 0) (.int .i64 0) (.int .i64 0)).c1, (HT2.out.cz.put (.int .i64 0) (.slice none 0 0) (.int .i64 0) (.int .i64 0)).c2, (HT2.out.cz.put (.int .i64 0) (.slice none 0 0) (.int .i64 0) (.int .i64 0)).c3]) rfl ⟨facE_no _ rfl, below_put4 HT2.out.below (by omega) _ _ _ _⟩
      · have e0 : twoEarly A B = if 200 < A.rws + B.rws ∨ 4096 < max A.trn B.trn + sizeI A.cols then 6 else 0 := by unfold twoEarly; rw [if_neg hn, if_neg hc]
        have h3 : 200 < A.rws + B.rws ∨ 4096 < max A.trn B.trn + sizeI A.cols := by
          by_cases h3 : 200 < A.rws + B.rws ∨ 4096 < max A.trn B.trn + sizeI A.cols
          · exact h3
          · rw [e0, if_neg h3] at hno; exact absurd rfl hno
        rw [twoD_early (x := 6) (by rw [e0, if_pos h3]) (by decide)]
        have hne : (A.cols != B.cols) = false := by simpa using hc
        obtain ⟨z3, z28⟩ := sizeI_in hA1 hA6
        obtain ⟨p0, p1, p2, p3⟩ := hokA
        obtain ⟨q0, q1, q2, q3⟩ := hokB
        have hmx : 0 ≤ max A.trn B.trn ∧ max A.trn B.trn ≤ 4096 := by omega
        obtain ⟨hm0, hm1⟩ := hmx
        have CS := Lib.hid (rcost_calls A.cols)
        have ht4 : A.rws + B.rws ≤ 200 → 4096 < max A.trn B.trn + sizeI A.cols := fun h => by omega
        clear hA hB hno hn hc e0 h3
        generalize sizeI A.cols = sz at *
        have T := TwoAt.start w A B a n c b m d h h'
        go_enter Try.func42, Try.ntmps42
        go_wp2_with fail
        generalize (((w.alloc (.cells #[.int .i64 A.cols, .slice a n c, .int .i64 A.rws, .int .i64 A.trn] 36)).alloc (.cells #[.int .i64 B.cols, .slice b m d, .int .i64 B.rws, .int .i64 B.trn] 36)).alloc (.cells #[.int .i64 0, .slice none 0 0, .int .i64 0, .int .i64 0] 36)) = W at *
        have HT := Lib.hid T
        clear T h h'
        obtain ⟨a0, a1, a2, a3, _, _, _, _⟩ := HT.out.ca
        obtain ⟨b0, b1, b2, b3, _, _, _, _⟩ := HT.out.cb
        obtain ⟨z0, z1, z2, z3, zf0, zf1, zf2, zf3⟩ := HT.out.cz
        have hsz := HT.out.cz.lt
        go_wp2_with (first | (go_at_call_of 28 (Value.agg #[.int .i64 A.cols, .slice a n c, .int .i64 A.rws, .int .i64 A.trn]); go_must (refine (CA.out _ HT.out.ra).mono ?_; rintro e w1 ⟨rfl, hb1⟩; have HT1 := Lib.hid (HT.out.keep hb1); clear a0 a1 a2 a3 b0 b1 b2 b3 z0 z1 z2 z3 zf0 zf1 zf2 zf3; obtain ⟨a0, a1, a2, a3, _, _, _, _⟩ := HT1.out.ca; obtain ⟨b0, b1, b2, b3, _, _, _, _⟩ := HT1.out.cb; obtain ⟨z0, z1, z2, z3, zf0, zf1, zf2, zf3⟩ := HT1.out.cz; clear hb1)) | (go_at_call 28; go_must (refine (CB.out _ HT1.out.rb).mono ?_; rintro e w2 ⟨rfl, hb2⟩; have HT2 := Lib.hid (HT1.out.keep hb2); clear a0 a1 a2 a3 b0 b1 b2 b3 z0 z1 z2 z3 zf0 zf1 zf2 zf3; obtain ⟨a0, a1, a2, a3, _, _, _, _⟩ := HT2.out.ca; obtain ⟨b0, b1, b2, b3, _, _, _, _⟩ := HT2.out.cb; obtain ⟨z0, z1, z2, z3, zf0, zf1, zf2, zf3⟩ := HT2.out.cz; clear hb2)))
        go_cut [6] from 26 to 34 (fun s6 wx => s6 = .int .i64 (max A.trn B.trn + sz) ∧ Below w2.heap.size w2 wx)
        case first =>
          rename_i J K' hJ hK'
          have HW := Lib.hid (show IntKind.i64.wrap (max A.trn B.trn + sz) = max A.trn B.trn + sz from IntWalk.i64_in _ (by omega))
          go_quiet ((go_at_call 50; exact Calls.quiet_of_same (quiet_same (CS.out _))))
          refine hK' _ _ (Met.intro (hJ _ _ ?_))
          (repeat apply Exists.intro)
          exact ⟨⟨by first | rfl | rw [HW.out], below_drewN (Below.refl _ _) _⟩, rfl⟩
        case rest =>
          obtain ⟨rfl, hbc⟩ := hcut
          have HT3 := Lib.hid (HT2.out.keep hbc)
          clear a0 a1 a2 a3 b0 b1 b2 b3 z0 z1 z2 z3 zf0 zf1 zf2 zf3
          obtain ⟨a0, a1, a2, a3, _, _, _, _⟩ := HT3.out.ca
          obtain ⟨b0, b1, b2, b3, _, _, _, _⟩ := HT3.out.cb
          obtain ⟨z0, z1, z2, z3, zf0, zf1, zf2, zf3⟩ := HT3.out.cz
          have HT4 := Lib.hid ht4
          clear ht4
          by_cases hr : 200 < A.rws + B.rws
          · go_wp2
            exact bodyPost_ret (v := .tuple #[facZ, .int .i64 6]) (by simp [results, Try.results42, go_sem, facZ, (HT3.out.cz.put (.int .i64 0) (.slice none 0 0) (.int .i64 0) (.int .i64 0)).c0, (HT3.out.cz.put (.int .i64 0) (.slice none 0 0) (.int .i64 0) (.int .i64 0)).c1, (HT3.out.cz.put (.int .i64 0) (.slice none 0 0) (.int .i64 0) (.int .i64 0)).c2, (HT3.out.cz.put (.int .i64 0) (.slice none 0 0) (.int .i64 0) (.int .i64 0)).c3]) rfl ⟨facE_no _ rfl, below_put4 HT3.out.below (by omega) _ _ _ _⟩
          · have ht := HT4.out (by omega)
            go_wp2
            exact bodyPost_ret (v := .tuple #[facZ, .int .i64 6]) (by simp [results, Try.results42, go_sem, facZ, (HT3.out.cz.put (.int .i64 0) (.slice none 0 0) (.int .i64 0) (.int .i64 0)).c0, (HT3.out.cz.put (.int .i64 0) (.slice none 0 0) (.int .i64 0) (.int .i64 0)).c1, (HT3.out.cz.put (.int .i64 0) (.slice none 0 0) (.int .i64 0) (.int .i64 0)).c2, (HT3.out.cz.put (.int .i64 0) (.slice none 0 0) (.int .i64 0) (.int .i64 0)).c3]) rfl ⟨facE_no _ rfl, below_put4 HT3.out.below (by omega) _ _ _ _⟩
end Go.Proofs.Ytgmaljikjkbdlaa
