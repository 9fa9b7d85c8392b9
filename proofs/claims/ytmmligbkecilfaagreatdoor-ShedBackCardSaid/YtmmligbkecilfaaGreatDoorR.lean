/- absorb.Line, walked. -/
import Derived.Test.YtmmligbkecilfaaGreatDoorQ
import Derived.Deep.CutRange
namespace Go.Proofs.YtmmligbkecilfaaGreatDoor
open Go.RowKit Lv Go.Shelf
open Ieee (double Format Datum Toward)
attribute [local go_sem] run_store_float drewN_alloc drewN_setCell run_addF run_subF run_mulF run_quoF

set_option maxRecDepth 100000 in
set_option maxHeartbeats 1000000 in
theorem aline_yes (c j0 : Nat) (rws trn : Int) (tb tf cap : Nat) (b : Option Addr) (d : Nat) (xs ls : List (Option Nat)) (w : World) (h : Row w (.slice (some ⟨tb, tf, none⟩) xs.length cap) xs) (hl : Row w (.slice b (c + 1) d) ls)
    (hch : checkP (c : Int) xs rws trn = true) (h1 : 1 ≤ c) (h6 : c ≤ 6) (hi : j0 ≤ c) (hxl : xs.length = tsz c) (htb : tb < w.heap.size) :
    Calls Tryz.prog 32 #[.agg #[.int .i64 (c : Int), .slice (some ⟨tb, tf, none⟩) xs.length cap, .int .i64 rws, .int .i64 trn], .slice b (c + 1) d, .int .i64 (j0 : Int)] w fun e w' =>
      LinePost (lineFrom c rws trn (c + 1 - j0) j0 (xs, ls)) c rws trn e w' ∧ Below w.heap.size w w' := by
  have hr := (h.alloc (.cells #[.int .i64 (c : Int), .slice (some ⟨tb, tf, none⟩) xs.length cap, .int .i64 rws, .int .i64 trn] 24)).alloc (.cells #[.int .i64 0, .slice none 0 0, .int .i64 0, .int .i64 0] 24)
  have L := Lib.hid (check_calls (c : Int) rws trn _ _ cap xs _ hr)
  rw [hch] at L
  have HR := Lib.hid h
  have HLS := Lib.hid hl
  have HX := Lib.hid hxl
  have hsz := tsz_bounds h1 h6
  have hne : (((c + 1 : Nat) : Int) != (c : Int) + 1) = false := by simp
  have hne' : ((c : Int) + 1 != (c : Int) + 1) = false := by simp
  have hc6 : (c : Int) ≤ 6 := by omega
  have hji : ¬ (c : Int) < (j0 : Int) := by omega
  have hlsl : Hid (ls.length = c + 1) := by obtain ⟨_, _, hv, _⟩ := hl; simp only [Value.slice.injEq] at hv; exact hv.2.1.symm
  have CH := Lib.hid hch
  clear h hl hr hxl hch
  go_enter Tryz.func32, Tryz.ntmps32
  go_wp2_with (first | (go_at_call 29; refine L.out.mono ?_; rintro e w1 ⟨rfl, hb⟩; obtain ⟨hc, hf⟩ := bcell hb; have hz := hb.size; simp at hz; have hz0 : w.heap.size < w1.heap.size := (by omega); have hz1 : w.heap.size + 1 < w1.heap.size := (by omega)) | (go_at_call 16; refine (clone_calls b (c + 1) d ls _ (HLS.out.below ((((Below.refl w.heap.size w).alloc (Nat.le_refl _) _).alloc (by simp) _).trans (hb.mono (by simp; omega)))) (by have := hlsl.out; omega)).mono ?_; rintro e w2 ⟨v2, rfl, hown, hb2⟩))
  obtain ⟨rb, rcap, hv2, hg1, hg2, hg3, hg4⟩ := hown.shape (by have := hlsl.out; omega)
  have hrl := hlsl.out
  rw [hrl] at hv2
  subst hv2
  have W0 : Cells4 ((w.alloc (.cells #[.int .i64 (c : Int), .slice (some ⟨tb, tf, none⟩) xs.length cap, .int .i64 rws, .int .i64 trn] 24)).alloc (.cells #[.int .i64 0, .slice none 0 0, .int .i64 0, .int .i64 0] 24)) w.heap.size (.int .i64 (c : Int)) (.slice (some ⟨tb, tf, none⟩) xs.length cap) (.int .i64 rws) (.int .i64 trn) := by
    constructor <;> simp [go_sem]
  have W6 : Cells4 ((w.alloc (.cells #[.int .i64 (c : Int), .slice (some ⟨tb, tf, none⟩) xs.length cap, .int .i64 rws, .int .i64 trn] 24)).alloc (.cells #[.int .i64 0, .slice none 0 0, .int .i64 0, .int .i64 0] 24)) (w.heap.size + 1) (.int .i64 0) (.slice none 0 0) (.int .i64 0) (.int .i64 0) := by
    constructor <;> simp [go_sem]
  have HB := (((Below.refl w.heap.size w).alloc (Nat.le_refl _) (.cells #[.int .i64 (c : Int), .slice (some ⟨tb, tf, none⟩) xs.length cap, .int .i64 rws, .int .i64 trn] 24)).alloc (by simp) (.cells #[.int .i64 0, .slice none 0 0, .int .i64 0, .int .i64 0] 24)).trans (hb.mono (by simp; omega))
  have HB2 := HB.trans (hb2.mono (by omega))
  have IN : AInv w rb rcap c rws trn (lineFrom c rws trn (c + 1 - j0) j0 (xs, ls)) w2 j0 xs ls tb tf cap :=
    ⟨(W0.below hb).below hb2, (W6.below hb).below hb2, HR.out.below HB2, HX.out, hown.mono (by omega), hlsl.out, by omega, by omega, by omega, by omega, by omega, by have := hb2.size; omega, CH.out, rfl, HB2⟩
  clear W0 W6 HB HB2 hown hb hb2 HR HX hc hf hz L
  go_loopw [9] (fun s9 wr => ∃ (j : Nat) (ys rest : List (Option Nat)) (tb' tf' cap' : Nat), s9 = .int .i64 (j : Int) ∧ j ≤ c + 1 ∧ AInv w rb rcap c rws trn (lineFrom c rws trn (c + 1 - j0) j0 (xs, ls)) wr j ys rest tb' tf' cap') (fun s9 _ => c + 1 - (intOf s9).toNat)
  case atStart => exact ⟨j0, xs, ls, tb, tf, cap, rfl, by omega, IN⟩
  case round =>
    obtain ⟨j, ys, rest, tb', tf', cap', rfl, hj, I⟩ := hrel
    obtain ⟨c30, c31, c32, c33, f30, f31, f32, f33⟩ := I.c3
    obtain ⟨c60, c61, c62, c63, f60, f61, f62, f63⟩ := I.c6

    by_cases hjc : j ≤ c
    · have hle : (j : Int) ≤ (c : Int) := by omega
      go_wp2_with (go_at_call 59; refine (line_yes c j rws trn tb' tf' cap' ys _ h1 h6 hjc I.hyl I.row I.chk).mono ?_; rintro e wL ⟨vL, rfl, hownL, hbL⟩)
      obtain ⟨gb, gcap, hvL, hgb1, hgb2, hgb3, hgb4⟩ := hownL.shape (by rw [lineP_len h1 h6 I.hyl hjc]; omega)
      rw [lineP_len h1 h6 I.hyl hjc] at hvL
      subst hvL
      have oL := I.own.below hbL (Nat.le_refl _)
      obtain ⟨x, hx, hfx⟩ := hownL.cell (lineP_len h1 h6 I.hyl hjc) (j := j) (by omega)
      obtain ⟨y, hy, hfy⟩ := oL.cell I.hrl (j := j) (by omega)
      have FX := Lib.hid hfx
      have FY := Lib.hid hfy
      have OL := Lib.hid oL
      have OWL := Lib.hid hownL
      clear hfx hfy oL hownL
      have hjn : (j : Int) < (c : Int) + 1 := by omega
      have hjn' : ((c + 1 : Nat) : Int) = (c : Int) + 1 := by omega
      go_cut [11, 12, 13, 14] from 41 to 108 (fun s11 s12 s13 s14 wx => OfPost (ofF ((lineP ys c j).getD j none) (rest.getD j none)) (.returned (.tuple #[s11, s12, s13, s14])) ∧ Below wL.heap.size wL wx)
      case first =>
        -- A8
        rename_i J K' hJ hK'
        rcases hO : ofF ((lineP ys c j).getD j none) (rest.getD j none) with _ | ⟨cc, ss, r⟩
        · have HO := Lib.hid hO
          clear hO
          go_region_with (go_at_call 60; refine (of_none HO.out x y _ FX.out FY.out).mono ?_; rintro e wO ⟨rfl, hbO⟩)
          all_goals simp only [Act.put, List.getElem_toArray, List.getElem_cons_succ, List.getElem_cons_zero, List.setIfInBounds_toArray, List.set_cons_succ, List.set_cons_zero]
          all_goals (refine hK' _ _ (Met.intro (hJ _ _ ?_)); (repeat apply Exists.intro); refine ⟨?_, rfl⟩; exact ⟨by rw [HO.out]; rfl, (below_drewN (Below.refl _ _) 1).trans hbO⟩)
        · have HO := Lib.hid hO
          clear hO
          go_region_with (go_at_call 60; refine (of_some HO.out x y _ FX.out FY.out).mono ?_; rintro e wO ⟨⟨qu, qv, qz, rfl, hqu, hqv, hqz⟩, hbO⟩)
          all_goals simp only [Act.put, List.getElem_toArray, List.getElem_cons_succ, List.getElem_cons_zero, List.setIfInBounds_toArray, List.set_cons_succ, List.set_cons_zero]
          all_goals (refine hK' _ _ (Met.intro (hJ _ _ ?_)); (repeat apply Exists.intro); refine ⟨?_, rfl⟩; exact ⟨by rw [HO.out]; exact ⟨_, _, _, rfl, hqu, hqv, hqz⟩, (below_drewN (Below.refl _ _) 1).trans hbO⟩)
        -- B8
      case rest =>
        obtain ⟨hpost, hbC⟩ := hcut
        have hs1 := I.below.size
        have hs2 := hbL.size
        have hs3 := hbC.size
        have hlt3 := I.c6.lt
        have hltr : rb < wr.heap.size := by obtain ⟨cur, hcur⟩ := I.own.block; exact (Array.getElem?_eq_some_iff.1 hcur).1
        have htlt := I.lt
        have C3 := (I.c3.below hbL).below hbC
        have C6 := (I.c6.below hbL).below hbC
        have BL := (I.below.trans (hbL.mono hs1)).trans (hbC.mono (by omega))
        have eT := I.eq
        rw [show c + 1 - j = (c - j) + 1 by omega] at eT
        rcases hO : ofF ((lineP ys c j).getD j none) (rest.getD j none) with _ | ⟨cc, ss, r⟩
        · rw [hO] at hpost
          have hp : Ending.returned (.tuple #[u11, u12, u13, u14]) = .returned (.tuple #[.float .f64 0, .float .f64 0, .float .f64 0, .bool false]) := hpost
          simp only [Ending.returned.injEq, Value.tuple.injEq, Array.mk.injEq, List.cons.injEq, and_true] at hp
          obtain ⟨rfl, rfl, rfl, rfl⟩ := hp
          obtain ⟨d60, d61, d62, d63, g60, g61, g62, g63⟩ := C6
          have eN : lineFrom c rws trn (c + 1 - j0) j0 (xs, ls) = none := by
            rw [← eT]
            unfold lineFrom stepP
            rw [hO]
          have EN := Lib.hid eN
          clear eN eT hO
          go_wp2
          have P6 := (((I.c6.below hbL).below hbC).put (.int .i64 0) (.slice none 0 0) (.int .i64 0) (.int .i64 0))
          refine bodyPost_ret (v := .tuple #[facZ, .bool false]) (by simp [results, Tryz.results32, go_sem, P6.c0, P6.c1, P6.c2, P6.c3, facZ]) rfl ⟨by rw [EN.out]; rfl, ?_⟩
          exact (((BL.setCell (p := ⟨w.heap.size + 1, 0, none⟩) (by simp) _).setCell (p := ⟨w.heap.size + 1, 1, none⟩) (by simp) _).setCell (p := ⟨w.heap.size + 1, 2, none⟩) (by simp) _).setCell (p := ⟨w.heap.size + 1, 3, none⟩) (by simp) _
        · rw [hO] at hpost
          obtain ⟨qu, qv, qz, hp, hqu, hqv, hqz⟩ := hpost
          simp only [Ending.returned.injEq, Value.tuple.injEq, Array.mk.injEq, List.cons.injEq, and_true] at hp
          obtain ⟨rfl, rfl, rfl, rfl⟩ := hp
          have OWc := OWL.out.below hbC (Nat.le_refl _)
          have OLc := OL.out.below hbC (Nat.le_refl _)
          obtain ⟨x1, hx1, _⟩ := OWc.cell (lineP_len h1 h6 I.hyl hjc) (j := j) (by omega)
          have fx1 := OWc.frozen (lineP_len h1 h6 I.hyl hjc) j
          have BI : BInv w gb gcap rb rcap c rws trn (wc.setCell ⟨gb, j, none⟩ (.float .f64 qz)) ys (turnTo cc ss j 0 ((lineP ys c j).set j r, rest)) tb' tf' cap' :=
            ⟨C3.set (by omega), C6.set (by omega), ((I.row.below hbL).below hbC).setOther (by omega), (OWc.set (lineP_len h1 h6 I.hyl hjc) j hqz).mono (by omega), OLc.setOther (by have := hltr; omega), by simp only [turnTo, List.length_set]; exact lineP_len h1 h6 I.hyl hjc, I.hrl, BL.setCell (p := ⟨gb, j, none⟩) (by simp; omega) _⟩
          have HF := Lib.hid (And.intro hqu hqv)
          have HO := Lib.hid hO
          have ET := Lib.hid eT
          have HBI := Lib.hid BI
          clear hO eT BI OWc OLc C3 C6 hqu hqv BL
          go_wp2
          obtain ⟨wo, hwo⟩ : ∃ wo : World, wo = wr := ⟨_, rfl⟩
          have hgr : gb ≠ rb := by omega
          have hgt : gb ≠ tb' := by omega
          have hg0 : gb ≠ w.heap.size := by omega
          have hg6 : gb ≠ w.heap.size + 1 := by omega
          have hgB : w.heap.size ≤ gb := by omega
          have hrB : w.heap.size ≤ rb := by
            obtain ⟨g, cp, e1, e2, _⟩ := I.own.shape (by have := I.hrl; omega)
            simp only [Value.slice.injEq, Option.some.injEq, Addr.mk.injEq, and_true] at e1
            omega
          go_loopw [15] (fun s15 W => ∃ n k : Nat, s15 = .int .i64 (k : Int) ∧ k = j + 1 + n ∧ n ≤ c - j ∧ BInv w gb gcap rb rcap c rws trn W ys (turnTo cc ss j n ((lineP ys c j).set j r, rest)) tb' tf' cap') (fun s15 _ => c + 1 - (intOf s15).toNat)
          case atStart => exact ⟨0, j + 1, by go_num, rfl, Nat.zero_le _, HBI.out⟩
          case round =>
            obtain ⟨n, k, rfl, hk, hn, BV⟩ := hrel
            by_cases hnl : n < c - j
            · obtain ⟨x2, hx2, fx2⟩ := BV.own1.cell BV.l1 (j := k) (by omega)
              obtain ⟨y2, hy2, fy2⟩ := BV.own2.cell BV.l2 (j := k) (by omega)
              have fz1 := BV.own1.frozen BV.l1 k
              have fz2 := BV.own2.frozen BV.l2 k
              have FXY := Lib.hid (And.intro fx2 fy2)
              have HBV := Lib.hid BV
              have HK := Lib.hid hk
              have hkk : (k : Int) < (c : Int) + 1 := by omega
              clear fx2 fy2 BV hx hy hx1 fx1 hk
              have lg : gb < wr.heap.size := cell_lt hx2
              have lr : rb < wr.heap.size := cell_lt hy2
              go_wp2
              -- A15
              go_region_with (go_at_call 61; refine (turn_calls qu qv x2 y2 _ HF.out.1 HF.out.2 FXY.out.1 FXY.out.2).mono ?_; rintro e wT ⟨tu, tv, rfl, htu, htv, hbT⟩; have r1 := (hbT.cell (p := ⟨gb, k, none⟩) lg).trans hx2; have r2 := (hbT.cell (p := ⟨rb, k, none⟩) lr).trans hy2; have r3 := (hbT.frozen (p := ⟨gb, k, none⟩) lg).trans fz1; have r4 := (hbT.frozen (p := ⟨rb, k, none⟩) lr).trans fz2)
              all_goals
                go_wp2
                go_roundw
                case rel =>
                  have hk := HK.out
                  subst hk
                  exact ⟨n + 1, j + 1 + n + 1, by go_num, by omega, by omega, HBV.out.turn ((below_drewN (Below.refl _ _) 1).trans hbT) htu htv hg0 hg6 I.r0 I.r6 hgr hgt I.nrb.symm hgB hrB⟩
                case measure => simp [intOf]; omega
              -- B15
            · obtain rfl : n = c - j := by omega
              obtain rfl : k = c + 1 := by omega
              clear hk hn hnl
              obtain ⟨d30, d31, d32, d33, g30, g31, g32, g33⟩ := BV.c3
              obtain ⟨d60, d61, d62, d63, g60, g61, g62, g63⟩ := BV.c6
              have hpl := setP_len (i := j) h1 h6 I.hyl hjc BV.l1
              have hbs := BV.below.size
              have hl36 := BV.c6.lt
              have hlrb : rb < wr.heap.size := by obtain ⟨cur, hcur⟩ := BV.own2.block; exact (Array.getElem?_eq_some_iff.1 hcur).1
              have eS : stepP c rws trn j (ys, rest) = if checkP c (setP ys c j (turnTo cc ss j (c - j) ((lineP ys c j).set j r, rest)).1) rws trn = true then some (setP ys c j (turnTo cc ss j (c - j) ((lineP ys c j).set j r, rest)).1, (turnTo cc ss j (c - j) ((lineP ys c j).set j r, rest)).2) else none := by
                unfold stepP
                rw [HO.out]
              have eL : lineFrom c rws trn (c - j + 1) j (ys, rest) = match stepP c rws trn j (ys, rest) with | none => none | some st' => lineFrom c rws trn (c - j) (j + 1) st' := rfl
              rw [eS, ET.out] at eL
              clear eS
              generalize hq1 : (turnTo cc ss j (c - j) ((lineP ys c j).set j r, rest)).1 = q1 at *
              generalize hq2 : (turnTo cc ss j (c - j) ((lineP ys c j).set j r, rest)).2 = q2 at *
              have HBV := Lib.hid BV
              have o1 : OwnV wr w.heap.size (.slice (some ⟨gb, 0, none⟩) (c + 1) gcap) q1 := by rw [← hq1]; exact BV.own1
              have o2 : OwnV wr w.heap.size (.slice (some ⟨rb, 0, none⟩) (c + 1) rcap) q2 := by rw [← hq2]; exact BV.own2
              have l2 : q2.length = c + 1 := by rw [← hq2]; exact BV.l2
              have EL := Lib.hid eL
              have O1 := Lib.hid o1.row
              have O2 := Lib.hid (And.intro o2 l2)
              clear BV eL hq1 hq2 o1 o2 l2 hx hy hx1 fx1
              cases hck : checkP (c : Int) (setP ys c j q1) rws trn
              · have CK := Lib.hid hck
                clear hck
                go_wp2_with (go_at_call 62; refine (set_f c j rws trn _ _ _ cap' gcap ys q1 _ HBV.out.row O1.out I.chk h1 h6 hjc I.hyl CK.out).mono ?_; rintro e wS ⟨rfl, hbS⟩; obtain ⟨e30, e31, e32, e33, h30, h31, h32, h33⟩ := HBV.out.c3.below hbS; obtain ⟨e60, e61, e62, e63, h60, h61, h62, h63⟩ := HBV.out.c6.below hbS)
                have hne0 : w.heap.size ≠ w.heap.size + 1 := by omega
                have P6 := (((((HBV.out.c6.below hbS).set (o := 0) (v := .int .i64 0) hne0).set (o := 1) (v := .slice none 0 0) hne0).set (o := 2) (v := .int .i64 0) hne0).set (o := 3) (v := .int .i64 0) hne0).put (.int .i64 0) (.slice none 0 0) (.int .i64 0) (.int .i64 0)
                have eN : lineFrom c rws trn (c + 1 - j0) j0 (xs, ls) = none := by rw [EL.out, CK.out]; rfl
                have BS := HBV.out.below.trans (hbS.mono hbs)
                refine bodyPost_ret (v := .tuple #[facZ, .bool false]) (by simp [results, Tryz.results32, go_sem, P6.c0, P6.c1, P6.c2, P6.c3, facZ]) rfl ⟨by rw [eN]; rfl, ?_⟩
                exact (((((((BS.setCell (p := ⟨w.heap.size, 0, none⟩) (Nat.le_refl _) _).setCell (p := ⟨w.heap.size, 1, none⟩) (Nat.le_refl _) _).setCell (p := ⟨w.heap.size, 2, none⟩) (Nat.le_refl _) _).setCell (p := ⟨w.heap.size, 3, none⟩) (Nat.le_refl _) _).setCell (p := ⟨w.heap.size + 1, 0, none⟩) (by simp) _).setCell (p := ⟨w.heap.size + 1, 1, none⟩) (by simp) _).setCell (p := ⟨w.heap.size + 1, 2, none⟩) (by simp) _).setCell (p := ⟨w.heap.size + 1, 3, none⟩) (by simp) _
              · have CK := Lib.hid hck
                have HPL := Lib.hid hpl
                clear hck hpl
                go_wp2_with (go_at_call 62; refine (set_t c j rws trn _ _ _ cap' gcap ys q1 _ HBV.out.row O1.out I.chk h1 h6 hjc I.hyl CK.out).mono ?_; rintro e wS ⟨⟨vS, rfl, hoS⟩, hbS⟩; obtain ⟨gs, scap, hvS, hgs1, hgs2, _, _⟩ := hoS.shape (by rw [HPL.out]; omega); subst hvS; obtain ⟨e30, e31, e32, e33, h30, h31, h32, h33⟩ := HBV.out.c3.below hbS; obtain ⟨e60, e61, e62, e63, h60, h61, h62, h63⟩ := HBV.out.c6.below hbS)
                have hne0 : w.heap.size ≠ w.heap.size + 1 := by omega
                have hgs0 : w.heap.size ≠ gs := by omega
                have BS := HBV.out.below.trans (hbS.mono hbs)
                have eY : lineFrom c rws trn (c + 1 - (j + 1)) (j + 1) (setP ys c j q1, q2) = lineFrom c rws trn (c + 1 - j0) j0 (xs, ls) := by
                  rw [EL.out, CK.out, show c + 1 - (j + 1) = c - j by omega]
                  rfl
                refine ⟨⟨j + 1, setP ys c j q1, q2, gs, 0, scap, by go_num, by omega, ?_⟩, by simp [intOf]; omega⟩
                refine ⟨(HBV.out.c3.below hbS).put _ _ _ _, ((((HBV.out.c6.below hbS).set hne0).set hne0).set hne0).set hne0, ((((hoS.setOther hgs0).setOther hgs0).setOther hgs0).setOther hgs0).row, HPL.out, ?_, O2.out.2, by omega, by omega, by omega, I.r0, I.r6, by simp; omega, CK.out, eY, ?_⟩
                · exact (((((O2.out.1.below hbS (Nat.le_refl _)).setOther I.r0.symm).setOther I.r0.symm).setOther I.r0.symm).setOther I.r0.symm)
                · exact (((BS.setCell (p := ⟨w.heap.size, 0, none⟩) (Nat.le_refl _) _).setCell (p := ⟨w.heap.size, 1, none⟩) (Nat.le_refl _) _).setCell (p := ⟨w.heap.size, 2, none⟩) (Nat.le_refl _) _).setCell (p := ⟨w.heap.size, 3, none⟩) (Nat.le_refl _) _
    · have hle : ¬ (j : Int) ≤ (c : Int) := by omega
      go_wp2
      have e0 : c + 1 - j = 0 := by omega
      have eT := I.eq
      rw [e0] at eT
      have P6 := I.c6.put (.int .i64 (c : Int)) (.slice (some ⟨tb', tf', none⟩) ys.length cap') (.int .i64 rws) (.int .i64 trn)
      refine bodyPost_ret (v := .tuple #[.agg #[.int .i64 (c : Int), .slice (some ⟨tb', tf', none⟩) ys.length cap', .int .i64 rws, .int .i64 trn], .bool true]) (by simp [results, Tryz.results32, go_sem, P6.c0, P6.c1, P6.c2, P6.c3]) rfl ⟨?_, ?_⟩
      · rw [← eT]
        exact ⟨_, rfl, (((I.row.setOther I.n6.symm).setOther I.n6.symm).setOther I.n6.symm).setOther I.n6.symm⟩
      · exact (((I.below.setCell (p := ⟨w.heap.size + 1, 0, none⟩) (by simp) _).setCell (p := ⟨w.heap.size + 1, 1, none⟩) (by simp) _).setCell (p := ⟨w.heap.size + 1, 2, none⟩) (by simp) _).setCell (p := ⟨w.heap.size + 1, 3, none⟩) (by simp) _
end Go.Proofs.YtmmligbkecilfaaGreatDoor
