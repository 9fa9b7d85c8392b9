/- shed.take, walked. -/
import Derived.Test.YtfohknalldelfaaDoorTf
import Derived.Test.YtfohknalldelfaaDoorQ
import Derived.Deep.CutRange
import Derived.Deep.OwnRows
namespace Go.Proofs.YtfohknalldelfaaDoor
open Go.RowKit Lv Go.Shelf
open Ieee (double Format Datum Toward)
attribute [local go_sem] run_store_float drewN_alloc drewN_setCell run_addF run_subF run_mulF run_quoF

theorem made_at_slice (c j : Nat) (h : j < c + 1) : (madeCells #[.slice none 0 0] (c + 1))[j]? = some (Value.slice none 0 0) := by
  rw [← Array.getElem?_toList, toList_madeCells_one, List.getElem?_replicate, if_pos h]
theorem made_rows {W : World} {c : Nat} {B : Nat} (t : TypeId) (ys : List (Option Nat)) : RowsAt (W.alloc (.cells (madeCells #[.slice none 0 0] (c + 1)) t)) B W.heap.size c ys 0 := by
  refine RowsAt.start fun i hi => ?_
  have hlt : W.heap.size < (W.alloc (.cells (madeCells #[.slice none 0 0] (c + 1)) t)).heap.size := by simp
  have hm : (madeCells #[Value.slice none 0 0] (c + 1))[i]? = some (.slice none 0 0) := by
    have h := made_at_slice c i hi
    exact h
  constructor
  · simp [go_sem, hm]
  · simp [go_sem]

theorem UInv.keep {w : World} {gb gcap rb rcap qb c : Nat} {rws trn : Int} {xs ys : List (Option Nat)} {j tb tf cap : Nat} {W W' : World} {p : List (Option Nat) × List (Option Nat)} (h : UInv w gb gcap rb rcap qb c rws trn xs ys j tb tf cap W p) (hb : Below W.heap.size W W') : UInv w gb gcap rb rcap qb c rws trn xs ys j tb tf cap W' p := by
  refine ⟨h.c3.below hb, h.c6.below hb, h.row.below hb, h.own1.below hb (Nat.le_refl _), h.own2.below hb (Nat.le_refl _), h.rows.below hb, fun i g cap' hij hi e => ?_, h.l1, h.l2, h.below.trans (hb.mono h.below.size)⟩
  obtain ⟨⟨u, u1, _⟩, _, _⟩ := h.rows i hi
  exact h.old i g cap' hij hi ((hb.cell (p := ⟨qb, i, none⟩) (cell_lt u1)).symm.trans e)
theorem facErr_no (B : Nat) (a0 a1 a2 : Addr) (E : ErrD) (k : Int) (hk : E.code = k) (w' : World) : FacErr B a0 a1 a2 (fac0, k) (.returned (.tuple #[facZ, E.val a0 a1 a2])) w' := ⟨E, none, 0, 0, rfl, hk, row_nil _, fun _ h => nomatch h⟩
/-- what stands at the head of the second loop -/
structure VInv (w : World) (qb c : Nat) (rws trn : Int) (xs ys : List (Option Nat)) (W : World) (k : Nat) (tb tf n cap : Nat) : Prop where
  c3 : Cells4 W w.heap.size (.int .i64 c) (.slice (some ⟨tb, tf, none⟩) n cap) (.int .i64 rws) (.int .i64 trn)
  c6 : Cells4 W (w.heap.size + 1) (.int .i64 0) (.slice none 0 0) (.int .i64 0) (.int .i64 0)
  row : Row W (.slice (some ⟨tb, tf, none⟩) n cap) (mixP xs ys c k)
  chk : checkP (c : Int) (mixP xs ys c k) rws trn = true
  rows : RowsAt W w.heap.size qb c ys (c + 1)
  n3 : tb ≠ w.heap.size
  n6 : tb ≠ w.heap.size + 1
  nB : 0 < k → w.heap.size ≤ tb
  below : Below w.heap.size w W

set_option maxRecDepth 100000 in
set_option maxHeartbeats 8000000 in
theorem take_yes (c : Nat) (rws trn : Int) (tb tf cap : Nat) (b : Option Addr) (d : Nat) (xs ls : List (Option Nat)) (w : World) (a0 a1 a2 : Addr) (LD : Laid w a0 a1 a2) (h : Row w (.slice (some ⟨tb, tf, none⟩) xs.length cap) xs) (hl : Row w (.slice b (c + 1) d) ls)
    (hch : checkP (c : Int) xs rws trn = true) (h1 : 1 ≤ c) (h6 : c ≤ 6) (hxl : xs.length = tsz c) (htb : tb < w.heap.size) :
    Calls Tryd.prog 25 #[.agg #[.int .i64 (c : Int), .slice (some ⟨tb, tf, none⟩) xs.length cap, .int .i64 rws, .int .i64 trn], .slice b (c + 1) d] w fun e w' =>
      FacErr w.heap.size a0 a1 a2 (shedR c rws trn (sfrom c (c + 1) 0 (xs, ls))) e w' ∧ Below w.heap.size w w' := by
  have hr := (h.alloc (.cells #[.int .i64 (c : Int), .slice (some ⟨tb, tf, none⟩) xs.length cap, .int .i64 rws, .int .i64 trn] 24)).alloc (.cells #[.int .i64 0, .slice none 0 0, .int .i64 0, .int .i64 0] 24)
  have L := Lib.hid (check_calls (c : Int) rws trn _ _ cap xs _ hr)
  rw [hch] at L
  have HLD := Lib.hid LD
  have HR := Lib.hid h
  have HLS := Lib.hid hl
  have HX := Lib.hid hxl
  have hsz := tsz_bounds h1 h6
  have hne : (((c + 1 : Nat) : Int) != (c : Int) + 1) = false := by simp
  have hne' : ((c : Int) + 1 != (c : Int) + 1) = false := by simp
  have hmk := run_make_row' (P := Tryd.prog) 69 22 (.slice none 0 0) 24 (by kernel_rfl) (by kernel_rfl) rfl .i64 .i64 (c + 1) (by omega) (by omega)
  rw [show ((c + 1 : Nat) : Int) = (c : Int) + 1 by omega] at hmk
  have hc6 : (c : Int) ≤ 6 := by omega
  have hlsl : Hid (ls.length = c + 1) := by obtain ⟨_, _, hv, _⟩ := hl; simp only [Value.slice.injEq] at hv; exact hv.2.1.symm
  have CH := Lib.hid hch
  clear h hl hr hxl hch LD
  go_enter Tryd.func25, Tryd.ntmps25
  go_wp2_with (first | (go_at_call 18; refine L.out.mono ?_; rintro e w1 ⟨rfl, hb⟩; obtain ⟨hc, hf⟩ := bcell hb; have hz := hb.size; simp at hz; have hz0 : w.heap.size < w1.heap.size := (by omega); have hz1 : w.heap.size + 1 < w1.heap.size := (by omega)) | (go_at_call 33; refine (clone_calls b (c + 1) d ls _ (HLS.out.below ((((Below.refl w.heap.size w).alloc (Nat.le_refl _) _).alloc (by simp) _).trans (hb.mono (by simp; omega)))) (by have := hlsl.out; omega)).mono ?_; rintro e w2 ⟨v2, rfl, hown, hb2⟩))
  obtain ⟨rb, rcap, hv2, hg1, hg2, hg3, hg4⟩ := hown.shape (by have := hlsl.out; omega)
  have hrl := hlsl.out
  rw [hrl] at hv2
  subst hv2
  have W0 : Cells4 ((w.alloc (.cells #[.int .i64 (c : Int), .slice (some ⟨tb, tf, none⟩) xs.length cap, .int .i64 rws, .int .i64 trn] 24)).alloc (.cells #[.int .i64 0, .slice none 0 0, .int .i64 0, .int .i64 0] 24)) w.heap.size (.int .i64 (c : Int)) (.slice (some ⟨tb, tf, none⟩) xs.length cap) (.int .i64 rws) (.int .i64 trn) := by
    constructor <;> simp [go_sem]
  have W6 : Cells4 ((w.alloc (.cells #[.int .i64 (c : Int), .slice (some ⟨tb, tf, none⟩) xs.length cap, .int .i64 rws, .int .i64 trn] 24)).alloc (.cells #[.int .i64 0, .slice none 0 0, .int .i64 0, .int .i64 0] 24)) (w.heap.size + 1) (.int .i64 0) (.slice none 0 0) (.int .i64 0) (.int .i64 0) := by
    constructor <;> simp [go_sem]
  have HB := (((Below.refl w.heap.size w).alloc (Nat.le_refl _) (.cells #[.int .i64 (c : Int), .slice (some ⟨tb, tf, none⟩) xs.length cap, .int .i64 rws, .int .i64 trn] 24)).alloc (by simp) (.cells #[.int .i64 0, .slice none 0 0, .int .i64 0, .int .i64 0] 24)).trans (hb.mono (by simp; omega))
  have HB2 := HB.trans (hb2.mono (by omega))
  have hb3 := (Below.refl w2.heap.size w2).alloc (Nat.le_refl _) (.cells (madeCells #[.slice none 0 0] (c + 1)) 22)
  have hk3 := hb2.size
  have IN : TInv w rb rcap w2.heap.size c rws trn xs tb tf cap (sfrom c (c + 1) 0 (xs, ls)) (w2.alloc (.cells (madeCells #[.slice none 0 0] (c + 1)) 22)) 0 xs ls :=
    ⟨((W0.below hb).below hb2).below hb3, ((W6.below hb).below hb2).below hb3, HR.out.below (HB2.trans (hb3.mono (by omega))), (hown.below hb3 (Nat.le_refl _)).mono (by omega), made_rows _ _, HX.out, hlsl.out, fun _ _ => rfl, rfl, HB2.trans (hb3.mono (by omega))⟩
  have hqr : rb < w2.heap.size := hg2
  have hrw : w.heap.size + 1 < rb := by omega
  clear W0 W6 HB HB2 hown hb hb2 hb3 HR hc hf hz L hmk hg1 hg2 hk3
  generalize w2.heap.size = qb at *
  go_loopw [37] (fun s9 wr => ∃ (j : Nat) (ys rest : List (Option Nat)), s9 = .int .i64 (j : Int) ∧ j ≤ c + 1 ∧ TInv w rb rcap qb c rws trn xs tb tf cap (sfrom c (c + 1) 0 (xs, ls)) wr j ys rest) (fun s9 _ => c + 1 - (intOf s9).toNat)
  case atStart => exact ⟨0, xs, ls, rfl, by omega, IN⟩
  case round =>
    obtain ⟨j, ys, rest, rfl, hj, I⟩ := hrel
    obtain ⟨c30, c31, c32, c33, f30, f31, f32, f33⟩ := I.c3
    obtain ⟨c60, c61, c62, c63, f60, f61, f62, f63⟩ := I.c6
    by_cases hjc : j ≤ c
    · have hle : (j : Int) < (c : Int) + 1 := by omega
      go_wp2_with (go_at_call 44; refine (line_yes c j rws trn tb tf cap xs _ h1 h6 hjc HX.out I.row CH.out).mono ?_; rintro e wL ⟨vL, rfl, hownL, hbL⟩)
      have hel := lineP_agree h1 h6 HX.out I.hyl hjc I.agree
      obtain ⟨gb, gcap, hvL, hgb1, hgb2, hgb3, hgb4⟩ := hownL.shape (by rw [lineP_len h1 h6 HX.out hjc]; omega)
      rw [lineP_len h1 h6 HX.out hjc] at hvL
      subst hvL
      have oL := I.own.below hbL (Nat.le_refl _)
      obtain ⟨x, hx, hfx⟩ := hownL.cell (lineP_len h1 h6 HX.out hjc) (j := j) (by omega)
      obtain ⟨y, hy, hfy⟩ := oL.cell I.hrl (j := j) (by omega)
      have FX := Lib.hid hfx
      have FY := Lib.hid hfy
      have OL := Lib.hid oL
      have OWL := Lib.hid hownL
      have lgx : gb < wL.heap.size := cell_lt hx
      have lgy : rb < wL.heap.size := cell_lt hy
      clear hfx hfy oL hownL
      go_cut [10, 11, 12] from 43 to 104 (fun s11 s12 s13 wx => HyPost (hyperF ((lineP xs c j).getD j none) (rest.getD j none)) (.returned (.tuple #[s11, s12, s13])) ∧ Below wL.heap.size wL wx)
      case first =>
        -- A8
        rename_i J K' hJ hK'
        have BD := Lib.hid ((Below.refl wL.heap.size wL).drew)
        rcases hO : hyperF ((lineP xs c j).getD j none) (rest.getD j none) with _ | ⟨cc, ss⟩
        · have R1 := fun W => Hyper_calls x y W FX.out FY.out
          rw [hO] at R1
          have HO := Lib.hid (And.intro hO R1)
          clear hO R1
          go_region_held3 (fun w' => w'.cell? ⟨gb, j, none⟩ = some (.float .f64 x) ∧ w'.cell? ⟨rb, j, none⟩ = some (.float .f64 y))
            (first
              | with_reducible exact ⟨(BO.out.cell (p := ⟨gb, j, none⟩) lgx).trans hx, (BO.out.cell (p := ⟨rb, j, none⟩) lgy).trans hy⟩
              | with_reducible exact ⟨(BD.out.cell (p := ⟨gb, j, none⟩) lgx).trans hx, (BD.out.cell (p := ⟨rb, j, none⟩) lgy).trans hy⟩
              | go_keep)
            (first | (go_at_call 45; go_must (refine (HO.out.2 _).mono ?_; rintro e wO ⟨hpo, hbO⟩; have BO := Lib.hid (BD.out.trans (hbO.mono BD.out.size)); obtain rfl : e = .returned (.tuple #[.float .f64 0, .float .f64 0, .bool false]) := hpo; clear hbO)))
          all_goals (refine hK' _ _ (Met.intro (hJ _ _ ?_)); (repeat apply Exists.intro); refine ⟨?_, rfl⟩; exact ⟨by rw [HO.out.1]; rfl, BO.out⟩)
        · have R1 := fun W => Hyper_calls x y W FX.out FY.out
          rw [hO] at R1
          have HO := Lib.hid (And.intro hO R1)
          clear hO R1
          go_region_held3 (fun w' => w'.cell? ⟨gb, j, none⟩ = some (.float .f64 x) ∧ w'.cell? ⟨rb, j, none⟩ = some (.float .f64 y))
            (first
              | with_reducible exact ⟨(BO.out.cell (p := ⟨gb, j, none⟩) lgx).trans hx, (BO.out.cell (p := ⟨rb, j, none⟩) lgy).trans hy⟩
              | with_reducible exact ⟨(BD.out.cell (p := ⟨gb, j, none⟩) lgx).trans hx, (BD.out.cell (p := ⟨rb, j, none⟩) lgy).trans hy⟩
              | go_keep)
            (first | (go_at_call 45; go_must (refine (HO.out.2 _).mono ?_; rintro e wO ⟨hpo, hbO⟩; have BO := Lib.hid (BD.out.trans (hbO.mono BD.out.size)); obtain ⟨qu, qv, he, hqu, hqv⟩ := hpo; subst he; have HQ := Lib.hid (And.intro hqu hqv); clear hqu hqv; clear hbO)))
          all_goals (refine hK' _ _ (Met.intro (hJ _ _ ?_)); (repeat apply Exists.intro); refine ⟨?_, rfl⟩; exact ⟨by rw [HO.out.1]; exact ⟨_, _, rfl, HQ.out.1, HQ.out.2⟩, BO.out⟩)
        -- B8
      case rest =>
        obtain ⟨hpost, hbC⟩ := hcut
        have hs1 := I.below.size
        have hs2 := hbL.size
        have hs3 := hbC.size
        have BL := (I.below.trans (hbL.mono hs1)).trans (hbC.mono (by omega))
        have eT := I.eq
        rw [show c + 1 - j = (c - j) + 1 by omega] at eT
        have eS := sstep_eq (rest := rest) h1 h6 I.hyl hjc
        rw [hel] at eS
        have C6 := (I.c6.below hbL).below hbC
        rcases hO : hyperF ((lineP xs c j).getD j none) (rest.getD j none) with _ | ⟨cc, ss⟩
        · rw [hO] at hpost eS
          have hp : Ending.returned (.tuple #[u10, u11, u12]) = .returned (.tuple #[.float .f64 0, .float .f64 0, .bool false]) := hpost
          simp only [Ending.returned.injEq, Value.tuple.injEq, Array.mk.injEq, List.cons.injEq, and_true] at hp
          obtain ⟨rfl, rfl, rfl⟩ := hp
          have eN : sfrom c (c + 1) 0 (xs, ls) = none := by
            rw [← eT]
            unfold sfrom
            rw [eS]
          have EN := Lib.hid eN
          obtain ⟨d60, d61, d62, d63, g60, g61, g62, g63⟩ := C6
          have q1 := (HLD.out.below BL).g1
          clear eN eT hO eS
          go_wp2
          go_region
          go_wp2
          have P6 := ((I.c6.below hbL).below hbC).put (.int .i64 0) (.slice none 0 0) (.int .i64 0) (.int .i64 0)
          refine bodyPost_ret (v := .tuple #[facZ, (ErrD.shed (j : Int)).val a0 a1 a2]) (by simp [results, Tryd.results25, go_sem, P6.c0, P6.c1, P6.c2, P6.c3, facZ, ErrD.val]) rfl ⟨by rw [EN.out]; exact facErr_no _ _ _ _ _ _ rfl _, ?_⟩
          exact ((((BL.setCell (p := ⟨w.heap.size + 1, 0, none⟩) (by simp) _).setCell (p := ⟨w.heap.size + 1, 1, none⟩) (by simp) _).setCell (p := ⟨w.heap.size + 1, 2, none⟩) (by simp) _).setCell (p := ⟨w.heap.size + 1, 3, none⟩) (by simp) _).drew
        · rw [hO] at hpost eS
          obtain ⟨qu, qv, hp, hqu, hqv⟩ := hpost
          simp only [Ending.returned.injEq, Value.tuple.injEq, Array.mk.injEq, List.cons.injEq, and_true] at hp
          obtain ⟨rfl, rfl, rfl⟩ := hp
          -- A9
          have OWc := OWL.out.below hbC (Nat.le_refl _)
          have OLc := OL.out.below hbC (Nat.le_refl _)
          obtain ⟨x1, hx1, hfx1⟩ := OWc.cell (lineP_len h1 h6 HX.out hjc) (j := j) (by omega)
          have fx1 := OWc.frozen (lineP_len h1 h6 HX.out hjc) j
          have HOW := Lib.hid (And.intro OWc OLc)
          have HX1 := Lib.hid hfx1
          have HF := Lib.hid (And.intro hqu hqv)
          have HO := Lib.hid hO
          have ET := Lib.hid (And.intro eT eS)
          have HC6 := Lib.hid C6
          have HC3 := Lib.hid ((I.c3.below hbL).below hbC)
          have HBL := Lib.hid BL
          have HI := Lib.hid I
          have rwL := I.rows.below hbL
          have rwC := rwL.below hbC
          have hold : ∀ i g cap', i < j → i < c + 1 → wc.cell? ⟨qb, i, none⟩ = some (.slice (some ⟨g, 0, none⟩) (c + 1) cap') → gb ≠ g := fun i g cap' hij hi e => by
            obtain ⟨_, _, r⟩ := I.rows i hi
            obtain ⟨g', cap'', r1, _, _, r4⟩ := r hij
            have r5 := (hbC.cell (p := ⟨qb, i, none⟩) (Nat.lt_of_lt_of_le (cell_lt r1) hs2)).trans ((hbL.cell (p := ⟨qb, i, none⟩) (cell_lt r1)).trans r1)
            rw [e] at r5
            simp only [Option.some.injEq, Value.slice.injEq, Addr.mk.injEq, and_true, true_and] at r5
            omega
          have hqw : qb < wr.heap.size := by
            obtain ⟨⟨u, u1, _⟩, _⟩ := I.rows j (by omega)
            exact cell_lt u1
          have HRW := Lib.hid (And.intro rwC hold)
          clear hO eT eS C6 hqu hqv BL I hfx1 OWc OLc rwL rwC hold hel
          go_wp2
          have hqz := opw_mul wc HF.out.1 HX1.out
          generalize opw (double.mul qu x1) qu x1 wc = qz at *
          generalize opd (double.mul qu x1) = dz at *
          have HZ := Lib.hid hqz
          clear hqz
          obtain ⟨r, hr⟩ : ∃ r, r = fmul cc ((lineP xs c j).getD j none) := ⟨_, rfl⟩
          have hgbr : rb < gb := by omega
          have hqg : qb < gb := by omega
          have U0 : UInv w gb gcap rb rcap qb c rws trn xs ys j tb tf cap (wc.setCell ⟨gb, j, none⟩ (.float .f64 qz)) (gturnTo (downP cc ss) (downX cc ss) j 0 ((lineP xs c j).set j r, rest)) := by
            refine ⟨HC3.out.set (by omega), HC6.out.set (by omega), (((HI.out.row.below hbL).below hbC).setOther (by omega)), ((HOW.out.1.set (lineP_len h1 h6 HX.out hjc) j (by rw [hr]; exact HZ.out)).mono (by omega)), HOW.out.2.setOther (by omega), HRW.out.1.set (by omega) (fun i g cap' hij hi e => HRW.out.2 i g cap' hij hi e), fun i g cap' hij hi e => HRW.out.2 i g cap' hij hi (cell_set_back e (by omega)), ?_, HI.out.hrl, HBL.out.setCell (p := ⟨gb, j, none⟩) (show w.heap.size ≤ gb by omega) _⟩
            simp only [gturnTo, List.length_set]; exact lineP_len h1 h6 HX.out hjc
          have HU0 := Lib.hid (U0.keep (below_drewN (Below.refl _ _) dz))
          have HRR := Lib.hid hr
          clear U0 hr
          obtain ⟨wo, hwo⟩ : ∃ wo : World, wo = wr := ⟨_, rfl⟩
          go_loopw [13] (fun s15 W => ∃ n k : Nat, s15 = .int .i64 (k : Int) ∧ k = j + 1 + n ∧ n ≤ c - j ∧ UInv w gb gcap rb rcap qb c rws trn xs ys j tb tf cap W (gturnTo (downP cc ss) (downX cc ss) j n ((lineP xs c j).set j r, rest))) (fun s15 _ => c + 1 - (intOf s15).toNat)
          case atStart => exact ⟨0, j + 1, by go_num, rfl, Nat.zero_le _, HU0.out⟩
          case round =>
            obtain ⟨n, k, rfl, hk, hn, BV⟩ := hrel
            by_cases hnl : n < c - j
            · obtain ⟨x2, hx2, fx2⟩ := BV.own1.cell BV.l1 (j := k) (by omega)
              obtain ⟨y2, hy2, fy2⟩ := BV.own2.cell BV.l2 (j := k) (by omega)
              have fz1 := BV.own1.frozen BV.l1 k
              have fz2 := BV.own2.frozen BV.l2 k
              have FXY := Lib.hid (And.intro fx2 fy2)
              have HBV := Lib.hid BV
              have HK := Lib.hid hk
              have hkk : (k : Int) < (c : Int) + 1 := by omega
              clear fx2 fy2 BV hx hy hx1 fx1 hk
              have lg : gb < wr.heap.size := cell_lt hx2
              have lr : rb < wr.heap.size := cell_lt hy2
              go_wp2
              -- A15
              go_region_with (go_at_call 46; go_must (refine (Down_calls qu qv x2 y2 _ HF.out.1 HF.out.2 FXY.out.1 FXY.out.2).mono ?_; rintro e wT ⟨tu, tv, rfl, htu, htv, hbT⟩; have r1 := (hbT.cell (p := ⟨gb, k, none⟩) lg).trans hx2; have r2 := (hbT.cell (p := ⟨rb, k, none⟩) lr).trans hy2; have r3 := (hbT.frozen (p := ⟨gb, k, none⟩) lg).trans fz1; have r4 := (hbT.frozen (p := ⟨rb, k, none⟩) lr).trans fz2))
              all_goals
                go_wp2
                go_roundw
                case rel =>
                  have hk := HK.out
                  subst hk
                  exact ⟨n + 1, j + 1 + n + 1, by go_num, by omega, by omega, HBV.out.turn ((below_drewN (Below.refl _ _) 1).trans hbT) htu htv (by omega) (by omega) (by omega) (by omega)⟩
                case measure => simp [intOf]; omega
              -- B15
            · obtain rfl : n = c - j := by omega
              obtain rfl : k = c + 1 := by omega
              clear hk hn hnl
              have HBV := Lib.hid BV
              obtain ⟨⟨u0, u1, u2⟩, u3, _⟩ := BV.rows j (by omega)
              have eL : sfrom c (c + 1 - (j + 1)) (j + 1) (setP ys c j (gturnTo (downP cc ss) (downX cc ss) j (c - j) ((lineP xs c j).set j r, rest)).1, (gturnTo (downP cc ss) (downX cc ss) j (c - j) ((lineP xs c j).set j r, rest)).2) = sfrom c (c + 1) 0 (xs, ls) := by
                rw [← ET.out.1, show c + 1 - (j + 1) = c - j by omega]
                show _ = (match sstep c j (ys, rest) with | none => none | some st' => sfrom c (c - j) (j + 1) st')
                rw [ET.out.2, HRR.out]
              have hzz : ∀ i, i < j → (gturnTo (downP cc ss) (downX cc ss) j (c - j) ((lineP xs c j).set j r, rest)).1.getD i none = some 0 := fun i hij => by
                rw [gturnTo_head _ _ _ _ _ (by omega)]
                dsimp only
                rw [getD_set, if_neg (by omega), getD_lineP hjc _ (by omega), if_pos hij]
              have EL := Lib.hid eL
              have EZ := Lib.hid hzz
              clear BV eL hx hy hx1 fx1 hzz
              go_wp2
              have hyl := HI.out.hyl
              have hag := HI.out.agree
              have hlg : gb < wr.heap.size := by obtain ⟨cur, hcur⟩ := HBV.out.own1.block; exact (Array.getElem?_eq_some_iff.1 hcur).1
              have nx := RowsAt.next h1 h6 hyl hjc HBV.out.l1 EZ.out HBV.out.rows HBV.out.own1 hqg hlg
              refine ⟨⟨j + 1, _, _, by go_num, by omega, ⟨HBV.out.c3.set (by omega), HBV.out.c6.set (by omega), HBV.out.row.setOther (by omega), HBV.out.own2.setOther (by omega), nx, setP_len h1 h6 hyl hjc HBV.out.l1, HBV.out.l2, fun k hk => ?_, EL.out, HBV.out.below.setCell (p := ⟨qb, j, none⟩) (show w.heap.size ≤ qb by omega) _⟩⟩, by simp [intOf]; omega⟩
              have ho : offs c (j + 1) = offs c j + (c + 1 - j) := rfl
              rw [getD_setP h1 h6 hyl hjc HBV.out.l1, if_neg (by omega)]
              exact hag k (by omega)
          -- B9
    · have hle : ¬ (j : Int) < (c : Int) + 1 := by omega
      -- A2
      obtain rfl : j = c + 1 := by omega
      have eT := I.eq
      rw [show c + 1 - (c + 1) = 0 by omega] at eT
      have eY : sfrom c (c + 1) 0 (xs, ls) = some ys := eT.symm
      have V0 : VInv w qb c rws trn xs ys wr 0 tb tf xs.length cap :=
        ⟨I.c3, I.c6, by rw [mix_zero]; exact I.row, by rw [mix_zero]; exact CH.out, I.rows, by omega, by omega, fun h => absurd h (Nat.lt_irrefl 0), I.below⟩
      have EY := Lib.hid (And.intro eY I.hyl)
      clear I eT eY
      go_wp2
      obtain ⟨wo, hwo⟩ : ∃ wo : World, wo = wr := ⟨_, rfl⟩
      go_loopw [107] (fun s9 W => ∃ (k tb' tf' n' cap' : Nat), s9 = .int .i64 (k : Int) ∧ k ≤ c + 1 ∧ VInv w qb c rws trn xs ys W k tb' tf' n' cap') (fun s9 _ => c + 1 - (intOf s9).toNat)
      case atStart => exact ⟨0, tb, tf, xs.length, cap, by go_num, by omega, V0⟩
      case round =>
        obtain ⟨k, tb', tf', n', cap', rfl, hk, V⟩ := hrel
        obtain ⟨d30, d31, d32, d33, g30, g31, g32, g33⟩ := V.c3
        obtain ⟨d60, d61, d62, d63, g60, g61, g62, g63⟩ := V.c6
        have HV := Lib.hid V
        by_cases hkc : k ≤ c
        · have hkl : (k : Int) < (c : Int) + 1 := by omega
          obtain ⟨_, fq, r⟩ := V.rows k (by omega)
          obtain ⟨g, gc, r1, r2, r3, r4⟩ := r (by omega)
          have R2 := Lib.hid r2.row
          have hm := mix_len h1 h6 HX.out EY.out.2 (k := k) (by omega)
          have hs1 := V.below.size
          cases hck : checkP (c : Int) (mixP xs ys c (k + 1)) rws trn
          · have CK : checkP (c : Int) (setP (mixP xs ys c k) c k (lineP ys c k)) rws trn = false := by rw [mix_step h1 h6 HX.out EY.out.2 hkc]; exact hck
            have hno := mix_bad h1 h6 HX.out EY.out.2 hkc V.chk hck
            have eN : shedR c rws trn (sfrom c (c + 1) 0 (xs, ls)) = (fac0, 2) := by
              rw [EY.out.1]
              show (if checkP (c : Int) ys rws trn = true then _ else (fac0, 2)) = (fac0, 2)
              rw [hno]; rfl
            have EN := Lib.hid eN
            have CKH := Lib.hid CK
            have HM := Lib.hid hm
            have hg20 : 2 < w.heap.size := cell_lt HLD.out.g2
            have hn20 : 2 ≠ w.heap.size := by omega
            have hn02 : w.heap.size ≠ 2 := by omega
            have hne0 : w.heap.size ≠ w.heap.size + 1 := by omega
            clear eN CK hck hno V r r2 hm
            go_wp2_with (go_at_call 47; refine (set_f c k rws trn _ _ _ cap' gc (mixP xs ys c k) (lineP ys c k) _ HV.out.row R2.out HV.out.chk h1 h6 hkc HM.out CKH.out).mono ?_; rintro e wS ⟨rfl, hbS⟩; obtain ⟨e30, e31, e32, e33, h30, h31, h32, h33⟩ := HV.out.c3.below hbS; obtain ⟨e60, e61, e62, e63, h60, h61, h62, h63⟩ := HV.out.c6.below hbS; have q2 := ((HLD.out.below HV.out.below).below hbS).g2; have lg2 := cell_lt ((HLD.out.below HV.out.below).g2))
            go_region
            go_wp2
            have P6 := (((((HV.out.c6.below hbS).set (o := 0) (v := .int .i64 0) hne0).set (o := 1) (v := .slice none 0 0) hne0).set (o := 2) (v := .int .i64 0) hne0).set (o := 3) (v := .int .i64 0) hne0).put (.int .i64 0) (.slice none 0 0) (.int .i64 0) (.int .i64 0)
            have BS := HV.out.below.trans (hbS.mono hs1)
            refine bodyPost_ret (v := .tuple #[facZ, (ErrD.rng (k : Int)).val a0 a1 a2]) (by simp [results, Tryd.results25, go_sem, P6.c0, P6.c1, P6.c2, P6.c3, facZ, ErrD.val]) rfl ⟨by rw [EN.out]; exact facErr_no _ _ _ _ _ _ rfl _, ?_⟩
            exact ((((((((BS.setCell (p := ⟨w.heap.size, 0, none⟩) (Nat.le_refl _) _).setCell (p := ⟨w.heap.size, 1, none⟩) (Nat.le_refl _) _).setCell (p := ⟨w.heap.size, 2, none⟩) (Nat.le_refl _) _).setCell (p := ⟨w.heap.size, 3, none⟩) (Nat.le_refl _) _).setCell (p := ⟨w.heap.size + 1, 0, none⟩) (by simp) _).setCell (p := ⟨w.heap.size + 1, 1, none⟩) (by simp) _).setCell (p := ⟨w.heap.size + 1, 2, none⟩) (by simp) _).setCell (p := ⟨w.heap.size + 1, 3, none⟩) (by simp) _).drew
          · have CK : checkP (c : Int) (setP (mixP xs ys c k) c k (lineP ys c k)) rws trn = true := by rw [mix_step h1 h6 HX.out EY.out.2 hkc]; exact hck
            have CKH := Lib.hid (And.intro CK hck)
            have HM := Lib.hid hm
            clear CK hck V r r2 hm
            go_wp2_with (go_at_call 47; refine (set_t c k rws trn _ _ _ cap' gc (mixP xs ys c k) (lineP ys c k) _ HV.out.row R2.out HV.out.chk h1 h6 hkc HM.out CKH.out.1).mono ?_; rintro e wS ⟨⟨vS, rfl, hoS⟩, hbS⟩; obtain ⟨gs, scap, hvS, hgs1, hgs2, _, _⟩ := hoS.shape (by rw [setP_len h1 h6 HM.out hkc (lineP_len h1 h6 EY.out.2 hkc)]; omega); subst hvS; obtain ⟨e30, e31, e32, e33, h30, h31, h32, h33⟩ := HV.out.c3.below hbS; obtain ⟨e60, e61, e62, e63, h60, h61, h62, h63⟩ := HV.out.c6.below hbS)
            have hne0 : w.heap.size ≠ w.heap.size + 1 := by omega
            have hgs0 : w.heap.size ≠ gs := by omega
            have h6w := V0.c6.lt
            have BS := HV.out.below.trans (hbS.mono hs1)
            have hso := mix_step h1 h6 HX.out EY.out.2 hkc
            have hro : RowsAt wS w.heap.size qb c ys (c + 1) := HV.out.rows.below hbS
            refine ⟨⟨k + 1, gs, 0, (setP (mixP xs ys c k) c k (lineP ys c k)).length, scap, by go_num, by omega, ?_⟩, by simp [intOf]; omega⟩
            refine ⟨(HV.out.c3.below hbS).put _ _ _ _, ((((HV.out.c6.below hbS).set hne0).set hne0).set hne0).set hne0, ?_, CKH.out.2, (((hro.set_low (by omega)).set_low (by omega)).set_low (by omega)).set_low (by omega), by omega, by have := HV.out.c6.lt; omega, fun _ => by omega, ?_⟩
            · rw [← hso]
              exact ((((hoS.setOther hgs0).setOther hgs0).setOther hgs0).setOther hgs0).row
            · exact (((BS.setCell (p := ⟨w.heap.size, 0, none⟩) (Nat.le_refl _) _).setCell (p := ⟨w.heap.size, 1, none⟩) (Nat.le_refl _) _).setCell (p := ⟨w.heap.size, 2, none⟩) (Nat.le_refl _) _).setCell (p := ⟨w.heap.size, 3, none⟩) (Nat.le_refl _) _
        · have hkl : ¬ (k : Int) < (c : Int) + 1 := by omega
          obtain rfl : k = c + 1 := by omega
          have hma := mix_all h1 h6 HX.out EY.out.2
          have eN : shedR c rws trn (sfrom c (c + 1) 0 (xs, ls)) = (⟨(c : Int), ys, rws, trn⟩, 0) := by
            have hck := V.chk
            rw [hma] at hck
            rw [EY.out.1]
            show (if checkP (c : Int) ys rws trn = true then (⟨(c : Int), ys, rws, trn⟩, 0) else (fac0, 2)) = _
            rw [hck]; rfl
          have EN := Lib.hid (And.intro eN hma)
          clear V eN hma
          go_wp2
          have P6 := HV.out.c6.put (.int .i64 (c : Int)) (.slice (some ⟨tb', tf', none⟩) n' cap') (.int .i64 rws) (.int .i64 trn)
          have hn6 := HV.out.n6.symm
          refine bodyPost_ret (v := .tuple #[.agg #[.int .i64 (c : Int), .slice (some ⟨tb', tf', none⟩) n' cap', .int .i64 rws, .int .i64 trn], ErrD.ok.val a0 a1 a2]) (by simp [results, Tryd.results25, go_sem, P6.c0, P6.c1, P6.c2, P6.c3, ErrD.val]) rfl ⟨?_, ?_⟩
          · rw [EN.out.1]
            refine ⟨.ok, _, _, _, rfl, rfl, ?_, fun p hp => by cases hp; exact HV.out.nB (by omega)⟩
            have hro := HV.out.row
            rw [EN.out.2] at hro
            exact (((hro.setOther hn6).setOther hn6).setOther hn6).setOther hn6
          · exact (((HV.out.below.setCell (p := ⟨w.heap.size + 1, 0, none⟩) (by simp) _).setCell (p := ⟨w.heap.size + 1, 1, none⟩) (by simp) _).setCell (p := ⟨w.heap.size + 1, 2, none⟩) (by simp) _).setCell (p := ⟨w.heap.size + 1, 3, none⟩) (by simp) _
      -- B2
end Go.Proofs.YtfohknalldelfaaDoor
