/- shed.take, walked. What shed.take and the reference's Line refuse at once; both whole; shed.Line. A row taken out, plainly; what the program and the reference refuse of it, walked. A row taken out: both Rows, walked. A row taken out: the reference's Row, walked. Rows taken out one by one: the program's All, the reference's, walked. Layer 11's own examples, walked. Rows taken out part by part, plainly. ShedTells, walked. -/
import Derived.Test.YtmmligbkecilfaaGreatDoorTf
import Derived.Test.YtmmligbkecilfaaGreatDoorQ
import Derived.Deep.CutRange
import Derived.Deep.OwnRows
import Derived.Test.YtmmligbkecilfaaGreatDoorRe
import Derived.Test.YtmmligbkecilfaaGreatDoorSi
import Derived.Test.YtmmligbkecilfaaGreatDoorSm
import Derived.Test.YtmmligbkecilfaaGreatDoorSo
import Derived.Test.YtmmligbkecilfaaGreatDoorOe
namespace Go.Proofs.YtmmligbkecilfaaGreatDoor
open Go.RowKit Lv Go.Shelf
open Ieee (double Format Datum Toward)
attribute [local go_sem] run_store_float drewN_alloc drewN_setCell run_addF run_subF run_mulF run_quoF

theorem made_at_slice (c j : Nat) (h : j < c + 1) : (madeCells #[.slice none 0 0] (c + 1))[j]? = some (Value.slice none 0 0) := by
  rw [← Array.getElem?_toList, toList_madeCells_one, List.getElem?_replicate, if_pos h]
theorem made_rows {W : World} {c : Nat} {B : Nat} (t : TypeId) (ys : List (Option Nat)) : RowsAt (W.alloc (.cells (madeCells #[.slice none 0 0] (c + 1)) t)) B W.heap.size c ys 0 := by
  refine RowsAt.start fun i hi => ?_
  have hlt : W.heap.size < (W.alloc (.cells (madeCells #[.slice none 0 0] (c + 1)) t)).heap.size := by simp
  have hm : (madeCells #[Value.slice none 0 0] (c + 1))[i]? = some (.slice none 0 0) := by
    have h := made_at_slice c i hi
    exact h
  constructor
  · simp [go_sem, hm]
  · simp [go_sem]

theorem UInv.keep {w : World} {gb gcap rb rcap qb c : Nat} {rws trn : Int} {xs ys : List (Option Nat)} {j tb tf cap : Nat} {W W' : World} {p : List (Option Nat) × List (Option Nat)} (h : UInv w gb gcap rb rcap qb c rws trn xs ys j tb tf cap W p) (hb : Below W.heap.size W W') : UInv w gb gcap rb rcap qb c rws trn xs ys j tb tf cap W' p := by
  refine ⟨h.c3.below hb, h.c6.below hb, h.row.below hb, h.own1.below hb (Nat.le_refl _), h.own2.below hb (Nat.le_refl _), h.rows.below hb, fun i g cap' hij hi e => ?_, h.l1, h.l2, h.below.trans (hb.mono h.below.size)⟩
  obtain ⟨⟨u, u1, _⟩, _, _⟩ := h.rows i hi
  exact h.old i g cap' hij hi ((hb.cell (p := ⟨qb, i, none⟩) (cell_lt u1)).symm.trans e)
theorem facErr_no (B : Nat) (a0 a1 a2 : Addr) (E : ErrD) (k : Int) (hk : E.code = k) (w' : World) : FacErr B a0 a1 a2 (fac0, k) (.returned (.tuple #[facZ, E.val a0 a1 a2])) w' := ⟨E, none, 0, 0, rfl, hk, row_nil _, fun _ h => nomatch h⟩
/-- what stands at the head of the second loop -/
structure VInv (w : World) (qb c : Nat) (rws trn : Int) (xs ys : List (Option Nat)) (W : World) (k : Nat) (tb tf n cap : Nat) : Prop where
  c3 : Cells4 W w.heap.size (.int .i64 c) (.slice (some ⟨tb, tf, none⟩) n cap) (.int .i64 rws) (.int .i64 trn)
  c6 : Cells4 W (w.heap.size + 1) (.int .i64 0) (.slice none 0 0) (.int .i64 0) (.int .i64 0)
  row : Row W (.slice (some ⟨tb, tf, none⟩) n cap) (mixP xs ys c k)
  chk : checkP (c : Int) (mixP xs ys c k) rws trn = true
  rows : RowsAt W w.heap.size qb c ys (c + 1)
  n3 : tb ≠ w.heap.size
  n6 : tb ≠ w.heap.size + 1
  nB : 0 < k → w.heap.size ≤ tb
  below : Below w.heap.size w W

set_option maxRecDepth 100000 in
set_option maxHeartbeats 8000000 in
theorem take_yes (c : Nat) (rws trn : Int) (tb tf cap : Nat) (b : Option Addr) (d : Nat) (xs ls : List (Option Nat)) (w : World) (a0 a1 a2 : Addr) (LD : Laid w a0 a1 a2) (h : Row w (.slice (some ⟨tb, tf, none⟩) xs.length cap) xs) (hl : Row w (.slice b (c + 1) d) ls)
    (hch : checkP (c : Int) xs rws trn = true) (h1 : 1 ≤ c) (h6 : c ≤ 6) (hxl : xs.length = tsz c) (htb : tb < w.heap.size) :
    Calls Tryz.prog 34 #[.agg #[.int .i64 (c : Int), .slice (some ⟨tb, tf, none⟩) xs.length cap, .int .i64 rws, .int .i64 trn], .slice b (c + 1) d] w fun e w' =>
      FacErr w.heap.size a0 a1 a2 (shedR c rws trn (sfrom c (c + 1) 0 (xs, ls))) e w' ∧ Below w.heap.size w w' := by
  have hr := (h.alloc (.cells #[.int .i64 (c : Int), .slice (some ⟨tb, tf, none⟩) xs.length cap, .int .i64 rws, .int .i64 trn] 24)).alloc (.cells #[.int .i64 0, .slice none 0 0, .int .i64 0, .int .i64 0] 24)
  have L := Lib.hid (check_calls (c : Int) rws trn _ _ cap xs _ hr)
  rw [hch] at L
  have HLD := Lib.hid LD
  have HR := Lib.hid h
  have HLS := Lib.hid hl
  have HX := Lib.hid hxl
  have hsz := tsz_bounds h1 h6
  have hne : (((c + 1 : Nat) : Int) != (c : Int) + 1) = false := by simp
  have hne' : ((c : Int) + 1 != (c : Int) + 1) = false := by simp
  have hmk := run_make_row' (P := Tryz.prog) 97 22 (.slice none 0 0) 24 (by kernel_rfl) (by kernel_rfl) rfl .i64 .i64 (c + 1) (by omega) (by omega)
  rw [show ((c + 1 : Nat) : Int) = (c : Int) + 1 by omega] at hmk
  have hc6 : (c : Int) ≤ 6 := by omega
  have hlsl : Hid (ls.length = c + 1) := by obtain ⟨_, _, hv, _⟩ := hl; simp only [Value.slice.injEq] at hv; exact hv.2.1.symm
  have CH := Lib.hid hch
  clear h hl hr hxl hch LD
  go_enter Tryz.func34, Tryz.ntmps34
  go_wp2_with (first | (go_at_call 29; refine L.out.mono ?_; rintro e w1 ⟨rfl, hb⟩; obtain ⟨hc, hf⟩ := bcell hb; have hz := hb.size; simp at hz; have hz0 : w.heap.size < w1.heap.size := (by omega); have hz1 : w.heap.size + 1 < w1.heap.size := (by omega)) | (go_at_call 16; refine (clone_calls b (c + 1) d ls _ (HLS.out.below ((((Below.refl w.heap.size w).alloc (Nat.le_refl _) _).alloc (by simp) _).trans (hb.mono (by simp; omega)))) (by have := hlsl.out; omega)).mono ?_; rintro e w2 ⟨v2, rfl, hown, hb2⟩))
  obtain ⟨rb, rcap, hv2, hg1, hg2, hg3, hg4⟩ := hown.shape (by have := hlsl.out; omega)
  have hrl := hlsl.out
  rw [hrl] at hv2
  subst hv2
  have W0 : Cells4 ((w.alloc (.cells #[.int .i64 (c : Int), .slice (some ⟨tb, tf, none⟩) xs.length cap, .int .i64 rws, .int .i64 trn] 24)).alloc (.cells #[.int .i64 0, .slice none 0 0, .int .i64 0, .int .i64 0] 24)) w.heap.size (.int .i64 (c : Int)) (.slice (some ⟨tb, tf, none⟩) xs.length cap) (.int .i64 rws) (.int .i64 trn) := by
    constructor <;> simp [go_sem]
  have W6 : Cells4 ((w.alloc (.cells #[.int .i64 (c : Int), .slice (some ⟨tb, tf, none⟩) xs.length cap, .int .i64 rws, .int .i64 trn] 24)).alloc (.cells #[.int .i64 0, .slice none 0 0, .int .i64 0, .int .i64 0] 24)) (w.heap.size + 1) (.int .i64 0) (.slice none 0 0) (.int .i64 0) (.int .i64 0) := by
    constructor <;> simp [go_sem]
  have HB := (((Below.refl w.heap.size w).alloc (Nat.le_refl _) (.cells #[.int .i64 (c : Int), .slice (some ⟨tb, tf, none⟩) xs.length cap, .int .i64 rws, .int .i64 trn] 24)).alloc (by simp) (.cells #[.int .i64 0, .slice none 0 0, .int .i64 0, .int .i64 0] 24)).trans (hb.mono (by simp; omega))
  have HB2 := HB.trans (hb2.mono (by omega))
  have hb3 := (Below.refl w2.heap.size w2).alloc (Nat.le_refl _) (.cells (madeCells #[.slice none 0 0] (c + 1)) 22)
  have hk3 := hb2.size
  have IN : TInv w rb rcap w2.heap.size c rws trn xs tb tf cap (sfrom c (c + 1) 0 (xs, ls)) (w2.alloc (.cells (madeCells #[.slice none 0 0] (c + 1)) 22)) 0 xs ls :=
    ⟨((W0.below hb).below hb2).below hb3, ((W6.below hb).below hb2).below hb3, HR.out.below (HB2.trans (hb3.mono (by omega))), (hown.below hb3 (Nat.le_refl _)).mono (by omega), made_rows _ _, HX.out, hlsl.out, fun _ _ => rfl, rfl, HB2.trans (hb3.mono (by omega))⟩
  have hqr : rb < w2.heap.size := hg2
  have hrw : w.heap.size + 1 < rb := by omega
  clear W0 W6 HB HB2 hown hb hb2 hb3 HR hc hf hz L hmk hg1 hg2 hk3
  generalize w2.heap.size = qb at *
  go_loopw [37] (fun s9 wr => ∃ (j : Nat) (ys rest : List (Option Nat)), s9 = .int .i64 (j : Int) ∧ j ≤ c + 1 ∧ TInv w rb rcap qb c rws trn xs tb tf cap (sfrom c (c + 1) 0 (xs, ls)) wr j ys rest) (fun s9 _ => c + 1 - (intOf s9).toNat)
  case atStart => exact ⟨0, xs, ls, rfl, by omega, IN⟩
  case round =>
    obtain ⟨j, ys, rest, rfl, hj, I⟩ := hrel
    obtain ⟨c30, c31, c32, c33, f30, f31, f32, f33⟩ := I.c3
    obtain ⟨c60, c61, c62, c63, f60, f61, f62, f63⟩ := I.c6
    by_cases hjc : j ≤ c
    · have hle : (j : Int) < (c : Int) + 1 := by omega
      go_wp2_with (go_at_call 59; refine (line_yes c j rws trn tb tf cap xs _ h1 h6 hjc HX.out I.row CH.out).mono ?_; rintro e wL ⟨vL, rfl, hownL, hbL⟩)
      have hel := lineP_agree h1 h6 HX.out I.hyl hjc I.agree
      obtain ⟨gb, gcap, hvL, hgb1, hgb2, hgb3, hgb4⟩ := hownL.shape (by rw [lineP_len h1 h6 HX.out hjc]; omega)
      rw [lineP_len h1 h6 HX.out hjc] at hvL
      subst hvL
      have oL := I.own.below hbL (Nat.le_refl _)
      obtain ⟨x, hx, hfx⟩ := hownL.cell (lineP_len h1 h6 HX.out hjc) (j := j) (by omega)
      obtain ⟨y, hy, hfy⟩ := oL.cell I.hrl (j := j) (by omega)
      have FX := Lib.hid hfx
      have FY := Lib.hid hfy
      have OL := Lib.hid oL
      have OWL := Lib.hid hownL
      have lgx : gb < wL.heap.size := cell_lt hx
      have lgy : rb < wL.heap.size := cell_lt hy
      clear hfx hfy oL hownL
      go_cut [10, 11, 12] from 43 to 104 (fun s11 s12 s13 wx => HyPost (hyperF ((lineP xs c j).getD j none) (rest.getD j none)) (.returned (.tuple #[s11, s12, s13])) ∧ Below wL.heap.size wL wx)
      case first =>
        -- A8
        rename_i J K' hJ hK'
        have BD := Lib.hid ((Below.refl wL.heap.size wL).drew)
        rcases hO : hyperF ((lineP xs c j).getD j none) (rest.getD j none) with _ | ⟨cc, ss⟩
        · have R1 := fun W => Hyper_calls x y W FX.out FY.out
          rw [hO] at R1
          have HO := Lib.hid (And.intro hO R1)
          clear hO R1
          go_region_held3 (fun w' => w'.cell? ⟨gb, j, none⟩ = some (.float .f64 x) ∧ w'.cell? ⟨rb, j, none⟩ = some (.float .f64 y))
            (first
              | with_reducible exact ⟨(BO.out.cell (p := ⟨gb, j, none⟩) lgx).trans hx, (BO.out.cell (p := ⟨rb, j, none⟩) lgy).trans hy⟩
              | with_reducible exact ⟨(BD.out.cell (p := ⟨gb, j, none⟩) lgx).trans hx, (BD.out.cell (p := ⟨rb, j, none⟩) lgy).trans hy⟩
              | go_keep)
            (first | (go_at_call 65; go_must (refine (HO.out.2 _).mono ?_; rintro e wO ⟨hpo, hbO⟩; have BO := Lib.hid (BD.out.trans (hbO.mono BD.out.size)); obtain rfl : e = .returned (.tuple #[.float .f64 0, .float .f64 0, .bool false]) := hpo; clear hbO)))
          all_goals (refine hK' _ _ (Met.intro (hJ _ _ ?_)); (repeat apply Exists.intro); refine ⟨?_, rfl⟩; exact ⟨by rw [HO.out.1]; rfl, BO.out⟩)
        · have R1 := fun W => Hyper_calls x y W FX.out FY.out
          rw [hO] at R1
          have HO := Lib.hid (And.intro hO R1)
          clear hO R1
          go_region_held3 (fun w' => w'.cell? ⟨gb, j, none⟩ = some (.float .f64 x) ∧ w'.cell? ⟨rb, j, none⟩ = some (.float .f64 y))
            (first
              | with_reducible exact ⟨(BO.out.cell (p := ⟨gb, j, none⟩) lgx).trans hx, (BO.out.cell (p := ⟨rb, j, none⟩) lgy).trans hy⟩
              | with_reducible exact ⟨(BD.out.cell (p := ⟨gb, j, none⟩) lgx).trans hx, (BD.out.cell (p := ⟨rb, j, none⟩) lgy).trans hy⟩
              | go_keep)
            (first | (go_at_call 65; go_must (refine (HO.out.2 _).mono ?_; rintro e wO ⟨hpo, hbO⟩; have BO := Lib.hid (BD.out.trans (hbO.mono BD.out.size)); obtain ⟨qu, qv, he, hqu, hqv⟩ := hpo; subst he; have HQ := Lib.hid (And.intro hqu hqv); clear hqu hqv; clear hbO)))
          all_goals (refine hK' _ _ (Met.intro (hJ _ _ ?_)); (repeat apply Exists.intro); refine ⟨?_, rfl⟩; exact ⟨by rw [HO.out.1]; exact ⟨_, _, rfl, HQ.out.1, HQ.out.2⟩, BO.out⟩)
        -- B8
      case rest =>
        obtain ⟨hpost, hbC⟩ := hcut
        have hs1 := I.below.size
        have hs2 := hbL.size
        have hs3 := hbC.size
        have BL := (I.below.trans (hbL.mono hs1)).trans (hbC.mono (by omega))
        have eT := I.eq
        rw [show c + 1 - j = (c - j) + 1 by omega] at eT
        have eS := sstep_eq (rest := rest) h1 h6 I.hyl hjc
        rw [hel] at eS
        have C6 := (I.c6.below hbL).below hbC
        rcases hO : hyperF ((lineP xs c j).getD j none) (rest.getD j none) with _ | ⟨cc, ss⟩
        · rw [hO] at hpost eS
          have hp : Ending.returned (.tuple #[u10, u11, u12]) = .returned (.tuple #[.float .f64 0, .float .f64 0, .bool false]) := hpost
          simp only [Ending.returned.injEq, Value.tuple.injEq, Array.mk.injEq, List.cons.injEq, and_true] at hp
          obtain ⟨rfl, rfl, rfl⟩ := hp
          have eN : sfrom c (c + 1) 0 (xs, ls) = none := by
            rw [← eT]
            unfold sfrom
            rw [eS]
          have EN := Lib.hid eN
          obtain ⟨d60, d61, d62, d63, g60, g61, g62, g63⟩ := C6
          have q1 := (HLD.out.below BL).g1
          clear eN eT hO eS
          go_wp2
          go_region
          go_wp2
          have P6 := ((I.c6.below hbL).below hbC).put (.int .i64 0) (.slice none 0 0) (.int .i64 0) (.int .i64 0)
          refine bodyPost_ret (v := .tuple #[facZ, (ErrD.shed (j : Int)).val a0 a1 a2]) (by simp [results, Tryz.results34, go_sem, P6.c0, P6.c1, P6.c2, P6.c3, facZ, ErrD.val]) rfl ⟨by rw [EN.out]; exact facErr_no _ _ _ _ _ _ rfl _, ?_⟩
          exact ((((BL.setCell (p := ⟨w.heap.size + 1, 0, none⟩) (by simp) _).setCell (p := ⟨w.heap.size + 1, 1, none⟩) (by simp) _).setCell (p := ⟨w.heap.size + 1, 2, none⟩) (by simp) _).setCell (p := ⟨w.heap.size + 1, 3, none⟩) (by simp) _).drew
        · rw [hO] at hpost eS
          obtain ⟨qu, qv, hp, hqu, hqv⟩ := hpost
          simp only [Ending.returned.injEq, Value.tuple.injEq, Array.mk.injEq, List.cons.injEq, and_true] at hp
          obtain ⟨rfl, rfl, rfl⟩ := hp
          -- A9
          have OWc := OWL.out.below hbC (Nat.le_refl _)
          have OLc := OL.out.below hbC (Nat.le_refl _)
          obtain ⟨x1, hx1, hfx1⟩ := OWc.cell (lineP_len h1 h6 HX.out hjc) (j := j) (by omega)
          have fx1 := OWc.frozen (lineP_len h1 h6 HX.out hjc) j
          have HOW := Lib.hid (And.intro OWc OLc)
          have HX1 := Lib.hid hfx1
          have HF := Lib.hid (And.intro hqu hqv)
          have HO := Lib.hid hO
          have ET := Lib.hid (And.intro eT eS)
          have HC6 := Lib.hid C6
          have HC3 := Lib.hid ((I.c3.below hbL).below hbC)
          have HBL := Lib.hid BL
          have HI := Lib.hid I
          have rwL := I.rows.below hbL
          have rwC := rwL.below hbC
          have hold : ∀ i g cap', i < j → i < c + 1 → wc.cell? ⟨qb, i, none⟩ = some (.slice (some ⟨g, 0, none⟩) (c + 1) cap') → gb ≠ g := fun i g cap' hij hi e => by
            obtain ⟨_, _, r⟩ := I.rows i hi
            obtain ⟨g', cap'', r1, _, _, r4⟩ := r hij
            have r5 := (hbC.cell (p := ⟨qb, i, none⟩) (Nat.lt_of_lt_of_le (cell_lt r1) hs2)).trans ((hbL.cell (p := ⟨qb, i, none⟩) (cell_lt r1)).trans r1)
            rw [e] at r5
            simp only [Option.some.injEq, Value.slice.injEq, Addr.mk.injEq, and_true, true_and] at r5
            omega
          have hqw : qb < wr.heap.size := by
            obtain ⟨⟨u, u1, _⟩, _⟩ := I.rows j (by omega)
            exact cell_lt u1
          have HRW := Lib.hid (And.intro rwC hold)
          clear hO eT eS C6 hqu hqv BL I hfx1 OWc OLc rwL rwC hold hel
          go_wp2
          have hqz := opw_mul wc HF.out.1 HX1.out
          generalize opw (double.mul qu x1) qu x1 wc = qz at *
          generalize opd (double.mul qu x1) = dz at *
          have HZ := Lib.hid hqz
          clear hqz
          obtain ⟨r, hr⟩ : ∃ r, r = fmul cc ((lineP xs c j).getD j none) := ⟨_, rfl⟩
          have hgbr : rb < gb := by omega
          have hqg : qb < gb := by omega
          have U0 : UInv w gb gcap rb rcap qb c rws trn xs ys j tb tf cap (wc.setCell ⟨gb, j, none⟩ (.float .f64 qz)) (gturnTo (downP cc ss) (downX cc ss) j 0 ((lineP xs c j).set j r, rest)) := by
            refine ⟨HC3.out.set (by omega), HC6.out.set (by omega), (((HI.out.row.below hbL).below hbC).setOther (by omega)), ((HOW.out.1.set (lineP_len h1 h6 HX.out hjc) j (by rw [hr]; exact HZ.out)).mono (by omega)), HOW.out.2.setOther (by omega), HRW.out.1.set (by omega) (fun i g cap' hij hi e => HRW.out.2 i g cap' hij hi e), fun i g cap' hij hi e => HRW.out.2 i g cap' hij hi (cell_set_back e (by omega)), ?_, HI.out.hrl, HBL.out.setCell (p := ⟨gb, j, none⟩) (show w.heap.size ≤ gb by omega) _⟩
            simp only [gturnTo, List.length_set]; exact lineP_len h1 h6 HX.out hjc
          have HU0 := Lib.hid (U0.keep (below_drewN (Below.refl _ _) dz))
          have HRR := Lib.hid hr
          clear U0 hr
          obtain ⟨wo, hwo⟩ : ∃ wo : World, wo = wr := ⟨_, rfl⟩
          go_loopw [13] (fun s15 W => ∃ n k : Nat, s15 = .int .i64 (k : Int) ∧ k = j + 1 + n ∧ n ≤ c - j ∧ UInv w gb gcap rb rcap qb c rws trn xs ys j tb tf cap W (gturnTo (downP cc ss) (downX cc ss) j n ((lineP xs c j).set j r, rest))) (fun s15 _ => c + 1 - (intOf s15).toNat)
          case atStart => exact ⟨0, j + 1, by go_num, rfl, Nat.zero_le _, HU0.out⟩
          case round =>
            obtain ⟨n, k, rfl, hk, hn, BV⟩ := hrel
            by_cases hnl : n < c - j
            · obtain ⟨x2, hx2, fx2⟩ := BV.own1.cell BV.l1 (j := k) (by omega)
              obtain ⟨y2, hy2, fy2⟩ := BV.own2.cell BV.l2 (j := k) (by omega)
              have fz1 := BV.own1.frozen BV.l1 k
              have fz2 := BV.own2.frozen BV.l2 k
              have FXY := Lib.hid (And.intro fx2 fy2)
              have HBV := Lib.hid BV
              have HK := Lib.hid hk
              have hkk : (k : Int) < (c : Int) + 1 := by omega
              clear fx2 fy2 BV hx hy hx1 fx1 hk
              have lg : gb < wr.heap.size := cell_lt hx2
              have lr : rb < wr.heap.size := cell_lt hy2
              go_wp2
              -- A15
              go_region_with (go_at_call 66; go_must (refine (Down_calls qu qv x2 y2 _ HF.out.1 HF.out.2 FXY.out.1 FXY.out.2).mono ?_; rintro e wT ⟨tu, tv, rfl, htu, htv, hbT⟩; have r1 := (hbT.cell (p := ⟨gb, k, none⟩) lg).trans hx2; have r2 := (hbT.cell (p := ⟨rb, k, none⟩) lr).trans hy2; have r3 := (hbT.frozen (p := ⟨gb, k, none⟩) lg).trans fz1; have r4 := (hbT.frozen (p := ⟨rb, k, none⟩) lr).trans fz2))
              all_goals
                go_wp2
                go_roundw
                case rel =>
                  have hk := HK.out
                  subst hk
                  exact ⟨n + 1, j + 1 + n + 1, by go_num, by omega, by omega, HBV.out.turn ((below_drewN (Below.refl _ _) 1).trans hbT) htu htv (by omega) (by omega) (by omega) (by omega)⟩
                case measure => simp [intOf]; omega
              -- B15
            · obtain rfl : n = c - j := by omega
              obtain rfl : k = c + 1 := by omega
              clear hk hn hnl
              have HBV := Lib.hid BV
              obtain ⟨⟨u0, u1, u2⟩, u3, _⟩ := BV.rows j (by omega)
              have eL : sfrom c (c + 1 - (j + 1)) (j + 1) (setP ys c j (gturnTo (downP cc ss) (downX cc ss) j (c - j) ((lineP xs c j).set j r, rest)).1, (gturnTo (downP cc ss) (downX cc ss) j (c - j) ((lineP xs c j).set j r, rest)).2) = sfrom c (c + 1) 0 (xs, ls) := by
                rw [← ET.out.1, show c + 1 - (j + 1) = c - j by omega]
                show _ = (match sstep c j (ys, rest) with | none => none | some st' => sfrom c (c - j) (j + 1) st')
                rw [ET.out.2, HRR.out]
              have hzz : ∀ i, i < j → (gturnTo (downP cc ss) (downX cc ss) j (c - j) ((lineP xs c j).set j r, rest)).1.getD i none = some 0 := fun i hij => by
                rw [gturnTo_head _ _ _ _ _ (by omega)]
                dsimp only
                rw [getD_set, if_neg (by omega), getD_lineP hjc _ (by omega), if_pos hij]
              have EL := Lib.hid eL
              have EZ := Lib.hid hzz
              clear BV eL hx hy hx1 fx1 hzz
              go_wp2
              have hyl := HI.out.hyl
              have hag := HI.out.agree
              have hlg : gb < wr.heap.size := by obtain ⟨cur, hcur⟩ := HBV.out.own1.block; exact (Array.getElem?_eq_some_iff.1 hcur).1
              have nx := RowsAt.next h1 h6 hyl hjc HBV.out.l1 EZ.out HBV.out.rows HBV.out.own1 hqg hlg
              refine ⟨⟨j + 1, _, _, by go_num, by omega, ⟨HBV.out.c3.set (by omega), HBV.out.c6.set (by omega), HBV.out.row.setOther (by omega), HBV.out.own2.setOther (by omega), nx, setP_len h1 h6 hyl hjc HBV.out.l1, HBV.out.l2, fun k hk => ?_, EL.out, HBV.out.below.setCell (p := ⟨qb, j, none⟩) (show w.heap.size ≤ qb by omega) _⟩⟩, by simp [intOf]; omega⟩
              have ho : offs c (j + 1) = offs c j + (c + 1 - j) := rfl
              rw [getD_setP h1 h6 hyl hjc HBV.out.l1, if_neg (by omega)]
              exact hag k (by omega)
          -- B9
    · have hle : ¬ (j : Int) < (c : Int) + 1 := by omega
      -- A2
      obtain rfl : j = c + 1 := by omega
      have eT := I.eq
      rw [show c + 1 - (c + 1) = 0 by omega] at eT
      have eY : sfrom c (c + 1) 0 (xs, ls) = some ys := eT.symm
      have V0 : VInv w qb c rws trn xs ys wr 0 tb tf xs.length cap :=
        ⟨I.c3, I.c6, by rw [mix_zero]; exact I.row, by rw [mix_zero]; exact CH.out, I.rows, by omega, by omega, fun h => absurd h (Nat.lt_irrefl 0), I.below⟩
      have EY := Lib.hid (And.intro eY I.hyl)
      clear I eT eY
      go_wp2
      obtain ⟨wo, hwo⟩ : ∃ wo : World, wo = wr := ⟨_, rfl⟩
      go_loopw [107] (fun s9 W => ∃ (k tb' tf' n' cap' : Nat), s9 = .int .i64 (k : Int) ∧ k ≤ c + 1 ∧ VInv w qb c rws trn xs ys W k tb' tf' n' cap') (fun s9 _ => c + 1 - (intOf s9).toNat)
      case atStart => exact ⟨0, tb, tf, xs.length, cap, by go_num, by omega, V0⟩
      case round =>
        obtain ⟨k, tb', tf', n', cap', rfl, hk, V⟩ := hrel
        obtain ⟨d30, d31, d32, d33, g30, g31, g32, g33⟩ := V.c3
        obtain ⟨d60, d61, d62, d63, g60, g61, g62, g63⟩ := V.c6
        have HV := Lib.hid V
        by_cases hkc : k ≤ c
        · have hkl : (k : Int) < (c : Int) + 1 := by omega
          obtain ⟨_, fq, r⟩ := V.rows k (by omega)
          obtain ⟨g, gc, r1, r2, r3, r4⟩ := r (by omega)
          have R2 := Lib.hid r2.row
          have hm := mix_len h1 h6 HX.out EY.out.2 (k := k) (by omega)
          have hs1 := V.below.size
          cases hck : checkP (c : Int) (mixP xs ys c (k + 1)) rws trn
          · have CK : checkP (c : Int) (setP (mixP xs ys c k) c k (lineP ys c k)) rws trn = false := by rw [mix_step h1 h6 HX.out EY.out.2 hkc]; exact hck
            have hno := mix_bad h1 h6 HX.out EY.out.2 hkc V.chk hck
            have eN : shedR c rws trn (sfrom c (c + 1) 0 (xs, ls)) = (fac0, 2) := by
              rw [EY.out.1]
              show (if checkP (c : Int) ys rws trn = true then _ else (fac0, 2)) = (fac0, 2)
              rw [hno]; rfl
            have EN := Lib.hid eN
            have CKH := Lib.hid CK
            have HM := Lib.hid hm
            have hg20 : 2 < w.heap.size := cell_lt HLD.out.g2
            have hn20 : 2 ≠ w.heap.size := by omega
            have hn02 : w.heap.size ≠ 2 := by omega
            have hne0 : w.heap.size ≠ w.heap.size + 1 := by omega
            clear eN CK hck hno V r r2 hm
            go_wp2_with (go_at_call 62; refine (set_f c k rws trn _ _ _ cap' gc (mixP xs ys c k) (lineP ys c k) _ HV.out.row R2.out HV.out.chk h1 h6 hkc HM.out CKH.out).mono ?_; rintro e wS ⟨rfl, hbS⟩; obtain ⟨e30, e31, e32, e33, h30, h31, h32, h33⟩ := HV.out.c3.below hbS; obtain ⟨e60, e61, e62, e63, h60, h61, h62, h63⟩ := HV.out.c6.below hbS; have q2 := ((HLD.out.below HV.out.below).below hbS).g2; have lg2 := cell_lt ((HLD.out.below HV.out.below).g2))
            go_region
            go_wp2
            have P6 := (((((HV.out.c6.below hbS).set (o := 0) (v := .int .i64 0) hne0).set (o := 1) (v := .slice none 0 0) hne0).set (o := 2) (v := .int .i64 0) hne0).set (o := 3) (v := .int .i64 0) hne0).put (.int .i64 0) (.slice none 0 0) (.int .i64 0) (.int .i64 0)
            have BS := HV.out.below.trans (hbS.mono hs1)
            refine bodyPost_ret (v := .tuple #[facZ, (ErrD.rng (k : Int)).val a0 a1 a2]) (by simp [results, Tryz.results34, go_sem, P6.c0, P6.c1, P6.c2, P6.c3, facZ, ErrD.val]) rfl ⟨by rw [EN.out]; exact facErr_no _ _ _ _ _ _ rfl _, ?_⟩
            exact ((((((((BS.setCell (p := ⟨w.heap.size, 0, none⟩) (Nat.le_refl _) _).setCell (p := ⟨w.heap.size, 1, none⟩) (Nat.le_refl _) _).setCell (p := ⟨w.heap.size, 2, none⟩) (Nat.le_refl _) _).setCell (p := ⟨w.heap.size, 3, none⟩) (Nat.le_refl _) _).setCell (p := ⟨w.heap.size + 1, 0, none⟩) (by simp) _).setCell (p := ⟨w.heap.size + 1, 1, none⟩) (by simp) _).setCell (p := ⟨w.heap.size + 1, 2, none⟩) (by simp) _).setCell (p := ⟨w.heap.size + 1, 3, none⟩) (by simp) _).drew
          · have CK : checkP (c : Int) (setP (mixP xs ys c k) c k (lineP ys c k)) rws trn = true := by rw [mix_step h1 h6 HX.out EY.out.2 hkc]; exact hck
            have CKH := Lib.hid (And.intro CK hck)
            have HM := Lib.hid hm
            clear CK hck V r r2 hm
            go_wp2_with (go_at_call 62; refine (set_t c k rws trn _ _ _ cap' gc (mixP xs ys c k) (lineP ys c k) _ HV.out.row R2.out HV.out.chk h1 h6 hkc HM.out CKH.out.1).mono ?_; rintro e wS ⟨⟨vS, rfl, hoS⟩, hbS⟩; obtain ⟨gs, scap, hvS, hgs1, hgs2, _, _⟩ := hoS.shape (by rw [setP_len h1 h6 HM.out hkc (lineP_len h1 h6 EY.out.2 hkc)]; omega); subst hvS; obtain ⟨e30, e31, e32, e33, h30, h31, h32, h33⟩ := HV.out.c3.below hbS; obtain ⟨e60, e61, e62, e63, h60, h61, h62, h63⟩ := HV.out.c6.below hbS)
            have hne0 : w.heap.size ≠ w.heap.size + 1 := by omega
            have hgs0 : w.heap.size ≠ gs := by omega
            have h6w := V0.c6.lt
            have BS := HV.out.below.trans (hbS.mono hs1)
            have hso := mix_step h1 h6 HX.out EY.out.2 hkc
            have hro : RowsAt wS w.heap.size qb c ys (c + 1) := HV.out.rows.below hbS
            refine ⟨⟨k + 1, gs, 0, (setP (mixP xs ys c k) c k (lineP ys c k)).length, scap, by go_num, by omega, ?_⟩, by simp [intOf]; omega⟩
            refine ⟨(HV.out.c3.below hbS).put _ _ _ _, ((((HV.out.c6.below hbS).set hne0).set hne0).set hne0).set hne0, ?_, CKH.out.2, (((hro.set_low (by omega)).set_low (by omega)).set_low (by omega)).set_low (by omega), by omega, by have := HV.out.c6.lt; omega, fun _ => by omega, ?_⟩
            · rw [← hso]
              exact ((((hoS.setOther hgs0).setOther hgs0).setOther hgs0).setOther hgs0).row
            · exact (((BS.setCell (p := ⟨w.heap.size, 0, none⟩) (Nat.le_refl _) _).setCell (p := ⟨w.heap.size, 1, none⟩) (Nat.le_refl _) _).setCell (p := ⟨w.heap.size, 2, none⟩) (Nat.le_refl _) _).setCell (p := ⟨w.heap.size, 3, none⟩) (Nat.le_refl _) _
        · have hkl : ¬ (k : Int) < (c : Int) + 1 := by omega
          obtain rfl : k = c + 1 := by omega
          have hma := mix_all h1 h6 HX.out EY.out.2
          have eN : shedR c rws trn (sfrom c (c + 1) 0 (xs, ls)) = (⟨(c : Int), ys, rws, trn⟩, 0) := by
            have hck := V.chk
            rw [hma] at hck
            rw [EY.out.1]
            show (if checkP (c : Int) ys rws trn = true then (⟨(c : Int), ys, rws, trn⟩, 0) else (fac0, 2)) = _
            rw [hck]; rfl
          have EN := Lib.hid (And.intro eN hma)
          clear V eN hma
          go_wp2
          have P6 := HV.out.c6.put (.int .i64 (c : Int)) (.slice (some ⟨tb', tf', none⟩) n' cap') (.int .i64 rws) (.int .i64 trn)
          have hn6 := HV.out.n6.symm
          refine bodyPost_ret (v := .tuple #[.agg #[.int .i64 (c : Int), .slice (some ⟨tb', tf', none⟩) n' cap', .int .i64 rws, .int .i64 trn], ErrD.ok.val a0 a1 a2]) (by simp [results, Tryz.results34, go_sem, P6.c0, P6.c1, P6.c2, P6.c3, ErrD.val]) rfl ⟨?_, ?_⟩
          · rw [EN.out.1]
            refine ⟨.ok, _, _, _, rfl, rfl, ?_, fun p hp => by cases hp; exact HV.out.nB (by omega)⟩
            have hro := HV.out.row
            rw [EN.out.2] at hro
            exact (((hro.setOther hn6).setOther hn6).setOther hn6).setOther hn6
          · exact (((HV.out.below.setCell (p := ⟨w.heap.size + 1, 0, none⟩) (by simp) _).setCell (p := ⟨w.heap.size + 1, 1, none⟩) (by simp) _).setCell (p := ⟨w.heap.size + 1, 2, none⟩) (by simp) _).setCell (p := ⟨w.heap.size + 1, 3, none⟩) (by simp) _
      -- B2
end Go.Proofs.YtmmligbkecilfaaGreatDoor
namespace Go.Proofs.YtmmligbkecilfaaGreatDoor
open Go.RowKit Lv Go.Shelf
open Ieee (double Format Datum Toward)

set_option maxRecDepth 100000 in
theorem take_no (cols rws trn : Int) (a b : Option Addr) (n cap m d : Nat) (xs : List (Option Nat)) (w : World) (a0 a1 a2 : Addr) (LD : Laid w a0 a1 a2) (h : Row w (.slice a n cap) xs)
    (hno : ¬ (checkP cols xs rws trn = true ∧ (m : Int) = cols + 1)) :
    Calls Tryz.prog 34 #[.agg #[.int .i64 cols, .slice a n cap, .int .i64 rws, .int .i64 trn], .slice b m d] w fun e w' => FacErr w.heap.size a0 a1 a2 (fac0, 1) e w' ∧ Below w.heap.size w w' := by
  have hr := (h.alloc (.cells #[.int .i64 cols, .slice a n cap, .int .i64 rws, .int .i64 trn] 24)).alloc (.cells #[.int .i64 0, .slice none 0 0, .int .i64 0, .int .i64 0] 24)
  have L := Lib.hid (check_calls cols rws trn a n cap xs _ hr)
  have HLD := Lib.hid LD
  have W6 : Hid (Cells4 ((w.alloc (.cells #[.int .i64 cols, .slice a n cap, .int .i64 rws, .int .i64 trn] 24)).alloc (.cells #[.int .i64 0, .slice none 0 0, .int .i64 0, .int .i64 0] 24)) (w.heap.size + 1) (.int .i64 0) (.slice none 0 0) (.int .i64 0) (.int .i64 0)) := by
    constructor <;> simp [go_sem]
  have W3 : Hid (Cells4 ((w.alloc (.cells #[.int .i64 cols, .slice a n cap, .int .i64 rws, .int .i64 trn] 24)).alloc (.cells #[.int .i64 0, .slice none 0 0, .int .i64 0, .int .i64 0] 24)) w.heap.size (.int .i64 cols) (.slice a n cap) (.int .i64 rws) (.int .i64 trn)) := by
    constructor <;> simp [go_sem]
  cases hc : checkP cols xs rws trn
  · rw [hc] at L
    clear h hr hno hc LD
    go_enter Tryz.func34, Tryz.ntmps34
    go_wp2_with (first | (go_at_call 29; refine L.out.mono ?_; rintro e w1 ⟨rfl, hb⟩; have C6 := W6.out.below hb; obtain ⟨c60, c61, c62, c63, f60, f61, f62, f63⟩ := C6; have HB := Lib.hid ((((Below.refl w.heap.size w).alloc (Nat.le_refl _) (.cells #[.int .i64 cols, .slice a n cap, .int .i64 rws, .int .i64 trn] 24)).alloc (by simp) (.cells #[.int .i64 0, .slice none 0 0, .int .i64 0, .int .i64 0] 24)).trans (hb.mono (by simp; omega))); have q0 := (HLD.out.below HB.out).g0))
    go_region
    go_wp2
    have P6 := (W6.out.below hb).put (.int .i64 0) (.slice none 0 0) (.int .i64 0) (.int .i64 0)
    refine bodyPost_ret (v := .tuple #[facZ, ErrD.arg.val a0 a1 a2]) (by simp [results, Tryz.results34, go_sem, P6.c0, P6.c1, P6.c2, P6.c3, facZ, ErrD.val]) rfl ⟨facErr_no _ _ _ _ _ _ rfl _, ?_⟩
    exact ((((HB.out.setCell (p := ⟨w.heap.size + 1, 0, none⟩) (by simp) _).setCell (p := ⟨w.heap.size + 1, 1, none⟩) (by simp) _).setCell (p := ⟨w.heap.size + 1, 2, none⟩) (by simp) _).setCell (p := ⟨w.heap.size + 1, 3, none⟩) (by simp) _).drew
  · obtain ⟨hc1, hc6⟩ := checkP_cols hc
    have hne : ((m : Int) != cols + 1) = true := by
      simp only [bne_iff_ne, ne_eq]
      intro e
      exact hno ⟨hc, e⟩
    rw [hc] at L
    clear h hr hno hc LD
    go_enter Tryz.func34, Tryz.ntmps34
    go_wp2_with (first | (go_at_call 29; refine L.out.mono ?_; rintro e w1 ⟨rfl, hb⟩; have C6 := W6.out.below hb; obtain ⟨c60, c61, c62, c63, f60, f61, f62, f63⟩ := C6; have hz := hb.size; simp at hz; have hz1 : w.heap.size < w1.heap.size := (by omega); have C3 := W3.out.below hb; obtain ⟨c30, c31, c32, c33, f30, f31, f32, f33⟩ := C3; have HB := Lib.hid ((((Below.refl w.heap.size w).alloc (Nat.le_refl _) (.cells #[.int .i64 cols, .slice a n cap, .int .i64 rws, .int .i64 trn] 24)).alloc (by simp) (.cells #[.int .i64 0, .slice none 0 0, .int .i64 0, .int .i64 0] 24)).trans (hb.mono (by simp; omega))); have q0 := (HLD.out.below HB.out).g0))
    go_region
    go_wp2
    have P6 := (W6.out.below hb).put (.int .i64 0) (.slice none 0 0) (.int .i64 0) (.int .i64 0)
    refine bodyPost_ret (v := .tuple #[facZ, ErrD.arg.val a0 a1 a2]) (by simp [results, Tryz.results34, go_sem, P6.c0, P6.c1, P6.c2, P6.c3, facZ, ErrD.val]) rfl ⟨facErr_no _ _ _ _ _ _ rfl _, ?_⟩
    exact ((((HB.out.setCell (p := ⟨w.heap.size + 1, 0, none⟩) (by simp) _).setCell (p := ⟨w.heap.size + 1, 1, none⟩) (by simp) _).setCell (p := ⟨w.heap.size + 1, 2, none⟩) (by simp) _).setCell (p := ⟨w.heap.size + 1, 3, none⟩) (by simp) _).drew

theorem shedD_yes {c : Nat} {xs ls : List (Option Nat)} {rws trn : Int} (h : checkP (c : Int) xs rws trn = true) (hl : ls.length = c + 1) : shedD ⟨(c : Int), xs, rws, trn⟩ ls = shedR c rws trn (sfrom c (c + 1) 0 (xs, ls)) := by
  unfold shedD
  rw [if_pos ⟨h, by dsimp only; omega⟩]
  dsimp only
  rw [Int.toNat_natCast]
  cases sfrom c (c + 1) 0 (xs, ls) <;> rfl
theorem take_calls (F : FacD) (a b : Option Addr) (n cap m d : Nat) (ls : List (Option Nat)) (w : World) (a0 a1 a2 : Addr) (LD : Laid w a0 a1 a2) (h : Row w (.slice a n cap) F.xs) (hl : Row w (.slice b m d) ls) :
    Calls Tryz.prog 34 #[.agg #[.int .i64 F.cols, .slice a n cap, .int .i64 F.rws, .int .i64 F.trn], .slice b m d] w fun e w' => FacErr w.heap.size a0 a1 a2 (shedD F ls) e w' ∧ Below w.heap.size w w' := by
  obtain ⟨cols, xs, rws, trn⟩ := F
  have hm := hl.len
  replace h : Row w (.slice a n cap) xs := h
  by_cases hc : checkP cols xs rws trn = true ∧ (m : Int) = cols + 1
  · obtain ⟨hck, h2⟩ := hc
    obtain ⟨hc1, hc6⟩ := checkP_cols hck
    obtain ⟨c, rfl⟩ := Int.eq_ofNat_of_zero_le (show 0 ≤ cols by omega)
    obtain rfl : m = c + 1 := by omega
    have hxl := checkP_len hck
    have hsz := tsz_bounds (c := c) (by omega) (by omega)
    have hn : xs.length = n := h.len
    obtain ⟨tb, tf, rfl, htb, _⟩ := h.shape (by omega)
    subst hn
    rw [shedD_yes hck hm]
    exact take_yes c rws trn tb tf cap b d xs ls w a0 a1 a2 LD h hl hck (by omega) (by omega) hxl htb
  · have e : shedD ⟨cols, xs, rws, trn⟩ ls = (fac0, 1) := by
      unfold shedD
      rw [if_neg (by rw [hm]; exact hc)]
    rw [e]
    exact take_no cols rws trn a b n cap m d xs w a0 a1 a2 LD h hc
set_option maxRecDepth 100000 in
theorem sLine_calls (F : FacD) (a b : Option Addr) (n cap m d : Nat) (ls : List (Option Nat)) (w : World) (a0 a1 a2 : Addr) (LD : Laid w a0 a1 a2) (h : Row w (.slice a n cap) F.xs) (hl : Row w (.slice b m d) ls) :
    Calls Tryz.prog 14 #[.agg #[.int .i64 F.cols, .slice a n cap, .int .i64 F.rws, .int .i64 F.trn], .slice b m d] w fun e w' => FacE (shedD F ls) e w' ∧ Below w.heap.size w w' := by
  have HH := Lib.hid (And.intro h (And.intro hl LD))
  generalize hR : shedD F ls = R
  have HR := Lib.hid hR
  have W6 : Hid (Cells4 ((w.alloc (.cells #[.int .i64 F.cols, .slice a n cap, .int .i64 F.rws, .int .i64 F.trn] 24)).alloc (.cells #[.int .i64 0, .slice none 0 0, .int .i64 0, .int .i64 0] 24)) (w.heap.size + 1) (.int .i64 0) (.slice none 0 0) (.int .i64 0) (.int .i64 0)) := by
    constructor <;> simp [go_sem]
  have W3 : Hid (Cells4 ((w.alloc (.cells #[.int .i64 F.cols, .slice a n cap, .int .i64 F.rws, .int .i64 F.trn] 24)).alloc (.cells #[.int .i64 0, .slice none 0 0, .int .i64 0, .int .i64 0] 24)) w.heap.size (.int .i64 F.cols) (.slice a n cap) (.int .i64 F.rws) (.int .i64 F.trn)) := by
    constructor <;> simp [go_sem]
  clear h hl LD hR
  go_enter Tryz.func14, Tryz.ntmps14
  go_wp2_with (first
    | (go_at_call 34; go_must (refine (take_calls F a b n cap m d ls _ a0 a1 a2 (HH.out.2.2.below (((Below.refl w.heap.size w).alloc (Nat.le_refl _) _).alloc (by simp) _)) ((HH.out.1.alloc _).alloc _) ((HH.out.2.1.alloc _).alloc _)).mono ?_; rw [HR.out]; rintro e w1 ⟨⟨E, a', n', cap', rfl, hE, hrow, hfar⟩, hb⟩; have C3 := (W3.out.below hb); obtain ⟨c30, c31, c32, c33, f30, f31, f32, f33⟩ := C3; have C6 := (W6.out.below hb); obtain ⟨c60, c61, c62, c63, f60, f61, f62, f63⟩ := C6)))
  have hsz := hb.size
  simp at hsz
  have C3s := (W3.out.below hb).put (.int .i64 R.1.cols) (.slice a' n' cap') (.int .i64 R.1.rws) (.int .i64 R.1.trn)
  have C6s := ((((W6.out.below hb).set (b' := w.heap.size) (o := 0) (v := .int .i64 R.1.cols) (by omega)).set (b' := w.heap.size) (o := 1) (v := .slice a' n' cap') (by omega)).set (b' := w.heap.size) (o := 2) (v := .int .i64 R.1.rws) (by omega)).set (b' := w.heap.size) (o := 3) (v := .int .i64 R.1.trn) (by omega)
  have HB := (((((((Below.refl w.heap.size w).alloc (Nat.le_refl _) (.cells #[.int .i64 F.cols, .slice a n cap, .int .i64 F.rws, .int .i64 F.trn] 24)).alloc (by simp) (.cells #[.int .i64 0, .slice none 0 0, .int .i64 0, .int .i64 0] 24)).trans (hb.mono (by simp; omega))).setCell (p := ⟨w.heap.size, 0, none⟩) (Nat.le_refl _) (.int .i64 R.1.cols)).setCell (p := ⟨w.heap.size, 1, none⟩) (Nat.le_refl _) (.slice a' n' cap')).setCell (p := ⟨w.heap.size, 2, none⟩) (Nat.le_refl _) (.int .i64 R.1.rws)).setCell (p := ⟨w.heap.size, 3, none⟩) (Nat.le_refl _) (.int .i64 R.1.trn)
  have HRW : Row ((((w1.setCell ⟨w.heap.size, 0, none⟩ (.int .i64 R.1.cols)).setCell ⟨w.heap.size, 1, none⟩ (.slice a' n' cap')).setCell ⟨w.heap.size, 2, none⟩ (.int .i64 R.1.rws)).setCell ⟨w.heap.size, 3, none⟩ (.int .i64 R.1.trn)) (.slice a' n' cap') R.1.xs := by
    have hne : ∀ p, a' = some p → w.heap.size ≠ p.block := fun p hp => by
      have := hfar p hp
      simp at this
      omega
    exact (((hrow.setAway hne).setAway hne).setAway hne).setAway hne
  have HEE := Lib.hid (And.intro hE (And.intro HRW hfar))
  clear c30 c31 c32 c33 f30 f31 f32 f33 c60 c61 c62 c63 f60 f61 f62 f63 W3 W6 hb hrow hE HRW hfar
  generalize ((((w1.setCell ⟨w.heap.size, 0, none⟩ (.int .i64 R.1.cols)).setCell ⟨w.heap.size, 1, none⟩ (.slice a' n' cap')).setCell ⟨w.heap.size, 2, none⟩ (.int .i64 R.1.rws)).setCell ⟨w.heap.size, 3, none⟩ (.int .i64 R.1.trn)) = ws at *
  obtain ⟨c30, c31, c32, c33, f30, f31, f32, f33⟩ := id C3s
  obtain ⟨c60, c61, c62, c63, f60, f61, f62, f63⟩ := id C6s
  have R1 := Lib.hid (fun W (hW : Below w.heap.size w W) => code_calls E a0 a1 a2 W (HH.out.2.2.below hW))
  have HB1 := Lib.hid HB
  have HC := Lib.hid (And.intro C3s C6s)
  have l3 := C3s.lt
  have l6 := C6s.lt
  clear HB C3s C6s
  go_region_with (go_at_call 35; go_must (refine (R1.out _ HB1.out.drew).mono ?_; rintro e w2 ⟨rfl, hb2⟩; have C3 := HC.out.1.below (((Below.refl _ _).drew).trans hb2); obtain ⟨p30, p31, p32, p33, q30, q31, q32, q33⟩ := C3; have C6 := HC.out.2.below (((Below.refl _ _).drew).trans hb2); obtain ⟨p60, p61, p62, p63, q60, q61, q62, q63⟩ := C6))
  all_goals
    go_wp2
    have P6 := (HC.out.2.below (((Below.refl _ _).drew).trans hb2)).put (.int .i64 R.1.cols) (.slice a' n' cap') (.int .i64 R.1.rws) (.int .i64 R.1.trn)
    have HB2 := (HB1.out.drew).trans (hb2.mono HB1.out.drew.size)
    have hne : ∀ p, a' = some p → w.heap.size + 1 ≠ p.block := fun p hp => by
      have := HEE.out.2.2 p hp
      simp at this
      omega
    have HR2 := HEE.out.2.1.below (((Below.refl _ _).drew).trans hb2)
    have hE := HEE.out.1
    refine bodyPost_ret (v := .tuple #[.agg #[.int .i64 R.1.cols, .slice a' n' cap', .int .i64 R.1.rws, .int .i64 R.1.trn], .int .i64 E.code]) (by simp [results, Tryz.results14, go_sem, P6.c0, P6.c1, P6.c2, P6.c3]) rfl ⟨⟨a', n', cap', by rw [hE], ?_⟩, ?_⟩
    · exact (((HR2.setAway hne).setAway hne).setAway hne).setAway hne
    · exact (((HB2.setCell (p := ⟨w.heap.size + 1, 0, none⟩) (by simp) _).setCell (p := ⟨w.heap.size + 1, 1, none⟩) (by simp) _).setCell (p := ⟨w.heap.size + 1, 2, none⟩) (by simp) _).setCell (p := ⟨w.heap.size + 1, 3, none⟩) (by simp) _
end Go.Proofs.YtmmligbkecilfaaGreatDoor
namespace Go.Proofs.YtmmligbkecilfaaGreatDoor
open Go.RowKit Lv Go.Shelf
open Ieee (double Format Datum Toward)
attribute [local go_sem] Oper.semAt_some run_store_float drewN_alloc drewN_setCell

theorem sout_calls (b : Nat) (hb : W64 b) (w : World) :
    Calls Tryz.prog 36 #[.float .f64 b] w fun e w' => e = .returned (.bool (outW b)) ∧ w = w' := by
  have E : Hid (outW b = !inW b) := rfl
  have I := Lib.hid (in_calls b hb)
  clear hb
  generalize outW b = ob at *
  generalize inW b = ib at *
  go_enter Tryz.func36, Tryz.ntmps36
  go_wp2_with (first | (go_at_call 58; refine (I.out _).mono ?_; rintro e w' ⟨rfl, rfl⟩))
  go_ret
  exact ⟨ret_bool E.out.symm, rfl⟩

theorem indexsout_calls (a : Option Addr) (n cap : Nat) (xs : List (Option Nat)) (w : World) (h : Row w (.slice a n cap) xs) :
    Calls Tryz.prog 57 #[.slice a n cap, .func (.func 36) #[] #[]] w fun e w' => (∃ n : Int, e = .returned (.int .i64 n) ∧ (decide (0 ≤ n) = xs.any outF)) ∧ w = w' := by
  obtain ⟨a', cap', hv, h1, h2, h3⟩ := h
  simp only [Value.slice.injEq] at hv
  obtain ⟨rfl, hn, rfl⟩ := hv
  rw [← hn] at h1 h3
  have HN := Lib.hid hn.symm
  clear hn
  unfold maxLen at h2
  go_enter Tryz.func57, Tryz.ntmps57
  go_wp2
  go_loop [8] (fun i => ∃ k : Nat, k ≤ n ∧ i = .int .i64 (k : Int) ∧ Hid ((xs.take k).any outF = false)) (fun i => n - (intOf i).toNat)
  case atStart => exact ⟨0, Nat.zero_le _, rfl, rfl⟩
  case round =>
    obtain ⟨k, hk, rfl, hrel⟩ := hrel
    by_cases hlt : k < n
    · rcases h3 with ⟨h0, _⟩ | ⟨blk, off, rfl, hc⟩
      · omega
      · obtain ⟨b, hb, hfw⟩ := hc k hlt
        have hst := Lib.hid (any_step (p := outF) (by rw [HN.out]; exact hlt) hrel.out)
        have hlf := Lib.hid (outW_F hfw)
        clear hc
        go_wp2_with (go_at_call 36; refine (sout_calls b hfw.1 _).mono ?_; rintro e w' ⟨rfl, rfl⟩)
        · go_ret
          have hb1 : outW b = true := by assumption
          exact ⟨⟨k, rfl, by rw [any_of_take (k := k + 1) (by rw [hst.out, ← hlf.out, hb1])]; simp⟩, rfl⟩
        · have hb1 : outW b = false := by assumption
          go_round
          case rel => exact ⟨k + 1, by omega, by go_num, by show _ = false; rw [hst.out, ← hlf.out, hb1]⟩
          case measure => simp [intOf]; omega
    · obtain rfl : k = n := by omega
      go_wp2
      go_ret
      exact ⟨⟨-1, rfl, by have := hrel.out; rw [List.take_of_length_le (by rw [HN.out]; exact Nat.le_refl _)] at this; rw [this]; rfl⟩, rfl⟩

theorem containssout_calls (a : Option Addr) (n cap : Nat) (xs : List (Option Nat)) (w : World) (h : Row w (.slice a n cap) xs) :
    Calls Tryz.prog 30 #[.slice a n cap, .func (.func 36) #[] #[]] w fun e w' => e = .returned (.bool (xs.any outF)) ∧ w = w' := by
  have L := Lib.hid (indexsout_calls a n cap xs w h)
  clear h
  go_enter Tryz.func30, Tryz.ntmps30
  go_wp2_with (go_at_call 57; refine L.out.mono ?_; rintro e w' ⟨⟨n, rfl, hn⟩, rfl⟩)
  go_ret
  exact ⟨rfl, rfl⟩

/-- what is wrong ahead of counting, and what leaves no room -/
def sEarlyD (F : FacD) (ls : List (Option Nat)) (Y : Option Nat) : Int :=
  if earlyD F ls Y ≠ 0 then earlyD F ls Y else if F.rws = 0 then 5 else if 4096 < F.trn + F.cols + 1 then 6 else 0
/-- a row taken out -/
def sRowD (F : FacD) (ls : List (Option Nat)) (Y : Option Nat) : FacD × Int :=
  if sEarlyD F ls Y ≠ 0 then (fac0, sEarlyD F ls Y)
  else if (shedD F (ls ++ [Y])).2 ≠ 0 then (fac0, (shedD F (ls ++ [Y])).2)
  else (⟨(shedD F (ls ++ [Y])).1.cols, (shedD F (ls ++ [Y])).1.xs, F.rws - 1, F.trn + (F.cols + 1)⟩, 0)
theorem sEarly_zero {F : FacD} {ls : List (Option Nat)} {Y : Option Nat} (h : sEarlyD F ls Y = 0) : earlyD F ls Y = 0 ∧ F.rws ≠ 0 ∧ ¬ 4096 < F.trn + F.cols + 1 := by
  unfold sEarlyD at h
  by_cases h1 : earlyD F ls Y = 0
  · rw [if_neg (by simpa using h1)] at h
    by_cases h2 : F.rws = 0
    · rw [if_pos h2] at h; cases h
    · rw [if_neg h2] at h
      by_cases h3 : 4096 < F.trn + F.cols + 1
      · rw [if_pos h3] at h; cases h
      · exact ⟨h1, h2, h3⟩
  · rw [if_pos h1] at h; exact absurd h h1
theorem shedD_keeps {F : FacD} {ls : List (Option Nat)} (h : (shedD F ls).2 = 0) : (shedD F ls).1.ok = true ∧ (shedD F ls).1.cols = F.cols ∧ (shedD F ls).1.rws = F.rws ∧ (shedD F ls).1.trn = F.trn ∧ F.ok = true := by
  unfold shedD at h ⊢
  by_cases hc : F.ok = true ∧ (ls.length : Int) = F.cols + 1
  · rw [if_pos hc] at h ⊢
    cases hT : sfrom F.cols.toNat (F.cols.toNat + 1) 0 (F.xs, ls) with
    | none => rw [hT] at h; cases h
    | some ys =>
      rw [hT] at h
      dsimp only at h ⊢
      cases hk : checkP F.cols ys F.rws F.trn
      · rw [hk] at h; cases h
      · rw [if_pos rfl]
        exact ⟨hk, rfl, rfl, rfl, hc.1⟩
  · rw [if_neg hc] at h
    cases h
theorem shedD_codes (F : FacD) (ls : List (Option Nat)) : 0 ≤ (shedD F ls).2 ∧ (shedD F ls).2 ≤ 8 := by
  unfold shedD
  split
  · split
    · exact ⟨by decide, by decide⟩
    · split
      · exact ⟨Int.le_refl 0, (by decide : (0 : Int) ≤ 8)⟩
      · exact ⟨by decide, by decide⟩
  · exact ⟨by decide, by decide⟩

set_option maxRecDepth 100000 in
set_option maxHeartbeats 2000000 in
theorem sEarly_calls (F : FacD) (a b : Option Addr) (n cap m d y : Nat) (ls : List (Option Nat)) {Y : Option Nat} (w : World) (h : Row w (.slice a n cap) F.xs) (hl : Row w (.slice b m d) ls) (hy : FW y Y) :
    Calls Tryz.prog 15 #[.agg #[.int .i64 F.cols, .slice a n cap, .int .i64 F.rws, .int .i64 F.trn], .agg #[.slice b m d, .float .f64 y]] w fun e w' => e = .returned (.int .i64 (sEarlyD F ls Y)) ∧ Below w.heap.size w w' := by
  have hB := ((Below.refl w.heap.size w).alloc (Nat.le_refl _) (.cells #[.int .i64 F.cols, .slice a n cap, .int .i64 F.rws, .int .i64 F.trn] 24)).alloc (by simp) (.cells #[.slice b m d, .float .f64 y] 27)
  have L := check_calls F.cols F.rws F.trn a n cap F.xs _ (h.below hB)
  have hm := hl.len
  by_cases h1 : F.ok = false
  · have e : sEarlyD F ls Y = 1 := by unfold sEarlyD earlyD; rw [if_pos h1]; rfl
    rw [show checkP F.cols F.xs F.rws F.trn = false from h1] at L
    have LH := Lib.hid L
    rw [e]
    obtain ⟨cols, xs, rws, trn⟩ := F
    clear h1 e L h hl hy hm
    go_enter Tryz.func15, Tryz.ntmps15
    go_wp2_with (first | (go_at_call 29; refine LH.out.mono ?_; rintro e w1 ⟨rfl, hb⟩))
    go_ret
    exact ⟨rfl, hB.trans (hb.mono (by simp; omega))⟩
  · have hok : F.ok = true := by simpa using h1
    rw [show checkP F.cols F.xs F.rws F.trn = true from hok] at L
    have LH := Lib.hid L
    obtain ⟨hc1, hc6⟩ := ok_cols hok
    obtain ⟨r0, r1, t0, t1⟩ := ok_rows hok
    have E0 : earlyD F ls Y = if (ls.length : Int) ≠ F.cols then 3 else if (ls.any outF || outF Y) = true then 2 else 0 := by
      unfold earlyD; rw [if_neg h1]
    by_cases h2 : (ls.length : Int) ≠ F.cols
    · have e : sEarlyD F ls Y = 3 := by unfold sEarlyD; rw [E0, if_pos h2]; rfl
      rw [e]
      rw [hm] at h2
      have hne : ((m : Int) != F.cols) = true := by simpa using h2
      obtain ⟨cols, xs, rws, trn⟩ := F
      clear h1 e E0 L h hl hy hm h2 hok
      dsimp only at *
      go_enter Tryz.func15, Tryz.ntmps15
      go_wp2_with (first | (go_at_call 29; refine LH.out.mono ?_; rintro e w1 ⟨rfl, hb⟩; obtain ⟨hq, hf⟩ := bcell hb; have hz := hb.size; simp at hz; have hz1 : w.heap.size < w1.heap.size := (by omega); have hz2 : w.heap.size + 1 < w1.heap.size := (by omega)))
      go_ret
      exact ⟨rfl, hB.trans (hb.mono (by simp; omega))⟩
    · have e : earlyD F ls Y = if (ls.any outF || outF Y) = true then 2 else 0 := by rw [E0, if_neg h2]
      have hmc : (m : Int) = F.cols := by rw [← hm]; simpa using h2
      have hne : ((m : Int) != F.cols) = false := by simpa using hmc
      have CO := Lib.hid (fun W => sout_calls y hy.1 W)
      rw [outW_F hy] at CO
      have CF : ∀ W, Below w.heap.size w W → Calls Tryz.prog 30 #[.slice b m d, .func (.func 36) #[] #[]] W fun e w' => e = .returned (.bool (ls.any outF)) ∧ W = w' := fun W hW => containssout_calls b m d ls W (hl.below hW)
      have HB := Lib.hid hB
      have E1 : Hid (sEarlyD F ls Y = if (ls.any outF || outF Y) = true then 2 else if F.rws = 0 then 5 else if 4096 < F.trn + F.cols + 1 then 6 else 0) := by
        unfold Hid sEarlyD
        rw [e]
        cases (ls.any outF || outF Y) <;> rfl
      generalize sEarlyD F ls Y = res at *
      generalize ls.any outF = u at *
      generalize outF Y = v at *
      obtain ⟨cols, xs, rws, trn⟩ := F
      have CF := Lib.hid CF
      clear h1 e E0 L h hl hy hm h2 hok hmc hB
      dsimp only at *
      have hB := HB
      clear HB
      cases u
      · cases v
        · by_cases hr : rws = 0
          · have hr2 : (rws == 0) = true := by simpa using hr
            have HR : Hid (res = 5) := by unfold Hid; rw [E1.out, if_neg (by decide), if_pos hr]
            clear E1 hr
            go_enter Tryz.func15, Tryz.ntmps15
            go_wp2_with (first | (go_at_call 29; refine LH.out.mono ?_; rintro e w1 ⟨rfl, hb⟩; obtain ⟨hq, hf⟩ := bcell hb; have hz := hb.size; simp at hz; have hz1 : w.heap.size < w1.heap.size := (by omega); have hz2 : w.heap.size + 1 < w1.heap.size := (by omega); have hC := Lib.hid (hB.out.trans (hb.mono (by simp; omega)))) | (go_at_call 30; refine (CF.out _ hC.out).mono ?_; rintro e w2 ⟨rfl, rfl⟩) | (go_at_call 36; refine (CO.out _).mono ?_; rintro e w3 ⟨rfl, rfl⟩))
            go_ret
            exact ⟨by rw [HR.out]; rfl, hC.out⟩
          · have hr2 : (rws == 0) = false := by simpa using hr
            by_cases ht : 4096 < trn + cols + 1
            · have HR : Hid (res = 6) := by unfold Hid; rw [E1.out, if_neg (by decide), if_neg hr, if_pos ht]
              clear E1
              go_enter Tryz.func15, Tryz.ntmps15
              go_wp2_with (first | (go_at_call 29; refine LH.out.mono ?_; rintro e w1 ⟨rfl, hb⟩; obtain ⟨hq, hf⟩ := bcell hb; have hz := hb.size; simp at hz; have hz1 : w.heap.size < w1.heap.size := (by omega); have hz2 : w.heap.size + 1 < w1.heap.size := (by omega); have hC := Lib.hid (hB.out.trans (hb.mono (by simp; omega)))) | (go_at_call 30; refine (CF.out _ hC.out).mono ?_; rintro e w2 ⟨rfl, rfl⟩) | (go_at_call 36; refine (CO.out _).mono ?_; rintro e w3 ⟨rfl, rfl⟩))
              go_ret
              exact ⟨by rw [HR.out]; rfl, hC.out⟩
            · have HR : Hid (res = 0) := by unfold Hid; rw [E1.out, if_neg (by decide), if_neg hr, if_neg ht]
              clear E1
              go_enter Tryz.func15, Tryz.ntmps15
              go_wp2_with (first | (go_at_call 29; refine LH.out.mono ?_; rintro e w1 ⟨rfl, hb⟩; obtain ⟨hq, hf⟩ := bcell hb; have hz := hb.size; simp at hz; have hz1 : w.heap.size < w1.heap.size := (by omega); have hz2 : w.heap.size + 1 < w1.heap.size := (by omega); have hC := Lib.hid (hB.out.trans (hb.mono (by simp; omega)))) | (go_at_call 30; refine (CF.out _ hC.out).mono ?_; rintro e w2 ⟨rfl, rfl⟩) | (go_at_call 36; refine (CO.out _).mono ?_; rintro e w3 ⟨rfl, rfl⟩))
              go_ret
              exact ⟨by rw [HR.out]; rfl, hC.out⟩
        · have HR : Hid (res = 2) := by unfold Hid; rw [E1.out, if_pos (by decide)]
          clear E1
          go_enter Tryz.func15, Tryz.ntmps15
          go_wp2_with (first | (go_at_call 29; refine LH.out.mono ?_; rintro e w1 ⟨rfl, hb⟩; obtain ⟨hq, hf⟩ := bcell hb; have hz := hb.size; simp at hz; have hz1 : w.heap.size < w1.heap.size := (by omega); have hz2 : w.heap.size + 1 < w1.heap.size := (by omega); have hC := Lib.hid (hB.out.trans (hb.mono (by simp; omega)))) | (go_at_call 30; refine (CF.out _ hC.out).mono ?_; rintro e w2 ⟨rfl, rfl⟩) | (go_at_call 36; refine (CO.out _).mono ?_; rintro e w3 ⟨rfl, rfl⟩))
          go_ret
          exact ⟨by rw [HR.out]; rfl, hC.out⟩
      · have HR : Hid (res = 2) := by unfold Hid; rw [E1.out, if_pos (by simp)]
        clear E1
        go_enter Tryz.func15, Tryz.ntmps15
        go_wp2_with (first | (go_at_call 29; refine LH.out.mono ?_; rintro e w1 ⟨rfl, hb⟩; obtain ⟨hq, hf⟩ := bcell hb; have hz := hb.size; simp at hz; have hz1 : w.heap.size < w1.heap.size := (by omega); have hz2 : w.heap.size + 1 < w1.heap.size := (by omega); have hC := Lib.hid (hB.out.trans (hb.mono (by simp; omega)))) | (go_at_call 30; refine (CF.out _ hC.out).mono ?_; rintro e w2 ⟨rfl, rfl⟩) | (go_at_call 36; refine (CO.out _).mono ?_; rintro e w3 ⟨rfl, rfl⟩))
        go_ret
        exact ⟨by rw [HR.out]; rfl, hC.out⟩
end Go.Proofs.YtmmligbkecilfaaGreatDoor
namespace Go.Proofs.YtmmligbkecilfaaGreatDoor
open Go.RowKit Lv Go.Shelf
open Ieee (double Format Datum Toward)
attribute [local go_sem] Oper.semAt_some run_store_float drewN_alloc drewN_setCell

theorem allocS {w W : World} (h : Below w.heap.size w W) (o : Obj) : Below w.heap.size w (W.alloc o) := h.alloc h.size o
theorem setS {w W : World} {b o : Nat} (h : Below w.heap.size w W) (hb : w.heap.size ≤ b) (v : Value) : Below w.heap.size w (W.setCell ⟨b, o, none⟩ v) := h.setCell (p := ⟨b, o, none⟩) hb v
theorem sizeS {w W : World} (h : Below w.heap.size w W) : w.heap.size ≤ W.heap.size := h.size
theorem thenS {w W W' : World} (h : Below w.heap.size w W) (h' : Below W.heap.size W W') : Below w.heap.size w W' := h.trans (h'.mono h.size)
theorem grownS {w W W' : World} {v : Value} {xs : List (Option Nat)} (h : Below w.heap.size w W) (ho : OwnV W w.heap.size v xs) (hg : W.grownBy W' v.ownBlock) : Below w.heap.size w W' := h.grown hg h.size (fun k e => ho.base k e)
theorem ownA {W : World} {B : Nat} {v : Value} {xs : List (Option Nat)} (h : OwnV W B v xs) (o : Obj) : OwnV (W.alloc o) B v xs := h.below ((Below.refl _ _).alloc (Nat.le_refl _) o) (Nat.le_refl _)
theorem rowDr {W : World} {v : Value} {xs : List (Option Nat)} (h : Row W v xs) : Row W.drew v xs := h.below (Below.refl _ _).drew
theorem celD {W : World} {b : Nat} {u0 u1 u2 u3 : Value} (h : Cells4 W b u0 u1 u2 u3) : Cells4 W.drew b u0 u1 u2 u3 := h.below (Below.refl _ _).drew
theorem row_one' {w : World} {y k : Nat} {Y : Option Nat} (hy : FW y Y) (hk : k = w.heap.size) : Row (w.alloc (.cells #[.float .f64 y] 25)) (.slice (some ⟨k, 0, none⟩) 1 1) [Y] := by subst hk; exact row_one w y hy
theorem cel_new' {w : World} {k : Nat} {u0 u1 u2 u3 : Value} {t : TypeId} (hk : k = w.heap.size) : Cells4 (w.alloc (.cells #[u0, u1, u2, u3] t)) k u0 u1 u2 u3 := by subst hk; exact Cells4.new w u0 u1 u2 u3 t
theorem six_keepS {w W : World} {b c : Nat} {v0 v1 v2 v3 u0 u1 : Value} (e0 : w.cell? ⟨b, 0, none⟩ = some v0) (e1 : w.cell? ⟨b, 1, none⟩ = some v1) (e2 : w.cell? ⟨b, 2, none⟩ = some v2) (e3 : w.cell? ⟨b, 3, none⟩ = some v3) (e4 : w.cell? ⟨c, 0, none⟩ = some u0) (e5 : w.cell? ⟨c, 1, none⟩ = some u1) (h : Below w.heap.size w W) :
    W.cell? ⟨b, 0, none⟩ = some v0 ∧ W.cell? ⟨b, 1, none⟩ = some v1 ∧ W.cell? ⟨b, 2, none⟩ = some v2 ∧ W.cell? ⟨b, 3, none⟩ = some v3 ∧ W.cell? ⟨c, 0, none⟩ = some u0 ∧ W.cell? ⟨c, 1, none⟩ = some u1 :=
  ⟨(h.cell (p := ⟨b, 0, none⟩) (cell_lt e0)).trans e0, (h.cell (p := ⟨b, 1, none⟩) (cell_lt e1)).trans e1, (h.cell (p := ⟨b, 2, none⟩) (cell_lt e2)).trans e2, (h.cell (p := ⟨b, 3, none⟩) (cell_lt e3)).trans e3, (h.cell (p := ⟨c, 0, none⟩) (cell_lt e4)).trans e4, (h.cell (p := ⟨c, 1, none⟩) (cell_lt e5)).trans e5⟩
theorem hidI {p : Prop} (h : p) : Hid p := h
theorem fact1 {p q : Prop} (h : p) (k : Hid p → q) : q := k h
/-- behind the statement that calls Line -/
def SRowCut (w : World) (b7 b4 : Nat) (F G : FacD) (a : Option Addr) (n cap : Nat) (s8 : Value) (ge : Int) (W : World) : Prop :=
  ∃ ga gn gcp, s8 = .int .i64 ge ∧ Cells4 W b7 (.int .i64 G.cols) (.slice ga gn gcp) (.int .i64 G.rws) (.int .i64 G.trn) ∧ Row W (.slice ga gn gcp) G.xs ∧ Cells4 W b4 (.int .i64 0) (.slice none 0 0) (.int .i64 0) (.int .i64 0) ∧
    Cells4 W w.heap.size (.int .i64 F.cols) (.slice a n cap) (.int .i64 F.rws) (.int .i64 F.trn) ∧ b4 < b7 ∧ Below w.heap.size w W

theorem sRowD_early {F : FacD} {ls : List (Option Nat)} {Y : Option Nat} (h : sEarlyD F ls Y ≠ 0) : sRowD F ls Y = (fac0, sEarlyD F ls Y) := by unfold sRowD; rw [if_pos h]
theorem sRowD_line {F : FacD} {ls : List (Option Nat)} {Y : Option Nat} (h : sEarlyD F ls Y = 0) : sRowD F ls Y = if (shedD F (ls ++ [Y])).2 ≠ 0 then (fac0, (shedD F (ls ++ [Y])).2)
  else (⟨(shedD F (ls ++ [Y])).1.cols, (shedD F (ls ++ [Y])).1.xs, F.rws - 1, F.trn + (F.cols + 1)⟩, 0) := by unfold sRowD; rw [h, if_neg (by decide)]

set_option maxRecDepth 100000 in
/-- what the program refuses -/
theorem srow_no (F : FacD) (a b : Option Addr) (n cap m d y : Nat) (ls : List (Option Nat)) {Y : Option Nat} (w : World) (h : Row w (.slice a n cap) F.xs) (hl : Row w (.slice b m d) ls) (hy : FW y Y) (hno : sEarlyD F ls Y ≠ 0) :
    Calls Tryz.prog 6 #[.agg #[.int .i64 F.cols, .slice a n cap, .int .i64 F.rws, .int .i64 F.trn], .agg #[.slice b m d, .float .f64 y]] w fun e w' => FacE (sRowD F ls Y) e w' ∧ Below w.heap.size w w' := by
  have hB := (((Below.refl w.heap.size w).alloc (Nat.le_refl _) (.cells #[.int .i64 F.cols, .slice a n cap, .int .i64 F.rws, .int .i64 F.trn] 24)).alloc (by simp) (.cells #[.slice b m d, .float .f64 y] 27)).alloc (by simp; omega) (.cells #[.int .i64 0, .slice none 0 0, .int .i64 0, .int .i64 0] 24)
  have L := sEarly_calls F a b n cap m d y ls _ (h.below hB) (hl.below hB) hy
  rw [sRowD_early hno]
  have hne : (sEarlyD F ls Y != 0) = true := by simpa using hno
  have LH := Lib.hid L
  have HB := Lib.hid hB
  clear L
  generalize sEarlyD F ls Y = x at *
  obtain ⟨cols, xs, rws, trn⟩ := F
  dsimp only at *
  clear h hl hy hno hB
  have hB := HB
  clear HB
  go_enter Tryz.func6, Tryz.ntmps6
  go_wp2_with (first | (go_at_call 15; refine LH.out.mono ?_; rintro e w1 ⟨rfl, hb⟩; obtain ⟨hq, hf⟩ := bcell hb; have hz := hb.size; simp at hz; have hz1 : w.heap.size < w1.heap.size := (by omega); have hz2 : w.heap.size + 1 < w1.heap.size := (by omega); have hz3 : w.heap.size + 1 + 1 < w1.heap.size := (by omega); have hC := Lib.hid (hB.out.trans (hb.mono (by simp; omega)))))
  exact bodyPost_ret (v := .tuple #[facZ, .int .i64 x]) (by simp [results, Tryz.results6, go_sem, hq, facZ]) rfl ⟨facE_no _ rfl, below_put4 hC.out (by omega) _ _ _ _⟩

set_option maxRecDepth 100000 in
set_option maxHeartbeats 4000000 in
theorem srow_yes (F : FacD) (a b : Option Addr) (n cap m d y : Nat) (ls : List (Option Nat)) {Y : Option Nat} (w : World) (a0 a1 a2 : Addr) (LD : Laid w a0 a1 a2) (h : Row w (.slice a n cap) F.xs) (hl : Row w (.slice b m d) ls) (hy : FW y Y) (he : sEarlyD F ls Y = 0) :
    Calls Tryz.prog 6 #[.agg #[.int .i64 F.cols, .slice a n cap, .int .i64 F.rws, .int .i64 F.trn], .agg #[.slice b m d, .float .f64 y]] w fun e w' => FacE (sRowD F ls Y) e w' ∧ Below w.heap.size w w' := by
  obtain ⟨he1, hr0, ht⟩ := sEarly_zero he
  obtain ⟨hok, hmc0, ho1, ho2⟩ := early_zero he1
  rw [sRowD_line he]
  have hB := (((Below.refl w.heap.size w).alloc (Nat.le_refl _) (.cells #[.int .i64 F.cols, .slice a n cap, .int .i64 F.rws, .int .i64 F.trn] 24)).alloc (by simp) (.cells #[.slice b m d, .float .f64 y] 27)).alloc (by simp; omega) (.cells #[.int .i64 0, .slice none 0 0, .int .i64 0, .int .i64 0] 24)
  have L := sEarly_calls F a b n cap m d y ls _ (h.below hB) (hl.below hB) hy
  have hm := hl.len
  rw [he] at L
  have LH := Lib.hid L
  obtain ⟨hc1, hc6⟩ := ok_cols hok
  have hmc : (m : Int) = F.cols := by rw [← hm]; exact hmc0
  obtain ⟨r0, r1, t0, t1⟩ := ok_rows hok
  have HB := Lib.hid hB
  have h0 : 0 < m := by omega
  have h9 : m ≤ 900 := by omega
  have HL := Lib.hid hl
  have HR := Lib.hid h
  have HY := Lib.hid hy
  have HM := Lib.hid hm
  have HLD := Lib.hid LD
  have hlk : (shedD F (ls ++ [Y])).2 = 0 → (shedD F (ls ++ [Y])).1.rws = F.rws ∧ (shedD F (ls ++ [Y])).1.trn = F.trn := fun hh => ⟨(shedD_keeps hh).2.2.1, (shedD_keeps hh).2.2.2.1⟩
  have LK := Lib.hid hlk
  have hcd := shedD_codes F (ls ++ [Y])
  have AL := Lib.hid (fun a b n cap m d w a0 a1 a2 => sLine_calls F a b n cap m d (ls ++ [Y]) w a0 a1 a2)
  obtain ⟨lb, lo, rfl, hlb, _⟩ := hl.shape h0
  generalize shedD F (ls ++ [Y]) = G at *
  obtain ⟨cols, xs, rws, trn⟩ := F
  obtain ⟨⟨gc, gx, gr, gt⟩, ge⟩ := G
  dsimp only at *
  clear he he1 hok hmc0 ho1 ho2 hB L hm hmc h hl hy hlk LD
  have hB := HB
  clear HB
  go_enter Tryz.func6, Tryz.ntmps6
  go_wp2_with (first | (go_at_call 15; refine LH.out.mono ?_; rintro e w1 ⟨rfl, hb⟩; obtain ⟨hq, hf⟩ := bcell hb; have hz := hb.size; simp at hz; have hz1 : w.heap.size < w1.heap.size := (by omega); have hz2 : w.heap.size + 1 < w1.heap.size := (by omega); have hz3 : w.heap.size + 1 + 1 < w1.heap.size := (by omega); have hC := Lib.hid (hB.out.trans (hb.mono (by simp; omega)))))
  have C2 : Cells4 w1 w.heap.size (.int .i64 cols) (.slice a n cap) (.int .i64 rws) (.int .i64 trn) := (((Cells4.new w (.int .i64 cols) (.slice a n cap) (.int .i64 rws) (.int .i64 trn) 24).alloc (.cells #[.slice (some ⟨lb, lo, none⟩) m d, .float .f64 y] 27)).alloc (.cells #[.int .i64 0, .slice none 0 0, .int .i64 0, .int .i64 0] 24)).below hb
  have HC2 := Lib.hid C2
  obtain ⟨e20, e21, e22, e23, f20, f21, f22, f23⟩ := C2
  have e30 : w1.cell? ⟨w.heap.size + 1, 0, none⟩ = some (.slice (some ⟨lb, lo, none⟩) m d) := (hq _ _ (by simp)).trans (by simp [go_sem])
  have e31 : w1.cell? ⟨w.heap.size + 1, 1, none⟩ = some (.float .f64 y) := (hq _ _ (by simp)).trans (by simp [go_sem])
  have C4 : Cells4 w1 (w.heap.size + 1 + 1) (.int .i64 0) (.slice none 0 0) (.int .i64 0) (.int .i64 0) := by
    have := (Cells4.new ((w.alloc (.cells #[.int .i64 cols, .slice a n cap, .int .i64 rws, .int .i64 trn] 24)).alloc (.cells #[.slice (some ⟨lb, lo, none⟩) m d, .float .f64 y] 27)) (.int .i64 0) (.slice none 0 0) (.int .i64 0) (.int .i64 0) 24).below hb
    simpa using this
  have HC4 := Lib.hid C4
  have HR1 := Lib.hid (HR.out.below hC.out)
  have HL1 := Lib.hid (HL.out.below hC.out)
  have LD1 := Lib.hid (HLD.out.below hC.out)
  clear hq hf hb C4 f20 f21 f22 f23
  go_cut [7, 8] from 16 to 27 (fun s7 s8 wx => ∃ b7 : Nat, s7 = .pointer (some ⟨b7, 0, none⟩) ∧ SRowCut w b7 (w.heap.size + 1 + 1) ⟨cols, xs, rws, trn⟩ ⟨gc, gx, gr, gt⟩ a n cap s8 ge wx)
  case first =>
    -- A8
    rename_i J K' hJ hK'
    go_region_held3 (fun w' => w'.cell? ⟨w.heap.size, 0, none⟩ = some (.int .i64 cols) ∧ w'.cell? ⟨w.heap.size, 1, none⟩ = some (.slice a n cap) ∧ w'.cell? ⟨w.heap.size, 2, none⟩ = some (.int .i64 rws) ∧ w'.cell? ⟨w.heap.size, 3, none⟩ = some (.int .i64 trn) ∧ w'.cell? ⟨w.heap.size + 1, 0, none⟩ = some (.slice (some ⟨lb, lo, none⟩) m d) ∧ w'.cell? ⟨w.heap.size + 1, 1, none⟩ = some (.float .f64 y))
      (first
        | with_reducible exact six_keepS e20 e21 e22 e23 e30 e31 (by solve | (repeat' (first | ((with_reducible refine Hid.out ?_); with_reducible assumption) | with_reducible exact Below.refl _ _ | with_reducible refine Below.drew ?_ | with_reducible refine allocS ?_ _ | with_reducible refine setS ?_ ?_ _ | with_reducible exact Nat.le_refl _ | omega | with_reducible refine sizeS ?_)))
        | go_keep)
      (first
        | (go_at_call 16; go_must (refine (clone_calls _ m d ls _ (HL1.out.below (by solve | (repeat' (first | ((with_reducible refine Hid.out ?_); with_reducible assumption) | with_reducible exact Below.refl _ _ | with_reducible refine Below.drew ?_ | with_reducible refine allocS ?_ _ | with_reducible refine setS ?_ ?_ _ | with_reducible exact Nat.le_refl _ | omega | with_reducible refine sizeS ?_)))) (by rw [HM.out]; exact h9)).mono ?_; rintro e wC ⟨vC, rfl, hownC, hbC⟩; obtain ⟨gC, cC, rfl, k1, k2, k3, k4⟩ := hownC.shape (by rw [HM.out]; exact h0); rw [HM.out] at hownC; have BC : Hid (Below w1.heap.size w1 wC) := hidI (thenS (by solve | (repeat' (first | ((with_reducible refine Hid.out ?_); with_reducible assumption) | with_reducible exact Below.refl _ _ | with_reducible refine Below.drew ?_ | with_reducible refine allocS ?_ _ | with_reducible refine setS ?_ ?_ _ | with_reducible exact Nat.le_refl _ | omega | with_reducible refine sizeS ?_))) hbC); have HO : Hid (OwnV wC w1.heap.size (.slice (some ⟨gC, 0, none⟩) m cC) ls) := hidI (hownC.mono (by simp <;> omega)); simp at k1; have kS := BC.out.size; (first | (refine fact1 (p := Row wC (.slice (some ⟨w1.heap.size, 0, none⟩) 1 1) [Y]) (Row.below ?_ hbC) ?_; (focus (solve | (repeat' (first | ((with_reducible refine Hid.out ?_); with_reducible assumption) | ((with_reducible refine row_one' HY.out ?_); (first | rfl | (simp; done) | (simp; omega))) | with_reducible refine rowDr ?_ | with_reducible refine Row.alloc ?_ _)))); intro RY) | (refine fact1 (p := Row wC (.slice (some ⟨w1.heap.size + 1, 0, none⟩) 1 1) [Y]) (Row.below ?_ hbC) ?_; (focus (solve | (repeat' (first | ((with_reducible refine Hid.out ?_); with_reducible assumption) | ((with_reducible refine row_one' HY.out ?_); (first | rfl | (simp; done) | (simp; omega))) | with_reducible refine rowDr ?_ | with_reducible refine Row.alloc ?_ _)))); intro RY) | skip); (first | (refine fact1 (p := Cells4 wC w1.heap.size (.int .i64 0) (.slice none 0 0) (.int .i64 0) (.int .i64 0)) (Cells4.below ?_ hbC) ?_; (focus (solve | (repeat' (first | ((with_reducible refine Hid.out ?_); with_reducible assumption) | ((with_reducible refine cel_new' ?_); (first | rfl | (simp; done) | (simp; omega))) | with_reducible refine celD ?_ | with_reducible refine Cells4.alloc ?_ _)))); intro ZC) | (refine fact1 (p := Cells4 wC (w1.heap.size + 1) (.int .i64 0) (.slice none 0 0) (.int .i64 0) (.int .i64 0)) (Cells4.below ?_ hbC) ?_; (focus (solve | (repeat' (first | ((with_reducible refine Hid.out ?_); with_reducible assumption) | ((with_reducible refine cel_new' ?_); (first | rfl | (simp; done) | (simp; omega))) | with_reducible refine celD ?_ | with_reducible refine Cells4.alloc ?_ _)))); intro ZC) | skip); clear hownC hbC))
        | (refine step_append_F rfl (.tmp 20) (.tmp 23) rfl w1.heap.size (.slice (some ⟨gC, 0, none⟩) m cC) ls [Y] rfl (by solve | (repeat' (first | ((with_reducible refine Hid.out ?_); with_reducible assumption) | with_reducible refine ownA ?_ _ | omega | (simp; omega)))) _ 1 1 rfl (by solve | (repeat' (first | ((with_reducible refine Hid.out ?_); with_reducible assumption) | ((with_reducible refine row_one' HY.out ?_); (first | rfl | (simp; done) | (simp; omega))) | with_reducible refine rowDr ?_ | with_reducible refine Row.alloc ?_ _))) (by rw [HM.out]; simp; omega) rfl (by solve | (repeat' (first | ((with_reducible refine Hid.out ?_); with_reducible assumption) | with_reducible exact Below.refl _ _ | with_reducible refine Below.drew ?_ | with_reducible refine allocS ?_ _ | with_reducible refine setS ?_ ?_ _ | with_reducible exact Nat.le_refl _ | omega | with_reducible refine sizeS ?_))) ?_; go_must (intro vA wA hownA hgA; have BA : Hid (Below w1.heap.size w1 wA) := hidI (grownS (xs := ls) (by solve | (repeat' (first | ((with_reducible refine Hid.out ?_); with_reducible assumption) | with_reducible exact Below.refl _ _ | with_reducible refine Below.drew ?_ | with_reducible refine allocS ?_ _ | with_reducible refine setS ?_ ?_ _ | with_reducible exact Nat.le_refl _ | omega | with_reducible refine sizeS ?_))) (by solve | (repeat' (first | ((with_reducible refine Hid.out ?_); with_reducible assumption) | with_reducible refine ownA ?_ _ | omega | (simp; omega)))) hgA); obtain ⟨oa, on, oc, hvA⟩ := hownA.row.form; subst hvA; have RA := Lib.hid hownA.row; have kA := BA.out.size; (first | (refine fact1 (p := Cells4 wA w1.heap.size (.int .i64 0) (.slice none 0 0) (.int .i64 0) (.int .i64 0)) (Cells4.grown ?_ hgA (ne_blk ?_)) ?_; (focus (solve | (repeat' (first | ((with_reducible refine Hid.out ?_); with_reducible assumption) | ((with_reducible refine cel_new' ?_); (first | rfl | (simp; done) | (simp; omega))) | with_reducible refine celD ?_ | with_reducible refine Cells4.alloc ?_ _)))); (focus omega); intro ZA) | (refine fact1 (p := Cells4 wA (w1.heap.size + 1) (.int .i64 0) (.slice none 0 0) (.int .i64 0) (.int .i64 0)) (Cells4.grown ?_ hgA (ne_blk ?_)) ?_; (focus (solve | (repeat' (first | ((with_reducible refine Hid.out ?_); with_reducible assumption) | ((with_reducible refine cel_new' ?_); (first | rfl | (simp; done) | (simp; omega))) | with_reducible refine celD ?_ | with_reducible refine Cells4.alloc ?_ _)))); (focus omega); intro ZA) | (refine fact1 (p := Cells4 wA wC.heap.size (.int .i64 0) (.slice none 0 0) (.int .i64 0) (.int .i64 0)) (Cells4.grown ?_ hgA (ne_blk ?_)) ?_; (focus (solve | (repeat' (first | ((with_reducible refine Hid.out ?_); with_reducible assumption) | ((with_reducible refine cel_new' ?_); (first | rfl | (simp; done) | (simp; omega))) | with_reducible refine celD ?_ | with_reducible refine Cells4.alloc ?_ _)))); (focus omega); intro ZA) | (refine fact1 (p := Cells4 wA (wC.heap.size + 1) (.int .i64 0) (.slice none 0 0) (.int .i64 0) (.int .i64 0)) (Cells4.grown ?_ hgA (ne_blk ?_)) ?_; (focus (solve | (repeat' (first | ((with_reducible refine Hid.out ?_); with_reducible assumption) | ((with_reducible refine cel_new' ?_); (first | rfl | (simp; done) | (simp; omega))) | with_reducible refine celD ?_ | with_reducible refine Cells4.alloc ?_ _)))); (focus omega); intro ZA) | skip); clear hownA hgA))
        | (go_at_call 14; go_must (refine (AL.out _ _ _ _ _ _ _ a0 a1 a2 (LD1.out.below (by solve | (repeat' (first | ((with_reducible refine Hid.out ?_); with_reducible assumption) | with_reducible exact Below.refl _ _ | with_reducible refine Below.drew ?_ | with_reducible refine allocS ?_ _ | with_reducible refine setS ?_ ?_ _ | with_reducible exact Nat.le_refl _ | omega | with_reducible refine sizeS ?_)))) (HR1.out.below (by solve | (repeat' (first | ((with_reducible refine Hid.out ?_); with_reducible assumption) | with_reducible exact Below.refl _ _ | with_reducible refine Below.drew ?_ | with_reducible refine allocS ?_ _ | with_reducible refine setS ?_ ?_ _ | with_reducible exact Nat.le_refl _ | omega | with_reducible refine sizeS ?_)))) (by solve | (repeat' (first | ((with_reducible refine Hid.out ?_); with_reducible assumption) | ((with_reducible refine row_one' HY.out ?_); (first | rfl | (simp; done) | (simp; omega))) | with_reducible refine rowDr ?_ | with_reducible refine Row.alloc ?_ _)))).mono ?_; rintro e wL ⟨⟨ga, gn, gcp, rfl, hrowL⟩, hbL⟩; have BL : Hid (Below w1.heap.size w1 wL) := hidI (thenS (by solve | (repeat' (first | ((with_reducible refine Hid.out ?_); with_reducible assumption) | with_reducible exact Below.refl _ _ | with_reducible refine Below.drew ?_ | with_reducible refine allocS ?_ _ | with_reducible refine setS ?_ ?_ _ | with_reducible exact Nat.le_refl _ | omega | with_reducible refine sizeS ?_))) hbL); have RL := Lib.hid hrowL; have kL := BL.out.size; (first | (refine fact1 (p := Cells4 wL w1.heap.size (.int .i64 0) (.slice none 0 0) (.int .i64 0) (.int .i64 0)) (Cells4.below ?_ hbL) ?_; (focus (solve | (repeat' (first | ((with_reducible refine Hid.out ?_); with_reducible assumption) | ((with_reducible refine cel_new' ?_); (first | rfl | (simp; done) | (simp; omega))) | with_reducible refine celD ?_ | with_reducible refine Cells4.alloc ?_ _)))); intro ZL; obtain ⟨y0, y1, y2, y3, yf0, yf1, yf2, yf3⟩ := ZL.out) | (refine fact1 (p := Cells4 wL (w1.heap.size + 1) (.int .i64 0) (.slice none 0 0) (.int .i64 0) (.int .i64 0)) (Cells4.below ?_ hbL) ?_; (focus (solve | (repeat' (first | ((with_reducible refine Hid.out ?_); with_reducible assumption) | ((with_reducible refine cel_new' ?_); (first | rfl | (simp; done) | (simp; omega))) | with_reducible refine celD ?_ | with_reducible refine Cells4.alloc ?_ _)))); intro ZL; obtain ⟨y0, y1, y2, y3, yf0, yf1, yf2, yf3⟩ := ZL.out) | (refine fact1 (p := Cells4 wL wC.heap.size (.int .i64 0) (.slice none 0 0) (.int .i64 0) (.int .i64 0)) (Cells4.below ?_ hbL) ?_; (focus (solve | (repeat' (first | ((with_reducible refine Hid.out ?_); with_reducible assumption) | ((with_reducible refine cel_new' ?_); (first | rfl | (simp; done) | (simp; omega))) | with_reducible refine celD ?_ | with_reducible refine Cells4.alloc ?_ _)))); intro ZL; obtain ⟨y0, y1, y2, y3, yf0, yf1, yf2, yf3⟩ := ZL.out) | (refine fact1 (p := Cells4 wL (wC.heap.size + 1) (.int .i64 0) (.slice none 0 0) (.int .i64 0) (.int .i64 0)) (Cells4.below ?_ hbL) ?_; (focus (solve | (repeat' (first | ((with_reducible refine Hid.out ?_); with_reducible assumption) | ((with_reducible refine cel_new' ?_); (first | rfl | (simp; done) | (simp; omega))) | with_reducible refine celD ?_ | with_reducible refine Cells4.alloc ?_ _)))); intro ZL; obtain ⟨y0, y1, y2, y3, yf0, yf1, yf2, yf3⟩ := ZL.out) | (refine fact1 (p := Cells4 wL wA.heap.size (.int .i64 0) (.slice none 0 0) (.int .i64 0) (.int .i64 0)) (Cells4.below ?_ hbL) ?_; (focus (solve | (repeat' (first | ((with_reducible refine Hid.out ?_); with_reducible assumption) | ((with_reducible refine cel_new' ?_); (first | rfl | (simp; done) | (simp; omega))) | with_reducible refine celD ?_ | with_reducible refine Cells4.alloc ?_ _)))); intro ZL; obtain ⟨y0, y1, y2, y3, yf0, yf1, yf2, yf3⟩ := ZL.out) | skip); clear hrowL hbL)))
    all_goals
      refine hK' _ _ (Met.intro (hJ _ _ ?_))
      (repeat apply Exists.intro)
      refine ⟨?_, rfl⟩
      have D4 := HC4.out.below BL.out
      have D2 := HC2.out.below BL.out
      have hBL := hC.out.trans (BL.out.mono (Nat.le_of_lt hz1))
      (first
        | (refine ⟨wL.heap.size, rfl, ?_⟩; unfold SRowCut; with_reducible exact ⟨ga, gn, gcp, rfl, Cells4.new wL _ _ _ _ _, RL.out.alloc _, D4.alloc _, D2.alloc _, by omega, hBL.alloc (by omega) _⟩)
        | (refine ⟨_, rfl, ?_⟩; unfold SRowCut; with_reducible exact ⟨ga, gn, gcp, rfl, ZL.out.put _ _ _ _, RL.out.put4 ZL.out slice_ne _ _ _ _, D4.put_other (by omega) _ _ _ _, D2.put_other (by omega) _ _ _ _, by omega, below_put4 hBL (by omega) _ _ _ _⟩))
    -- B8
  case rest =>
    obtain ⟨b7, rfl, ga, gn, gcp, rfl, D7, RL, D4, D2, hb47, BL⟩ := hcut
    have HD7 := Lib.hid D7
    have HD4 := Lib.hid D4
    have HD2 := Lib.hid D2
    have HRL := Lib.hid RL
    obtain ⟨k0, k1, k2, k3, l0, l1, l2, l3⟩ := D7
    obtain ⟨m0, m1, m2, m3, n0, n1, n2, n3⟩ := D4
    obtain ⟨i0, i1, i2, i3, j0, j1, j2, j3⟩ := D2
    clear RL e20 e21 e22 e23 e30 e31
    dsimp only at *
    by_cases hge : ge = 0
    · subst hge
      obtain ⟨rfl, rfl⟩ := LK.out rfl
      have a0 := cell_set_eq (v := .int .i64 (gr - 1)) k2
      have a1 := cell_set_off (o := 2) (v := .int .i64 (gr - 1)) k3 (by decide)
      have a2 := cell_set_off (o := 2) (v := .int .i64 (gr - 1)) k0 (by decide)
      have a3 := cell_set_off (o := 2) (v := .int .i64 (gr - 1)) k1 (by decide)
      have hb7 : b7 ≠ w.heap.size := by omega
      have hb7l : w.heap.size ≤ b7 := by omega
      have q0 := cell_set_ne (b := b7) (o := 2) (v := .int .i64 (gr - 1)) i0 hb7
      have q3 := cell_set_ne (b := b7) (o := 2) (v := .int .i64 (gr - 1)) i3 hb7
      go_wp2
      have E2 : Cells4 ((wc.setCell ⟨b7, 2, none⟩ (.int .i64 (gr - 1))).setCell ⟨b7, 3, none⟩ (.int .i64 (gt + (cols + 1)))) b7 (.int .i64 gc) (.slice ga gn gcp) (.int .i64 (gr - 1)) (.int .i64 (gt + (cols + 1))) :=
        ⟨cell_set_off a2 (by decide), cell_set_off a3 (by decide), cell_set_off a0 (by decide), cell_set_eq a1, frozen_set (frozen_set l0), frozen_set (frozen_set l1), frozen_set (frozen_set l2), frozen_set (frozen_set l3)⟩
      have E4 := (HD4.out.set (b' := b7) (o := 2) (v := .int .i64 (gr - 1)) (by omega)).set (b' := b7) (o := 3) (v := .int .i64 (gt + (cols + 1))) (by omega)
      have RE : Row ((wc.setCell ⟨b7, 2, none⟩ (.int .i64 (gr - 1))).setCell ⟨b7, 3, none⟩ (.int .i64 (gt + (cols + 1)))) (.slice ga gn gcp) gx :=
        (HRL.out.setAt HD7.out.c2 (fun _ e => by cases e) _).setAt a1 (fun _ e => by cases e) _
      have P4 := E4.put (.int .i64 gc) (.slice ga gn gcp) (.int .i64 (gr - 1)) (.int .i64 (gt + (cols + 1)))
      refine bodyPost_ret (v := .tuple #[.agg #[.int .i64 gc, .slice ga gn gcp, .int .i64 (gr - 1), .int .i64 (gt + (cols + 1))], .int .i64 0]) (by simp [results, Tryz.results6, go_sem, P4.c0, P4.c1, P4.c2, P4.c3]) rfl ⟨⟨ga, gn, gcp, rfl, RE.put4 E4 (fun _ e => by cases e) _ _ _ _⟩, ?_⟩
      exact below_put4 ((BL.setCell (p := ⟨b7, 2, none⟩) hb7l _).setCell (p := ⟨b7, 3, none⟩) hb7l _) (by omega) _ _ _ _
    · have hgb : (ge != 0) = true := by simpa using hge
      have HGE := Lib.hid hge
      clear hge
      go_wp2
      exact bodyPost_ret (v := .tuple #[facZ, .int .i64 ge]) (by simp [results, Tryz.results6, go_sem, facZ, (HD4.out.put (.int .i64 0) (.slice none 0 0) (.int .i64 0) (.int .i64 0)).c0, (HD4.out.put (.int .i64 0) (.slice none 0 0) (.int .i64 0) (.int .i64 0)).c1, (HD4.out.put (.int .i64 0) (.slice none 0 0) (.int .i64 0) (.int .i64 0)).c2, (HD4.out.put (.int .i64 0) (.slice none 0 0) (.int .i64 0) (.int .i64 0)).c3]) rfl ⟨facE_no _ rfl, below_put4 BL (by omega) _ _ _ _⟩
theorem srow_calls (F : FacD) (a b : Option Addr) (n cap m d y : Nat) (ls : List (Option Nat)) {Y : Option Nat} (w : World) (a0 a1 a2 : Addr) (LD : Laid w a0 a1 a2) (h : Row w (.slice a n cap) F.xs) (hl : Row w (.slice b m d) ls) (hy : FW y Y) :
    Calls Tryz.prog 6 #[.agg #[.int .i64 F.cols, .slice a n cap, .int .i64 F.rws, .int .i64 F.trn], .agg #[.slice b m d, .float .f64 y]] w fun e w' => FacE (sRowD F ls Y) e w' ∧ Below w.heap.size w w' := by
  by_cases he : sEarlyD F ls Y = 0
  · exact srow_yes F a b n cap m d y ls w a0 a1 a2 LD h hl hy he
  · exact srow_no F a b n cap m d y ls w h hl hy he
end Go.Proofs.YtmmligbkecilfaaGreatDoor
namespace Go.Proofs.YtmmligbkecilfaaGreatDoor
open Go.RowKit Lv Go.Shelf
open Ieee (double Format Datum Toward)
attribute [local go_sem] Oper.semAt_some run_store_float drewN_alloc drewN_setCell

end Go.Proofs.YtmmligbkecilfaaGreatDoor
namespace Go.Proofs.YtmmligbkecilfaaGreatDoor
open Go.RowKit Lv Go.Shelf
open Ieee (double Format Datum Toward)
attribute [local go_sem] Oper.semAt_some run_store_float drewN_alloc drewN_setCell

/-- rows taken out one by one, k of them already -/
def sAllLoop : Nat → FacD → List RowD → FacD × Int × Int
  | k, F, [] => (F, (k : Int), 0)
  | k, F, r :: rs => if (sRowD F r.1 r.2).2 ≠ 0 then (F, (k : Int), (sRowD F r.1 r.2).2) else sAllLoop (k + 1) (sRowD F r.1 r.2).1 rs
def sAllD (F : FacD) (rs : List RowD) : FacD × Int × Int := if F.ok = false then (fac0, 0, 1) else sAllLoop 0 F rs
theorem sall_step {k : Nat} {G : FacD} {rs : List RowD} {R : FacD × Int × Int} (hk : k < rs.length) (h : sAllLoop k G (rs.drop k) = R) :
    ((sRowD G (rs.getD k ([], none)).1 (rs.getD k ([], none)).2).2 ≠ 0 ∧ R = (G, (k : Int), (sRowD G (rs.getD k ([], none)).1 (rs.getD k ([], none)).2).2)) ∨
    ((sRowD G (rs.getD k ([], none)).1 (rs.getD k ([], none)).2).2 = 0 ∧ sAllLoop (k + 1) (sRowD G (rs.getD k ([], none)).1 (rs.getD k ([], none)).2).1 (rs.drop (k + 1)) = R) := by
  have e : rs.getD k ([], none) = rs[k] := by rw [List.getD_eq_getElem?_getD, List.getElem?_eq_getElem hk]; rfl
  rw [e]
  rw [List.drop_eq_getElem_cons hk] at h
  unfold sAllLoop at h
  by_cases h2 : (sRowD G rs[k].1 rs[k].2).2 ≠ 0
  · rw [if_pos h2] at h; exact .inl ⟨h2, h.symm⟩
  · rw [if_neg h2] at h; exact .inr ⟨by simpa using h2, h⟩

/-- what stands at the loop's head -/
structure SNInv (w : World) (R : FacD × Int × Int) (rs : List RowD) (t : Option Addr) (tn tc : Nat) (W : World) (k : Nat) (G : FacD) (a : Option Addr) (n cap : Nat) : Prop where
  c2 : Cells4 W w.heap.size (.int .i64 G.cols) (.slice a n cap) (.int .i64 G.rws) (.int .i64 G.trn)
  c4 : Cells4 W (w.heap.size + 1) (.int .i64 0) (.slice none 0 0) (.int .i64 0) (.int .i64 0)
  row : Row W (.slice a n cap) G.xs
  rws : Rws W (.slice t tn tc) rs
  eq : sAllLoop k G (rs.drop k) = R
  below : Below w.heap.size w W

set_option maxRecDepth 100000 in
set_option maxHeartbeats 2000000 in
theorem sall_calls (F : FacD) (a t : Option Addr) (n cap tn tc : Nat) (rs : List RowD) (w : World) (a0 a1 a2 : Addr) (LD : Laid w a0 a1 a2) (h : Row w (.slice a n cap) F.xs) (hl : Rws w (.slice t tn tc) rs) :
    Calls Tryz.prog 13 #[.agg #[.int .i64 F.cols, .slice a n cap, .int .i64 F.rws, .int .i64 F.trn], .slice t tn tc] w fun e w' => FacN (sAllD F rs) e w' ∧ Below w.heap.size w w' := by
  have hB := ((Below.refl w.heap.size w).alloc (Nat.le_refl _) (.cells #[.int .i64 F.cols, .slice a n cap, .int .i64 F.rws, .int .i64 F.trn] 24)).alloc (by simp) (.cells #[.int .i64 0, .slice none 0 0, .int .i64 0, .int .i64 0] 24)
  have L := check_calls F.cols F.rws F.trn a n cap F.xs _ (h.below hB)
  have HB := Lib.hid hB
  have HR := Lib.hid h
  have HS := Lib.hid hl
  have HLD := Lib.hid LD
  clear LD
  obtain ⟨hn1, hn2⟩ := hl.len
  have HN := Lib.hid hn1
  obtain ⟨res, hres⟩ : ∃ res, res = sAllD F rs := ⟨_, rfl⟩
  rw [← hres]
  unfold sAllD at hres
  by_cases h1 : F.ok = false
  · rw [if_pos h1] at hres
    subst hres
    rw [show checkP F.cols F.xs F.rws F.trn = false from h1] at L
    have LH := Lib.hid L
    obtain ⟨cols, xs, rws, trn⟩ := F
    clear h1 L h hl hB hn1
    have hB := HB
    clear HB
    dsimp only at *
    go_enter Tryz.func13, Tryz.ntmps13
    go_wp2_with (first | (go_at_call 29; refine LH.out.mono ?_; rintro e w1 ⟨rfl, hb⟩; obtain ⟨hq, hf⟩ := bcell hb; have hC := Lib.hid (hB.out.trans (hb.mono (by simp; omega)))))
    exact bodyPost_ret (v := .tuple #[facZ, .int .i64 0, .int .i64 1]) (by simp [results, Tryz.results13, go_sem, hq, facZ]) rfl ⟨facN_no _ _ rfl, below_put4 hC.out (by omega) _ _ _ _⟩
  · have hok : F.ok = true := by simpa using h1
    rw [if_neg h1] at hres
    rw [show checkP F.cols F.xs F.rws F.trn = true from hok] at L
    have LH := Lib.hid L
    have HRES := Lib.hid hres
    clear h1 L h hl hB hn1 hok hres
    have hB := HB
    clear HB
    go_enter Tryz.func13, Tryz.ntmps13
    go_wp2_with (first | (go_at_call 29; refine LH.out.mono ?_; rintro e w1 ⟨rfl, hb⟩; obtain ⟨hq, hf⟩ := bcell hb; have hz := hb.size; simp at hz; have hz1 : w.heap.size < w1.heap.size := (by omega); have hz2 : w.heap.size + 1 < w1.heap.size := (by omega); have hC := Lib.hid (hB.out.trans (hb.mono (by simp; omega)))))
    have C2 : Cells4 w1 w.heap.size (.int .i64 F.cols) (.slice a n cap) (.int .i64 F.rws) (.int .i64 F.trn) := ((Cells4.new w (.int .i64 F.cols) (.slice a n cap) (.int .i64 F.rws) (.int .i64 F.trn) 24).alloc (.cells #[.int .i64 0, .slice none 0 0, .int .i64 0, .int .i64 0] 24)).below hb
    have C4 : Cells4 w1 (w.heap.size + 1) (.int .i64 0) (.slice none 0 0) (.int .i64 0) (.int .i64 0) := by
      have := (Cells4.new (w.alloc (.cells #[.int .i64 F.cols, .slice a n cap, .int .i64 F.rws, .int .i64 F.trn] 24)) (.int .i64 0) (.slice none 0 0) (.int .i64 0) (.int .i64 0) 24).below hb
      simpa using this
    have IN : SNInv w res rs t tn tc w1 0 F a n cap := ⟨C2, C4, HR.out.below hC.out, HS.out.below hC.out, HRES.out.symm, hC.out⟩
    clear C2 C4 hq hf hb
    go_loopw [17] (fun s17 wr => ∃ (k : Nat) (G : FacD) (a' : Option Addr) (n' cap' : Nat), s17 = .int .i64 (k : Int) ∧ k ≤ tn ∧ SNInv w res rs t tn tc wr k G a' n' cap') (fun s17 _ => tn - (intOf s17).toNat)
    case atStart => exact ⟨0, F, a, n, cap, rfl, Nat.zero_le _, IN⟩
    case round =>
      obtain ⟨k, G, a', n', cap', rfl, hk, I⟩ := hrel
      have HI := Lib.hid I
      obtain ⟨c20, c21, c22, c23, f20, f21, f22, f23⟩ := I.c2
      obtain ⟨c40, c41, c42, c43, f40, f41, f42, f43⟩ := I.c4
      have hs1 := I.below.size
      have hl4 := I.c4.lt
      have hl2 : w.heap.size < wr.heap.size := by omega
      clear I
      by_cases hkn : k < tn
      · have hki : (k : Int) < (tn : Int) := by omega
        obtain ⟨blk, off, rfl, hc⟩ := HI.out.rws.at (by omega)
        obtain ⟨b, m, d, y, k1, k2, k3, k4⟩ := hc k hkn
        have HK3 := Lib.hid k3
        have HK4 := Lib.hid k4
        clear hc k3 k4
        have ST := sall_step (by rw [HN.out]; exact hkn) HI.out.eq
        have AR := fun W ld h h' => srow_calls G a' b n' cap' m d y (rs.getD k ([], none)).1 (Y := (rs.getD k ([], none)).2) W a0 a1 a2 ld h h' HK4.out
        have HI3 := Lib.hid (HI.out.below)
        have HI4 := Lib.hid (HI.out.c4)
        have HI2 := Lib.hid (HI.out.c2)
        have HIr := Lib.hid (HI.out.row)
        clear HI
        generalize sRowD G (rs.getD k ([], none)).1 (rs.getD k ([], none)).2 = D at *
        obtain ⟨⟨gc, gx, gr, gt⟩, ge⟩ := D
        obtain ⟨cc, cx, cr, ct⟩ := G
        dsimp only at *
        have AR2 := Lib.hid AR
        clear AR
        rcases ST with ⟨e2, eR⟩ | ⟨e2, eR⟩
        · have hne : (ge != 0) = true := by simpa using e2
          subst eR
          clear e2
          go_wp2_with (go_at_call 6; go_must (refine (AR2.out _ (HLD.out.below (HI3.out.alloc hs1 _)) (HIr.out.alloc _) (HK3.out.alloc _)).mono ?_; rintro e wL ⟨⟨ga, gn, gcp, rfl, hrow⟩, hbL⟩; have BL := Lib.hid ((HI3.out.alloc hs1 (.cells #[.slice b m d, .float .f64 y] 27)).trans (hbL.mono (by simp; omega))); have E2 := Lib.hid ((HI2.out.alloc _).below hbL); have E4 := Lib.hid ((HI4.out.alloc _).below hbL); obtain ⟨m0, m1, m2, m3, n0, n1, n2, n3⟩ := E4.out; obtain ⟨q0, q1, q2, q3, u0, u1, u2, u3⟩ := E2.out; have hzL := hbL.size; simp at hzL; have hzM : w.heap.size < wL.heap.size := (by omega); have hzN : w.heap.size + 1 < wL.heap.size := (by omega); have hrO := Lib.hid ((HIr.out.alloc (.cells #[.slice b m d, .float .f64 y] 27)).below hbL)))
          have P4 := E4.out.put (.int .i64 cc) (.slice a' n' cap') (.int .i64 cr) (.int .i64 ct)
          exact bodyPost_ret (v := .tuple #[.agg #[.int .i64 cc, .slice a' n' cap', .int .i64 cr, .int .i64 ct], .int .i64 (k : Int), .int .i64 ge]) (by simp [results, Tryz.results13, go_sem, P4.c0, P4.c1, P4.c2, P4.c3, hzN]) rfl ⟨⟨a', n', cap', rfl, (hrO.out.put4 E4.out slice_ne _ _ _ _).alloc _⟩, (below_put4 BL.out (by omega) _ _ _ _).alloc (by simp; omega) _⟩
        · subst e2
          have ER := Lib.hid eR
          clear eR
          go_wp2_with (go_at_call 6; go_must (refine (AR2.out _ (HLD.out.below (HI3.out.alloc hs1 _)) (HIr.out.alloc _) (HK3.out.alloc _)).mono ?_; rintro e wL ⟨⟨ga, gn, gcp, rfl, hrow⟩, hbL⟩; have BL := Lib.hid ((HI3.out.alloc hs1 (.cells #[.slice b m d, .float .f64 y] 27)).trans (hbL.mono (by simp; omega))); have E2 := Lib.hid ((HI2.out.alloc _).below hbL); have E4 := Lib.hid ((HI4.out.alloc _).below hbL); obtain ⟨q0, q1, q2, q3, u0, u1, u2, u3⟩ := E2.out; have hzL := hbL.size; simp at hzL; have hzM : w.heap.size < wL.heap.size := (by omega); have hzN : w.heap.size + 1 < wL.heap.size := (by omega); have HRW := Lib.hid hrow; clear hrow))
          have P2 := E2.out.put (.int .i64 gc) (.slice ga gn gcp) (.int .i64 gr) (.int .i64 gt)
          have P4 := E4.out.put_other (b' := w.heap.size) (by omega) (.int .i64 gc) (.slice ga gn gcp) (.int .i64 gr) (.int .i64 gt)
          have BB := (below_put4 BL.out (Nat.le_refl _) (.int .i64 gc) (.slice ga gn gcp) (.int .i64 gr) (.int .i64 gt)).alloc (by simp; omega) (.cells #[.int .i64 gc, .slice ga gn gcp, .int .i64 gr, .int .i64 gt] 24)
          go_roundw
          case rel => exact ⟨k + 1, ⟨gc, gx, gr, gt⟩, ga, gn, gcp, by go_num, by omega, P2.alloc _, P4.alloc _, (HRW.out.put4 E2.out slice_ne _ _ _ _).alloc _, HS.out.below BB, ER.out, BB⟩
          case measure => simp [intOf]; omega
      · obtain rfl : k = tn := by omega
        have eR := HI.out.eq
        rw [List.drop_of_length_le (by rw [HN.out]; exact Nat.le_refl _)] at eR
        obtain rfl : res = (G, (k : Int), 0) := eR.symm
        have hrO := Lib.hid HI.out.row
        have E4 := Lib.hid HI.out.c4
        have BL := Lib.hid HI.out.below
        clear eR HRES HI
        obtain ⟨cc, cx, cr, ct⟩ := G
        dsimp only at *
        go_wp2
        have P4 := E4.out.put (.int .i64 cc) (.slice a' n' cap') (.int .i64 cr) (.int .i64 ct)
        exact bodyPost_ret (v := .tuple #[.agg #[.int .i64 cc, .slice a' n' cap', .int .i64 cr, .int .i64 ct], .int .i64 (k : Int), .int .i64 0]) (by simp [results, Tryz.results13, go_sem, P4.c0, P4.c1, P4.c2, P4.c3]) rfl ⟨⟨a', n', cap', rfl, hrO.out.put4 E4.out slice_ne _ _ _ _⟩, below_put4 BL.out (by omega) _ _ _ _⟩

end Go.Proofs.YtmmligbkecilfaaGreatDoor
namespace Go.Proofs.YtmmligbkecilfaaGreatDoor
open Go.RowKit Lv Go.Shelf
open Ieee (double Format Datum Toward)
attribute [local go_sem] Oper.semAt_some run_store_float drewN_alloc drewN_setCell

abbrev Gf : FacD := ⟨1, [some 4617315517961601024, some 4607182418800017408, some 4611686018427387904], 2, 4⟩
abbrev Gg : FacD := ⟨1, [some 4616189618054758400, some 4602678819172646912, some 4611400002350042842], 1, 6⟩
abbrev Gd : FacD := ⟨1, [some 4617315517961601024, some 4607182418800017408, some 4611686018427387904], 0, 0⟩
abbrev Gh : FacD := ⟨1, [some 4617315517961601024, some 4607182418800017408, some 4611686018427387904], 0, 8⟩
theorem shed_a : sRowD Gf [some 4613937818241073152] (some 4607182418800017408) = (Gg, 0) := by decide +kernel
theorem shed_b : sRowD Gf [some 4617315517961601024] (some 0) = (fac0, 8) := by decide +kernel
theorem shed_c : sRowD Gf [] (some 0) = (fac0, 3) := by decide +kernel
theorem shed_d : sRowD Gd [some 4613937818241073152] (some 0) = (fac0, 5) := by decide +kernel
theorem shed_e : sAllD Gf [([some 0], some 0), ([some 0], some 0), ([some 0], some 0)] = (Gh, 2, 5) := by decide +kernel
theorem shed_z : shedD Gf [some 4607182418800017408] = (fac0, 1) := by decide +kernel

theorem rws_three (W : World) : Rws ((((W.alloc (.cells #[.float .f64 0] 25)).alloc (.cells #[.float .f64 0] 25)).alloc (.cells #[.float .f64 0] 25)).alloc (.cells #[.slice (some ⟨W.heap.size, 0, none⟩) 1 1, .float .f64 0, .slice (some ⟨W.heap.size + 1, 0, none⟩) 1 1, .float .f64 0, .slice (some ⟨W.heap.size + 1 + 1, 0, none⟩) 1 1, .float .f64 0] 27)) (.slice (some ⟨W.heap.size + 1 + 1 + 1, 0, none⟩) 3 3) [([some 0], some 0), ([some 0], some 0), ([some 0], some 0)] := by
  refine ⟨_, _, rfl, Nat.le_refl _, by unfold maxLen; simp, .inr ⟨W.heap.size + 1 + 1 + 1, 0, rfl, fun i hi => ?_⟩⟩
  have h1 := (((row_one W 0 fw_zero).alloc (.cells #[.float .f64 0] 25)).alloc (.cells #[.float .f64 0] 25)).alloc (.cells #[.slice (some ⟨W.heap.size, 0, none⟩) 1 1, .float .f64 0, .slice (some ⟨W.heap.size + 1, 0, none⟩) 1 1, .float .f64 0, .slice (some ⟨W.heap.size + 1 + 1, 0, none⟩) 1 1, .float .f64 0] 27)
  have h2 := ((row_one' (w := W.alloc (.cells #[.float .f64 0] 25)) (k := W.heap.size + 1) fw_zero (by simp)).alloc (.cells #[.float .f64 0] 25)).alloc (.cells #[.slice (some ⟨W.heap.size, 0, none⟩) 1 1, .float .f64 0, .slice (some ⟨W.heap.size + 1, 0, none⟩) 1 1, .float .f64 0, .slice (some ⟨W.heap.size + 1 + 1, 0, none⟩) 1 1, .float .f64 0] 27)
  have h3 := (row_one' (w := (W.alloc (.cells #[.float .f64 0] 25)).alloc (.cells #[.float .f64 0] 25)) (k := W.heap.size + 1 + 1) fw_zero (by simp)).alloc (.cells #[.slice (some ⟨W.heap.size, 0, none⟩) 1 1, .float .f64 0, .slice (some ⟨W.heap.size + 1, 0, none⟩) 1 1, .float .f64 0, .slice (some ⟨W.heap.size + 1 + 1, 0, none⟩) 1 1, .float .f64 0] 27)
  match i, hi with
  | 0, _ => exact ⟨_, _, _, 0, by simp [go_sem], by simp [go_sem], h1, fw_zero⟩
  | 1, _ => exact ⟨_, _, _, 0, by simp [go_sem], by simp [go_sem], h2, fw_zero⟩
  | 2, _ => exact ⟨_, _, _, 0, by simp [go_sem], by simp [go_sem], h3, fw_zero⟩

set_option maxRecDepth 100000 in
set_option maxHeartbeats 4000000 in
theorem live11_calls (w : World) (a0 a1 a2 : Addr) (LD : Laid w a0 a1 a2) : Calls Tryz.prog 5 #[] w fun e w' => e = .returned (.bool true) ∧ Below w.heap.size w w' := by
  have HLD := Lib.hid LD
  clear LD
  go_enter Tryz.func5, Tryz.ntmps5
  go_upto_region 1 with (fail)
  go_cut [1] from 15 to 16 (fun s1 wx => ∃ b1 : Nat, s1 = .pointer (some ⟨b1, 0, none⟩) ∧ FacAt wx b1 Gf ∧ Below w.heap.size w wx)
  case first =>
    go_wp2
    go_meet
    case rel => exact ⟨_, rfl, FacAt.new' (F := Gf) (row_lits w [4617315517961601024, 4607182418800017408, 4611686018427387904] (by decide) 3 rfl (by decide)) (by simp), ((Below.refl _ _).alloc (Nat.le_refl _) _).alloc (by simp) _⟩
  case rest =>
    obtain ⟨b1, rfl, F1, B1⟩ := hcut
    obtain ⟨W1, rfl⟩ : ∃ x, x = wc := ⟨_, rfl⟩
    have L1 := Lib.hid (HLD.out.below B1)

    go_upto_region 2 with (fail)
    go_cut [2, 3] from 17 to 23 (fun s2 s3 wx => ∃ b2 : Nat, s2 = .pointer (some ⟨b2, 0, none⟩) ∧ s3 = .int .i64 0 ∧ FacAt wx b2 Gg ∧ Below W1.heap.size W1 wx)
    case first =>
      obtain ⟨fa, fn, fc, fC, fR⟩ := F1
      obtain ⟨c0, c1, c2, c3, _, _, _, _⟩ := fC
      have FR := Lib.hid fR
      have hsz := cell_lt c0
      clear fR
      dsimp only at c0 c1 c2 c3
      go_wp2_with (go_at_call 6; go_must (refine (srow_calls Gf fa _ fn fc 1 1 _ [some 4613937818241073152] (Y := some 4607182418800017408) _ a0 a1 a2 (L1.out.below ((Below.refl _ _).alloc (Nat.le_refl _) _)) (FR.out.alloc _) (row_lits _ [4613937818241073152] (by decide) 1 rfl (by decide)) (fw_lit 4607182418800017408 (by unfold W64; decide) (by decide))).mono ?_; rintro e wL ⟨⟨ga, gn, gcp, he, hrow⟩, hbL⟩; rw [shed_a] at he hrow; dsimp only at he hrow; subst he))
      go_meet
      case rel => exact ⟨_, rfl, rfl, FacAt.new (F := Gg) hrow, (((Below.refl _ _).alloc (Nat.le_refl _) _).trans (hbL.mono (by simp))).alloc (by have := hbL.size; simp at this; omega) _⟩
    case rest =>
      obtain ⟨b2, rfl, rfl, F2, B2⟩ := hcut
      obtain ⟨W2, rfl⟩ : ∃ x, x = wc := ⟨_, rfl⟩
      have F1 := F1.below B2
      have L2 := Lib.hid (L1.out.below B2)
      go_upto_region 3 with (fail)
      go_cut [4, 5] from 24 to 30 (fun s4 s5 wx => ∃ b4 : Nat, s4 = .pointer (some ⟨b4, 0, none⟩) ∧ s5 = .int .i64 8 ∧ FacAt wx b4 fac0 ∧ Below W2.heap.size W2 wx)
      case first =>
        obtain ⟨fa, fn, fc, fC, fR⟩ := F1
        obtain ⟨c0, c1, c2, c3, _, _, _, _⟩ := fC
        have FR := Lib.hid fR
        have hsz := cell_lt c0
        clear fR
        dsimp only at c0 c1 c2 c3
        go_wp2_with (go_at_call 6; go_must (refine (srow_calls Gf fa _ fn fc 1 1 _ [some 4617315517961601024] (Y := some 0) _ a0 a1 a2 (L2.out.below ((Below.refl _ _).alloc (Nat.le_refl _) _)) (FR.out.alloc _) (row_lits _ [4617315517961601024] (by decide) 1 rfl (by decide)) fw_zero).mono ?_; rintro e wL ⟨⟨ga, gn, gcp, he, hrow⟩, hbL⟩; rw [shed_b] at he hrow; dsimp only at he hrow; subst he))
        go_meet
        case rel => exact ⟨_, rfl, rfl, FacAt.new (F := fac0) hrow, (((Below.refl _ _).alloc (Nat.le_refl _) _).trans (hbL.mono (by simp))).alloc (by have := hbL.size; simp at this; omega) _⟩
      case rest =>
        obtain ⟨b4, rfl, rfl, F4, B4⟩ := hcut
        obtain ⟨W4, rfl⟩ : ∃ x, x = wc := ⟨_, rfl⟩
        have F1 := F1.below B4
        have F2 := F2.below B4
        have L4 := Lib.hid (L2.out.below B4)
        go_upto_region 4 with (fail)
        go_cut [6, 7] from 31 to 36 (fun s6 s7 wx => ∃ b6 : Nat, s6 = .pointer (some ⟨b6, 0, none⟩) ∧ s7 = .int .i64 3 ∧ FacAt wx b6 fac0 ∧ Below W4.heap.size W4 wx)
        case first =>
          obtain ⟨fa, fn, fc, fC, fR⟩ := F1
          obtain ⟨c0, c1, c2, c3, _, _, _, _⟩ := fC
          have FR := Lib.hid fR
          have hsz := cell_lt c0
          clear fR
          dsimp only at c0 c1 c2 c3
          go_wp2_with (go_at_call 6; go_must (refine (srow_calls Gf fa _ fn fc 0 0 _ [] (Y := some 0) _ a0 a1 a2 L4.out FR.out (row_nil _) fw_zero).mono ?_; rintro e wL ⟨⟨ga, gn, gcp, he, hrow⟩, hbL⟩; rw [shed_c] at he hrow; dsimp only at he hrow; subst he))
          go_meet
          case rel => exact ⟨_, rfl, rfl, FacAt.new (F := fac0) hrow, hbL.alloc hbL.size _⟩
        case rest =>
          obtain ⟨b6, rfl, rfl, F6, B6⟩ := hcut
          obtain ⟨W6, rfl⟩ : ∃ x, x = wc := ⟨_, rfl⟩
          have F1 := F1.below B6
          have F2 := F2.below B6
          have L6 := Lib.hid (L4.out.below B6)
          go_upto_region 5 with (fail)
          go_cut [8, 9] from 37 to 44 (fun s8 s9 wx => ∃ b8 : Nat, s8 = .pointer (some ⟨b8, 0, none⟩) ∧ s9 = .int .i64 5 ∧ FacAt wx b8 fac0 ∧ Below W6.heap.size W6 wx)
          case first =>
            clear F1
            go_wp2_with (go_at_call 6; go_must (refine (srow_calls Gd _ _ 3 3 1 1 _ [some 4613937818241073152] (Y := some 0) _ a0 a1 a2 (L6.out.below (((Below.refl _ _).alloc (Nat.le_refl _) _).alloc (by simp) _)) ((row_lits W6 [4617315517961601024, 4607182418800017408, 4611686018427387904] (by decide) 3 rfl (by decide)).alloc _) (by have := row_lits (W6.alloc (.cells #[.float .f64 4617315517961601024, .float .f64 4607182418800017408, .float .f64 4611686018427387904] 25)) [4613937818241073152] (by decide) 1 rfl (by decide); simpa using this) fw_zero).mono ?_; rintro e wL ⟨⟨ga, gn, gcp, he, hrow⟩, hbL⟩; rw [shed_d] at he hrow; dsimp only at he hrow; subst he))
            go_meet
            case rel => exact ⟨_, rfl, rfl, FacAt.new (F := fac0) hrow, ((((Below.refl _ _).alloc (Nat.le_refl _) _).alloc (by simp) _).trans (hbL.mono (by simp; omega))).alloc (by have := hbL.size; simp at this; omega) _⟩
          case rest =>
            obtain ⟨b8, rfl, rfl, F8, B8⟩ := hcut
            obtain ⟨W8, rfl⟩ : ∃ x, x = wc := ⟨_, rfl⟩
            have F1 := F1.below B8
            have F2 := F2.below B8
            have L8 := Lib.hid (L6.out.below B8)
            go_upto_region 6 with (fail)
            go_cut [10, 11, 12] from 45 to 57 (fun s10 s11 s12 wx => ∃ b10 : Nat, s10 = .pointer (some ⟨b10, 0, none⟩) ∧ s11 = .int .i64 2 ∧ s12 = .int .i64 5 ∧ FacAt wx b10 Gh ∧ Below W8.heap.size W8 wx)
            case first =>
              obtain ⟨fa, fn, fc, fC, fR⟩ := F1
              obtain ⟨c0, c1, c2, c3, _, _, _, _⟩ := fC
              have FR := Lib.hid fR
              have hsz := cell_lt c0
              clear fR
              dsimp only at c0 c1 c2 c3
              go_wp2_with (go_at_call 13; go_must (refine (sall_calls Gf fa _ fn fc 3 3 [([some 0], some 0), ([some 0], some 0), ([some 0], some 0)] _ a0 a1 a2 (L8.out.below (((((Below.refl _ _).alloc (Nat.le_refl _) _).alloc (by simp) _).alloc (by simp; omega) _).alloc (by simp; omega) _)) ((((FR.out.alloc _).alloc _).alloc _).alloc _) (rws_three W8)).mono ?_; rintro e wL ⟨⟨ga, gn, gcp, he, hrow⟩, hbL⟩; rw [shed_e] at he hrow; dsimp only at he hrow; subst he))
              go_meet
              case rel => exact ⟨_, rfl, rfl, rfl, FacAt.new (F := Gh) hrow, ((((((Below.refl _ _).alloc (Nat.le_refl _) _).alloc (by simp) _).alloc (by simp; omega) _).alloc (by simp; omega) _).trans (hbL.mono (by simp; omega))).alloc (by have := hbL.size; simp at this; omega) _⟩
            case rest =>
              obtain ⟨b10, rfl, rfl, rfl, F10, B10⟩ := hcut
              obtain ⟨W10, rfl⟩ : ∃ x, x = wc := ⟨_, rfl⟩
              have F1 := F1.below B10
              have F2 := F2.below B10
              have L10 := Lib.hid (L8.out.below B10)
              go_upto_region 7 with (fail)
              go_cut [13, 14] from 58 to 63 (fun s13 s14 wx => ∃ b13 : Nat, s13 = .pointer (some ⟨b13, 0, none⟩) ∧ s14 = .int .i64 1 ∧ FacAt wx b13 fac0 ∧ Below W10.heap.size W10 wx)
              case first =>
                obtain ⟨fa, fn, fc, fC, fR⟩ := F1
                obtain ⟨c0, c1, c2, c3, _, _, _, _⟩ := fC
                have FR := Lib.hid fR
                have hsz := cell_lt c0
                clear fR
                dsimp only at c0 c1 c2 c3
                go_wp2_with (go_at_call 14; go_must (refine (sLine_calls Gf fa _ fn fc 1 1 [some 4607182418800017408] _ a0 a1 a2 (L10.out.below ((Below.refl _ _).alloc (Nat.le_refl _) _)) (FR.out.alloc _) (row_lits _ [4607182418800017408] (by decide) 1 rfl (by decide))).mono ?_; rintro e wL ⟨⟨ga, gn, gcp, he, hrow⟩, hbL⟩; rw [shed_z] at he hrow; dsimp only at he hrow; subst he))
                go_meet
                case rel => exact ⟨_, rfl, rfl, FacAt.new (F := fac0) hrow, (((Below.refl _ _).alloc (Nat.le_refl _) _).trans (hbL.mono (by simp))).alloc (by have := hbL.size; simp at this; omega) _⟩
              case rest =>
                obtain ⟨b13, rfl, rfl, F13, B13⟩ := hcut
                obtain ⟨W13, rfl⟩ : ∃ x, x = wc := ⟨_, rfl⟩
                have F2 := F2.below B13
                have F10 := F10.below B13
                have HB := Lib.hid ((((((B1.trans (B2.mono B1.size)).trans (B4.mono (by have := B1.size; have := B2.size; omega))).trans (B6.mono (by have := B1.size; have := B2.size; have := B4.size; omega))).trans (B8.mono (by have := B1.size; have := B2.size; have := B4.size; have := B6.size; omega))).trans (B10.mono (by have := B1.size; have := B2.size; have := B4.size; have := B6.size; have := B8.size; omega))).trans (B13.mono (by have := B1.size; have := B2.size; have := B4.size; have := B6.size; have := B8.size; have := B10.size; omega)))
                clear F1 F4 F6 F8 F13 B1 B2 B4 B6 B8 B10 B13
                obtain ⟨ga, gn, gc, gC, gR⟩ := F2
                obtain ⟨g0, g1, g2, g3, _, _, _, _⟩ := gC
                obtain ⟨gb, go, rfl, rfl, gx, gy, gz⟩ := row_three gR
                obtain ⟨ka, kn, kc, kC, kR⟩ := F10
                obtain ⟨k0, k1, k2, k3, _, _, _, _⟩ := kC
                obtain ⟨kb, ko, rfl, rfl, kx, ky, kz⟩ := row_three kR
                dsimp only at g0 g1 g2 g3 k0 k1 k2 k3
                clear gR kR
                go_wp2
                go_ret
                exact ⟨rfl, HB.out⟩
end Go.Proofs.YtmmligbkecilfaaGreatDoor
namespace Go.Proofs.YtmmligbkecilfaaGreatDoor
open Go.RowKit Lv Go.Shelf
open Ieee (double Format Datum Toward)
attribute [local go_sem] Oper.semAt_some run_store_float drewN_alloc drewN_setCell

theorem sRowD_zero {F : FacD} {ls : List (Option Nat)} {Y : Option Nat} (h : (sRowD F ls Y).2 = 0) : sEarlyD F ls Y = 0 ∧ (shedD F (ls ++ [Y])).2 = 0 := by
  by_cases h1 : sEarlyD F ls Y = 0
  · rw [sRowD_line h1] at h
    by_cases h2 : (shedD F (ls ++ [Y])).2 = 0
    · exact ⟨h1, h2⟩
    · rw [if_pos h2] at h; exact absurd h h2
  · rw [sRowD_early h1] at h; exact absurd h h1
theorem sRowD_ok {F : FacD} {ls : List (Option Nat)} {Y : Option Nat} (h : (sRowD F ls Y).2 = 0) : (sRowD F ls Y).1.ok = true ∧ (sRowD F ls Y).1.cols = F.cols ∧ (sRowD F ls Y).1.rws = F.rws - 1 ∧ (sRowD F ls Y).1.trn = F.trn + (F.cols + 1) := by
  obtain ⟨h1, h2⟩ := sRowD_zero h
  obtain ⟨e1, e2, e3⟩ := sEarly_zero h1
  obtain ⟨hok, _⟩ := early_zero e1
  obtain ⟨k1, k2, k3, k4, _⟩ := shedD_keeps h2
  obtain ⟨r0, r1, t0, t1⟩ := ok_rows hok
  obtain ⟨c1, c6⟩ := ok_cols hok
  rw [sRowD_line h1, if_neg (by simpa using h2)]
  refine ⟨?_, k2, rfl, rfl⟩
  exact checkP_rt k1 (by dsimp only; omega) (by dsimp only; omega) (by dsimp only; omega) (by dsimp only; omega)

theorem sall_part : ∀ (xs ys : List RowD) (k : Nat) (F : FacD) (G : FacD) (n : Int), sAllLoop k F (xs ++ ys) = (G, n, 0) → F.ok = true →
    ∃ P : FacD, sAllLoop k F xs = (P, ((k + xs.length : Nat) : Int), 0) ∧ sAllLoop (k + xs.length) P ys = (G, n, 0) ∧ P.ok = true
  | [], ys, k, F, G, n, h, hok => ⟨F, rfl, h, hok⟩
  | r :: xs, ys, k, F, G, n, h, hok => by
    rw [List.cons_append] at h
    unfold sAllLoop at h
    by_cases h2 : (sRowD F r.1 r.2).2 ≠ 0
    · rw [if_pos h2] at h
      simp only [Prod.mk.injEq] at h
      exact absurd h.2.2 h2
    · rw [if_neg h2] at h
      have h3 : (sRowD F r.1 r.2).2 = 0 := by simpa using h2
      obtain ⟨P, p1, p2, p3⟩ := sall_part xs ys (k + 1) _ G n h (sRowD_ok h3).1
      refine ⟨P, ?_, ?_, p3⟩
      · unfold sAllLoop
        rw [if_neg h2, p1]
        congr 2
        simp only [List.length_cons]
        omega
      · rw [List.length_cons, show k + (xs.length + 1) = k + 1 + xs.length by omega]
        exact p2
theorem sall_shift : ∀ (ys : List RowD) (k j : Nat) (F G : FacD) (n : Int), sAllLoop k F ys = (G, n, 0) → n = ((k + ys.length : Nat) : Int) ∧ sAllLoop j F ys = (G, ((j + ys.length : Nat) : Int), 0)
  | [], k, j, F, G, n, h => by
    unfold sAllLoop at h ⊢
    simp only [Prod.mk.injEq] at h
    obtain ⟨rfl, rfl, _⟩ := h
    exact ⟨rfl, rfl⟩
  | r :: ys, k, j, F, G, n, h => by
    unfold sAllLoop at h ⊢
    by_cases h2 : (sRowD F r.1 r.2).2 ≠ 0
    · rw [if_pos h2] at h
      simp only [Prod.mk.injEq] at h
      exact absurd h.2.2 h2
    · rw [if_neg h2] at h ⊢
      obtain ⟨e1, e2⟩ := sall_shift ys (k + 1) (j + 1) _ G n h
      refine ⟨by rw [e1, List.length_cons]; congr 1; omega, ?_⟩
      rw [e2, List.length_cons]
      congr 2
      simp only [Int.natCast_inj]
      omega
/-- THE PLAIN LAW of All: part by part -/
theorem sall_cut {F G : FacD} {rs : List RowD} {n : Int} (h : sAllD F rs = (G, n, 0)) (k : Nat) (hk : k ≤ rs.length) :
    ∃ P : FacD, sAllD F (rs.take k) = (P, (k : Int), 0) ∧ sAllD P (rs.drop k) = (G, ((rs.length - k : Nat) : Int), 0) := by
  unfold sAllD at h
  by_cases h1 : F.ok = false
  · rw [if_pos h1] at h
    simp only [Prod.mk.injEq] at h
    exact absurd h.2.2 (by decide)
  · rw [if_neg h1] at h
    have hok : F.ok = true := by simpa using h1
    rw [← List.take_append_drop k rs] at h
    obtain ⟨P, p1, p2, p3⟩ := sall_part _ _ _ _ _ _ h hok
    rw [Nat.zero_add, List.length_take, Nat.min_eq_left hk] at p1 p2
    refine ⟨P, by unfold sAllD; rw [if_neg h1]; exact p1, ?_⟩
    obtain ⟨_, e2⟩ := sall_shift _ _ 0 _ _ _ p2
    unfold sAllD
    rw [if_neg (by rw [p3]; decide), e2, Nat.zero_add, List.length_drop]


end Go.Proofs.YtmmligbkecilfaaGreatDoor
