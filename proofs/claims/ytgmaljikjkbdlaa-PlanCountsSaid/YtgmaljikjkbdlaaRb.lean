/- The reference's Line of layer 10, walked. -/
import Derived.Test.YtgmaljikjkbdlaaRa
import Derived.Deep.RegionWith
import Derived.LoopTactic
import Derived.Deep.CutRange
namespace Go.Proofs.Ytgmaljikjkbdlaa
open Go.RowKit Lv Go.Shelf
open Ieee (double Format Datum Toward)
attribute [local go_sem] run_store_float drewN_alloc drewN_setCell run_addF run_subF run_mulF run_quoF

set_option maxRecDepth 100000 in
set_option maxHeartbeats 8000000 in
theorem raline_yes (c j0 : Nat) (rws trn : Int) (tb tf cap : Nat) (b : Option Addr) (d : Nat) (xs ls : List (Option Nat)) (w : World) (h : Row w (.slice (some ⟨tb, tf, none⟩) xs.length cap) xs) (hl : Row w (.slice b (c + 1) d) ls)
    (hch : checkP (c : Int) xs rws trn = true) (h1 : 1 ≤ c) (h6 : c ≤ 6) (hi : j0 ≤ c) (hxl : xs.length = tsz c) :
    Calls Try.prog 65 #[.agg #[.int .i64 (c : Int), .slice (some ⟨tb, tf, none⟩) xs.length cap, .int .i64 rws, .int .i64 trn], .slice b (c + 1) d, .int .i64 (j0 : Int)] w fun e w' =>
      LinePost (rlineP c rws trn j0 (xs, ls)) c rws trn e w' ∧ Below w.heap.size w w' := by
  have hr := (h.alloc (.cells #[.int .i64 (c : Int), .slice (some ⟨tb, tf, none⟩) xs.length cap, .int .i64 rws, .int .i64 trn] 36)).alloc (.cells #[.int .i64 0, .slice none 0 0, .int .i64 0, .int .i64 0] 36)
  have L := Lib.hid (rcheck_calls (c : Int) rws trn _ _ cap xs _ hr)
  rw [hch] at L
  have HR := Lib.hid h
  have HLS := Lib.hid hl
  have HX := Lib.hid hxl
  have hsz := tsz_bounds h1 h6
  have hne : (((c + 1 : Nat) : Int) != (c : Int) + 1) = false := by simp
  have hne' : ((c : Int) + 1 != (c : Int) + 1) = false := by simp
  have hc6 : (c : Int) ≤ 6 := by omega
  have hji : ¬ (c : Int) < (j0 : Int) := by omega
  have hji2 : decide (c < j0) = false := decide_eq_false (by omega)
  have hji3 : decide ((j0 : Int) < 0) = false := decide_eq_false (by omega)
  obtain ⟨lb, lo, rfl, hlb, hlsl0⟩ := hl.shape (by omega)
  have hlsl := Lib.hid hlsl0
  have CH := Lib.hid hch
  have hxle : xs.length ≤ 28 ∧ 0 < xs.length := by omega
  obtain ⟨hxle, hx0⟩ := hxle
  clear h hl hr hxl hch hlsl0
  go_enter Try.func65, Try.ntmps65
  go_wp2_with (first | (go_at_call 28; refine L.out.mono ?_; rintro e w1 ⟨rfl, hb⟩; have hz := hb.size; simp at hz; have hz0 : w.heap.size < w1.heap.size := (by omega); have hz1 : w.heap.size + 1 < w1.heap.size := (by omega); have q0 := (hb.cell (p := ⟨w.heap.size, 0, none⟩) (by simp; omega)).trans (show _ = some (.int .i64 (c : Int)) by simp [go_sem]); have q1 := (hb.cell (p := ⟨w.heap.size, 1, none⟩) (by simp; omega)).trans (show _ = some (.slice (some ⟨tb, tf, none⟩) xs.length cap) by simp [go_sem]); have q2 := (hb.cell (p := ⟨w.heap.size, 2, none⟩) (by simp; omega)).trans (show _ = some (.int .i64 rws) by simp [go_sem]); have q3 := (hb.cell (p := ⟨w.heap.size, 3, none⟩) (by simp; omega)).trans (show _ = some (.int .i64 trn) by simp [go_sem]); have HB1 := Lib.hid ((((Below.refl w.heap.size w).alloc (Nat.le_refl _) (.cells #[.int .i64 (c : Int), .slice (some ⟨tb, tf, none⟩) xs.length cap, .int .i64 rws, .int .i64 trn] 36)).alloc (by simp) (.cells #[.int .i64 0, .slice none 0 0, .int .i64 0, .int .i64 0] 36)).trans (hb.mono (by simp; omega)))) | (at_builtin; refine wpList_append_F _ rfl _ _ rfl (w1.heap.size + 1) _ [] xs rfl (ownV_empty' (w1.alloc (.cells #[.int .i64 (c : Int), .slice (some ⟨tb, tf, none⟩) xs.length cap, .int .i64 rws, .int .i64 trn] 36)) _ (w1.heap.size + 1) (by simp) (by simp)) _ _ _ rfl (((HR.out.below HB1.out).alloc _).alloc _) (by rw [List.length_nil]; omega) rfl (by simp) ?_; intro v8 w2 hown8 hg8; rw [List.nil_append] at hown8; obtain ⟨g8, cap8, hv8, hk1, hk2, hk3, hk4⟩ := hown8.shape hx0; subst hv8; have M8 := Lib.hid (((Cells4.new w1 (.int .i64 (c : Int)) (.slice (some ⟨tb, tf, none⟩) xs.length cap) (.int .i64 rws) (.int .i64 trn) 36).alloc (.cells #[] 48)).grown hg8 (ne_blk (by simp))); obtain ⟨m80, m81, m82, m83, n80, n81, n82, n83⟩ := M8.out; have HB2 := Lib.hid ((((HB1.out.alloc (Nat.le_of_lt hz0) (.cells #[.int .i64 (c : Int), .slice (some ⟨tb, tf, none⟩) xs.length cap, .int .i64 rws, .int .i64 trn] 36)).alloc (by simp; omega) (.cells #[] 48)).grown hg8 (by simp; omega) (fun k e => by cases e; show w.heap.size ≤ w1.heap.size + 1; omega)).setCell (p := ⟨w1.heap.size, 1, none⟩) (Nat.le_of_lt hz0) (.slice (some ⟨g8, 0, none⟩) xs.length cap8))) | (at_builtin; go_must (refine wpList_append_F _ rfl _ _ rfl w2.heap.size _ [] ls rfl (ownV_empty' (w2.setCell ⟨w1.heap.size, 1, none⟩ (.slice (some ⟨g8, 0, none⟩) xs.length cap8)) _ w2.heap.size (by simp) (by simp)) _ _ _ rfl ((HLS.out.below HB2.out).alloc _) (by rw [List.length_nil, hlsl.out]; omega) hlsl.out (by simp) ?_; intro v9 w3 hown9 hg9; rw [List.nil_append] at hown9; obtain ⟨g9, cap9, hv9, hj1, hj2, hj3, hj4⟩ := hown9.shape (by rw [hlsl.out]; omega); rw [hlsl.out] at hv9; subst hv9)))
  have hw2 : w1.heap.size + 1 ≤ w2.heap.size := by omega
  have C3 := ((((((Cells4.new w (.int .i64 (c : Int)) (.slice (some ⟨tb, tf, none⟩) xs.length cap) (.int .i64 rws) (.int .i64 trn) 36).alloc (.cells #[.int .i64 0, .slice none 0 0, .int .i64 0, .int .i64 0] 36)).below hb).alloc (.cells #[.int .i64 (c : Int), .slice (some ⟨tb, tf, none⟩) xs.length cap, .int .i64 rws, .int .i64 trn] 36)).alloc (.cells #[] 48)).grown hg8 (ne_blk (by omega))).set (b' := w1.heap.size) (o := 1) (v := .slice (some ⟨g8, 0, none⟩) xs.length cap8) (by omega)
  have C6 := ((((((Cells4.new (w.alloc (.cells #[.int .i64 (c : Int), .slice (some ⟨tb, tf, none⟩) xs.length cap, .int .i64 rws, .int .i64 trn] 36)) (.int .i64 0) (.slice none 0 0) (.int .i64 0) (.int .i64 0) 36)).below hb).alloc (.cells #[.int .i64 (c : Int), .slice (some ⟨tb, tf, none⟩) xs.length cap, .int .i64 rws, .int .i64 trn] 36)).alloc (.cells #[] 48)).grown hg8 (ne_blk (by simp; omega))).set (b' := w1.heap.size) (o := 1) (v := .slice (some ⟨g8, 0, none⟩) xs.length cap8) (by simp; omega)
  have C8 := M8.out.put1 (.slice (some ⟨g8, 0, none⟩) xs.length cap8)
  have D3 := (C3.alloc (.cells #[] 48)).grown hg9 (ne_blk (by omega))
  have D6 := (C6.alloc (.cells #[] 48)).grown hg9 (ne_blk (by simp; omega))
  have D8 := (C8.alloc (.cells #[] 48)).grown hg9 (ne_blk (by omega))
  have o8 := hown8.setOther (b := w1.heap.size) (o := 1) (u := .slice (some ⟨g8, 0, none⟩) xs.length cap8) (by omega)
  have o8' := (o8.below ((Below.refl _ _).alloc (Nat.le_refl _) (.cells #[] 48)) (Nat.le_refl _)).kept hg9 (.inr (fun e => by have := Option.some.inj e; simp at this; omega))
  have HB3 := (HB2.out.alloc (by simp; omega) (.cells #[] 48)).grown hg9 (by simp; omega) (fun k e => by cases e; show w.heap.size ≤ w2.heap.size; omega)
  have IN : RInv w w1.heap.size g8 cap8 g9 cap9 c rws trn (.slice (some ⟨tb, tf, none⟩) xs.length cap) w3 (xs, ls) := by
    have e8 : Cells4 w3 w1.heap.size (.int .i64 c) (.slice (some ⟨g8, 0, none⟩) (tsz c) cap8) (.int .i64 rws) (.int .i64 trn) := by rw [← HX.out]; exact D8
    have e9 : OwnV w3 (w1.heap.size + 1) (.slice (some ⟨g8, 0, none⟩) (tsz c) cap8) xs := by rw [← HX.out]; exact o8'
    exact ⟨D3, by simpa using D6, e8, e9.mono (by omega), hown9.mono (by omega), HX.out, hlsl.out, HB3⟩
  have hlt89 : g8 < g9 := by omega
  have hltb : w1.heap.size < g8 := by omega
  clear C3 C6 C8 D3 D6 D8 o8 o8' HB3 M8 m80 m81 m82 m83 n80 n81 n82 n83 hown8 hown9 hg8 hg9 hb HB1 HB2 q0 q1 q2 q3 L HR HLS hk2 hk3 hk4 hj1 hj2 hj3 hj4 hk1
  obtain ⟨b8, hb8⟩ : ∃ b8, b8 = w1.heap.size := ⟨_, rfl⟩
  rw [← hb8] at IN hltb hz0 hz1
  go_loopw [10] (fun s10 wr => ∃ (j : Nat) (st : List (Option Nat) × List (Option Nat)), s10 = .int .i64 (j : Int) ∧ j ≤ c + 1 ∧ Hid (rlineFrom c (c + 1 - j) j st = rlineFrom c (c + 1 - j0) j0 (xs, ls)) ∧ RInv w w1.heap.size g8 cap8 g9 cap9 c rws trn (.slice (some ⟨tb, tf, none⟩) xs.length cap) wr st) (fun s10 _ => c + 1 - (intOf s10).toNat)
  case atStart => exact ⟨j0, (xs, ls), rfl, by omega, rfl, by rw [← hb8]; exact IN⟩
  case round =>
    obtain ⟨j, st, rfl, hj, hT, I⟩ := hrel
    obtain ⟨c30, c31, c32, c33, f30, f31, f32, f33⟩ := I.c3
    obtain ⟨c60, c61, c62, c63, f60, f61, f62, f63⟩ := I.c6
    obtain ⟨c80, c81, c82, c83, f80, f81, f82, f83⟩ := I.c8
    have HI := Lib.hid I
    by_cases hjc : j ≤ c
    · have hle : (j : Int) ≤ (c : Int) := by omega
      have hof : offs c j < tsz c := by have := offs_le c j h1 h6 (by omega); unfold tsz; omega
      obtain ⟨x, hx, hfx⟩ := I.own1.cell I.l1 hof
      obtain ⟨y, hy, hfy⟩ := I.own2.cell I.l2 (j := j) (by omega)
      have FX := Lib.hid hfx
      have FY := Lib.hid hfy
      have hofi : ((offs c j : Nat) : Int) < ((tsz c : Nat) : Int) := by omega
      have AA := Lib.hid (fun w => rat_in c j j w h1 h6 (Nat.le_refl _) hjc)
      rw [Nat.sub_self, Nat.add_zero] at AA
      have HOJ := Lib.hid (rfl : offs c j = offs c j)
      clear hfx hfy I
      obtain ⟨o, ho⟩ : ∃ o, o = offs c j := ⟨_, rfl⟩
      rw [← ho] at AA hx hofi FX hof
      have HOO := Lib.hid ho
      clear ho HOJ
      go_wp2_with (go_at_call 55; refine (AA.out _).mono ?_; rintro e w' ⟨rfl, rfl⟩)
      go_cut [13, 14, 15, 16] from 54 to 130 (fun s13 s14 s15 s16 wx => OfPost (ofF (st.1.getD o none) (st.2.getD j none)) (.returned (.tuple #[s13, s14, s15, s16])) ∧ Below wr.heap.size wr wx)
      case first =>
        -- A10
        rename_i J K' hJ hK'
        rcases hO : ofF (st.1.getD o none) (st.2.getD j none) with _ | ⟨cc, ss, r⟩
        · have R1 := fun W => rOf_calls x y W FX.out FY.out
          rw [hO] at R1
          have HO := Lib.hid (And.intro hO R1)
          clear hO R1
          go_region_with (go_at_call 81; refine (HO.out.2 _).mono ?_; rintro e wO ⟨hpo, hbO⟩; obtain rfl : e = .returned (.tuple #[.float .f64 0, .float .f64 0, .float .f64 0, .bool false]) := hpo)
          all_goals simp only [Act.put, List.getElem_toArray, List.getElem_cons_succ, List.getElem_cons_zero, List.setIfInBounds_toArray, List.set_cons_succ, List.set_cons_zero]
          all_goals (refine hK' _ _ (Met.intro (hJ _ _ ?_)); (repeat apply Exists.intro); refine ⟨?_, rfl⟩; exact ⟨by rw [HO.out.1]; rfl, (below_drewN (Below.refl _ _) 1).trans hbO⟩)
        · have R1 := fun W => rOf_calls x y W FX.out FY.out
          rw [hO] at R1
          have HO := Lib.hid (And.intro hO R1)
          clear hO R1
          go_region_with (go_at_call 81; refine (HO.out.2 _).mono ?_; rintro e wO ⟨⟨qu, qv, qz, rfl, hqu, hqv, hqz⟩, hbO⟩)
          all_goals simp only [Act.put, List.getElem_toArray, List.getElem_cons_succ, List.getElem_cons_zero, List.setIfInBounds_toArray, List.set_cons_succ, List.set_cons_zero]
          all_goals (refine hK' _ _ (Met.intro (hJ _ _ ?_)); (repeat apply Exists.intro); refine ⟨?_, rfl⟩; exact ⟨by rw [HO.out.1]; exact ⟨_, _, _, rfl, hqu, hqv, hqz⟩, (below_drewN (Below.refl _ _) 1).trans hbO⟩)
        -- B10
      case rest =>
        obtain ⟨hpost, hbC⟩ := hcut
        have C6 := (HI.out.c6.below hbC)
        have BL := HI.out.below.trans (hbC.mono HI.out.below.size)
        have eT := hT.out
        rw [show c + 1 - j = (c - j) + 1 by omega] at eT
        have hs1 := HI.out.below.size
        have hl6 := HI.out.c6.lt
        rcases hO : ofF (st.1.getD o none) (st.2.getD j none) with _ | ⟨cc, ss, r⟩
        · rw [hO] at hpost
          have hp : Ending.returned (.tuple #[u13, u14, u15, u16]) = .returned (.tuple #[.float .f64 0, .float .f64 0, .float .f64 0, .bool false]) := hpost
          simp only [Ending.returned.injEq, Value.tuple.injEq, Array.mk.injEq, List.cons.injEq, and_true] at hp
          obtain ⟨rfl, rfl, rfl, rfl⟩ := hp
          obtain ⟨d60, d61, d62, d63, g60, g61, g62, g63⟩ := C6
          have eN : rlineP c rws trn j0 (xs, ls) = none := by
            unfold rlineP
            rw [← eT]
            unfold rlineFrom rstep
            rw [← HOO.out, hO]
          have EN := Lib.hid eN
          clear eN eT hO
          go_wp2
          have P6 := (HI.out.c6.below hbC).put (.int .i64 0) (.slice none 0 0) (.int .i64 0) (.int .i64 0)
          refine bodyPost_ret (v := .tuple #[facZ, .bool false]) (by simp [results, Try.results65, go_sem, P6.c0, P6.c1, P6.c2, P6.c3, facZ]) rfl ⟨by rw [EN.out]; rfl, ?_⟩
          exact (((BL.setCell (p := ⟨w.heap.size + 1, 0, none⟩) (by simp) _).setCell (p := ⟨w.heap.size + 1, 1, none⟩) (by simp) _).setCell (p := ⟨w.heap.size + 1, 2, none⟩) (by simp) _).setCell (p := ⟨w.heap.size + 1, 3, none⟩) (by simp) _
        · rw [hO] at hpost
          obtain ⟨qu, qv, qz, hp, hqu, hqv, hqz⟩ := hpost
          simp only [Ending.returned.injEq, Value.tuple.injEq, Array.mk.injEq, List.cons.injEq, and_true] at hp
          obtain ⟨rfl, rfl, rfl, rfl⟩ := hp
          have I1 := HI.out.keep hbC
          obtain ⟨d80, d81, d82, d83, g80, g81, g82, g83⟩ := I1.c8
          obtain ⟨d30, d31, d32, d33, g30, g31, g32, g33⟩ := I1.c3
          obtain ⟨x1, hx1, _⟩ := I1.own1.cell I1.l1 hof
          have fx1 := I1.own1.frozen I1.l1 o
          have I2 := Lib.hid (I1.put1 hqz (j := o) (by omega) (by omega) (by omega) (by omega) (by omega))
          have HF := Lib.hid (And.intro hqu hqv)
          have HO := Lib.hid hO
          have ET := Lib.hid eT
          clear hO eT C6 hqu hqv BL I1
          go_wp2
          obtain ⟨wo, hwo⟩ : ∃ wo : World, wo = wr := ⟨_, rfl⟩
          have hoj := offs_le c j h1 h6 (by omega)
          have hts : tsz c = (c + 1) * (c + 2) / 2 := rfl
          rw [← hts, ← HOO.out] at hoj
          clear hts
          go_loopw [17] (fun s17 W => ∃ n k : Nat, s17 = .int .i64 (k : Int) ∧ k = j + 1 + n ∧ n ≤ c - j ∧ RInv w w1.heap.size g8 cap8 g9 cap9 c rws trn (.slice (some ⟨tb, tf, none⟩) xs.length cap) W (rturn cc ss j o n (st.1.set o r, st.2))) (fun s17 _ => c + 1 - (intOf s17).toNat)
          case atStart => exact ⟨0, j + 1, by go_num, rfl, Nat.zero_le _, I2.out⟩
          case round =>
            obtain ⟨n, k, rfl, hk, hn, BV⟩ := hrel
            obtain ⟨a80, a81, a82, a83, _, _, _, _⟩ := BV.c8
            obtain ⟨a30, a31, a32, a33, _, _, _, _⟩ := BV.c3
            by_cases hnl : n < c - j
            · obtain ⟨q, hq⟩ : ∃ q, q = o + 1 + n := ⟨_, rfl⟩
              have AB := fun w => rat_in c j k w h1 h6 (by omega) (by omega)
              rw [show offs c j + (k - j) = q by rw [← HOO.out]; omega] at AB
              have AC := Lib.hid AB
              obtain ⟨x2, hx2, fx2⟩ := BV.own1.cell BV.l1 (j := q) (by omega)
              obtain ⟨y2, hy2, fy2⟩ := BV.own2.cell BV.l2 (j := k) (by omega)
              have fz1 := BV.own1.frozen BV.l1 q
              have fz2 := BV.own2.frozen BV.l2 k
              have FXY := Lib.hid (And.intro fx2 fy2)
              have HBV := Lib.hid BV
              have HKQ := Lib.hid (And.intro hk hq)
              have hkc : (k : Int) ≤ (c : Int) := by omega
              have hqi : (q : Int) < ((tsz c : Nat) : Int) := by omega
              clear fx2 fy2 BV hx hy hx1 fx1 hk hq AB
              go_wp2_with (go_at_call 55; refine (AC.out _).mono ?_; rintro e w' ⟨rfl, rfl⟩)
              go_cut [20, 21] from 93 to 130 (fun s20 s21 wx => ∃ u v, s20 = .float .f64 u ∧ s21 = .float .f64 v ∧ FW u (fadd (fmul cc ((rturn cc ss j o n (st.1.set o r, st.2)).1.getD q none)) (fmul ss ((rturn cc ss j o n (st.1.set o r, st.2)).2.getD k none))) ∧ FW v (fsub (fmul cc ((rturn cc ss j o n (st.1.set o r, st.2)).2.getD k none)) (fmul ss ((rturn cc ss j o n (st.1.set o r, st.2)).1.getD q none))) ∧ Below wr.heap.size wr wx)
              case first =>
                -- A18
                rename_i J K' hJ hK'
                go_region_with (go_at_call 82; refine (rTurn_calls qu qv x2 y2 _ HF.out.1 HF.out.2 FXY.out.1 FXY.out.2).mono ?_; rintro e wT ⟨tu, tv, rfl, htu, htv, hbT⟩)
                all_goals simp only [Act.put, List.getElem_toArray, List.getElem_cons_succ, List.getElem_cons_zero, List.setIfInBounds_toArray, List.set_cons_succ, List.set_cons_zero]
                all_goals (refine hK' _ _ (Met.intro (hJ _ _ ?_)); (repeat apply Exists.intro); refine ⟨?_, rfl⟩; exact ⟨_, _, rfl, rfl, htu, htv, (below_drewN (Below.refl _ _) 1).trans hbT⟩)
                -- B18
              case rest =>
                obtain ⟨tu, tv, rfl, rfl, htu, htv, hbT⟩ := hcut
                have B1 := HBV.out.keep hbT
                obtain ⟨e80, e81, e82, e83, _, _, _, _⟩ := B1.c8
                have r1 := (hbT.cell (p := ⟨g8, q, none⟩) (cell_lt hx2)).trans hx2
                have r2 := (hbT.cell (p := ⟨g9, k, none⟩) (cell_lt hy2)).trans hy2
                have r3 := (hbT.frozen (p := ⟨g8, q, none⟩) (cell_lt hx2)).trans fz1
                have r4 := (hbT.frozen (p := ⟨g9, k, none⟩) (cell_lt hy2)).trans fz2
                have HTU := Lib.hid (And.intro htu htv)
                have HB1 := Lib.hid B1
                clear htu htv B1
                go_wp2
                obtain ⟨hk, hq⟩ := HKQ.out
                subst hk
                subst hq
                refine ⟨⟨n + 1, j + 1 + n + 1, by go_num, by omega, by omega, ?_⟩, by simp [intOf]; omega⟩
                exact (HB1.out.put1 (j := o + 1 + n) HTU.out.1 (by omega) (by omega) (by omega) (by omega) (by omega)).put2 (j := j + 1 + n) HTU.out.2 (by omega) (by omega) (by omega) (by omega) (by omega)
            · obtain rfl : n = c - j := by omega
              have hkc : ¬ (k : Int) ≤ (c : Int) := by omega
              have HBV := Lib.hid BV
              have eR : rlineFrom c (c + 1 - (j + 1)) (j + 1) (rturn cc ss j o (c - j) (st.1.set o r, st.2)) = rlineFrom c (c + 1 - j0) j0 (xs, ls) := by
                rw [← ET.out, show c + 1 - (j + 1) = c - j by omega]
                show _ = (match rstep c j st with | none => none | some st' => rlineFrom c (c - j) (j + 1) st')
                unfold rstep
                rw [← HOO.out, HO.out]
              have ER := Lib.hid eR
              clear hk hn hnl BV eR hx hy hx1 fx1
              go_wp2
              refine ⟨⟨j + 1, _, by go_num, by omega, ER, HBV.out⟩, by simp [intOf]; omega⟩
    · have hle : ¬ (j : Int) ≤ (c : Int) := by omega
      have eT := hT.out
      rw [show c + 1 - j = 0 by omega] at eT
      have hs1 := HI.out.below.size
      have hs6 := HI.out.c6.lt
      have CK := rcheck_calls (c : Int) rws trn (some ⟨g8, 0, none⟩) (tsz c) cap8 st.1 wr HI.out.own1.row
      clear I
      cases hck : checkP (c : Int) st.1 rws trn
      · rw [hck] at CK
        have CKH := Lib.hid CK
        have eN : rlineP c rws trn j0 (xs, ls) = none := by
          unfold rlineP
          rw [← eT]
          show (if checkP (c : Int) st.1 rws trn = true then some st.1 else none) = none
          rw [hck]; rfl
        have EN := Lib.hid eN
        clear CK eN eT hck hT
        go_wp2_with (go_at_call 28; refine CKH.out.mono ?_; rintro e wC ⟨rfl, hbK⟩; obtain ⟨d60, d61, d62, d63, g60, g61, g62, g63⟩ := HI.out.c6.below hbK)
        have P6 := (HI.out.c6.below hbK).put (.int .i64 0) (.slice none 0 0) (.int .i64 0) (.int .i64 0)
        have BL := HI.out.below.trans (hbK.mono hs1)
        refine bodyPost_ret (v := .tuple #[facZ, .bool false]) (by simp [results, Try.results65, go_sem, P6.c0, P6.c1, P6.c2, P6.c3, facZ]) rfl ⟨by rw [EN.out]; rfl, ?_⟩
        exact (((BL.setCell (p := ⟨w.heap.size + 1, 0, none⟩) (by simp) _).setCell (p := ⟨w.heap.size + 1, 1, none⟩) (by simp) _).setCell (p := ⟨w.heap.size + 1, 2, none⟩) (by simp) _).setCell (p := ⟨w.heap.size + 1, 3, none⟩) (by simp) _
      · rw [hck] at CK
        have CKH := Lib.hid CK
        have eN : rlineP c rws trn j0 (xs, ls) = some st.1 := by
          unfold rlineP
          rw [← eT]
          show (if checkP (c : Int) st.1 rws trn = true then some st.1 else none) = some st.1
          rw [hck]; rfl
        have EN := Lib.hid eN
        clear CK eN eT hck hT
        go_wp2_with (go_at_call 28; refine CKH.out.mono ?_; rintro e wC ⟨rfl, hbK⟩; obtain ⟨d60, d61, d62, d63, g60, g61, g62, g63⟩ := HI.out.c6.below hbK; obtain ⟨d80, d81, d82, d83, g80, g81, g82, g83⟩ := HI.out.c8.below hbK)
        have P6 := (HI.out.c6.below hbK).put (.int .i64 (c : Int)) (.slice (some ⟨g8, 0, none⟩) (tsz c) cap8) (.int .i64 rws) (.int .i64 trn)
        have BL := HI.out.below.trans (hbK.mono hs1)
        have hg6 : w.heap.size + 1 ≠ g8 := by omega
        refine bodyPost_ret (v := .tuple #[.agg #[.int .i64 (c : Int), .slice (some ⟨g8, 0, none⟩) (tsz c) cap8, .int .i64 rws, .int .i64 trn], .bool true]) (by simp [results, Try.results65, go_sem, P6.c0, P6.c1, P6.c2, P6.c3]) rfl ⟨?_, ?_⟩
        · rw [EN.out]
          exact ⟨_, rfl, (((((HI.out.own1.below hbK (Nat.le_refl _)).setOther hg6).setOther hg6).setOther hg6).setOther hg6).row⟩
        · exact (((BL.setCell (p := ⟨w.heap.size + 1, 0, none⟩) (by simp) _).setCell (p := ⟨w.heap.size + 1, 1, none⟩) (by simp) _).setCell (p := ⟨w.heap.size + 1, 2, none⟩) (by simp) _).setCell (p := ⟨w.heap.size + 1, 3, none⟩) (by simp) _
end Go.Proofs.Ytgmaljikjkbdlaa
