/- SolveNearForward: the plain law, and walked. -/
import Derived.Test.YtnboegeljaplbaaVl
import Derived.Test.YtnboegeljaplbaaZq
import Derived.Test.YtnboegeljaplbaaZr
namespace Go.Proofs.Ytnboegeljaplbaa
open Go.RowKit Lv Go.Shelf
open Ieee (double Format Datum Toward)
attribute [local go_sem] Oper.semAt_some run_store_float drewN_alloc drewN_setCell

theorem row_wb {w : World} {a : Option Addr} {n cap : Nat} {xs : List (Option Nat)} (h : Row w (.slice a n cap) xs) : ∀ i, Wb (xs.getD i none) := by
  intro i b hb
  have hl := h.len
  by_cases hi : i < n
  · obtain ⟨blk, off, _, hc⟩ := row_cell h (by omega)
    obtain ⟨x, _, hx1, hx2⟩ := hc i hi
    rw [hb] at hx2
    obtain ⟨rfl, hn⟩ := ab_some hx2
    exact ⟨hx1, nan_le hn⟩
  · rw [List.getD_eq_getElem?_getD, List.getElem?_eq_none (by omega)] at hb
    cases hb
/-- nothing behind place i -/
theorem sumQ_to {f : Nat → Rat} {c i : Nat} (hi : i < c) (h : ∀ k, i < k → k < c → f k = 0) : sumQ f c = f i + sumQ f i := by
  have e : c = (i + 1) + (c - (i + 1)) := by omega
  have := sumQ_split f (i + 1) (c - (i + 1))
  rw [← e] at this
  rw [this, sumQ_zero (f := fun k => f (i + 1 + k)) (c - (i + 1)) (fun k hk => h _ (by omega) (by omega))]
  show sumQ f i + f i + 0 = _
  grind
/-- what Forward comes to, column by column -/
theorem forw_fits {c : Nat} {xs vs ys : List (Option Nat)} {rws trn : Int} (hw : ∀ i, Wd (xs.getD i none)) (hv : ∀ i, Wb (vs.getD i none)) (h : forwD ⟨(c : Int), xs, rws, trn⟩ vs = (ys, 0)) :
    checkP (c : Int) xs rws trn = true ∧ TriOk c xs ∧ vs.length = c ∧ ys.length = c ∧ (∀ k, k < c → Lv.Fn (ys.getD k none)) ∧ ∀ i, i < c → Lv.Fn (vs.getD i none) ∧
      absR (fv (vs.getD i none) - sumQ (fun k => fv (ent xs c k i) * fv (ys.getD k none)) c) ≤ sumQ (fun k => absR (fv (ent xs c k i) * fv (ys.getD k none))) c * ((c + 2 : Nat) : Rat) * p2 (-53) + ((c : Rat) + absR (fv (ent xs c i i))) * p2 (-1070) := by
  unfold forwD at h
  by_cases h1 : (⟨(c : Int), xs, rws, trn⟩ : FacD).ok = false ∨ (vs.length : Int) ≠ (⟨(c : Int), xs, rws, trn⟩ : FacD).cols
  · rw [if_pos h1] at h; cases (Prod.mk.inj h).2
  · rw [if_neg h1] at h
    dsimp only at h
    rw [Int.toNat_natCast] at h
    have hck : checkP (c : Int) xs rws trn = true := by
      cases hh : (⟨(c : Int), xs, rws, trn⟩ : FacD).ok with
      | true => exact hh
      | false => exact absurd (.inl hh) h1
    have hvl : vs.length = c := by
      by_cases e : (vs.length : Int) = (c : Int)
      · omega
      · exact absurd (.inr e) h1
    have hT := tri_ok hck (fun a l _ _ => hw _)
    by_cases h2 : singD xs c = true
    · rw [if_pos h2] at h; cases (Prod.mk.inj h).2
    · rw [if_neg h2] at h
      unfold answD at h
      by_cases h3 : (forwT xs c vs c).any (fun x => !numF x) = true
      · rw [if_pos h3] at h; cases (Prod.mk.inj h).2
      · rw [if_neg h3] at h
        obtain rfl := (Prod.mk.inj h).1
        have hlen := forwT_len xs c vs c
        have hget : ∀ i, i < c → (forwT xs c vs c).getD i none = fdiv (lessF (vs.getD i none) (fun k => ent xs c k i) (fun k => (forwT xs c vs c).getD k none) i) (ent xs c i i) := by
          intro i hi
          rw [forwT_get xs c vs i (i + 1) c (by omega) (by omega)]
          have hl := forwT_len xs c vs i
          show (forwT xs c vs i ++ [_]).getD i none = _
          rw [List.getD_eq_getElem?_getD, List.getElem?_append_right (by omega), hl, Nat.sub_self]
          show fdiv _ _ = _
          congr 1
          refine lessF_congr i (fun k _ => rfl) (fun k hk => ?_)
          exact (forwT_get xs c vs k i c hk (by omega)).symm
        have hnum : ∀ k, k < c → Lv.Fn ((forwT xs c vs c).getD k none) := by
          intro k hk
          refine fn_num ?_ ?_
          · rw [hget k hk]; exact fdiv_wb _ _
          · have h4 : (forwT xs c vs c).any (fun x => !numF x) = false := by simpa using h3
            rw [List.any_eq_false] at h4
            have := h4 _ (getD_mem (ls := forwT xs c vs c) (i := k) (by omega))
            simpa using this
        refine ⟨hck, hT, hvl, hlen, hnum, fun i hi => ?_⟩
        have hz : zeroF (ent xs c i i) = false := by
          have h4 : singD xs c = false := by simpa using h2
          unfold singD at h4
          rw [List.any_eq_false] at h4
          have := h4 i (List.mem_range.2 hi)
          simpa using this
        obtain ⟨t, H, hd, hd0, hdH⟩ := not_zero (ent_wb hT (by omega) (by omega)) hz
        have hx := hnum i hi
        rw [hget i hi, hd] at hx
        obtain ⟨hZ, _, k3⟩ := row_fits (m := c) (show i + 1 ≤ c by omega) hT.h6 (hv i) (fun k hk => ⟨fn_wb (ent_wb hT (by omega) (by omega)), fn_wb (hnum _ (by omega))⟩) hd0 hdH hx
        rw [← hd, ← hget i hi] at k3
        have hzero : ∀ k, i < k → k < c → fv (ent xs c k i) = 0 := by
          intro k hk hkc
          unfold ent
          rw [getD_lineP (by omega) i (by omega), if_pos hk, fv_nil]
        refine ⟨hZ, ?_⟩
        rw [sumQ_to (f := fun k => fv (ent xs c k i) * fv ((forwT xs c vs c).getD k none)) hi (fun k hk hkc => by rw [hzero k hk hkc, Rat.zero_mul])]
        rw [sumQ_to (f := fun k => absR (fv (ent xs c k i) * fv ((forwT xs c vs c).getD k none))) hi (fun k hk hkc => by rw [hzero k hk hkc, Rat.zero_mul]; unfold absR; simp)]
        exact k3
theorem forw_err {F : FacD} {vs ys : List (Option Nat)} (h : forwD F vs = (ys, 0)) : F.ok = true := by
  unfold forwD at h
  by_cases h1 : F.ok = false ∨ (vs.length : Int) ≠ F.cols
  · rw [if_pos h1] at h; cases (Prod.mk.inj h).2
  · cases hh : F.ok with
    | true => rfl
    | false => exact absurd (.inl hh) h1
/-- a column of the square part -/
def colL (xs : List (Option Nat)) (c i : Nat) : List (Option Nat) := (List.range c).map fun k => ent xs c k i
theorem colL_len (xs : List (Option Nat)) (c i : Nat) : (colL xs c i).length = c := by unfold colL; simp
theorem colL_get {xs : List (Option Nat)} {c i k : Nat} (hk : k < c) : (colL xs c i).getD k none = ent xs c k i := by
  unfold colL
  rw [List.getD_eq_getElem?_getD, List.getElem?_map, List.getElem?_range hk]
  rfl
theorem colL_take {xs : List (Option Nat)} {c i k : Nat} (hk : k < c) : (colL xs c i).take (k + 1) = (colL xs c i).take k ++ [ent xs c k i] := by
  rw [List.take_succ_eq_append_getElem (by rw [colL_len]; exact hk)]
  unfold colL
  simp
set_option maxRecDepth 100000 in
set_option maxHeartbeats 4000000 in
theorem solveNearForward_walk (w : World) (F : FacD) (a : Option Addr) (n cap : Nat) (h : Row w (.slice a n cap) F.xs) (vs : List (Option Nat)) (b : Option Addr) (m d : Nat) (hv : Row w (.slice b m d) vs) :
    Calls Try.prog 8 #[.agg #[.int .i64 F.cols, .slice a n cap, .int .i64 F.rws, .int .i64 F.trn], .slice b m d] w fun e w' => e = .returned (.bool true) ∧ Below w.heap.size w w' := by
  have HB := Lib.hid ((Below.refl w.heap.size w).alloc (Nat.le_refl _) (.cells #[.int .i64 F.cols, .slice a n cap, .int .i64 F.rws, .int .i64 F.trn] 24))
  have C0 := Lib.hid (Cells4.new w (.int .i64 F.cols) (.slice a n cap) (.int .i64 F.rws) (.int .i64 F.trn) 24)
  have HR := Lib.hid h
  have HV := Lib.hid hv
  by_cases h1 : 60 < n
  · have h1i : (60 : Int) < (n : Int) := by omega
    clear h hv
    go_enter Try.func8, Try.ntmps8
    go_wp2_with (go_at_call 23; refine (live16_calls _).mono ?_; rintro e w6 ⟨rfl, hb6⟩)
    go_ret
    exact ⟨rfl, HB.out.trans (hb6.mono (by simp))⟩
  have h1i : ¬ (60 : Int) < (n : Int) := by omega
  by_cases h2 : 20 < m
  · have h2i : (20 : Int) < (m : Int) := by omega
    clear h hv
    go_enter Try.func8, Try.ntmps8
    go_wp2_with (go_at_call 23; refine (live16_calls _).mono ?_; rintro e w6 ⟨rfl, hb6⟩)
    go_ret
    exact ⟨rfl, HB.out.trans (hb6.mono (by simp))⟩
  have h2i : ¬ (20 : Int) < (m : Int) := by omega
  have BC := Lib.hid (fun W hW hV => forw_calls F a b n cap m d vs W hW hV)
  have HW := Lib.hid (And.intro (row_wd h) (row_wb hv))
  obtain ⟨R, hR⟩ : ∃ R, R = forwD F vs := ⟨_, rfl⟩
  rw [← hR] at BC
  obtain ⟨ys, ye⟩ := R
  by_cases hge : ye ≠ 0
  · have hne : (ye != 0) = true := by simpa using hge
    clear h hv hR hge
    go_enter Try.func8, Try.ntmps8
    go_wp2_with (first
      | (go_at_call 27; go_must (refine (BC.out _ (HR.out.below HB.out) (HV.out.below HB.out)).mono ?_; rintro e w2 ⟨⟨pa, pn, pcp, rfl, hp⟩, hb2⟩; dsimp only at hp; have B2 := Lib.hid (HB.out.trans (hb2.mono HB.out.size)); clear hp hb2))
      | (go_at_call 23; refine (live16_calls _).mono ?_; rintro e w8 ⟨rfl, hb8⟩))
    go_ret
    exact ⟨rfl, B2.out.trans (hb8.mono B2.out.size)⟩
  · obtain rfl : ye = 0 := by simpa using hge
    have hok := forw_err hR.symm
    obtain ⟨fc, fx, fr, ft⟩ := F
    obtain ⟨c, rfl⟩ := Int.eq_ofNat_of_zero_le (show 0 ≤ fc by have := ok_cols hok; dsimp only at this; omega)
    obtain ⟨hck, hT, hvl, hyl, hyn, hfit⟩ := forw_fits HW.out.1 HW.out.2 hR.symm
    have h1c := hT.h1
    have h6c := hT.h6
    obtain rfl : m = c := by have := hv.len; omega
    have GT := Lib.hid (fun k i (hk : k ≤ m) (hi : i ≤ m) W hW => rget_calls m k i fr ft a n cap fx W hW hck hk hi)
    have FI := Lib.hid hfit
    have YN := Lib.hid hyn
    have YL := Lib.hid hyl
    have EN := Lib.hid (fun k i (hk : k ≤ m) (hi : i ≤ m) => ent_wb hT hk hi)
    have hcc : ((m : Int) != (m : Int)) = false := by simp
    clear h hv hR hge hok hck hT hyl hyn hfit HW hvl
    go_enter Try.func8, Try.ntmps8
    go_upto_region 4 with (go_at_call 27; go_must (refine (BC.out _ (HR.out.below HB.out) (HV.out.below HB.out)).mono ?_; rintro e w2 ⟨⟨pa, pn, pcp, rfl, hp⟩, hb2⟩; dsimp only at hp; have B2 := Lib.hid (HB.out.trans (hb2.mono HB.out.size)); have C2 := Lib.hid (C0.out.below hb2); have P2 := Lib.hid hp; clear hb2 hp))
    obtain rfl : pn = m := by have := P2.out.len; rw [YL.out] at this; exact this.symm
    obtain ⟨c0, c1, c2, c3, _, _, _, _⟩ := C2.out
    go_wp2
    go_loopw [7] (fun s7 wr => ∃ i : Nat, s7 = .int .i64 (i : Int) ∧ i ≤ pn ∧ Hid (Below w2.heap.size w2 wr)) (fun s7 _ => pn - (intOf s7).toNat)
    case atStart => exact ⟨0, rfl, Nat.zero_le _, Below.refl _ _⟩
    case round =>
      obtain ⟨i, rfl, hi, HI⟩ := hrel
      clear c0 c1 c2 c3
      have C3 := Lib.hid (C2.out.below HI.out)
      obtain ⟨c0, c1, c2, c3, _, _, _, _⟩ := C3.out
      by_cases hlt : i < pn
      · have hii : (i : Int) < (pn : Int) := by omega
        obtain ⟨bs, hbs⟩ : ∃ bs, bs = wr.heap.size := ⟨_, rfl⟩
        have hb2 := Lib.hid (show w2.heap.size ≤ bs by rw [hbs]; exact HI.out.size)
        go_wp2
        go_loopw [8, 9] (fun s8 s9 wr => ∃ k : Nat, s9 = .int .i64 (k : Int) ∧ k ≤ pn ∧ Hid (OwnV wr bs s8 ((colL fx pn i).take k) ∧ Below w2.heap.size w2 wr ∧ bs ≤ wr.heap.size)) (fun _ s9 _ => pn - (intOf s9).toNat)
        case atStart => exact ⟨0, rfl, Nat.zero_le _, ownV_nil _ _, HI.out, by rw [hbs]; exact Nat.le_refl _⟩
        case round =>
          obtain ⟨k, rfl, hk, HK⟩ := hrel
          clear c0 c1 c2 c3
          have C4 := Lib.hid (C2.out.below HK.out.2.1)
          obtain ⟨c0, c1, c2, c3, _, _, _, _⟩ := C4.out
          by_cases hlk : k < pn
          · have hkk : (k : Int) < (pn : Int) := by omega
            have GK := Lib.hid (GT.out k i (by omega) (by omega) wr (HR.out.below (B2.out.trans (HK.out.2.1.mono B2.out.size))))
            have HTK := Lib.hid (colL_take (xs := fx) (c := pn) (i := i) hlk)
            have hlen : Hid (((colL fx pn i).take k).length = k) := by unfold Hid; rw [List.length_take, colL_len]; omega
            have hsz := Lib.hid HK.out.2.2
            rw [show (lineP fx pn k).getD i none = ent fx pn k i from rfl] at GK
            generalize ent fx pn k i = X at *
            go_wp2_with (first
              | (go_at_call 28; go_must (refine GK.out.mono ?_; rintro e w5 ⟨⟨x, rfl, hfx⟩, hb5⟩; have HX := Lib.hid hfx; have HB5 := Lib.hid hb5; clear hfx hb5))
              | (at_builtin; go_must (refine wpList_append_F _ rfl _ _ rfl bs _ ((colL fx pn i).take k) [X] rfl ((HK.out.1.below HB5.out (Nat.le_refl _)).below ((Below.refl _ _).alloc (Nat.le_refl _) (.cells #[.float .f64 x] 25)) (Nat.le_refl _)) _ _ _ rfl (row_one w5 x HX.out) (by rw [hlen.out]; simp; omega) rfl (by have := hsz.out; have := HB5.out.size; simp; omega) ?_; intro v9 w6 hown9 hg9)))
            have hg9 : World.grownBy _ w6 u8.ownBlock := hg9
            have BW := Lib.hid ((HK.out.2.1.trans (HB5.out.mono HK.out.2.1.size)).alloc (by have := HK.out.2.1.size; have := HB5.out.size; omega) (.cells #[.float .f64 x] 25))
            have hBe := Lib.hid (BW.out.grown hg9 BW.out.size (fun q e => by
              have := own_base HK.out.1 q e
              have := hb2.out
              omega))
            have hsz6 := Lib.hid (show bs ≤ w6.heap.size by
              have h5 := hg9.size
              have h6 := HB5.out.size
              have h7 := hsz.out
              simp at h5
              omega)
            replace hown9 := Lib.hid (show OwnV w6 bs v9 ((colL fx pn i).take (k + 1)) by rw [HTK.out]; exact hown9)
            clear hg9
            go_roundw
            case rel => exact ⟨k + 1, by go_num, by omega, hown9.out, hBe.out, hsz6.out⟩
            case measure => simp [intOf]; omega
          · obtain rfl : k = pn := by omega
            have hkk : ¬ (k : Int) < (k : Int) := by omega
            have OV := Lib.hid (show OwnV wr bs u8 (colL fx k i) by
              have := HK.out.1
              rwa [List.take_of_length_le (by rw [colL_len]; exact Nat.le_refl _)] at this)
            obtain ⟨g, gc, hv0, hg1, hg2, hg3, hg4⟩ := OV.out.shape (by rw [colL_len]; omega)
            rw [colL_len] at hv0 hg3
            subst hv0
            obtain ⟨yp, hyp, fyp⟩ := OV.out.cell (colL_len fx k i) (j := i) (by omega)
            obtain ⟨vb, vo, rfl, hvc⟩ := row_cell (HV.out.below (B2.out.trans (HK.out.2.1.mono B2.out.size))) (by omega)
            obtain ⟨yz, hyz, fyz⟩ := hvc i hlt
            obtain ⟨fz, hin0⟩ := FI.out i hlt
            have HFY := Lib.hid (And.intro fyz fyp)
            have hin : absR (fv (vs.getD i none) - sumQ (fun j => fv ((colL fx k i).getD j none) * fv (ys.getD j none)) k) ≤ sumQ (fun j => absR (fv ((colL fx k i).getD j none) * fv (ys.getD j none))) k * ((k + 2 : Nat) : Rat) * p2 (-53) + ((k : Rat) + absR (fv ((colL fx k i).getD i none))) * p2 (-1070) := by
              rw [colL_get hlt, sumQ_same k (fun j hj => by rw [colL_get hj] : ∀ j, j < k → fv ((colL fx k i).getD j none) * fv (ys.getD j none) = fv (ent fx k j i) * fv (ys.getD j none)), sumQ_same k (fun j hj => by rw [colL_get hj] : ∀ j, j < k → absR (fv ((colL fx k i).getD j none) * fv (ys.getD j none)) = absR (fv (ent fx k j i) * fv (ys.getD j none)))]
              exact hin0
            have hcf : ∀ j, j < k → Lv.Fn ((colL fx k i).getD j none) := fun j hj => by rw [colL_get hj]; exact EN.out j i (by omega) (by omega)
            have FT := Lib.hid (fun W (hb : Below wr.heap.size wr W) => sfits_calls (some ⟨g, 0, none⟩) pa k gc pcp yz yp (colL fx k i) ys (vs.getD i none) ((colL fx k i).getD i none) W (OV.out.row.below hb) (P2.out.below (HK.out.2.1.trans (hb.mono HK.out.2.1.size))) HFY.out.1 HFY.out.2 h1c h6c hcf YN.out fz (hcf i hlt) hin)
            have bA := Lib.hid (show Below wr.heap.size wr wr.drew from (Below.refl _ _).drew)
            have KP := Lib.hid (show ∀ W, Below wr.heap.size wr W → W.cell? ⟨w.heap.size, 0, none⟩ = some (.int .i64 (k : Int)) ∧ W.cell? ⟨vb, vo + i, none⟩ = some (.float .f64 yz) ∧ W.cell? ⟨g, i, none⟩ = some (.float .f64 yp) from fun W hb => ⟨(hb.cell (p := ⟨w.heap.size, 0, none⟩) (cell_lt c0)).trans c0, (hb.cell (p := ⟨vb, vo + i, none⟩) (cell_lt hyz)).trans hyz, (hb.cell (p := ⟨g, i, none⟩) (cell_lt hyp)).trans hyp⟩)
            have ka := Lib.hid (KP.out _ bA.out)
            have HK2 := Lib.hid HK.out.2.1
            clear hyz hyp fyz fyp hin hin0 hcf hvc
            go_wp2
            clear c0 c1 c2 c3
            go_region_held3 (fun w' => w'.cell? ⟨w.heap.size, 0, none⟩ = some (.int .i64 (k : Int)) ∧ w'.cell? ⟨vb, vo + i, none⟩ = some (.float .f64 yz) ∧ w'.cell? ⟨g, i, none⟩ = some (.float .f64 yp))
              (first
                | with_reducible exact ka.out
                | with_reducible exact K5.out)
              (first
                | (go_at_call 26; go_must (refine (FT.out _ bA.out).mono ?_; rintro e w5 ⟨rfl, hb⟩; have B5 := Lib.hid (bA.out.trans (hb.mono bA.out.size)); have K5 := Lib.hid (KP.out _ B5.out); clear hb)))
            go_wp2
            go_roundw
            case rel => exact ⟨i + 1, by go_num, by omega, HK2.out.trans (B5.out.mono HK2.out.size)⟩
            case measure => simp [intOf]; omega
      · obtain rfl : i = pn := by omega
        have hii : ¬ (i : Int) < (i : Int) := by omega
        go_wp2_with (go_at_call 23; refine (live16_calls _).mono ?_; rintro e w8 ⟨rfl, hb8⟩)
        go_ret
        exact ⟨rfl, (B2.out.trans (HI.out.mono B2.out.size)).trans (hb8.mono (by have := B2.out.size; have := HI.out.size; omega))⟩
end Go.Proofs.Ytnboegeljaplbaa
