/- A factor's square part and its last column, walked. -/
import Derived.Test.YtfohknalldelfaaVb
import Derived.Test.YtfohknalldelfaaSk
import Derived.Test.YtfohknalldelfaaRd
import Derived.Deep.CutRange
import Derived.Deep.OwnRows
namespace Go.Proofs.Ytfohknalldelfaa
open Go.RowKit Lv Go.Shelf
open Ieee (double Format Datum Toward)
attribute [local go_sem] Oper.semAt_some run_store_float drewN_alloc drewN_setCell

theorem made_sq {c i : Nat} (h : i < c) : (madeCells #[.slice none 0 0] c)[i]? = some (Value.slice none 0 0) := by
  rw [← Array.getElem?_toList, toList_madeCells_one, List.getElem?_replicate, if_pos h]
/-- both slices, made -/
def SqNew (W0 : World) (c : Nat) (s s' : Value) (W : World) : Prop :=
  ∃ qb xb : Nat, s = .slice (some ⟨qb, 0, none⟩) c c ∧ s' = .slice (some ⟨xb, 0, none⟩) c c ∧ qb ≠ xb ∧ W0.heap.size ≤ qb ∧ W0.heap.size ≤ xb ∧ qb < W.heap.size ∧ xb < W.heap.size ∧ W.heap.size = W0.heap.size + 2 ∧
    (∀ i, i < c → W.cell? ⟨qb, i, none⟩ = some (.slice none 0 0) ∧ W.frozen? ⟨qb, i, none⟩ = false) ∧ OwnV W W0.heap.size (.slice (some ⟨xb, 0, none⟩) c c) (List.replicate c (some 0)) ∧ Below W0.heap.size W0 W
theorem sqNew_a {W : World} {c N : Nat} (hN : W.heap.size = N) (t : TypeId) (h1 : 1 ≤ c) (h6 : c ≤ 6) : SqNew W c (.slice (some ⟨N, 0, none⟩) c c) (.slice (some ⟨N + 1, 0, none⟩) c c) (((W.alloc (.cells (madeCells #[.slice none 0 0] c) t)).alloc (.cells (madeCells #[.float .f64 0] c) 25)).drew) := by
  subst hN
  obtain ⟨k, rfl⟩ : ∃ k, c = k + 1 := ⟨c - 1, by omega⟩
  refine ⟨W.heap.size, W.heap.size + 1, rfl, rfl, by omega, Nat.le_refl _, by omega, by first | (simp; done) | (simp; omega), by first | (simp; done) | (simp; omega), by simp, fun i hi => ?_, ?_, (((Below.refl W.heap.size W).alloc (Nat.le_refl _) _).alloc (by simp) _).drew⟩
  · have hm := made_sq hi
    constructor
    · simp [go_sem, hm]
    · simp [go_sem]
  · have := own_made (W.alloc (.cells (madeCells #[.slice none 0 0] (k + 1)) t)) W.heap.size k (by simp) (by omega)
    have h2 := this.below (Below.refl _ _).drew (Nat.le_refl _)
    simpa using h2
theorem sqNew_b {W : World} {c N : Nat} (hN : W.heap.size = N) (t : TypeId) (h1 : 1 ≤ c) (h6 : c ≤ 6) : SqNew W c (.slice (some ⟨N + 1, 0, none⟩) c c) (.slice (some ⟨N, 0, none⟩) c c) (((W.alloc (.cells (madeCells #[.float .f64 0] c) 25)).alloc (.cells (madeCells #[.slice none 0 0] c) t)).drew) := by
  subst hN
  obtain ⟨k, rfl⟩ : ∃ k, c = k + 1 := ⟨c - 1, by omega⟩
  refine ⟨W.heap.size + 1, W.heap.size, rfl, rfl, by omega, by omega, Nat.le_refl _, by first | (simp; done) | (simp; omega), by first | (simp; done) | (simp; omega), by simp, fun i hi => ?_, ?_, (((Below.refl W.heap.size W).alloc (Nat.le_refl _) _).alloc (by simp) _).drew⟩
  · have hm := made_sq hi
    constructor
    · simp [go_sem, hm]
    · simp [go_sem]
  · have := own_made W W.heap.size k (Nat.le_refl _) (by omega)
    exact (this.below ((Below.refl _ _).alloc (Nat.le_refl _) _) (Nat.le_refl _)).below (Below.refl _ _).drew (Nat.le_refl _)
/-- what stands at the head of the loop over rows -/
structure SqInv (w : World) (qb xb c : Nat) (rws trn : Int) (xs : List (Option Nat)) (a : Option Addr) (n cap : Nat) (W : World) (j : Nat) (L : List (Option Nat)) : Prop where
  c1 : Cells4 W w.heap.size (.int .i64 c) (.slice a n cap) (.int .i64 rws) (.int .i64 trn)
  rows : SqAt W (w.heap.size + 3) qb c xs j
  own : OwnV W w.heap.size (.slice (some ⟨xb, 0, none⟩) c c) L
  len : L.length = c
  last : ∀ i, i < j → L.getD i none = ent xs c i c
  below : Below w.heap.size w W
  size : w.heap.size + 3 ≤ W.heap.size
/-- one row more: both orders of the stores -/
theorem SqInv.step {w W W' : World} {qb xb c n cap j g gcap x : Nat} {rws trn : Int} {xs L : List (Option Nat)} {a : Option Addr} (h : SqInv w qb xb c rws trn xs a n cap W j L) (hb : Below W.heap.size W W') (hj : j < c) (hq : w.heap.size < qb) (hx : w.heap.size < xb) (hqx : qb ≠ xb)
    (hq2 : qb < w.heap.size + 3) (hx2 : xb < w.heap.size + 3) (ho : OwnV W' W.heap.size (.slice (some ⟨g, 0, none⟩) (c + 1) gcap) (lineP xs c j)) (hl : (lineP xs c j).length = c + 1) (hc1 : c + 1 ≤ gcap) (hc2 : gcap ≤ maxLen) (hg : w.heap.size + 3 ≤ g) (hg2 : g < W'.heap.size) (hf : FW x (ent xs c j c)) :
    SqInv w qb xb c rws trn xs a n cap ((W'.setCell ⟨qb, j, none⟩ (.slice (some ⟨g, 0, none⟩) c gcap)).setCell ⟨xb, j, none⟩ (.float .f64 x)).drew (j + 1) (L.set j (ent xs c j c)) ∧
    SqInv w qb xb c rws trn xs a n cap ((W'.setCell ⟨xb, j, none⟩ (.float .f64 x)).setCell ⟨qb, j, none⟩ (.slice (some ⟨g, 0, none⟩) c gcap)).drew (j + 1) (L.set j (ent xs c j c)) := by
  have hlen : (L.set j (ent xs c j c)).length = c := by rw [List.length_set]; exact h.len
  have hlast : ∀ i, i < j + 1 → (L.set j (ent xs c j c)).getD i none = ent xs c i c := fun i hi => by
    rw [getD_set]
    by_cases e : i = j
    · rw [if_pos ⟨e, by rw [h.len]; omega⟩, e]
    · rw [if_neg (fun k => e k.1), h.last i (by omega)]
  have own := h.own.below hb (Nat.le_refl _)
  have hs := hb.size
  have hsz := h.size
  have dr : ∀ W : World, Below W.heap.size W W.drew := fun W => (Below.refl _ _).drew
  have hbl := h.below.trans (hb.mono h.below.size)
  constructor
  · refine ⟨(((h.c1.below hb).set (by omega)).set (by omega)).below (dr _), (((h.rows.below hb).next hj (ho.mono (by omega)) hl hc1 hc2 hq2 hg hg2).set (by omega) hx2).below (dr _), ((own.setOther (by omega)).set h.len j hf).below (dr _) (Nat.le_refl _), hlen, hlast, ((hbl.setCell (p := ⟨qb, j, none⟩) (show w.heap.size ≤ qb by omega) _).setCell (p := ⟨xb, j, none⟩) (show w.heap.size ≤ xb by omega) _).drew, ?_⟩
    simp
    omega
  · refine ⟨(((h.c1.below hb).set (by omega)).set (by omega)).below (dr _), (((h.rows.below hb).set (by omega) hx2).next hj ((ho.setOther (by omega)).mono (by omega)) hl hc1 hc2 hq2 hg (by simpa using hg2)).below (dr _), ((own.set h.len j hf).setOther (by omega)).below (dr _) (Nat.le_refl _), hlen, hlast, ((hbl.setCell (p := ⟨xb, j, none⟩) (show w.heap.size ≤ xb by omega) _).setCell (p := ⟨qb, j, none⟩) (show w.heap.size ≤ qb by omega) _).drew, ?_⟩
    simp
    omega
/-- what square hands back -/
def SqPost (w : World) (c : Nat) (xs : List (Option Nat)) (e : Ending) (w' : World) : Prop :=
  ∃ (qb xb : Nat) (L : List (Option Nat)), e = .returned (.tuple #[.slice (some ⟨qb, 0, none⟩) c c, .slice (some ⟨xb, 0, none⟩) c c]) ∧ SqAt w' (w.heap.size + 3) qb c xs c ∧ qb ≠ xb ∧ w.heap.size ≤ qb ∧ w.heap.size ≤ xb ∧ xb < w.heap.size + 3 ∧ qb < w.heap.size + 3 ∧
    OwnV w' w.heap.size (.slice (some ⟨xb, 0, none⟩) c c) L ∧ L.length = c ∧ (∀ i, i < c → L.getD i none = ent xs c i c) ∧ w.heap.size + 3 ≤ w'.heap.size

set_option maxRecDepth 100000 in
set_option maxHeartbeats 4000000 in
theorem square_calls (c : Nat) (rws trn : Int) (a : Option Addr) (n cap : Nat) (xs : List (Option Nat)) (w : World) (h : Row w (.slice a n cap) xs) (hok : checkP (c : Int) xs rws trn = true) :
    Calls Try.prog 19 #[.agg #[.int .i64 (c : Int), .slice a n cap, .int .i64 rws, .int .i64 trn]] w fun e w' => SqPost w c xs e w' ∧ Below w.heap.size w w' := by
  have hB := (Below.refl w.heap.size w).alloc (Nat.le_refl _) (.cells #[.int .i64 (c : Int), .slice a n cap, .int .i64 rws, .int .i64 trn] 24)
  have HB := Lib.hid hB
  have HC := Lib.hid (Cells4.new w (.int .i64 (c : Int)) (.slice a n cap) (.int .i64 rws) (.int .i64 trn) 24)
  have HR := Lib.hid h
  obtain ⟨hc1, hc6⟩ := checkP_cols hok
  have h1 : 1 ≤ c := by omega
  have h6 : c ≤ 6 := by omega
  have hxl := checkP_len hok
  have LC := Lib.hid (fun j (hj : j ≤ c) W (hW : Row W (.slice a n cap) xs) => line_calls c j rws trn a n cap xs W hW hok hj)
  have LL := Lib.hid (fun j (hj : j ≤ c) => lineP_len h1 h6 hxl hj)
  have hmk := run_make_row' (P := Try.prog) 38 22 (.slice none 0 0) 24 (by kernel_rfl) (by kernel_rfl) rfl .i64 .i64 c (by omega) (by omega)
  have hmk2 := run_make_row' (P := Try.prog) 22 25 (.float .f64 0) 8 (by kernel_rfl) (by kernel_rfl) rfl .i64 .i64 c (by omega) (by omega)
  clear h hok hB hxl
  go_enter Try.func19, Try.ntmps19
  go_upto_region 1 with (fail)
  obtain ⟨W0, hW0⟩ : ∃ x, x = w.alloc (.cells #[.int .i64 (c : Int), .slice a n cap, .int .i64 rws, .int .i64 trn] 24) := ⟨_, rfl⟩
  have hs0 : W0.heap.size = w.heap.size + 1 := by rw [hW0]; simp
  rw [← hW0] at HB HC
  rw [← hW0]
  clear hW0
  go_cut [4, 5] from 8 to 13 (fun s4 s5 wx => SqNew W0 c s4 s5 wx)
  case first =>
    rename_i J K' hJ hK'
    obtain ⟨c0, _, _, _, _, _, _, _⟩ := HC.out
    -- A1
    go_region
    all_goals
      refine hK' _ _ (Met.intro (hJ _ _ ?_))
      (repeat apply Exists.intro)
      refine ⟨?_, rfl⟩
      first | exact sqNew_a hs0 _ h1 h6 | exact sqNew_b hs0 _ h1 h6
    -- B1
  case rest =>
    obtain ⟨qb, xb, rfl, rfl, hqx, hq0, hx0, hq1, hx1, hsz, hcq, hown, hbn⟩ := hcut
    obtain ⟨W1, rfl⟩ : ∃ x, x = wc := ⟨_, rfl⟩
    have I0 : SqInv w qb xb c rws trn xs a n cap W1 0 (List.replicate c (some 0)) :=
      ⟨HC.out.below hbn, fun i hi => ⟨⟨_, (hcq i hi).1, slice_ne⟩, (hcq i hi).2, fun h => absurd h (Nat.not_lt_zero _)⟩, hown.mono (by omega), by rw [List.length_replicate], fun i hi => absurd hi (Nat.not_lt_zero i), HB.out.trans (hbn.mono (by omega)), by omega⟩
    have HI0 := Lib.hid I0
    clear hcq hown hbn I0 hmk hmk2
    go_wp2
    go_loopw [16] (fun s16 W => ∃ (j : Nat) (L : List (Option Nat)), s16 = .int .i64 (j : Int) ∧ j ≤ c ∧ SqInv w qb xb c rws trn xs a n cap W j L) (fun s16 _ => c - (intOf s16).toNat)
    case atStart => exact ⟨0, _, rfl, Nat.zero_le _, HI0.out⟩
    case round =>
      obtain ⟨j, L, rfl, hj, I⟩ := hrel
      have HI := Lib.hid I
      obtain ⟨c0, c1, c2, c3, _, _, _, _⟩ := I.c1
      clear I
      by_cases hjc : j < c
      · have hji : (j : Int) < (c : Int) := by omega
        go_wp2_with (go_at_call 41; go_must (refine (LC.out j (by omega) _ (HR.out.below HI.out.below)).mono ?_; rintro e wL ⟨⟨v, rfl, hownL⟩, hbL⟩; obtain ⟨g, gcap, hv, hg1, hg2, hg3, hg4⟩ := hownL.shape (by rw [LL.out j (by omega)]; omega); rw [LL.out j (by omega)] at hv hg3; subst hv; have HOL := Lib.hid hownL; have HBL := Lib.hid hbL; clear hownL hbL))
        have hgs := HI.out.size
        have hs2 := HBL.out.size
        obtain ⟨x, hx, hfx⟩ := HOL.out.cell (LL.out j (by omega)) (j := c) (by omega)
        have FX := Lib.hid hfx
        obtain ⟨⟨u, u1, u2⟩, uf, _⟩ := (HI.out.rows.below HBL.out) j hjc
        obtain ⟨y, hy, hfy⟩ := (HI.out.own.below HBL.out (Nat.le_refl _)).cell HI.out.len hjc
        have yf := (HI.out.own.below HBL.out (Nat.le_refl _)).frozen HI.out.len j
        have HC1 := Lib.hid (HI.out.c1.below HBL.out)
        clear c0 c1 c2 c3 hfx hfy
        obtain ⟨c0, c1, c2, c3, _, _, _, _⟩ := HC1.out
        have hq2 : qb < w.heap.size + 3 := by omega
        have hx2 : xb < w.heap.size + 3 := by omega
        have n1 : g ≠ qb := by omega
        have n2 : g ≠ xb := by omega
        have n3 : w.heap.size ≠ qb := by omega
        have n4 : w.heap.size ≠ xb := by omega
        have n5 : qb ≠ w.heap.size := by omega
        have n6 : xb ≠ w.heap.size := by omega
        have n7 : qb ≠ g := by omega
        have n8 : xb ≠ g := by omega
        -- A2
        go_region
        all_goals
          go_wp2
          go_roundw
          case rel => first
            | exact ⟨j + 1, _, by go_num, by omega, (HI.out.step HBL.out hjc (by omega) (by omega) hqx hq2 hx2 HOL.out (LL.out j (by omega)) hg3 hg4 (by omega) hg2 FX.out).1⟩
            | exact ⟨j + 1, _, by go_num, by omega, (HI.out.step HBL.out hjc (by omega) (by omega) hqx hq2 hx2 HOL.out (LL.out j (by omega)) hg3 hg4 (by omega) hg2 FX.out).2⟩
          case measure => simp [intOf]; omega
        -- B2
      · have hji : ¬ (j : Int) < (c : Int) := by omega
        obtain rfl : j = c := by omega
        go_wp2
        go_ret2
        exact ⟨⟨qb, xb, L, rfl, HI.out.rows, hqx, by omega, by omega, by omega, by omega, HI.out.own, HI.out.len, HI.out.last, HI.out.size⟩, HI.out.below⟩
end Go.Proofs.Ytfohknalldelfaa
