/- Below solving, walked: a list of numbers, a zero on the diagonal, a factor's square part. -/
import Derived.Test.YtfohknalldelfaaVa
namespace Go.Proofs.Ytfohknalldelfaa
open Go.RowKit Lv Go.Shelf
open Ieee (double Format Datum Toward)
attribute [local go_sem] Oper.semAt_some run_store_float drewN_alloc drewN_setCell

set_option maxRecDepth 100000 in
theorem numbers_calls (a : Option Addr) (n cap : Nat) (xs : List (Option Nat)) (w : World) (h : Row w (.slice a n cap) xs) :
    Calls Try.prog 25 #[.slice a n cap] w fun e w' => e = .returned (.bool (!xs.any wildF)) ∧ w = w' := by
  have hm := row_max h
  have HL := Lib.hid h.len
  have HR := Lib.hid h
  clear h
  go_enter Try.func25, Try.ntmps25
  go_wp2
  go_loop [3] (fun i => ∃ k : Nat, k ≤ n ∧ i = .int .i64 (k : Int) ∧ Hid ((xs.take k).any wildF = false)) (fun i => n - (intOf i).toNat)
  case atStart => exact ⟨0, Nat.zero_le _, rfl, rfl⟩
  case round =>
    obtain ⟨k, hk, rfl, hrel⟩ := hrel
    by_cases hlt : k < n
    · have hi : (k : Int) < (n : Int) := by omega
      obtain ⟨blk, off, rfl, hc⟩ := row_cell HR.out (by omega)
      obtain ⟨b, hb, hfw⟩ := hc k hlt
      have hst := Lib.hid (any_step (p := wildF) (by rw [HL.out]; exact hlt) hrel.out)
      have hnw := numW_F hfw
      obtain ⟨p, q, r, e1⟩ := splV_kind b
      have S := Lib.hid (rSplit_calls b hfw.1)
      rw [e1] at S
      have hkd : numW b = decide (kindW b ≤ 1) := rfl
      rw [hnw] at hkd
      have HK := Lib.hid hkd
      clear hc e1 hfw hnw hkd
      generalize kindW b = kb at *
      by_cases hk1 : 1 < kb
      · have hw : wildF (xs.getD k none) = true := by unfold wildF; rw [HK.out, decide_eq_false (by omega)]; rfl
        have HA : Hid (xs.any wildF = true) := any_of_take (k := k + 1) (by rw [hst.out, hw])
        clear hw
        go_wp2_with (go_at_call 32; refine (S.out _).mono ?_; rintro e w' ⟨rfl, rfl⟩)
        go_ret
        exact ⟨ret_bool (by rw [HA.out]; rfl), rfl⟩
      · have hw : wildF (xs.getD k none) = false := by unfold wildF; rw [HK.out, decide_eq_true (by omega)]; rfl
        have HW := Lib.hid hw
        clear hw
        go_wp2_with (go_at_call 32; refine (S.out _).mono ?_; rintro e w' ⟨rfl, rfl⟩)
        go_round
        case rel => exact ⟨k + 1, by omega, by go_num, by show _ = false; rw [hst.out, HW.out]⟩
        case measure => simp [intOf]; omega
    · obtain rfl : k = n := by omega
      go_wp2
      go_ret
      have := hrel.out
      rw [List.take_of_length_le (by rw [HL.out]; exact Nat.le_refl _)] at this
      exact ⟨ret_bool (by rw [this]; rfl), rfl⟩

/-- rows of the square part, and the last column, as they are laid down: of the first j rows the slices stand in block qb -/
def SqAt (W : World) (B qb c : Nat) (xs : List (Option Nat)) (j : Nat) : Prop :=
  ∀ i, i < c → (∃ u, W.cell? ⟨qb, i, none⟩ = some u ∧ ∀ x, u ≠ .float .f64 x) ∧ W.frozen? ⟨qb, i, none⟩ = false ∧
    (i < j → ∃ g cap, W.cell? ⟨qb, i, none⟩ = some (.slice (some ⟨g, 0, none⟩) c cap) ∧ c + 1 ≤ cap ∧ cap ≤ maxLen ∧ B ≤ g ∧ g < W.heap.size ∧ ∀ k, k ≤ c → ∃ b, W.cell? ⟨g, k, none⟩ = some (.float .f64 b) ∧ FW b (ent xs c i k))
theorem SqAt.below {W W' : World} {B qb c j : Nat} {xs : List (Option Nat)} (h : SqAt W B qb c xs j) (hb : Below W.heap.size W W') : SqAt W' B qb c xs j := by
  intro i hi
  obtain ⟨⟨u, u1, u2⟩, f, r⟩ := h i hi
  refine ⟨⟨u, (hb.cell (p := ⟨qb, i, none⟩) (cell_lt u1)).trans u1, u2⟩, (hb.frozen (p := ⟨qb, i, none⟩) (cell_lt u1)).trans f, fun hij => ?_⟩
  obtain ⟨g, cap, r1, r2, r3, r4, r5, r6⟩ := r hij
  refine ⟨g, cap, (hb.cell (p := ⟨qb, i, none⟩) (cell_lt r1)).trans r1, r2, r3, r4, Nat.lt_of_lt_of_le r5 hb.size, fun k hk => ?_⟩
  obtain ⟨b, b1, b2⟩ := r6 k hk
  exact ⟨b, (hb.cell (p := ⟨g, k, none⟩) r5).trans b1, b2⟩
/-- a store into another block below the rows -/
theorem SqAt.set {W : World} {B qb c j b o : Nat} {xs : List (Option Nat)} {v : Value} (h : SqAt W B qb c xs j) (hq : b ≠ qb) (hg : b < B) : SqAt (W.setCell ⟨b, o, none⟩ v) B qb c xs j := by
  intro i hi
  obtain ⟨⟨u, u1, u2⟩, f, r⟩ := h i hi
  refine ⟨⟨u, cell_set_ne u1 hq, u2⟩, frozen_set f, fun hij => ?_⟩
  obtain ⟨g, cap, r1, r2, r3, r4, r5, r6⟩ := r hij
  refine ⟨g, cap, cell_set_ne r1 hq, r2, r3, r4, by simpa using r5, fun k hk => ?_⟩
  obtain ⟨b', b1, b2⟩ := r6 k hk
  exact ⟨b', cell_set_ne b1 (by omega), b2⟩
/-- the next row is laid down -/
theorem SqAt.next {W : World} {B qb c j g cap : Nat} {xs : List (Option Nat)} (h : SqAt W B qb c xs j) (hj : j < c) (ho : OwnV W B (.slice (some ⟨g, 0, none⟩) (c + 1) cap) (lineP xs c j)) (hl : (lineP xs c j).length = c + 1) (hc1 : c + 1 ≤ cap) (hc2 : cap ≤ maxLen) (hq : qb < B) (hB : B ≤ g) (hg : g < W.heap.size) :
    SqAt (W.setCell ⟨qb, j, none⟩ (.slice (some ⟨g, 0, none⟩) c cap)) B qb c xs (j + 1) := by
  intro i hi
  obtain ⟨⟨u, u1, u2⟩, f, r⟩ := h i hi
  by_cases e : i = j
  · subst e
    have k1 := cell_set_eq (v := .slice (some ⟨g, 0, none⟩) c cap) u1
    refine ⟨⟨_, k1, slice_ne⟩, frozen_set f, fun _ => ⟨g, cap, k1, hc1, hc2, hB, by simpa using hg, fun k hk => ?_⟩⟩
    obtain ⟨b, b1, b2⟩ := ho.cell hl (j := k) (by omega)
    exact ⟨b, cell_set_ne b1 (by omega), b2⟩
  · refine ⟨⟨u, cell_set_off u1 (Ne.symm e), u2⟩, frozen_set f, fun hij => ?_⟩
    obtain ⟨g', cap', r1, r2, r3, r4, r5, r6⟩ := r (by omega)
    refine ⟨g', cap', cell_set_off r1 (Ne.symm e), r2, r3, r4, by simpa using r5, fun k hk => ?_⟩
    obtain ⟨b, b1, b2⟩ := r6 k hk
    exact ⟨b, cell_set_ne b1 (by omega), b2⟩

theorem zero_word {b : Nat} {x : Option Nat} (h : FW b x) : (FloatKind.f64.format.order b 0 == some Ordering.eq) = zeroF x := by
  rw [is_zero' b h.1]
  obtain ⟨_, h⟩ := h
  cases x with
  | none =>
    have := nan_lt (ab_none h)
    exact decide_eq_false (by omega)
  | some c => obtain ⟨rfl, _⟩ := ab_some h; rfl
theorem any_range {p : Nat → Bool} {n : Nat} (k : Nat) (hk : k < n) (h : p k = true) : (List.range n).any p = true := List.any_eq_true.2 ⟨k, List.mem_range.2 hk, h⟩
theorem any_range_no {p : Nat → Bool} {n : Nat} (h : ∀ k, k < n → p k = false) : (List.range n).any p = false := by
  rw [List.any_eq_false]
  intro k hk
  rw [h k (List.mem_range.1 hk)]
  decide

set_option maxRecDepth 100000 in
theorem singular_calls (B qb c : Nat) (xs : List (Option Nat)) (w : World) (hc : c ≤ 6) (h : SqAt w B qb c xs c) :
    Calls Try.prog 20 #[.slice (some ⟨qb, 0, none⟩) c c] w fun e w' => e = .returned (.bool (singD xs c)) ∧ w = w' := by
  have HS := Lib.hid h
  have E : Hid (singD xs c = (List.range c).any fun i => zeroF (ent xs c i i)) := rfl
  clear h
  generalize singD xs c = sg at *
  go_enter Try.func20, Try.ntmps20
  go_wp2
  go_loop [7] (fun i => ∃ k : Nat, k ≤ c ∧ i = .int .i64 (k : Int) ∧ Hid (∀ i, i < k → zeroF (ent xs c i i) = false)) (fun i => c - (intOf i).toNat)
  case atStart => exact ⟨0, Nat.zero_le _, rfl, fun i hi => absurd hi (Nat.not_lt_zero i)⟩
  case round =>
    obtain ⟨k, hk, rfl, hrel⟩ := hrel
    by_cases hlt : k < c
    · have hi : (k : Int) < (c : Int) := by omega
      obtain ⟨_, _, r⟩ := HS.out k hlt
      obtain ⟨g, cap, r1, r2, r3, r4, r5, r6⟩ := r hlt
      obtain ⟨b, b1, b2⟩ := r6 k (by omega)
      have hz := zero_word b2
      cases hzz : zeroF (ent xs c k k)
      · rw [hzz] at hz
        have HZ := Lib.hid hzz
        clear hzz r r6 b2
        go_wp2
        go_round
        case rel => exact ⟨k + 1, by omega, by go_num, fun i hi => by
          by_cases e : i = k
          · rw [e]; exact HZ.out
          · exact hrel.out i (by omega)⟩
        case measure => simp [intOf]; omega
      · rw [hzz] at hz
        have HZ := Lib.hid hzz
        clear hzz r r6 b2
        go_wp2
        go_ret
        exact ⟨ret_bool (by rw [E.out, any_range k hlt HZ.out]), rfl⟩
    · obtain rfl : k = c := by omega
      go_wp2
      go_ret
      exact ⟨ret_bool (by rw [E.out, any_range_no hrel.out]), rfl⟩

set_option maxRecDepth 100000 in
theorem rsing_calls (c : Nat) (rws trn : Int) (a : Option Addr) (n cap : Nat) (xs : List (Option Nat)) (w : World) (h : Row w (.slice a n cap) xs) (hok : checkP (c : Int) xs rws trn = true) :
    Calls Try.prog 15 #[.agg #[.int .i64 (c : Int), .slice a n cap, .int .i64 rws, .int .i64 trn]] w fun e w' => e = .returned (.bool (singD xs c)) ∧ Below w.heap.size w w' := by
  have hB := (Below.refl w.heap.size w).alloc (Nat.le_refl _) (.cells #[.int .i64 (c : Int), .slice a n cap, .int .i64 rws, .int .i64 trn] 24)
  have HB := Lib.hid hB
  have HC := Lib.hid (Cells4.new w (.int .i64 (c : Int)) (.slice a n cap) (.int .i64 rws) (.int .i64 trn) 24)
  have HR := Lib.hid h
  obtain ⟨hc1, hc6⟩ := checkP_cols hok
  have G := Lib.hid (fun i (hi : i ≤ c) W (hW : Row W (.slice a n cap) xs) => rget_calls c i i rws trn a n cap xs W hW hok hi hi)
  have E : Hid (singD xs c = (List.range c).any fun i => zeroF (ent xs c i i)) := rfl
  clear h hok hB
  generalize singD xs c = sg at *
  go_enter Try.func15, Try.ntmps15
  go_wp2
  go_loopw [3] (fun i wr => ∃ k : Nat, k ≤ c ∧ i = .int .i64 (k : Int) ∧ Hid ((∀ i, i < k → zeroF (ent xs c i i) = false) ∧ Cells4 wr w.heap.size (.int .i64 (c : Int)) (.slice a n cap) (.int .i64 rws) (.int .i64 trn) ∧ Below w.heap.size w wr)) (fun i _ => c - (intOf i).toNat)
  case atStart => exact ⟨0, Nat.zero_le _, rfl, fun i hi => absurd hi (Nat.not_lt_zero i), HC.out, HB.out⟩
  case round =>
    obtain ⟨k, hk, rfl, hrel⟩ := hrel
    obtain ⟨c0, c1, c2, c3, _, _, _, _⟩ := hrel.out.2.1
    by_cases hlt : k < c
    · have hi : (k : Int) < (c : Int) := by omega
      cases hzz : zeroF (ent xs c k k)
      · have HZ := Lib.hid hzz
        clear hzz
        go_wp2_with (go_at_call 24; go_must (refine (G.out k (by omega) _ (HR.out.below hrel.out.2.2)).mono ?_; rintro e w2 ⟨⟨x, rfl, hfx⟩, hb2⟩; have hz := zero_word hfx; rw [show zeroF ((lineP xs c k).getD k none) = false from HZ.out] at hz; have HB2 := Lib.hid hb2; clear hfx hb2))
        go_roundw
        case rel => exact ⟨k + 1, by omega, by go_num, fun i hi => by
          by_cases e : i = k
          · rw [e]; exact HZ.out
          · exact hrel.out.1 i (by omega), hrel.out.2.1.below HB2.out, hrel.out.2.2.trans (HB2.out.mono hrel.out.2.2.size)⟩
        case measure => simp [intOf]; omega
      · have HZ := Lib.hid hzz
        clear hzz
        go_wp2_with (go_at_call 24; go_must (refine (G.out k (by omega) _ (HR.out.below hrel.out.2.2)).mono ?_; rintro e w2 ⟨⟨x, rfl, hfx⟩, hb2⟩; have hz := zero_word hfx; rw [show zeroF ((lineP xs c k).getD k none) = true from HZ.out] at hz; have HB2 := Lib.hid hb2; clear hfx hb2))
        go_ret
        exact ⟨ret_bool (by rw [E.out, any_range k hlt HZ.out]), hrel.out.2.2.trans (HB2.out.mono hrel.out.2.2.size)⟩
    · obtain rfl : k = c := by omega
      have hi : ¬ (k : Int) < (k : Int) := by omega
      go_wp2
      go_ret
      exact ⟨ret_bool (by rw [E.out, any_range_no hrel.out.1]), hrel.out.2.2⟩
end Go.Proofs.Ytfohknalldelfaa
