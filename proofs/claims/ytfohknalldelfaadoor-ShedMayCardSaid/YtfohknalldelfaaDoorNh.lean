/- The reference's Equal over lists that are equal, entry by entry. The program's At and Get at a place of a factor. A row of zeros absorbed: the plain law. -/
import Derived.Test.YtfohknalldelfaaDoorNe
import Derived.Test.YtfohknalldelfaaDoorSb
import Derived.Test.YtfohknalldelfaaDoorSi
namespace Go.Proofs.YtfohknalldelfaaDoor
open Go.RowKit Lv Go.Shelf
open Ieee (double Format Datum Toward)
attribute [local go_sem] Oper.semAt_some

theorem eqz_order {x y : Nat} (h : Eqz (some x) (some y)) : double.order x y = some .eq := by
  obtain ⟨s, t, r, hx, hy, h1, h2⟩ := h
  simp only [Option.some.injEq] at hx hy
  subst hx hy
  have hr : r < 9218868437227405312 := by rw [pw420] at h1; omega
  unfold Format.order
  rw [read_wd s hr, read_wd t hr]
  have e : Ieee.signed s (mg r) (pl r - min (pl r) (pl r)).toNat = Ieee.signed t (mg r) (pl r - min (pl r) (pl r)).toNat := by
    by_cases h0 : r = 0
    · subst h0
      rw [mg_zero]
      unfold Ieee.signed
      cases s <;> cases t <;> simp
    · rw [h2 h0]
  simp only [Datum.order, e]
  congr 1
  simp

set_option maxRecDepth 100000 in
theorem requal_calls (a b : Option Addr) (n c d : Nat) (xs ys : List (Option Nat)) (w : World) (h : Row w (.slice a n c) xs) (h' : Row w (.slice b n d) ys) (he : Eqs xs ys) :
    Calls Tryd.prog 20 #[.slice a n c, .slice b n d] w fun e w' => e = .returned (.bool true) ∧ Below w.heap.size w w' := by
  have hm := row_max h
  have hlen := h'.len
  have H := Lib.hid (And.intro h h')
  have hne : ((n : Int) != (n : Int)) = false := by simp
  have HE := Lib.hid (fun i (hi : i < n) => he.2 i (by rw [hlen]; exact hi))
  clear h h' he hlen
  go_enter Tryd.func20, Tryd.ntmps20
  go_wp2
  go_loopw [5] (fun s wr => ∃ k : Nat, s = .int .i64 (k : Int) ∧ k ≤ n ∧ Hid (Row wr (.slice a n c) xs ∧ Row wr (.slice b n d) ys ∧ Below w.heap.size w wr)) (fun s _ => n - (intOf s).toNat)
  case atStart => exact ⟨0, rfl, Nat.zero_le _, H.out.1, H.out.2, Below.refl _ _⟩
  case round =>
    obtain ⟨k, rfl, hk, HR⟩ := hrel
    by_cases hlt : k < n
    · obtain ⟨blk, off, rfl, hc⟩ := row_cell HR.out.1 (by omega)
      obtain ⟨blk', off', rfl, hc'⟩ := row_cell HR.out.2.1 (by omega)
      obtain ⟨x, hx1, hx2⟩ := hc k hlt
      obtain ⟨y, hy1, hy2⟩ := hc' k hlt
      have hq := HE.out k hlt
      obtain ⟨s, t, r, e1, e2, _⟩ := id hq
      rw [e1] at hx2
      rw [e2] at hy2
      obtain ⟨e3, _⟩ := ab_some hx2.2
      obtain ⟨e4, _⟩ := ab_some hy2.2
      rw [e1, e2, e3, e4] at hq
      have HO := eqz_order hq
      have HO2 : (FloatKind.f64.format.order x y != some Ordering.eq) = false := by rw [show FloatKind.f64.format.order x y = some Ordering.eq from HO]; rfl
      have hi : (k : Int) < (n : Int) := by omega
      clear hx2 hy2 hc hc' e1 e2 e3 e4 hq HO
      go_wp2
      go_quiet (fail)
      go_wp2
      go_roundw
      case rel => exact ⟨k + 1, by go_num, by omega, HR.out.1.below (below_drewN (Below.refl _ _) _), HR.out.2.1.below (below_drewN (Below.refl _ _) _), below_drewN HR.out.2.2 _⟩
      case measure => simp [intOf]; omega
    · have hi : ¬ (k : Int) < (n : Int) := by omega
      go_wp2
      go_ret
      exact ⟨rfl, HR.out.2.2⟩
end Go.Proofs.YtfohknalldelfaaDoor
namespace Go.Proofs.YtfohknalldelfaaDoor
open Go.RowKit Lv Go.Shelf
open Ieee (double Format Datum Toward)
attribute [local go_sem] Oper.semAt_some

theorem at_in (c i j : Nat) (w : World) (h1 : 1 ≤ c) (h6 : c ≤ 6) (hij : i ≤ j) (hj : j ≤ c) :
    Calls Tryd.prog 40 #[.int .i64 (c : Int), .int .i64 (i : Int), .int .i64 (j : Int)] w fun e w' => e = .returned (.tuple #[.int .i64 ((offs c i + (j - i) : Nat) : Int), .bool true]) ∧ w = w' := by
  have SZ := Lib.hid (fun w => size_in c w h1 h6)
  have BF := Lib.hid (fun w => before_calls c i w h1 h6 (by omega))
  have hs := offs_le c i h1 h6 (by omega)
  have hb : offs c i ≤ 28 := by have := (tsz_bounds h1 h6).2; unfold tsz at this; omega
  have hz : ((tsz c : Int) == 0) = false := by have := (tsz_bounds h1 h6).1; simp; omega
  have e1 : ¬ (i : Int) < 0 := by omega
  have e2 : ¬ (j : Int) < (i : Int) := by omega
  have e3 : ¬ (c : Int) < (j : Int) := by omega
  have e4 : ((offs c i + (j - i) : Nat) : Int) = (offs c i : Int) + (j : Int) - (i : Int) := by omega
  rw [e4]
  clear hs e4
  generalize offs c i = o at *
  generalize tsz c = z at *
  go_enter Tryd.func40, Tryd.ntmps40
  go_wp2_with (first | (go_at_call 35; refine (SZ.out _).mono ?_; rintro e w' ⟨rfl, rfl⟩) | (go_at_call 61; refine (BF.out _).mono ?_; rintro e w' ⟨rfl, rfl⟩))
  go_ret2
  exact ⟨rfl, rfl⟩

set_option maxRecDepth 100000 in
theorem get_calls (c i j : Nat) (rws trn : Int) (a : Option Addr) (n cap : Nat) (xs : List (Option Nat)) (w : World) (h : Row w (.slice a n cap) xs) (hok : checkP (c : Int) xs rws trn = true) (hi : i ≤ c) (hj : j ≤ c) (hij : i ≤ j) :
    Calls Tryd.prog 19 #[.agg #[.int .i64 (c : Int), .slice a n cap, .int .i64 rws, .int .i64 trn], .int .i64 (i : Int), .int .i64 (j : Int)] w fun e w' => (∃ b, e = .returned (.float .f64 b) ∧ FW b (xs.getD (offs c i + (j - i)) none)) ∧ Below w.heap.size w w' := by
  have hB := (Below.refl w.heap.size w).alloc (Nat.le_refl _) (.cells #[.int .i64 (c : Int), .slice a n cap, .int .i64 rws, .int .i64 trn] 24)
  have L := check_calls (c : Int) rws trn a n cap xs _ (h.below hB)
  rw [hok] at L
  have LH := Lib.hid L
  obtain ⟨hc1, hc6⟩ := checkP_cols hok
  have h1 : 1 ≤ c := by omega
  have h6 : c ≤ 6 := by omega
  have hxl := checkP_len hok
  have RA := Lib.hid (fun w => at_in c i j w h1 h6 hij hj)
  have hs := offs_le c i h1 h6 (by omega)
  have hn := h.len
  have hlt : offs c i + (j - i) < n := by unfold tsz at hxl; omega
  obtain ⟨blk, off, rfl, hc⟩ := row_cell h (by omega)
  obtain ⟨x, hx, hfx⟩ := hc _ hlt
  have hfw := Lib.hid hfx
  have hblk := cell_lt hx
  have hlti : ((offs c i + (j - i) : Nat) : Int) < (n : Int) := by omega
  clear L hok h hxl hc hfx hs hn hij
  generalize offs c i + (j - i) = o at *
  go_enter Tryd.func19, Tryd.ntmps19
  go_wp2_with (first | (go_at_call 40; refine (RA.out _).mono ?_; rintro e w' ⟨rfl, rfl⟩) | (go_at_call 18; refine LH.out.mono ?_; rintro e w1 ⟨rfl, hb⟩; have q0 := (hb.cell (p := ⟨w.heap.size, 1, none⟩) (by simp)).trans (show _ = some (.slice (some ⟨blk, off, none⟩) n cap) by simp [go_sem]); have q1 := (hb.cell (p := ⟨blk, off + o, none⟩) (by simp; omega)).trans ((hB.cell (p := ⟨blk, off + o, none⟩) hblk).trans hx)))
  go_ret
  exact ⟨⟨x, rfl, hfw.out⟩, hB.trans (hb.mono (by simp))⟩
end Go.Proofs.YtfohknalldelfaaDoor
namespace Go.Proofs.YtfohknalldelfaaDoor
open Go.RowKit Lv Go.Shelf
open Ieee (double Format Datum Toward)

theorem zs_rep (n : Nat) : Zs (List.replicate n (some 0)) := by
  intro i hi
  rw [List.length_replicate] at hi
  exact ⟨false, by rw [List.getD_eq_getElem?_getD, List.getElem?_replicate, if_pos hi]; rfl⟩
theorem out_zero : outF (some 0) = false := by decide +kernel
theorem row_zero {F : FacD} (hok : F.ok = true) (hw : ∀ i b, F.xs.getD i none = some b → b < 18446744073709551616) :
    (fullD F = true → rowD F (List.replicate F.cols.toNat (some 0)) (some 0) = (fac0, 6)) ∧
    (fullD F = false → ∃ ys, rowD F (List.replicate F.cols.toNat (some 0)) (some 0) = (⟨F.cols, ys, F.rws + 1, F.trn + (F.cols + 1)⟩, 0) ∧ Eqs ys F.xs ∧ ys.getD 0 none = F.xs.getD 0 none) := by
  obtain ⟨c1, c6⟩ := ok_cols hok
  have he : earlyD F (List.replicate F.cols.toNat (some 0)) (some 0) = 0 := by
    unfold earlyD
    rw [if_neg (by rw [hok]; decide), if_neg (by rw [List.length_replicate]; omega), if_neg]
    rw [out_zero, Bool.or_false]
    simp only [Bool.not_eq_true, List.any_eq_false]
    intro x hx
    rw [List.eq_of_mem_replicate hx]
    exact out_zero
  constructor
  · intro hf
    unfold rowD
    rw [he, if_neg (by decide), if_pos hf]
  · intro hf
    have hl : (List.replicate F.cols.toNat (some 0) ++ [some 0] : List (Option Nat)) = List.replicate (F.cols.toNat + 1) (some 0) := by
      rw [List.replicate_succ']
    obtain ⟨ys, e1, e2, e3⟩ := line_zero (ls := List.replicate (F.cols.toNat + 1) (some 0)) hok hw (zs_rep _) (by rw [List.length_replicate]; omega)
    refine ⟨ys, ?_, e2, e3⟩
    rw [rowD_line he hf, hl, e1, if_neg (show ¬ (true = false) by decide)]
theorem ridge_nought {F : FacD} (hok : F.ok = true) : ridgeD F (some 0) = (F, 0) := by
  refine ridgeD_some ?_
  unfold ridgeEarly
  rw [if_neg (by rw [hok]; decide), if_neg (by rw [out_zero]; decide), if_pos (by decide)]
theorem row_words {w : World} {v : Value} {xs : List (Option Nat)} (h : Row w v xs) : ∀ i b, xs.getD i none = some b → b < 18446744073709551616 := by
  intro i b hb
  obtain ⟨a, n, cap, rfl⟩ := h.form
  by_cases hi : i < n
  · obtain ⟨blk, off, _, hc⟩ := row_cell h (by omega)
    obtain ⟨x, _, hf⟩ := hc i hi
    rw [hb] at hf
    obtain ⟨rfl, _⟩ := ab_some hf.2
    exact hf.1
  · have := h.len
    rw [List.getD_eq_getElem?_getD, List.getElem?_eq_none (by omega)] at hb
    cases hb
end Go.Proofs.YtfohknalldelfaaDoor
