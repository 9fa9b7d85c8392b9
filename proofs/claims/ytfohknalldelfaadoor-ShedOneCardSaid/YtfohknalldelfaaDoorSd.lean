/- A row's entries, of a row that has some; what is refused of a row ahead of counting. A row absorbed, plainly; what is refused of it, walked: Early, Row. -/
import Derived.Test.YtfohknalldelfaaDoorSb
namespace Go.Proofs.YtfohknalldelfaaDoor
open Go.RowKit Lv Go.Shelf
open Ieee (double Format Datum Toward)
attribute [local go_sem] run_store_float drewN_alloc drewN_setCell

theorem row_one (w : World) (y : Nat) {Y : Option Nat} (hy : FW y Y) : Row (w.alloc (.cells #[.float .f64 y] 31)) (.slice (some ⟨w.heap.size, 0, none⟩) 1 1) [Y] := by
  refine ⟨_, _, rfl, Nat.le_refl _, by unfold maxLen; omega, .inr ⟨w.heap.size, 0, rfl, fun i hi => ?_⟩⟩
  obtain rfl : i = 0 := by simp at hi; omega
  exact ⟨y, by simp [go_sem], hy⟩

set_option maxRecDepth 100000 in
theorem rentries_calls (b : Option Addr) (m d y : Nat) (ls : List (Option Nat)) {Y : Option Nat} (w : World) (h : Row w (.slice b m d) ls) (hy : FW y Y) (h0 : 0 < m) (h9 : m ≤ 900) :
    Calls Tryd.prog 22 #[.agg #[.slice b m d, .float .f64 y]] w fun e w' => ∃ v, e = .returned v ∧ OwnV w' w.heap.size v (ls ++ [Y]) ∧ Below w.heap.size w w' := by
  obtain ⟨lb, lo, rfl, hlb, hlen⟩ := h.shape h0
  have HR := Lib.hid h
  have HL := Lib.hid hlen
  have HY := Lib.hid hy
  clear h hlen hy
  go_enter Tryd.func22, Tryd.ntmps22
  go_wp2_with (first | (at_builtin; refine wpList_append_F _ rfl _ _ rfl (w.heap.size + 1) _ [] ls rfl (ownV_empty' (w.alloc (.cells #[.slice (some ⟨lb, lo, none⟩) m d, .float .f64 y] 33)) _ (w.heap.size + 1) (by simp) (by simp)) _ _ _ rfl ((HR.out.alloc _).alloc _) (by rw [List.length_nil, HL.out]; omega) HL.out (by simp) ?_; intro v8 w2 hown8 hg8; rw [List.nil_append] at hown8; obtain ⟨g8, cap8, hv8, hk1, hk2, hk3, hk4⟩ := hown8.shape (by rw [HL.out]; exact h0); rw [HL.out] at hv8; subst hv8; have c1 := hg8.cell (a := ⟨w.heap.size, 1, none⟩) (v := .float .f64 y) (by simp [go_sem]) (ne_blk (by simp)); have HB2 := Lib.hid ((((Below.refl w.heap.size w).alloc (Nat.le_refl _) (.cells #[.slice (some ⟨lb, lo, none⟩) m d, .float .f64 y] 33)).alloc (by simp) (.cells #[] 31)).grown hg8 (by simp; omega) (fun k e => by cases e; simp)); have HO := Lib.hid hown8; clear hown8) | (at_builtin; go_must (refine wpList_append_F _ rfl _ _ rfl (w.heap.size + 1) _ ls [Y] rfl (HO.out.below ((Below.refl _ _).alloc (Nat.le_refl _) (.cells #[.float .f64 y] 31)) (Nat.le_refl _)) _ _ _ rfl (row_one w2 y HY.out) (by rw [HL.out]; simp; omega) rfl (by simp; omega) ?_; intro v9 w3 hown9 hg9)))
  go_ret
  refine ⟨v9, rfl, hown9.mono (by omega), ?_⟩
  exact (HB2.out.alloc (by omega) (.cells #[.float .f64 y] 31)).grown hg9 (by simp; omega) (fun k e => by cases e; show w.heap.size ≤ g8; omega)
end Go.Proofs.YtfohknalldelfaaDoor
namespace Go.Proofs.YtfohknalldelfaaDoor
open Go.RowKit Lv Go.Shelf
open Ieee (double Format Datum Toward)
attribute [local go_sem] run_store_float drewN_alloc drewN_setCell

/-- what is wrong ahead of counting -/
def earlyD (F : FacD) (ls : List (Option Nat)) (Y : Option Nat) : Int :=
  if F.ok = false then 1 else if (ls.length : Int) ≠ F.cols then 3 else if (ls.any outF || outF Y) = true then 2 else 0
/-- is there no room? -/
def fullD (F : FacD) : Bool := decide (F.rws = 200) || decide (4096 < F.trn + (F.cols + 1))
/-- a row absorbed -/
def rowD (F : FacD) (ls : List (Option Nat)) (Y : Option Nat) : FacD × Int :=
  if earlyD F ls Y ≠ 0 then (fac0, earlyD F ls Y)
  else if fullD F = true then (fac0, 6)
  else if (lineD F (ls ++ [Y]) 0).2 = false then (fac0, 2)
  else (⟨(lineD F (ls ++ [Y]) 0).1.cols, (lineD F (ls ++ [Y]) 0).1.xs, F.rws + 1, F.trn + (F.cols + 1)⟩, 0)

theorem Row.form {w : World} {v : Value} {xs : List (Option Nat)} (h : Row w v xs) : ∃ a n cap, v = .slice a n cap := by
  obtain ⟨a, cap, hv, _⟩ := h
  exact ⟨a, _, cap, hv⟩
theorem ok_cols {F : FacD} (h : F.ok = true) : 1 ≤ F.cols ∧ F.cols ≤ 6 := checkP_cols h
theorem ok_rows {F : FacD} (h : F.ok = true) : 0 ≤ F.rws ∧ F.rws ≤ 200 ∧ 0 ≤ F.trn ∧ F.trn ≤ 4096 := by
  unfold FacD.ok checkP at h
  simp at h
  omega

theorem early_zero {F : FacD} {ls : List (Option Nat)} {Y : Option Nat} (h : earlyD F ls Y = 0) : F.ok = true ∧ (ls.length : Int) = F.cols ∧ ls.any outF = false ∧ outF Y = false := by
  unfold earlyD at h
  by_cases h1 : F.ok = false
  · rw [if_pos h1] at h; cases h
  · rw [if_neg h1] at h
    by_cases h2 : (ls.length : Int) ≠ F.cols
    · rw [if_pos h2] at h; cases h
    · rw [if_neg h2] at h
      cases h3 : (ls.any outF || outF Y) with
      | true => rw [h3, if_pos rfl] at h; cases h
      | false =>
        rw [Bool.or_eq_false_iff] at h3
        exact ⟨by simpa using h1, by simpa using h2, h3.1, h3.2⟩
theorem rowD_line {F : FacD} {ls : List (Option Nat)} {Y : Option Nat} (h : earlyD F ls Y = 0) (hf : fullD F = false) : rowD F ls Y = if (lineD F (ls ++ [Y]) 0).2 = false then (fac0, 2)
  else (⟨(lineD F (ls ++ [Y]) 0).1.cols, (lineD F (ls ++ [Y]) 0).1.xs, F.rws + 1, F.trn + (F.cols + 1)⟩, 0) := by unfold rowD; rw [h, if_neg (by decide), if_neg (by rw [hf]; decide)]

set_option maxRecDepth 100000 in
theorem rearly_calls (F : FacD) (a b : Option Addr) (n cap m d y : Nat) (ls : List (Option Nat)) {Y : Option Nat} (w : World) (h : Row w (.slice a n cap) F.xs) (hl : Row w (.slice b m d) ls) (hy : FW y Y) :
    Calls Tryd.prog 34 #[.agg #[.int .i64 F.cols, .slice a n cap, .int .i64 F.rws, .int .i64 F.trn], .agg #[.slice b m d, .float .f64 y]] w fun e w' => e = .returned (.int .i64 (earlyD F ls Y)) ∧ Below w.heap.size w w' := by
  have hB := ((Below.refl w.heap.size w).alloc (Nat.le_refl _) (.cells #[.int .i64 F.cols, .slice a n cap, .int .i64 F.rws, .int .i64 F.trn] 24)).alloc (by simp) (.cells #[.slice b m d, .float .f64 y] 33)
  have L := rcheck_calls F.cols F.rws F.trn a n cap F.xs _ (h.below hB)
  have hm := hl.len
  by_cases h1 : F.ok = false
  · have e : earlyD F ls Y = 1 := by unfold earlyD; rw [if_pos h1]
    rw [show checkP F.cols F.xs F.rws F.trn = false from h1] at L
    have LH := Lib.hid L
    rw [e]
    obtain ⟨cols, xs, rws, trn⟩ := F
    clear h1 e L h hl hy hm
    go_enter Tryd.func34, Tryd.ntmps34
    go_wp2_with (first | (go_at_call 27; refine LH.out.mono ?_; rintro e w1 ⟨rfl, hb⟩))
    go_ret
    exact ⟨rfl, hB.trans (hb.mono (by simp; omega))⟩
  · have hok : F.ok = true := by simpa using h1
    rw [show checkP F.cols F.xs F.rws F.trn = true from hok] at L
    have LH := Lib.hid L
    obtain ⟨hc1, hc6⟩ := ok_cols hok
    have E0 : earlyD F ls Y = if (ls.length : Int) ≠ F.cols then 3 else if (ls.any outF || outF Y) = true then 2 else 0 := by
      unfold earlyD; rw [if_neg h1]
    by_cases h2 : (ls.length : Int) ≠ F.cols
    · have e : earlyD F ls Y = 3 := by rw [E0, if_pos h2]
      rw [e]
      rw [hm] at h2
      have hne : ((m : Int) != F.cols) = true := by simpa using h2
      obtain ⟨cols, xs, rws, trn⟩ := F
      clear h1 e E0 L h hl hy hm h2 hok
      dsimp only at *
      go_enter Tryd.func34, Tryd.ntmps34
      go_wp2_with (first | (go_at_call 27; refine LH.out.mono ?_; rintro e w1 ⟨rfl, hb⟩; obtain ⟨hq, hf⟩ := bcell hb; have hz := hb.size; simp at hz; have hz1 : w.heap.size < w1.heap.size := (by omega)))
      go_ret
      exact ⟨rfl, hB.trans (hb.mono (by simp; omega))⟩
    · have e : earlyD F ls Y = if (ls.any outF || outF Y) = true then 2 else 0 := by rw [E0, if_neg h2]
      have hmc : (m : Int) = F.cols := by rw [← hm]; simpa using h2
      have hne : ((m : Int) != F.cols) = false := by simpa using hmc
      have HL := Lib.hid hl
      have HY := Lib.hid hy
      have h0 : 0 < m := by omega
      have h9 : m ≤ 900 := by omega
      obtain ⟨res, hres⟩ : ∃ res : Int, res = earlyD F ls Y := ⟨_, rfl⟩
      rw [← hres]
      rw [e] at hres
      obtain ⟨cols, xs, rws, trn⟩ := F
      clear h1 e E0 L h hl hy hm h2 hok
      dsimp only at *
      cases ho : (ls.any outF || outF Y)
      · rw [ho, if_neg (by decide)] at hres
        have HA : Hid ((ls ++ [Y]).any outF = false) := by unfold Hid; rw [List.any_append]; simpa using ho
        clear ho
        subst hres
        have HM := Lib.hid hmc
        clear hmc
        go_enter Tryd.func34, Tryd.ntmps34
        go_wp2_with (first | (go_at_call 27; refine LH.out.mono ?_; rintro e w1 ⟨rfl, hb⟩; obtain ⟨hq, hf⟩ := bcell hb; have hz := hb.size; simp at hz; have hz1 : w.heap.size < w1.heap.size := (by omega); have hz2 : w.heap.size + 1 < w1.heap.size := (by omega)) | (go_at_call 22; refine (rentries_calls b m d y ls _ (HL.out.below (hB.trans (hb.mono (by simp; omega)))) HY.out h0 h9).mono ?_; rintro e w2 ⟨v, rfl, hown, hb2⟩; obtain ⟨ga, gn, gc, hv⟩ := hown.row.form; subst hv; have RA := Lib.hid (rall5_calls _ _ _ _ _ hown.row); rw [HA.out] at RA) | (go_at_call 23; refine RA.out.mono ?_; rintro e w3 ⟨rfl, rfl⟩))
        go_ret
        exact ⟨rfl, (hB.trans (hb.mono (by simp; omega))).trans (hb2.mono (by omega))⟩
      · rw [ho, if_pos rfl] at hres
        have HA : Hid ((ls ++ [Y]).any outF = true) := by unfold Hid; rw [List.any_append]; simpa using ho
        clear ho
        subst hres
        have HM := Lib.hid hmc
        clear hmc
        go_enter Tryd.func34, Tryd.ntmps34
        go_wp2_with (first | (go_at_call 27; refine LH.out.mono ?_; rintro e w1 ⟨rfl, hb⟩; obtain ⟨hq, hf⟩ := bcell hb; have hz := hb.size; simp at hz; have hz1 : w.heap.size < w1.heap.size := (by omega); have hz2 : w.heap.size + 1 < w1.heap.size := (by omega)) | (go_at_call 22; refine (rentries_calls b m d y ls _ (HL.out.below (hB.trans (hb.mono (by simp; omega)))) HY.out h0 h9).mono ?_; rintro e w2 ⟨v, rfl, hown, hb2⟩; obtain ⟨ga, gn, gc, hv⟩ := hown.row.form; subst hv; have RA := Lib.hid (rall5_calls _ _ _ _ _ hown.row); rw [HA.out] at RA) | (go_at_call 23; refine RA.out.mono ?_; rintro e w3 ⟨rfl, rfl⟩))
        go_ret
        exact ⟨rfl, (hB.trans (hb.mono (by simp; omega))).trans (hb2.mono (by omega))⟩
end Go.Proofs.YtfohknalldelfaaDoor
