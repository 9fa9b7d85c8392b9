/- Both Lines come to the same: rows are changed once each, so a check at the end tells what the checks between tell. What both Lines refuse at once. A factor as data; both Lines by one word. -/
import Derived.Test.YtmmligbkecilfaaGreatDoorRa
import Derived.Test.YtmmligbkecilfaaGreatDoorR
import Derived.Deep.RegionWith
import Derived.LoopTactic
import Derived.Deep.CutRange
namespace Go.Proofs.YtmmligbkecilfaaGreatDoor
open Go.RowKit Lv Go.Shelf

theorem getD_set {α : Type} (l : List α) (k : Nat) (v d : α) (i : Nat) : (l.set k v).getD i d = if i = k ∧ k < l.length then v else l.getD i d := by
  rw [List.getD_eq_getElem?_getD, List.getElem?_set]
  by_cases h : k = i
  · subst h
    rw [if_pos rfl]
    by_cases hk : k < l.length
    · rw [if_pos hk, if_pos ⟨rfl, hk⟩]; rfl
    · rw [if_neg hk, if_neg (fun e => hk e.2), List.getD_eq_getElem?_getD, List.getElem?_eq_none (by omega)]
  · rw [if_neg h, if_neg (fun e => h e.1.symm), List.getD_eq_getElem?_getD]
theorem ext_getD {α : Type} {l m : List α} (d : α) (hl : l.length = m.length) (h : ∀ i, i < l.length → l.getD i d = m.getD i d) : l = m := by
  refine List.ext_getElem hl fun i h1 h2 => ?_
  have := h i h1
  rw [List.getD_eq_getElem?_getD, List.getD_eq_getElem?_getD, List.getElem?_eq_getElem h1, List.getElem?_eq_getElem h2] at this
  exact this
theorem getD_splice {α : Type} (l m : List α) (o : Nat) (d : α) (h : o + m.length ≤ l.length) (i : Nat) : (splice l o m).getD i d = if o ≤ i ∧ i < o + m.length then m.getD (i - o) d else l.getD i d := by
  unfold splice
  rw [List.getD_eq_getElem?_getD]
  by_cases h1 : i < o
  · rw [List.getElem?_append_left (by rw [List.length_take]; omega), List.getElem?_take_of_lt h1, if_neg (by omega), List.getD_eq_getElem?_getD]
  · rw [List.getElem?_append_right (by rw [List.length_take]; omega), List.length_take, Nat.min_eq_left (by omega)]
    by_cases h2 : i < o + m.length
    · rw [List.getElem?_append_left (by omega), if_pos (by omega), List.getD_eq_getElem?_getD]
    · rw [List.getElem?_append_right (by omega), List.getElem?_drop, if_neg (by omega), List.getD_eq_getElem?_getD]
      congr 2
      omega

theorem getD_setP {xs l : List (Option Nat)} {c j : Nat} (h1 : 1 ≤ c) (h6 : c ≤ 6) (hl : xs.length = tsz c) (hj : j ≤ c) (hll : l.length = c + 1) (i : Nat) :
    (setP xs c j l).getD i none = if offs c j ≤ i ∧ i < offs c j + (c + 1 - j) then l.getD (j + (i - offs c j)) none else xs.getD i none := by
  unfold setP
  have := offs_le c j h1 h6 (by omega)
  rw [getD_splice _ _ _ _ (by rw [List.length_drop, hll, hl]; unfold tsz; omega), List.length_drop, hll]
  split
  · rw [List.getD_eq_getElem?_getD, List.getElem?_drop, List.getD_eq_getElem?_getD]
  · rfl
theorem getD_lineP {xs : List (Option Nat)} {c j : Nat} (hj : j ≤ c) (i : Nat) (hi : i < c + 1) : (lineP xs c j).getD i none = if i < j then some 0 else xs.getD (offs c j + (i - j)) none := by
  unfold lineP
  rw [List.getD_eq_getElem?_getD]
  by_cases h : i < j
  · rw [List.getElem?_append_left (by rw [List.length_replicate]; exact h), if_pos h, List.getElem?_replicate, if_pos h]
    rfl
  · rw [List.getElem?_append_right (by rw [List.length_replicate]; omega), List.length_replicate, if_neg h]
    unfold seg
    rw [List.getElem?_take_of_lt (by omega), List.getElem?_drop, List.getD_eq_getElem?_getD]

/-- the two ways to turn a row agree -/
theorem turn_agree {xs rest : List (Option Nat)} {c j : Nat} (h1 : 1 ≤ c) (h6 : c ≤ 6) (hl : xs.length = tsz c) (hr : rest.length = c + 1) (hj : j ≤ c) (cc ss r : Option Nat) : ∀ n, n ≤ c - j →
    (rturn cc ss j (offs c j) n (xs.set (offs c j) r, rest)).2 = (turnTo cc ss j n ((lineP xs c j).set j r, rest)).2 ∧
    (rturn cc ss j (offs c j) n (xs.set (offs c j) r, rest)).1 = setP xs c j (turnTo cc ss j n ((lineP xs c j).set j r, rest)).1
  | 0, _ => by
    have ho := offs_le c j h1 h6 (by omega)
    have hll := lineP_len h1 h6 hl hj
    refine ⟨rfl, ext_getD none ?_ fun i hi => ?_⟩
    · simp only [rturn, turnTo]
      rw [List.length_set, setP_len h1 h6 hl hj (by rw [List.length_set]; exact hll), hl]
    · simp only [rturn, turnTo] at hi ⊢
      rw [List.length_set] at hi
      rw [getD_set, getD_setP h1 h6 hl hj (by rw [List.length_set]; exact hll)]
      unfold tsz at hl
      by_cases e : i = offs c j
      · rw [if_pos ⟨e, by omega⟩, if_pos (by omega), getD_set, if_pos ⟨by omega, by omega⟩]
      · rw [if_neg (fun h => e h.1)]
        split
        · rw [getD_set, if_neg (by omega), getD_lineP hj _ (by omega), if_neg (by omega)]
          congr 1
          omega
        · rfl
  | n + 1, hn => by
    obtain ⟨a, b⟩ := turn_agree h1 h6 hl hr hj cc ss r n (by omega)
    have ho := offs_le c j h1 h6 (by omega)
    have hll := lineP_len h1 h6 hl hj
    have hp := turnTo_len cc ss j ((lineP xs c j).set j r, rest) n
    rw [List.length_set, hll] at hp
    simp only [rturn, turnTo]
    rw [a, b]
    have hx : (setP xs c j (turnTo cc ss j n ((lineP xs c j).set j r, rest)).1).getD (offs c j + 1 + n) none = (turnTo cc ss j n ((lineP xs c j).set j r, rest)).1.getD (j + 1 + n) none := by
      rw [getD_setP h1 h6 hl hj hp.1, if_pos (by omega)]
      congr 1
      omega
    rw [hx]
    refine ⟨rfl, ext_getD none ?_ fun i hi => ?_⟩
    · rw [List.length_set, setP_len h1 h6 hl hj hp.1, setP_len h1 h6 hl hj (by rw [List.length_set]; exact hp.1)]
    · rw [List.length_set] at hi
      rw [getD_set, getD_setP h1 h6 hl hj hp.1, getD_setP h1 h6 hl hj (by rw [List.length_set]; exact hp.1), setP_len h1 h6 hl hj hp.1]
      unfold tsz at hl ⊢
      by_cases e : i = offs c j + 1 + n
      · rw [if_pos ⟨e, by omega⟩, if_pos (by omega), getD_set, if_pos ⟨by omega, by rw [hp.1]; omega⟩]
      · rw [if_neg (fun h => e h.1)]
        split
        · rw [getD_set, if_neg (by omega)]
        · rfl

theorem offs_apart (c : Nat) (h6 : c ≤ 6) (i j : Nat) (hij : i < j) (hj : j ≤ c) : offs c i + (c + 1 - i) ≤ offs c j := by
  have : ∀ c : Nat, c < 7 → ∀ i : Nat, i < 7 → ∀ j : Nat, j < 7 → i < j → j ≤ c → offs c i + (c + 1 - i) ≤ offs c j := by decide +kernel
  exact this c (by omega) i (by omega) j (by omega) hij hj
theorem seg_other {xs l : List (Option Nat)} {c i j : Nat} (h1 : 1 ≤ c) (h6 : c ≤ 6) (hl : xs.length = tsz c) (hi : i ≤ c) (hj : j ≤ c) (hll : l.length = c + 1) (hne : i ≠ j) : seg (setP xs c j l) c i = seg xs c i := by
  have hs := setP_len h1 h6 hl hj hll
  refine ext_getD none (by rw [seg_length h1 h6 hs hi, seg_length h1 h6 hl hi]) fun k hk => ?_
  rw [seg_length h1 h6 hs hi] at hk
  unfold seg
  rw [List.getD_eq_getElem?_getD, List.getD_eq_getElem?_getD, List.getElem?_take_of_lt hk, List.getElem?_take_of_lt hk, List.getElem?_drop, List.getElem?_drop, ← List.getD_eq_getElem?_getD, ← List.getD_eq_getElem?_getD, getD_setP h1 h6 hl hj hll, if_neg]
  rcases Nat.lt_or_gt_of_ne hne with h | h
  · have := offs_apart c h6 i j h hj; omega
  · have := offs_apart c h6 j i h hi; omega

/-- a row that is bad makes the factor bad -/
theorem bad_check {ys : List (Option Nat)} {c i : Nat} {rws trn : Int} (hi : i ≤ c) (hb : badS (seg ys c i) = true) : checkP (c : Int) ys rws trn = false := by
  cases hc : checkP (c : Int) ys rws trn with
  | false => rfl
  | true =>
    unfold checkP at hc
    rw [Bool.and_eq_true] at hc
    have h2 := hc.2
    rw [Bool.not_eq_true', List.any_eq_false] at h2
    exact absurd hb (by have := h2 i (List.mem_range.2 (by simp; omega)); simpa using this)
/-- a good factor, one row of which is set, is bad in that row alone -/
theorem check_bad {xs l : List (Option Nat)} {c j : Nat} {rws trn : Int} (h1 : 1 ≤ c) (h6 : c ≤ 6) (hl : xs.length = tsz c) (hj : j ≤ c) (hll : l.length = c + 1)
    (hx : checkP (c : Int) xs rws trn = true) (hb : checkP (c : Int) (setP xs c j l) rws trn = false) : badS (seg (setP xs c j l) c j) = true := by
  have hs := setP_len h1 h6 hl hj hll
  unfold checkP at hx hb
  rw [Bool.and_eq_true] at hx
  have he : (decide (1 ≤ (c : Int)) && decide ((c : Int) ≤ 6) && decide ((setP xs c j l).length = tsz (c : Int).toNat) && decide (0 ≤ rws) && decide (rws ≤ 200) && decide (0 ≤ trn) && decide (trn ≤ 4096)) = true := by
    have := hx.1
    rw [show (c : Int).toNat = c by simp] at this ⊢
    rw [hs]
    rw [hl] at this
    exact this
  rw [he, Bool.true_and, Bool.not_eq_false', List.any_eq_true] at hb
  obtain ⟨i, hi, hbi⟩ := hb
  have hi' : i ≤ c := by have := List.mem_range.1 hi; simp at this; omega
  simp only [Int.toNat_natCast] at hbi
  by_cases hij : i = j
  · subst hij; exact hbi
  · rw [seg_other h1 h6 hl hi' hj hll hij] at hbi
    have h2 := hx.2
    rw [Bool.not_eq_true', List.any_eq_false] at h2
    have := h2 i hi
    simp only [Int.toNat_natCast] at this
    exact absurd hbi this

/-- one column, without the check -/
theorem rstep_eq {xs rest : List (Option Nat)} {c j : Nat} (h1 : 1 ≤ c) (h6 : c ≤ 6) (hl : xs.length = tsz c) (hr : rest.length = c + 1) (hj : j ≤ c) (rws trn : Int) :
    (rstep c j (xs, rest) = none ∧ stepP c rws trn j (xs, rest) = none) ∨ ∃ l rest', l.length = c + 1 ∧ rest'.length = c + 1 ∧ rstep c j (xs, rest) = some (setP xs c j l, rest') ∧
      stepP c rws trn j (xs, rest) = if checkP c (setP xs c j l) rws trn = true then some (setP xs c j l, rest') else none := by
  have e : (lineP xs c j).getD j none = xs.getD (offs c j) none := by
    rw [getD_lineP hj _ (by omega), if_neg (by omega)]
    congr 1
    omega
  unfold rstep stepP
  dsimp only
  rw [e]
  rcases ofF (xs.getD (offs c j) none) (rest.getD j none) with _ | ⟨cc, ss, r⟩
  · exact .inl ⟨rfl, rfl⟩
  · obtain ⟨a, b⟩ := turn_agree h1 h6 hl hr hj cc ss r (c - j) (Nat.le_refl _)
    have hp := turnTo_len cc ss j ((lineP xs c j).set j r, rest) (c - j)
    rw [List.length_set, lineP_len h1 h6 hl hj] at hp
    refine .inr ⟨(turnTo cc ss j (c - j) ((lineP xs c j).set j r, rest)).1, (turnTo cc ss j (c - j) ((lineP xs c j).set j r, rest)).2, hp.1, hp.2.trans hr, ?_, rfl⟩
    dsimp only
    rw [← a, ← b]

/-- a bad row above stays bad -/
theorem bad_stays {c : Nat} (h1 : 1 ≤ c) (h6 : c ≤ 6) : ∀ (n j : Nat) (xs rest ys : List (Option Nat)), n + j = c + 1 → xs.length = tsz c → rest.length = c + 1 → ∀ i, i < j → i ≤ c → badS (seg xs c i) = true → rlineFrom c n j (xs, rest) = some ys → badS (seg ys c i) = true
  | 0, _, xs, _, ys, _, _, _, _, _, _, hb, he => by
    simp only [rlineFrom, Option.some.injEq] at he
    rw [← he]; exact hb
  | n + 1, j, xs, rest, ys, hn, hl, hr, i, hij, hi, hb, he => by
    rcases rstep_eq h1 h6 hl hr (j := j) (by omega) 0 0 with ⟨e, _⟩ | ⟨l, rest', hll, hrl, e, _⟩
    · simp only [rlineFrom, e] at he
      cases he
    · simp only [rlineFrom, e] at he
      exact bad_stays h1 h6 n (j + 1) _ _ ys (by omega) (setP_len h1 h6 hl (by omega) hll) hrl i (by omega) hi (by rw [seg_other h1 h6 hl hi (by omega) hll (by omega)]; exact hb) he

theorem line_eq {c : Nat} (h1 : 1 ≤ c) (h6 : c ≤ 6) (rws trn : Int) : ∀ (n j : Nat) (xs rest : List (Option Nat)), n + j = c + 1 → xs.length = tsz c → rest.length = c + 1 → checkP (c : Int) xs rws trn = true →
    lineFrom c rws trn n j (xs, rest) = (match rlineFrom c n j (xs, rest) with | none => none | some ys => if checkP c ys rws trn = true then some ys else none)
  | 0, _, xs, _, _, _, _, hc => by
    simp only [lineFrom, rlineFrom]
    rw [if_pos hc]
  | n + 1, j, xs, rest, hn, hl, hr, hc => by
    rcases rstep_eq h1 h6 hl hr (j := j) (by omega) rws trn with ⟨e, e'⟩ | ⟨l, rest', hll, hrl, e, e'⟩
    · simp only [lineFrom, rlineFrom, e, e']
    · cases hk : checkP (c : Int) (setP xs c j l) rws trn with
      | true =>
        rw [if_pos hk] at e'
        simp only [lineFrom, rlineFrom, e, e']
        exact line_eq h1 h6 rws trn n (j + 1) _ _ (by omega) (setP_len h1 h6 hl (by omega) hll) hrl hk
      | false =>
        rw [if_neg (by rw [hk]; decide)] at e'
        simp only [lineFrom, rlineFrom, e, e']
        cases hR : rlineFrom c n (j + 1) (setP xs c j l, rest') with
        | none => rfl
        | some ys =>
          have := bad_stays h1 h6 n (j + 1) _ _ ys (by omega) (setP_len h1 h6 hl (by omega) hll) hrl j (by omega) (by omega) (check_bad h1 h6 hl (by omega) hll hc hk) hR
          dsimp only
          rw [if_neg (by rw [bad_check (by omega) this]; decide)]

/-- THE PLAIN LAW of Line -/
theorem line_law {c : Nat} (h1 : 1 ≤ c) (h6 : c ≤ 6) (rws trn : Int) {j : Nat} (hj : j ≤ c) {xs ls : List (Option Nat)} (hl : xs.length = tsz c) (hr : ls.length = c + 1) (hc : checkP (c : Int) xs rws trn = true) :
    lineFrom c rws trn (c + 1 - j) j (xs, ls) = rlineP c rws trn j (xs, ls) := line_eq h1 h6 rws trn (c + 1 - j) j xs ls (by omega) hl hr hc
end Go.Proofs.YtmmligbkecilfaaGreatDoor
namespace Go.Proofs.YtmmligbkecilfaaGreatDoor
open Go.RowKit Lv Go.Shelf
open Ieee (double Format Datum Toward)

theorem checkP_cols {cols : Int} {xs : List (Option Nat)} {rws trn : Int} (h : checkP cols xs rws trn = true) : 1 ≤ cols ∧ cols ≤ 6 := by
  unfold checkP at h
  simp at h
  omega

set_option maxRecDepth 100000 in
theorem ALine_no (cols rws trn fr : Int) (a b : Option Addr) (n cap m d : Nat) (xs : List (Option Nat)) (w : World) (h : Row w (.slice a n cap) xs)
    (hno : ¬ (checkP cols xs rws trn = true ∧ 0 ≤ fr ∧ fr ≤ cols ∧ (m : Int) = cols + 1)) :
    Calls Tryz.prog 32 #[.agg #[.int .i64 cols, .slice a n cap, .int .i64 rws, .int .i64 trn], .slice b m d, .int .i64 fr] w fun e w' => e = .returned (.tuple #[facZ, .bool false]) ∧ Below w.heap.size w w' := by
  have hr := (h.alloc (.cells #[.int .i64 cols, .slice a n cap, .int .i64 rws, .int .i64 trn] 24)).alloc (.cells #[.int .i64 0, .slice none 0 0, .int .i64 0, .int .i64 0] 24)
  have L := Lib.hid (And.intro (check_calls cols rws trn a n cap xs _ hr) (rcheck_calls cols rws trn a n cap xs _ hr))
  cases hc : checkP cols xs rws trn
  · rw [hc] at L
    clear h hr hno hc
    go_enter Tryz.func32, Tryz.ntmps32
    go_wp2_with (first | (go_at_call 29; refine L.out.1.mono ?_; rintro e w1 ⟨rfl, hb⟩; obtain ⟨hq, hf⟩ := bcell hb) | (go_at_call 17; refine L.out.2.mono ?_; rintro e w1 ⟨rfl, hb⟩; obtain ⟨hq, hf⟩ := bcell hb))
    have hB := (((Below.refl w.heap.size w).alloc (Nat.le_refl _) (.cells #[.int .i64 cols, .slice a n cap, .int .i64 rws, .int .i64 trn] 24)).alloc (by simp) (.cells #[.int .i64 0, .slice none 0 0, .int .i64 0, .int .i64 0] 24)).trans (hb.mono (by simp; omega))
    exact bodyPost_ret (v := .tuple #[facZ, .bool false]) (by simp [results, Tryz.results32, go_sem, hq, facZ]) rfl ⟨rfl, (((hB.setCell (p := ⟨w.heap.size + 1, 0, none⟩) (by simp) _).setCell (p := ⟨w.heap.size + 1, 1, none⟩) (by simp) _).setCell (p := ⟨w.heap.size + 1, 2, none⟩) (by simp) _).setCell (p := ⟨w.heap.size + 1, 3, none⟩) (by simp) _⟩
  · obtain ⟨hc1, hc6⟩ := checkP_cols hc
    rw [hc] at L
    by_cases f0 : fr < 0
    · clear h hr hno hc
      go_enter Tryz.func32, Tryz.ntmps32
      go_wp2_with (first | (go_at_call 29; refine L.out.1.mono ?_; rintro e w1 ⟨rfl, hb⟩; obtain ⟨hq, hf⟩ := bcell hb; have hz := hb.size; simp at hz; have hz1 : w.heap.size < w1.heap.size := (by omega)) | (go_at_call 17; refine L.out.2.mono ?_; rintro e w1 ⟨rfl, hb⟩; obtain ⟨hq, hf⟩ := bcell hb; have hz := hb.size; simp at hz; have hz1 : w.heap.size < w1.heap.size := (by omega)))
      have hB := (((Below.refl w.heap.size w).alloc (Nat.le_refl _) (.cells #[.int .i64 cols, .slice a n cap, .int .i64 rws, .int .i64 trn] 24)).alloc (by simp) (.cells #[.int .i64 0, .slice none 0 0, .int .i64 0, .int .i64 0] 24)).trans (hb.mono (by simp; omega))
      exact bodyPost_ret (v := .tuple #[facZ, .bool false]) (by simp [results, Tryz.results32, go_sem, hq, facZ]) rfl ⟨rfl, (((hB.setCell (p := ⟨w.heap.size + 1, 0, none⟩) (by simp) _).setCell (p := ⟨w.heap.size + 1, 1, none⟩) (by simp) _).setCell (p := ⟨w.heap.size + 1, 2, none⟩) (by simp) _).setCell (p := ⟨w.heap.size + 1, 3, none⟩) (by simp) _⟩
    · by_cases f1 : cols < fr
      · clear h hr hno hc
        go_enter Tryz.func32, Tryz.ntmps32
        go_wp2_with (first | (go_at_call 29; refine L.out.1.mono ?_; rintro e w1 ⟨rfl, hb⟩; obtain ⟨hq, hf⟩ := bcell hb; have hz := hb.size; simp at hz; have hz1 : w.heap.size < w1.heap.size := (by omega)) | (go_at_call 17; refine L.out.2.mono ?_; rintro e w1 ⟨rfl, hb⟩; obtain ⟨hq, hf⟩ := bcell hb; have hz := hb.size; simp at hz; have hz1 : w.heap.size < w1.heap.size := (by omega)))
        have hB := (((Below.refl w.heap.size w).alloc (Nat.le_refl _) (.cells #[.int .i64 cols, .slice a n cap, .int .i64 rws, .int .i64 trn] 24)).alloc (by simp) (.cells #[.int .i64 0, .slice none 0 0, .int .i64 0, .int .i64 0] 24)).trans (hb.mono (by simp; omega))
        exact bodyPost_ret (v := .tuple #[facZ, .bool false]) (by simp [results, Tryz.results32, go_sem, hq, facZ]) rfl ⟨rfl, (((hB.setCell (p := ⟨w.heap.size + 1, 0, none⟩) (by simp) _).setCell (p := ⟨w.heap.size + 1, 1, none⟩) (by simp) _).setCell (p := ⟨w.heap.size + 1, 2, none⟩) (by simp) _).setCell (p := ⟨w.heap.size + 1, 3, none⟩) (by simp) _⟩
      · have hne : ((m : Int) != cols + 1) = true := by
          simp only [bne_iff_ne, ne_eq]
          intro e
          exact hno ⟨hc, by omega, by omega, e⟩
        clear h hr hno hc
        go_enter Tryz.func32, Tryz.ntmps32
        go_wp2_with (first | (go_at_call 29; refine L.out.1.mono ?_; rintro e w1 ⟨rfl, hb⟩; obtain ⟨hq, hf⟩ := bcell hb; have hz := hb.size; simp at hz; have hz1 : w.heap.size < w1.heap.size := (by omega)) | (go_at_call 17; refine L.out.2.mono ?_; rintro e w1 ⟨rfl, hb⟩; obtain ⟨hq, hf⟩ := bcell hb; have hz := hb.size; simp at hz; have hz1 : w.heap.size < w1.heap.size := (by omega)))
        have hB := (((Below.refl w.heap.size w).alloc (Nat.le_refl _) (.cells #[.int .i64 cols, .slice a n cap, .int .i64 rws, .int .i64 trn] 24)).alloc (by simp) (.cells #[.int .i64 0, .slice none 0 0, .int .i64 0, .int .i64 0] 24)).trans (hb.mono (by simp; omega))
        exact bodyPost_ret (v := .tuple #[facZ, .bool false]) (by simp [results, Tryz.results32, go_sem, hq, facZ]) rfl ⟨rfl, (((hB.setCell (p := ⟨w.heap.size + 1, 0, none⟩) (by simp) _).setCell (p := ⟨w.heap.size + 1, 1, none⟩) (by simp) _).setCell (p := ⟨w.heap.size + 1, 2, none⟩) (by simp) _).setCell (p := ⟨w.heap.size + 1, 3, none⟩) (by simp) _⟩
end Go.Proofs.YtmmligbkecilfaaGreatDoor
namespace Go.Proofs.YtmmligbkecilfaaGreatDoor
open Go.RowKit Lv Go.Shelf
open Ieee (double Format Datum Toward)

/-- a factor as data -/
structure FacD where
  cols : Int
  xs : List (Option Nat)
  rws : Int
  trn : Int
deriving DecidableEq
def FacD.ok (F : FacD) : Bool := checkP F.cols F.xs F.rws F.trn
/-- the zero factor -/
def fac0 : FacD := ⟨0, [], 0, 0⟩

/-- a factor's value -/
def facW (F : FacD) (a : Option Addr) (n cap : Nat) : Value := .agg #[.int .i64 F.cols, .slice a n cap, .int .i64 F.rws, .int .i64 F.trn]

theorem row_nil (w : World) : Row w (.slice none 0 0) [] := ⟨none, 0, rfl, Nat.le_refl _, by unfold maxLen; omega, .inl ⟨rfl, fun _ => rfl⟩⟩
theorem Row.len {w : World} {a : Option Addr} {n cap : Nat} {xs : List (Option Nat)} (h : Row w (.slice a n cap) xs) : xs.length = n := by
  obtain ⟨_, _, hv, _⟩ := h
  simp only [Value.slice.injEq] at hv
  exact hv.2.1.symm
theorem Row.value {w : World} {v : Value} {xs : List (Option Nat)} (h : Row w v xs) : ∃ a cap, v = .slice a xs.length cap := by
  obtain ⟨a, cap, hv, _⟩ := h
  exact ⟨a, cap, hv⟩

/-- a factor and a bool -/
def FacB (G : FacD × Bool) (e : Ending) (w' : World) : Prop := ∃ a n cap, e = .returned (.tuple #[.agg #[.int .i64 G.1.cols, .slice a n cap, .int .i64 G.1.rws, .int .i64 G.1.trn], .bool G.2]) ∧ Row w' (.slice a n cap) G.1.xs
/-- a factor and an error -/
def FacE (G : FacD × Int) (e : Ending) (w' : World) : Prop := ∃ a n cap, e = .returned (.tuple #[.agg #[.int .i64 G.1.cols, .slice a n cap, .int .i64 G.1.rws, .int .i64 G.1.trn], .int .i64 G.2]) ∧ Row w' (.slice a n cap) G.1.xs

/-- a line rotated into a factor -/
def lineD (F : FacD) (ls : List (Option Nat)) (fr : Int) : FacD × Bool :=
  if F.ok = true ∧ 0 ≤ fr ∧ fr ≤ F.cols ∧ (ls.length : Int) = F.cols + 1 then
    match rlineP F.cols.toNat F.rws F.trn fr.toNat (F.xs, ls) with
    | none => (fac0, false)
    | some ys => (⟨F.cols, ys, F.rws, F.trn⟩, true)
  else (fac0, false)

theorem facB_no {e : Ending} {w' : World} (h : e = .returned (.tuple #[facZ, .bool false])) : FacB (fac0, false) e w' := ⟨none, 0, 0, h, row_nil _⟩

theorem checkP_len {c : Nat} {xs : List (Option Nat)} {rws trn : Int} (h : checkP (c : Int) xs rws trn = true) : xs.length = tsz c := by
  unfold checkP at h
  simp at h
  omega

theorem ALine_yes (c j : Nat) (rws trn : Int) (tb tf cap : Nat) (b : Option Addr) (d : Nat) (xs ls : List (Option Nat)) (w : World) (h : Row w (.slice (some ⟨tb, tf, none⟩) xs.length cap) xs) (hl : Row w (.slice b (c + 1) d) ls) (hm : ls.length = c + 1) (hck : checkP (c : Int) xs rws trn = true)
    (h1 : 1 ≤ c) (h6 : c ≤ 6) (hj : j ≤ c) (hxl : xs.length = tsz c) (htb : tb < w.heap.size) :
    Calls Tryz.prog 32 #[.agg #[.int .i64 (c : Int), .slice (some ⟨tb, tf, none⟩) xs.length cap, .int .i64 rws, .int .i64 trn], .slice b (c + 1) d, .int .i64 (j : Int)] w fun e w' =>
       LinePost (rlineP c rws trn j (xs, ls)) c rws trn e w' ∧ Below w.heap.size w w' := by
  rw [← line_law h1 h6 rws trn hj hxl hm hck]; exact aline_yes c j rws trn tb tf cap b d xs ls w h hl hck h1 h6 hj hxl htb
theorem ALine_calls (F : FacD) (fr : Int) (a b : Option Addr) (n cap m d : Nat) (ls : List (Option Nat)) (w : World) (h : Row w (.slice a n cap) F.xs) (hl : Row w (.slice b m d) ls) :
    Calls Tryz.prog 32 #[.agg #[.int .i64 F.cols, .slice a n cap, .int .i64 F.rws, .int .i64 F.trn], .slice b m d, .int .i64 fr] w fun e w' => FacB (lineD F ls fr) e w' ∧ Below w.heap.size w w' := by
  obtain ⟨cols, xs, rws, trn⟩ := F
  have hm := hl.len
  replace h : Row w (.slice a n cap) xs := h
  by_cases hc : checkP cols xs rws trn = true ∧ 0 ≤ fr ∧ fr ≤ cols ∧ (m : Int) = cols + 1
  · have e : lineD ⟨cols, xs, rws, trn⟩ ls fr = match rlineP cols.toNat rws trn fr.toNat (xs, ls) with
      | none => (fac0, false)
      | some ys => (⟨cols, ys, rws, trn⟩, true) := by
      unfold lineD
      rw [if_pos (by rw [hm]; exact hc)]
    rw [e]
    obtain ⟨hck, h0, h1, h2⟩ := hc
    obtain ⟨hc1, hc6⟩ := checkP_cols hck
    obtain ⟨c, rfl⟩ := Int.eq_ofNat_of_zero_le (show 0 ≤ cols by omega)
    obtain ⟨j, rfl⟩ := Int.eq_ofNat_of_zero_le h0
    obtain rfl : m = c + 1 := by omega
    have hxl := checkP_len hck
    have hsz := tsz_bounds (c := c) (by omega) (by omega)
    have hn : xs.length = n := h.len
    obtain ⟨tb, tf, rfl, htb, _⟩ := h.shape (by omega)
    subst hn
    have L := ALine_yes c j rws trn tb tf cap b d xs ls w h hl hm hck (by omega) (by omega) (by omega) hxl htb
    refine L.mono ?_
    rintro e w' ⟨hp, hb⟩
    refine ⟨?_, hb⟩
    simp only [Int.toNat_natCast]
    cases hT : rlineP c rws trn j (xs, ls) with
    | none => rw [hT] at hp; exact facB_no hp
    | some ys =>
      rw [hT] at hp
      obtain ⟨v, rfl, hr⟩ := hp
      obtain ⟨a', cap', rfl⟩ := hr.value
      exact ⟨_, _, _, rfl, hr⟩
  · have e : lineD ⟨cols, xs, rws, trn⟩ ls fr = (fac0, false) := by
      unfold lineD
      rw [if_neg (by rw [hm]; exact hc)]
    rw [e]
    refine (ALine_no cols rws trn fr a b n cap m d xs w h hc).mono ?_
    rintro e w' ⟨hp, hb⟩
    exact ⟨facB_no hp, hb⟩
/-- what comes of a line may be, and has as many columns -/
theorem lineD_ok {F : FacD} {ls : List (Option Nat)} {fr : Int} (h : (lineD F ls fr).2 = true) : (lineD F ls fr).1.ok = true ∧ (lineD F ls fr).1.cols = F.cols ∧ (lineD F ls fr).1.rws = F.rws ∧ (lineD F ls fr).1.trn = F.trn ∧ F.ok = true := by
  unfold lineD at h ⊢
  by_cases hc : F.ok = true ∧ 0 ≤ fr ∧ fr ≤ F.cols ∧ (ls.length : Int) = F.cols + 1
  · rw [if_pos hc] at h ⊢
    cases hT : rlineP F.cols.toNat F.rws F.trn fr.toNat (F.xs, ls) with
    | none => rw [hT] at h; cases h
    | some ys =>
      refine ⟨?_, rfl, rfl, rfl, hc.1⟩
      unfold rlineP at hT
      split at hT
      · cases hT
      · split at hT
        · rename_i hk
          obtain ⟨h1, h6⟩ := checkP_cols hc.1
          simp only [Option.some.injEq] at hT
          subst hT
          unfold FacD.ok
          rw [Int.toNat_of_nonneg (by omega)] at hk
          exact hk
        · cases hT
  · rw [if_neg hc] at h
    cases h
theorem lineD_no {F : FacD} {ls : List (Option Nat)} {fr : Int} (h : (lineD F ls fr).2 = false) : (lineD F ls fr).1 = fac0 := by
  unfold lineD at h ⊢
  split
  · rename_i hc
    rw [if_pos hc] at h
    cases hT : rlineP F.cols.toNat F.rws F.trn fr.toNat (F.xs, ls) with
    | none => rfl
    | some ys => rw [hT] at h; cases h
  · rfl
end Go.Proofs.YtmmligbkecilfaaGreatDoor
