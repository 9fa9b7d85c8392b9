/- Both Lines come to the same: rows are changed once each, so a check at the end tells what the checks between tell. -/
import Derived.Test.YtgmaljikjkbdlaaRa
namespace Go.Proofs.Ytgmaljikjkbdlaa
open Go.RowKit Lv Go.Shelf

theorem getD_set {α : Type} (l : List α) (k : Nat) (v d : α) (i : Nat) : (l.set k v).getD i d = if i = k ∧ k < l.length then v else l.getD i d := by
  rw [List.getD_eq_getElem?_getD, List.getElem?_set]
  by_cases h : k = i
  · subst h
    rw [if_pos rfl]
    by_cases hk : k < l.length
    · rw [if_pos hk, if_pos ⟨rfl, hk⟩]; rfl
    · rw [if_neg hk, if_neg (fun e => hk e.2), List.getD_eq_getElem?_getD, List.getElem?_eq_none (by omega)]
  · rw [if_neg h, if_neg (fun e => h e.1.symm), List.getD_eq_getElem?_getD]
theorem ext_getD {α : Type} {l m : List α} (d : α) (hl : l.length = m.length) (h : ∀ i, i < l.length → l.getD i d = m.getD i d) : l = m := by
  refine List.ext_getElem hl fun i h1 h2 => ?_
  have := h i h1
  rw [List.getD_eq_getElem?_getD, List.getD_eq_getElem?_getD, List.getElem?_eq_getElem h1, List.getElem?_eq_getElem h2] at this
  exact this
theorem getD_splice {α : Type} (l m : List α) (o : Nat) (d : α) (h : o + m.length ≤ l.length) (i : Nat) : (splice l o m).getD i d = if o ≤ i ∧ i < o + m.length then m.getD (i - o) d else l.getD i d := by
  unfold splice
  rw [List.getD_eq_getElem?_getD]
  by_cases h1 : i < o
  · rw [List.getElem?_append_left (by rw [List.length_take]; omega), List.getElem?_take_of_lt h1, if_neg (by omega), List.getD_eq_getElem?_getD]
  · rw [List.getElem?_append_right (by rw [List.length_take]; omega), List.length_take, Nat.min_eq_left (by omega)]
    by_cases h2 : i < o + m.length
    · rw [List.getElem?_append_left (by omega), if_pos (by omega), List.getD_eq_getElem?_getD]
    · rw [List.getElem?_append_right (by omega), List.getElem?_drop, if_neg (by omega), List.getD_eq_getElem?_getD]
      congr 2
      omega

theorem getD_setP {xs l : List (Option Nat)} {c j : Nat} (h1 : 1 ≤ c) (h6 : c ≤ 6) (hl : xs.length = tsz c) (hj : j ≤ c) (hll : l.length = c + 1) (i : Nat) :
    (setP xs c j l).getD i none = if offs c j ≤ i ∧ i < offs c j + (c + 1 - j) then l.getD (j + (i - offs c j)) none else xs.getD i none := by
  unfold setP
  have := offs_le c j h1 h6 (by omega)
  rw [getD_splice _ _ _ _ (by rw [List.length_drop, hll, hl]; unfold tsz; omega), List.length_drop, hll]
  split
  · rw [List.getD_eq_getElem?_getD, List.getElem?_drop, List.getD_eq_getElem?_getD]
  · rfl
theorem getD_lineP {xs : List (Option Nat)} {c j : Nat} (hj : j ≤ c) (i : Nat) (hi : i < c + 1) : (lineP xs c j).getD i none = if i < j then some 0 else xs.getD (offs c j + (i - j)) none := by
  unfold lineP
  rw [List.getD_eq_getElem?_getD]
  by_cases h : i < j
  · rw [List.getElem?_append_left (by rw [List.length_replicate]; exact h), if_pos h, List.getElem?_replicate, if_pos h]
    rfl
  · rw [List.getElem?_append_right (by rw [List.length_replicate]; omega), List.length_replicate, if_neg h]
    unfold seg
    rw [List.getElem?_take_of_lt (by omega), List.getElem?_drop, List.getD_eq_getElem?_getD]

/-- the two ways to turn a row agree -/
theorem turn_agree {xs rest : List (Option Nat)} {c j : Nat} (h1 : 1 ≤ c) (h6 : c ≤ 6) (hl : xs.length = tsz c) (hr : rest.length = c + 1) (hj : j ≤ c) (cc ss r : Option Nat) : ∀ n, n ≤ c - j →
    (rturn cc ss j (offs c j) n (xs.set (offs c j) r, rest)).2 = (turnTo cc ss j n ((lineP xs c j).set j r, rest)).2 ∧
    (rturn cc ss j (offs c j) n (xs.set (offs c j) r, rest)).1 = setP xs c j (turnTo cc ss j n ((lineP xs c j).set j r, rest)).1
  | 0, _ => by
    have ho := offs_le c j h1 h6 (by omega)
    have hll := lineP_len h1 h6 hl hj
    refine ⟨rfl, ext_getD none ?_ fun i hi => ?_⟩
    · simp only [rturn, turnTo]
      rw [List.length_set, setP_len h1 h6 hl hj (by rw [List.length_set]; exact hll), hl]
    · simp only [rturn, turnTo] at hi ⊢
      rw [List.length_set] at hi
      rw [getD_set, getD_setP h1 h6 hl hj (by rw [List.length_set]; exact hll)]
      unfold tsz at hl
      by_cases e : i = offs c j
      · rw [if_pos ⟨e, by omega⟩, if_pos (by omega), getD_set, if_pos ⟨by omega, by omega⟩]
      · rw [if_neg (fun h => e h.1)]
        split
        · rw [getD_set, if_neg (by omega), getD_lineP hj _ (by omega), if_neg (by omega)]
          congr 1
          omega
        · rfl
  | n + 1, hn => by
    obtain ⟨a, b⟩ := turn_agree h1 h6 hl hr hj cc ss r n (by omega)
    have ho := offs_le c j h1 h6 (by omega)
    have hll := lineP_len h1 h6 hl hj
    have hp := turnTo_len cc ss j ((lineP xs c j).set j r, rest) n
    rw [List.length_set, hll] at hp
    simp only [rturn, turnTo]
    rw [a, b]
    have hx : (setP xs c j (turnTo cc ss j n ((lineP xs c j).set j r, rest)).1).getD (offs c j + 1 + n) none = (turnTo cc ss j n ((lineP xs c j).set j r, rest)).1.getD (j + 1 + n) none := by
      rw [getD_setP h1 h6 hl hj hp.1, if_pos (by omega)]
      congr 1
      omega
    rw [hx]
    refine ⟨rfl, ext_getD none ?_ fun i hi => ?_⟩
    · rw [List.length_set, setP_len h1 h6 hl hj hp.1, setP_len h1 h6 hl hj (by rw [List.length_set]; exact hp.1)]
    · rw [List.length_set] at hi
      rw [getD_set, getD_setP h1 h6 hl hj hp.1, getD_setP h1 h6 hl hj (by rw [List.length_set]; exact hp.1), setP_len h1 h6 hl hj hp.1]
      unfold tsz at hl ⊢
      by_cases e : i = offs c j + 1 + n
      · rw [if_pos ⟨e, by omega⟩, if_pos (by omega), getD_set, if_pos ⟨by omega, by rw [hp.1]; omega⟩]
      · rw [if_neg (fun h => e h.1)]
        split
        · rw [getD_set, if_neg (by omega)]
        · rfl

theorem offs_apart (c : Nat) (h6 : c ≤ 6) (i j : Nat) (hij : i < j) (hj : j ≤ c) : offs c i + (c + 1 - i) ≤ offs c j := by
  have : ∀ c : Nat, c < 7 → ∀ i : Nat, i < 7 → ∀ j : Nat, j < 7 → i < j → j ≤ c → offs c i + (c + 1 - i) ≤ offs c j := by decide +kernel
  exact this c (by omega) i (by omega) j (by omega) hij hj
theorem seg_other {xs l : List (Option Nat)} {c i j : Nat} (h1 : 1 ≤ c) (h6 : c ≤ 6) (hl : xs.length = tsz c) (hi : i ≤ c) (hj : j ≤ c) (hll : l.length = c + 1) (hne : i ≠ j) : seg (setP xs c j l) c i = seg xs c i := by
  have hs := setP_len h1 h6 hl hj hll
  refine ext_getD none (by rw [seg_length h1 h6 hs hi, seg_length h1 h6 hl hi]) fun k hk => ?_
  rw [seg_length h1 h6 hs hi] at hk
  unfold seg
  rw [List.getD_eq_getElem?_getD, List.getD_eq_getElem?_getD, List.getElem?_take_of_lt hk, List.getElem?_take_of_lt hk, List.getElem?_drop, List.getElem?_drop, ← List.getD_eq_getElem?_getD, ← List.getD_eq_getElem?_getD, getD_setP h1 h6 hl hj hll, if_neg]
  rcases Nat.lt_or_gt_of_ne hne with h | h
  · have := offs_apart c h6 i j h hj; omega
  · have := offs_apart c h6 j i h hi; omega

/-- a row that is bad makes the factor bad -/
theorem bad_check {ys : List (Option Nat)} {c i : Nat} {rws trn : Int} (hi : i ≤ c) (hb : badS (seg ys c i) = true) : checkP (c : Int) ys rws trn = false := by
  cases hc : checkP (c : Int) ys rws trn with
  | false => rfl
  | true =>
    unfold checkP at hc
    rw [Bool.and_eq_true] at hc
    have h2 := hc.2
    rw [Bool.not_eq_true', List.any_eq_false] at h2
    exact absurd hb (by have := h2 i (List.mem_range.2 (by simp; omega)); simpa using this)
/-- a good factor, one row of which is set, is bad in that row alone -/
theorem check_bad {xs l : List (Option Nat)} {c j : Nat} {rws trn : Int} (h1 : 1 ≤ c) (h6 : c ≤ 6) (hl : xs.length = tsz c) (hj : j ≤ c) (hll : l.length = c + 1)
    (hx : checkP (c : Int) xs rws trn = true) (hb : checkP (c : Int) (setP xs c j l) rws trn = false) : badS (seg (setP xs c j l) c j) = true := by
  have hs := setP_len h1 h6 hl hj hll
  unfold checkP at hx hb
  rw [Bool.and_eq_true] at hx
  have he : (decide (1 ≤ (c : Int)) && decide ((c : Int) ≤ 6) && decide ((setP xs c j l).length = tsz (c : Int).toNat) && decide (0 ≤ rws) && decide (rws ≤ 200) && decide (0 ≤ trn) && decide (trn ≤ 4096)) = true := by
    have := hx.1
    rw [show (c : Int).toNat = c by simp] at this ⊢
    rw [hs]
    rw [hl] at this
    exact this
  rw [he, Bool.true_and, Bool.not_eq_false', List.any_eq_true] at hb
  obtain ⟨i, hi, hbi⟩ := hb
  have hi' : i ≤ c := by have := List.mem_range.1 hi; simp at this; omega
  simp only [Int.toNat_natCast] at hbi
  by_cases hij : i = j
  · subst hij; exact hbi
  · rw [seg_other h1 h6 hl hi' hj hll hij] at hbi
    have h2 := hx.2
    rw [Bool.not_eq_true', List.any_eq_false] at h2
    have := h2 i hi
    simp only [Int.toNat_natCast] at this
    exact absurd hbi this

/-- one column, without the check -/
theorem rstep_eq {xs rest : List (Option Nat)} {c j : Nat} (h1 : 1 ≤ c) (h6 : c ≤ 6) (hl : xs.length = tsz c) (hr : rest.length = c + 1) (hj : j ≤ c) (rws trn : Int) :
    (rstep c j (xs, rest) = none ∧ stepP c rws trn j (xs, rest) = none) ∨ ∃ l rest', l.length = c + 1 ∧ rest'.length = c + 1 ∧ rstep c j (xs, rest) = some (setP xs c j l, rest') ∧
      stepP c rws trn j (xs, rest) = if checkP c (setP xs c j l) rws trn = true then some (setP xs c j l, rest') else none := by
  have e : (lineP xs c j).getD j none = xs.getD (offs c j) none := by
    rw [getD_lineP hj _ (by omega), if_neg (by omega)]
    congr 1
    omega
  unfold rstep stepP
  dsimp only
  rw [e]
  rcases ofF (xs.getD (offs c j) none) (rest.getD j none) with _ | ⟨cc, ss, r⟩
  · exact .inl ⟨rfl, rfl⟩
  · obtain ⟨a, b⟩ := turn_agree h1 h6 hl hr hj cc ss r (c - j) (Nat.le_refl _)
    have hp := turnTo_len cc ss j ((lineP xs c j).set j r, rest) (c - j)
    rw [List.length_set, lineP_len h1 h6 hl hj] at hp
    refine .inr ⟨(turnTo cc ss j (c - j) ((lineP xs c j).set j r, rest)).1, (turnTo cc ss j (c - j) ((lineP xs c j).set j r, rest)).2, hp.1, hp.2.trans hr, ?_, rfl⟩
    dsimp only
    rw [← a, ← b]

/-- a bad row above stays bad -/
theorem bad_stays {c : Nat} (h1 : 1 ≤ c) (h6 : c ≤ 6) : ∀ (n j : Nat) (xs rest ys : List (Option Nat)), n + j = c + 1 → xs.length = tsz c → rest.length = c + 1 → ∀ i, i < j → i ≤ c → badS (seg xs c i) = true → rlineFrom c n j (xs, rest) = some ys → badS (seg ys c i) = true
  | 0, _, xs, _, ys, _, _, _, _, _, _, hb, he => by
    simp only [rlineFrom, Option.some.injEq] at he
    rw [← he]; exact hb
  | n + 1, j, xs, rest, ys, hn, hl, hr, i, hij, hi, hb, he => by
    rcases rstep_eq h1 h6 hl hr (j := j) (by omega) 0 0 with ⟨e, _⟩ | ⟨l, rest', hll, hrl, e, _⟩
    · simp only [rlineFrom, e] at he
      cases he
    · simp only [rlineFrom, e] at he
      exact bad_stays h1 h6 n (j + 1) _ _ ys (by omega) (setP_len h1 h6 hl (by omega) hll) hrl i (by omega) hi (by rw [seg_other h1 h6 hl hi (by omega) hll (by omega)]; exact hb) he

theorem line_eq {c : Nat} (h1 : 1 ≤ c) (h6 : c ≤ 6) (rws trn : Int) : ∀ (n j : Nat) (xs rest : List (Option Nat)), n + j = c + 1 → xs.length = tsz c → rest.length = c + 1 → checkP (c : Int) xs rws trn = true →
    lineFrom c rws trn n j (xs, rest) = (match rlineFrom c n j (xs, rest) with | none => none | some ys => if checkP c ys rws trn = true then some ys else none)
  | 0, _, xs, _, _, _, _, hc => by
    simp only [lineFrom, rlineFrom]
    rw [if_pos hc]
  | n + 1, j, xs, rest, hn, hl, hr, hc => by
    rcases rstep_eq h1 h6 hl hr (j := j) (by omega) rws trn with ⟨e, e'⟩ | ⟨l, rest', hll, hrl, e, e'⟩
    · simp only [lineFrom, rlineFrom, e, e']
    · cases hk : checkP (c : Int) (setP xs c j l) rws trn with
      | true =>
        rw [if_pos hk] at e'
        simp only [lineFrom, rlineFrom, e, e']
        exact line_eq h1 h6 rws trn n (j + 1) _ _ (by omega) (setP_len h1 h6 hl (by omega) hll) hrl hk
      | false =>
        rw [if_neg (by rw [hk]; decide)] at e'
        simp only [lineFrom, rlineFrom, e, e']
        cases hR : rlineFrom c n (j + 1) (setP xs c j l, rest') with
        | none => rfl
        | some ys =>
          have := bad_stays h1 h6 n (j + 1) _ _ ys (by omega) (setP_len h1 h6 hl (by omega) hll) hrl j (by omega) (by omega) (check_bad h1 h6 hl (by omega) hll hc hk) hR
          dsimp only
          rw [if_neg (by rw [bad_check (by omega) this]; decide)]

/-- THE PLAIN LAW of Line -/
theorem line_law {c : Nat} (h1 : 1 ≤ c) (h6 : c ≤ 6) (rws trn : Int) {j : Nat} (hj : j ≤ c) {xs ls : List (Option Nat)} (hl : xs.length = tsz c) (hr : ls.length = c + 1) (hc : checkP (c : Int) xs rws trn = true) :
    lineFrom c rws trn (c + 1 - j) j (xs, ls) = rlineP c rws trn j (xs, ls) := line_eq h1 h6 rws trn (c + 1 - j) j xs ls (by omega) hl hr hc
end Go.Proofs.Ytgmaljikjkbdlaa
