/- The reference's Check is the program's, Get, Line, Same. -/
import Derived.Test.YtgmaljikjkbdlaaV
namespace Go.Proofs.Ytgmaljikjkbdlaa
open Go.RowKit Lv Go.Shelf
open Ieee (double Format Datum Toward)

theorem in_row0 : ∀ c : Nat, c < 7 → ∀ k : Nat, k < 28 → 1 ≤ c → k < tsz c → ((List.range 7).any fun i => decide (i ≤ c) && (decide (offs c i ≤ k) && decide (k < offs c i + (c + 1 - i)))) = true := by decide +kernel
theorem in_row (c : Nat) (h6 : c < 7) (k : Nat) (hk : k < 28) (h1 : 1 ≤ c) (hkc : k < tsz c) : ∃ i : Nat, i < 7 ∧ i ≤ c ∧ offs c i ≤ k ∧ k < offs c i + (c + 1 - i) := by
  obtain ⟨i, hi, h⟩ := List.any_eq_true.1 (in_row0 c h6 k hk h1 hkc)
  simp only [Bool.and_eq_true, decide_eq_true_eq] at h
  exact ⟨i, List.mem_range.1 hi, h.1, h.2.1, h.2.2⟩
theorem any_segs {xs : List (Option Nat)} {c : Nat} (h1 : 1 ≤ c) (h6 : c ≤ 6) (hl : xs.length = tsz c) : xs.any largeF = (List.range (c + 1)).any fun i => (seg xs c i).any largeF := by
  rw [Bool.eq_iff_iff, List.any_eq_true, List.any_eq_true]
  constructor
  · rintro ⟨x, hx, hp⟩
    obtain ⟨k, hk, rfl⟩ := List.mem_iff_getElem.1 hx
    have hb := tsz_bounds h1 h6
    obtain ⟨i, _, hi, o1, o2⟩ := in_row c (by omega) k (by omega) h1 (by omega)
    refine ⟨i, List.mem_range.2 (by omega), List.any_eq_true.2 ⟨xs[k], ?_, hp⟩⟩
    unfold seg
    have e : xs[k] = ((xs.drop (offs c i)).take (c + 1 - i))[k - offs c i]'(by rw [List.length_take, List.length_drop]; omega) := by
      rw [List.getElem_take, List.getElem_drop]
      congr 1
      omega
    rw [e]
    exact List.getElem_mem _
  · rintro ⟨i, hi, hp⟩
    obtain ⟨x, hx, hp⟩ := List.any_eq_true.1 hp
    exact ⟨x, List.mem_of_mem_drop (List.mem_of_mem_take hx), hp⟩
theorem any_or {α : Type} (p q : α → Bool) : ∀ l : List α, (l.any fun x => p x || q x) = (l.any p || l.any q)
  | [] => rfl
  | x :: l => by
    simp only [List.any_cons, any_or p q l]
    cases p x <;> cases q x <;> cases l.any p <;> cases l.any q <;> rfl
theorem any_congr {α : Type} {p q : α → Bool} : ∀ {l : List α}, (∀ x ∈ l, p x = q x) → l.any p = l.any q
  | [], _ => rfl
  | x :: l, h => by rw [List.any_cons, List.any_cons, h x (List.mem_cons_self ..), any_congr fun y hy => h y (List.mem_cons_of_mem _ hy)]
theorem bad_all {xs : List (Option Nat)} {c : Nat} (h1 : 1 ≤ c) (h6 : c ≤ 6) (hl : xs.length = tsz c) :
    (xs.any largeF || (List.range (c + 1)).any fun i => sgnF (xs.getD (offs c i) none)) = (List.range (c + 1)).any fun i => badS (seg xs c i) := by
  have e : ((List.range (c + 1)).any fun i => badS (seg xs c i)) = ((List.range (c + 1)).any fun i => sgnF (xs.getD (offs c i) none) || (seg xs c i).any largeF) := by
    refine any_congr fun i hi => ?_
    have hi' := List.mem_range.1 hi
    unfold badS
    congr 2
    unfold seg
    rw [List.getD_eq_getElem?_getD, List.getD_eq_getElem?_getD, List.getElem?_take_of_lt (by omega), List.getElem?_drop, Nat.add_zero]
  rw [e, any_or, any_segs h1 h6 hl, Bool.or_comm]

theorem rcheck_calls (cols rws trn : Int) (a : Option Addr) (n cap : Nat) (xs : List (Option Nat)) (w : World) (h : Row w (.slice a n cap) xs) :
    Calls Try.prog 28 #[.agg #[.int .i64 cols, .slice a n cap, .int .i64 rws, .int .i64 trn]] w fun e w' => e = .returned (.bool (checkP cols xs rws trn)) ∧ Below w.heap.size w w' := by
  obtain ⟨a', cap', hv, h1, h2, h3⟩ := h
  simp only [Value.slice.injEq] at hv
  obtain ⟨rfl, rfl, rfl⟩ := hv
  by_cases hc : 1 ≤ cols ∧ cols ≤ 6
  · obtain ⟨c, rfl⟩ := Int.eq_ofNat_of_zero_le (show 0 ≤ cols by omega)
    obtain ⟨c1, c6⟩ := hc
    by_cases hl : xs.length = tsz c ∧ 0 ≤ rws ∧ rws ≤ 200 ∧ 0 ≤ trn ∧ trn ≤ 4096
    · obtain ⟨hl, r0, r1, t0, t1⟩ := hl
      have hb := tsz_bounds (c := c) (by omega) (by omega)
      rcases h3 with ⟨h3, _⟩ | ⟨blk, off, rfl, hcell⟩
      · omega
      · refine (rcheck_rows c rws trn blk off cap xs w (by omega) (by omega) hl h2 r0 r1 t0 t1 hcell).mono ?_
        rintro e w' ⟨rfl, hB⟩
        refine ⟨ret_bool ?_, hB⟩
        rw [bad_all (by omega) (by omega) hl]
        unfold checkP
        simp [c1, c6, hl, r0, r1, t0, t1]
    · refine (rcheck_early c rws trn a xs.length cap w (by omega) (by omega) (by omega)).mono ?_
      rintro e w' ⟨rfl, hB⟩
      refine ⟨ret_bool ?_, hB⟩
      unfold checkP
      symm
      rw [Bool.eq_false_iff]
      intro hh
      simp at hh
      omega
  · refine (rcheck_cols cols rws trn a xs.length cap w hc).mono ?_
    rintro e w' ⟨rfl, hB⟩
    refine ⟨ret_bool ?_, hB⟩
    unfold checkP
    symm
    rw [Bool.eq_false_iff]
    intro hh
    simp at hh
    omega
end Go.Proofs.Ytgmaljikjkbdlaa
