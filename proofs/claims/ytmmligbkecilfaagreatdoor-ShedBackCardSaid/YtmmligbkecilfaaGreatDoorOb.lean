/- A new factor merged with another one: the plain law of MergeNew. -/
import Derived.Test.YtmmligbkecilfaaGreatDoorOa
import Derived.Test.YtmmligbkecilfaaGreatDoorMb
namespace Go.Proofs.YtmmligbkecilfaaGreatDoor
open Lv
open Ieee

/-- what stands in a factor that may be -/
theorem ok_nm {c : Nat} {xs : List (Option Nat)} {rws trn : Int} (hck : checkP (c : Int) xs rws trn = true) (hw : ∀ i b, xs.getD i none = some b → b < 18446744073709551616) :
    1 ≤ c ∧ c ≤ 6 ∧ xs.length = tsz c ∧ (∀ i, i < tsz c → Nm (xs.getD i none)) ∧ Sg c xs := by
  obtain ⟨h1, h6, hl, he⟩ := check_parts hck
  refine ⟨h1, h6, hl, fun i hi => ?_, fun i hi => (he i hi).1⟩
  have h28 := (tsz_bounds (c := c) h1 h6).2
  obtain ⟨a, _, ha, k1, k2⟩ := in_row c (by omega) i (by omega) h1 hi
  have hlg := (he a ha).2 (i - offs c a) (by omega)
  rw [show offs c a + (i - offs c a) = i by omega] at hlg
  cases hx : xs.getD i none with
  | none => rw [hx] at hlg; cases hlg
  | some b => exact (Eqz.refl_of (hw i b hx) (by rw [← hx]; exact hlg)).nm.1
theorem ok_rt {c : Nat} {xs : List (Option Nat)} {rws trn : Int} (hck : checkP (c : Int) xs rws trn = true) : 0 ≤ rws ∧ rws ≤ 200 ∧ 0 ≤ trn ∧ trn ≤ 4096 := ok_rows (F := ⟨(c : Int), xs, rws, trn⟩) hck
theorem lineD_of {c j : Nat} {xs ls ys : List (Option Nat)} {rws trn : Int} (hck : checkP (c : Int) xs rws trn = true) (hj : j ≤ c) (hl : ls.length = c + 1) (h : rlineFrom c (c + 1 - j) j (xs, ls) = some ys) (hy : checkP (c : Int) ys rws trn = true) :
    lineD ⟨(c : Int), xs, rws, trn⟩ ls (j : Int) = (⟨(c : Int), ys, rws, trn⟩, true) := by
  unfold lineD
  rw [if_pos ⟨hck, by omega, by dsimp only; omega, by dsimp only; omega⟩]
  have : rlineP ((c : Int).toNat) rws trn ((j : Int).toNat) (xs, ls) = some ys := by
    unfold rlineP
    rw [Int.toNat_natCast, Int.toNat_natCast, h]
    dsimp only
    rw [if_pos hy]
  dsimp only
  rw [this]
theorem lineD_zeros {c j : Nat} {xs ls : List (Option Nat)} {rws trn : Int} (hck : checkP (c : Int) xs rws trn = true) (hn : ∀ i, i < tsz c → Nm (xs.getD i none)) (hj : j ≤ c) (hl : ls.length = c + 1) (hz : ∀ i, j ≤ i → i ≤ c → Zr (ls.getD i none)) :
    ∃ ys, lineD ⟨(c : Int), xs, rws, trn⟩ ls (j : Int) = (⟨(c : Int), ys, rws, trn⟩, true) ∧ checkP (c : Int) ys rws trn = true ∧ ys.length = tsz c ∧ ∀ i, i < tsz c → Eqz (ys.getD i none) (xs.getD i none) := by
  obtain ⟨h1, h6, hxl, he⟩ := check_parts hck
  obtain ⟨r0, r1, t0, t1⟩ := ok_rt hck
  obtain ⟨ys, q1, q2, q3, q4⟩ := rline_zeros h1 h6 (c + 1 - j) j (xs, ls) (by omega) hxl hl hn (fun i hi => (he i hi).1) hz
  have hy : checkP (c : Int) ys rws trn = true := check_build h1 h6 q2 r0 r1 t0 t1 (fun i hi => (q3 i hi).nm.1.large) (fun i hi => by rw [q4 i hi]; exact (he i hi).1)
  exact ⟨ys, lineD_of hck hj hl q1 hy, hy, q2, q3⟩
theorem lineP_zero (c i : Nat) (h1 : 1 ≤ c) (h6 : c ≤ 6) (hi : i ≤ c) (k : Nat) (hk : k ≤ c) : Zr ((lineP (List.replicate (tsz c) (some 0)) c i).getD k none) := by
  rw [getD_lineP hi k (by omega)]
  by_cases h : k < i
  · rw [if_pos h]; exact ⟨false, rfl⟩
  · rw [if_neg h, getD_rep _ (offs_in h1 h6 hi (by omega))]; exact ⟨false, rfl⟩
theorem two_zeros {c : Nat} {rws trn : Int} {xs : List (Option Nat)} : ∀ (n i : Nat) (gx : List (Option Nat)), n + i = c + 1 → checkP (c : Int) gx rws trn = true → (∀ i, i < tsz c → Eqz (gx.getD i none) (xs.getD i none)) →
    ∃ ys, twoLoop c (List.replicate (tsz c) (some 0)) n i ⟨(c : Int), gx, rws, trn⟩ = (⟨(c : Int), ys, rws, trn⟩, true) ∧ ys.length = tsz c ∧ ∀ i, i < tsz c → Eqz (ys.getD i none) (xs.getD i none)
  | 0, i, gx, _, hck, he => ⟨gx, rfl, (check_parts hck).2.2.1, he⟩
  | n + 1, i, gx, hni, hck, he => by
    obtain ⟨h1, h6, hxl, _⟩ := check_parts hck
    have hi : i ≤ c := by omega
    obtain ⟨ys, e, k1, k2, k3⟩ := lineD_zeros hck (fun i hi => (he i hi).nm.1) hi (lineP_len h1 h6 (xs := List.replicate (tsz c) (some 0)) (by rw [List.length_replicate]) hi) (fun k _ hk => lineP_zero c i h1 h6 hi k hk)
    obtain ⟨zs, q1, q2⟩ := two_zeros n (i + 1) ys (by omega) k1 (fun i hi => (k3 i hi).trans (he i hi))
    refine ⟨zs, ?_, q2⟩
    unfold twoLoop
    rw [e, if_neg (show ¬ (true = false) by decide)]
    exact q1
/-- one row into rows of zeros -/
theorem lineD_row {c i : Nat} {gx fx : List (Option Nat)} {rws trn : Int} (hck : checkP (c : Int) gx rws trn = true) (hn : ∀ k, k < tsz c → Nm (fx.getD k none)) (hfl : fx.length = tsz c) (hs : Sg c fx) (hi : i ≤ c) (hd : ¬ Zr (fx.getD (offs c i) none))
    (hg : ∀ k, k < offs c i → Eqz (gx.getD k none) (fx.getD k none)) (hz : ∀ k, offs c i ≤ k → k < tsz c → Zr (gx.getD k none)) :
    ∃ ys, lineD ⟨(c : Int), gx, rws, trn⟩ (lineP fx c i) (i : Int) = (⟨(c : Int), ys, rws, trn⟩, true) ∧ checkP (c : Int) ys rws trn = true ∧ ys.length = tsz c ∧ (∀ k, k < offs c (i + 1) → Eqz (ys.getD k none) (fx.getD k none)) ∧ (∀ k, offs c (i + 1) ≤ k → k < tsz c → Zr (ys.getD k none)) := by
  obtain ⟨h1, h6, hgl, he⟩ := check_parts hck
  obtain ⟨r0, r1, t0, t1⟩ := ok_rt hck
  have hin := fun k (hk : k ≤ c - i) => offs_in (c := c) (i := i) (j := k) h1 h6 hi hk
  have hos : offs c (i + 1) = offs c i + (c + 1 - i) := rfl
  have hll := lineP_len h1 h6 hfl hi
  obtain ⟨s, r, e1, e2⟩ := hn _ (hin 0 (by omega))
  rw [Nat.add_zero] at e1
  have hs' := hs i hi
  rw [e1] at hs' hd
  have hsf : s = false := by
    cases s with
    | false => rfl
    | true =>
      exfalso
      have := of_decide_eq_false hs'
      have h3 : wd true r = 9223372036854775808 + r := rfl
      omega
  subst hsf
  have hr0 : r ≠ 0 := fun e => hd ⟨false, by rw [e]⟩
  have hLi : (lineP fx c i).getD i none = some (wd false r) := by rw [getD_lineP hi i (by omega), if_neg (by omega), Nat.sub_self, Nat.add_zero, e1]
  have hL : ∀ k, k ≤ c → Nm ((lineP fx c i).getD k none) := by
    intro k hk
    rw [getD_lineP hi k (by omega)]
    by_cases h : k < i
    · rw [if_pos h]; exact ⟨false, 0, rfl, Nat.zero_le _⟩
    · rw [if_neg h]; exact hn _ (hin _ (by omega))
  obtain ⟨st', e, l1, l2, k3, k4, k5, k6⟩ := rstep_first (st := (gx, lineP fx c i)) h1 h6 hgl hll hi (fun k hk => hz _ (by omega) (hin k hk)) (fun k hk => (he k hk).1) (fun k hk => (hL k hk).eqz) hLi hr0 e2
  have hrow : ∀ k, k ≤ c - i → Eqz (st'.1.getD (offs c i + k) none) (fx.getD (offs c i + k) none) := by
    intro k hk
    obtain ⟨s, t, q, a1, a2, a3, a4⟩ := k3 k hk
    rw [getD_lineP hi (i + k) (by omega), if_neg (by omega), show i + k - i = k by omega] at a2
    exact ⟨s, t, q, a1, a2, a3, fun h => by rw [a4 h, Bool.false_xor]⟩
  have hE : ∀ k, k < offs c (i + 1) → Eqz (st'.1.getD k none) (fx.getD k none) := by
    intro k hk
    by_cases c1 : k < offs c i
    · rw [k4 k (.inl c1)]; exact hg k c1
    · have := hrow (k - offs c i) (by omega)
      rw [show offs c i + (k - offs c i) = k by omega] at this
      exact this
  have hZ : ∀ k, offs c (i + 1) ≤ k → k < tsz c → Zr (st'.1.getD k none) := by
    intro k hk hk2
    rw [k4 k (.inr (by omega))]
    exact hz k (by omega) hk2
  obtain ⟨ys, q1, q2, q3, q4⟩ := rline_zeros h1 h6 (c - i) (i + 1) st' (by omega) l1 l2 (fun k hk => by
    by_cases c1 : k < offs c (i + 1)
    · exact (hE k c1).nm.1
    · exact (hZ k (by omega) hk).nm) k5 (fun k hk hk2 => k6 k (by omega) hk2)
  have hy : checkP (c : Int) ys rws trn = true := check_build h1 h6 q2 r0 r1 t0 t1 (fun k hk => (q3 k hk).nm.1.large) (fun k hk => by rw [q4 k hk]; exact k5 k hk)
  have hb : offs c (i + 1) ≤ tsz c := by have := offs_le c (i + 1) h1 h6 (by omega); unfold tsz; omega
  refine ⟨ys, lineD_of hck hi hll ?_ hy, hy, q2, fun k hk => (q3 k (by omega)).trans (hE k hk), fun k hk hk2 => Zr.of_eqz (q3 k hk2) (hZ k hk hk2)⟩
  rw [show c + 1 - i = c - i + 1 by omega]
  unfold rlineFrom
  rw [e]
  exact q1
theorem two_into {c : Nat} {rws trn : Int} {fx : List (Option Nat)} (hn : ∀ k, k < tsz c → Nm (fx.getD k none)) (hfl : fx.length = tsz c) (hs : Sg c fx) (hd : ∀ i, i ≤ c → ¬ Zr (fx.getD (offs c i) none)) :
    ∀ (n i : Nat) (gx : List (Option Nat)), n + i = c + 1 → checkP (c : Int) gx rws trn = true → (∀ k, k < offs c i → Eqz (gx.getD k none) (fx.getD k none)) → (∀ k, offs c i ≤ k → k < tsz c → Zr (gx.getD k none)) →
    ∃ ys, twoLoop c fx n i ⟨(c : Int), gx, rws, trn⟩ = (⟨(c : Int), ys, rws, trn⟩, true) ∧ ys.length = tsz c ∧ ∀ i, i < tsz c → Eqz (ys.getD i none) (fx.getD i none)
  | 0, i, gx, hni, hck, hg, _ => by
    obtain ⟨h1, h6, hgl, _⟩ := check_parts hck
    have he := offs_end c h1 h6
    have hi : i = c + 1 := by omega
    subst hi
    exact ⟨gx, rfl, hgl, fun k hk => hg k (by rw [he]; exact hk)⟩
  | n + 1, i, gx, hni, hck, hg, hz => by
    have hi : i ≤ c := by omega
    obtain ⟨ys, e, k1, k2, k3, k4⟩ := lineD_row hck hn hfl hs hi (hd i hi) hg hz
    obtain ⟨zs, q1, q2⟩ := two_into hn hfl hs hd n (i + 1) ys (by omega) k1 k3 k4
    refine ⟨zs, ?_, q2⟩
    unfold twoLoop
    rw [e, if_neg (show ¬ (true = false) by decide)]
    exact q1
/-- a new factor -/
def newD (c : Nat) : FacD := ⟨(c : Int), List.replicate (tsz c) (some 0), 0, 0⟩
theorem new_ok {c : Nat} (h1 : 1 ≤ c) (h6 : c ≤ 6) : (newD c).ok = true := by
  refine check_build (c := c) (ys := List.replicate (tsz c) (some 0)) (r := 0) (t := 0) h1 h6 (by rw [List.length_replicate]) (by decide) (by decide) (by decide) (by decide) (fun i hi => ?_) (fun i hi => ?_)
  · rw [getD_rep _ hi]; decide +kernel
  · have := offs_in (c := c) (i := i) (j := 0) h1 h6 hi (by omega)
    rw [getD_rep _ (by omega)]; rfl
/-- THE PLAIN LAW of MergeNew -/
theorem two_new {c : Nat} {xs : List (Option Nat)} {rws trn : Int} (hck : checkP (c : Int) xs rws trn = true) (hw : ∀ i b, xs.getD i none = some b → b < 18446744073709551616) :
    (4096 < trn + sizeI (c : Int) → twoD ⟨(c : Int), xs, rws, trn⟩ (newD c) = (fac0, 6) ∧ twoD (newD c) ⟨(c : Int), xs, rws, trn⟩ = (fac0, 6)) ∧
    (¬ 4096 < trn + sizeI (c : Int) → (∃ ys, twoD ⟨(c : Int), xs, rws, trn⟩ (newD c) = (⟨(c : Int), ys, rws, trn + sizeI (c : Int)⟩, 0) ∧ Eqs ys xs) ∧
      ((∀ i, i ≤ c → ¬ Zr (xs.getD (offs c i) none)) → ∃ ys, twoD (newD c) ⟨(c : Int), xs, rws, trn⟩ = (⟨(c : Int), ys, rws, trn + sizeI (c : Int)⟩, 0) ∧ Eqs ys xs)) := by
  obtain ⟨h1, h6, hl, hn, hs⟩ := ok_nm hck hw
  obtain ⟨r0, r1, t0, t1⟩ := ok_rt hck
  have hno := new_ok h1 h6
  have m1 : max trn (0 : Int) = trn := by omega
  have m2 : max (0 : Int) trn = trn := by omega
  constructor
  · intro hf
    constructor
    · refine twoD_early ?_ (by decide)
      unfold twoEarly
      rw [if_neg (by rw [hno]; rintro (h | h); · rw [show (⟨(c : Int), xs, rws, trn⟩ : FacD).ok = true from hck] at h; cases h
                     · cases h), if_neg (by simp [newD]), if_pos (.inr (by simp only [newD]; omega))]
    · refine twoD_early ?_ (by decide)
      unfold twoEarly
      rw [if_neg (by rw [hno]; rintro (h | h); · cases h
                     · rw [show (⟨(c : Int), xs, rws, trn⟩ : FacD).ok = true from hck] at h; cases h), if_neg (by simp [newD]), if_pos (.inr (by simp only [newD]; omega))]
  · intro hf
    constructor
    · obtain ⟨ys, e, k1, k2⟩ := two_zeros (c := c) (rws := rws) (trn := trn) (xs := xs) (c + 1) 0 xs rfl hck (fun i hi => (hn i hi).eqz)
      refine ⟨ys, ?_, ?_⟩
      · have h0 : twoEarly ⟨(c : Int), xs, rws, trn⟩ (newD c) = 0 := by
          unfold twoEarly
          rw [if_neg (by rw [hno]; rintro (h | h); · rw [show (⟨(c : Int), xs, rws, trn⟩ : FacD).ok = true from hck] at h; cases h
                         · cases h), if_neg (by simp [newD]), if_neg (by simp only [newD]; omega)]
        rw [twoD_loop h0 (R := (⟨(c : Int), ys, rws, trn⟩, true)) (by simp only [newD, Int.toNat_natCast]; exact e), if_neg (show ¬ (true = false) by decide)]
        simp only [newD, m1, Int.add_zero]
      · exact ⟨by omega, fun i hi => k2 i (by omega)⟩
    · intro hd
      obtain ⟨ys, e, k1, k2⟩ := two_into (c := c) (rws := 0) (trn := 0) hn hl hs hd (c + 1) 0 (List.replicate (tsz c) (some 0)) rfl hno (fun k hk => absurd hk (Nat.not_lt_zero _)) (fun k _ hk => ⟨false, by rw [getD_rep _ hk]; rfl⟩)
      refine ⟨ys, ?_, ?_⟩
      · have h0 : twoEarly (newD c) ⟨(c : Int), xs, rws, trn⟩ = 0 := by
          unfold twoEarly
          rw [if_neg (by rw [hno]; rintro (h | h); · cases h
                         · rw [show (⟨(c : Int), xs, rws, trn⟩ : FacD).ok = true from hck] at h; cases h), if_neg (by simp [newD]), if_neg (by simp only [newD]; omega)]
        rw [twoD_loop h0 (R := (⟨(c : Int), ys, 0, 0⟩, true)) (by simp only [newD, Int.toNat_natCast]; exact e), if_neg (show ¬ (true = false) by decide)]
        simp only [newD, m2, Int.zero_add]
      · exact ⟨by omega, fun i hi => k2 i (by omega)⟩
end Go.Proofs.YtmmligbkecilfaaGreatDoor
