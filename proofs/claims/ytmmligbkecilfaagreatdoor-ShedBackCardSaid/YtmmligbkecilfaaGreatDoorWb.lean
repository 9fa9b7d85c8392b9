/- Where numbers stay small a rotation is there, a line is rotated in, two factors merge. Rows absorbed one by one, in two factors, which are merged: what comes is near to what the rows come to. -/
import Derived.Test.YtmmligbkecilfaaGreatDoorZm
import Derived.Test.YtmmligbkecilfaaGreatDoorSm
import Derived.Test.YtmmligbkecilfaaGreatDoorOb
namespace Go.Proofs.YtmmligbkecilfaaGreatDoor
open Lv
open Ieee

theorem p2_lt_inv {a b : Int} (h : p2 a ≤ p2 b) : a ≤ b := by
  by_cases c : a ≤ b
  · exact c
  · exfalso
    have h1 := p2_le (show b + 1 ≤ a by omega)
    have h2 := p2_succ b
    have h3 := p2_pos b
    grind
theorem bd_sg_rv {s : Bool} {r : Nat} {X : Rat} (hr : r < 9218868437227405312) (h : Bd (fv (some (wd s r))) X) : rv r ≤ X := by
  rw [fv_wd s hr, vz_sg, bd_sg] at h
  exact h.2
/-- a rotation of two numbers, neither of them great -/
theorem of_there {f g : Option Nat} (hf : Lv.Fn f) (hg : Lv.Fn g) (bf : Bd (fv f) (p2 440)) (bg : Bd (fv g) (p2 440)) : ∃ cc ss rr, ofF f g = some (cc, ss, rr) := by
  obtain ⟨s, f, rfl, hf⟩ := hf
  obtain ⟨t, g, rfl, hg⟩ := hg
  have bf := bd_sg_rv hf bf
  have bg := bd_sg_rv hg bg
  by_cases h0 : f = 0 ∧ g = 0
  · obtain ⟨rfl, rfl⟩ := h0
    exact ⟨_, _, _, ofF_zero s t⟩
  obtain ⟨K, hK⟩ : ∃ K, K = ofK (some (wd s f)) (some (wd t g)) := ⟨_, rfl⟩
  obtain ⟨k0, k1⟩ := ofK_range (some (wd s f)) (some (wd t g))
  rw [← hK] at k0 k1
  have htop : ∀ (s : Bool) (c : Nat), c < 9218868437227405312 → rv c ≤ p2 440 → topF (some (wd s c)) ≤ 440 ∧ (topF (some (wd s c)) - 23 ≤ K → rv c * p2 (-K) ≤ p2 24) := by
    intro s c hc hb
    rcases topF_cases s hc with ⟨rfl, e⟩ | ⟨hc0, e⟩
    · rw [e]
      refine ⟨by decide, fun _ => ?_⟩
      rw [rv_zero, Rat.zero_mul]
      exact Rat.le_of_lt (p2_pos _)
    · rw [e]
      refine ⟨p2_lt_inv (rle_trans (top_above hc0 hc).1 hb), fun hk => ?_⟩
      have := (top_above hc0 hc).2
      have h2 := Rat.mul_lt_mul_of_pos_right this (p2_pos (-K))
      rw [← p2_add] at h2
      exact rle_trans (Rat.le_of_lt h2) (p2_le (by omega))
  have a1 := (htop s f hf bf).1
  have a2 := (htop t g hg bg).1
  have hK4 : K ≤ 440 := by rw [hK]; unfold ofK; omega
  have hKm : topF (some (wd s f)) - 23 ≤ K ∧ topF (some (wd t g)) - 23 ≤ K := by
    rw [hK]
    unfold ofK
    omega
  have w24 := pw_val (k := 24) (by decide) (by decide)
  have w25 := pw_val (k := 25) (by decide) (by decide)
  have w48 := pw_val (k := 48) (by decide) (by decide)
  have w49 := pw_val (k := 49) (by decide) (by decide)
  have w465 := pw_val (k := 465) (by decide) (by decide)
  have l24 : pw 24 < 9218868437227405312 := w24.2.2
  have l48 : pw 48 < 9218868437227405312 := w48.2.2
  have l49 : pw 49 < 9218868437227405312 := w49.2.2
  have l465 : pw 465 < 9218868437227405312 := w465.2.2
  obtain ⟨A, a1, a2⟩ := scale_mid s hf (k := -K) (by omega) (by omega)
  obtain ⟨B, b1, b2⟩ := scale_mid t hg (k := -K) (by omega) (by omega)
  have hA : A ≤ pw 24 := mid_le a1 (by rw [w24.1]; exact (htop s f hf bf).2 hKm.1)
  have hB : B ≤ pw 24 := mid_le b1 (by rw [w24.1]; exact (htop t g hg bg).2 hKm.2)
  rw [Nat.min_eq_left (by omega)] at a2 b2
  obtain ⟨P, p1, p2'⟩ := mul_mid (x := A) (y := A) (by omega) (by omega)
  obtain ⟨Q, q1, q2⟩ := mul_mid (x := B) (y := B) (by omega) (by omega)
  have hP : P ≤ pw 48 := mid_le p1 (by rw [w48.1]; exact sq_le hA)
  have hQ : Q ≤ pw 48 := mid_le q1 (by rw [w48.1]; exact sq_le hB)
  have p3 := p2' s s
  have q3 := q2 t t
  rw [Bool.xor_self, Nat.min_eq_left (by omega)] at p3 q3
  obtain ⟨S, s1, s2⟩ := add_mid (x := P) (y := Q) (by omega) (by omega)
  have hS : S ≤ pw 49 := by
    refine mid_le s1 ?_
    have r1 := rv_le hP
    have r2 := rv_le hQ
    have r3 := p2_succ 48
    rw [w48.1] at r1 r2
    rw [w49.1, show (49 : Int) = 48 + 1 from rfl, r3]
    grind
  rw [Nat.min_eq_left (by omega)] at s2
  obtain ⟨H, h1, h2, h3⟩ := sqrt_smid' (x := S) (by omega)
  have hH25 : H ≤ pw 25 := by
    by_cases c : H ≤ pw 25
    · exact c
    · exfalso
      have e1 := rv_le (show pw 25 ≤ H - 1 by omega)
      have e2 := rv_le (show pw 25 ≤ H by omega)
      have e3 := (h3.lo (by omega)).1
      have e4 := rv_le hS
      rw [w25.1] at e1 e2
      rw [w49.1] at e4
      have e5 := rsq_le (show 0 ≤ p2 25 + p2 25 by have := p2_pos 25; grind) (show p2 25 + p2 25 ≤ rv (H - 1) + rv H by grind)
      have e6 : p2 25 * p2 25 = p2 50 := by rw [← p2_add]; rfl
      have e7 := p2_succ 49
      rw [show (49 : Int) + 1 = 50 from rfl] at e7
      have e8 := p2_pos 49
      grind
  obtain ⟨R, r1, r2⟩ := scale_mid false h2 (k := K) k0 k1
  have hR : R ≤ pw 465 := mid_le r1 (by
    rw [w465.1]
    have e1 := rv_le hH25
    rw [w25.1] at e1
    have e2 := Rat.mul_le_mul_of_nonneg_right e1 (Rat.le_of_lt (p2_pos K))
    rw [← p2_add] at e2
    exact rle_trans e2 (p2_le (by omega)))
  have hHe : ofH (some (wd s f)) (some (wd t g)) = some H := by
    unfold ofH
    rw [← hK, a2, b2]
    have e1 : fmul (some (wd s A)) (some (wd s A)) = some P := p3
    have e2 : fmul (some (wd t B)) (some (wd t B)) = some Q := q3
    have e3 : fadd (some P) (some Q) = some S := s2
    rw [e1, e2, e3]
    exact h1
  have hRe : ofR (some (wd s f)) (some (wd t g)) = some (wd false R) := by
    unfold ofR
    rw [hHe, ← hK]
    rw [Nat.min_eq_left (by omega)] at r2
    exact r2
  have hz : (zeroF (some (wd s f)) && zeroF (some (wd t g))) = false := by
    rw [zeroF_wd s hf, zeroF_wd t hg]
    by_cases c : f = 0
    · rw [decide_eq_false (show ¬ g = 0 from fun e => h0 ⟨c, e⟩), Bool.and_false]
    · rw [decide_eq_false c, Bool.false_and]
  cases hof : ofF (some (wd s f)) (some (wd t g)) with
  | some v => exact ⟨v.1, v.2.1, v.2.2, rfl⟩
  | none =>
    exfalso
    unfold ofF at hof
    rw [numF_wd s hf, numF_wd t hg, if_neg (by decide), hz, if_neg (by decide), hRe, numF_wd false (by omega), if_neg (by decide)] at hof
    cases hof
/-- the root bears no sign -/
theorem of_root {f g cc ss rr : Option Nat} (hf : Lv.Fn f) (hg : Lv.Fn g) (h : ofF f g = some (cc, ss, rr)) : sgnF rr = false := by
  obtain ⟨s, f, rfl, hf⟩ := hf
  obtain ⟨t, g, rfl, hg⟩ := hg
  by_cases h0 : f = 0 ∧ g = 0
  · obtain ⟨rfl, rfl⟩ := h0
    rw [ofF_zero] at h
    simp only [Option.some.injEq, Prod.mk.injEq] at h
    obtain ⟨_, _, rfl⟩ := h
    decide
  · obtain ⟨K, A, B, P, Q, S, H, R, p⟩ := of_parts s t hf hg h0 h
    rw [p.er]
    have := p.lR
    exact decide_eq_false (by omega)
/-- a line is rotated in -/
theorem rline_some {c : Nat} {M : Nat → Rat} (h1 : 1 ≤ c) (h6 : c ≤ 6) (hM0 : ∀ l, l ≤ c → 0 ≤ M l) (hM : ∀ l, l ≤ c → M l ≤ p2 440) : ∀ (n j : Nat) (st : List (Option Nat) × List (Option Nat)), n + j = c + 1 → st.1.length = tsz c → st.2.length = c + 1 →
    AllFn c j st → (∀ a, a ≤ c → sgnF (st.1.getD (offs c a) none) = false) → (∀ l, l ≤ c → Gmx c j st l l + (n : Rat) * EE (M l) (M l) ≤ M l * M l) →
    ∃ ys, rlineFrom c n j st = some ys ∧ ∀ a, a ≤ c → sgnF (ys.getD (offs c a) none) = false
  | 0, j, st, _, _, _, _, hs, _ => ⟨_, rfl, hs⟩
  | n + 1, j, st, hnj, hl, hl2, hfn, hs, hS => by
    have hj : j ≤ c := by omega
    have hS0 : ∀ l, l ≤ c → Gmx c j st l l ≤ M l * M l := by
      intro l hlc
      have h1 := hS l hlc
      have h2 := rmul_nn (show (0 : Rat) ≤ ((n + 1 : Nat) : Rat) by exact_mod_cast Nat.zero_le _) (EE_nn (hM0 l hlc) (hM0 l hlc))
      grind
    have hjj := hfn.tri j j (Nat.le_refl _) hj
    rw [Nat.sub_self, Nat.add_zero] at hjj
    have hrj := hfn.row j (Nat.le_refl _) hj
    have hsq : fv (st.1.getD (offs c j) none) * fv (st.1.getD (offs c j) none) + fv (st.2.getD j none) * fv (st.2.getD j none) ≤ M j * M j := by
      have h := hS0 j hj
      unfold Gmx Gx at h
      have h2 := sumQ_ge (f := fun a => Lx st.1 c a j * Lx st.1 c a j) (j := j) (c + 1) (by omega) (fun a _ => rsq_nn _)
      have e1 : Lx st.1 c j j = fv (st.1.getD (offs c j) none) := by unfold Lx; rw [if_neg (by omega), Nat.sub_self, Nat.add_zero]
      have e2 : Rx st.2 j j = fv (st.2.getD j none) := by unfold Rx; rw [if_neg (by omega)]
      rw [e1] at h2
      rw [e2] at h
      grind
    have n1 := rsq_nn (fv (st.1.getD (offs c j) none))
    have n2 := rsq_nn (fv (st.2.getD j none))
    obtain ⟨cc, ss, r, hof⟩ := of_there hjj hrj ((bd_of_sq (hM0 j hj) (by grind)).mono (hM j hj)) ((bd_of_sq (hM0 j hj) (by grind)).mono (hM j hj))
    obtain ⟨st', e, k1, k2, k3, k4⟩ := step_gram h1 h6 hl hl2 hj hof hfn hM0 hM hS0
    obtain ⟨st2, e2, _, _, k5, _⟩ := rstep_at h1 h6 hl hl2 hj hof
    rw [e] at e2
    obtain rfl := Option.some.inj e2
    have hs' : ∀ a, a ≤ c → sgnF (st'.1.getD (offs c a) none) = false := by
      intro a ha
      rw [k5]
      by_cases ej : a = j
      · subst ej; rw [if_pos rfl]; exact of_root hjj hrj hof
      · rcases Nat.lt_or_ge a j with h | h
        · have := offs_apart c h6 a j h hj
          rw [if_neg (by omega), if_neg (by omega)]; exact hs a ha
        · have := offs_apart c h6 j a (by omega) (by omega)
          rw [if_neg (by omega), if_neg (by omega)]; exact hs a ha
    obtain ⟨ys, q1, q2⟩ := rline_some h1 h6 hM0 hM n (j + 1) st' (by omega) k1 k2 k3 hs' (fun l hlc => by
      have h1 := hS l hlc
      have h2 := k4 l l hlc hlc
      rw [natr_succ] at h1
      unfold Bd at h2
      grind)
    refine ⟨ys, ?_, q2⟩
    unfold rlineFrom
    rw [e]
    exact q1
theorem large_no {x : Option Nat} (hx : Lv.Fn x) (h : Bd (fv x) (p2 420)) : largeF x = false := by
  obtain ⟨s, r, rfl, hr⟩ := hx
  have hb := bd_sg_rv hr h
  have w := pw_val (k := 420) (by decide) (by decide)
  have hm : wd s r % 9223372036854775808 = r := by
    cases s with
    | false => show r % 9223372036854775808 = r; omega
    | true => show (9223372036854775808 + r) % 9223372036854775808 = r; omega
  show decide (pw 420 < wd s r % 9223372036854775808) = false
  rw [hm]
  refine decide_eq_false fun hlt => ?_
  have := rv_lt hlt
  rw [w.1] at this
  grind
/-- what Check of layer 7 asks -/
theorem check_mk {c : Nat} {xs : List (Option Nat)} {r t : Int} (h1 : 1 ≤ c) (h6 : c ≤ 6) (hl : xs.length = tsz c) (r0 : 0 ≤ r) (r1 : r ≤ 200) (t0 : 0 ≤ t) (t1 : t ≤ 4096) (h : ∀ i, i ≤ c → sgnF (xs.getD (offs c i) none) = false ∧ ∀ j, j ≤ c - i → largeF (xs.getD (offs c i + j) none) = false) : checkP (c : Int) xs r t = true := by
  have hb : ((List.range ((c : Int).toNat + 1)).any fun i => badS (seg xs (c : Int).toNat i)) = false := by
    rw [List.any_eq_false]
    intro i hi
    rw [Int.toNat_natCast] at hi ⊢
    have hi2 := List.mem_range.1 hi
    obtain ⟨g1, g2⟩ := h i (by omega)
    have hsl := seg_length h1 h6 hl (show i ≤ c by omega)
    have hg : ∀ j, j < c + 1 - i → (seg xs c i).getD j none = xs.getD (offs c i + j) none := by
      intro j hj
      unfold seg
      rw [List.getD_eq_getElem?_getD, List.getElem?_take_of_lt hj, List.getElem?_drop, ← List.getD_eq_getElem?_getD]
    have a1 : sgnF ((seg xs c i).getD 0 none) = false := by rw [hg 0 (by omega)]; exact g1
    have a2 : (seg xs c i).any largeF = false := by
      rw [List.any_eq_false]
      intro x hx
      obtain ⟨j, hj, rfl⟩ := List.getElem_of_mem hx
      have e : (seg xs c i)[j] = (seg xs c i).getD j none := by rw [List.getD_eq_getElem?_getD, List.getElem?_eq_getElem hj]; rfl
      rw [e, hg j (by omega), g2 j (by omega)]
      simp
    unfold badS
    rw [a1, a2]
    simp
  unfold checkP
  rw [hb]
  simp [hl]
  omega
theorem bd_entry {c : Nat} {M : Nat → Rat} {xs : List (Option Nat)} {a l : Nat} (hM0 : ∀ l, l ≤ c → 0 ≤ M l) (hg : ∀ l, l ≤ c → Gx xs c l l ≤ M l * M l) (hal : a ≤ l) (hl : l ≤ c) : Bd (fv (xs.getD (offs c a + (l - a)) none)) (M l) := by
  have h2 := sumQ_ge (f := fun a => Lx xs c a l * Lx xs c a l) (j := a) (c + 1) (by omega) (fun a _ => rsq_nn _)
  have h3 := hg l hl
  unfold Gx at h3
  have e1 : Lx xs c a l = fv (xs.getD (offs c a + (l - a)) none) := by unfold Lx; rw [if_neg (by omega)]
  rw [e1] at h2
  exact bd_of_sq (hM0 l hl) (Rat.le_trans h2 h3)
theorem line_check {c : Nat} {M : Nat → Rat} {ys : List (Option Nat)} {r t : Int} (h1 : 1 ≤ c) (h6 : c ≤ 6) (hl : ys.length = tsz c) (r0 : 0 ≤ r) (r1 : r ≤ 200) (t0 : 0 ≤ t) (t1 : t ≤ 4096) (hM0 : ∀ l, l ≤ c → 0 ≤ M l) (hM : ∀ l, l ≤ c → M l ≤ p2 420) (hs : ∀ a, a ≤ c → sgnF (ys.getD (offs c a) none) = false)
    (hf : ∀ a l, a ≤ l → l ≤ c → Lv.Fn (ys.getD (offs c a + (l - a)) none)) (hg : ∀ l, l ≤ c → Gx ys c l l ≤ M l * M l) : checkP (c : Int) ys r t = true := by
  refine check_mk h1 h6 hl r0 r1 t0 t1 fun i hi => ⟨hs i hi, fun j hj => ?_⟩
  have := hf i (i + j) (by omega) (by omega)
  have b := bd_entry hM0 hg (show i ≤ i + j by omega) (show i + j ≤ c by omega)
  rw [show i + j - i = j by omega] at this b
  exact large_no this (b.mono (hM _ (by omega)))
/-- what Line comes to, where numbers stay small -/
theorem line_gram {c : Nat} {M : Nat → Rat} {xs ls : List (Option Nat)} {r t : Int} {j : Nat} (hM0 : ∀ l, l ≤ c → 0 ≤ M l) (hM : ∀ l, l ≤ c → M l ≤ p2 420) (hck : checkP (c : Int) xs r t = true) (hj : j ≤ c) (hll : ls.length = c + 1) (hfn : AllFn c j (xs, ls))
    (hS : ∀ l, l ≤ c → Gmx c j (xs, ls) l l + ((c + 1 - j : Nat) : Rat) * EE (M l) (M l) ≤ M l * M l) :
    ∃ ys, lineD ⟨(c : Int), xs, r, t⟩ ls (j : Int) = (⟨(c : Int), ys, r, t⟩, true) ∧ checkP (c : Int) ys r t = true ∧ ys.length = tsz c ∧ (∀ a l, a ≤ l → l ≤ c → Lv.Fn (ys.getD (offs c a + (l - a)) none)) ∧ ∀ i l, i ≤ c → l ≤ c → Bd (Gx ys c i l - Gmx c j (xs, ls) i l) (((c + 1 - j : Nat) : Rat) * EE (M i) (M l)) := by
  obtain ⟨h1, h6, hxl, he⟩ := check_parts hck
  have hM440 : ∀ l, l ≤ c → M l ≤ p2 440 := fun l hl => Rat.le_trans (hM l hl) (p2_le (by decide))
  obtain ⟨ys, q1, q2⟩ := rline_some h1 h6 hM0 hM440 (c + 1 - j) j (xs, ls) (by omega) hxl hll hfn (fun a ha => (he a ha).1) hS
  obtain ⟨g1, g2, g3⟩ := rline_gram h1 h6 hM0 hM440 (c + 1 - j) j (xs, ls) ys (by omega) hxl hll hfn hS q1
  have hrt : 0 ≤ r ∧ r ≤ 200 ∧ 0 ≤ t ∧ t ≤ 4096 := by
    have := hck
    unfold checkP at this
    simp only [Bool.and_eq_true, decide_eq_true_eq] at this
    omega
  have hcy : checkP (c : Int) ys r t = true := line_check h1 h6 g1 hrt.1 hrt.2.1 hrt.2.2.1 hrt.2.2.2 hM0 hM q2 g2 (fun l hl => by
    have a1 := hS l hl
    have a2 := g3 l l hl hl
    unfold Bd at a2
    grind)
  refine ⟨ys, ?_, hcy, g1, g2, g3⟩
  unfold lineD
  rw [if_pos ⟨hck, by omega, by dsimp only; omega, by dsimp only; omega⟩]
  dsimp only
  unfold rlineP
  rw [Int.toNat_natCast, Int.toNat_natCast, q1]
  dsimp only
  rw [if_pos hcy]
end Go.Proofs.YtmmligbkecilfaaGreatDoor
namespace Go.Proofs.YtmmligbkecilfaaGreatDoor
open Lv
open Ieee

/-- the rows' products, together -/
def rowsQ (rs : List RowD) (p q : Nat) : Rat := match rs with
  | [] => 0
  | r :: rs => Rx (r.1 ++ [r.2]) 0 p * Rx (r.1 ++ [r.2]) 0 q + rowsQ rs p q
theorem rowsQ_append (a b : List RowD) (p q : Nat) : rowsQ (a ++ b) p q = rowsQ a p q + rowsQ b p q := by
  induction a with
  | nil => show rowsQ b p q = 0 + _; grind
  | cons r a ih => show _ + rowsQ (a ++ b) p q = _ + rowsQ a p q + _; rw [ih]; grind
theorem rowsQ_nn (rs : List RowD) (l : Nat) : 0 ≤ rowsQ rs l l := by
  induction rs with
  | nil => exact Rat.le_refl
  | cons r rs ih =>
    have := rsq_nn (Rx (r.1 ++ [r.2]) 0 l)
    show 0 ≤ _ + rowsQ rs l l
    grind
theorem gram_rows {c A p q : Nat} (h1 : 1 ≤ c) (h6 : c ≤ 6) (hpq : p ≤ q) (hq : q ≤ c) : ∀ (rs : List RowD) (s : List Rat), s.length = tsz c → (∀ r ∈ rs, RowOk c A r) →
    (rs.foldl (fun s r => addL s (prs ((r.1 ++ [r.2]).map fv))) s).getD (gix c p q) 0 = s.getD (gix c p q) 0 + rowsQ rs p q
  | [], s, _, _ => by show _ = _ + (0 : Rat); rw [List.foldl_nil]; grind
  | r :: rs, s, hs, h => by
    have hr := h r (List.mem_cons_self ..)
    have hf : (r.1 ++ [r.2]).length = c + 1 := by rw [List.length_append, hr.len]; rfl
    rw [List.foldl_cons, gram_rows h1 h6 hpq hq rs _ (addL_len hs hr.prs) (fun r hr => h r (List.mem_cons_of_mem _ hr)), addL_get hs hr.prs (gix_lt h1 h6 hpq hq), rowg_get hf hpq hq]
    show _ = _ + (_ + rowsQ rs p q)
    grind
theorem gramL_rows {c A p q : Nat} (h1 : 1 ≤ c) (h6 : c ≤ 6) (hpq : p ≤ q) (hq : q ≤ c) {rs : List RowD} (h : ∀ r ∈ rs, RowOk c A r) : (gramL c rs).getD (gix c p q) 0 = rowsQ rs p q := by
  unfold gramL
  rw [gram_rows h1 h6 hpq hq rs _ (by rw [List.length_replicate]) h, List.getD_eq_getElem?_getD, List.getElem?_replicate, if_pos (gix_lt h1 h6 hpq hq)]
  show 0 + _ = _
  grind
theorem fn_in4 {x : Option Nat} (hw : Wd x) (h : outF x = false) : Lv.Fn x ∧ Bd (fv x) (p2 ((400 : Nat) : Int)) := by
  have w4 := pw_val (k := 400) (by decide) (by decide)
  have := fn_of hw (k := pw 400) w4.2.2 (fun b e => by
    subst e
    have h2 : inW b = true := by simpa [outF] using h
    unfold inW at h2
    simp at h2
    omega) (fun e => by subst e; cases h)
  rw [w4.1] at this
  exact this
/-- rows' words -/
def RwW (rs : List RowD) : Prop := ∀ r ∈ rs, (∀ i, Wd (r.1.getD i none)) ∧ Wd r.2
theorem row_in {c : Nat} {F : FacD} {ls : List (Option Nat)} {Y : Option Nat} (hc : F.cols = (c : Int)) (hw2 : ∀ i, Wd (ls.getD i none)) (hY : Wd Y) (h : (rowD F ls Y).2 = 0) : RowOk c 400 (ls, Y) := by
  obtain ⟨hok, hl, ho1, ho2⟩ := early_zero (rowD_zero h).1
  have key : ∀ x ∈ ls ++ [Y], Lv.Fn x ∧ Bd (fv x) (p2 ((400 : Nat) : Int)) := by
    intro x hx
    rcases List.mem_append.1 hx with hx | hx
    · obtain ⟨i, hi, rfl⟩ := List.getElem_of_mem hx
      have e : ls[i] = ls.getD i none := by rw [List.getD_eq_getElem?_getD, List.getElem?_eq_getElem hi]; rfl
      rw [e]
      refine fn_in4 (hw2 i) ?_
      rw [List.any_eq_false] at ho1
      have := ho1 ls[i] (List.getElem_mem hi)
      rw [e] at this
      simpa using this
    · obtain rfl := List.mem_singleton.1 hx
      exact fn_in4 hY ho2
  exact ⟨by dsimp only; omega, fun x hx => (key x hx).1, fun x hx => (key x hx).2⟩
/-- one row absorbed -/
theorem row_gram {c A : Nat} {M : Nat → Rat} {xs ls : List (Option Nat)} {Y : Option Nat} {r t : Int} {G : FacD} (hM0 : ∀ l, l ≤ c → 0 ≤ M l) (hM : ∀ l, l ≤ c → M l ≤ p2 440) (hf : ∀ a l, a ≤ l → l ≤ c → Lv.Fn (xs.getD (offs c a + (l - a)) none)) (hRow : RowOk c A (ls, Y))
    (h : rowD ⟨(c : Int), xs, r, t⟩ ls Y = (G, 0)) (hS : ∀ l, l ≤ c → Gx xs c l l + Rx (ls ++ [Y]) 0 l * Rx (ls ++ [Y]) 0 l + ((c + 1 : Nat) : Rat) * EE (M l) (M l) ≤ M l * M l) :
    G = ⟨(c : Int), G.xs, r + 1, t + ((c : Int) + 1)⟩ ∧ checkP (c : Int) G.xs (r + 1) (t + ((c : Int) + 1)) = true ∧ (∀ a l, a ≤ l → l ≤ c → Lv.Fn (G.xs.getD (offs c a + (l - a)) none)) ∧
      ∀ p q, p ≤ c → q ≤ c → Bd (Gx G.xs c p q - (Gx xs c p q + Rx (ls ++ [Y]) 0 p * Rx (ls ++ [Y]) 0 q)) (((c + 1 : Nat) : Rat) * EE (M p) (M q)) := by
  obtain ⟨k1, k2, k3⟩ := rowD_zero (by rw [h])
  obtain ⟨g1, g2, g3, g4⟩ := rowD_ok (F := ⟨(c : Int), xs, r, t⟩) (ls := ls) (Y := Y) (by rw [h])
  rw [h] at g1 g2 g3 g4
  dsimp only at g2 g3 g4
  rw [rowD_line k1 k2, k3, if_neg (by decide)] at h
  have hG := (Prod.mk.inj h).1
  have hL : lineD ⟨(c : Int), xs, r, t⟩ (ls ++ [Y]) ((0 : Nat) : Int) = ((lineD ⟨(c : Int), xs, r, t⟩ (ls ++ [Y]) 0).1, true) := Prod.ext rfl k3
  obtain ⟨hck, _, hll, hGe, hGck, hF⟩ := line_from hL
  generalize (lineD ⟨(c : Int), xs, r, t⟩ (ls ++ [Y]) 0).1 = H at *
  have hGx : G.xs = H.xs := by rw [← hG]
  obtain ⟨h1, h6, hxl, _⟩ := check_parts hck
  have hfn : AllFn c 0 (xs, ls ++ [Y]) := ⟨fun a l hal hlc => hf a l hal hlc, fun l _ hlc => hRow.fn _ (getD_mem (by rw [hll]; omega))⟩
  obtain ⟨q1, q2, q3⟩ := rline_gram h1 h6 hM0 hM (c + 1) 0 (xs, ls ++ [Y]) H.xs (by omega) hxl hll hfn (fun l hlc => hS l hlc) hF
  refine ⟨?_, ?_, by rw [hGx]; exact q2, fun p q hp hq => by rw [hGx]; exact q3 p q hp hq⟩
  · obtain ⟨a1, a2, a3, a4⟩ := G
    dsimp only at g2 g3 g4
    rw [g2, g3, g4]
  · have e : G.ok = checkP G.cols G.xs G.rws G.trn := rfl
    rw [e, g2, g3, g4] at g1
    exact g1
theorem all_in {c : Nat} : ∀ (rs : List RowD) (k : Nat) (F : FacD) (G : FacD) (n : Int), F.cols = (c : Int) → RwW rs → allLoop k F rs = (G, n, 0) → ∀ r ∈ rs, RowOk c 400 r
  | [], _, _, _, _, _, _, _ => fun _ h => by cases h
  | r :: rs, k, F, G, n, hc, hw, h => by
    unfold allLoop at h
    by_cases hz : (rowD F r.1 r.2).2 ≠ 0
    · rw [if_pos hz] at h
      exact absurd (Prod.mk.inj (Prod.mk.inj h).2).2 hz
    · rw [if_neg hz] at h
      have hz : (rowD F r.1 r.2).2 = 0 := by simpa using hz
      have hr := hw r (List.mem_cons_self ..)
      intro x hx
      rcases List.mem_cons.1 hx with rfl | hx
      · exact row_in hc hr.1 hr.2 hz
      · exact all_in rs (k + 1) _ G n (by rw [(rowD_ok hz).2.1, hc]) (fun r hr => hw r (List.mem_cons_of_mem _ hr)) h x hx
/-- rows absorbed one by one -/
theorem all_gram {c A : Nat} {M : Nat → Rat} (hM0 : ∀ l, l ≤ c → 0 ≤ M l) (hM : ∀ l, l ≤ c → M l ≤ p2 440) : ∀ (rs : List RowD) (k : Nat) (xs : List (Option Nat)) (r t : Int) (G : FacD) (n : Int),
    allLoop k ⟨(c : Int), xs, r, t⟩ rs = (G, n, 0) → checkP (c : Int) xs r t = true → (∀ a l, a ≤ l → l ≤ c → Lv.Fn (xs.getD (offs c a + (l - a)) none)) → (∀ r ∈ rs, RowOk c A r) →
    (∀ l, l ≤ c → Gx xs c l l + rowsQ rs l l + ((rs.length * (c + 1) : Nat) : Rat) * EE (M l) (M l) ≤ M l * M l) →
    G = ⟨(c : Int), G.xs, r + (rs.length : Nat), t + ((rs.length * (c + 1) : Nat) : Int)⟩ ∧ checkP (c : Int) G.xs (r + (rs.length : Nat)) (t + ((rs.length * (c + 1) : Nat) : Int)) = true ∧ (∀ a l, a ≤ l → l ≤ c → Lv.Fn (G.xs.getD (offs c a + (l - a)) none)) ∧
      ∀ p q, p ≤ c → q ≤ c → Bd (Gx G.xs c p q - (Gx xs c p q + rowsQ rs p q)) (((rs.length * (c + 1) : Nat) : Rat) * EE (M p) (M q))
  | [], k, xs, r, t, G, n, h, hck, hf, _, _ => by
    have hG : (⟨(c : Int), xs, r, t⟩ : FacD) = G := (Prod.mk.inj h).1
    subst hG
    refine ⟨by simp, by simpa using hck, hf, fun p q hp hq => ?_⟩
    rw [show Gx xs c p q - (Gx xs c p q + rowsQ [] p q) = 0 by show _ - (_ + (0 : Rat)) = 0; grind]
    exact bd_zero (rmul_nn (ratn_nn _) (EE_nn (hM0 p hp) (hM0 q hq)))
  | x :: rs, k, xs, r, t, G, n, h, hck, hf, hr, hS => by
    unfold allLoop at h
    by_cases hz : (rowD ⟨(c : Int), xs, r, t⟩ x.1 x.2).2 ≠ 0
    · rw [if_pos hz] at h
      exact absurd (Prod.mk.inj (Prod.mk.inj h).2).2 hz
    · rw [if_neg hz] at h
      have hz : (rowD ⟨(c : Int), xs, r, t⟩ x.1 x.2).2 = 0 := by simpa using hz
      have hx := hr x (List.mem_cons_self ..)
      have hlen : (((x :: rs).length * (c + 1) : Nat) : Rat) = ((c + 1 : Nat) : Rat) + ((rs.length * (c + 1) : Nat) : Rat) := by
        have : (x :: rs).length * (c + 1) = (c + 1) + rs.length * (c + 1) := by rw [List.length_cons, Nat.add_mul]; omega
        rw [this]; norm_cast
      have hcons : ∀ p q, rowsQ (x :: rs) p q = Rx (x.1 ++ [x.2]) 0 p * Rx (x.1 ++ [x.2]) 0 q + rowsQ rs p q := fun _ _ => rfl
      have hE : rowD ⟨(c : Int), xs, r, t⟩ x.1 x.2 = ((rowD ⟨(c : Int), xs, r, t⟩ x.1 x.2).1, 0) := Prod.ext rfl hz
      obtain ⟨q1, q2, q3, q4⟩ := row_gram hM0 hM hf hx hE (fun l hl => by
        have a1 := hS l hl
        rw [hlen, hcons] at a1
        have a2 := rowsQ_nn rs l
        have a3 := rmul_nn (ratn_nn (rs.length * (c + 1))) (EE_nn (hM0 l hl) (hM0 l hl))
        grind)
      rw [q1] at h
      generalize (rowD ⟨(c : Int), xs, r, t⟩ x.1 x.2).1 = H at *
      obtain ⟨p1, p2', p3, p4⟩ := all_gram hM0 hM rs (k + 1) H.xs (r + 1) (t + ((c : Int) + 1)) G n h q2 q3 (fun r hr' => hr r (List.mem_cons_of_mem _ hr')) (fun l hl => by
        have a1 := hS l hl
        rw [hlen, hcons] at a1
        have a2 := q4 l l hl hl
        unfold Bd at a2
        grind)
      have e1 : r + 1 + ((rs.length : Nat) : Int) = r + (((x :: rs).length : Nat) : Int) := by rw [List.length_cons]; omega
      have e2 : t + ((c : Int) + 1) + ((rs.length * (c + 1) : Nat) : Int) = t + (((x :: rs).length * (c + 1) : Nat) : Int) := by
        have : (x :: rs).length * (c + 1) = (c + 1) + rs.length * (c + 1) := by rw [List.length_cons, Nat.add_mul]; omega
        rw [this]; push_cast; omega
      rw [e1, e2] at p1 p2'
      refine ⟨p1, p2', p3, fun p q hp hq => ?_⟩
      have b1 := (p4 p q hp hq).add (q4 p q hp hq)
      rw [hlen, hcons]
      refine Eq.mp (congrArg (fun z => Bd z _) ?_) (b1.mono (show _ ≤ (((c + 1 : Nat) : Rat) + ((rs.length * (c + 1) : Nat) : Rat)) * EE (M p) (M q) by grind))
      grind
theorem sumQ_nought {f : Nat → Rat} : ∀ n, (∀ k, f k = 0) → sumQ f n = 0
  | 0, _ => rfl
  | n + 1, h => by
    show sumQ f n + f n = 0
    rw [sumQ_nought n h, h n]; grind
/-- a new factor -/
theorem new_gram (c p q : Nat) : Gx (List.replicate (tsz c) (some 0)) c p q = 0 := by
  unfold Gx
  refine sumQ_nought _ fun a => ?_
  have : ∀ l, Lx (List.replicate (tsz c) (some 0)) c a l = 0 := by
    intro l
    unfold Lx
    by_cases h : l < a
    · rw [if_pos h]
    · rw [if_neg h, List.getD_eq_getElem?_getD, List.getElem?_replicate]
      by_cases h2 : offs c a + (l - a) < tsz c
      · rw [if_pos h2]; exact fv_nil
      · rw [if_neg h2]; rfl
  rw [this p]; grind
theorem new_fn {c a l : Nat} (h1 : 1 ≤ c) (h6 : c ≤ 6) (hal : a ≤ l) (hl : l ≤ c) : Lv.Fn ((List.replicate (tsz c) (some 0)).getD (offs c a + (l - a)) none) := by
  rw [List.getD_eq_getElem?_getD, List.getElem?_replicate, if_pos (offs_in h1 h6 (by omega) (by omega))]
  exact fn_nil
/-- two merge, where numbers stay small -/
theorem two_some {c : Nat} {M : Nat → Rat} {bx : List (Option Nat)} {r t : Int} (h1 : 1 ≤ c) (h6 : c ≤ 6) (hM0 : ∀ l, l ≤ c → 0 ≤ M l) (hM : ∀ l, l ≤ c → M l ≤ p2 420) (hB : ∀ a l, a ≤ l → l ≤ c → Lv.Fn (bx.getD (offs c a + (l - a)) none)) (hbl : bx.length = tsz c) :
    ∀ (n i : Nat) (gx : List (Option Nat)), n + i = c + 1 → checkP (c : Int) gx r t = true → (∀ a l, a ≤ l → l ≤ c → Lv.Fn (gx.getD (offs c a + (l - a)) none)) → (∀ l, l ≤ c → Gt c gx bx i l l + (rotN n : Rat) * EE (M l) (M l) ≤ M l * M l) →
      ∃ G, twoLoop c bx n i ⟨(c : Int), gx, r, t⟩ = (G, true)
  | 0, i, gx, _, _, _, _ => ⟨_, rfl⟩
  | n + 1, i, gx, hni, hck, hfn, hS => by
    have hi : i ≤ c := by omega
    have hll := lineP_len h1 h6 hbl hi
    have hRx : ∀ l, l ≤ c → Rx (lineP bx c i) i l = Lx bx c i l := by
      intro l hlc
      unfold Rx
      by_cases c1 : l < i
      · rw [if_pos c1]; unfold Lx; rw [if_pos c1]
      · rw [if_neg c1, lx_line hi hlc]
    have hGm : ∀ p q, p ≤ c → q ≤ c → Gmx c i (gx, lineP bx c i) p q = Gx gx c p q + Lx bx c i p * Lx bx c i q := by
      intro p q hp hq
      unfold Gmx
      rw [hRx p hp, hRx q hq]
    have hstep : ∀ p q, sumQ (fun a => Lx bx c a p * Lx bx c a q) (i + 1) = sumQ (fun a => Lx bx c a p * Lx bx c a q) i + Lx bx c i p * Lx bx c i q := fun p q => rfl
    have hrest : ∀ l, l ≤ c → sumQ (fun a => Lx bx c a l * Lx bx c a l) (i + 1) ≤ Gx bx c l l := fun l hlc => sumQ_mono (c + 1) (by omega) (fun a _ => rsq_nn _)
    have hrn : ((rotN (n + 1) : Nat) : Rat) = (rotN n : Rat) + ((n + 1 : Nat) : Rat) := by
      show ((rotN n + (n + 1) : Nat) : Rat) = _
      norm_cast
    have hfn2 : AllFn c i (gx, lineP bx c i) := ⟨hfn, fun l hil hlc => by
      rw [getD_lineP hi l (by omega), if_neg (by omega)]
      exact hB i l hil hlc⟩
    obtain ⟨gy, e, k1, k2, k3, k4⟩ := line_gram (j := i) hM0 hM hck hi hll hfn2 (fun l hlc => by
      have a1 := hS l hlc
      have a2 := hrest l hlc
      rw [hstep] at a2
      rw [hGm l l hlc hlc, show c + 1 - i = n + 1 by omega]
      unfold Gt at a1
      rw [hrn] at a1
      have a3 := rmul_nn (show (0 : Rat) ≤ (rotN n : Rat) from ratn_nn _) (EE_nn (hM0 l hlc) (hM0 l hlc))
      grind)
    rw [show c + 1 - i = n + 1 by omega] at k4
    obtain ⟨G, hG⟩ := two_some h1 h6 hM0 hM hB hbl n (i + 1) gy (by omega) k1 k3 (fun l hlc => by
      have a1 := hS l hlc
      have a2 := k4 l l hlc hlc
      rw [hGm l l hlc hlc] at a2
      unfold Gt at a1 ⊢
      rw [hrn] at a1
      rw [hstep]
      unfold Bd at a2
      grind)
    refine ⟨G, ?_⟩
    unfold twoLoop
    rw [e, if_neg (by simp)]
    exact hG
theorem MM_403 {K : Nat} (hK : K ≤ 4096) : MM (p2 403) K ≤ p2 420 := by
  have e1 := p2_succ 403
  have e2 := p2_succ 404
  have e3 := p2_le (show (403 : Int) + 1 + 1 ≤ 420 by decide)
  rw [show (403 : Int) + 1 = 404 from rfl] at e1 e3
  have h3 : (1 : Rat) ≤ p2 403 := by
    have := p2_le (show (0 : Int) ≤ 403 by decide)
    rwa [p2_zero] at this
  have ht := t30
  have hk1 : (K : Rat) ≤ 4096 := by exact_mod_cast hK
  have he := ee_uu
  have he0 := Rat.le_of_lt ee_pos
  have hKe : (K : Rat) * ee ≤ 4096 * (1/1000000) := rmul_le (ratn_nn K) he0 hk1 he.2
  have tU : p2 (-30) * p2 403 ≤ 1 * p2 403 := Rat.mul_le_mul_of_nonneg_right (by grind) (Rat.le_of_lt (p2_pos _))
  unfold MM
  grind
theorem rowsQ_le {c : Nat} {rs : List RowD} (h : ∀ r ∈ rs, RowOk c 400 r) {l : Nat} (hl : l ≤ c) : rowsQ rs l l ≤ (rs.length : Rat) * p2 800 := by
  induction rs with
  | nil => show (0 : Rat) ≤ ((0 : Nat) : Rat) * _; rw [show ((0 : Nat) : Rat) = 0 from rfl, Rat.zero_mul]; exact Rat.le_refl
  | cons r rs ih =>
    have h1 := ih (fun r hr => h r (List.mem_cons_of_mem _ hr))
    have hr := h r (List.mem_cons_self ..)
    have hf : (r.1 ++ [r.2]).length = c + 1 := by rw [List.length_append, hr.len]; rfl
    have hb := hr.bd _ (getD_mem (i := l) (show l < (r.1 ++ [r.2]).length by omega))
    have e : Rx (r.1 ++ [r.2]) 0 l = fv ((r.1 ++ [r.2]).getD l none) := by unfold Rx; rw [if_neg (by omega)]
    have h2 := (hb.mul hb).2
    rw [show p2 ((400 : Nat) : Int) * p2 ((400 : Nat) : Int) = p2 800 by rw [← p2_add]; rfl] at h2
    show Rx _ 0 l * Rx _ 0 l + rowsQ rs l l ≤ (((rs.length + 1 : Nat)) : Rat) * p2 800
    rw [e, natr_succ]
    grind
/-- THE LAW: rows in two factors, merged -/
theorem merge_rows {c : Nat} {rs1 rs2 : List RowD} {a b : FacD} {n1 n2 : Int} (h1 : 1 ≤ c) (h6 : c ≤ 6) (hw1 : RwW rs1) (hw2 : RwW rs2) (e1 : allD (newD c) rs1 = (a, n1, 0)) (e2 : allD (newD c) rs2 = (b, n2, 0)) (hlen : rs1.length + rs2.length ≤ 20) :
    (∀ r ∈ rs1 ++ rs2, RowOk c 400 r) ∧ ∃ G k, twoD a b = (G, 0) ∧ G = ⟨(c : Int), G.xs, ((rs1.length + rs2.length : Nat) : Int), (k : Nat)⟩ ∧ k ≤ 4096 ∧ checkP (c : Int) G.xs ((rs1.length + rs2.length : Nat) : Int) (k : Nat) = true ∧ TriOk c G.xs ∧
      ∀ us A, A ≤ 860 → Norms c A (gramL c (rs1 ++ rs2)) us → ∀ i j, i ≤ j → j ≤ c →
        absR ((gramL c (linesD G.xs c)).getD (gix c i j) 0 - (gramL c (rs1 ++ rs2)).getD (gix c i j) 0) ≤ bndQ (us.getD i 0) (us.getD j 0) k := by
  have hb := tsz_bounds h1 h6
  have hnew : checkP (c : Int) (List.replicate (tsz c) (some 0)) 0 0 = true := new_ok h1 h6
  unfold allD at e1 e2
  rw [if_neg (by rw [new_ok h1 h6]; decide)] at e1 e2
  have r1 : ∀ r ∈ rs1, RowOk c 400 r := all_in rs1 0 (newD c) a n1 rfl hw1 e1
  have r2 : ∀ r ∈ rs2, RowOk c 400 r := all_in rs2 0 (newD c) b n2 rfl hw2 e2
  have r12 : ∀ r ∈ rs1 ++ rs2, RowOk c 400 r := fun r hr => (List.mem_append.1 hr).elim (r1 r) (r2 r)
  refine ⟨r12, ?_⟩
  obtain ⟨k1, hk1⟩ : ∃ k, rs1.length * (c + 1) = k := ⟨_, rfl⟩
  obtain ⟨k2, hk2⟩ : ∃ k, rs2.length * (c + 1) = k := ⟨_, rfl⟩
  have k12 : k1 + k2 ≤ 140 := by
    have e : k1 + k2 = (rs1.length + rs2.length) * (c + 1) := by rw [Nat.add_mul, hk1, hk2]
    have := Nat.mul_le_mul hlen (show c + 1 ≤ 7 by omega)
    omega
  obtain ⟨K, hK⟩ : ∃ K, k1 + k2 + tsz c = K := ⟨_, rfl⟩
  have hK4 : K ≤ 4096 := by omega
  have hKr : (K : Rat) = (k1 : Rat) + (k2 : Rat) + (tsz c : Rat) := by rw [← hK]; norm_cast
  -- what a bound on the rows gives
  have main : ∀ U : Nat → Rat, (∀ l, l ≤ c → 0 ≤ U l) → (∀ l, l ≤ c → rowsQ (rs1 ++ rs2) l l ≤ U l * U l) → (∀ l, l ≤ c → MM (U l) K ≤ p2 440) →
      a = ⟨(c : Int), a.xs, (rs1.length : Nat), (k1 : Nat)⟩ ∧ b = ⟨(c : Int), b.xs, (rs2.length : Nat), (k2 : Nat)⟩ ∧ checkP (c : Int) a.xs (rs1.length : Nat) (k1 : Nat) = true ∧ checkP (c : Int) b.xs (rs2.length : Nat) (k2 : Nat) = true ∧
      (∀ p l, p ≤ l → l ≤ c → Lv.Fn (a.xs.getD (offs c p + (l - p)) none)) ∧ (∀ p l, p ≤ l → l ≤ c → Lv.Fn (b.xs.getD (offs c p + (l - p)) none)) ∧
      (∀ l, l ≤ c → Gt c a.xs b.xs 0 l l + (rotN (c + 1) : Rat) * EE (MM (U l) K) (MM (U l) K) ≤ MM (U l) K * MM (U l) K) ∧
      ∀ p q, p ≤ c → q ≤ c → Bd (Gx a.xs c p q + Gx b.xs c p q - rowsQ (rs1 ++ rs2) p q) (((k1 : Rat) + (k2 : Rat)) * EE (MM (U p) K) (MM (U q) K)) := by
    intro U hU0 hU hM
    have hM0 : ∀ l, l ≤ c → 0 ≤ MM (U l) K := fun l hl => MM_nn (hU0 l hl) K
    have hEE : ∀ l, l ≤ c → 0 ≤ EE (MM (U l) K) (MM (U l) K) := fun l hl => EE_nn (hM0 l hl) (hM0 l hl)
    have hsum : ∀ l, l ≤ c → rowsQ rs1 l l + rowsQ rs2 l l + ((k1 : Rat) + (k2 : Rat) + (tsz c : Rat)) * EE (MM (U l) K) (MM (U l) K) ≤ MM (U l) K * MM (U l) K := by
      intro l hl
      have a1 := MM_sq (hU0 l hl) (hU l hl) hK4
      rw [rowsQ_append, hKr] at a1
      exact a1
    have p1 := all_gram (M := fun l => MM (U l) K) hM0 hM rs1 0 _ 0 0 a n1 e1 hnew (fun a l hal hl => new_fn h1 h6 hal hl) r1 (fun l hl => by
      rw [new_gram, hk1]
      have a1 := hsum l hl
      have a2 := rowsQ_nn rs2 l
      have a3 := rmul_nn (ratn_nn k2) (hEE l hl)
      have a4 := rmul_nn (ratn_nn (tsz c)) (hEE l hl)
      grind)
    have p2 := all_gram (M := fun l => MM (U l) K) hM0 hM rs2 0 _ 0 0 b n2 e2 hnew (fun a l hal hl => new_fn h1 h6 hal hl) r2 (fun l hl => by
      rw [new_gram, hk2]
      have a1 := hsum l hl
      have a2 := rowsQ_nn rs1 l
      have a3 := rmul_nn (ratn_nn k1) (hEE l hl)
      have a4 := rmul_nn (ratn_nn (tsz c)) (hEE l hl)
      grind)
    rw [hk1, Int.zero_add, Int.zero_add] at p1
    rw [hk2, Int.zero_add, Int.zero_add] at p2
    obtain ⟨a1, a2, a3, a4⟩ := p1
    obtain ⟨b1, b2, b3, b4⟩ := p2
    refine ⟨a1, b1, a2, b2, a3, b3, fun l hl => ?_, fun p q hp hq => ?_⟩
    · have x1 := hsum l hl
      have x2 := a4 l l hl hl
      have x3 := b4 l l hl hl
      rw [new_gram] at x2 x3
      rw [rotN_tsz h6]
      unfold Gt
      show _ + (_ - 0) + _ ≤ _
      unfold Bd at x2 x3
      grind
    · have x2 := a4 p q hp hq
      have x3 := b4 p q hp hq
      rw [new_gram] at x2 x3
      rw [rowsQ_append]
      refine Eq.mp (congrArg (fun z => Bd z _) ?_) ((x2.add x3).mono (show _ ≤ ((k1 : Rat) + (k2 : Rat)) * EE (MM (U p) K) (MM (U q) K) by grind))
      grind
  -- it is there
  have hU3 : ∀ l, l ≤ c → rowsQ (rs1 ++ rs2) l l ≤ p2 403 * p2 403 := by
    intro l hl
    have x1 := rowsQ_le r12 hl
    have x2 : ((rs1 ++ rs2).length : Rat) ≤ 64 := by exact_mod_cast (show (rs1 ++ rs2).length ≤ 64 by rw [List.length_append]; omega)
    have x3 := Rat.mul_le_mul_of_nonneg_right x2 (Rat.le_of_lt (p2_pos 800))
    have x4 : (64 : Rat) = p2 6 := by
      have := p2_nat 6
      rw [show ((6 : Nat) : Int) = 6 from rfl] at this
      rw [this]; norm_cast
    rw [x4, ← p2_add] at x3
    rw [← p2_add]
    exact Rat.le_trans x1 x3
  have h403 := Rat.le_of_lt (p2_pos 403)
  obtain ⟨a1, b1, a2, b2, a3, b3, hG, _⟩ := main (fun _ => p2 403) (fun _ _ => h403) hU3 (fun l _ => Rat.le_trans (MM_403 hK4) (p2_le (by decide)))
  obtain ⟨_, _, hal, _⟩ := check_parts a2
  obtain ⟨_, _, hbl, _⟩ := check_parts b2
  obtain ⟨H, hH⟩ := two_some (M := fun _ => MM (p2 403) K) (r := (rs1.length : Nat)) (t := (k1 : Nat)) h1 h6 (fun l _ => MM_nn h403 K) (fun l _ => MM_403 hK4) b3 hbl (c + 1) 0 a.xs (by omega) a2 a3 hG
  have hck : checkP (c : Int) H.xs (rs1.length : Nat) (k1 : Nat) = true := two_ok (c + 1) 0 a.xs H a2 hH
  have hoa : a.ok = true := by rw [a1]; exact a2
  have hob : b.ok = true := by rw [b1]; exact b2
  have hca : a.cols = (c : Int) := by rw [a1]
  have hcb : b.cols = (c : Int) := by rw [b1]
  have hra : a.rws = (rs1.length : Nat) := by rw [a1]
  have hrb : b.rws = (rs2.length : Nat) := by rw [b1]
  have hta : a.trn = (k1 : Nat) := by rw [a1]
  have htb : b.trn = (k2 : Nat) := by rw [b1]
  have hsz : sizeI (c : Int) = (tsz c : Nat) := by unfold sizeI; rw [if_pos ⟨by omega, by omega⟩, Int.toNat_natCast]
  have hearly : twoEarly a b = 0 := by
    unfold twoEarly
    rw [if_neg (by rw [hoa, hob]; simp), if_neg (by rw [hca, hcb]; simp), if_neg (by rw [hra, hrb, hta, htb, hca, hsz]; omega)]
  have htwo : twoD a b = (⟨(c : Int), H.xs, ((rs1.length + rs2.length : Nat) : Int), ((max k1 k2 + tsz c : Nat) : Int)⟩, 0) := by
    rw [twoD_loop hearly (R := (H, true)) (by rw [hca, Int.toNat_natCast, a1]; exact hH), if_neg (by simp)]
    rw [hca, hra, hrb, hta, htb, hsz]
    congr 2
    omega
  have hTG : TriOk c H.xs := by
    obtain ⟨g1, g2, g3⟩ := two_gram (M := fun _ => MM (p2 403) K) h1 h6 (fun l _ => MM_nn h403 K) (fun l _ => Rat.le_trans (MM_403 hK4) (p2_le (by decide))) b3 hbl (c + 1) 0 a.xs H (by omega) hal a3 hG hH
    exact ⟨h1, h6, g1, fun p l hpl hl => ⟨g2 p l hpl hl, (bd_entry (M := fun _ => MM (p2 403) K) (fun l _ => MM_nn h403 K) (fun l hl => by
      have x1 := hG l hl
      have x2 := g3 l l hl hl
      unfold Bd at x2
      grind) hpl hl).mono (MM_403 hK4)⟩⟩
  refine ⟨_, max k1 k2 + tsz c, htwo, rfl, by omega, check_mk h1 h6 hTG.len (by omega) (by omega) (by omega) (by omega) (fun i hi => (check_parts hck).2.2.2 i hi), hTG, fun us A hA hN i j hij hj => ?_⟩
  dsimp only
  obtain ⟨_, _, _, _, _, _, hG2, near⟩ := main (fun l => us.getD l 0) hN.nn (fun l hl => by
    have := hN.sq l hl
    rwa [gramL_rows h1 h6 (Nat.le_refl l) hl r12] at this) (fun l hl => MM_le (hN.nn l hl) (hN.le l hl) hA hK4)
  obtain ⟨_, _, g3⟩ := two_gram (M := fun l => MM (us.getD l 0) K) h1 h6 (fun l hl => MM_nn (hN.nn l hl) K) (fun l hl => MM_le (hN.nn l hl) (hN.le l hl) hA hK4) b3 hbl (c + 1) 0 a.xs H (by omega) hal a3 hG2 hH
  rw [gram_get h1 h6 hTG.len hij hj, gramL_rows h1 h6 hij hj r12]
  have x1 := g3 i j (by omega) hj
  have x2 := near i j (by omega) hj
  rw [rotN_tsz h6] at x1
  have g0 : Gt c a.xs b.xs 0 i j = Gx a.xs c i j + Gx b.xs c i j := by
    unfold Gt
    show _ + (_ - 0) = _
    grind
  rw [g0] at x1
  have x3 : Bd (Gx H.xs c i j - (Gx a.xs c i j + Gx b.xs c i j) + (Gx a.xs c i j + Gx b.xs c i j - rowsQ (rs1 ++ rs2) i j)) ((tsz c : Rat) * EE (MM (us.getD i 0) K) (MM (us.getD j 0) K) + ((k1 : Rat) + (k2 : Rat)) * EE (MM (us.getD i 0) K) (MM (us.getD j 0) K)) := by
    unfold Bd at x1 x2 ⊢
    grind
  rw [show Gx H.xs c i j - (Gx a.xs c i j + Gx b.xs c i j) + (Gx a.xs c i j + Gx b.xs c i j - rowsQ (rs1 ++ rs2) i j) = Gx H.xs c i j - rowsQ (rs1 ++ rs2) i j by grind] at x3
  refine bd_absR.1 (x3.mono ?_)
  refine Rat.le_trans ?_ (bnd_room (hN.nn i (by omega)) (hN.nn j hj) hK4 (show K ≤ 2 * (max k1 k2 + tsz c) by omega))
  rw [hKr]
  grind
end Go.Proofs.YtmmligbkecilfaaGreatDoor
