/- Where numbers stay small a rotation is there, a line is rotated in, two factors merge. -/
import Derived.Test.YtnboegeljaplbaaZm
namespace Go.Proofs.Ytnboegeljaplbaa
open Lv
open Ieee

theorem p2_lt_inv {a b : Int} (h : p2 a ≤ p2 b) : a ≤ b := by
  by_cases c : a ≤ b
  · exact c
  · exfalso
    have h1 := p2_le (show b + 1 ≤ a by omega)
    have h2 := p2_succ b
    have h3 := p2_pos b
    grind
theorem bd_sg_rv {s : Bool} {r : Nat} {X : Rat} (hr : r < 9218868437227405312) (h : Bd (fv (some (wd s r))) X) : rv r ≤ X := by
  rw [fv_wd s hr, vz_sg, bd_sg] at h
  exact h.2
/-- a rotation of two numbers, neither of them great -/
theorem of_there {f g : Option Nat} (hf : Lv.Fn f) (hg : Lv.Fn g) (bf : Bd (fv f) (p2 440)) (bg : Bd (fv g) (p2 440)) : ∃ cc ss rr, ofF f g = some (cc, ss, rr) := by
  obtain ⟨s, f, rfl, hf⟩ := hf
  obtain ⟨t, g, rfl, hg⟩ := hg
  have bf := bd_sg_rv hf bf
  have bg := bd_sg_rv hg bg
  by_cases h0 : f = 0 ∧ g = 0
  · obtain ⟨rfl, rfl⟩ := h0
    exact ⟨_, _, _, ofF_zero s t⟩
  obtain ⟨K, hK⟩ : ∃ K, K = ofK (some (wd s f)) (some (wd t g)) := ⟨_, rfl⟩
  obtain ⟨k0, k1⟩ := ofK_range (some (wd s f)) (some (wd t g))
  rw [← hK] at k0 k1
  have htop : ∀ (s : Bool) (c : Nat), c < 9218868437227405312 → rv c ≤ p2 440 → topF (some (wd s c)) ≤ 440 ∧ (topF (some (wd s c)) - 23 ≤ K → rv c * p2 (-K) ≤ p2 24) := by
    intro s c hc hb
    rcases topF_cases s hc with ⟨rfl, e⟩ | ⟨hc0, e⟩
    · rw [e]
      refine ⟨by decide, fun _ => ?_⟩
      rw [rv_zero, Rat.zero_mul]
      exact Rat.le_of_lt (p2_pos _)
    · rw [e]
      refine ⟨p2_lt_inv (rle_trans (top_above hc0 hc).1 hb), fun hk => ?_⟩
      have := (top_above hc0 hc).2
      have h2 := Rat.mul_lt_mul_of_pos_right this (p2_pos (-K))
      rw [← p2_add] at h2
      exact rle_trans (Rat.le_of_lt h2) (p2_le (by omega))
  have a1 := (htop s f hf bf).1
  have a2 := (htop t g hg bg).1
  have hK4 : K ≤ 440 := by rw [hK]; unfold ofK; omega
  have hKm : topF (some (wd s f)) - 23 ≤ K ∧ topF (some (wd t g)) - 23 ≤ K := by
    rw [hK]
    unfold ofK
    omega
  have w24 := pw_val (k := 24) (by decide) (by decide)
  have w25 := pw_val (k := 25) (by decide) (by decide)
  have w48 := pw_val (k := 48) (by decide) (by decide)
  have w49 := pw_val (k := 49) (by decide) (by decide)
  have w465 := pw_val (k := 465) (by decide) (by decide)
  have l24 : pw 24 < 9218868437227405312 := w24.2.2
  have l48 : pw 48 < 9218868437227405312 := w48.2.2
  have l49 : pw 49 < 9218868437227405312 := w49.2.2
  have l465 : pw 465 < 9218868437227405312 := w465.2.2
  obtain ⟨A, a1, a2⟩ := scale_mid s hf (k := -K) (by omega) (by omega)
  obtain ⟨B, b1, b2⟩ := scale_mid t hg (k := -K) (by omega) (by omega)
  have hA : A ≤ pw 24 := mid_le a1 (by rw [w24.1]; exact (htop s f hf bf).2 hKm.1)
  have hB : B ≤ pw 24 := mid_le b1 (by rw [w24.1]; exact (htop t g hg bg).2 hKm.2)
  rw [Nat.min_eq_left (by omega)] at a2 b2
  obtain ⟨P, p1, p2'⟩ := mul_mid (x := A) (y := A) (by omega) (by omega)
  obtain ⟨Q, q1, q2⟩ := mul_mid (x := B) (y := B) (by omega) (by omega)
  have hP : P ≤ pw 48 := mid_le p1 (by rw [w48.1]; exact sq_le hA)
  have hQ : Q ≤ pw 48 := mid_le q1 (by rw [w48.1]; exact sq_le hB)
  have p3 := p2' s s
  have q3 := q2 t t
  rw [Bool.xor_self, Nat.min_eq_left (by omega)] at p3 q3
  obtain ⟨S, s1, s2⟩ := add_mid (x := P) (y := Q) (by omega) (by omega)
  have hS : S ≤ pw 49 := by
    refine mid_le s1 ?_
    have r1 := rv_le hP
    have r2 := rv_le hQ
    have r3 := p2_succ 48
    rw [w48.1] at r1 r2
    rw [w49.1, show (49 : Int) = 48 + 1 from rfl, r3]
    grind
  rw [Nat.min_eq_left (by omega)] at s2
  obtain ⟨H, h1, h2, h3⟩ := sqrt_smid' (x := S) (by omega)
  have hH25 : H ≤ pw 25 := by
    by_cases c : H ≤ pw 25
    · exact c
    · exfalso
      have e1 := rv_le (show pw 25 ≤ H - 1 by omega)
      have e2 := rv_le (show pw 25 ≤ H by omega)
      have e3 := (h3.lo (by omega)).1
      have e4 := rv_le hS
      rw [w25.1] at e1 e2
      rw [w49.1] at e4
      have e5 := rsq_le (show 0 ≤ p2 25 + p2 25 by have := p2_pos 25; grind) (show p2 25 + p2 25 ≤ rv (H - 1) + rv H by grind)
      have e6 : p2 25 * p2 25 = p2 50 := by rw [← p2_add]; rfl
      have e7 := p2_succ 49
      rw [show (49 : Int) + 1 = 50 from rfl] at e7
      have e8 := p2_pos 49
      grind
  obtain ⟨R, r1, r2⟩ := scale_mid false h2 (k := K) k0 k1
  have hR : R ≤ pw 465 := mid_le r1 (by
    rw [w465.1]
    have e1 := rv_le hH25
    rw [w25.1] at e1
    have e2 := Rat.mul_le_mul_of_nonneg_right e1 (Rat.le_of_lt (p2_pos K))
    rw [← p2_add] at e2
    exact rle_trans e2 (p2_le (by omega)))
  have hHe : ofH (some (wd s f)) (some (wd t g)) = some H := by
    unfold ofH
    rw [← hK, a2, b2]
    have e1 : fmul (some (wd s A)) (some (wd s A)) = some P := p3
    have e2 : fmul (some (wd t B)) (some (wd t B)) = some Q := q3
    have e3 : fadd (some P) (some Q) = some S := s2
    rw [e1, e2, e3]
    exact h1
  have hRe : ofR (some (wd s f)) (some (wd t g)) = some (wd false R) := by
    unfold ofR
    rw [hHe, ← hK]
    rw [Nat.min_eq_left (by omega)] at r2
    exact r2
  have hz : (zeroF (some (wd s f)) && zeroF (some (wd t g))) = false := by
    rw [zeroF_wd s hf, zeroF_wd t hg]
    by_cases c : f = 0
    · rw [decide_eq_false (show ¬ g = 0 from fun e => h0 ⟨c, e⟩), Bool.and_false]
    · rw [decide_eq_false c, Bool.false_and]
  cases hof : ofF (some (wd s f)) (some (wd t g)) with
  | some v => exact ⟨v.1, v.2.1, v.2.2, rfl⟩
  | none =>
    exfalso
    unfold ofF at hof
    rw [numF_wd s hf, numF_wd t hg, if_neg (by decide), hz, if_neg (by decide), hRe, numF_wd false (by omega), if_neg (by decide)] at hof
    cases hof
/-- the root bears no sign -/
theorem of_root {f g cc ss rr : Option Nat} (hf : Lv.Fn f) (hg : Lv.Fn g) (h : ofF f g = some (cc, ss, rr)) : sgnF rr = false := by
  obtain ⟨s, f, rfl, hf⟩ := hf
  obtain ⟨t, g, rfl, hg⟩ := hg
  by_cases h0 : f = 0 ∧ g = 0
  · obtain ⟨rfl, rfl⟩ := h0
    rw [ofF_zero] at h
    simp only [Option.some.injEq, Prod.mk.injEq] at h
    obtain ⟨_, _, rfl⟩ := h
    decide
  · obtain ⟨K, A, B, P, Q, S, H, R, p⟩ := of_parts s t hf hg h0 h
    rw [p.er]
    have := p.lR
    exact decide_eq_false (by omega)
/-- a line is rotated in -/
theorem rline_some {c : Nat} {M : Nat → Rat} (h1 : 1 ≤ c) (h6 : c ≤ 6) (hM0 : ∀ l, l ≤ c → 0 ≤ M l) (hM : ∀ l, l ≤ c → M l ≤ p2 440) : ∀ (n j : Nat) (st : List (Option Nat) × List (Option Nat)), n + j = c + 1 → st.1.length = tsz c → st.2.length = c + 1 →
    AllFn c j st → (∀ a, a ≤ c → sgnF (st.1.getD (offs c a) none) = false) → (∀ l, l ≤ c → Gmx c j st l l + (n : Rat) * EE (M l) (M l) ≤ M l * M l) →
    ∃ ys, rlineFrom c n j st = some ys ∧ ∀ a, a ≤ c → sgnF (ys.getD (offs c a) none) = false
  | 0, j, st, _, _, _, _, hs, _ => ⟨_, rfl, hs⟩
  | n + 1, j, st, hnj, hl, hl2, hfn, hs, hS => by
    have hj : j ≤ c := by omega
    have hS0 : ∀ l, l ≤ c → Gmx c j st l l ≤ M l * M l := by
      intro l hlc
      have h1 := hS l hlc
      have h2 := rmul_nn (show (0 : Rat) ≤ ((n + 1 : Nat) : Rat) by exact_mod_cast Nat.zero_le _) (EE_nn (hM0 l hlc) (hM0 l hlc))
      grind
    have hjj := hfn.tri j j (Nat.le_refl _) hj
    rw [Nat.sub_self, Nat.add_zero] at hjj
    have hrj := hfn.row j (Nat.le_refl _) hj
    have hsq : fv (st.1.getD (offs c j) none) * fv (st.1.getD (offs c j) none) + fv (st.2.getD j none) * fv (st.2.getD j none) ≤ M j * M j := by
      have h := hS0 j hj
      unfold Gmx Gx at h
      have h2 := sumQ_ge (f := fun a => Lx st.1 c a j * Lx st.1 c a j) (j := j) (c + 1) (by omega) (fun a _ => rsq_nn _)
      have e1 : Lx st.1 c j j = fv (st.1.getD (offs c j) none) := by unfold Lx; rw [if_neg (by omega), Nat.sub_self, Nat.add_zero]
      have e2 : Rx st.2 j j = fv (st.2.getD j none) := by unfold Rx; rw [if_neg (by omega)]
      rw [e1] at h2
      rw [e2] at h
      grind
    have n1 := rsq_nn (fv (st.1.getD (offs c j) none))
    have n2 := rsq_nn (fv (st.2.getD j none))
    obtain ⟨cc, ss, r, hof⟩ := of_there hjj hrj ((bd_of_sq (hM0 j hj) (by grind)).mono (hM j hj)) ((bd_of_sq (hM0 j hj) (by grind)).mono (hM j hj))
    obtain ⟨st', e, k1, k2, k3, k4⟩ := step_gram h1 h6 hl hl2 hj hof hfn hM0 hM hS0
    obtain ⟨st2, e2, _, _, k5, _⟩ := rstep_at h1 h6 hl hl2 hj hof
    rw [e] at e2
    obtain rfl := Option.some.inj e2
    have hs' : ∀ a, a ≤ c → sgnF (st'.1.getD (offs c a) none) = false := by
      intro a ha
      rw [k5]
      by_cases ej : a = j
      · subst ej; rw [if_pos rfl]; exact of_root hjj hrj hof
      · rcases Nat.lt_or_ge a j with h | h
        · have := offs_apart c h6 a j h hj
          rw [if_neg (by omega), if_neg (by omega)]; exact hs a ha
        · have := offs_apart c h6 j a (by omega) (by omega)
          rw [if_neg (by omega), if_neg (by omega)]; exact hs a ha
    obtain ⟨ys, q1, q2⟩ := rline_some h1 h6 hM0 hM n (j + 1) st' (by omega) k1 k2 k3 hs' (fun l hlc => by
      have h1 := hS l hlc
      have h2 := k4 l l hlc hlc
      rw [natr_succ] at h1
      unfold Bd at h2
      grind)
    refine ⟨ys, ?_, q2⟩
    unfold rlineFrom
    rw [e]
    exact q1
theorem large_no {x : Option Nat} (hx : Lv.Fn x) (h : Bd (fv x) (p2 420)) : largeF x = false := by
  obtain ⟨s, r, rfl, hr⟩ := hx
  have hb := bd_sg_rv hr h
  have w := pw_val (k := 420) (by decide) (by decide)
  have hm : wd s r % 9223372036854775808 = r := by
    cases s with
    | false => show r % 9223372036854775808 = r; omega
    | true => show (9223372036854775808 + r) % 9223372036854775808 = r; omega
  show decide (pw 420 < wd s r % 9223372036854775808) = false
  rw [hm]
  refine decide_eq_false fun hlt => ?_
  have := rv_lt hlt
  rw [w.1] at this
  grind
/-- what Check of layer 7 asks -/
theorem check_mk {c : Nat} {xs : List (Option Nat)} {r t : Int} (h1 : 1 ≤ c) (h6 : c ≤ 6) (hl : xs.length = tsz c) (r0 : 0 ≤ r) (r1 : r ≤ 200) (t0 : 0 ≤ t) (t1 : t ≤ 4096) (h : ∀ i, i ≤ c → sgnF (xs.getD (offs c i) none) = false ∧ ∀ j, j ≤ c - i → largeF (xs.getD (offs c i + j) none) = false) : checkP (c : Int) xs r t = true := by
  have hb : ((List.range ((c : Int).toNat + 1)).any fun i => badS (seg xs (c : Int).toNat i)) = false := by
    rw [List.any_eq_false]
    intro i hi
    rw [Int.toNat_natCast] at hi ⊢
    have hi2 := List.mem_range.1 hi
    obtain ⟨g1, g2⟩ := h i (by omega)
    have hsl := seg_length h1 h6 hl (show i ≤ c by omega)
    have hg : ∀ j, j < c + 1 - i → (seg xs c i).getD j none = xs.getD (offs c i + j) none := by
      intro j hj
      unfold seg
      rw [List.getD_eq_getElem?_getD, List.getElem?_take_of_lt hj, List.getElem?_drop, ← List.getD_eq_getElem?_getD]
    have a1 : sgnF ((seg xs c i).getD 0 none) = false := by rw [hg 0 (by omega)]; exact g1
    have a2 : (seg xs c i).any largeF = false := by
      rw [List.any_eq_false]
      intro x hx
      obtain ⟨j, hj, rfl⟩ := List.getElem_of_mem hx
      have e : (seg xs c i)[j] = (seg xs c i).getD j none := by rw [List.getD_eq_getElem?_getD, List.getElem?_eq_getElem hj]; rfl
      rw [e, hg j (by omega), g2 j (by omega)]
      simp
    unfold badS
    rw [a1, a2]
    simp
  unfold checkP
  rw [hb]
  simp [hl]
  omega
theorem bd_entry {c : Nat} {M : Nat → Rat} {xs : List (Option Nat)} {a l : Nat} (hM0 : ∀ l, l ≤ c → 0 ≤ M l) (hg : ∀ l, l ≤ c → Gx xs c l l ≤ M l * M l) (hal : a ≤ l) (hl : l ≤ c) : Bd (fv (xs.getD (offs c a + (l - a)) none)) (M l) := by
  have h2 := sumQ_ge (f := fun a => Lx xs c a l * Lx xs c a l) (j := a) (c + 1) (by omega) (fun a _ => rsq_nn _)
  have h3 := hg l hl
  unfold Gx at h3
  have e1 : Lx xs c a l = fv (xs.getD (offs c a + (l - a)) none) := by unfold Lx; rw [if_neg (by omega)]
  rw [e1] at h2
  exact bd_of_sq (hM0 l hl) (Rat.le_trans h2 h3)
theorem line_check {c : Nat} {M : Nat → Rat} {ys : List (Option Nat)} {r t : Int} (h1 : 1 ≤ c) (h6 : c ≤ 6) (hl : ys.length = tsz c) (r0 : 0 ≤ r) (r1 : r ≤ 200) (t0 : 0 ≤ t) (t1 : t ≤ 4096) (hM0 : ∀ l, l ≤ c → 0 ≤ M l) (hM : ∀ l, l ≤ c → M l ≤ p2 420) (hs : ∀ a, a ≤ c → sgnF (ys.getD (offs c a) none) = false)
    (hf : ∀ a l, a ≤ l → l ≤ c → Lv.Fn (ys.getD (offs c a + (l - a)) none)) (hg : ∀ l, l ≤ c → Gx ys c l l ≤ M l * M l) : checkP (c : Int) ys r t = true := by
  refine check_mk h1 h6 hl r0 r1 t0 t1 fun i hi => ⟨hs i hi, fun j hj => ?_⟩
  have := hf i (i + j) (by omega) (by omega)
  have b := bd_entry hM0 hg (show i ≤ i + j by omega) (show i + j ≤ c by omega)
  rw [show i + j - i = j by omega] at this b
  exact large_no this (b.mono (hM _ (by omega)))
/-- what Line comes to, where numbers stay small -/
theorem line_gram {c : Nat} {M : Nat → Rat} {xs ls : List (Option Nat)} {r t : Int} {j : Nat} (hM0 : ∀ l, l ≤ c → 0 ≤ M l) (hM : ∀ l, l ≤ c → M l ≤ p2 420) (hck : checkP (c : Int) xs r t = true) (hj : j ≤ c) (hll : ls.length = c + 1) (hfn : AllFn c j (xs, ls))
    (hS : ∀ l, l ≤ c → Gmx c j (xs, ls) l l + ((c + 1 - j : Nat) : Rat) * EE (M l) (M l) ≤ M l * M l) :
    ∃ ys, lineD ⟨(c : Int), xs, r, t⟩ ls (j : Int) = (⟨(c : Int), ys, r, t⟩, true) ∧ checkP (c : Int) ys r t = true ∧ ys.length = tsz c ∧ (∀ a l, a ≤ l → l ≤ c → Lv.Fn (ys.getD (offs c a + (l - a)) none)) ∧ ∀ i l, i ≤ c → l ≤ c → Bd (Gx ys c i l - Gmx c j (xs, ls) i l) (((c + 1 - j : Nat) : Rat) * EE (M i) (M l)) := by
  obtain ⟨h1, h6, hxl, he⟩ := check_parts hck
  have hM440 : ∀ l, l ≤ c → M l ≤ p2 440 := fun l hl => Rat.le_trans (hM l hl) (p2_le (by decide))
  obtain ⟨ys, q1, q2⟩ := rline_some h1 h6 hM0 hM440 (c + 1 - j) j (xs, ls) (by omega) hxl hll hfn (fun a ha => (he a ha).1) hS
  obtain ⟨g1, g2, g3⟩ := rline_gram h1 h6 hM0 hM440 (c + 1 - j) j (xs, ls) ys (by omega) hxl hll hfn hS q1
  have hrt : 0 ≤ r ∧ r ≤ 200 ∧ 0 ≤ t ∧ t ≤ 4096 := by
    have := hck
    unfold checkP at this
    simp only [Bool.and_eq_true, decide_eq_true_eq] at this
    omega
  have hcy : checkP (c : Int) ys r t = true := line_check h1 h6 g1 hrt.1 hrt.2.1 hrt.2.2.1 hrt.2.2.2 hM0 hM q2 g2 (fun l hl => by
    have a1 := hS l hl
    have a2 := g3 l l hl hl
    unfold Bd at a2
    grind)
  refine ⟨ys, ?_, hcy, g1, g2, g3⟩
  unfold lineD
  rw [if_pos ⟨hck, by omega, by dsimp only; omega, by dsimp only; omega⟩]
  dsimp only
  unfold rlineP
  rw [Int.toNat_natCast, Int.toNat_natCast, q1]
  dsimp only
  rw [if_pos hcy]
end Go.Proofs.Ytnboegeljaplbaa
