/- The cosine of a hyperbolic rotation is at most 1. Taking a line out never grows the diagonal. -/
import Derived.Test.YtfohknalldelfaaDoorOe
import Derived.Test.YtfohknalldelfaaDoorTb
namespace Go.Proofs.YtfohknalldelfaaDoor
open Lv
open Ieee

theorem prod_nat {N a m : Nat} (h1 : a ≤ N) (h2 : N ≤ m) (h3 : a + m ≤ 2 * N + 1) : a * m ≤ N * N + N := by
  obtain ⟨x, rfl⟩ : ∃ x, N = a + x := ⟨N - a, by omega⟩
  obtain ⟨y, rfl⟩ : ∃ y, m = a + x + y := ⟨m - (a + x), by omega⟩
  have hy : a * y ≤ a * (x + 1) := Nat.mul_le_mul_left a (by omega)
  have e1 : a * (a + x + y) = a * a + a * x + a * y := by rw [Nat.mul_add, Nat.mul_add]
  have e2 : (a + x) * (a + x) = a * a + a * x + (a * x + x * x) := by rw [Nat.mul_add, Nat.add_mul, Nat.add_mul, Nat.mul_comm x a]
  rw [Nat.mul_add, Nat.mul_one] at hy
  rw [e1, e2]
  generalize a * a = p at *
  generalize a * x = q at *
  generalize x * x = r at *
  omega
theorem p2_53 : p2 (-53) * 9007199254740992 = 1 := by
  have h := p2_52
  have e : p2 (-52) = p2 (-53) * 2 := by
    rw [show (-52 : Int) = -53 + 1 by decide, p2_add]
    congr 1
  grind
theorem prod_le {A B f : Nat} (hA : Mid A (1 - rv f)) (hB : Mid B (1 + rv f)) (hf : rv f ≤ 1) : rv A * rv B ≤ 1 + p2 (-53) := by
  have hone : rv 4607182418800017408 = 1 := by
    have := (pw_val (k := 0) (by decide) (by decide)).1
    rw [show pw 0 = 4607182418800017408 by decide] at this
    rw [this]; rfl
  have h2 : rv 4611686018427387904 = 2 := by
    have := (pw_val (k := 1) (by decide) (by decide)).1
    rw [show pw 1 = 4611686018427387904 by decide] at this
    rw [this]; rfl
  have hh : rv 4602678819172646912 * 2 = 1 := by
    have := (pw_val (k := -1) (by decide) (by decide)).1
    rw [show pw (-1) = 4602678819172646912 by decide] at this
    have h1 : p2 (-1) * 2 = 1 := by
      have := p2_add (-1) 1
      have e0 : p2 ((-1) + 1) = 1 := rfl
      have e1 : p2 1 = 2 := rfl
      rw [e0, e1] at this
      exact this.symm
    rw [this]; exact h1
  have h53 := p2_53
  have hu : 0 < p2 (-53) := p2_pos _
  have h0 := rv_nonneg f
  have a1 : A ≤ 4607182418800017408 := mid_le hA (by grind)
  have b1 : 4607182418800017408 ≤ B := le_mid hB (by grind)
  have b2 : B ≤ 4611686018427387904 := mid_le hB (by grind)
  have ra1 : rv A ≤ 1 := by have := rv_le a1; grind
  have rb2 : rv B ≤ 2 := by have := rv_le b2; grind
  have ra0 := rv_nonneg A
  by_cases ca : A ≤ 4602678819172646912
  · have ra2 : rv A * 2 ≤ 1 := by have := rv_le ca; grind
    have : rv A * rv B ≤ rv A * 2 := Rat.mul_le_mul_of_nonneg_left rb2 ra0
    grind
  · by_cases cb : B = 4607182418800017408
    · rw [cb, hone]; grind
    · obtain ⟨k, hk⟩ : ∃ k, k = A - 1021 * 4503599627370496 := ⟨_, rfl⟩
      obtain ⟨l, hl⟩ : ∃ l, l = B - 1022 * 4503599627370496 := ⟨_, rfl⟩
      have eA : rv A = (k : Rat) * p2 (-53) := by
        have := rv_mk 1021 k (by omega) (.inr (by omega))
        rw [show 1021 * 4503599627370496 + k = A by omega] at this
        exact this
      have eA1 : rv (A - 1) = ((k - 1 : Nat) : Rat) * p2 (-53) := by
        have := rv_mk 1021 (k - 1) (by omega) (.inr (by omega))
        rw [show 1021 * 4503599627370496 + (k - 1) = A - 1 by omega] at this
        exact this
      have e52 : p2 (-52) = p2 (-53) * 2 := by
        rw [show (-52 : Int) = -53 + 1 by decide, p2_add]
        congr 1
      have eB : rv B = (l : Rat) * p2 (-52) := by
        have := rv_mk 1022 l (by omega) (.inr (by omega))
        rw [show 1022 * 4503599627370496 + l = B by omega] at this
        exact this
      have eB1 : rv (B - 1) = ((l - 1 : Nat) : Rat) * p2 (-52) := by
        have := rv_mk 1022 (l - 1) (by omega) (.inr (by omega))
        rw [show 1022 * 4503599627370496 + (l - 1) = B - 1 by omega] at this
        exact this
      have mA := (hA.lo (by omega)).1
      have mB := (hB.lo (by omega)).1
      have ck : ((k - 1 : Nat) : Rat) = (k : Rat) - 1 := by
        have : ((k - 1 + 1 : Nat) : Rat) = (k : Rat) := by rw [Nat.sub_add_cancel (by omega)]
        rw [Rat.natCast_add] at this
        have h1 : ((1 : Nat) : Rat) = 1 := rfl
        grind
      have cl : ((l - 1 : Nat) : Rat) = (l : Rat) - 1 := by
        have : ((l - 1 + 1 : Nat) : Rat) = (l : Rat) := by rw [Nat.sub_add_cancel (by omega)]
        rw [Rat.natCast_add] at this
        have h1 : ((1 : Nat) : Rat) = 1 := rfl
        grind
      rw [eA, eA1, ck] at mA
      rw [eB, eB1, cl, e52] at mB
      have hs : k + 2 * l ≤ 2 * 9007199254740992 + 1 := by
        by_cases c : k + 2 * l ≤ 2 * 9007199254740992 + 1
        · exact c
        · exfalso
          have c1 : 2 * 9007199254740992 + 2 ≤ k + 2 * l := by omega
          have c2 : (2 * 9007199254740992 + 2 : Rat) ≤ (k : Rat) + 2 * (l : Rat) := by exact_mod_cast c1
          have c3 := Rat.mul_le_mul_of_nonneg_right c2 (Rat.le_of_lt hu)
          generalize p2 (-53) = u at *
          generalize (k : Rat) = K at *
          generalize (l : Rat) = L at *
          grind
      have hp := prod_nat (N := 9007199254740992) (a := k) (m := 2 * l) (by omega) (by omega) hs
      have hp2 : (k : Rat) * (2 * (l : Rat)) ≤ 9007199254740992 * 9007199254740992 + 9007199254740992 := by exact_mod_cast hp
      have hp3 := Rat.mul_le_mul_of_nonneg_right hp2 (Rat.le_of_lt (Rat.mul_pos hu hu))
      have q1 : (9007199254740992 * 9007199254740992 + 9007199254740992 : Rat) * (p2 (-53) * p2 (-53)) = (p2 (-53) * 9007199254740992) * (p2 (-53) * 9007199254740992) + (p2 (-53) * 9007199254740992) * p2 (-53) := by grind
      rw [h53] at q1
      rw [q1] at hp3
      rw [eA, eB, e52]
      have q2 : (k : Rat) * p2 (-53) * ((l : Rat) * (p2 (-53) * 2)) = (k : Rat) * (2 * (l : Rat)) * (p2 (-53) * p2 (-53)) := by grind
      rw [q2]
      rw [Rat.one_mul, Rat.one_mul] at hp3
      exact hp3
theorem sub_wd (s t : Bool) {x y : Nat} (hx : x < 9218868437227405312) (hy : y < 9218868437227405312) : double.sub (wd s x) (wd t y) = double.add (wd s x) (wd (!t) y) := by
  unfold Format.sub Format.add
  rw [read_wd s hx, read_wd t hy, read_wd (!t) hy]
  rfl
theorem one_rv : rv 4607182418800017408 = 1 := by
  have := (pw_val (k := 0) (by decide) (by decide)).1
  rw [show pw 0 = 4607182418800017408 by decide] at this
  rw [this]; rfl
theorem mid_one : Mid 4607182418800017408 (1 + p2 (-53)) := by
  have hu : 0 < p2 (-53) := p2_pos _
  have h1 := one_rv
  refine ⟨fun _ => ?_, ?_⟩
  · have h := rv_lt (show 4607182418800017408 - 1 < 4607182418800017408 by decide)
    rw [h1] at h ⊢
    exact ⟨by grind, fun e => by grind⟩
  · have h := rv_succ 1022 4503599627370496 (by decide) (.inr (by decide))
    rw [show 1022 * 4503599627370496 + 4503599627370496 = 4607182418800017408 by decide, h1] at h
    have e52 : p2 (-1074 + ((1022 : Nat) : Int)) = p2 (-53) * 2 := by
      rw [show (-1074 + ((1022 : Nat) : Int)) = -53 + 1 by decide, p2_add]
      congr 1
    rw [e52] at h
    rw [h, h1]
    exact ⟨by grind, fun _ => by decide⟩
theorem root_le {A B f : Nat} (hA : Mid A (1 - rv f)) (hB : Mid B (1 + rv f)) (hf : rv f ≤ 1) (a1 : A < 9218868437227405312) (b1 : B < 9218868437227405312) : ∃ r, fsqrt (fmul (some A) (some B)) = some r ∧ r ≤ 4607182418800017408 := by
  obtain ⟨ρ, h1, h2⟩ := mul_mid a1 b1
  have hρ : ρ ≤ 4607182418800017408 := h1.mono mid_one (prod_le hA hB hf)
  have e := h2 false false
  rw [Nat.min_eq_left (by omega)] at e
  obtain ⟨r, r1, r2, r3⟩ := sqrt_smid' (x := ρ) (by omega)
  refine ⟨r, ?_, ?_⟩
  · show (double.mul (wd false A) (wd false B)).bind double.sqrt = _
    rw [e]
    exact r1
  · have e0 : pw 0 = 4607182418800017408 := by decide
    have := r3.mono root_one (rv_le (show ρ ≤ pw 0 by omega))
    omega
theorem cos_le (s : Bool) {f : Nat} (hf : f < 4607182418800017408) : ∃ r, fsqrt (fmul (fsub (some 4607182418800017408) (some (wd s f))) (fadd (some 4607182418800017408) (some (wd s f)))) = some r ∧ r ≤ 4607182418800017408 := by
  have hf2 : f < 9218868437227405312 := by omega
  have h1 := one_rv
  have hr := rv_lt hf
  rw [h1] at hr
  have h0 := rv_nonneg f
  have two : rv 4611686018427387904 = 2 := by
    have := (pw_val (k := 1) (by decide) (by decide)).1
    rw [show pw 1 = 4611686018427387904 by decide] at this
    rw [this]; rfl
  -- the difference
  obtain ⟨u, A, z, hz, hA, ez, _, eA⟩ := add_gen false true (x := 4607182418800017408) (y := f) (by decide) hf2
  have hu : u = false := by
    cases u
    · rfl
    · exfalso
      rw [if_pos rfl] at ez
      unfold vz at ez
      rw [if_neg (by decide), if_pos rfl, h1] at ez
      grind
  subst hu
  rw [if_neg (by decide)] at ez
  unfold vz at ez
  rw [if_neg (by decide), if_pos rfl, h1] at ez
  have ez2 : z = 1 - rv f := by grind
  subst ez2
  have a1 : A ≤ 4607182418800017408 := mid_le hA (by rw [h1]; grind)
  rw [Nat.min_eq_left (by omega)] at eA
  -- the sum
  obtain ⟨B, hB, eB⟩ := add_mid (x := 4607182418800017408) (y := f) (by decide) hf2
  rw [h1] at hB
  have b1 : B ≤ 4611686018427387904 := mid_le hB (by rw [two]; grind)
  rw [Nat.min_eq_left (by omega)] at eB
  cases s
  · have e1 : fsub (some 4607182418800017408) (some (wd false f)) = some A := (sub_wd false false (by decide) hf2).trans eA
    have e2 : fadd (some 4607182418800017408) (some (wd false f)) = some B := eB
    rw [e1, e2]
    exact root_le hA hB (Rat.le_of_lt hr) (by omega) (by omega)
  · have e1 : fsub (some 4607182418800017408) (some (wd true f)) = some B := (sub_wd false true (by decide) hf2).trans eB
    have e2 : fadd (some 4607182418800017408) (some (wd true f)) = some A := eA
    rw [e1, e2]
    obtain ⟨r, r1, r2⟩ := root_le hA hB (Rat.le_of_lt hr) (by omega) (by omega)
    refine ⟨r, ?_, r2⟩
    rw [← r1]
    congr 1
    show double.mul (wd false B) (wd false A) = double.mul (wd false A) (wd false B)
    obtain ⟨ρ, m1, m2⟩ := mul_mid (x := B) (y := A) (by omega) (by omega)
    obtain ⟨σ, n1, n2⟩ := mul_mid (x := A) (y := B) (by omega) (by omega)
    rw [Rat.mul_comm] at m1
    rw [m2, n2, m1.unique n1]
/-- a number times one that is at most 1 has not grown -/
theorem shrink {c R : Nat} (hc : c ≤ 4607182418800017408) (hR : R < 9218868437227405312) : ∃ q, fmul (some c) (some R) = some q ∧ q ≤ R := by
  obtain ⟨ρ, m1, m2⟩ := mul_mid (x := c) (y := R) (by omega) hR
  have h1 := rv_le hc
  rw [one_rv] at h1
  have h2 := Rat.mul_le_mul_of_nonneg_right h1 (rv_nonneg R)
  rw [Rat.one_mul] at h2
  have hq : ρ ≤ R := mid_le m1 h2
  have e := m2 false false
  rw [Nat.min_eq_left (by omega)] at e
  exact ⟨ρ, e, hq⟩
end Go.Proofs.YtfohknalldelfaaDoor
namespace Go.Proofs.YtfohknalldelfaaDoor
open Lv
open Ieee
open Go.RowKit Go.Shelf

theorem fdiv_w (x y : Option Nat) : Wd (fdiv x y) := f2_wd (fun _ _ _ h => div_w64 h) x y
theorem hyper_shrinks {R : Nat} {x cc ss : Option Nat} (hR : R < 9218868437227405312) (h : hyperF (some R) x = some (cc, ss)) : ∃ q, fmul cc (some R) = some q ∧ q ≤ R := by
  unfold hyperF at h
  by_cases c1 : (numF (some R) && numF x) = false
  · rw [if_pos c1] at h; cases h
  · rw [if_neg c1] at h
    by_cases c2 : (zeroF (some R) && zeroF x) = true
    · rw [if_pos c2] at h
      obtain ⟨rfl, _⟩ := Prod.mk.inj (Option.some.inj h)
      exact shrink (Nat.le_refl _) hR
    · rw [if_neg c2] at h
      by_cases c3 : ltOne (fdiv x (some R)) = true
      · rw [if_pos c3] at h
        obtain ⟨rfl, _⟩ := Prod.mk.inj (Option.some.inj h)
        cases hd : fdiv x (some R) with
        | none => rw [hd] at c3; cases c3
        | some b =>
          rw [hd] at c3
          have hb : b % 9223372036854775808 < 4607182418800017408 := of_decide_eq_true c3
          obtain ⟨t, g, hg, hg2⟩ := num_wd (x := some b) (decide_eq_true (by omega)) (by rw [← hd]; exact fdiv_w _ _)
          have hbg := Option.some.inj hg
          subst hbg
          rw [wd_mod t (by omega)] at hb
          obtain ⟨r, r1, r2⟩ := cos_le t hb
          unfold hyC
          rw [r1]
          exact shrink r2 hR
      · rw [if_neg c3] at h; cases h
theorem gturn_other (g1 g2 : Option Nat → Option Nat → Option Nat) (j o : Nat) (p : List (Option Nat) × List (Option Nat)) (i : Nat) : ∀ n, (i ≤ o ∨ o + n < i) → (gturn g1 g2 j o n p).1.getD i none = p.1.getD i none
  | 0, _ => rfl
  | n + 1, h => by
    unfold gturn
    dsimp only
    rw [getD_set, if_neg (by omega)]
    exact gturn_other g1 g2 j o p i n (by omega)
theorem sfrom_shrinks {c : Nat} (h1 : 1 ≤ c) (h6 : c ≤ 6) : ∀ (n j : Nat) (st : List (Option Nat) × List (Option Nat)) (ys : List (Option Nat)), n + j = c + 1 → st.1.length = tsz c →
    (∀ i, j ≤ i → i ≤ c → ∃ R, st.1.getD (offs c i) none = some R ∧ R < 9218868437227405312) → sfrom c n j st = some ys →
    (∀ i, i < j → ys.getD (offs c i) none = st.1.getD (offs c i) none) ∧ (∀ i, j ≤ i → i ≤ c → GeD (ys.getD (offs c i) none) (st.1.getD (offs c i) none))
  | 0, j, st, ys, hn, _, _, h => by
    obtain rfl := Option.some.inj h
    exact ⟨fun _ _ => rfl, fun i hi hi2 => by omega⟩
  | n + 1, j, st, ys, hn, hl, hd, h => by
    have hj : j ≤ c := by omega
    obtain ⟨R, hR, hRi⟩ := hd j (Nat.le_refl _) hj
    unfold sfrom sstep at h
    rw [hR] at h
    have ho := offs_le c j h1 h6 (by omega)
    have hnx : offs c (j + 1) = offs c j + (c + 1 - j) := rfl
    have hol : offs c j < st.1.length := by have := offs_in (c := c) (i := j) (j := 0) h1 h6 hj (by omega); omega
    rcases hO : hyperF (some R) (st.2.getD j none) with _ | ⟨cc, ss⟩
    · rw [hO] at h; cases h
    · rw [hO] at h
      dsimp only at h
      obtain ⟨q, hq, hqR⟩ := hyper_shrinks hRi hO
      have hne : ∀ i, i ≤ c → i ≠ j → (gturn (downP cc ss) (downX cc ss) j (offs c j) (c - j) (st.1.set (offs c j) (fmul cc (some R)), st.2)).1.getD (offs c i) none = st.1.getD (offs c i) none := fun i hi hij => by
        have hpl : offs c i < offs c j ∨ offs c j + (c - j) < offs c i := by
          rcases Nat.lt_or_ge i j with c1 | c1
          · have := offs_mono c (show i + 1 ≤ j by omega)
            have e : offs c (i + 1) = offs c i + (c + 1 - i) := rfl
            omega
          · have := offs_mono c (show j + 1 ≤ i by omega)
            omega
        rw [gturn_other _ _ _ _ _ _ _ (by omega), getD_set, if_neg (by omega)]
      have heq : (gturn (downP cc ss) (downX cc ss) j (offs c j) (c - j) (st.1.set (offs c j) (fmul cc (some R)), st.2)).1.getD (offs c j) none = some q := by
        rw [gturn_other _ _ _ _ _ _ _ (by omega), getD_set, if_pos ⟨rfl, hol⟩, hq]
      have hlen := (gturn_len (downP cc ss) (downX cc ss) j (offs c j) (st.1.set (offs c j) (fmul cc (some R)), st.2) (c - j)).1
      obtain ⟨k1, k2⟩ := sfrom_shrinks h1 h6 n (j + 1) _ ys (by omega) (by rw [hlen, List.length_set]; exact hl) (fun i hi hi2 => by rw [hne i hi2 (by omega)]; exact hd i (by omega) hi2) h
      refine ⟨fun i hi => ?_, fun i hi hi2 => ?_⟩
      · rw [k1 i (by omega), hne i (by omega) (by omega)]
      · by_cases c1 : i = j
        · subst c1
          rw [k1 i (by omega), heq, hR]
          exact ⟨q, R, rfl, rfl, hqR, hRi⟩
        · have := k2 i (by omega) hi2
          rw [hne i hi2 c1] at this
          exact this
/-- THE PLAIN LAW: the diagonal has not grown -/
theorem shed_shrinks {F : FacD} {ls : List (Option Nat)} {c : Nat} (hc : F.cols = (c : Int)) (h : (shedD F ls).2 = 0) : ∀ i, i ≤ c → GeD ((shedD F ls).1.xs.getD (offs c i) none) (F.xs.getD (offs c i) none) := by
  unfold shedD at h ⊢
  by_cases hk : F.ok = true ∧ (ls.length : Int) = F.cols + 1
  · rw [if_pos hk] at h ⊢
    have hck : checkP (c : Int) F.xs F.rws F.trn = true := by rw [← hc]; exact hk.1
    obtain ⟨h1, h6, hl, _⟩ := check_parts hck
    rw [hc, Int.toNat_natCast] at h ⊢
    cases hS : sfrom c (c + 1) 0 (F.xs, ls) with
    | none => rw [hS] at h; cases h
    | some ys =>
      rw [hS] at h
      dsimp only at h ⊢
      obtain ⟨_, k2⟩ := sfrom_shrinks h1 h6 (c + 1) 0 (F.xs, ls) ys (by omega) hl (fun i _ hi => by obtain ⟨f, hf, hf4⟩ := diag_some hck i hi; exact ⟨f, hf, pw420_lt hf4⟩) hS
      by_cases c2 : checkP (c : Int) ys F.rws F.trn = true
      · rw [if_pos c2]
        exact fun i hi => k2 i (Nat.zero_le _) hi
      · rw [if_neg c2] at h; cases h
  · rw [if_neg hk] at h; cases h
end Go.Proofs.YtfohknalldelfaaDoor
