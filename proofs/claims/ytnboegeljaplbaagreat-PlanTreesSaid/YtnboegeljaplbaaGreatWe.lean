/- Plans as trees of merges; what a tree comes to is near to what its leaves come to. What a plan comes to is near to its shards, together; two plans of the same shards are near to one another. -/
import Derived.Test.YtnboegeljaplbaaGreatZm
import Derived.Test.YtnboegeljaplbaaGreatYh
namespace Go.Proofs.YtnboegeljaplbaaGreat
open Lv
open Ieee

/-- what a column's norm is taken to be, more closely -/
def MN (U : Rat) (K : Nat) : Rat := (1 + p2 (-30)) * U + 14 * ((K : Rat) * ee)
theorem MN_nn {U : Rat} (hU : 0 ≤ U) (K : Nat) : 0 ≤ MN U K := by
  have h1 := rmul_nn (Rat.le_of_lt t30.1) hU
  have h2 := rmul_nn (ratn_nn K) (Rat.le_of_lt ee_pos)
  unfold MN; grind
theorem MN_sq {U S : Rat} (hU : 0 ≤ U) (hS : S ≤ U * U) {K : Nat} (hK : K ≤ 4096) (hK2 : K ≠ 1) : S + (K : Rat) * EE (MN U K) (MN U K) ≤ MN U K * MN U K := by
  have hk0 := ratn_nn K
  have hk1 : (K : Rat) ≤ 4096 := by exact_mod_cast hK
  have ht := t30
  have hu := uu_val
  have hup := uu_pos
  have he0 := Rat.le_of_lt ee_pos
  have hKe0 := rmul_nn hk0 he0
  -- the integer K is no greater than its square
  have hKK : 2 * (K : Rat) ≤ (K : Rat) * (K : Rat) := by
    have : 2 * K ≤ K * K := by
      rcases Nat.eq_zero_or_pos K with h | h
      · subst h; exact Nat.le_refl _
      · exact Nat.mul_le_mul_right K (by omega)
    exact_mod_cast this
  unfold EE MN
  generalize (K : Rat) = k at *
  generalize p2 (-30) = t at *
  obtain ⟨M, hM⟩ : ∃ M, (1 + t) * U + 14 * (k * ee) = M := ⟨_, rfl⟩
  rw [hM]
  have tU := rmul_nn (Rat.le_of_lt ht.1) hU
  have hM0 : 0 ≤ M := by rw [← hM]; grind
  have hMM := rsq_nn M
  have uK : 24 * (uu * k) ≤ 1/50 * t := by
    have h1 := rmul_mono (Rat.le_of_lt hup) hk1
    grind
  have a1 : 24 * (uu * k) * (M * M) ≤ 1/50 * t * (M * M) := Rat.mul_le_mul_of_nonneg_right uK hMM
  have eM : k * ee * M = (1 + t) * (k * ee * U) + 14 * (k * ee * (k * ee)) := by rw [← hM]; grind
  have MMe : M * M = (1 + t) * (1 + t) * (U * U) + 28 * (1 + t) * (k * ee * U) + 196 * (k * ee * (k * ee)) := by rw [← hM]; grind
  have kee : 2 * (k * (ee * ee)) ≤ k * ee * (k * ee) := by
    have h1 := Rat.mul_le_mul_of_nonneg_right hKK (rmul_nn he0 he0)
    grind
  have kU := rmul_nn hKe0 hU
  have kk := rsq_nn (k * ee)
  have UU := rsq_nn U
  have goal1 : k * (24 * (uu * (M * M)) + 63/10 * (ee * (M + M)) + 20 * (ee * ee)) = 24 * (uu * k) * (M * M) + 126/10 * (k * ee * M) + 20 * (k * (ee * ee)) := by grind
  rw [goal1]
  generalize hz1 : k * ee * U = z1 at *
  generalize hz2 : k * ee * (k * ee) = z2 at *
  generalize hz3 : U * U = z3 at *
  generalize hz4 : k * (ee * ee) = z4 at *
  generalize hz5 : k * ee * M = z5 at *
  generalize hz6 : M * M = z6 at *
  generalize hz7 : 24 * (uu * k) * z6 = z7 at *
  have tt : t ≤ 1/1000000 := by grind
  have b1 : t * z1 ≤ 1/1000000 * z1 := Rat.mul_le_mul_of_nonneg_right tt kU
  have b2 : t * z2 ≤ 1/1000000 * z2 := Rat.mul_le_mul_of_nonneg_right tt kk
  have b3 : t * (t * z3) ≤ 1/1000000 * (t * z3) := Rat.mul_le_mul_of_nonneg_right tt (rmul_nn (Rat.le_of_lt ht.1) UU)
  have b4 : t * (t * (t * z3)) ≤ 1/1000000 * (t * (t * z3)) := Rat.mul_le_mul_of_nonneg_right tt (rmul_nn (Rat.le_of_lt ht.1) (rmul_nn (Rat.le_of_lt ht.1) UU))
  have b5 : t * (t * z1) ≤ 1/1000000 * (t * z1) := Rat.mul_le_mul_of_nonneg_right tt (rmul_nn (Rat.le_of_lt ht.1) kU)
  have c3 := rmul_nn (Rat.le_of_lt ht.1) UU
  have c4 := rmul_nn (Rat.le_of_lt ht.1) c3
  have c1 := rmul_nn (Rat.le_of_lt ht.1) kU
  have tz6 : t * z6 = t * z3 + 2 * (t * (t * z3)) + t * (t * (t * z3)) + 28 * (t * z1) + 28 * (t * (t * z1)) + 196 * (t * z2) := by rw [MMe]; grind
  have MMe' : z6 = z3 + 2 * (t * z3) + t * (t * z3) + 28 * z1 + 28 * (t * z1) + 196 * z2 := by rw [MMe]; grind
  have eM' : z5 = z1 + t * z1 + 14 * z2 := by rw [eM]; grind
  have a1' : z7 ≤ 1/50 * (t * z6) := by rw [show 1/50 * (t * z6) = 1/50 * t * z6 by grind]; exact a1
  clear a1 MMe eM hz1 hz2 hz3 hz4 hz5 hz6 hz7 goal1 hM uK hKK hk1 hu
  generalize t * (t * (t * z3)) = y1 at *
  generalize t * (t * z3) = y2 at *
  generalize t * z3 = y3 at *
  generalize t * (t * z1) = y4 at *
  generalize t * z1 = y5 at *
  generalize t * z2 = y6 at *
  generalize t * z6 = y7 at *
  grind
theorem bnd_tree {U V : Rat} (hU : 0 ≤ U) (hV : 0 ≤ V) {K k : Nat} (hK : K ≤ 4096) (hk : 3 * K ≤ 7 * k) : (K : Rat) * EE (MN U K) (MN V K) ≤ bndQ U V k := by
  have hk0 := ratn_nn K
  have hk00 := ratn_nn k
  have hk1 : (K : Rat) ≤ 4096 := by exact_mod_cast hK
  have hk2 : (K : Rat) ≤ 7/3 * (k : Rat) := by
    have : 3 * (K : Rat) ≤ 7 * (k : Rat) := by exact_mod_cast hk
    grind
  have ht := t30
  have hu := uu_val
  have hup := uu_pos
  have hep := ee_pos
  have he0 := Rat.le_of_lt ee_pos
  have kk : (k : Rat) ≤ (k : Rat) * (k : Rat) := by
    have : k ≤ k * k := by
      rcases Nat.eq_zero_or_pos k with h | h
      · subst h; exact Nat.le_refl _
      · exact Nat.le_mul_of_pos_left k h
    exact_mod_cast this
  have p1060 : p2 (-1060) = 32768 * ee := by
    have e1 := p2_nat 15
    rw [show ((15 : Nat) : Int) = 15 from rfl] at e1
    have e3 : ((2 ^ 15 : Nat) : Rat) = 32768 := by norm_cast
    rw [e3] at e1
    unfold ee
    rw [← e1, ← p2_add]; rfl
  have p2140 : p2 (-2140) = 1024 * (ee * ee) := by
    have e1 := p2_nat 10
    rw [show ((10 : Nat) : Int) = 10 from rfl] at e1
    have e3 : ((2 ^ 10 : Nat) : Rat) = 1024 := by norm_cast
    rw [e3] at e1
    unfold ee
    rw [← e1, ← p2_add, ← p2_add]; rfl
  have c64 : ((64 * k : Nat) : Rat) = 64 * (k : Rat) := by norm_cast
  unfold bndQ EE MN
  rw [p1060, p2140, c64, show p2 (-53) = uu from rfl]
  generalize (K : Rat) = a at *
  generalize (k : Rat) = b at *
  generalize p2 (-30) = t at *
  -- three kinds of parts
  have tt : t ≤ 1/1000000 := by grind
  have uU := rmul_nn (Rat.le_of_lt hup) (rmul_nn hU hV)
  have e1 : a * (24 * (uu * (((1 + t) * U + 14 * (a * ee)) * ((1 + t) * V + 14 * (a * ee)))) + 63/10 * (ee * ((1 + t) * U + 14 * (a * ee) + ((1 + t) * V + 14 * (a * ee)))) + 20 * (ee * ee)) =
      24 * ((1 + t) * (1 + t)) * (a * (uu * (U * V))) + (336 * (uu * a) * (1 + t) + 63/10 * (1 + t)) * (a * (ee * (U + V))) + (4704 * (uu * a) + 882/5) * (a * a * (ee * ee)) + 20 * (a * (ee * ee)) := by grind
  rw [e1]
  have ua : uu * a ≤ 1/1000000 := by
    have h1 := rmul_mono (Rat.le_of_lt hup) hk1
    grind
  have ua0 := rmul_nn (Rat.le_of_lt hup) hk0
  have t2 : (1 + t) * (1 + t) ≤ 51/50 := by
    have := Rat.mul_le_mul_of_nonneg_right tt (Rat.le_of_lt ht.1)
    grind
  have aUV0 := rmul_nn hk0 uU
  have eUV := rmul_nn he0 (show 0 ≤ U + V by grind)
  have aeUV0 := rmul_nn hk0 eUV
  have ee0 := rmul_nn he0 he0
  have f1 : 24 * ((1 + t) * (1 + t)) * (a * (uu * (U * V))) ≤ 25 * (a * (uu * (U * V))) := Rat.mul_le_mul_of_nonneg_right (by grind) aUV0
  have f2 : a * (uu * (U * V)) ≤ 7/3 * b * (uu * (U * V)) := Rat.mul_le_mul_of_nonneg_right hk2 uU
  have uat : uu * a * (1 + t) ≤ 1/1000000 * (1 + t) := Rat.mul_le_mul_of_nonneg_right ua (by grind)
  have f3 : (336 * (uu * a) * (1 + t) + 63/10 * (1 + t)) * (a * (ee * (U + V))) ≤ 7 * (a * (ee * (U + V))) := Rat.mul_le_mul_of_nonneg_right (by grind) aeUV0
  have f4 : a * (ee * (U + V)) ≤ 7/3 * b * (ee * (U + V)) := Rat.mul_le_mul_of_nonneg_right hk2 eUV
  have aa : a * a ≤ 7/3 * b * (7/3 * b) := rsq_le hk0 hk2
  have f5 : (4704 * (uu * a) + 882/5) * (a * a * (ee * ee)) ≤ 177 * (a * a * (ee * ee)) := Rat.mul_le_mul_of_nonneg_right (by grind) (rmul_nn (rsq_nn a) ee0)
  have f6 : a * a * (ee * ee) ≤ 7/3 * b * (7/3 * b) * (ee * ee) := Rat.mul_le_mul_of_nonneg_right aa ee0
  have f7 : a * (ee * ee) ≤ 7/3 * b * (ee * ee) := Rat.mul_le_mul_of_nonneg_right hk2 ee0
  have f8 : b * (ee * ee) ≤ b * b * (ee * ee) := Rat.mul_le_mul_of_nonneg_right kk ee0
  have g1 := rmul_nn hk00 uU
  have g2 := rmul_nn hk00 eUV
  have g3 := rmul_nn (rsq_nn b) ee0
  have e2 : U * V * (64 * b) * uu + (U + V) * b * (32768 * ee) + 1024 * (ee * ee) * b * b = 64 * (b * (uu * (U * V))) + 32768 * (b * (ee * (U + V))) + 1024 * (b * b * (ee * ee)) := by grind
  rw [e2]
  rw [show 7/3 * b * (uu * (U * V)) = 7/3 * (b * (uu * (U * V))) by grind] at f2
  rw [show 7/3 * b * (ee * (U + V)) = 7/3 * (b * (ee * (U + V))) by grind] at f4
  rw [show 7/3 * b * (7/3 * b) * (ee * ee) = 49/9 * (b * b * (ee * ee)) by grind] at f6
  rw [show 7/3 * b * (ee * ee) = 7/3 * (b * (ee * ee)) by grind] at f7
  clear e1 e2 uat aa t2 ua tt
  generalize 24 * ((1 + t) * (1 + t)) * (a * (uu * (U * V))) = w1 at *
  generalize (336 * (uu * a) * (1 + t) + 63/10 * (1 + t)) * (a * (ee * (U + V))) = w2 at *
  generalize (4704 * (uu * a) + 882/5) * (a * a * (ee * ee)) = w3 at *
  generalize a * (uu * (U * V)) = x1 at *
  generalize b * (uu * (U * V)) = x2 at *
  generalize a * (ee * (U + V)) = x3 at *
  generalize b * (ee * (U + V)) = x4 at *
  generalize a * a * (ee * ee) = x5 at *
  generalize b * b * (ee * ee) = x6 at *
  generalize a * (ee * ee) = x7 at *
  generalize b * (ee * ee) = x8 at *
  grind
theorem MN_le {U : Rat} {A K : Nat} (hU0 : 0 ≤ U) (hU : U ≤ p2 ((A / 2 + 3 : Nat) : Int)) (hA : A ≤ 860) (hK : K ≤ 4096) : MN U K ≤ p2 440 := by
  have h1 : p2 ((A / 2 + 3 : Nat) : Int) ≤ p2 433 := p2_le (by omega)
  have h2 : p2 433 * 4 ≤ p2 440 := by
    have e1 := p2_succ 433
    have e2 := p2_succ 434
    have e3 := p2_le (show (433 : Int) + 1 + 1 ≤ 440 by decide)
    have e4 : (433 : Int) + 1 = 434 := rfl
    rw [e4] at e1 e3
    grind
  have h3 : (1 : Rat) ≤ p2 433 := by
    have := p2_le (show (0 : Int) ≤ 433 by decide)
    rwa [p2_zero] at this
  have ht := t30
  have hk1 : (K : Rat) ≤ 4096 := by exact_mod_cast hK
  have he := ee_uu
  have he0 := Rat.le_of_lt ee_pos
  have hKe : (K : Rat) * ee ≤ 4096 * (1/1000000) := rmul_le (ratn_nn K) he0 hk1 he.2
  have tU : p2 (-30) * U ≤ 1 * U := Rat.mul_le_mul_of_nonneg_right (by grind) hU0
  unfold MN
  grind
/-- a tree of merges, and its leaves -/
inductive Mrg : FacD → List FacD → Prop
  | leaf {F : FacD} (h : F.ok = true) (hw : ∀ i, Wd (F.xs.getD i none)) : Mrg F [F]
  | node {A B G : FacD} {la lb : List FacD} (ha : Mrg A la) (hb : Mrg B lb) (h : twoD A B = (G, 0)) : Mrg G (la ++ lb)
theorem wd_all {c : Nat} {xs : List (Option Nat)} (hl : xs.length = tsz c) (h : ∀ i, i < tsz c → Wd (xs.getD i none)) : ∀ i, Wd (xs.getD i none) := by
  intro i
  by_cases hi : i < tsz c
  · exact h i hi
  · intro b hb
    rw [List.getD_eq_getElem?_getD, List.getElem?_eq_none (by omega)] at hb
    cases hb
def rowsS (ls : List FacD) : Int := match ls with
  | [] => 0
  | F :: t => F.rws + rowsS t
theorem rowsS_append (a b : List FacD) : rowsS (a ++ b) = rowsS a + rowsS b := by
  induction a with
  | nil => show rowsS b = 0 + _; omega
  | cons F a ih => show F.rws + rowsS (a ++ b) = F.rws + rowsS a + _; rw [ih]; omega
theorem mrg_facts {G : FacD} {ls : List FacD} (h : Mrg G ls) : G.ok = true ∧ (∀ i, Wd (G.xs.getD i none)) ∧ (∀ L ∈ ls, L.ok = true ∧ L.cols = G.cols ∧ ∀ i, Wd (L.xs.getD i none)) ∧ 1 ≤ ls.length ∧ G.rws = rowsS ls ∧ ∃ d : Nat, ls.length ≤ 2 ^ d ∧ (d : Int) * sizeI G.cols ≤ G.trn := by
  induction h with
  | @leaf F h hw =>
    obtain ⟨_, _, t0, _⟩ := ok_rows h
    exact ⟨h, hw, fun L hL => (by obtain rfl := List.mem_singleton.1 hL; exact ⟨h, rfl, hw⟩), Nat.le_refl _, by show F.rws = F.rws + 0; omega, 0, Nat.le_refl _, by simp; omega⟩
  | @node A B G la lb ha hb h iha ihb =>
    obtain ⟨a1, a2, a3, a4, a5, da, a6, a7⟩ := iha
    obtain ⟨b1, b2, b3, b4, b5, db, b6, b7⟩ := ihb
    obtain ⟨c, hc⟩ := Int.eq_ofNat_of_zero_le (show 0 ≤ A.cols by have := ok_cols a1; omega)
    have hc : A.cols = (c : Int) := hc
    obtain ⟨_, _, g1, g2, g3, g4, g5, g6⟩ := merge_grows hc (fun i _ => a2 i) (fun i _ => b2 i) h
    have hGc : G.cols = (c : Int) := by rw [g3, hc]
    obtain ⟨h1, h6, hl, _⟩ := check_parts (c := c) (xs := G.xs) (r := G.rws) (t := G.trn) (by rw [← hGc]; exact g1)
    have hwA := hc
    refine ⟨g1, ?_, fun L hL => ?_, by rw [List.length_append]; omega, by rw [g4, a5, b5, rowsS_append], max da db + 1, ?_, ?_⟩
    · obtain ⟨ac, ax, ar, at'⟩ := A
      obtain ⟨bc, bx, br, bt⟩ := B
      dsimp only at hc g2
      subst hc
      subst g2
      obtain ⟨_, _, _, _, TG, _⟩ := two_parts a2 b2 h
      refine wd_all TG.len fun i hi => ?_
      have hl2 : i < G.xs.length := by rw [TG.len]; exact hi
      unfold twoD at h
      by_cases h0 : twoEarly ⟨(c : Int), ax, ar, at'⟩ ⟨(c : Int), bx, br, bt⟩ ≠ 0
      · rw [if_pos h0] at h
        exact absurd (Prod.mk.inj h).2 h0
      · rw [if_neg h0] at h
        cases hL : twoLoop c bx (c + 1) 0 ⟨(c : Int), ax, ar, at'⟩ with
        | mk H b =>
          dsimp only at h
          rw [Int.toNat_natCast, hL] at h
          cases b with
          | false => rw [if_pos rfl] at h; cases (Prod.mk.inj h).2
          | true =>
            rw [if_neg (by simp)] at h
            have hGx : G.xs = H.xs := by rw [← (Prod.mk.inj h).1]
            rw [hGx]
            exact two_words b2 (c + 1) 0 ax H (by omega) (fun i _ => a2 i) hL i hi
    · rcases List.mem_append.1 hL with hL | hL
      · obtain ⟨x1, x2, x3⟩ := a3 L hL
        exact ⟨x1, by rw [x2, g3], x3⟩
      · obtain ⟨x1, x2, x3⟩ := b3 L hL
        exact ⟨x1, by rw [x2, g2, g3], x3⟩
    · rw [List.length_append]
      have p1 := Nat.pow_le_pow_right (n := 2) (by omega) (Nat.le_max_left da db)
      have p2 := Nat.pow_le_pow_right (n := 2) (by omega) (Nat.le_max_right da db)
      rw [Nat.pow_succ]
      omega
    · have hs0 : 0 ≤ sizeI G.cols := by unfold sizeI; split <;> omega
      rw [g5, ← g3]
      rw [← g3] at a7
      rw [show B.cols = G.cols by rw [g2, g3]] at b7
      have e1 : ((max da db + 1 : Nat) : Int) * sizeI G.cols = ((max da db : Nat) : Int) * sizeI G.cols + sizeI G.cols := by
        rw [Int.natCast_add, Int.add_mul]; simp
      rw [e1]
      rcases Nat.le_total da db with h | h
      · rw [Nat.max_eq_right h]; omega
      · rw [Nat.max_eq_left h]; omega
/-- the leaves' Gram lists, together -/
def gsum (ls : List FacD) (c p q : Nat) : Rat := match ls with
  | [] => 0
  | F :: t => Gx F.xs c p q + gsum t c p q
theorem gsum_append (a b : List FacD) (c p q : Nat) : gsum (a ++ b) c p q = gsum a c p q + gsum b c p q := by
  induction a with
  | nil => show gsum b c p q = 0 + _; grind
  | cons F a ih => show _ + gsum (a ++ b) c p q = _ + gsum a c p q + _; rw [ih]; grind
theorem gx_nn (xs : List (Option Nat)) (c l : Nat) : 0 ≤ Gx xs c l l := sumQ_nn _ (fun _ _ => rsq_nn _)
theorem gsum_nn (ls : List FacD) (c l : Nat) : 0 ≤ gsum ls c l l := by
  induction ls with
  | nil => exact Rat.le_refl
  | cons F t ih => have := gx_nn F.xs c l; show 0 ≤ _ + gsum t c l l; grind
/-- two merged, against whatever bound there is -/
theorem two_any {c : Nat} {M : Nat → Rat} {ax bx : List (Option Nat)} {ar at' br bt : Int} {G : FacD} (hM0 : ∀ l, l ≤ c → 0 ≤ M l) (hM : ∀ l, l ≤ c → M l ≤ p2 440) (hA : ∀ i, Wd (ax.getD i none)) (hB : ∀ i, Wd (bx.getD i none)) (h : twoD ⟨(c : Int), ax, ar, at'⟩ ⟨(c : Int), bx, br, bt⟩ = (G, 0))
    (hS : ∀ l, l ≤ c → Gx ax c l l + Gx bx c l l + ((tsz c : Nat) : Rat) * EE (M l) (M l) ≤ M l * M l) : ∀ p q, p ≤ c → q ≤ c → Bd (Gx G.xs c p q - (Gx ax c p q + Gx bx c p q)) (((tsz c : Nat) : Rat) * EE (M p) (M q)) := by
  obtain ⟨_, _, TA, TB, _, _⟩ := two_parts hA hB h
  unfold twoD at h
  by_cases h0 : twoEarly ⟨(c : Int), ax, ar, at'⟩ ⟨(c : Int), bx, br, bt⟩ ≠ 0
  · rw [if_pos h0] at h
    exact absurd (Prod.mk.inj h).2 h0
  · rw [if_neg h0] at h
    cases hL : twoLoop c bx (c + 1) 0 ⟨(c : Int), ax, ar, at'⟩ with
    | mk H b =>
      dsimp only at h
      rw [Int.toNat_natCast, hL] at h
      cases b with
      | false => rw [if_pos rfl] at h; cases (Prod.mk.inj h).2
      | true =>
        rw [if_neg (by simp)] at h
        have hGx : G.xs = H.xs := by rw [← (Prod.mk.inj h).1]
        have g0 : ∀ p q, Gt c ax bx 0 p q = Gx ax c p q + Gx bx c p q := by
          intro p q
          unfold Gt
          show _ + (_ - 0) = _
          grind
        obtain ⟨_, _, k3⟩ := two_gram (M := M) TA.h1 TA.h6 hM0 hM (fun a l hal hlc => (TB.ok a l hal hlc).1) TB.len (c + 1) 0 ax H (by omega) TA.len (fun a l hal hlc => (TA.ok a l hal hlc).1) (fun l hl => by
          rw [g0, rotN_tsz TA.h6]
          exact hS l hl) hL
        intro p q hp hq
        have := k3 p q hp hq
        rw [g0, rotN_tsz TA.h6] at this
        rw [hGx]
        exact this
/-- a tree's Gram list is near to its leaves' -/
theorem mrg_gram {c : Nat} {M : Nat → Rat} (hM0 : ∀ l, l ≤ c → 0 ≤ M l) (hM : ∀ l, l ≤ c → M l ≤ p2 440) {G : FacD} {ls : List FacD} (h : Mrg G ls) : G.cols = (c : Int) →
    (∀ l, l ≤ c → gsum ls c l l + (((ls.length - 1) * tsz c : Nat) : Rat) * EE (M l) (M l) ≤ M l * M l) → ∀ p q, p ≤ c → q ≤ c → Bd (Gx G.xs c p q - gsum ls c p q) ((((ls.length - 1) * tsz c : Nat) : Rat) * EE (M p) (M q)) := by
  induction h with
  | @leaf F h hw =>
    intro hc _ p q hp hq
    rw [show Gx F.xs c p q - gsum [F] c p q = 0 by show _ - (_ + (0 : Rat)) = 0; grind]
    exact bd_zero (rmul_nn (ratn_nn _) (EE_nn (hM0 p hp) (hM0 q hq)))
  | @node A B G la lb ha hb h iha ihb =>
    intro hc hS p q hp hq
    obtain ⟨a1, a2, a3, a4, _⟩ := mrg_facts ha
    obtain ⟨b1, b2, b3, b4, _⟩ := mrg_facts hb
    obtain ⟨c', hc'⟩ := Int.eq_ofNat_of_zero_le (show 0 ≤ A.cols by have := ok_cols a1; omega)
    have hc' : A.cols = (c' : Int) := hc'
    obtain ⟨_, _, _, g2, g3, _⟩ := merge_grows hc' (fun i _ => a2 i) (fun i _ => b2 i) h
    have hAc : A.cols = (c : Int) := by rw [← g3, hc]
    have hBc : B.cols = (c : Int) := by rw [g2, hAc]
    have hlen : ((((la ++ lb).length - 1) * tsz c : Nat) : Rat) = (((la.length - 1) * tsz c : Nat) : Rat) + (((lb.length - 1) * tsz c : Nat) : Rat) + ((tsz c : Nat) : Rat) := by
      have : ((la ++ lb).length - 1) * tsz c = (la.length - 1) * tsz c + (lb.length - 1) * tsz c + tsz c := by
        rw [List.length_append, show la.length + lb.length - 1 = (la.length - 1) + (lb.length - 1) + 1 by omega, Nat.add_mul, Nat.add_mul, Nat.one_mul]
      rw [this]; norm_cast
    have hE : ∀ l, l ≤ c → 0 ≤ EE (M l) (M l) := fun l hl => EE_nn (hM0 l hl) (hM0 l hl)
    have hS' : ∀ l, l ≤ c → gsum la c l l + gsum lb c l l + ((((la.length - 1) * tsz c : Nat) : Rat) + (((lb.length - 1) * tsz c : Nat) : Rat) + ((tsz c : Nat) : Rat)) * EE (M l) (M l) ≤ M l * M l := by
      intro l hl
      have := hS l hl
      rw [gsum_append, hlen] at this
      exact this
    have ka := iha hAc (fun l hl => by
      have x1 := hS' l hl
      have x2 := gsum_nn lb c l
      have x3 := rmul_nn (ratn_nn ((lb.length - 1) * tsz c)) (hE l hl)
      have x4 := rmul_nn (ratn_nn (tsz c)) (hE l hl)
      grind)
    have kb := ihb hBc (fun l hl => by
      have x1 := hS' l hl
      have x2 := gsum_nn la c l
      have x3 := rmul_nn (ratn_nn ((la.length - 1) * tsz c)) (hE l hl)
      have x4 := rmul_nn (ratn_nn (tsz c)) (hE l hl)
      grind)
    obtain ⟨ac, ax, ar, at'⟩ := A
    obtain ⟨bc, bx, br, bt⟩ := B
    dsimp only at hAc hBc ka kb a2 b2
    subst hAc
    subst hBc
    have x1 := two_any hM0 hM a2 b2 h (fun l hl => by
      have y1 := hS' l hl
      have y2 := ka l l hl hl
      have y3 := kb l l hl hl
      unfold Bd at y2 y3
      grind) p q hp hq
    have y2 := ka p q hp hq
    have y3 := kb p q hp hq
    rw [gsum_append, hlen]
    unfold Bd at x1 y2 y3 ⊢
    grind
/-- a stack of trees -/
def StM (st : List FacD) (ls : List (List FacD)) : Prop := st.length = ls.length ∧ ∀ i, i < st.length → Mrg (st.getD i fac0) (ls.getD i [])
theorem getD_app {T : Type} (a : List T) (x z : T) (i : Nat) (h : i < a.length + 1) : (a ++ [x]).getD i z = if i < a.length then a.getD i z else x := by
  by_cases c : i < a.length
  · rw [if_pos c, List.getD_eq_getElem?_getD, List.getElem?_append_left c, ← List.getD_eq_getElem?_getD]
  · rw [if_neg c, List.getD_eq_getElem?_getD, List.getElem?_append_right (by omega), show i - a.length = 0 by omega]; rfl
theorem getD_takeT {T : Type} (a : List T) (n i : Nat) (z : T) (h : i < n) : (a.take n).getD i z = a.getD i z := by
  rw [List.getD_eq_getElem?_getD, List.getElem?_take_of_lt h, ← List.getD_eq_getElem?_getD]
theorem StM.snoc {st : List FacD} {ls : List (List FacD)} (h : StM st ls) {F : FacD} {l : List FacD} (hF : Mrg F l) : StM (st ++ [F]) (ls ++ [l]) := by
  refine ⟨by rw [List.length_append, List.length_append, h.1]; rfl, fun i hi => ?_⟩
  rw [List.length_append, List.length_singleton] at hi
  rw [getD_app _ _ _ _ hi, getD_app _ _ _ _ (by rw [← h.1]; exact hi), ← h.1]
  by_cases c : i < st.length
  · rw [if_pos c, if_pos c]; exact h.2 i c
  · rw [if_neg c, if_neg c]; exact hF
theorem StM.take {st : List FacD} {ls : List (List FacD)} (h : StM st ls) (n : Nat) : StM (st.take n) (ls.take n) := by
  refine ⟨by rw [List.length_take, List.length_take, h.1], fun i hi => ?_⟩
  rw [List.length_take] at hi
  rw [getD_takeT _ _ _ _ (by omega), getD_takeT _ _ _ _ (by omega)]
  exact h.2 i (by omega)
theorem flat_two {ls : List (List FacD)} (h : 2 ≤ ls.length) : ls.flatten = (ls.take (ls.length - 2)).flatten ++ (ls.getD (ls.length - 2) [] ++ ls.getD (ls.length - 1) []) := by
  obtain ⟨n, hn⟩ : ∃ n, ls.length = n + 2 := ⟨ls.length - 2, by omega⟩
  have e1 : ls.take (n + 1) = ls.take n ++ [ls.getD n []] := by
    rw [List.take_succ_eq_append_getElem (by omega), List.getD_eq_getElem?_getD, List.getElem?_eq_getElem (by omega)]; rfl
  have e2 : ls.take (n + 2) = ls.take (n + 1) ++ [ls.getD (n + 1) []] := by
    rw [List.take_succ_eq_append_getElem (by omega), List.getD_eq_getElem?_getD, List.getElem?_eq_getElem (by omega)]; rfl
  rw [List.take_of_length_le (by omega), e1] at e2
  rw [hn, show n + 2 - 2 = n by omega, show n + 2 - 1 = n + 1 by omega]
  conv => lhs; rw [e2]
  rw [List.flatten_append, List.flatten_append]
  simp
/-- what a plan comes to is a tree of its shards -/
theorem play_tree {Fs : List FacD} (hw : ∀ F ∈ Fs, ∀ i, Wd (F.xs.getD i none)) {G : FacD} : ∀ (l : List Int) (st : List FacD) (ls : List (List FacD)), StM st ls → htsP (st.length : Int) l = some 1 → (∀ k ∈ l, k = -1 ∨ (0 ≤ k ∧ k < Fs.length)) → playD fac0 (layF Fs) twoD l st = (G, 0) →
    Mrg G (ls.flatten ++ (orderD l).map fun k => Fs.getD k.toNat fac0)
  | [], st, ls, hS, hh, _, h => by
    have h1 : (st.length : Int) = 1 := Option.some.inj hh
    have hG : st.getD 0 fac0 = G := (Prod.mk.inj h).1
    have hl : ls.length = 1 := by have := hS.1; omega
    obtain ⟨x, rfl⟩ := List.length_eq_one_iff.1 hl
    have := hS.2 0 (by omega)
    rw [hG] at this
    show Mrg G (([x] : List (List FacD)).flatten ++ [])
    simpa using this
  | k :: t, st, ls, hS, hh, hk, h => by
    unfold playD at h
    by_cases c : k = -1
    · rw [if_pos c, if_pos c] at h
      unfold htsP at hh
      rw [if_pos c] at hh
      by_cases c2 : (st.length : Int) < 2
      · rw [if_pos c2] at hh; cases hh
      · rw [if_neg c2] at hh
        by_cases hz : (twoD (st.getD (st.length - 2) fac0) (st.getD (st.length - 1) fac0)).2 ≠ 0
        · rw [if_pos hz] at h; exact absurd (Prod.mk.inj h).2 hz
        · rw [if_neg hz] at h
          have hz : (twoD (st.getD (st.length - 2) fac0) (st.getD (st.length - 1) fac0)).2 = 0 := by simpa using hz
          have m1 := hS.2 (st.length - 2) (by omega)
          have m2 := hS.2 (st.length - 1) (by omega)
          have m3 := Mrg.node m1 m2 (Prod.ext rfl hz)
          have hn := (hS.take (st.length - 2)).snoc m3
          have := play_tree hw t _ _ hn (by
            rw [List.length_append, List.length_take, List.length_singleton]
            rw [show ((min (st.length - 2) st.length + 1 : Nat) : Int) = (st.length : Int) - 1 by omega]
            exact hh) (fun k' hk' => hk k' (List.mem_cons_of_mem _ hk')) h
          rw [List.flatten_append] at this
          have e1 := flat_two (ls := ls) (by have := hS.1; omega)
          rw [← hS.1] at e1
          have e2 : orderD (k :: t) = orderD t := by
            unfold orderD
            rw [List.filter_cons, if_neg (by rw [c]; decide)]
          rw [e1, e2]
          simpa using this
    · rw [if_neg c, if_neg c] at h
      unfold htsP at hh
      rw [if_neg c] at hh
      have hk0 : 0 ≤ k ∧ k < Fs.length := (hk k (List.mem_cons_self ..)).resolve_left c
      by_cases hz : (layF Fs k).2 ≠ 0
      · rw [if_pos hz] at h; exact absurd (Prod.mk.inj h).2 hz
      · rw [if_neg hz] at h
        have hz : (layF Fs k).2 = 0 := by simpa using hz
        have hok : (Fs.getD k.toNat fac0).ok = true ∧ (layF Fs k).1 = Fs.getD k.toNat fac0 := by
          unfold layF at hz ⊢
          by_cases c3 : (Fs.getD k.toNat fac0).ok = true
          · rw [if_pos c3]; exact ⟨c3, rfl⟩
          · rw [if_neg c3] at hz; cases hz
        have hmem : Fs.getD k.toNat fac0 ∈ Fs := by
          rw [List.getD_eq_getElem?_getD, List.getElem?_eq_getElem (by omega)]
          exact List.getElem_mem _
        have hn := hS.snoc (Mrg.leaf hok.1 (hw _ hmem))
        rw [hok.2] at h
        have := play_tree hw t _ _ hn (by
          rw [List.length_append, List.length_singleton]
          rw [show ((st.length + 1 : Nat) : Int) = (st.length : Int) + 1 by omega]
          exact hh) (fun k' hk' => hk k' (List.mem_cons_of_mem _ hk')) h
        rw [List.flatten_append] at this
        have e2 : orderD (k :: t) = k :: orderD t := by
          unfold orderD
          rw [List.filter_cons, if_pos (decide_eq_true hk0.1)]
        rw [e2]
        simpa using this
theorem plan_in {l : List Int} {n : Int} (h : inP l n = true) : ∀ k ∈ l, k = -1 ∨ (0 ≤ k ∧ k < n) := by
  intro k hk
  obtain ⟨i, hi, rfl⟩ := List.getElem_of_mem hk
  unfold inP at h
  have := List.all_eq_true.1 h i (List.mem_range.2 hi)
  have e : l.getD i 0 = l[i] := by rw [List.getD_eq_getElem?_getD, List.getElem?_eq_getElem hi]; rfl
  rw [e] at this
  simp only [Bool.not_eq_true', Bool.or_eq_false_iff, decide_eq_false_iff_not] at this
  omega
theorem run_tree {Fs : List FacD} (hw : ∀ F ∈ Fs, ∀ i, Wd (F.xs.getD i none)) {l : List Int} {G : FacD} (h : runD l Fs = (G, 0)) : Mrg G ((orderD l).map fun k => Fs.getD k.toNat fac0) ∧ ∀ k ∈ orderD l, 0 ≤ k ∧ k < Fs.length := by
  unfold runD at h
  by_cases c : pcheckD l Fs.length ≠ 0
  · rw [if_pos c] at h; cases (Prod.mk.inj h).2
  · rw [if_neg c] at h
    obtain ⟨h1, h2⟩ := pcheck_yes (show pcheckD l Fs.length = 0 by simpa using c)
    have hin := plan_in h1
    refine ⟨by simpa using play_tree hw l [] [] ⟨rfl, fun i hi => by cases hi⟩ h2 hin h, fun k hk => ?_⟩
    unfold orderD at hk
    obtain ⟨k1, k2⟩ := List.mem_filter.1 hk
    have := of_decide_eq_true k2
    exact (hin k k1).resolve_left (by omega)
end Go.Proofs.YtnboegeljaplbaaGreat
namespace Go.Proofs.YtnboegeljaplbaaGreat
open Lv
open Ieee

/-- Gram lists, together -/
def sumL (gs : List (List Rat)) : List Rat := match gs with
  | [] => []
  | g :: t => t.foldl addL g
/-- a factor's Gram list -/
def gramF (c : Nat) (F : FacD) : List Rat := gramL c (linesD F.xs c)
theorem fold_get {c p q n i : Nat} (hi : i < n) : ∀ (t : List FacD) (g : List Rat), g.length = n → (∀ F ∈ t, (gramF c F).length = n ∧ (gramF c F).getD i 0 = Gx F.xs c p q) →
    ((t.map (gramF c)).foldl addL g).length = n ∧ ((t.map (gramF c)).foldl addL g).getD i 0 = g.getD i 0 + gsum t c p q
  | [], g, hg, _ => ⟨hg, by show g.getD i 0 = _ + (0 : Rat); grind⟩
  | F :: t, g, hg, h => by
    obtain ⟨h1, h2⟩ := h F (List.mem_cons_self ..)
    obtain ⟨k1, k2⟩ := fold_get hi t (addL g (gramF c F)) (addL_len hg h1) (fun F hF => h F (List.mem_cons_of_mem _ hF))
    refine ⟨k1, ?_⟩
    show ((t.map (gramF c)).foldl addL (addL g (gramF c F))).getD i 0 = g.getD i 0 + (Gx F.xs c p q + gsum t c p q)
    rw [k2, addL_get hg h1 hi, h2]
    grind
theorem gramF_len {c : Nat} {F : FacD} (h : TriOk c F.xs) : (gramF c F).length = tsz c := (gramL_ok (c := c) (A := 420) _ h.lines).1
theorem gramF_get {c p q : Nat} {F : FacD} (h : TriOk c F.xs) (hpq : p ≤ q) (hq : q ≤ c) : (gramF c F).getD (gix c p q) 0 = Gx F.xs c p q := gram_get h.h1 h.h6 h.len hpq hq
theorem sumL_get {c p q : Nat} {ls : List FacD} (h1 : 1 ≤ c) (h6 : c ≤ 6) (hne : ls ≠ []) (h : ∀ F ∈ ls, TriOk c F.xs) (hpq : p ≤ q) (hq : q ≤ c) : (sumL (ls.map (gramF c))).length = tsz c ∧ (sumL (ls.map (gramF c))).getD (gix c p q) 0 = gsum ls c p q := by
  cases ls with
  | nil => exact absurd rfl hne
  | cons F t =>
    have hF := h F (List.mem_cons_self ..)
    obtain ⟨k1, k2⟩ := fold_get (c := c) (p := p) (q := q) (gix_lt h1 h6 hpq hq) t (gramF c F) (gramF_len hF) (fun F hF => ⟨gramF_len (h F (List.mem_cons_of_mem _ hF)), gramF_get (h F (List.mem_cons_of_mem _ hF)) hpq hq⟩)
    refine ⟨k1, ?_⟩
    show ((t.map (gramF c)).foldl addL (gramF c F)).getD _ 0 = Gx F.xs c p q + gsum t c p q
    rw [k2, gramF_get hF hpq hq]
theorem nodup_len : ∀ (n : Nat) (l : List Int), l.Nodup → (∀ k ∈ l, 0 ≤ k ∧ k < n) → l.length ≤ n
  | 0, l, _, h => by
    cases l with
    | nil => exact Nat.le_refl _
    | cons k t => have := h k (List.mem_cons_self ..); omega
  | n + 1, l, hd, h => by
    have h2 := nodup_len n (l.erase n) (hd.erase _) (fun k hk => by
      obtain ⟨k1, k2⟩ := hd.mem_erase_iff.1 hk
      have := h k k2
      omega)
    have h3 : l.length - 1 ≤ (l.erase (n : Int)).length := by
      by_cases c : (n : Int) ∈ l
      · rw [List.length_erase_of_mem c]; exact Nat.le_refl _
      · rw [List.erase_of_not_mem c]; omega
    omega
theorem order_nodup {l : List Int} {n : Int} (h : inP l n = true) : (orderD l).Nodup := by
  have key : ∀ i, i ≤ l.length → (orderD (l.take i)).Nodup := by
    intro i
    induction i with
    | zero => intro _; simp [orderD]
    | succ i ih =>
      intro hi
      rw [order_snoc (by omega)]
      by_cases c : 0 ≤ l.getD i 0
      · rw [if_pos c]
        refine List.nodup_append.2 ⟨ih (by omega), by simp, fun a ha b hb => ?_⟩
        obtain rfl := List.mem_singleton.1 hb
        rintro rfl
        unfold inP at h
        have := List.all_eq_true.1 h i (List.mem_range.2 (by omega))
        simp only [Bool.not_eq_true', Bool.or_eq_false_iff, Bool.and_eq_false_iff, decide_eq_false_iff_not] at this
        rcases this.2 with h2 | h2
        · exact h2 c
        · have h3 : l.getD i 0 ∈ l.take i := (List.mem_filter.1 ha).1
          rw [List.contains_iff_mem.2 h3] at h2
          cases h2
      · rw [if_neg c, List.append_nil]; exact ih (by omega)
  have := key l.length (Nat.le_refl _)
  rwa [List.take_length] at this
theorem run_few {l : List Int} {Fs : List FacD} {G : FacD} (h8 : Fs.length ≤ 8) (h : runD l Fs = (G, 0)) : (orderD l).Nodup ∧ (orderD l).length ≤ 8 := by
  unfold runD at h
  by_cases c : pcheckD l Fs.length ≠ 0
  · rw [if_pos c] at h; cases (Prod.mk.inj h).2
  · obtain ⟨h1, _⟩ := pcheck_yes (show pcheckD l Fs.length = 0 by simpa using c)
    have hd := order_nodup h1
    have := nodup_len Fs.length (orderD l) hd (fun k hk => by
      obtain ⟨k1, k2⟩ := List.mem_filter.1 hk
      have := of_decide_eq_true k2
      exact (plan_in h1 k k1).resolve_left (by omega))
    exact ⟨hd, by omega⟩
/-- how many rotations -/
theorem tree_few {n d : Nat} (h : n ≤ 2 ^ d) (h8 : n ≤ 8) : 3 * (n - 1) ≤ 7 * d := by
  by_cases c : d < 3
  · have : d = 0 ∨ d = 1 ∨ d = 2 := by omega
    rcases this with rfl | rfl | rfl <;> omega
  · omega
/-- a tree, whole -/
theorem tree_end {G : FacD} {ls : List FacD} (h : Mrg G ls) (h8 : ls.length ≤ 8) : ∃ c k : Nat, 1 ≤ c ∧ c ≤ 6 ∧ G = ⟨(c : Int), G.xs, rowsS ls, (k : Int)⟩ ∧ k ≤ 4096 ∧ checkP (c : Int) G.xs (rowsS ls) (k : Int) = true ∧ TriOk c G.xs ∧ (∀ F ∈ ls, F.cols = (c : Int) ∧ TriOk c F.xs ∧ checkP (c : Int) F.xs F.rws F.trn = true) ∧ 3 * ((ls.length - 1) * tsz c) ≤ 7 * k := by
  obtain ⟨g1, g2, g3, g4, g5, d, g6, g7⟩ := mrg_facts h
  obtain ⟨r0, r1, t0, t1⟩ := ok_rows g1
  obtain ⟨gc, gx, gr, gt⟩ := G
  dsimp only at g2 g3 g5 g7 r0 r1 t0 t1
  obtain ⟨c, rfl⟩ := Int.eq_ofNat_of_zero_le (show 0 ≤ gc by have := ok_cols g1; dsimp only at this; omega)
  obtain ⟨k, rfl⟩ := Int.eq_ofNat_of_zero_le t0
  subst g5
  have hck : checkP (c : Int) gx (rowsS ls) (k : Int) = true := g1
  have hT := tri_ok hck (fun a l _ _ => g2 _)
  refine ⟨c, k, hT.h1, hT.h6, rfl, by omega, hck, hT, fun F hF => ?_, ?_⟩
  · obtain ⟨f1, f2, f3⟩ := g3 F hF
    have hf : checkP (c : Int) F.xs F.rws F.trn = true := by rw [← f2]; exact f1
    exact ⟨f2, tri_ok hf (fun a l _ _ => f3 _), hf⟩
  · have e1 := tree_few g6 h8
    have h1 := hT.h1
    have h6 := hT.h6
    have e2 : d * tsz c ≤ k := by
      unfold sizeI at g7
      rw [if_pos ⟨by omega, by omega⟩, Int.toNat_natCast] at g7
      exact_mod_cast g7
    have e3 := Nat.mul_le_mul_right (tsz c) e1
    rw [Nat.mul_assoc, Nat.mul_assoc] at e3
    omega
theorem not_one {n c : Nat} (h1 : 1 ≤ c) (h6 : c ≤ 6) : n * tsz c ≠ 1 := by
  have hb := tsz_bounds h1 h6
  intro h
  rcases Nat.eq_zero_or_pos n with h0 | h0
  · subst h0; omega
  · have := Nat.mul_le_mul_right (tsz c) h0
    omega
/-- THE LAW of PlanNear -/
theorem plan_near {c k K : Nat} {G : FacD} {ls : List FacD} (h : Mrg G ls) (h1 : 1 ≤ c) (h6 : c ≤ 6) (h8 : ls.length ≤ 8) (hc : G.cols = (c : Int)) (hT : TriOk c G.xs) (hF : ∀ F ∈ ls, TriOk c F.xs) (hK : K = (ls.length - 1) * tsz c) (h3 : 3 * K ≤ 7 * k) {us : List Rat} {A : Nat} (hA : A ≤ 860) (hN : Norms c A (sumL (ls.map (gramF c))) us) :
    ∀ i j, i ≤ j → j ≤ c → absR ((gramF c G).getD (gix c i j) 0 - (sumL (ls.map (gramF c))).getD (gix c i j) 0) ≤ bndQ (us.getD i 0) (us.getD j 0) k := by
  intro i j hij hj
  have hne : ls ≠ [] := by
    obtain ⟨_, _, _, g4, _⟩ := mrg_facts h
    intro e; subst e; exact absurd g4 (by decide)
  have hb := tsz_bounds h1 h6
  have hK4 : K ≤ 4096 := by
    have := Nat.mul_le_mul (show ls.length - 1 ≤ 7 by omega) hb.2
    omega
  have hK1 : K ≠ 1 := by rw [hK]; exact not_one h1 h6
  have sq : ∀ l, l ≤ c → gsum ls c l l ≤ us.getD l 0 * us.getD l 0 := by
    intro l hl
    have := hN.sq l hl
    rwa [(sumL_get h1 h6 hne hF (Nat.le_refl l) hl).2] at this
  have key := mrg_gram (M := fun l => MN (us.getD l 0) K) (fun l hl => MN_nn (hN.nn l hl) K) (fun l hl => MN_le (hN.nn l hl) (hN.le l hl) hA hK4) h hc (fun l hl => by
    rw [← hK]; exact MN_sq (hN.nn l hl) (sq l hl) hK4 hK1) i j (by omega) hj
  rw [gramF_get hT hij hj, (sumL_get h1 h6 hne hF hij hj).2]
  rw [← hK] at key
  exact bd_absR.1 (key.mono (bnd_tree (hN.nn i (by omega)) (hN.nn j hj) hK4 h3))
theorem gsum_perm {a b : List FacD} (h : a.Perm b) (c p q : Nat) : gsum a c p q = gsum b c p q := by
  induction h with
  | nil => rfl
  | cons x _ ih => show _ + gsum _ c p q = _ + gsum _ c p q; rw [ih]
  | swap x y l => show _ + (_ + gsum l c p q) = _ + (_ + gsum l c p q); grind
  | trans _ _ i1 i2 => rw [i1, i2]
theorem rowsS_perm {a b : List FacD} (h : a.Perm b) : rowsS a = rowsS b := by
  induction h with
  | nil => rfl
  | cons x _ ih => show _ + rowsS _ = _ + rowsS _; rw [ih]
  | swap x y l => show _ + (_ + rowsS l) = _ + (_ + rowsS l); omega
  | trans _ _ i1 i2 => rw [i1, i2]
theorem perm_of {a b : List Int} (hd : a.Nodup) (hs : ∀ x ∈ a, x ∈ b) (hl : a.length = b.length) : a.Perm b := by
  induction a generalizing b with
  | nil =>
    obtain rfl := List.length_eq_zero_iff.1 hl.symm
    exact List.Perm.nil
  | cons x a ih =>
    obtain ⟨h1, h2⟩ := List.nodup_cons.1 hd
    have hx := hs x (List.mem_cons_self ..)
    refine List.Perm.trans (List.Perm.cons x (ih (b := b.erase x) h2 (fun y hy => ?_) ?_)) (List.perm_cons_erase hx).symm
    · refine (List.mem_erase_of_ne ?_).2 (hs y (List.mem_cons_of_mem _ hy))
      rintro rfl; exact h1 hy
    · rw [List.length_erase_of_mem hx]
      rw [List.length_cons] at hl
      omega
/-- THE LAW of PlanTrees -/
theorem plan_trees {c k k' K : Nat} {G G' : FacD} {ls ls' : List FacD} (h : Mrg G ls) (h' : Mrg G' ls') (hp : ls.Perm ls') (h1 : 1 ≤ c) (h6 : c ≤ 6) (h8 : ls.length ≤ 8) (hc : G.cols = (c : Int)) (hc' : G'.cols = (c : Int)) (hT : TriOk c G.xs) (hT' : TriOk c G'.xs) (hF : ∀ F ∈ ls, TriOk c F.xs) (hK : K = (ls.length - 1) * tsz c) (h3 : 3 * K ≤ 7 * k) (h3' : 3 * K ≤ 7 * k') {us : List Rat} {A : Nat} (hA : A ≤ 860) (hN : Norms c A (sumL (ls.map (gramF c))) us) :
    ∀ i j, i ≤ j → j ≤ c → absR ((gramF c G').getD (gix c i j) 0 - (gramF c G).getD (gix c i j) 0) ≤ bndQ (us.getD i 0) (us.getD j 0) (k + k') := by
  intro i j hij hj
  have hne : ls ≠ [] := by
    obtain ⟨_, _, _, g4, _⟩ := mrg_facts h
    intro e; subst e; exact absurd g4 (by decide)
  have hb := tsz_bounds h1 h6
  have hlen := hp.length_eq
  have hK4 : K + K ≤ 4096 := by
    have := Nat.mul_le_mul (show ls.length - 1 ≤ 7 by omega) hb.2
    omega
  have hK1 : K + K ≠ 1 := by omega
  have hKr : ((K + K : Nat) : Rat) = (K : Rat) + (K : Rat) := by norm_cast
  have sq : ∀ l, l ≤ c → gsum ls c l l ≤ us.getD l 0 * us.getD l 0 := by
    intro l hl
    have := hN.sq l hl
    rwa [(sumL_get h1 h6 hne hF (Nat.le_refl l) hl).2] at this
  have hS : ∀ l, l ≤ c → gsum ls c l l + (K : Rat) * EE (MN (us.getD l 0) (K + K)) (MN (us.getD l 0) (K + K)) ≤ MN (us.getD l 0) (K + K) * MN (us.getD l 0) (K + K) := by
    intro l hl
    have x1 := MN_sq (hN.nn l hl) (sq l hl) hK4 hK1
    have x2 := rmul_nn (ratn_nn K) (EE_nn (MN_nn (hN.nn l hl) (K + K)) (MN_nn (hN.nn l hl) (K + K)))
    rw [hKr] at x1
    grind
  have key := mrg_gram (M := fun l => MN (us.getD l 0) (K + K)) (fun l hl => MN_nn (hN.nn l hl) _) (fun l hl => MN_le (hN.nn l hl) (hN.le l hl) hA hK4) h hc (fun l hl => by
    rw [← hK]; exact hS l hl) i j (by omega) hj
  have key' := mrg_gram (M := fun l => MN (us.getD l 0) (K + K)) (fun l hl => MN_nn (hN.nn l hl) _) (fun l hl => MN_le (hN.nn l hl) (hN.le l hl) hA hK4) h' hc' (fun l hl => by
    rw [← hlen, ← hK, ← gsum_perm hp]; exact hS l hl) i j (by omega) hj
  rw [gramF_get hT hij hj, gramF_get hT' hij hj]
  rw [← hK] at key
  rw [← hlen, ← hK, ← gsum_perm hp] at key'
  refine bd_absR.1 (Bd.mono (e := ((K + K : Nat) : Rat) * EE (MN (us.getD i 0) (K + K)) (MN (us.getD j 0) (K + K))) ?_ (bnd_tree (hN.nn i (by omega)) (hN.nn j hj) hK4 (by omega)))
  rw [hKr]
  unfold Bd at key key' ⊢
  grind
end Go.Proofs.YtnboegeljaplbaaGreat
namespace Go.Proofs.YtnboegeljaplbaaGreat
open Go.RowKit Lv Go.Shelf
attribute [local go_sem high] run_maxI

attribute [local go_sem] Oper.semAt_some drewN_alloc drewN_setCell

/-- a plan's leaf -/
structure LeafOk (c : Nat) (F : FacD) : Prop where
  cols : F.cols = (c : Int)
  tri : TriOk c F.xs
  chk : checkP (c : Int) F.xs F.rws F.trn = true
def leavesL (os : List Int) (Fs : List FacD) : List FacD := os.map fun k => Fs.getD k.toNat fac0
theorem sumL_snoc {gs : List (List Rat)} {g : List Rat} (h : gs ≠ []) : sumL (gs ++ [g]) = addL (sumL gs) g := by
  cases gs with
  | nil => exact absurd rfl h
  | cons x t => show (t ++ [g]).foldl addL x = _; rw [List.foldl_append]; rfl
/-- its length; none of it is great -/
def SumOk (c s : Nat) (ls : List FacD) : Prop := (sumL (ls.map (gramF c))).length = s ∧ ∀ j, j < s → Bd ((sumL (ls.map (gramF c))).getD j 0) (p2 ((860 : Nat) : Int))
/-- what it hands back -/
def SumE (c s : Nat) (ls : List FacD) (e : Ending) (w' : World) : Prop := ∃ va vc, e = .returned (.slice va s vc) ∧ DqL w' (.slice va s vc) (sumL (ls.map (gramF c))) 2148 ∧ SumOk c s ls
/-- behind i shards -/
def SumAt (wr : World) (s c i : Nat) (v : Value) (ls : List FacD) : Prop := (i = 0 ∧ v = .slice none 0 0) ∨ (0 < i ∧ (sumL (ls.map (gramF c))).length = s ∧ (∀ j, j < s → Bd ((sumL (ls.map (gramF c))).getD j 0) (p2 ((848 + i : Nat) : Int))) ∧ DqL wr v (sumL (ls.map (gramF c))) 2148)
theorem leaves_take {os : List Int} {Fs : List FacD} {i : Nat} (hi : i < os.length) : leavesL (os.take (i + 1)) Fs = leavesL (os.take i) Fs ++ [Fs.getD (os.getD i 0).toNat fac0] := by
  unfold leavesL
  rw [take_snoc hi, List.map_append]; rfl

set_option maxRecDepth 100000 in
set_option maxHeartbeats 4000000 in
theorem sum14_calls (c s : Nat) (os : List Int) (Fs : List FacD) (a t : Option Addr) (n cap tn tc : Nat) (w : World) (hl : LI w (.slice a n cap) os) (hs : Fcs w (.slice t tn tc) Fs) (h1 : 1 ≤ c) (h6 : c ≤ 6) (hz : tsz c = s) (h0 : 0 < n) (h8 : n ≤ 8) (hin : ∀ k ∈ os, 0 ≤ k ∧ k < Fs.length) (hF : ∀ F ∈ leavesL os Fs, LeafOk c F) :
    Calls Tryz.prog 9 #[.slice a n cap, .slice t tn tc] w fun e w' => SumE c s (leavesL os Fs) e w' ∧ Below w.heap.size w w' := by
  obtain ⟨l1, l2, l3⟩ := hl.len
  obtain ⟨s1, s2, s3⟩ := hs.len
  have HI := Lib.hid (show ∀ i, i < n → ∃ m : Nat, os.getD i 0 = (m : Int) ∧ m < tn ∧ leavesL (os.take (i + 1)) Fs = leavesL (os.take i) Fs ++ [Fs.getD m fac0] ∧ LeafOk c (Fs.getD m fac0) from fun i hi => by
    have hm : os.getD i 0 ∈ os := by
      rw [List.getD_eq_getElem?_getD, List.getElem?_eq_getElem (by omega)]
      exact List.getElem_mem _
    obtain ⟨x1, x2⟩ := hin _ hm
    obtain ⟨m, hm2⟩ := Int.eq_ofNat_of_zero_le x1
    have hm2 : os.getD i 0 = (m : Int) := hm2
    have e := leaves_take (os := os) (Fs := Fs) (i := i) (by omega)
    rw [hm2, Int.toNat_natCast] at e
    refine ⟨m, hm2, by omega, e, hF _ ?_⟩
    unfold leavesL
    exact List.mem_map.2 ⟨_, hm, by rw [hm2, Int.toNat_natCast]⟩)
  have htn : 0 < tn := by
    obtain ⟨m, _, h, _⟩ := HI.out 0 h0
    omega
  obtain ⟨ob, oo, rfl, hoc⟩ := hl.at h0
  obtain ⟨tb, to', rfl, htc⟩ := hs.at htn
  have HO := Lib.hid hoc
  have HT := Lib.hid htc
  have hlen : (os.take n) = os := List.take_of_length_le (by omega)
  have HLN := Lib.hid hlen
  have hsb := tsz_bounds h1 h6
  rw [hz] at hsb
  have HZ := Lib.hid hz
  clear hl hs hin hF hoc htc hlen l1 s1 hz
  go_enter Tryz.func9, Tryz.ntmps9
  go_wp2
  go_loopw [5, 6] (fun s5 s6 wr => ∃ i : Nat, s6 = .int .i64 (i : Int) ∧ i ≤ n ∧ Hid (SumAt wr s c i s5 (leavesL (os.take i) Fs) ∧ Below w.heap.size w wr)) (fun _ s6 _ => n - (intOf s6).toNat)
  case atStart => exact ⟨0, rfl, Nat.zero_le _, .inl ⟨rfl, rfl⟩, Below.refl _ _⟩
  case round =>
    obtain ⟨i, rfl, hi, HR⟩ := hrel
    by_cases hlt : i < n
    · have hii : (i : Int) < (n : Int) := by omega
      obtain ⟨m, hm, hmt, hle, hok⟩ := HI.out i hlt
      have ho := HO.out i hlt
      rw [hm] at ho
      obtain ⟨b, bn, bc, k1, k2, k3, k4, k5⟩ := HT.out m hmt
      have HLE := Lib.hid hle
      have HOK := Lib.hid hok
      rw [hok.cols] at k1
      have HK5 := Lib.hid (k5.below HR.out.2)
      have hm0 : ¬ (m : Int) < 0 := by omega
      have hm1 : ¬ (tn : Int) ≤ (m : Int) := by omega
      have hmi : (m : Int) < (tn : Int) := by omega
      clear hle hok k5 hm
      generalize Fs.getD m fac0 = F at *
      have LF := gramL_ok (c := c) (A := 420) _ HOK.out.tri.lines
      rw [linesD_len, HZ.out] at LF
      have HLF := Lib.hid LF
      have GF := Lib.hid (fun W hW => gfactor_calls c 420 F.rws F.trn b bn bc F.xs W hW HOK.out.chk HOK.out.tri.lines (by omega))
      have KP := Lib.hid (show ∀ W, Below w.heap.size w W → W.cell? ⟨ob, oo + i, none⟩ = some (.int .i64 (m : Int)) ∧ W.cell? ⟨tb, to' + m * 4, none⟩ = some (.int .i64 (c : Int)) ∧ W.cell? ⟨tb, to' + m * 4 + 1, none⟩ = some (.slice b bn bc) ∧ W.cell? ⟨tb, to' + m * 4 + 2, none⟩ = some (.int .i64 F.rws) ∧ W.cell? ⟨tb, to' + m * 4 + 3, none⟩ = some (.int .i64 F.trn) from fun W hb => ⟨(hb.cell (p := ⟨ob, oo + i, none⟩) (cell_lt ho)).trans ho, (hb.cell (p := ⟨tb, to' + m * 4, none⟩) (cell_lt k1)).trans k1, (hb.cell (p := ⟨tb, to' + m * 4 + 1, none⟩) (cell_lt k2)).trans k2, (hb.cell (p := ⟨tb, to' + m * 4 + 2, none⟩) (cell_lt k3)).trans k3, (hb.cell (p := ⟨tb, to' + m * 4 + 3, none⟩) (cell_lt k4)).trans k4⟩)
      clear ho k1 k2 k3 k4 LF
      obtain ⟨o0, k1, k2, k3, k4⟩ := KP.out _ HR.out.2
      by_cases hi0 : i = 0
      · subst hi0
        simp only [Nat.add_zero] at o0
        go_wp2_with (go_at_call 11; go_must (refine (GF.out _ HK5.out).mono ?_; rintro e w2 ⟨⟨v, rfl, hv⟩, hb⟩; have Q2 := Lib.hid hv.dql; have B2 := Lib.hid (HR.out.2.trans (hb.mono HR.out.2.size)); clear hv hb o0 k1 k2 k3 k4))
        go_roundw
        case rel =>
          refine ⟨1, by go_num, by omega, .inr ⟨by omega, ?_⟩, B2.out⟩
          rw [HLE.out]
          show (gramL c (linesD F.xs c)).length = s ∧ (∀ j, j < s → Bd ((gramL c (linesD F.xs c)).getD j 0) _) ∧ DqL _ _ (gramL c (linesD F.xs c)) _
          exact ⟨HLF.out.1, fun j hj => bd_p2_mono (HLF.out.2 j hj) (by omega), Q2.out⟩
        case measure => simp [intOf]; omega
      · have hne : ((i : Int) == 0) = false := by simp; omega
        obtain ⟨_, qlen, qb, qd⟩ : 0 < i ∧ (sumL ((leavesL (os.take i) Fs).map (gramF c))).length = s ∧ (∀ j, j < s → Bd ((sumL ((leavesL (os.take i) Fs).map (gramF c))).getD j 0) (p2 ((848 + i : Nat) : Int))) ∧ DqL wr u5 (sumL ((leavesL (os.take i) Fs).map (gramF c))) 2148 := by
          rcases HR.out.1 with ⟨h, _⟩ | h
          · exact absurd h hi0
          · exact h
        have hnx : sumL ((leavesL (os.take (i + 1)) Fs).map (gramF c)) = addL (sumL ((leavesL (os.take i) Fs).map (gramF c))) (gramL c (linesD F.xs c)) := by
          rw [HLE.out, List.map_append]
          refine sumL_snoc (fun e => ?_)
          rw [e] at qlen
          have : (0 : Nat) = s := qlen
          omega
        have HNX := Lib.hid hnx
        obtain ⟨qa, qc, hv⟩ := qd.form
        rw [qlen] at hv
        subst hv
        have QL := Lib.hid qlen
        have QB := Lib.hid qb
        have QD := Lib.hid qd
        have HBW := Lib.hid HR.out.2
        clear qlen qb qd hnx HR
        generalize sumL ((leavesL (os.take i) Fs).map (gramF c)) = qs at *
        generalize gramL c (linesD F.xs c) = gs at *
        have PA := Lib.hid (show ∀ j, j < s → Bd (qs.getD j 0) (p2 ((848 + i : Nat) : Int)) from QB.out)
        have PB := Lib.hid (show ∀ j, j < s → Bd (gs.getD j 0) (p2 ((848 + i : Nat) : Int)) from fun j hj => bd_p2_mono (HLF.out.2 j hj) (by omega))
        go_wp2_with (first
          | (go_at_call 11; go_must (refine (GF.out _ HK5.out).mono ?_; rintro e w2 ⟨⟨v, rfl, hv⟩, hb⟩; obtain ⟨ga, gc, hpv, _, _⟩ := hv.form; rw [HLF.out.1] at hpv; subst hpv; have G2 := Lib.hid hv.dql; have Q2 := Lib.hid (QD.out.below hb); have B2 := Lib.hid (HBW.out.trans (hb.mono HBW.out.size)); clear hv hb o0 k1 k2 k3 k4))
          | (go_at_call 31; go_must (refine (gadd_calls qa ga s qc gc (848 + i) 2148 qs gs w2 Q2.out G2.out (by omega) PA.out PB.out (by omega)).mono ?_; rintro e w3 ⟨⟨v, rfl, hv⟩, hb⟩; have Q3 := Lib.hid hv.dql; have B3 := Lib.hid (B2.out.trans (hb.mono B2.out.size)); clear hv hb)))
        go_roundw
        case rel =>
          refine ⟨i + 1, by go_num, by omega, .inr ⟨by omega, ?_⟩, B3.out⟩
          rw [HNX.out]
          refine ⟨addL_len QL.out HLF.out.1, fun j hj => ?_, Q3.out⟩
          rw [addL_get QL.out HLF.out.1 hj]
          exact bd_p2_mono (bd_add_p2 (PA.out j hj) (PB.out j hj)) (by omega)
        case measure => simp [intOf]; omega
    · obtain rfl : n = i := by omega
      have hii : ¬ (n : Int) < (n : Int) := by omega
      obtain ⟨_, qlen, qb, qd⟩ : 0 < n ∧ (sumL ((leavesL (os.take n) Fs).map (gramF c))).length = s ∧ (∀ j, j < s → Bd ((sumL ((leavesL (os.take n) Fs).map (gramF c))).getD j 0) (p2 ((848 + n : Nat) : Int))) ∧ DqL wr u5 (sumL ((leavesL (os.take n) Fs).map (gramF c))) 2148 := by
        rcases HR.out.1 with ⟨h, _⟩ | h
        · omega
        · exact h
      rw [HLN.out] at qlen qb qd
      obtain ⟨qa, qc, hv⟩ := qd.form
      rw [qlen] at hv
      subst hv
      have hok : SumOk c s (leavesL os Fs) := ⟨qlen, fun j hj => bd_p2_mono (qb j hj) (by omega)⟩
      clear qlen qb
      go_wp2
      exact bodyPost_ret (v := .slice qa s qc) (by simp [results, Tryz.results9, go_sem]) rfl ⟨⟨qa, qc, rfl, qd, hok⟩, HR.out.2⟩
end Go.Proofs.YtnboegeljaplbaaGreat
