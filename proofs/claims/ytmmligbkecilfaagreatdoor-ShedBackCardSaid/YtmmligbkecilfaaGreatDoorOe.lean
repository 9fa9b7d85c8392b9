/- Rows absorbed part by part come to the same; parts of a list of rows in memory; the reference's Few of layer 8. What stands on the diagonal only grows: the plain laws of AbsorbMay and MergeMay. -/
import Derived.Test.YtmmligbkecilfaaGreatDoorSm
import Derived.Test.YtmmligbkecilfaaGreatDoorOd
namespace Go.Proofs.YtmmligbkecilfaaGreatDoor
open Go.RowKit Lv Go.Shelf
open Ieee (double Format Datum Toward)
attribute [local go_sem] Oper.semAt_some

theorem checkP_rt {c : Int} {xs : List (Option Nat)} {r t r' t' : Int} (h : checkP c xs r t = true) (h1 : 0 ≤ r') (h2 : r' ≤ 200) (h3 : 0 ≤ t') (h4 : t' ≤ 4096) : checkP c xs r' t' = true := by
  unfold checkP at h ⊢
  simp only [Bool.and_eq_true] at h ⊢
  obtain ⟨⟨⟨⟨⟨⟨⟨a1, a2⟩, a3⟩, _⟩, _⟩, _⟩, _⟩, a8⟩ := h
  exact ⟨⟨⟨⟨⟨⟨⟨a1, a2⟩, a3⟩, decide_eq_true h1⟩, decide_eq_true h2⟩, decide_eq_true h3⟩, decide_eq_true h4⟩, a8⟩
theorem rowD_zero {F : FacD} {ls : List (Option Nat)} {Y : Option Nat} (h : (rowD F ls Y).2 = 0) : earlyD F ls Y = 0 ∧ fullD F = false ∧ (lineD F (ls ++ [Y]) 0).2 = true := by
  unfold rowD at h
  by_cases h1 : earlyD F ls Y ≠ 0
  · rw [if_pos h1] at h; exact absurd h h1
  · rw [if_neg h1] at h
    cases h2 : fullD F with
    | true => rw [h2, if_pos rfl] at h; cases h
    | false =>
      rw [h2, if_neg (by decide)] at h
      cases h3 : (lineD F (ls ++ [Y]) 0).2 with
      | false => rw [h3, if_pos rfl] at h; cases h
      | true => exact ⟨by simpa using h1, rfl, rfl⟩
theorem rowD_ok {F : FacD} {ls : List (Option Nat)} {Y : Option Nat} (h : (rowD F ls Y).2 = 0) : (rowD F ls Y).1.ok = true ∧ (rowD F ls Y).1.cols = F.cols ∧ (rowD F ls Y).1.rws = F.rws + 1 ∧ (rowD F ls Y).1.trn = F.trn + (F.cols + 1) := by
  obtain ⟨h1, h2, h3⟩ := rowD_zero h
  obtain ⟨hok, _⟩ := early_zero h1
  obtain ⟨k1, k2, k3, k4, _⟩ := lineD_ok h3
  obtain ⟨r0, r1, t0, t1⟩ := ok_rows hok
  obtain ⟨c1, c6⟩ := ok_cols hok
  unfold fullD at h2
  rw [Bool.or_eq_false_iff] at h2
  have e1 : ¬ F.rws = 200 := by simpa using h2.1
  have e2 : ¬ 4096 < F.trn + (F.cols + 1) := by simpa using h2.2
  rw [rowD_line h1 (by unfold fullD; rw [h2.1, h2.2]; rfl), h3, if_neg (by decide)]
  refine ⟨?_, k2, rfl, rfl⟩
  exact checkP_rt k1 (by dsimp only; omega) (by dsimp only; omega) (by dsimp only; omega) (by dsimp only; omega)

theorem all_part : ∀ (xs ys : List RowD) (k : Nat) (F : FacD) (G : FacD) (n : Int), allLoop k F (xs ++ ys) = (G, n, 0) → F.ok = true →
    ∃ P : FacD, allLoop k F xs = (P, ((k + xs.length : Nat) : Int), 0) ∧ allLoop (k + xs.length) P ys = (G, n, 0) ∧ P.ok = true
  | [], ys, k, F, G, n, h, hok => ⟨F, rfl, h, hok⟩
  | r :: xs, ys, k, F, G, n, h, hok => by
    rw [List.cons_append] at h
    unfold allLoop at h
    by_cases h2 : (rowD F r.1 r.2).2 ≠ 0
    · rw [if_pos h2] at h
      simp only [Prod.mk.injEq] at h
      exact absurd h.2.2 h2
    · rw [if_neg h2] at h
      have h3 : (rowD F r.1 r.2).2 = 0 := by simpa using h2
      obtain ⟨P, p1, p2, p3⟩ := all_part xs ys (k + 1) _ G n h (rowD_ok h3).1
      refine ⟨P, ?_, ?_, p3⟩
      · unfold allLoop
        rw [if_neg h2, p1]
        congr 2
        simp only [List.length_cons]
        omega
      · rw [List.length_cons, show k + (xs.length + 1) = k + 1 + xs.length by omega]
        exact p2
theorem all_shift : ∀ (ys : List RowD) (k j : Nat) (F G : FacD) (n : Int), allLoop k F ys = (G, n, 0) → n = ((k + ys.length : Nat) : Int) ∧ allLoop j F ys = (G, ((j + ys.length : Nat) : Int), 0)
  | [], k, j, F, G, n, h => by
    unfold allLoop at h ⊢
    simp only [Prod.mk.injEq] at h
    obtain ⟨rfl, rfl, _⟩ := h
    exact ⟨rfl, rfl⟩
  | r :: ys, k, j, F, G, n, h => by
    unfold allLoop at h ⊢
    by_cases h2 : (rowD F r.1 r.2).2 ≠ 0
    · rw [if_pos h2] at h
      simp only [Prod.mk.injEq] at h
      exact absurd h.2.2 h2
    · rw [if_neg h2] at h ⊢
      obtain ⟨e1, e2⟩ := all_shift ys (k + 1) (j + 1) _ G n h
      refine ⟨by rw [e1, List.length_cons]; congr 1; omega, ?_⟩
      rw [e2, List.length_cons]
      congr 2
      simp only [Int.natCast_inj]
      omega
/-- THE PLAIN LAW of All: part by part -/
theorem all_cut {F G : FacD} {rs : List RowD} {n : Int} (h : allD F rs = (G, n, 0)) (k : Nat) (hk : k ≤ rs.length) :
    ∃ P : FacD, allD F (rs.take k) = (P, (k : Int), 0) ∧ allD P (rs.drop k) = (G, ((rs.length - k : Nat) : Int), 0) := by
  unfold allD at h
  by_cases h1 : F.ok = false
  · rw [if_pos h1] at h
    simp only [Prod.mk.injEq] at h
    exact absurd h.2.2 (by decide)
  · rw [if_neg h1] at h
    have hok : F.ok = true := by simpa using h1
    rw [← List.take_append_drop k rs] at h
    obtain ⟨P, p1, p2, p3⟩ := all_part _ _ _ _ _ _ h hok
    rw [Nat.zero_add, List.length_take, Nat.min_eq_left hk] at p1 p2
    refine ⟨P, by unfold allD; rw [if_neg h1]; exact p1, ?_⟩
    obtain ⟨_, e2⟩ := all_shift _ _ 0 _ _ _ p2
    unfold allD
    rw [if_neg (by rw [p3]; decide), e2, Nat.zero_add, List.length_drop]

theorem Rws.take {w : World} {t : Option Addr} {n c : Nat} {rs : List RowD} (h : Rws w (.slice t n c) rs) (k : Nat) (hk : k ≤ n) : Rws w (.slice t k c) (rs.take k) := by
  obtain ⟨a, cap, hv, h1, h2, h3⟩ := h
  simp only [Value.slice.injEq] at hv
  obtain ⟨rfl, rfl, rfl⟩ := hv
  refine ⟨t, c, by rw [List.length_take, Nat.min_eq_left hk], by rw [List.length_take]; omega, h2, ?_⟩
  rw [List.length_take, Nat.min_eq_left hk]
  by_cases h0 : k = 0
  · exact .inl h0
  · rcases h3 with h3 | ⟨blk, off, e, hc⟩
    · omega
    · refine .inr ⟨blk, off, e, fun i hi => ?_⟩
      have := hc i (by omega)
      rw [show (rs.take k).getD i ([], none) = rs.getD i ([], none) by rw [List.getD_eq_getElem?_getD, List.getElem?_take_of_lt hi, List.getD_eq_getElem?_getD]]
      exact this
theorem Rws.drop {w : World} {blk off n c : Nat} {a' : Option Addr} {rs : List RowD} (h : Rws w (.slice (some ⟨blk, off, none⟩) n c) rs) (k : Nat) (hk : k ≤ n) (ha : k = n ∨ a' = some ⟨blk, off + k * 2, none⟩) : Rws w (.slice a' (n - k) (c - k)) (rs.drop k) := by
  obtain ⟨a, cap, hv, h1, h2, h3⟩ := h
  simp only [Value.slice.injEq] at hv
  obtain ⟨rfl, rfl, rfl⟩ := hv
  refine ⟨a', c - k, by rw [List.length_drop], by rw [List.length_drop]; omega, by omega, ?_⟩
  rw [List.length_drop]
  by_cases h0 : rs.length - k = 0
  · exact .inl h0
  · rcases ha with ha | rfl
    · omega
    · rcases h3 with h3 | ⟨b1, o1, e, hc⟩
      · omega
      · simp only [Option.some.injEq, Addr.mk.injEq, and_true] at e
        obtain ⟨rfl, rfl⟩ := e
        refine .inr ⟨blk, off + k * 2, rfl, fun i hi => ?_⟩
        have := hc (k + i) (by omega)
        rw [show (rs.drop k).getD i ([], none) = rs.getD (k + i) ([], none) by rw [List.getD_eq_getElem?_getD, List.getElem?_drop, List.getD_eq_getElem?_getD]]
        rw [show off + (k + i) * 2 = off + k * 2 + i * 2 by omega] at this
        exact this

/-- are there few rows, with few entries? -/
def fewR (rs : List RowD) (k : Nat) : Bool := decide (rs.length ≤ k) && !rs.any fun r => decide (12 < r.1.length)
theorem any_stepR {p : RowD → Bool} {rs : List RowD} {k : Nat} (hk : k < rs.length) (h : (rs.take k).any p = false) : (rs.take (k + 1)).any p = p (rs.getD k ([], none)) := by
  rw [List.take_succ_eq_append_getElem hk, List.any_append, h, Bool.false_or]
  simp [List.getD_eq_getElem?_getD, hk]
theorem any_of_takeR {p : RowD → Bool} {rs : List RowD} {k : Nat} (h : (rs.take k).any p = true) : rs.any p = true := by
  rw [List.any_eq_true] at h ⊢
  obtain ⟨x, hx, hp⟩ := h
  exact ⟨x, List.mem_of_mem_take hx, hp⟩
end Go.Proofs.YtmmligbkecilfaaGreatDoor
namespace Go.Proofs.YtmmligbkecilfaaGreatDoor
open Lv
open Ieee

/-- a float's word -/
def Wd (x : Option Nat) : Prop := ∀ b, x = some b → b < 18446744073709551616
theorem f2_wd {op : Nat → Nat → Option Nat} (h : ∀ a b r, op a b = some r → W64 r) (x y : Option Nat) : Wd (f2 op x y) := by
  intro b hb
  cases x with
  | none => cases hb
  | some x =>
    cases y with
    | none => cases hb
    | some y => exact h x y b hb
theorem fadd_w (x y : Option Nat) : Wd (fadd x y) := f2_wd (fun _ _ _ h => add_w64 h) x y
theorem fsub_w (x y : Option Nat) : Wd (fsub x y) := f2_wd (fun _ _ _ h => sub_w64 h) x y
theorem fmul_w (x y : Option Nat) : Wd (fmul x y) := f2_wd (fun _ _ _ h => mul_w64 h) x y
theorem ofF_w {f g cc ss r : Option Nat} (h : ofF f g = some (cc, ss, r)) : Wd r ∧ numF f = true ∧ numF g = true := by
  unfold ofF at h
  by_cases c1 : (numF f && numF g) = false
  · rw [if_pos c1] at h; cases h
  · rw [if_neg c1] at h
    have c2 : (numF f && numF g) = true := by simpa using c1
    rw [Bool.and_eq_true] at c2
    refine ⟨?_, c2⟩
    by_cases c3 : (zeroF f && zeroF g) = true
    · rw [if_pos c3] at h
      simp only [Option.some.injEq, Prod.mk.injEq] at h
      rw [← h.2.2]
      intro b hb
      obtain rfl := Option.some.inj hb
      decide
    · rw [if_neg c3] at h
      by_cases c4 : numF (ofR f g) = false
      · rw [if_pos c4] at h; cases h
      · rw [if_neg c4] at h
        simp only [Option.some.injEq, Prod.mk.injEq] at h
        rw [← h.2.2]
        exact fmul_w _ _
/-- a number's word has a sign and a rung -/
theorem num_wd {x : Option Nat} (h : numF x = true) (hw : Wd x) : ∃ t g, x = some (wd t g) ∧ g < 9218868437227405312 := by
  obtain ⟨b, rfl, hb⟩ := numF_some h
  have h64 := hw b rfl
  refine ⟨decide (9223372036854775808 ≤ b), b % 9223372036854775808, ?_, hb⟩
  by_cases c : 9223372036854775808 ≤ b
  · rw [decide_eq_true c]
    show some b = some (9223372036854775808 + b % 9223372036854775808)
    congr 1; omega
  · rw [decide_eq_false c]
    show some b = some (b % 9223372036854775808)
    congr 1; omega
/-- what stands on the diagonal now is no less than what stood there -/
def GeD (x y : Option Nat) : Prop := ∃ f g, x = some f ∧ y = some g ∧ f ≤ g ∧ g < 9218868437227405312
theorem GeD.trans {x y z : Option Nat} (h : GeD x y) (k : GeD y z) : GeD x z := by
  obtain ⟨f, g, rfl, rfl, h1, h2⟩ := h
  obtain ⟨f', g', e, rfl, k1, k2⟩ := k
  obtain rfl := Option.some.inj e
  exact ⟨f, g', rfl, rfl, by omega, k2⟩
/-- a line, from column j on -/
theorem rline_grows {c : Nat} (h1 : 1 ≤ c) (h6 : c ≤ 6) : ∀ (n j : Nat) (st : List (Option Nat) × List (Option Nat)) (ys : List (Option Nat)), n + j = c + 1 → st.1.length = tsz c → st.2.length = c + 1 →
    (∀ i, i < tsz c → Wd (st.1.getD i none)) → (∀ i, i ≤ c → Wd (st.2.getD i none)) → (∀ i, j ≤ i → i ≤ c → ∃ f, st.1.getD (offs c i) none = some f ∧ f ≤ pw 420) → rlineFrom c n j st = some ys →
    ys.length = tsz c ∧ (∀ i, i < tsz c → Wd (ys.getD i none)) ∧ (∀ i, i < j → ys.getD (offs c i) none = st.1.getD (offs c i) none) ∧ (∀ i, j ≤ i → i ≤ c → GeD (st.1.getD (offs c i) none) (ys.getD (offs c i) none)) ∧
    (j ≤ c → ∀ g, st.2.getD j none = some g → g ≤ pw 420 → GeD (some g) (ys.getD (offs c j) none))
  | 0, j, st, ys, hnj, hl, _, hw, _, _, h => by
    obtain rfl := Option.some.inj h
    exact ⟨hl, hw, fun _ _ => rfl, fun i hi hi2 => by omega, fun hj => by omega⟩
  | n + 1, j, st, ys, hnj, hl, hl2, hw, hw2, hd, h => by
    have hj : j ≤ c := by omega
    unfold rlineFrom at h
    cases hof : ofF (st.1.getD (offs c j) none) (st.2.getD j none) with
    | none =>
      have : rstep c j st = none := by unfold rstep; rw [hof]
      rw [this] at h
      cases h
    | some v =>
      obtain ⟨cc, ss, r⟩ := v
      obtain ⟨st', e, k1, k2, k3, k4⟩ := rstep_at h1 h6 hl hl2 hj hof
      rw [e] at h
      dsimp only at h
      obtain ⟨wr, n1, n2⟩ := ofF_w hof
      obtain ⟨f, hf, hf4⟩ := hd j (Nat.le_refl _) hj
      obtain ⟨t, g, hg, hg2⟩ := num_wd n2 (hw2 j hj)
      have hfi : f < 9218868437227405312 := pw420_lt hf4
      have hof' := hof
      rw [hf, hg] at hof'
      have htop : ∀ f, f ≤ pw 420 → topP f ≤ 1000 := by
        intro f hf4
        by_cases f0 : f = 0
        · subst f0; decide
        · exact top_small f0 hf4
      obtain ⟨r', e1, e2, e3⟩ := of_ge false t hfi (htop f hf4) hg2 hof'
      subst e1
      have hne : ∀ i, i ≤ c → i ≠ j → st'.1.getD (offs c i) none = st.1.getD (offs c i) none := by
        intro i hi hij
        obtain ⟨q1, q2⟩ := diag_out hi hj hij
        rw [k3, if_neg q2, if_neg q1]
      have heq : st'.1.getD (offs c j) none = some r' := by rw [k3, if_pos rfl]
      have hW1 : ∀ i, i < tsz c → Wd (st'.1.getD i none) := by
        intro i hi
        rw [k3]
        split
        · exact wr
        · split
          · exact fadd_w _ _
          · exact hw i hi
      have hW2 : ∀ i, i ≤ c → Wd (st'.2.getD i none) := by
        intro i hi
        rw [k4]
        split
        · exact fsub_w _ _
        · exact hw2 i hi
      obtain ⟨q1, q2, q3, q4, _⟩ := rline_grows h1 h6 n (j + 1) st' ys (by omega) k1 k2 hW1 hW2 (fun i hi hi2 => by rw [hne i hi2 (by omega)]; exact hd i (by omega) hi2) h
      refine ⟨q1, q2, fun i hi => ?_, fun i hi hi2 => ?_, fun _ g' hg' hg4 => ?_⟩
      · rw [q3 i (by omega), hne i (by omega) (by omega)]
      · by_cases c1 : i = j
        · subst c1
          rw [q3 i (by omega), heq, hf]
          exact ⟨f, r', rfl, rfl, e2, e3⟩
        · have := q4 i (by omega) hi2
          rw [hne i hi2 c1] at this
          exact this
      · rw [q3 j (by omega), heq]
        have e5 : wd t g = g' := Option.some.inj (hg.symm.trans hg')
        have e6 : t = false ∧ g = g' := by
          have := pw420_lt hg4
          exact wd_inj (s := t) (t := false) (by omega) (by omega) e5
        obtain ⟨rfl, rfl⟩ := e6
        obtain ⟨r'', a1, a2, a3⟩ := of_ge' false false hfi hg2 (htop g hg4) hof'
        obtain rfl := Option.some.inj a1
        exact ⟨g, r', rfl, rfl, a2, a3⟩
theorem diag_some {c : Nat} {xs : List (Option Nat)} {rws trn : Int} (hck : checkP (c : Int) xs rws trn = true) (i : Nat) (hi : i ≤ c) : ∃ f, xs.getD (offs c i) none = some f ∧ f ≤ pw 420 := by
  obtain ⟨h1, h6, hl, he⟩ := check_parts hck
  have hin := offs_in (c := c) (i := i) (j := 0) h1 h6 hi (by omega)
  have hlg := (he i hi).2 0 (by omega)
  rw [Nat.add_zero] at hlg hin
  cases hx : xs.getD (offs c i) none with
  | none => rw [hx] at hlg; cases hlg
  | some b =>
    rw [hx] at hlg
    have hs := (he i hi).1
    rw [hx] at hs
    have h2 := of_decide_eq_false hs
    have h3 : ¬ pw 420 < b % 9223372036854775808 := of_decide_eq_false hlg
    exact ⟨b, rfl, by omega⟩
/-- THE PLAIN LAW of a line -/
theorem line_grows {c j : Nat} {xs ls : List (Option Nat)} {rws trn : Int} {G : FacD} (hw : ∀ i, i < tsz c → Wd (xs.getD i none)) (hw2 : ∀ i, i ≤ c → Wd (ls.getD i none)) (h : lineD ⟨(c : Int), xs, rws, trn⟩ ls (j : Int) = (G, true)) :
    j ≤ c ∧ (∀ i, i < tsz c → Wd (G.xs.getD i none)) ∧ (∀ i, i ≤ c → GeD (xs.getD (offs c i) none) (G.xs.getD (offs c i) none)) ∧ (∀ g, ls.getD j none = some g → g ≤ pw 420 → GeD (some g) (G.xs.getD (offs c j) none)) := by
  unfold lineD at h
  by_cases c1 : (⟨(c : Int), xs, rws, trn⟩ : FacD).ok = true ∧ 0 ≤ (j : Int) ∧ (j : Int) ≤ (⟨(c : Int), xs, rws, trn⟩ : FacD).cols ∧ (ls.length : Int) = (⟨(c : Int), xs, rws, trn⟩ : FacD).cols + 1
  · rw [if_pos c1] at h
    obtain ⟨hck, _, hj, hl⟩ := c1
    dsimp only at hj hl h
    obtain ⟨h1, h6, hxl, _⟩ := check_parts hck
    cases hP : rlineP ((c : Int).toNat) rws trn ((j : Int).toNat) (xs, ls) with
    | none => rw [hP] at h; cases h
    | some ys =>
      rw [hP] at h
      dsimp only at h
      have hG : G.xs = ys := by rw [← (Prod.mk.inj h).1]
      unfold rlineP at hP
      rw [Int.toNat_natCast, Int.toNat_natCast] at hP
      cases hF : rlineFrom c (c + 1 - j) j (xs, ls) with
      | none => rw [hF] at hP; cases hP
      | some zs =>
        rw [hF] at hP
        dsimp only at hP
        by_cases hc : checkP (c : Int) zs rws trn = true
        · rw [if_pos hc] at hP
          obtain rfl := Option.some.inj hP
          obtain ⟨_, q2, q3, q4, q5⟩ := rline_grows h1 h6 (c + 1 - j) j (xs, ls) zs (by omega) hxl (by dsimp only; omega) hw hw2 (fun i _ hi => diag_some hck i hi) hF
          rw [hG]
          refine ⟨by omega, q2, fun i hi => ?_, q5 (by omega)⟩
          by_cases c2 : i < j
          · rw [q3 i c2]
            obtain ⟨f, hf, hf4⟩ := diag_some hck i hi
            dsimp only
            rw [hf]
            exact ⟨f, f, rfl, rfl, Nat.le_refl _, pw420_lt hf4⟩
          · exact q4 i (by omega) hi
        · rw [if_neg hc] at hP; cases hP
  · rw [if_neg c1] at h; cases h
theorem row_grows {c : Nat} {xs ls : List (Option Nat)} {Y : Option Nat} {rws trn : Int} {G : FacD} (hw : ∀ i, i < tsz c → Wd (xs.getD i none)) (hw2 : ∀ i, i < ls.length → Wd (ls.getD i none)) (hY : Wd Y) (h : rowD ⟨(c : Int), xs, rws, trn⟩ ls Y = (G, 0)) :
    ∀ i, i ≤ c → GeD (xs.getD (offs c i) none) (G.xs.getD (offs c i) none) := by
  obtain ⟨k1, k2, k3⟩ := rowD_zero (by rw [h])
  obtain ⟨hok, hl, _, _⟩ := early_zero k1
  dsimp only at hl
  rw [rowD_line k1 k2, k3, if_neg (by decide)] at h
  have hG : G.xs = (lineD ⟨(c : Int), xs, rws, trn⟩ (ls ++ [Y]) 0).1.xs := by rw [← (Prod.mk.inj h).1]
  have hL : lineD ⟨(c : Int), xs, rws, trn⟩ (ls ++ [Y]) ((0 : Nat) : Int) = ((lineD ⟨(c : Int), xs, rws, trn⟩ (ls ++ [Y]) 0).1, true) := Prod.ext rfl k3
  obtain ⟨_, _, q3, _⟩ := line_grows hw (fun i hi => by
    rw [List.getD_eq_getElem?_getD]
    by_cases c1 : i < ls.length
    · rw [List.getElem?_append_left c1, ← List.getD_eq_getElem?_getD]
      exact hw2 i c1
    · rw [List.getElem?_append_right (by omega), show i - ls.length = 0 by omega]
      exact hY) hL
  rw [hG]
  exact q3
theorem two_grows {c : Nat} {bx : List (Option Nat)} {rws trn r0 t0 : Int} (hb : checkP (c : Int) bx r0 t0 = true) (hbw : ∀ i, i < tsz c → Wd (bx.getD i none)) : ∀ (n i : Nat) (gx : List (Option Nat)) (G : FacD), n + i = c + 1 → checkP (c : Int) gx rws trn = true → (∀ i, i < tsz c → Wd (gx.getD i none)) →
    twoLoop c bx n i ⟨(c : Int), gx, rws, trn⟩ = (G, true) → (∀ k, k ≤ c → GeD (gx.getD (offs c k) none) (G.xs.getD (offs c k) none)) ∧ (∀ k, i ≤ k → k ≤ c → GeD (bx.getD (offs c k) none) (G.xs.getD (offs c k) none))
  | 0, i, gx, G, hni, hck, hw, h => by
    have hG : (⟨(c : Int), gx, rws, trn⟩ : FacD) = G := (Prod.mk.inj h).1
    subst hG
    refine ⟨fun k hk => ?_, fun k hk hk2 => by omega⟩
    obtain ⟨f, hf, hf4⟩ := diag_some hck k hk
    dsimp only
    rw [hf]
    exact ⟨f, f, rfl, rfl, Nat.le_refl _, pw420_lt hf4⟩
  | n + 1, i, gx, G, hni, hck, hw, h => by
    have hi : i ≤ c := by omega
    obtain ⟨h1, h6, hbl, _⟩ := check_parts hb
    rcases two_step h with ⟨_, e⟩ | ⟨gy, e, h2⟩
    · cases e
    · have hok := (lineD_ok (by rw [e])).1
      rw [e] at hok
      obtain ⟨_, q2, q3, q4⟩ := line_grows hw (fun k hk => by
        rw [getD_lineP hi k (by omega)]
        split
        · intro b hb; obtain rfl := Option.some.inj hb; decide
        · exact hbw _ (offs_in h1 h6 hi (by omega))) e
      dsimp only at q2 q3 q4
      obtain ⟨r1, r2⟩ := two_grows hb hbw n (i + 1) gy G (by omega) hok q2 h2
      refine ⟨fun k hk => (q3 k hk).trans (r1 k hk), fun k hk hk2 => ?_⟩
      by_cases c1 : k = i
      · subst c1
        obtain ⟨f, hf, hf4⟩ := diag_some hb k hk2
        have := q4 f (by rw [getD_lineP hi k (by omega), if_neg (by omega), Nat.sub_self, Nat.add_zero]; exact hf) hf4
        rw [hf]
        exact this.trans (r1 k hk2)
      · exact r2 k (by omega) hk2
theorem two_ok {c : Nat} {bx : List (Option Nat)} {rws trn : Int} : ∀ (n i : Nat) (gx : List (Option Nat)) (G : FacD), checkP (c : Int) gx rws trn = true → twoLoop c bx n i ⟨(c : Int), gx, rws, trn⟩ = (G, true) → checkP (c : Int) G.xs rws trn = true
  | 0, i, gx, G, hck, h => by
    have hG : (⟨(c : Int), gx, rws, trn⟩ : FacD) = G := (Prod.mk.inj h).1
    subst hG
    exact hck
  | n + 1, i, gx, G, hck, h => by
    rcases two_step h with ⟨_, e⟩ | ⟨gy, e, h2⟩
    · cases e
    · have hok := (lineD_ok (by rw [e])).1
      rw [e] at hok
      exact two_ok n (i + 1) gy G hok h2
/-- THE PLAIN LAW of MergeMay -/
theorem merge_grows {A B G : FacD} {c : Nat} (hc : A.cols = (c : Int)) (hA : ∀ i, i < tsz c → Wd (A.xs.getD i none)) (hB : ∀ i, i < tsz c → Wd (B.xs.getD i none)) (h : twoD A B = (G, 0)) :
    A.ok = true ∧ B.ok = true ∧ G.ok = true ∧ B.cols = A.cols ∧ G.cols = A.cols ∧ G.rws = A.rws + B.rws ∧ G.trn = max A.trn B.trn + sizeI A.cols ∧ ∀ k, k ≤ c → GeD (A.xs.getD (offs c k) none) (G.xs.getD (offs c k) none) ∧ GeD (B.xs.getD (offs c k) none) (G.xs.getD (offs c k) none) := by
  have h0 : twoEarly A B = 0 := by
    by_cases e : twoEarly A B = 0
    · exact e
    · rw [twoD_early rfl e] at h
      exact absurd (Prod.mk.inj h).2 e
  obtain ⟨k1, k2, k3, k4, k5⟩ := two_zero h0
  rw [twoD_loop h0 rfl] at h
  obtain ⟨ac, ax, ar, at'⟩ := A
  obtain ⟨bc, bx, br, bt⟩ := B
  dsimp only at *
  subst hc
  have hbc : bc = (c : Int) := k3.symm
  subst hbc
  rw [Int.toNat_natCast] at h
  cases hT : (twoLoop c bx (c + 1) 0 ⟨(c : Int), ax, ar, at'⟩).2 with
  | false => rw [hT, if_pos rfl] at h; cases h
  | true =>
    rw [hT, if_neg (by decide)] at h
    have hG := (Prod.mk.inj h).1
    have hL : twoLoop c bx (c + 1) 0 ⟨(c : Int), ax, ar, at'⟩ = ((twoLoop c bx (c + 1) 0 ⟨(c : Int), ax, ar, at'⟩).1, true) := Prod.ext rfl hT
    obtain ⟨q1, q2⟩ := two_grows k2 hB (c + 1) 0 ax _ rfl k1 hA hL
    subst hG
    dsimp only
    refine ⟨k1, k2, ?_, rfl, rfl, rfl, rfl, fun k hk => ⟨q1 k hk, q2 k (Nat.zero_le _) hk⟩⟩
    obtain ⟨a1, a2, a3, a4⟩ := ok_rows k1
    obtain ⟨b1, b2, b3, b4⟩ := ok_rows k2
    obtain ⟨c1, c6⟩ := ok_cols k1
    have hs := sizeI_in c1 c6
    dsimp only at a1 a2 a3 a4 b1 b2 b3 b4 hs
    have hT2 := two_ok (c + 1) 0 ax _ k1 hL
    exact checkP_rt hT2 (by dsimp only; omega) k4 (by dsimp only; omega) k5
theorem row_wd {w : World} {v : Value} {xs : List (Option Nat)} (h : Row w v xs) : ∀ i, Wd (xs.getD i none) := fun i b hb => row_words h i b hb
theorem fw_wd {y : Nat} {Y : Option Nat} (h : FW y Y) : Wd Y := by
  intro b hb
  have h2 := h.2
  rw [hb] at h2
  obtain ⟨rfl, _⟩ := ab_some h2
  exact h.1
/-- a diagonal that has not shrunk -/
theorem ged_not_lt {x z : Nat} {X Z : Option Nat} (hx : FW x X) (hz : FW z Z) (h : GeD X Z) : (FloatKind.f64.format.order z x == some Ordering.lt) = false := by
  obtain ⟨f, g, rfl, rfl, h1, h2⟩ := h
  obtain ⟨e1, _⟩ := ab_some hx.2
  obtain ⟨e2, _⟩ := ab_some hz.2
  subst e1 e2
  have n1 : nan f = false := by unfold Lv.nan; exact decide_eq_false (by omega)
  have n2 : nan g = false := by unfold Lv.nan; exact decide_eq_false (by omega)
  refine (order_lt n2 n1 (by omega) (by omega)).trans (decide_eq_false ?_)
  rw [key_pos (by omega), key_pos (by omega)]
  omega
end Go.Proofs.YtmmligbkecilfaaGreatDoor
