/- Rows absorbed part by part come to the same; parts of a list of rows in memory; the reference's Few of layer 8. -/
import Derived.Test.YtfohknalldelfaaDoorSm
namespace Go.Proofs.YtfohknalldelfaaDoor
open Go.RowKit Lv Go.Shelf
open Ieee (double Format Datum Toward)
attribute [local go_sem] Oper.semAt_some

theorem checkP_rt {c : Int} {xs : List (Option Nat)} {r t r' t' : Int} (h : checkP c xs r t = true) (h1 : 0 ≤ r') (h2 : r' ≤ 200) (h3 : 0 ≤ t') (h4 : t' ≤ 4096) : checkP c xs r' t' = true := by
  unfold checkP at h ⊢
  simp only [Bool.and_eq_true] at h ⊢
  obtain ⟨⟨⟨⟨⟨⟨⟨a1, a2⟩, a3⟩, _⟩, _⟩, _⟩, _⟩, a8⟩ := h
  exact ⟨⟨⟨⟨⟨⟨⟨a1, a2⟩, a3⟩, decide_eq_true h1⟩, decide_eq_true h2⟩, decide_eq_true h3⟩, decide_eq_true h4⟩, a8⟩
theorem rowD_zero {F : FacD} {ls : List (Option Nat)} {Y : Option Nat} (h : (rowD F ls Y).2 = 0) : earlyD F ls Y = 0 ∧ fullD F = false ∧ (lineD F (ls ++ [Y]) 0).2 = true := by
  unfold rowD at h
  by_cases h1 : earlyD F ls Y ≠ 0
  · rw [if_pos h1] at h; exact absurd h h1
  · rw [if_neg h1] at h
    cases h2 : fullD F with
    | true => rw [h2, if_pos rfl] at h; cases h
    | false =>
      rw [h2, if_neg (by decide)] at h
      cases h3 : (lineD F (ls ++ [Y]) 0).2 with
      | false => rw [h3, if_pos rfl] at h; cases h
      | true => exact ⟨by simpa using h1, rfl, rfl⟩
theorem rowD_ok {F : FacD} {ls : List (Option Nat)} {Y : Option Nat} (h : (rowD F ls Y).2 = 0) : (rowD F ls Y).1.ok = true ∧ (rowD F ls Y).1.cols = F.cols ∧ (rowD F ls Y).1.rws = F.rws + 1 ∧ (rowD F ls Y).1.trn = F.trn + (F.cols + 1) := by
  obtain ⟨h1, h2, h3⟩ := rowD_zero h
  obtain ⟨hok, _⟩ := early_zero h1
  obtain ⟨k1, k2, k3, k4, _⟩ := lineD_ok h3
  obtain ⟨r0, r1, t0, t1⟩ := ok_rows hok
  obtain ⟨c1, c6⟩ := ok_cols hok
  unfold fullD at h2
  rw [Bool.or_eq_false_iff] at h2
  have e1 : ¬ F.rws = 200 := by simpa using h2.1
  have e2 : ¬ 4096 < F.trn + (F.cols + 1) := by simpa using h2.2
  rw [rowD_line h1 (by unfold fullD; rw [h2.1, h2.2]; rfl), h3, if_neg (by decide)]
  refine ⟨?_, k2, rfl, rfl⟩
  exact checkP_rt k1 (by dsimp only; omega) (by dsimp only; omega) (by dsimp only; omega) (by dsimp only; omega)

theorem all_part : ∀ (xs ys : List RowD) (k : Nat) (F : FacD) (G : FacD) (n : Int), allLoop k F (xs ++ ys) = (G, n, 0) → F.ok = true →
    ∃ P : FacD, allLoop k F xs = (P, ((k + xs.length : Nat) : Int), 0) ∧ allLoop (k + xs.length) P ys = (G, n, 0) ∧ P.ok = true
  | [], ys, k, F, G, n, h, hok => ⟨F, rfl, h, hok⟩
  | r :: xs, ys, k, F, G, n, h, hok => by
    rw [List.cons_append] at h
    unfold allLoop at h
    by_cases h2 : (rowD F r.1 r.2).2 ≠ 0
    · rw [if_pos h2] at h
      simp only [Prod.mk.injEq] at h
      exact absurd h.2.2 h2
    · rw [if_neg h2] at h
      have h3 : (rowD F r.1 r.2).2 = 0 := by simpa using h2
      obtain ⟨P, p1, p2, p3⟩ := all_part xs ys (k + 1) _ G n h (rowD_ok h3).1
      refine ⟨P, ?_, ?_, p3⟩
      · unfold allLoop
        rw [if_neg h2, p1]
        congr 2
        simp only [List.length_cons]
        omega
      · rw [List.length_cons, show k + (xs.length + 1) = k + 1 + xs.length by omega]
        exact p2
theorem all_shift : ∀ (ys : List RowD) (k j : Nat) (F G : FacD) (n : Int), allLoop k F ys = (G, n, 0) → n = ((k + ys.length : Nat) : Int) ∧ allLoop j F ys = (G, ((j + ys.length : Nat) : Int), 0)
  | [], k, j, F, G, n, h => by
    unfold allLoop at h ⊢
    simp only [Prod.mk.injEq] at h
    obtain ⟨rfl, rfl, _⟩ := h
    exact ⟨rfl, rfl⟩
  | r :: ys, k, j, F, G, n, h => by
    unfold allLoop at h ⊢
    by_cases h2 : (rowD F r.1 r.2).2 ≠ 0
    · rw [if_pos h2] at h
      simp only [Prod.mk.injEq] at h
      exact absurd h.2.2 h2
    · rw [if_neg h2] at h ⊢
      obtain ⟨e1, e2⟩ := all_shift ys (k + 1) (j + 1) _ G n h
      refine ⟨by rw [e1, List.length_cons]; congr 1; omega, ?_⟩
      rw [e2, List.length_cons]
      congr 2
      simp only [Int.natCast_inj]
      omega
/-- THE PLAIN LAW of All: part by part -/
theorem all_cut {F G : FacD} {rs : List RowD} {n : Int} (h : allD F rs = (G, n, 0)) (k : Nat) (hk : k ≤ rs.length) :
    ∃ P : FacD, allD F (rs.take k) = (P, (k : Int), 0) ∧ allD P (rs.drop k) = (G, ((rs.length - k : Nat) : Int), 0) := by
  unfold allD at h
  by_cases h1 : F.ok = false
  · rw [if_pos h1] at h
    simp only [Prod.mk.injEq] at h
    exact absurd h.2.2 (by decide)
  · rw [if_neg h1] at h
    have hok : F.ok = true := by simpa using h1
    rw [← List.take_append_drop k rs] at h
    obtain ⟨P, p1, p2, p3⟩ := all_part _ _ _ _ _ _ h hok
    rw [Nat.zero_add, List.length_take, Nat.min_eq_left hk] at p1 p2
    refine ⟨P, by unfold allD; rw [if_neg h1]; exact p1, ?_⟩
    obtain ⟨_, e2⟩ := all_shift _ _ 0 _ _ _ p2
    unfold allD
    rw [if_neg (by rw [p3]; decide), e2, Nat.zero_add, List.length_drop]

theorem Rws.take {w : World} {t : Option Addr} {n c : Nat} {rs : List RowD} (h : Rws w (.slice t n c) rs) (k : Nat) (hk : k ≤ n) : Rws w (.slice t k c) (rs.take k) := by
  obtain ⟨a, cap, hv, h1, h2, h3⟩ := h
  simp only [Value.slice.injEq] at hv
  obtain ⟨rfl, rfl, rfl⟩ := hv
  refine ⟨t, c, by rw [List.length_take, Nat.min_eq_left hk], by rw [List.length_take]; omega, h2, ?_⟩
  rw [List.length_take, Nat.min_eq_left hk]
  by_cases h0 : k = 0
  · exact .inl h0
  · rcases h3 with h3 | ⟨blk, off, e, hc⟩
    · omega
    · refine .inr ⟨blk, off, e, fun i hi => ?_⟩
      have := hc i (by omega)
      rw [show (rs.take k).getD i ([], none) = rs.getD i ([], none) by rw [List.getD_eq_getElem?_getD, List.getElem?_take_of_lt hi, List.getD_eq_getElem?_getD]]
      exact this
theorem Rws.drop {w : World} {blk off n c : Nat} {a' : Option Addr} {rs : List RowD} (h : Rws w (.slice (some ⟨blk, off, none⟩) n c) rs) (k : Nat) (hk : k ≤ n) (ha : k = n ∨ a' = some ⟨blk, off + k * 2, none⟩) : Rws w (.slice a' (n - k) (c - k)) (rs.drop k) := by
  obtain ⟨a, cap, hv, h1, h2, h3⟩ := h
  simp only [Value.slice.injEq] at hv
  obtain ⟨rfl, rfl, rfl⟩ := hv
  refine ⟨a', c - k, by rw [List.length_drop], by rw [List.length_drop]; omega, by omega, ?_⟩
  rw [List.length_drop]
  by_cases h0 : rs.length - k = 0
  · exact .inl h0
  · rcases ha with ha | rfl
    · omega
    · rcases h3 with h3 | ⟨b1, o1, e, hc⟩
      · omega
      · simp only [Option.some.injEq, Addr.mk.injEq, and_true] at e
        obtain ⟨rfl, rfl⟩ := e
        refine .inr ⟨blk, off + k * 2, rfl, fun i hi => ?_⟩
        have := hc (k + i) (by omega)
        rw [show (rs.drop k).getD i ([], none) = rs.getD (k + i) ([], none) by rw [List.getD_eq_getElem?_getD, List.getElem?_drop, List.getD_eq_getElem?_getD]]
        rw [show off + (k + i) * 2 = off + k * 2 + i * 2 by omega] at this
        exact this

/-- are there few rows, with few entries? -/
def fewR (rs : List RowD) (k : Nat) : Bool := decide (rs.length ≤ k) && !rs.any fun r => decide (12 < r.1.length)
theorem any_stepR {p : RowD → Bool} {rs : List RowD} {k : Nat} (hk : k < rs.length) (h : (rs.take k).any p = false) : (rs.take (k + 1)).any p = p (rs.getD k ([], none)) := by
  rw [List.take_succ_eq_append_getElem hk, List.any_append, h, Bool.false_or]
  simp [List.getD_eq_getElem?_getD, hk]
theorem any_of_takeR {p : RowD → Bool} {rs : List RowD} {k : Nat} (h : (rs.take k).any p = true) : rs.any p = true := by
  rw [List.any_eq_true] at h ⊢
  obtain ⟨x, hx, hp⟩ := h
  exact ⟨x, List.mem_of_mem_take hx, hp⟩
theorem rfew8_calls (t : Option Addr) (tn tc k : Nat) (rs : List RowD) (w : World) (hl : Rws w (.slice t tn tc) rs) :
    Calls Tryd.prog 15 #[.slice t tn tc, .int .i64 (k : Int)] w fun e w' => e = .returned (.bool (fewR rs k)) ∧ w = w' := by
  obtain ⟨hn1, hn2⟩ := hl.len
  obtain ⟨res, hres⟩ : ∃ res, res = fewR rs k := ⟨_, rfl⟩
  rw [← hres]
  have HS := Lib.hid hl
  have HN := Lib.hid hn1
  unfold fewR at hres
  by_cases hb : k < tn
  · rw [decide_eq_false (by omega), Bool.false_and] at hres
    subst hres
    have hbi : (k : Int) < (tn : Int) := by omega
    clear hl hn1
    go_enter Tryd.func15, Tryd.ntmps15
    go_wp2
    go_ret
    exact ⟨rfl, rfl⟩
  · rw [decide_eq_true (by omega), Bool.true_and] at hres
    have HRES := Lib.hid hres
    have hbi : ¬ (k : Int) < (tn : Int) := by omega
    clear hl hn1 hres
    go_enter Tryd.func15, Tryd.ntmps15
    go_wp2
    go_loop [5] (fun s => ∃ j : Nat, j ≤ tn ∧ s = .int .i64 (j : Int) ∧ Hid (((rs.take j).any fun r => decide (12 < r.1.length)) = false)) (fun s => tn - (intOf s).toNat)
    case atStart => exact ⟨0, Nat.zero_le _, rfl, rfl⟩
    case round =>
      obtain ⟨j, hj, rfl, hrel⟩ := hrel
      by_cases hlt : j < tn
      · obtain ⟨blk, off, rfl, hc⟩ := HS.out.at (by omega)
        obtain ⟨b, m, d, y, k1, k2, k3, k4⟩ := hc j hlt
        have hst := Lib.hid (any_stepR (p := fun r => decide (12 < r.1.length)) (by rw [HN.out]; exact hlt) hrel.out)
        have hm := Lib.hid k3.len
        clear hc k2 k3 k4
        by_cases h60 : 12 < m
        · have h60i : (12 : Int) < (m : Int) := by omega
          have HR : Hid (res = false) := by
            unfold Hid
            rw [HRES.out, any_of_takeR (k := j + 1) (by rw [hst.out, hm.out]; exact decide_eq_true h60)]
            rfl
          go_wp2
          go_ret
          exact ⟨ret_bool HR.out.symm, rfl⟩
        · have h60i : ¬ (12 : Int) < (m : Int) := by omega
          have hs2 : Hid (((rs.take (j + 1)).any fun r => decide (12 < r.1.length)) = false) := by
            unfold Hid
            rw [hst.out, hm.out]; exact decide_eq_false h60
          go_wp2
          go_round
          case rel => exact ⟨j + 1, by omega, by go_num, hs2⟩
          case measure => simp [intOf]; omega
      · obtain rfl : j = tn := by omega
        have HR : Hid (res = true) := by
          unfold Hid
          have := hrel.out
          rw [List.take_of_length_le (by rw [HN.out]; exact Nat.le_refl _)] at this
          rw [HRES.out, this]; rfl
        go_wp2
        go_ret
        exact ⟨ret_bool HR.out.symm, rfl⟩
end Go.Proofs.YtfohknalldelfaaDoor
