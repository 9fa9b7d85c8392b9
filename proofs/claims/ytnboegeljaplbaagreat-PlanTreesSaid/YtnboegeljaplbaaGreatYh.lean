/- Plans, plainly: what may be, its order, how high it is; the plans of n shards. What a plan's play comes to, plainly; Left's is merge.All's; the counts tell what the factor has. Lists of values of one cell each in memory; ints; appending to one's own; Go's Index, Contains and Max of ints, the reference's Ints. Go's Index, Contains and Max of ints; a plan's steps and heights; whether it may be, its order, how high it is. A plan's order and height; the reference's Check, Order, Height. The reference's Check and Height of a plan. Plans of n shards: Left, Right, Even; Go's Repeat of one int. Go's Repeat of one int; plans to the right. -/
import Derived.Test.YtnboegeljaplbaaGreatRe
import Derived.Test.YtnboegeljaplbaaGreatMh
import Derived.Test.YtnboegeljaplbaaGreatYc
import Derived.LoopTactic
import Derived.Deep.RegionWith
import Derived.Deep.RegionHeld3
import Derived.BigQuiet
import Derived.Deep.QuietTactic
import Derived.IntWalk
import Derived.Laws.CopyOwn
import Derived.Laws.BitsAllLaws
namespace Go.Proofs.YtnboegeljaplbaaGreat
open Lv

/-- behind a plan's steps: how many things there are; none: somewhere too few -/
def htsP : Int → List Int → Option Int
  | now, [] => some now
  | now, k :: t => if k = -1 then (if now < 2 then none else htsP (now - 1) t) else htsP (now + 1) t
theorem htsP_append : ∀ (now : Int) (l t : List Int), htsP now (l ++ t) = (htsP now l).bind fun h => htsP h t
  | _, [], _ => rfl
  | now, k :: l, t => by
    show (if k = -1 then (if now < 2 then none else htsP (now - 1) (l ++ t)) else htsP (now + 1) (l ++ t)) = (if k = -1 then (if now < 2 then none else htsP (now - 1) l) else htsP (now + 1) l).bind _
    by_cases c : k = -1
    · rw [if_pos c, if_pos c]
      by_cases c2 : now < 2
      · rw [if_pos c2, if_pos c2]; rfl
      · rw [if_neg c2, if_neg c2]; exact htsP_append _ l t
    · rw [if_neg c, if_neg c]; exact htsP_append _ l t
theorem htsP_snoc (now : Int) (l : List Int) (k : Int) : htsP now (l ++ [k]) = (htsP now l).bind fun h => if k = -1 then (if h < 2 then none else some (h - 1)) else some (h + 1) := htsP_append now l [k]
/-- how many things there are behind each step -/
def runH : Int → List Int → List Int
  | _, [] => []
  | now, k :: t => (if k = -1 then now - 1 else now + 1) :: runH (if k = -1 then now - 1 else now + 1) t
def netH : Int → List Int → Int
  | now, [] => now
  | now, k :: t => netH (if k = -1 then now - 1 else now + 1) t
theorem runH_snoc : ∀ (now : Int) (l : List Int) (k : Int), runH now (l ++ [k]) = runH now l ++ [if k = -1 then netH now l - 1 else netH now l + 1]
  | _, [], _ => rfl
  | now, j :: l, k => by
    show _ :: runH _ (l ++ [k]) = _ :: (runH _ l ++ _)
    rw [runH_snoc _ l k]
    rfl
theorem netH_snoc : ∀ (now : Int) (l : List Int) (k : Int), netH now (l ++ [k]) = if k = -1 then netH now l - 1 else netH now l + 1
  | _, [], _ => rfl
  | now, j :: l, k => by
    show netH _ (l ++ [k]) = _
    rw [netH_snoc _ l k]
    rfl
theorem htsP_net : ∀ (now : Int) (l : List Int) (h : Int), htsP now l = some h → netH now l = h
  | _, [], _, e => by simpa [htsP, netH] using e
  | now, k :: l, h, e => by
    unfold htsP at e
    unfold netH
    by_cases c : k = -1
    · rw [if_pos c] at e ⊢
      by_cases c2 : now < 2
      · rw [if_pos c2] at e; cases e
      · rw [if_neg c2] at e; exact htsP_net _ l h e
    · rw [if_neg c] at e ⊢
      exact htsP_net _ l h e
theorem runH_len : ∀ (now : Int) (l : List Int), (runH now l).length = l.length
  | _, [] => rfl
  | now, k :: l => by unfold runH; rw [List.length_cons, List.length_cons, runH_len]
theorem htsP_pos : ∀ (now : Int) (l : List Int) (h : Int), 0 ≤ now → htsP now l = some h → (l ≠ [] → 1 ≤ h) ∧ ∀ x ∈ runH now l, 1 ≤ x
  | _, [], _, _, _ => ⟨fun h => absurd rfl h, fun x hx => nomatch hx⟩
  | now, k :: l, h, h0, e => by
    have hn : 1 ≤ (if k = -1 then now - 1 else now + 1) ∧ htsP (if k = -1 then now - 1 else now + 1) l = some h := by
      unfold htsP at e
      by_cases c : k = -1
      · rw [if_pos c] at e ⊢
        by_cases c2 : now < 2
        · rw [if_pos c2] at e; cases e
        · rw [if_neg c2] at e; exact ⟨by omega, e⟩
      · rw [if_neg c] at e ⊢
        exact ⟨by omega, e⟩
    obtain ⟨i1, i2⟩ := htsP_pos _ l h (by omega) hn.2
    refine ⟨fun _ => ?_, fun x hx => ?_⟩
    · by_cases cl : l = []
      · subst cl
        have e2 : some (if k = -1 then now - 1 else now + 1) = some h := hn.2
        have := Option.some.inj e2
        omega
      · exact i1 cl
    · unfold runH at hx
      rcases List.mem_cons.1 hx with rfl | hx
      · exact hn.1
      · exact i2 x hx
/-- is a step in its bounds, and no shard laid twice? -/
def inP (l : List Int) (shards : Int) : Bool := (List.range l.length).all fun i => !(decide (l.getD i 0 < -1) || decide (shards ≤ l.getD i 0) || (decide (0 ≤ l.getD i 0) && (l.take i).contains (l.getD i 0)))
def badAt (l : List Int) (shards : Int) (i : Nat) : Bool := decide (l.getD i 0 < -1) || decide (shards ≤ l.getD i 0) || (decide (0 ≤ l.getD i 0) && (l.take i).contains (l.getD i 0))
theorem inP_bad {l : List Int} {shards : Int} {i : Nat} (hi : i < l.length) (h : badAt l shards i = true) : inP l shards = false := by
  cases e : inP l shards with
  | false => rfl
  | true =>
    have := List.all_eq_true.1 e i (List.mem_range.2 hi)
    unfold badAt at h
    rw [h] at this
    cases this
theorem inP_all {l : List Int} {shards : Int} (h : ∀ i, i < l.length → badAt l shards i = false) : inP l shards = true := by
  unfold inP
  rw [List.all_eq_true]
  intro i hi
  have := h i (List.mem_range.1 hi)
  unfold badAt at this
  rw [this]; rfl
/-- may a plan be? -/
def pcheckD (l : List Int) (shards : Int) : Int := if inP l shards = true ∧ htsP 0 l = some 1 then 0 else 10
theorem pcheck_hts {l : List Int} {shards : Int} (h : htsP 0 l ≠ some 1) : pcheckD l shards = 10 := by unfold pcheckD; rw [if_neg (fun e => h e.2)]
theorem pcheck_in {l : List Int} {shards : Int} (h : inP l shards = false) : pcheckD l shards = 10 := by unfold pcheckD; rw [if_neg (fun e => by rw [h] at e; cases e.1)]
theorem take_snoc {l : List Int} {i : Nat} (hi : i < l.length) : l.take (i + 1) = l.take i ++ [l.getD i 0] := by
  rw [List.take_succ_eq_append_getElem hi, List.getD_eq_getElem?_getD, List.getElem?_eq_getElem hi]; rfl
theorem hts_none {l : List Int} {i : Nat} (h : htsP 0 (l.take i) = none) : htsP 0 l = none := by
  rw [← List.take_append_drop i l, htsP_append, h]; rfl
/-- its shards, in order -/
def orderD (l : List Int) : List Int := l.filter fun k => decide (0 ≤ k)
theorem order_snoc {l : List Int} {i : Nat} (hi : i < l.length) : orderD (l.take (i + 1)) = orderD (l.take i) ++ (if 0 ≤ l.getD i 0 then [l.getD i 0] else []) := by
  unfold orderD
  rw [take_snoc hi, List.filter_append]
  congr 1
  by_cases c : 0 ≤ l.getD i 0
  · rw [if_pos c, List.filter_cons, if_pos (decide_eq_true c)]; rfl
  · rw [if_neg c, List.filter_cons, if_neg (by simpa using c)]; rfl
/-- how high a plan is -/
def heightD (l : List Int) : Int := if pcheckD l 9223372036854775807 ≠ 0 then 0 else (runH 0 l).foldl max 0
/-- may there be plans of so many shards? -/
def mayP (n : Int) : Bool := decide (1 ≤ n) && decide (n ≤ 8)
def leftL (n : Nat) : List Int := 0 :: (List.range (n - 1)).flatMap fun i => [((i + 1 : Nat) : Int), -1]
def leftD (n : Int) : List Int := if mayP n = true then leftL n.toNat else []
def rightL (n : Nat) : List Int := (List.range n).map (fun (i : Nat) => (i : Int)) ++ List.replicate (n - 1) (-1)
def rightD (n : Int) : List Int := if mayP n = true then rightL n.toNat else []
def evenF : Nat → Nat → Nat → List Int
  | 0, from', _ => [(from' : Int)]
  | f + 1, from', n => if n ≤ 1 then [(from' : Int)] else evenF f from' ((n + 1) / 2) ++ evenF f (from' + (n + 1) / 2) (n - (n + 1) / 2) ++ [-1]
def evenD (n : Int) : List Int := if mayP n = true then evenF 4 0 n.toNat else []
/-- what the document says of the plans of n shards -/
def makesOk (n : Nat) : Bool :=
  decide (pcheckD (leftL n) n = 0) && decide (pcheckD (rightL n) n = 0) && decide (pcheckD (evenF 4 0 n) n = 0) && decide (pcheckD (leftL n) ((n : Int) - 1) ≠ 0) &&
  decide (orderD (leftL n) = (List.range n).map (fun (i : Nat) => (i : Int))) && decide (orderD (rightL n) = (List.range n).map (fun (i : Nat) => (i : Int))) && decide (orderD (evenF 4 0 n) = (List.range n).map (fun (i : Nat) => (i : Int))) &&
  decide (heightD (leftL n) = min (n : Int) 2) && decide (heightD (rightL n) = n) && decide (heightD (evenF 4 0 n) ≤ 4) && decide (1 ≤ heightD (evenF 4 0 n)) &&
  decide ((leftL n).length = 2 * n - 1) && decide ((rightL n).length = 2 * n - 1) && decide ((evenF 4 0 n).length = 2 * n - 1)
theorem makes_ok : ∀ n, n < 9 → 1 ≤ n → makesOk n = true := by decide +kernel
end Go.Proofs.YtnboegeljaplbaaGreat
namespace Go.Proofs.YtnboegeljaplbaaGreat
open Lv

/-- a plan's play, from a stack on -/
def playD {T : Type} (z : T) (lay : Int → T × Int) (add : T → T → T × Int) : List Int → List T → T × Int
  | [], st => (st.getD 0 z, 0)
  | k :: t, st =>
    if (if k = -1 then add (st.getD (st.length - 2) z) (st.getD (st.length - 1) z) else lay k).2 ≠ 0 then (z, (if k = -1 then add (st.getD (st.length - 2) z) (st.getD (st.length - 1) z) else lay k).2)
    else playD z lay add t ((if k = -1 then st.take (st.length - 2) else st) ++ [(if k = -1 then add (st.getD (st.length - 2) z) (st.getD (st.length - 1) z) else lay k).1])
def layF (Fs : List FacD) (k : Int) : FacD × Int := if (Fs.getD k.toNat fac0).ok = true then (Fs.getD k.toNat fac0, 0) else (fac0, 1)
/-- what a plan comes to -/
def runD (l : List Int) (Fs : List FacD) : FacD × Int := if pcheckD l Fs.length ≠ 0 then (fac0, 10) else playD fac0 (layF Fs) twoD l []
def cntOk (c : Int × Int) : Bool := decide (0 ≤ c.1) && decide (c.1 ≤ 200) && decide (0 ≤ c.2) && decide (c.2 ≤ 4096)
def cntAdd (cols : Int) (a b : Int × Int) : (Int × Int) × Int := if cntOk (a.1 + b.1, max a.2 b.2 + sizeI cols) = false then ((0, 0), 6) else ((a.1 + b.1, max a.2 b.2 + sizeI cols), 0)
def layC (rows turns : List Int) (k : Int) : (Int × Int) × Int := ((rows.getD k.toNat 0, turns.getD k.toNat 0), 0)
/-- a plan's counts -/
def countsD (l : List Int) (cols : Int) (rows turns : List Int) : (Int × Int) × Int :=
  if sizeI cols = 0 ∨ rows.length ≠ turns.length then ((0, 0), 1)
  else if ((List.range rows.length).any fun k => !cntOk (rows.getD k 0, turns.getD k 0)) = true then ((0, 0), 1)
  else if pcheckD l rows.length ≠ 0 then ((0, 0), 10)
  else playD (0, 0) (layC rows turns) (cntAdd cols) l []

theorem pcheck_yes {l : List Int} {sh : Int} (h : pcheckD l sh = 0) : inP l sh = true ∧ htsP 0 l = some 1 := by
  unfold pcheckD at h
  by_cases c : inP l sh = true ∧ htsP 0 l = some 1
  · exact c
  · rw [if_neg c] at h; cases h
theorem inP_at {l : List Int} {sh : Int} (h : inP l sh = true) {i : Nat} (hi : i < l.length) : -1 ≤ l.getD i 0 ∧ l.getD i 0 < sh := by
  unfold inP at h
  have := List.all_eq_true.1 h i (List.mem_range.2 hi)
  simp only [Bool.not_eq_true', Bool.or_eq_false_iff, decide_eq_false_iff_not] at this
  omega
theorem drop_snoc {l : List Int} {i : Nat} (hi : i < l.length) : l.drop i = l.getD i 0 :: l.drop (i + 1) := by
  rw [List.drop_eq_getElem_cons hi, List.getD_eq_getElem?_getD, List.getElem?_eq_getElem hi]; rfl
theorem play_at {l : List Int} {sh : Int} (h : pcheckD l sh = 0) {i : Nat} {x : Int} (hx : htsP 0 (l.take i) = some x) (hi : i < l.length) :
    (l.getD i 0 = -1 → 2 ≤ x) ∧ htsP 0 (l.take (i + 1)) = some (if l.getD i 0 = -1 then x - 1 else x + 1) ∧ -1 ≤ l.getD i 0 ∧ l.getD i 0 < sh := by
  obtain ⟨h1, h2⟩ := pcheck_yes h
  have e : l = l.take i ++ l.getD i 0 :: l.drop (i + 1) := by rw [← drop_snoc hi, List.take_append_drop]
  have h3 : (htsP 0 (l.take i)).bind (fun y => htsP y (l.getD i 0 :: l.drop (i + 1))) = some 1 := by rw [← htsP_append, ← e]; exact h2
  rw [hx] at h3
  have h4 : htsP x (l.getD i 0 :: l.drop (i + 1)) = some 1 := h3
  have h5 : l.getD i 0 = -1 → 2 ≤ x := by
    intro ek
    unfold htsP at h4
    rw [if_pos ek] at h4
    by_cases c2 : x < 2
    · rw [if_pos c2] at h4; cases h4
    · omega
  refine ⟨h5, ?_, inP_at h1 hi⟩
  rw [take_snoc hi, htsP_snoc, hx]
  show (if l.getD i 0 = -1 then (if x < 2 then none else some (x - 1)) else some (x + 1)) = _
  by_cases ek : l.getD i 0 = -1
  · rw [if_pos ek, if_pos ek, if_neg (by have := h5 ek; omega)]
  · rw [if_neg ek, if_neg ek]
theorem play_end {l : List Int} {sh : Int} (h : pcheckD l sh = 0) {x : Int} (hx : htsP 0 (l.take l.length) = some x) : x = 1 := by
  obtain ⟨_, h2⟩ := pcheck_yes h
  rw [List.take_length, h2] at hx
  exact (Option.some.inj hx).symm

theorem play_push {T : Type} (z : T) (lay : Int → T × Int) (add : T → T → T × Int) {k : Int} (t : List Int) (st : List T) (hk : k ≠ -1) :
    playD z lay add (k :: t) st = if (lay k).2 ≠ 0 then (z, (lay k).2) else playD z lay add t (st ++ [(lay k).1]) := by
  rw [playD]
  simp only [if_neg hk]
theorem play_join {T : Type} (z : T) (lay : Int → T × Int) (add : T → T → T × Int) (t : List Int) (st : List T) :
    playD z lay add (-1 :: t) st = if (add (st.getD (st.length - 2) z) (st.getD (st.length - 1) z)).2 ≠ 0 then (z, (add (st.getD (st.length - 2) z) (st.getD (st.length - 1) z)).2) else playD z lay add t (st.take (st.length - 2) ++ [(add (st.getD (st.length - 2) z) (st.getD (st.length - 1) z)).1]) := by
  rw [playD]
  simp only [if_true]
/-- Left, unrolled -/
def leftT : Nat → Nat → List Int
  | 0, _ => []
  | m + 1, k => (k : Int) :: -1 :: leftT m (k + 1)
theorem left_unroll : ∀ n, n < 9 → 1 ≤ n → leftL n = 0 :: leftT (n - 1) 1 := by decide +kernel
theorem play_left (Fs : List FacD) : ∀ (m k : Nat) (G : FacD), k + m = Fs.length → playD fac0 (layF Fs) twoD (leftT m k) [G] = mfold G (Fs.drop k)
  | 0, k, G, h => by
    rw [List.drop_eq_nil_of_le (by omega)]
    rfl
  | m + 1, k, G, h => by
    have hk : k < Fs.length := by omega
    have ek : Fs.getD k fac0 = Fs[k] := by rw [List.getD_eq_getElem?_getD, List.getElem?_eq_getElem hk]; rfl
    rw [List.drop_eq_getElem_cons hk, ← ek]
    show playD fac0 (layF Fs) twoD ((k : Int) :: -1 :: leftT m (k + 1)) [G] = if (twoD G (Fs.getD k fac0)).2 ≠ 0 then (fac0, (twoD G (Fs.getD k fac0)).2) else mfold (twoD G (Fs.getD k fac0)).1 (Fs.drop (k + 1))
    rw [play_push _ _ _ _ _ (by omega)]
    by_cases c : (Fs.getD k fac0).ok = true
    · have e1 : layF Fs (k : Int) = (Fs.getD k fac0, 0) := by unfold layF; rw [Int.toNat_natCast, if_pos c]
      rw [e1, if_neg (by simp), play_join]
      show (if (twoD G (Fs.getD k fac0)).2 ≠ 0 then (fac0, (twoD G (Fs.getD k fac0)).2) else playD fac0 (layF Fs) twoD (leftT m (k + 1)) [(twoD G (Fs.getD k fac0)).1]) = _
      by_cases c2 : (twoD G (Fs.getD k fac0)).2 ≠ 0
      · rw [if_pos c2, if_pos c2]
      · rw [if_neg c2, if_neg c2]
        exact play_left Fs m (k + 1) _ (by omega)
    · have e1 : layF Fs (k : Int) = (fac0, 1) := by unfold layF; rw [Int.toNat_natCast, if_neg c]
      have e2 : twoD G (Fs.getD k fac0) = (fac0, 1) := twoD_early (by unfold twoEarly; rw [if_pos (.inr (by simpa using c))]) (by decide)
      rw [e1, e2, if_pos (by simp), if_pos (by simp)]
theorem left_checks {n : Nat} (h1 : 1 ≤ n) (h8 : n < 9) : pcheckD (leftL n) n = 0 := by
  have := makes_ok n h8 h1
  unfold makesOk at this
  simp only [Bool.and_eq_true, decide_eq_true_eq] at this
  exact this.1.1.1.1.1.1.1.1.1.1.1.1.1
/-- THE PLAIN LAW of PlanLeft -/
theorem run_left {Fs : List FacD} (h1 : 1 ≤ Fs.length) (h8 : Fs.length < 9) : runD (leftD Fs.length) Fs = mallD Fs := by
  have hm : mayP (Fs.length : Int) = true := by unfold mayP; simp; omega
  unfold runD leftD
  rw [if_pos hm, Int.toNat_natCast, left_checks h1 h8, if_neg (by decide), left_unroll _ h8 h1]
  obtain ⟨A, Bs, rfl⟩ : ∃ A Bs, Fs = A :: Bs := by
    cases Fs with
    | nil => cases h1
    | cons A Bs => exact ⟨A, Bs, rfl⟩
  rw [play_push _ _ _ _ _ (by decide)]
  have e0 : layF (A :: Bs) 0 = if A.ok = true then (A, 0) else (fac0, 1) := rfl
  rw [e0]
  show _ = if A.ok = false then (fac0, 1) else mfold A Bs
  cases hA : A.ok with
  | false => simp
  | true =>
    rw [if_pos rfl, if_neg (by simp), if_neg (by simp)]
    exact play_left (A :: Bs) _ 1 A (by simp; omega)

theorem twoL_ok {c : Nat} {bx : List (Option Nat)} {rws trn : Int} : ∀ (n i : Nat) (gx : List (Option Nat)) (G : FacD), checkP (c : Int) gx rws trn = true → twoLoop c bx n i ⟨(c : Int), gx, rws, trn⟩ = (G, true) → checkP (c : Int) G.xs rws trn = true
  | 0, i, gx, G, hck, h => by
    have hG : (⟨(c : Int), gx, rws, trn⟩ : FacD) = G := (Prod.mk.inj h).1
    subst hG
    exact hck
  | n + 1, i, gx, G, hck, h => by
    rcases two_step h with ⟨_, e⟩ | ⟨gy, e, h2⟩
    · cases e
    · have hok := (lineD_ok (by rw [e])).1
      rw [e] at hok
      exact twoL_ok n (i + 1) gy G hok h2
theorem checkP_re {c : Int} {xs : List (Option Nat)} {r t r' t' : Int} (h : checkP c xs r t = true) (h0 : 0 ≤ r') (h1 : r' ≤ 200) (h2 : 0 ≤ t') (h3 : t' ≤ 4096) : checkP c xs r' t' = true := by
  unfold checkP at h ⊢
  simp only [Bool.and_eq_true, decide_eq_true_eq] at h ⊢
  exact ⟨⟨⟨⟨⟨h.1.1.1.1.1, h0⟩, h1⟩, h2⟩, h3⟩, h.2⟩
theorem twoD_tells {A B : FacD} {C : Int} (hA : A.ok = true) (hB : B.ok = true) (cA : A.cols = C) (cB : B.cols = C) :
    (cntAdd C (A.rws, A.trn) (B.rws, B.trn) = ((0, 0), 6) ∧ (twoD A B).2 = 6) ∨
    (cntAdd C (A.rws, A.trn) (B.rws, B.trn) = ((A.rws + B.rws, max A.trn B.trn + sizeI C), 0) ∧ ((twoD A B).2 = 2 ∨ ((twoD A B).2 = 0 ∧ (twoD A B).1.ok = true ∧ (twoD A B).1.cols = C ∧ (twoD A B).1.rws = A.rws + B.rws ∧ (twoD A B).1.trn = max A.trn B.trn + sizeI C))) := by
  obtain ⟨a0, a1, a2, a3⟩ := ok_rows hA
  obtain ⟨b0, b1, b2, b3⟩ := ok_rows hB
  obtain ⟨c1, c6⟩ := ok_cols hA
  rw [cA] at c1 c6
  have hs := sizeI_in c1 c6
  have hE : twoEarly A B = if 200 < A.rws + B.rws ∨ 4096 < max A.trn B.trn + sizeI C then 6 else 0 := by
    unfold twoEarly
    rw [if_neg (by rw [hA, hB]; simp), if_neg (by rw [cA, cB]; simp), cA]
  have hN : cntOk (A.rws + B.rws, max A.trn B.trn + sizeI C) = !decide (200 < A.rws + B.rws ∨ 4096 < max A.trn B.trn + sizeI C) := by
    rw [Bool.eq_iff_iff]
    unfold cntOk
    simp only [Bool.and_eq_true, decide_eq_true_eq, Bool.not_eq_true', decide_eq_false_iff_not]
    omega
  unfold cntAdd
  dsimp only
  rw [hN]
  by_cases c : 200 < A.rws + B.rws ∨ 4096 < max A.trn B.trn + sizeI C
  · refine .inl ⟨?_, ?_⟩
    · rw [decide_eq_true c]; rfl
    · rw [if_pos c] at hE
      rw [twoD_early hE (by decide)]
  · refine .inr ⟨by rw [decide_eq_false c]; rfl, ?_⟩
    rw [if_neg c] at hE
    rw [twoD_loop hE rfl]
    obtain ⟨ac, ax, ar, at'⟩ := A
    dsimp only at *
    subst cA
    obtain ⟨k, rfl⟩ : ∃ k : Nat, ac = (k : Int) := ⟨ac.toNat, by omega⟩
    rw [Int.toNat_natCast]
    cases hT : (twoLoop k B.xs (k + 1) 0 ⟨(k : Int), ax, ar, at'⟩).2 with
    | false => rw [if_pos rfl]; exact .inl rfl
    | true =>
      rw [if_neg (by simp)]
      refine .inr ⟨rfl, ?_, rfl, rfl, rfl⟩
      have hL : twoLoop k B.xs (k + 1) 0 ⟨(k : Int), ax, ar, at'⟩ = ((twoLoop k B.xs (k + 1) 0 ⟨(k : Int), ax, ar, at'⟩).1, true) := Prod.ext rfl hT
      have hK := twoL_ok _ _ _ _ hA hL
      dsimp only at hK
      show checkP (k : Int) _ (ar + B.rws) (max at' B.trn + sizeI (k : Int)) = true
      exact checkP_re hK (by omega) (by omega) (by omega) (by omega)

theorem play_zero {T : Type} {z : T} {lay : Int → T × Int} {add : T → T → T × Int} : ∀ (l : List Int) (st : List T), (playD z lay add l st).2 ≠ 0 → (playD z lay add l st).1 = z
  | [], st, h => absurd rfl h
  | k :: t, st, h => by
    by_cases ek : k = -1
    · subst ek
      rw [play_join] at h ⊢
      by_cases c : (add (st.getD (st.length - 2) z) (st.getD (st.length - 1) z)).2 ≠ 0
      · rw [if_pos c]
      · rw [if_neg c] at h ⊢
        exact play_zero _ _ h
    · rw [play_push _ _ _ _ _ ek] at h ⊢
      by_cases c : (lay k).2 ≠ 0
      · rw [if_pos c]
      · rw [if_neg c] at h ⊢
        exact play_zero _ _ h
/-- what the counts tell of the factor -/
def CntRel (f : FacD × Int) (c : (Int × Int) × Int) : Prop := if f.2 = 0 then c = ((f.1.rws, f.1.trn), 0) else (c.2 ≠ 0 → c.1 = (0, 0)) ∧ (f.2 = 2 ∨ f.2 = c.2)
theorem sim_play {Fs : List FacD} {C : Int} {rows turns : List Int} : ∀ (l : List Int) (st : List FacD), (∀ F ∈ st, F.ok = true ∧ F.cols = C) →
    (∀ k ∈ l, k ≠ -1 → (Fs.getD k.toNat fac0).ok = true ∧ (Fs.getD k.toNat fac0).cols = C ∧ rows.getD k.toNat 0 = (Fs.getD k.toNat fac0).rws ∧ turns.getD k.toNat 0 = (Fs.getD k.toNat fac0).trn) → htsP st.length l = some 1 →
    CntRel (playD fac0 (layF Fs) twoD l st) (playD (0, 0) (layC rows turns) (cntAdd C) l (st.map fun F => (F.rws, F.trn)))
  | [], st, hst, hl, hh => by
    have : (st.length : Int) = 1 := Option.some.inj hh
    obtain ⟨F, rfl⟩ := List.length_eq_one_iff.1 (by omega : st.length = 1)
    unfold CntRel playD
    rw [if_pos rfl]; rfl
  | k :: t, st, hst, hl, hh => by
    have ht : ∀ j ∈ t, j ≠ -1 → _ := fun j hj => hl j (List.mem_cons_of_mem _ hj)
    unfold htsP at hh
    by_cases ek : k = -1
    · subst ek
      rw [if_pos rfl] at hh
      by_cases c2 : (st.length : Int) < 2
      · rw [if_pos c2] at hh; cases hh
      rw [if_neg c2] at hh
      have hlen : 2 ≤ st.length := by omega
      have mem : ∀ i, i < st.length → st.getD i fac0 ∈ st := fun i hi => by rw [List.getD_eq_getElem?_getD, List.getElem?_eq_getElem hi]; exact List.getElem_mem hi
      have mp : ∀ i, i < st.length → (st.map fun F => (F.rws, F.trn)).getD i (0, 0) = ((st.getD i fac0).rws, (st.getD i fac0).trn) := fun i hi => by
        simp [List.getD_eq_getElem?_getD, List.getElem?_eq_getElem hi]
      obtain ⟨p1, p2⟩ := hst _ (mem (st.length - 2) (by omega))
      obtain ⟨q1, q2⟩ := hst _ (mem (st.length - 1) (by omega))
      rw [play_join, play_join, List.length_map, mp _ (by omega), mp _ (by omega)]
      have T := twoD_tells p1 q1 p2 q2
      generalize twoD (st.getD (st.length - 2) fac0) (st.getD (st.length - 1) fac0) = G at *
      rcases T with ⟨e1, e2⟩ | ⟨e1, e2 | ⟨e2, e3, e4, e5, e6⟩⟩
      · rw [e1, e2, if_pos (by decide), if_pos (by decide)]
        unfold CntRel
        rw [if_neg (by decide)]
        exact ⟨fun _ => rfl, .inr rfl⟩
      · rw [e2, if_pos (by decide)]
        unfold CntRel
        rw [if_neg (by decide)]
        refine ⟨?_, .inl rfl⟩
        rw [e1, if_neg (by simp)]
        exact play_zero _ _
      · rw [e2, if_neg (by simp), e1, if_neg (by simp)]
        have key := sim_play t (st.take (st.length - 2) ++ [G.1]) (fun F hF => by
          rcases List.mem_append.1 hF with hF | hF
          · exact hst F (List.mem_of_mem_take hF)
          · rw [List.mem_singleton.1 hF]; exact ⟨e3, e4⟩) ht (by
          rw [List.length_append, List.length_take, List.length_singleton]
          rw [show ((min (st.length - 2) st.length + 1 : Nat) : Int) = (st.length : Int) - 1 by omega]
          exact hh)
        rw [List.map_append, List.map_take, List.map_singleton, e5, e6] at key
        exact key
    · rw [if_neg ek] at hh
      obtain ⟨h1, h2, h3, h4⟩ := hl k List.mem_cons_self ek
      rw [play_push _ _ _ _ _ ek, play_push _ _ _ _ _ ek]
      have e1 : layF Fs k = (Fs.getD k.toNat fac0, 0) := by unfold layF; rw [if_pos h1]
      have e2 : layC rows turns k = (((Fs.getD k.toNat fac0).rws, (Fs.getD k.toNat fac0).trn), 0) := by unfold layC; rw [h3, h4]
      rw [e1, e2, if_neg (by simp), if_neg (by simp)]
      have key := sim_play t (st ++ [Fs.getD k.toNat fac0]) (fun F hF => by
        rcases List.mem_append.1 hF with hF | hF
        · exact hst F hF
        · rw [List.mem_singleton.1 hF]; exact ⟨h1, h2⟩) ht (by
        rw [List.length_append, List.length_singleton]
        exact hh)
      rw [List.map_append, List.map_singleton] at key
      exact key
/-- THE PLAIN LAW of PlanCounts -/
theorem run_counts {l : List Int} {Fs : List FacD} {C : Int} (h0 : 1 ≤ Fs.length) (hF : ∀ i, i < Fs.length → (Fs.getD i fac0).ok = true ∧ (Fs.getD i fac0).cols = C) :
    CntRel (runD l Fs) (countsD l C (Fs.map FacD.rws) (Fs.map FacD.trn)) := by
  obtain ⟨k1, k2⟩ := hF 0 (by omega)
  obtain ⟨c1, c6⟩ := ok_cols k1
  rw [k2] at c1 c6
  have hs := sizeI_in c1 c6
  have rw1 : ∀ i, i < Fs.length → (Fs.map FacD.rws).getD i 0 = (Fs.getD i fac0).rws := fun i hi => by simp [List.getD_eq_getElem?_getD, List.getElem?_eq_getElem hi]
  have rw2 : ∀ i, i < Fs.length → (Fs.map FacD.trn).getD i 0 = (Fs.getD i fac0).trn := fun i hi => by simp [List.getD_eq_getElem?_getD, List.getElem?_eq_getElem hi]
  have n1 : ¬ (sizeI C = 0 ∨ (Fs.map FacD.rws).length ≠ (Fs.map FacD.trn).length) := by rw [List.length_map, List.length_map]; omega
  have n2 : ¬ ((List.range (Fs.map FacD.rws).length).any fun k => !cntOk ((Fs.map FacD.rws).getD k 0, (Fs.map FacD.trn).getD k 0)) = true := by
    rw [List.any_eq_true, List.length_map]
    rintro ⟨i, hi, hb⟩
    have hi := List.mem_range.1 hi
    obtain ⟨a0, a1, a2, a3⟩ := ok_rows (hF i hi).1
    rw [rw1 i hi, rw2 i hi] at hb
    unfold cntOk at hb
    simp only [Bool.not_eq_true', Bool.and_eq_false_iff, decide_eq_false_iff_not] at hb
    omega
  have hcd : countsD l C (Fs.map FacD.rws) (Fs.map FacD.trn) = if pcheckD l Fs.length ≠ 0 then ((0, 0), 10) else playD (0, 0) (layC (Fs.map FacD.rws) (Fs.map FacD.trn)) (cntAdd C) l [] := by
    unfold countsD
    rw [if_neg n1, if_neg n2, List.length_map]
  rw [hcd]
  unfold runD
  by_cases c : pcheckD l Fs.length ≠ 0
  · rw [if_pos c, if_pos c]
    unfold CntRel
    rw [if_neg (by simp)]
    exact ⟨fun _ => rfl, .inr rfl⟩
  · rw [if_neg c, if_neg c]
    have hc : pcheckD l Fs.length = 0 := by simpa using c
    obtain ⟨i1, i2⟩ := pcheck_yes hc
    refine sim_play l [] (fun F hF => nomatch hF) (fun k hk hne => ?_) i2
    obtain ⟨i, hi, rfl⟩ := List.getElem_of_mem hk
    have hb := inP_at i1 hi
    rw [List.getD_eq_getElem?_getD, List.getElem?_eq_getElem hi] at hb
    have hb' : -1 ≤ l[i] ∧ l[i] < (Fs.length : Int) := hb
    have hlt : l[i].toNat < Fs.length := by omega
    exact ⟨(hF _ hlt).1, (hF _ hlt).2, rw1 _ hlt, rw2 _ hlt⟩
end Go.Proofs.YtnboegeljaplbaaGreat
namespace Go.Proofs.YtnboegeljaplbaaGreat
open Go.RowKit Lv Go.Shelf
attribute [local go_sem high] run_maxI

attribute [local go_sem] Oper.semAt_some

set_option maxRecDepth 100000 in
theorem rints_calls (a b : Option Addr) (n c m d : Nat) (xs ys : List Int) (w : World) (h : LI w (.slice a n c) xs) (h' : LI w (.slice b m d) ys) :
    Calls Tryz.prog 23 #[.slice a n c, .slice b m d] w fun e w' => e = .returned (.bool (decide (xs = ys))) ∧ Below w.heap.size w w' := by
  obtain ⟨l1, l2, l3⟩ := h.len
  obtain ⟨k1, k2, k3⟩ := h'.len
  have H := Lib.hid (And.intro h h')
  have HX := Lib.hid (And.intro l1 k1)
  clear h h' l1 k1
  go_enter Tryz.func23, Tryz.ntmps23
  by_cases e : n = m
  · have en : ((n : Int) != (m : Int)) = false := by simp [e]
    subst e
    go_wp2
    go_loopw [5] (fun s wr => ∃ k : Nat, s = .int .i64 (k : Int) ∧ k ≤ n ∧ Hid (LI wr (.slice a n c) xs ∧ LI wr (.slice b n d) ys ∧ xs.take k = ys.take k ∧ Below w.heap.size w wr)) (fun s _ => n - (intOf s).toNat)
    case atStart => exact ⟨0, rfl, Nat.zero_le _, H.out.1, H.out.2, rfl, Below.refl _ _⟩
    case round =>
      obtain ⟨k, rfl, hk, HR⟩ := hrel
      by_cases hlt : k < n
      · obtain ⟨blk, off, rfl, hc⟩ := HR.out.1.at (by omega)
        obtain ⟨blk', off', rfl, hc'⟩ := HR.out.2.1.at (by omega)
        have hx1 := hc k hlt
        have hy1 := hc' k hlt
        have hi : (k : Int) < (n : Int) := by omega
        clear hc hc'
        by_cases eq : xs.getD k 0 = ys.getD k 0
        · have hne : (xs.getD k 0 != ys.getD k 0) = false := by rw [eq]; simp
          have HQ := Lib.hid (show xs.take (k + 1) = ys.take (k + 1) by rw [take_snoc (by rw [HX.out.1]; exact hlt), take_snoc (by rw [HX.out.2]; exact hlt), HR.out.2.2.1, eq])
          clear eq
          generalize xs.getD k 0 = x at *
          generalize ys.getD k 0 = y at *
          go_wp2
          go_quiet (fail)
          go_wp2
          go_roundw
          case rel => exact ⟨k + 1, by go_num, by omega, HR.out.1.below (below_drewN (Below.refl _ _) _), HR.out.2.1.below (below_drewN (Below.refl _ _) _), HQ.out, below_drewN HR.out.2.2.2 _⟩
          case measure => simp [intOf]; omega
        · have hne : (xs.getD k 0 != ys.getD k 0) = true := bne_iff_ne.2 eq
          have hdec : decide (xs = ys) = false := decide_eq_false (fun e => eq (by rw [e]))
          clear eq
          have HDc := Lib.hid hdec
          clear hdec
          generalize xs.getD k 0 = x at *
          generalize ys.getD k 0 = y at *
          go_wp2
          go_quiet (fail)
          go_wp2
          go_ret
          exact ⟨ret_bool HDc.out.symm, below_drewN HR.out.2.2.2 _⟩
      · have hi : ¬ (k : Int) < (n : Int) := by omega
        have hdec : decide (xs = ys) = true := by
          obtain rfl : k = n := by omega
          have := HR.out.2.2.1
          rw [List.take_of_length_le (by rw [HX.out.1]; exact Nat.le_refl _), List.take_of_length_le (by rw [HX.out.2]; exact Nat.le_refl _)] at this
          exact decide_eq_true this
        have HDc := Lib.hid hdec
        clear hdec
        go_wp2
        go_ret
        exact ⟨ret_bool HDc.out.symm, HR.out.2.2.2⟩
  · have en : ((n : Int) != (m : Int)) = true := by simp; omega
    have hdec : decide (xs = ys) = false := decide_eq_false (fun e2 => e (by rw [← HX.out.1, ← HX.out.2, e2]))
    rw [hdec]
    go_wp2
    go_ret
    exact ⟨rfl, Below.refl _ _⟩
end Go.Proofs.YtnboegeljaplbaaGreat
namespace Go.Proofs.YtnboegeljaplbaaGreat
open Go.RowKit Lv Go.Shelf
attribute [local go_sem high] run_maxI

attribute [local go_sem] Oper.semAt_some

theorem take_snocI {l : List Int} {i : Nat} (hi : i < l.length) : l.take (i + 1) = l.take i ++ [l.getD i 0] := take_snoc hi
set_option maxRecDepth 100000 in
theorem indexI_calls (a : Option Addr) (n cap : Nat) (k : Int) (zs : List Int) (w : World) (h : LI w (.slice a n cap) zs) :
    Calls Tryz.prog 99 #[.slice a n cap, .int .i64 k] w fun e w' => (∃ r : Int, e = .returned (.int .i64 r) ∧ decide (0 ≤ r) = zs.contains k) ∧ w = w' := by
  obtain ⟨l1, l2, l3⟩ := h.len
  have H := Lib.hid h
  have HX := Lib.hid l1
  clear h l1
  go_enter Tryz.func99, Tryz.ntmps99
  go_wp2
  go_loopw [8] (fun s wr => ∃ i : Nat, s = .int .i64 (i : Int) ∧ i ≤ n ∧ Hid ((zs.take i).contains k = false ∧ wr = w)) (fun s _ => n - (intOf s).toNat)
  case atStart => exact ⟨0, rfl, Nat.zero_le _, rfl, rfl⟩
  case round =>
    obtain ⟨i, rfl, hi, HR⟩ := hrel
    obtain rfl := HR.out.2
    by_cases hlt : i < n
    · obtain ⟨blk, off, rfl, hc⟩ := H.out.at (by omega)
      have hx1 := hc i hlt
      have hii : (i : Int) < (n : Int) := by omega
      have htk := take_snocI (l := zs) (i := i) (by rw [HX.out]; exact hlt)
      clear hc
      by_cases eq : k = zs.getD i 0
      · have hm : zs.contains k = true := by
          rw [List.contains_iff_mem]
          refine List.mem_of_mem_take (i := i + 1) ?_
          rw [htk, ← eq]; simp
        rw [← eq] at hx1
        have HM := Lib.hid hm
        clear htk eq hm
        go_wp2
        go_ret
        exact ⟨⟨_, rfl, by rw [← List.contains_iff_mem, HM.out]; simp⟩, rfl⟩
      · have hne : (k == zs.getD i 0) = false := beq_eq_false_iff_ne.2 eq
        have HT := Lib.hid (show (zs.take (i + 1)).contains k = false by
          rw [htk, List.contains_eq_any_beq, List.any_append, ← List.contains_eq_any_beq, HR.out.1]
          rw [List.any_cons, List.any_nil, beq_eq_false_iff_ne.2 eq]; rfl)
        clear htk eq
        generalize zs.getD i 0 = x at *
        go_wp2
        go_roundw
        case rel => exact ⟨i + 1, by go_num, by omega, HT.out, trivial⟩
        case measure => simp [intOf]; omega
    · have hii : ¬ (i : Int) < (n : Int) := by omega
      obtain rfl : i = n := by omega
      have hm := HR.out.1
      rw [List.take_of_length_le (by rw [HX.out]; exact Nat.le_refl _)] at hm
      have HM := Lib.hid hm
      clear hm
      go_wp2
      go_ret
      exact ⟨⟨_, rfl, by rw [← List.contains_iff_mem, HM.out]; decide⟩, rfl⟩
theorem contI_calls (a : Option Addr) (n cap : Nat) (k : Int) (zs : List Int) (w : World) (h : LI w (.slice a n cap) zs) :
    Calls Tryz.prog 64 #[.slice a n cap, .int .i64 k] w fun e w' => e = .returned (.bool (zs.contains k)) ∧ w = w' := by
  have L := Lib.hid (indexI_calls a n cap k zs w h)
  clear h
  generalize zs.contains k = t at *
  go_enter Tryz.func64, Tryz.ntmps64
  go_wp2_with (go_at_call 99; refine L.out.mono ?_; rintro e w' ⟨⟨r, rfl, hr⟩, rfl⟩)
  go_ret
  subst hr
  exact ⟨rfl, rfl⟩
def maxL : List Int → Int
  | [] => 0
  | z :: t => t.foldl max z
theorem maxL_snoc {l : List Int} (h : l ≠ []) (k : Int) : maxL (l ++ [k]) = max (maxL l) k := by
  cases l with
  | nil => exact absurd rfl h
  | cons z t => show (t ++ [k]).foldl max z = _; rw [List.foldl_append]; rfl
set_option maxRecDepth 100000 in
theorem maxI_calls (a : Option Addr) (n cap : Nat) (zs : List Int) (w : World) (h : LI w (.slice a n cap) zs) (hn : 0 < n) :
    Calls Tryz.prog 66 #[.slice a n cap] w fun e w' => e = .returned (.int .i64 (maxL zs)) ∧ w = w' := by
  obtain ⟨l1, l2, l3⟩ := h.len
  obtain ⟨blk, off, rfl, hc⟩ := h.at hn
  have hx0 := hc 0 hn
  rw [Nat.add_zero] at hx0
  have HC := Lib.hid hc
  have HX := Lib.hid l1
  have hnn : ¬ (n : Int) < 1 := by omega
  have h0n : (0 : Int) < (n : Int) := by omega
  have HM0 := Lib.hid (show zs.getD 0 0 = maxL (zs.take 1) by
    cases zs with
    | nil => simp at l1; omega
    | cons z t => rfl)
  clear h l1 hc
  go_enter Tryz.func66, Tryz.ntmps66
  go_wp2
  clear hx0
  go_loopw [3, 4] (fun s3 s4 wr => ∃ i : Nat, s4 = .int .i64 (i : Int) ∧ s3 = .int .i64 (maxL (zs.take i)) ∧ 1 ≤ i ∧ i ≤ n ∧ wr = w) (fun _ s4 _ => n - (intOf s4).toNat)
  case atStart => exact ⟨1, rfl, congrArg (Value.int .i64) HM0.out, Nat.le_refl _, by omega, rfl⟩
  case round =>
    obtain ⟨i, rfl, rfl, h1, hi, rfl⟩ := hrel
    by_cases hlt : i < n
    · have hx1 := HC.out i hlt
      have hii : (i : Int) < (n : Int) := by omega
      have HT := Lib.hid (show maxL (zs.take (i + 1)) = max (maxL (zs.take i)) (zs.getD i 0) by
        rw [take_snocI (by rw [HX.out]; exact hlt), maxL_snoc (fun e => by
          have := congrArg List.length e
          rw [List.length_take, HX.out] at this
          simp at this; omega)])
      generalize zs.getD i 0 = x at *
      generalize maxL (zs.take i) = m at *
      go_wp2
      go_roundw
      case rel => exact ⟨i + 1, by go_num, by rw [HT.out], by omega, by omega, trivial⟩
      case measure => simp [intOf]; omega
    · have hii : ¬ (i : Int) < (n : Int) := by omega
      obtain rfl : i = n := by omega
      have HM := Lib.hid (show maxL (zs.take i) = maxL zs by rw [List.take_of_length_le (by rw [HX.out]; exact Nat.le_refl _)])
      generalize maxL (zs.take i) = m at *
      go_wp2
      go_ret
      exact ⟨ret_int HM.out, rfl⟩

/-- a step's value -/
def stepV (k : Int) : Value := if k = -1 then .iface 118 (.agg #[]) else .iface 67 (.agg #[.int .i64 k])
theorem mkJoin (x : Value) (w : World) : (Instr.makeInterface 118 x).run Tryz.prog w = .ok (.iface 118 x) w := run_makeInterface w 118 x (by kernel_rfl)
theorem mkPush (x : Value) (w : World) : (Instr.makeInterface 67 x).run Tryz.prog w = .ok (.iface 67 x) w := run_makeInterface w 67 x (by kernel_rfl)
theorem infoS : (Tryz.prog.info? 65).map (fun i => (i.zero, i.size, i.bytes)) = some (some .nilIface, 1, 16) := by kernel_rfl
attribute [local go_sem] mkJoin mkPush

theorem cell_new (w : World) (u : Value) (t : TypeId) : ∀ j v, [u][j]? = some v → (w.alloc (.cells #[u] t)).cell? ((⟨w.heap.size, 0, none⟩ : Addr).add j) = some v := by
  intro j v hv
  obtain rfl : j = 0 := by
    have := (List.getElem?_eq_some_iff.1 hv).1
    simp at this; omega
  cases hv
  simp [go_sem]
theorem one_new {u : Value} (h : u.oneCell' = true) : ∀ v ∈ [u], v.oneCell' = true := by
  intro v hv
  cases List.mem_singleton.1 hv
  exact h
set_option maxRecDepth 100000 in
theorem psteps_calls (a : Option Addr) (n cap : Nat) (zs : List Int) (w : World) (h : LI w (.slice a n cap) zs) (hl : zs.length ≤ 100) :
    Calls Tryz.prog 32 #[.slice a n cap] w fun e w' => (∃ v, e = .returned v ∧ OwnC w' w.heap.size 65 v (zs.map stepV)) ∧ Below w.heap.size w w' := by
  obtain ⟨l1, l2, l3⟩ := h.len
  have H := Lib.hid h
  have HX := Lib.hid l1
  have HL := Lib.hid hl
  clear h l1 hl
  go_enter Tryz.func32, Tryz.ntmps32
  go_wp2
  go_loopw [3, 8] (fun s3 s8 wr => ∃ i : Nat, s8 = .int .i64 (i : Int) ∧ i ≤ n ∧ Hid (OwnC wr w.heap.size 65 s3 ((zs.take i).map stepV) ∧ Below w.heap.size w wr)) (fun _ s8 _ => n - (intOf s8).toNat)
  case atStart => exact ⟨0, rfl, Nat.zero_le _, ownC_nil _ _ _, Below.refl _ _⟩
  case round =>
    obtain ⟨i, rfl, hi, HR⟩ := hrel
    by_cases hlt : i < n
    · obtain ⟨blk, off, rfl, hc⟩ := (H.out.below HR.out.2).at (by omega)
      have hx1 := hc i hlt
      have hii : (i : Int) < (n : Int) := by omega
      have hsz := Lib.hid HR.out.2.size
      have HT := Lib.hid (show (zs.take (i + 1)).map stepV = (zs.take i).map stepV ++ [stepV (zs.getD i 0)] by rw [take_snocI (by rw [HX.out]; exact hlt), List.map_append]; rfl)
      have hlen : Hid (((zs.take i).map stepV).length + 1 ≤ 1000) := by unfold Hid; rw [List.length_map, List.length_take]; have := HL.out; omega
      clear hc
      generalize zs.getD i 0 = k at *
      have HB := Lib.hid (fun e (he : u3.ownBlock = some e) => HR.out.1.base e he)
      by_cases ek : k = -1
      · subst ek
        have HT2 := HT.out
        rw [show stepV (-1) = .iface 118 (.agg #[]) from rfl] at HT2
        have HT3 := Lib.hid HT2
        clear HT HT2
        go_wp2_with (at_builtin; go_must (refine wpList_append_C _ rfl _ _ 65 62 _ 16 infoS rfl (by decide) Tryz.underlying62 rfl w.heap.size _ _ [.iface 118 (.agg #[])] rfl (HR.out.1.below ((Below.refl _ _).alloc (Nat.le_refl _) (.cells #[.iface 118 (.agg #[])] 65)) (Nat.le_refl _)) _ _ _ rfl (cell_new _ _ _) (one_new rfl) hlen.out rfl (by have := hsz.out; simp; omega) ?_; intro v9 w3 hown9 hg9))
        rw [← HT3.out] at hown9
        have hBe : Below w.heap.size w w3 := (HR.out.2.alloc hsz.out (.cells #[.iface 118 (.agg #[])] 65)).grown hg9 (by have := hsz.out; simp; omega) HB.out
        go_roundw
        case rel => exact ⟨i + 1, by go_num, by omega, hown9, hBe⟩
        case measure => simp [intOf]; omega
      · have hne : (k == -1) = false := beq_eq_false_iff_ne.2 ek
        have HT2 := HT.out
        rw [show stepV k = .iface 67 (.agg #[.int .i64 k]) from if_neg ek] at HT2
        have HT3 := Lib.hid HT2
        clear HT HT2
        go_wp2_with (at_builtin; go_must (refine wpList_append_C _ rfl _ _ 65 62 _ 16 infoS rfl (by decide) Tryz.underlying62 rfl w.heap.size _ _ [.iface 67 (.agg #[.int .i64 k])] rfl (HR.out.1.below ((Below.refl _ _).alloc (Nat.le_refl _) (.cells #[.iface 67 (.agg #[.int .i64 k])] 65)) (Nat.le_refl _)) _ _ _ rfl (cell_new _ _ _) (one_new rfl) hlen.out rfl (by have := hsz.out; simp; omega) ?_; intro v9 w3 hown9 hg9))
        rw [← HT3.out] at hown9
        have hBe : Below w.heap.size w w3 := (HR.out.2.alloc hsz.out (.cells #[.iface 67 (.agg #[.int .i64 k])] 65)).grown hg9 (by have := hsz.out; simp; omega) HB.out
        go_roundw
        case rel => exact ⟨i + 1, by go_num, by omega, hown9, hBe⟩
        case measure => simp [intOf]; omega
    · have hii : ¬ (i : Int) < (n : Int) := by omega
      obtain rfl : i = n := by omega
      have HM := Lib.hid HR.out.1
      rw [List.take_of_length_le (by rw [HX.out]; exact Nat.le_refl _)] at HM
      go_wp2
      go_ret
      exact ⟨⟨_, rfl, HM.out⟩, HR.out.2⟩

theorem as_jj (v : Value) (w : World) : (Instr.typeAssert (.iface 118 v) 65 118 true).run Tryz.prog w = .ok (.tuple #[v, .bool true]) w := by kernel_rfl
theorem as_pj (v : Value) (w : World) : (Instr.typeAssert (.iface 67 v) 65 118 true).run Tryz.prog w = .ok (.tuple #[.agg #[], .bool false]) w := by kernel_rfl
theorem as_pp (v : Value) (w : World) : (Instr.typeAssert (.iface 67 v) 65 67 true).run Tryz.prog w = .ok (.tuple #[v, .bool true]) w := by kernel_rfl
theorem as_jp (v : Value) (w : World) : (Instr.typeAssert (.iface 118 v) 65 67 true).run Tryz.prog w = .ok (.tuple #[.agg #[.int .i64 0], .bool false]) w := by kernel_rfl
theorem grows_j (v : Value) (w : World) : (method 300 118 v "levelling/plan.grows").run Tryz.prog w = .ok (155, v) w := by kernel_rfl
theorem grows_p (v : Value) (w : World) : (method 300 67 v "levelling/plan.grows").run Tryz.prog w = .ok (154, v) w := by kernel_rfl
theorem joing_calls (w : World) : Calls Tryz.prog 155 #[.agg #[]] w fun e w' => e = .returned (.int .i64 (-1)) ∧ Below w.heap.size w w' := by
  go_enter Tryz.func155, Tryz.ntmps155
  go_wp2
  go_ret
  exact ⟨rfl, (Below.refl _ _).alloc (Nat.le_refl _) _⟩
theorem pushg_calls (k : Int) (w : World) : Calls Tryz.prog 154 #[.agg #[.int .i64 k]] w fun e w' => e = .returned (.int .i64 1) ∧ Below w.heap.size w w' := by
  go_enter Tryz.func154, Tryz.ntmps154
  go_wp2
  go_ret
  exact ⟨rfl, (Below.refl _ _).alloc (Nat.le_refl _) _⟩
attribute [local go_sem] as_jj as_pj as_pp as_jp grows_j grows_p

theorem step_form {w : World} {B : Nat} {e : TypeId} {v : Value} {l : List Int} {n : Nat} (h : OwnC w B e v (l.map stepV)) (hl : l.length = n) : ∃ a c, v = .slice a n c := by
  obtain ⟨a, c, hv⟩ := h.cel.form
  exact ⟨a, c, by rw [hv, List.length_map, hl]⟩
theorem step_at {w : World} {a : Option Addr} {n cap : Nat} {ls : List Int} (h : Cel w (.slice a n cap) (ls.map stepV)) (hn : 0 < n) : ∃ blk off, a = some ⟨blk, off, none⟩ ∧ ∀ i, i < n → w.cell? ⟨blk, off + i, none⟩ = some (stepV (ls.getD i 0)) := by
  obtain ⟨blk, off, e, hc⟩ := h.at hn
  have hl := h.len.1
  rw [List.length_map] at hl
  refine ⟨blk, off, e, fun i hi => ?_⟩
  rw [hc i hi, List.getElem?_map, List.getElem?_eq_getElem (by omega), List.getD_eq_getElem?_getD, List.getElem?_eq_getElem (by omega)]
  rfl
set_option maxRecDepth 100000 in
theorem pheights_calls (a : Option Addr) (n cap : Nat) (ls : List Int) (w : World) (h : Cel w (.slice a n cap) (ls.map stepV)) (hl : ls.length ≤ 100) :
    Calls Tryz.prog 65 #[.slice a n cap] w fun e w' => (∃ v, e = .returned (.tuple #[v, .bool (decide (htsP 0 ls = some 1))]) ∧ (htsP 0 ls ≠ none → OwnI w' w.heap.size v (runH 0 ls))) ∧ Below w.heap.size w w' := by
  obtain ⟨l1, l2, l3⟩ := h.len
  rw [List.length_map] at l1
  have H := Lib.hid h
  have HX := Lib.hid l1
  have HL := Lib.hid hl
  clear h l1 hl
  generalize hT : decide (htsP 0 ls = some 1) = tt
  have HTT := Lib.hid hT
  clear hT
  go_enter Tryz.func65, Tryz.ntmps65
  go_wp2
  go_loopw [4, 5, 12] (fun s4 s5 s12 wr => ∃ (i : Nat) (x : Int), s12 = .int .i64 (i : Int) ∧ s5 = .int .i64 x ∧ i ≤ n ∧ 0 ≤ x ∧ x ≤ i ∧ Hid (OwnI wr w.heap.size s4 (runH 0 (ls.take i)) ∧ htsP 0 (ls.take i) = some x ∧ Below w.heap.size w wr)) (fun _ _ s12 _ => n - (intOf s12).toNat)
  case atStart => exact ⟨0, 0, rfl, rfl, Nat.zero_le _, by omega, by omega, ownI_nil _ _, rfl, Below.refl _ _⟩
  case round =>
    obtain ⟨i, x, rfl, rfl, hi, hx0, hxi, HR⟩ := hrel
    by_cases hlt : i < n
    · obtain ⟨blk, off, rfl, hc⟩ := step_at (H.out.below HR.out.2.2) (by omega)
      have hx1 := hc i hlt
      have hii : (i : Int) < (n : Int) := by omega
      have hi100 : (i : Int) ≤ 100 := by have := HX.out; have := HL.out; omega
      have hsz := Lib.hid HR.out.2.2.size
      have htk := take_snocI (l := ls) (i := i) (by rw [HX.out]; exact hlt)
      have HN := Lib.hid (htsP_net 0 _ _ HR.out.2.1)
      have hlen : Hid ((runH 0 (ls.take i)).length + 1 ≤ 1000) := by unfold Hid; rw [runH_len, List.length_take]; have := HL.out; omega
      have HB := Lib.hid (fun e (he : u4.ownBlock = some e) => HR.out.1.base e he)
      clear hc
      have HK := Lib.hid (htsP_snoc 0 (ls.take i) (ls.getD i 0))
      have HRU := Lib.hid (runH_snoc 0 (ls.take i) (ls.getD i 0))
      rw [← htk, HR.out.2.1] at HK
      rw [← htk, HN.out] at HRU
      have HDR := Lib.hid (fun (e : htsP 0 (ls.take (i + 1)) = none) => hts_none e)
      clear htk
      generalize ls.getD i 0 = k at *
      by_cases ek : k = -1
      · subst ek
        rw [show stepV (-1) = .iface 118 (.agg #[]) from rfl] at hx1
        by_cases hx2 : x < 2
        · have HZ := Lib.hid (show htsP 0 ls = none from HDR.out (by rw [HK.out]; show (if (-1 : Int) = -1 then (if x < 2 then none else some (x - 1)) else some (x + 1)) = none; rw [if_pos rfl, if_pos hx2]))
          go_wp2
          exact bodyPost_ret (v := .tuple #[.slice none 0 0, .bool false]) (by simp [results, Tryz.results65, go_sem]) rfl ⟨⟨_, by rw [← HTT.out, HZ.out]; rfl, fun e => absurd HZ.out e⟩, HR.out.2.2.alloc hsz.out _⟩
        · have HK2 := Lib.hid (show htsP 0 (ls.take (i + 1)) = some (x + -1) by rw [HK.out]; show (if (-1 : Int) = -1 then (if x < 2 then none else some (x - 1)) else some (x + 1)) = _; rw [if_pos rfl, if_neg hx2, Int.sub_eq_add_neg])
          have HR2 := Lib.hid (show runH 0 (ls.take (i + 1)) = runH 0 (ls.take i) ++ [x + -1] by rw [HRU.out, if_pos rfl, Int.sub_eq_add_neg])
          clear HK HRU
          go_wp2_with (first
            | (go_at_call 155; refine (joing_calls _).mono ?_; rintro e w2 ⟨rfl, hb2⟩; have hC2 := Lib.hid (((Below.refl wr.heap.size wr).alloc (Nat.le_refl _) (.cells #[] 118)).trans (hb2.mono (by simp))); have hsz1 : Hid (wr.heap.size ≤ wr.heap.size) := Nat.le_refl _; have hsz2 := Lib.hid (Nat.le_trans hsz.out hC2.out.size); clear hb2)
            | (at_builtin; go_must (refine wpList_append_I _ rfl _ _ rfl w.heap.size _ _ [_] rfl ((HR.out.1.below hC2.out hsz1.out).below ((Below.refl _ _).alloc (Nat.le_refl _) _) (Nat.le_refl _)) _ _ _ rfl (li_one _ _) hlen.out (by have := hsz2.out; simp; omega) ?_; intro v9 w3 hown9 hg9)))
          rw [← HR2.out] at hown9
          have hBe : Below w.heap.size w w3 := ((HR.out.2.2.trans (hC2.out.mono hsz.out)).alloc hsz2.out _).grown hg9 (by have := hsz2.out; simp; omega) HB.out
          go_roundw
          case rel => exact ⟨i + 1, _, by go_num, rfl, by omega, by omega, by omega, hown9, HK2.out, hBe⟩
          case measure => simp [intOf]; omega
      · have HK2 := Lib.hid (show htsP 0 (ls.take (i + 1)) = some (x + 1) by rw [HK.out]; show (if k = -1 then (if x < 2 then none else some (x - 1)) else some (x + 1)) = _; rw [if_neg ek])
        have HR2 := Lib.hid (show runH 0 (ls.take (i + 1)) = runH 0 (ls.take i) ++ [x + 1] by rw [HRU.out, if_neg ek])
        clear HK HRU
        rw [show stepV k = .iface 67 (.agg #[.int .i64 k]) from if_neg ek] at hx1
        go_wp2_with (first
            | (go_at_call 154; refine (pushg_calls k _).mono ?_; rintro e w2 ⟨rfl, hb2⟩; have hC2 := Lib.hid (((Below.refl wr.heap.size wr).alloc (Nat.le_refl _) (.cells #[] 118)).trans (hb2.mono (by simp))); have hsz1 : Hid (wr.heap.size ≤ wr.heap.size) := Nat.le_refl _; have hsz2 := Lib.hid (Nat.le_trans hsz.out hC2.out.size); clear hb2)
            | (at_builtin; go_must (refine wpList_append_I _ rfl _ _ rfl w.heap.size _ _ [_] rfl ((HR.out.1.below hC2.out hsz1.out).below ((Below.refl _ _).alloc (Nat.le_refl _) _) (Nat.le_refl _)) _ _ _ rfl (li_one _ _) hlen.out (by have := hsz2.out; simp; omega) ?_; intro v9 w3 hown9 hg9)))
        rw [← HR2.out] at hown9
        have hBe : Below w.heap.size w w3 := ((HR.out.2.2.trans (hC2.out.mono hsz.out)).alloc hsz2.out _).grown hg9 (by have := hsz2.out; simp; omega) HB.out
        go_roundw
        case rel => exact ⟨i + 1, _, by go_num, rfl, by omega, by omega, by omega, hown9, HK2.out, hBe⟩
        case measure => simp [intOf]; omega
    · have hii : ¬ (i : Int) < (n : Int) := by omega
      obtain rfl : i = n := by omega
      have HM := Lib.hid HR.out.1
      have HM2 := Lib.hid HR.out.2.1
      rw [List.take_of_length_le (by rw [HX.out]; exact Nat.le_refl _)] at HM HM2
      have HQ := Lib.hid (show (x == 1) = tt by rw [← HTT.out, HM2.out]; by_cases e : x = 1 <;> simp [e])
      generalize hq : (x == 1) = qq at *
      go_wp2
      go_ret2
      exact ⟨⟨_, by rw [HQ.out]; rfl, fun _ => HM.out⟩, HR.out.2.2⟩

set_option maxRecDepth 100000 in
set_option maxHeartbeats 2000000 in
theorem pcheck_calls (a : Option Addr) (n cap : Nat) (sh : Int) (l : List Int) (w : World) (h : LI w (.slice a n cap) l) (hl : l.length ≤ 100) :
    Calls Tryz.prog 21 #[.slice a n cap, .int .i64 sh] w fun e w' => e = .returned (.int .i64 (pcheckD l sh)) ∧ Below w.heap.size w w' := by
  obtain ⟨l1, l2, l3⟩ := h.len
  have H := Lib.hid h
  have HX := Lib.hid l1
  have HL := Lib.hid hl
  clear h l1 hl
  generalize hT : pcheckD l sh = tt
  have HTT := Lib.hid hT
  clear hT
  go_enter Tryz.func21, Tryz.ntmps21
  go_wp2
  go_loopw [11] (fun s11 wr => ∃ (i : Nat), s11 = .int .i64 (i : Int) ∧ i ≤ n ∧ Hid ((∀ j, j < i → badAt l sh j = false) ∧ wr = w)) (fun s11 _ => n - (intOf s11).toNat)
  case atStart => exact ⟨0, rfl, Nat.zero_le _, fun j hj => absurd hj (Nat.not_lt_zero _), rfl⟩
  case round =>
    obtain ⟨i, rfl, hi, HR⟩ := hrel
    obtain rfl := HR.out.2
    by_cases hlt : i < n
    · obtain ⟨blk, off, rfl, hc⟩ := H.out.at (by omega)
      have hx1 := hc i hlt
      have hii : (i : Int) < (n : Int) := by omega
      have hic : (i : Int) ≤ (cap : Int) := by omega
      have HBD := Lib.hid (fun (e : badAt l sh i = true) => pcheck_in (inP_bad (by rw [HX.out]; exact hlt) e))
      have HC := Lib.hid (fun w' (hw : LI w' (.slice (some ⟨blk, off, none⟩) n cap) l) => contI_calls (some ⟨blk, off, none⟩) i cap (l.getD i 0) (l.take i) w' (hw.take hi))
      have HU := Lib.hid (show badAt l sh i = (decide (l.getD i 0 < -1) || decide (sh ≤ l.getD i 0) || (decide (0 ≤ l.getD i 0) && (l.take i).contains (l.getD i 0))) from rfl)
      clear hc
      generalize (l.take i).contains (l.getD i 0) = ct at *
      generalize l.getD i 0 = k at *
      by_cases c1 : k < -1
      · have HE := Lib.hid (HBD.out (by rw [HU.out, decide_eq_true c1]; rfl))
        go_wp2
        go_ret
        exact ⟨ret_int (by rw [← HTT.out, HE.out]), Below.refl _ _⟩
      · by_cases c2 : sh ≤ k
        · have HE := Lib.hid (HBD.out (by rw [HU.out, decide_eq_true c2, Bool.or_true]; rfl))
          go_wp2
          go_ret
          exact ⟨ret_int (by rw [← HTT.out, HE.out]), Below.refl _ _⟩
        · have HU2 : badAt l sh i = (decide (0 ≤ k) && ct) := by rw [HU.out, decide_eq_false c1, decide_eq_false c2]; rfl
          by_cases c3 : 0 ≤ k
          · rw [decide_eq_true c3, Bool.true_and] at HU2
            have HU3 := Lib.hid HU2
            clear HU2
            cases ct with
            | true =>
              have HE := Lib.hid (HBD.out HU3.out)
              go_wp2_with (go_at_call 64; go_must (refine (HC.out _ H.out).mono ?_; rintro e w2 ⟨rfl, rfl⟩))
              go_ret
              exact ⟨ret_int (by rw [← HTT.out, HE.out]), Below.refl _ _⟩
            | false =>
              go_wp2_with (go_at_call 64; go_must (refine (HC.out _ H.out).mono ?_; rintro e w2 ⟨rfl, rfl⟩))
              go_roundw
              case rel =>
                refine ⟨i + 1, by go_num, by omega, fun j hj => ?_, trivial⟩
                by_cases e : j = i
                · subst e; exact HU3.out
                · exact HR.out.1 j (by omega)
              case measure => simp [intOf]; omega
          · rw [decide_eq_false c3, Bool.false_and] at HU2
            have HU3 := Lib.hid HU2
            clear HU2
            go_wp2
            go_roundw
            case rel =>
              refine ⟨i + 1, by go_num, by omega, fun j hj => ?_, trivial⟩
              by_cases e : j = i
              · subst e; exact HU3.out
              · exact HR.out.1 j (by omega)
            case measure => simp [intOf]; omega
    · have hii : ¬ (i : Int) < (n : Int) := by omega
      obtain rfl : i = n := by omega
      have HP := Lib.hid (inP_all (l := l) (shards := sh) (by rw [HX.out]; exact HR.out.1))
      have HH := Lib.hid (fun a n c W (hc : Cel W (.slice a n c) (l.map stepV)) => pheights_calls a n c l W hc HL.out)
      cases hd : decide (htsP 0 l = some 1) with
      | false =>
        rw [hd] at HH
        have HE := Lib.hid (pcheck_hts (shards := sh) (of_decide_eq_false hd))
        clear hd
        go_wp2_with (first
          | (go_at_call 32; refine (psteps_calls _ i cap l _ H.out HL.out).mono ?_; rintro e w2 ⟨⟨v, rfl, hv⟩, hb2⟩; obtain ⟨va, vc, rfl⟩ := step_form hv HX.out; have HV := Lib.hid hv.cel; have HB2 := Lib.hid hb2; clear hv hb2)
          | (go_at_call 65; refine (HH.out _ _ _ _ HV.out).mono ?_; rintro e w3 ⟨⟨u, rfl, hu⟩, hb3⟩; have HB3 := Lib.hid hb3; clear hu hb3))
        go_ret
        exact ⟨ret_int (by rw [← HTT.out, HE.out]), HB2.out.trans (HB3.out.mono HB2.out.size)⟩
      | true =>
        rw [hd] at HH
        have HE := Lib.hid (show pcheckD l sh = 0 by unfold pcheckD; rw [if_pos ⟨HP.out, of_decide_eq_true hd⟩])
        clear hd
        go_wp2_with (first
          | (go_at_call 32; refine (psteps_calls _ i cap l _ H.out HL.out).mono ?_; rintro e w2 ⟨⟨v, rfl, hv⟩, hb2⟩; obtain ⟨va, vc, rfl⟩ := step_form hv HX.out; have HV := Lib.hid hv.cel; have HB2 := Lib.hid hb2; clear hv hb2)
          | (go_at_call 65; refine (HH.out _ _ _ _ HV.out).mono ?_; rintro e w3 ⟨⟨u, rfl, hu⟩, hb3⟩; have HB3 := Lib.hid hb3; clear hu hb3))
        go_ret
        exact ⟨ret_int (by rw [← HTT.out, HE.out]), HB2.out.trans (HB3.out.mono HB2.out.size)⟩
end Go.Proofs.YtnboegeljaplbaaGreat
namespace Go.Proofs.YtnboegeljaplbaaGreat
open Go.RowKit Lv Go.Shelf
attribute [local go_sem high] run_maxI

attribute [local go_sem] Oper.semAt_some as_jj as_pj as_pp as_jp

theorem li_one' {w : World} {z : Int} {b : Nat} (h : b = w.heap.size) : LI (w.alloc (.cells #[.int .i64 z] 3)) (.slice (some ⟨b, 0, none⟩) 1 1) [z] := by subst h; exact li_one w z
set_option maxRecDepth 100000 in
set_option maxHeartbeats 2000000 in
theorem porder_calls (a : Option Addr) (n cap : Nat) (l : List Int) (w : World) (h : LI w (.slice a n cap) l) (hl : l.length ≤ 100) :
    Calls Tryz.prog 10 #[.slice a n cap] w fun e w' => (∃ v, e = .returned v ∧ LI w' v (orderD l)) ∧ Below w.heap.size w w' := by
  obtain ⟨l1, l2, l3⟩ := h.len
  have H := Lib.hid h
  have HX := Lib.hid l1
  have HL := Lib.hid hl
  clear h l1 hl
  go_enter Tryz.func10, Tryz.ntmps10
  go_wp2_with (go_at_call 32; refine (psteps_calls _ n cap l _ H.out HL.out).mono ?_; rintro e w2 ⟨⟨v, rfl, hv⟩, hb2⟩; obtain ⟨va, vc, rfl⟩ := step_form hv HX.out; have HV := Lib.hid hv.cel; have HB2 := Lib.hid hb2; clear hv hb2)
  go_loopw [3, 11] (fun s3 s11 wr => ∃ (i : Nat), s11 = .int .i64 (i : Int) ∧ i ≤ n ∧ Hid (OwnI wr w2.heap.size s3 (orderD (l.take i)) ∧ Below w2.heap.size w2 wr)) (fun _ s11 _ => n - (intOf s11).toNat)
  case atStart => exact ⟨0, rfl, Nat.zero_le _, ownI_nil _ _, Below.refl _ _⟩
  case round =>
    obtain ⟨i, rfl, hi, HR⟩ := hrel
    by_cases hlt : i < n
    · obtain ⟨blk, off, rfl, hc⟩ := step_at (HV.out.below HR.out.2) (by omega)
      have hx1 := hc i hlt
      have hii : (i : Int) < (n : Int) := by omega
      have hsz := Lib.hid HR.out.2.size
      have HO := Lib.hid (order_snoc (l := l) (i := i) (by rw [HX.out]; exact hlt))
      have hlen : Hid ((orderD (l.take i)).length + 1 ≤ 1000) := by
        unfold Hid orderD
        have := List.length_filter_le (fun k => decide (0 ≤ k)) (l.take i)
        rw [List.length_take] at this
        have := HL.out
        omega
      have HB := Lib.hid (fun e (he : u3.ownBlock = some e) => HR.out.1.base e he)
      clear hc
      generalize l.getD i 0 = k at *
      by_cases ek : k = -1
      · subst ek
        rw [show stepV (-1) = .iface 118 (.agg #[]) from rfl] at hx1
        have HO2 := Lib.hid (show orderD (l.take (i + 1)) = orderD (l.take i) by rw [HO.out, if_neg (by decide), List.append_nil])
        have hBe := Lib.hid ((Below.refl wr.heap.size wr).alloc (Nat.le_refl _) (.cells #[.int .i64 0] 67))
        go_wp2
        go_roundw
        case rel => exact ⟨i + 1, by go_num, by omega, by rw [HO2.out]; exact HR.out.1.below hBe.out (Nat.le_refl _), HR.out.2.trans (hBe.out.mono hsz.out)⟩
        case measure => simp [intOf]; omega
      · rw [show stepV k = .iface 67 (.agg #[.int .i64 k]) from if_neg ek] at hx1
        have hBe := Lib.hid ((Below.refl wr.heap.size wr).alloc (Nat.le_refl _) (.cells #[.int .i64 k] 67))
        by_cases e0 : 0 ≤ k
        · have HO2 := Lib.hid (show orderD (l.take (i + 1)) = orderD (l.take i) ++ [k] by rw [HO.out, if_pos e0])
          go_wp2_with (at_builtin; go_must (refine wpList_append_I _ rfl _ _ rfl w2.heap.size _ _ [_] rfl ((HR.out.1.below hBe.out (Nat.le_refl _)).below ((Below.refl _ _).alloc (Nat.le_refl _) _) (Nat.le_refl _)) _ _ _ rfl (li_one' (by simp)) hlen.out (by have := hsz.out; simp; omega) ?_; intro v9 w3 hown9 hg9))
          rw [← HO2.out] at hown9
          have hBf : Below w2.heap.size w2 w3 := ((HR.out.2.trans (hBe.out.mono hsz.out)).alloc (by have := hsz.out; simp; omega) _).grown hg9 (by have := hsz.out; simp; omega) HB.out
          go_roundw
          case rel => exact ⟨i + 1, by go_num, by omega, hown9, hBf⟩
          case measure => simp [intOf]; omega
        · have HO2 := Lib.hid (show orderD (l.take (i + 1)) = orderD (l.take i) by rw [HO.out, if_neg e0, List.append_nil])
          go_wp2
          go_roundw
          case rel => exact ⟨i + 1, by go_num, by omega, by rw [HO2.out]; exact HR.out.1.below hBe.out (Nat.le_refl _), HR.out.2.trans (hBe.out.mono hsz.out)⟩
          case measure => simp [intOf]; omega
    · have hii : ¬ (i : Int) < (n : Int) := by omega
      obtain rfl : i = n := by omega
      have HM := Lib.hid HR.out.1.li
      rw [List.take_of_length_le (by rw [HX.out]; exact Nat.le_refl _)] at HM
      go_wp2
      go_ret
      exact ⟨⟨_, rfl, HM.out⟩, HB2.out.trans (HR.out.2.mono HB2.out.size)⟩
/-- the least maximum: of what is 1 or more -/
theorem foldl_max0 {l : List Int} (h : ∀ x ∈ l, 1 ≤ x) (hn : l ≠ []) : l.foldl max 0 = maxL l := by
  cases l with
  | nil => exact absurd rfl hn
  | cons z t =>
    show t.foldl max (max 0 z) = t.foldl max z
    rw [Int.max_eq_right (by have := h z List.mem_cons_self; omega)]
set_option maxRecDepth 100000 in
theorem pheight_calls (a : Option Addr) (n cap : Nat) (l : List Int) (w : World) (h : LI w (.slice a n cap) l) (hl : l.length ≤ 100) :
    Calls Tryz.prog 22 #[.slice a n cap] w fun e w' => e = .returned (.int .i64 (heightD l)) ∧ Below w.heap.size w w' := by
  have HX := Lib.hid h.len.1
  have H := Lib.hid h
  have HL := Lib.hid hl
  have HC := Lib.hid (pcheck_calls a n cap 9223372036854775807 l w h hl)
  clear h hl
  by_cases c : pcheckD l 9223372036854775807 = 0
  · obtain ⟨c1, c2⟩ := pcheck_yes c
    have HH := Lib.hid (fun a n c W (hc : Cel W (.slice a n c) (l.map stepV)) => pheights_calls a n c l W hc HL.out)
    rw [decide_eq_true c2] at HH
    obtain ⟨k1, k2⟩ := htsP_pos 0 l 1 (by omega) c2
    have hne : l ≠ [] := fun e => by rw [e] at c2; cases c2
    have hne2 : runH 0 l ≠ [] := fun e => hne (List.length_eq_zero_iff.1 (by rw [← runH_len 0 l, e]; rfl))
    have HE := Lib.hid (show maxL (runH 0 l) = heightD l by unfold heightD; rw [if_neg (by rw [c]; simp), foldl_max0 k2 hne2])
    have hn : 0 < n := by have := List.length_pos_iff.2 hne; have := HX.out; omega
    have HN := Lib.hid (show htsP 0 l ≠ none by rw [c2]; simp)
    rw [c] at HC
    clear c c1 c2 k1 k2 hne hne2
    generalize heightD l = tt at *
    go_enter Tryz.func22, Tryz.ntmps22
    go_wp2_with (first
      | (go_at_call 21; go_must (refine HC.out.mono ?_; rintro e w1 ⟨rfl, hb1⟩; have HB1 := Lib.hid hb1; clear hb1))
      | (go_at_call 32; go_must (refine (psteps_calls _ n cap l _ (H.out.below HB1.out) HL.out).mono ?_; rintro e w2 ⟨⟨v, rfl, hv⟩, hb2⟩; obtain ⟨va, vc, rfl⟩ := step_form hv HX.out; have HV := Lib.hid hv.cel; have HB2 := Lib.hid hb2; clear hv hb2))
      | (go_at_call 65; go_must (refine (HH.out _ _ _ _ HV.out).mono ?_; rintro e w3 ⟨⟨u, rfl, hu⟩, hb3⟩; obtain ⟨ua, uc, rfl⟩ := (hu HN.out).li.form; rw [runH_len, HX.out] at hu; have HU := Lib.hid (hu HN.out).li; have HB3 := Lib.hid hb3; clear hu hb3; rw [runH_len, HX.out]))
      | (go_at_call 66; go_must (refine (maxI_calls _ _ _ _ _ HU.out hn).mono ?_; rintro e w4 ⟨rfl, rfl⟩)))
    go_ret
    exact ⟨ret_int HE.out, HB1.out.trans ((HB2.out.mono HB1.out.size).trans (HB3.out.mono (Nat.le_trans HB1.out.size HB2.out.size)))⟩
  · have HE := Lib.hid (show heightD l = 0 by unfold heightD; rw [if_pos c])
    have c' : (pcheckD l 9223372036854775807 != 0) = true := bne_iff_ne.2 c
    generalize pcheckD l 9223372036854775807 = p at *
    generalize heightD l = tt at *
    go_enter Tryz.func22, Tryz.ntmps22
    go_wp2_with (go_at_call 21; go_must (refine HC.out.mono ?_; rintro e w1 ⟨rfl, hb1⟩))
    go_ret
    exact ⟨ret_int HE.out.symm, hb1⟩
end Go.Proofs.YtnboegeljaplbaaGreat
namespace Go.Proofs.YtnboegeljaplbaaGreat
open Go.RowKit Lv Go.Shelf
attribute [local go_sem high] run_maxI

attribute [local go_sem] Oper.semAt_some

theorem contains_no {l : List Int} {i : Nat} {k : Int} (hi : i ≤ l.length) (h : ∀ m, m < i → l.getD m 0 ≠ k) : (l.take i).contains k = false := by
  cases e : (l.take i).contains k with
  | false => rfl
  | true =>
    rw [List.contains_iff_mem] at e
    obtain ⟨m, hm, hk⟩ := List.getElem_of_mem e
    rw [List.length_take] at hm
    rw [List.getElem_take] at hk
    exact absurd (by rw [List.getD_eq_getElem?_getD, List.getElem?_eq_getElem (by omega)]; exact hk) (h m (by omega))
theorem contains_yes {l : List Int} {i m : Nat} {k : Int} (hi : i ≤ l.length) (hm : m < i) (h : l.getD m 0 = k) : (l.take i).contains k = true := by
  rw [List.contains_iff_mem, ← h, List.getD_eq_getElem?_getD, List.getElem?_eq_getElem (by omega)]
  exact List.mem_take_iff_getElem.2 ⟨m, by omega, rfl⟩

end Go.Proofs.YtnboegeljaplbaaGreat
namespace Go.Proofs.YtnboegeljaplbaaGreat
open Go.RowKit Lv Go.Shelf
attribute [local go_sem] Oper.semAt_some

theorem pmay_calls (n : Int) (w : World) : Calls Tryz.prog 67 #[.int .i64 n] w fun e w' => e = .returned (.bool (mayP n)) ∧ w = w' := by
  go_enter Tryz.func67, Tryz.ntmps67
  by_cases c1 : 1 ≤ n
  · by_cases c2 : n ≤ 8
    · go_wp2
      go_ret
      exact ⟨ret_bool (by unfold mayP; rw [decide_eq_true c1, decide_eq_true c2]; rfl), rfl⟩
    · go_wp2
      go_ret
      exact ⟨ret_bool (by unfold mayP; rw [decide_eq_true c1, decide_eq_false (by omega)]; rfl), rfl⟩
  · go_wp2
    go_ret
    exact ⟨ret_bool (by unfold mayP; rw [decide_eq_false (by omega)]; rfl), rfl⟩
theorem mayP_nat {n : Int} (h : mayP n = true) : ∃ k : Nat, n = (k : Int) ∧ 1 ≤ k ∧ k ≤ 8 := by
  unfold mayP at h
  simp only [Bool.and_eq_true, decide_eq_true_eq] at h
  exact ⟨n.toNat, by omega, by omega, by omega⟩
theorem leftL_step (k : Nat) : leftL (k + 1 + 1) = leftL (k + 1) ++ [((k + 1 : Nat) : Int), -1] := by
  show 0 :: (List.range (k + 1)).flatMap _ = (0 :: (List.range k).flatMap _) ++ _
  rw [List.range_succ, List.flatMap_append]
  rfl
theorem leftL_len (k : Nat) : (leftL (k + 1)).length = 2 * k + 1 := by
  induction k with
  | zero => rfl
  | succ k ih => rw [leftL_step, List.length_append, ih]; simp; omega
theorem li_two {w : World} {x y : Int} {b : Nat} (h : b = w.heap.size) : LI (w.alloc (.cells #[.int .i64 x, .int .i64 y] 3)) (.slice (some ⟨b, 0, none⟩) 2 2) [x, y] := by
  subst h
  refine ⟨_, _, rfl, Nat.le_refl _, by unfold maxLen; simp, .inr ⟨_, _, rfl, fun i hi => ?_⟩⟩
  have : i = 0 ∨ i = 1 := by simp at hi; omega
  rcases this with rfl | rfl <;> simp [go_sem]
theorem own_one {w : World} {z : Int} {b B : Nat} (h : b = w.heap.size) (hB : B ≤ w.heap.size) : OwnI (w.alloc (.cells #[.int .i64 z] 3)) B (.slice (some ⟨b, 0, none⟩) 1 1) [z] := by
  subst h
  exact ⟨rfl, .inr ⟨w.heap.size, 1, _, rfl, hB, World.alloc_heap_new w _, Nat.le_refl _, by unfold maxLen; omega, rfl, rfl⟩⟩

set_option maxRecDepth 100000 in
set_option maxHeartbeats 1000000 in
theorem pleft_calls (n : Int) (w : World) : Calls Tryz.prog 24 #[.int .i64 n] w fun e w' => (∃ v, e = .returned v ∧ LI w' v (leftD n)) ∧ Below w.heap.size w w' := by
  have HM := Lib.hid (fun w => pmay_calls n w)
  by_cases c : mayP n = true
  · have hD : leftD n = leftL n.toNat := by unfold leftD; rw [if_pos c]
    rw [hD]
    rw [c] at HM
    obtain ⟨k, rfl, hk1, hk8⟩ := mayP_nat c
    rw [Int.toNat_natCast]
    clear c hD
    go_enter Tryz.func24, Tryz.ntmps24
    go_wp2_with (go_at_call 67; refine (HM.out _).mono ?_; rintro e w1 ⟨rfl, rfl⟩)
    go_loopw [3, 4] (fun s3 s4 wr => ∃ (i : Nat), s4 = .int .i64 ((i : Int) + 1) ∧ i + 1 ≤ k ∧ Hid (OwnI wr w.heap.size s3 (leftL (i + 1)) ∧ Below w.heap.size w wr)) (fun _ s4 _ => k - (intOf s4).toNat)
    case atStart => exact ⟨0, rfl, hk1, own_one rfl (Nat.le_refl _), (Below.refl _ _).alloc (Nat.le_refl _) _⟩
    case round =>
      obtain ⟨i, rfl, hi, HR⟩ := hrel
      by_cases hlt : i + 1 < k
      · have hii : (i : Int) + 1 < (k : Int) := by omega
        have hsz := Lib.hid HR.out.2.size
        have hlen : Hid ((leftL (i + 1)).length + 2 ≤ 1000) := by unfold Hid; rw [leftL_len]; omega
        have HB := Lib.hid (fun e (he : u3.ownBlock = some e) => HR.out.1.base e he)
        go_wp2_with (at_builtin; go_must (refine wpList_append_I _ rfl _ _ rfl w.heap.size _ _ [_, _] rfl (HR.out.1.below ((Below.refl _ _).alloc (Nat.le_refl _) _) (Nat.le_refl _)) _ _ _ rfl (li_two (by simp)) hlen.out (by have := hsz.out; simp; omega) ?_; intro v9 w3 hown9 hg9))
        have hBf : Below w.heap.size w w3 := (HR.out.2.alloc hsz.out _).grown hg9 (by have := hsz.out; simp; omega) HB.out
        go_roundw
        case rel => exact ⟨i + 1, by go_num, by omega, by rw [leftL_step]; exact hown9, hBf⟩
        case measure => simp [intOf]; omega
      · have hii : ¬ (i : Int) + 1 < (k : Int) := by omega
        have HO := Lib.hid HR.out.1.li
        obtain rfl : i + 1 = k := by omega
        go_wp2
        go_ret
        exact ⟨⟨_, rfl, HO.out⟩, HR.out.2⟩
  · have hD : leftD n = [] := by unfold leftD; rw [if_neg c]
    rw [hD]
    rw [Bool.eq_false_iff.2 c] at HM
    clear c hD
    go_enter Tryz.func24, Tryz.ntmps24
    go_wp2_with (go_at_call 67; refine (HM.out _).mono ?_; rintro e w1 ⟨rfl, rfl⟩)
    go_ret
    exact ⟨⟨_, rfl, li_nil _⟩, Below.refl _ _⟩
theorem evenF_len : ∀ (f from' n : Nat), 1 ≤ (evenF f from' n).length ∧ (evenF f from' n).length + 1 ≤ 2 ^ (f + 1)
  | 0, from', n => by unfold evenF; simp
  | f + 1, from', n => by
    have h1 := evenF_len f from' ((n + 1) / 2)
    have h2 := evenF_len f (from' + (n + 1) / 2) (n - (n + 1) / 2)
    have h3 : 2 ^ (f + 1 + 1) = 2 ^ (f + 1) + 2 ^ (f + 1) := by rw [Nat.pow_succ]; omega
    unfold evenF
    split
    · simp only [List.length_singleton]; omega
    · rw [List.length_append, List.length_append, List.length_singleton]
      omega
theorem evenF_one (f from' n : Nat) (h : n ≤ 1) : evenF f from' n = [(from' : Int)] := by
  cases f with
  | zero => rfl
  | succ f => unfold evenF; rw [if_pos h]
theorem own_shape {w : World} {B : Nat} {v : Value} {zs : List Int} (h : OwnI w B v zs) (hl : 0 < zs.length) : ∃ ad cap, v = .slice (some ad) zs.length cap := by
  have hown : w.ownsRow B 3 1 v (zs.map (Value.int .i64)).length (zs.map (Value.int .i64)) := h
  rcases hown.2 with ⟨_, h0⟩ | ⟨g, cap, cur, h1, _⟩
  · rw [List.length_map] at h0; omega
  · rw [List.length_map] at h1
    exact ⟨_, cap, h1⟩
set_option maxRecDepth 100000 in
set_option maxHeartbeats 1000000 in
theorem peven_calls : ∀ (f fr n : Nat) (a b : Int) (w : World), f ≤ 6 → a = (fr : Int) → b = (fr : Int) + (n : Int) → 1 ≤ n → n ≤ 2 ^ f → fr + n ≤ 100 →
    Calls Tryz.prog 68 #[.int .i64 a, .int .i64 b] w fun e w' => (∃ v, e = .returned v ∧ OwnI w' w.heap.size v (evenF f fr n)) ∧ Below w.heap.size w w' := by
  intro f
  induction f with
  | zero =>
    intro fr n a b w hf ha hb h1 h2 h3
    obtain rfl : n = 1 := by simp at h2; omega
    have hba : b - a = 1 := by omega
    have E := Lib.hid (show [(fr : Int)] = evenF 0 fr 1 from rfl)
    subst ha hb
    clear h2
    go_enter Tryz.func68, Tryz.ntmps68
    go_wp2
    go_ret
    exact ⟨⟨_, rfl, by rw [← E.out]; exact own_one rfl (Nat.le_refl _)⟩, (Below.refl _ _).alloc (Nat.le_refl _) _⟩
  | succ f ih =>
    intro fr n a b w hf ha hb h1 h2 h3
    by_cases c : n = 1
    · subst c
      have hba : b - a = 1 := by omega
      have E := Lib.hid (show [(fr : Int)] = evenF (f + 1) fr 1 by rw [evenF_one _ _ _ (Nat.le_refl _)])
      subst ha hb
      clear h2 ih
      go_enter Tryz.func68, Tryz.ntmps68
      go_wp2
      go_ret
      exact ⟨⟨_, rfl, by rw [← E.out]; exact own_one rfl (Nat.le_refl _)⟩, (Below.refl _ _).alloc (Nat.le_refl _) _⟩
    · have h2' : n ≤ 2 * 2 ^ f := by rw [Nat.pow_succ] at h2; omega
      have hne : (b - a == 1) = false := beq_eq_false_iff_ne.2 (by omega)
      have E := Lib.hid (show evenF (f + 1) fr n = evenF f fr ((n + 1) / 2) ++ evenF f (fr + (n + 1) / 2) (n - (n + 1) / 2) ++ [-1] by rw [evenF]; rw [if_neg (by omega)])
      have IA := Lib.hid (fun x y (hx : x = (fr : Int)) (hy : y = ((fr + (n + 1) / 2 : Nat) : Int)) w => ih fr ((n + 1) / 2) x y w (by omega) hx (by omega) (by omega) (by omega) (by omega))
      have IB := Lib.hid (fun x y (hx : x = ((fr + (n + 1) / 2 : Nat) : Int)) (hy : y = (fr : Int) + (n : Int)) w => ih (fr + (n + 1) / 2) (n - (n + 1) / 2) x y w (by omega) (by omega) (by omega) (by omega) (by omega) (by omega))
      have L1 := Lib.hid (evenF_len f fr ((n + 1) / 2))
      have L2 := Lib.hid (evenF_len f (fr + (n + 1) / 2) (n - (n + 1) / 2))
      have hpw : Hid (2 ^ (f + 1) ≤ 2 ^ 6 * 2) := Nat.le_trans (Nat.pow_le_pow_right (by decide) (by omega : f + 1 ≤ 7)) (by decide)
      subst ha hb
      clear h2 h2' ih
      generalize evenF f fr ((n + 1) / 2) = l1 at *
      generalize evenF f (fr + (n + 1) / 2) (n - (n + 1) / 2) = l2 at *
      go_enter Tryz.func68, Tryz.ntmps68
      go_wp2_with (first
        | (go_at_call_of 68 (Value.int .i64 (fr : Int)); go_must (refine (IA.out _ _ rfl (by omega) _).mono ?_; rintro e w1 ⟨⟨v1, rfl, hv1⟩, hb1⟩; have HV1 := Lib.hid hv1; have HB1 := Lib.hid hb1; clear hv1 hb1))
        | (go_at_call 68; go_must (refine (IB.out _ _ (by omega) rfl _).mono ?_; rintro e w2 ⟨⟨v2, rfl, hv2⟩, hb2⟩; obtain ⟨ad2, cp2, rfl⟩ := own_shape hv2 (by have := L2.out; omega); have HV2 := Lib.hid hv2; have HB2 := Lib.hid hb2; clear hv2 hb2))
        | (at_builtin; refine wpList_append_I _ rfl _ _ rfl w.heap.size v1 l1 l2 rfl (HV1.out.below HB2.out (Nat.le_refl _)) _ _ _ rfl HV2.out.li (by have := L1.out.2; have := L2.out.2; have := hpw.out; omega) (by have := HB1.out.size; have := HB2.out.size; omega) ?_; intro v9 w3 hown9 hg9)
        | (at_builtin; go_must (refine wpList_append_I _ rfl _ _ rfl w.heap.size v9 (l1 ++ l2) [-1] rfl (hown9.below ((Below.refl _ _).alloc (Nat.le_refl _) _) (Nat.le_refl _)) _ _ _ rfl (li_one' rfl) (by rw [List.length_append]; have := L1.out.2; have := L2.out.2; have := hpw.out; simp; omega) (by have := HB1.out.size; have := HB2.out.size; have := hg9.size; simp; omega) ?_; intro v8 w4 hown8 hg8)))
      have hB3 : Below w.heap.size w w3 := (HB1.out.trans (HB2.out.mono HB1.out.size)).grown hg9 (by have := HB1.out.size; have := HB2.out.size; omega) (fun e he => HV1.out.base e he)
      have hB4 : Below w.heap.size w w4 := (hB3.alloc hB3.size _).grown hg8 (by have := hB3.size; simp; omega) (fun e he => hown9.base e he)
      go_ret
      exact ⟨⟨_, rfl, by rw [E.out]; exact hown8⟩, hB4⟩
set_option maxRecDepth 100000 in
theorem pEven_calls (n : Int) (w : World) : Calls Tryz.prog 25 #[.int .i64 n] w fun e w' => (∃ v, e = .returned v ∧ LI w' v (evenD n)) ∧ Below w.heap.size w w' := by
  have HM := Lib.hid (fun w => pmay_calls n w)
  by_cases c : mayP n = true
  · have hD : evenD n = evenF 4 0 n.toNat := by unfold evenD; rw [if_pos c]
    rw [hD]
    rw [c] at HM
    obtain ⟨k, rfl, hk1, hk8⟩ := mayP_nat c
    rw [Int.toNat_natCast]
    have HE := Lib.hid (fun w => peven_calls 4 0 k 0 k w (by decide) rfl (by simp) hk1 (by omega) (by omega))
    clear c hD
    generalize evenF 4 0 k = l at *
    go_enter Tryz.func25, Tryz.ntmps25
    go_wp2_with (first | (go_at_call 67; refine (HM.out _).mono ?_; rintro e w1 ⟨rfl, rfl⟩) | (go_at_call 68; refine (HE.out _).mono ?_; rintro e w1 ⟨⟨v, rfl, hv⟩, hb⟩))
    go_ret
    exact ⟨⟨_, rfl, hv.li⟩, hb⟩
  · have hD : evenD n = [] := by unfold evenD; rw [if_neg c]
    rw [hD]
    rw [Bool.eq_false_iff.2 c] at HM
    clear c hD
    go_enter Tryz.func25, Tryz.ntmps25
    go_wp2_with (go_at_call 67; refine (HM.out _).mono ?_; rintro e w1 ⟨rfl, rfl⟩)
    go_ret
    exact ⟨⟨_, rfl, li_nil _⟩, Below.refl _ _⟩
theorem mayP_not {n : Int} (c : ¬ mayP n = true) : n < 1 ∨ (¬ n < 1 ∧ 8 < n) := by
  unfold mayP at c
  simp only [Bool.and_eq_true, decide_eq_true_eq] at c
  omega
end Go.Proofs.YtnboegeljaplbaaGreat
namespace Go.Proofs.YtnboegeljaplbaaGreat
open Go.RowKit Lv Go.Shelf
attribute [local go_sem] Oper.semAt_some

set_option maxRecDepth 100000 in
theorem bmul64_calls (c : Nat) (hc : c ≤ 7) (w : World) : Calls Tryz.prog 122 #[.int .u64 1, .int .u64 (c : Int)] w fun e w' => e = .returned (.tuple #[.int .u64 0, .int .u64 (c : Int)]) ∧ w = w' := by
  have hcs : c = 0 ∨ c = 1 ∨ c = 2 ∨ c = 3 ∨ c = 4 ∨ c = 5 ∨ c = 6 ∨ c = 7 := by omega
  rcases hcs with rfl | rfl | rfl | rfl | rfl | rfl | rfl | rfl
  all_goals
    go_enter Tryz.func122, Tryz.ntmps122
    go_wp2
    go_ret2
    exact ⟨rfl, rfl⟩
set_option maxRecDepth 100000 in
theorem bmul_calls (c : Nat) (hc : c ≤ 7) (w : World) : Calls Tryz.prog 100 #[.int .u64 1, .int .u64 (c : Int)] w fun e w' => e = .returned (.tuple #[.int .u64 0, .int .u64 (c : Int)]) ∧ w = w' := by
  have HM := Lib.hid (bmul64_calls c hc w)
  go_enter Tryz.func100, Tryz.ntmps100
  go_wp2_with (go_at_call 122; refine HM.out.mono ?_; rintro e w1 ⟨rfl, rfl⟩)
  go_ret2
  exact ⟨rfl, rfl⟩
/-- copy of ints into what is one's own: all that fits -/
theorem run_copy_I (w : World) (B g n cap off : Nat) (xs ys : List Int) (hown : OwnI w B (.slice (some ⟨g, 0, none⟩) n cap) xs) (dl dc : Nat) (ad : Addr) (m c : Nat) (hy : LI w (.slice (some ad) m c) ys) (hfit : off + dl = n) :
    ∃ w', (Builtin.copy_ #[22, 22] 3 #[.slice (some ⟨g, off, none⟩) dl dc, .slice (some ad) m c]).run Tryz.prog w = .ok (.int .i64 ((min m dl : Nat) : Int)) w' ∧ OwnI w' B (.slice (some ⟨g, 0, none⟩) n cap) (splice xs off (ys.take dl)) ∧ Below g w w' := by
  have hm := hy.len.1
  have hnl : xs.length = n := (LI.len hown.li).1
  have ho : w.ownsRow B 3 1 (.slice (some ⟨g, 0, none⟩) n cap) (xs.map (Value.int .i64)).length (xs.map (Value.int .i64)) := hown
  rcases ho.2 with ⟨h, _⟩ | ⟨g', cap', cur, e1, h2, h3, h4, h5, h6, h7⟩
  · simp at h
  · simp only [Value.slice.injEq, Option.some.injEq, Addr.mk.injEq, and_true] at e1
    obtain ⟨rfl, e2, rfl⟩ := e1
    rw [List.length_map] at h4 h7
    have h6' : cur.toList.length = cap := by rw [Array.length_toList]; omega
    rw [Nat.mul_one] at h7
    have hul : ((ys.take dl).map (Value.int .i64)).length = min m dl := by rw [List.length_map, List.length_take, hm]; omega
    have hrun := run_copy_row (P := Tryz.prog) w 22 22 3 3 g off dl dc ad m c cur 3 ((ys.take dl).map (Value.int .i64)) Tryz.underlying22 (by kernel_rfl) h3 (hul.trans rfl) (by
      intro j u hu
      have hj : j < min m dl := by rw [← hul]; exact (List.getElem?_eq_some_iff.1 hu).1
      obtain ⟨blk, o2, e3, hc⟩ := Cel.at hy (by omega)
      cases e3
      rw [show (⟨blk, o2, none⟩ : Addr).add j = ⟨blk, o2 + j, none⟩ by unfold Addr.add; by_cases e : j = 0 <;> simp [e]]
      rw [hc j (by omega)]
      rw [← hu, List.map_take, List.getElem?_take_of_lt (by omega)]) (by rw [hul]; omega) (by
      intro u hu
      obtain ⟨z, _, rfl⟩ := List.mem_map.1 hu
      rfl)
    rw [hul] at hrun
    refine ⟨_, hrun, ?_, below_setRow (Below.refl _ _) (Nat.le_refl _) _⟩
    have hls : (splice xs off (ys.take dl)).length = n := by rw [length_splice _ _ _ (by rw [List.length_take, hm, hnl]; omega), hnl]
    have hsp : (splice xs off (ys.take dl)).map (Value.int .i64) = splice (xs.map (Value.int .i64)) off ((ys.take dl).map (Value.int .i64)) := by
      unfold splice
      rw [List.length_map]
      simp only [List.map_append, List.map_take, List.map_drop]
    unfold OwnI OwnC
    rw [List.length_map, hls, hsp]
    refine ⟨?_, .inr ⟨g, cap, _, by rw [← hnl], h2, setRow_heap w g _ _ _ _ h3, by omega, h5, ?_, ?_⟩⟩
    · rw [length_splice _ _ _ (by rw [hul, List.length_map]; omega), List.length_map]; omega
    · simp only [List.size_toArray]
      have := length_splice cur.toList off ((ys.take dl).map (Value.int .i64)) (by rw [h6', hul]; omega)
      unfold splice at this
      rw [hul] at this
      rw [List.append_assoc, this, h6']
      omega
    · rw [Nat.mul_one]
      have := splice_take cur.toList ((ys.take dl).map (Value.int .i64)) off n (by rw [hul]; omega) (by rw [h6']; omega)
      unfold splice at this ⊢
      rw [hul] at this ⊢
      show (cur.toList.take off ++ _ ++ _).take n = _
      rw [List.append_assoc, this, show cur.toList.take n = xs.map (Value.int .i64) by rw [← hnl]; exact h7]
theorem rep_first : ∀ c, c ≤ 7 → splice (List.replicate c (0 : Int)) 0 ([-1].take c) = List.replicate (min 1 c) (-1) ++ List.replicate (c - min 1 c) 0 := by decide
theorem rep_step : ∀ c m, c ≤ 7 → m ≤ c → splice (List.replicate m (-1) ++ List.replicate (c - m) (0 : Int)) m ((List.replicate m (-1)).take (c - m)) = List.replicate (m + min m (c - m)) (-1) ++ List.replicate (c - (m + min m (c - m))) 0 := by
  intro c m hc hm
  have : ∀ c, c ≤ 7 → ∀ m, m ≤ c → splice (List.replicate m (-1) ++ List.replicate (c - m) (0 : Int)) m ((List.replicate m (-1)).take (c - m)) = List.replicate (m + min m (c - m)) (-1) ++ List.replicate (c - (m + min m (c - m))) 0 := by decide
  exact this c hc m hm
set_option maxRecDepth 100000 in
set_option maxHeartbeats 1000000 in
theorem repI_calls (c : Nat) (hc : c ≤ 7) (ad : Addr) (cp : Nat) (w : World) (h : LI w (.slice (some ad) 1 cp) [-1]) :
    Calls Tryz.prog 69 #[.slice (some ad) 1 cp, .int .i64 (c : Int)] w fun e w' => (∃ ad' cp', e = .returned (.slice (some ad') c cp') ∧ LI w' (.slice (some ad') c cp') (List.replicate c (-1))) ∧ Below w.heap.size w w' := by
  have H := Lib.hid h
  have HM := Lib.hid (fun w => bmul_calls c hc w)
  obtain ⟨i0, hin, hz0, hz1, hz2⟩ := info_parts infoI
  have hmk := fun W => run_make (P := Tryz.prog) W 22 3 i0 _ Tryz.underlying22 hin hz0 .i64 .i64 (c : Int) (c : Int) (by omega) (by omega) (by rw [hz2]; omega) (by omega)
  rw [hz1] at hmk
  have HO := Lib.hid (show OwnI (w.alloc (.cells (madeCells #[.int .i64 0] c) 3)) w.heap.size (.slice (some ⟨w.heap.size, 0, none⟩) c c) (List.replicate c 0) from by
    refine ⟨by simp, .inr ⟨w.heap.size, c, madeCells #[.int .i64 0] c, by simp, Nat.le_refl _, World.alloc_heap_new w _, by simp, by unfold maxLen; omega, by rw [size_madeCells]; omega, ?_⟩⟩
    rw [toList_madeCells_one]; simp)
  have hcn : ¬ (c : Int) < 0 := by omega
  have hc2 : ¬ (9223372036854775807 : Int) < (c : Int) := by omega
  clear h
  obtain ⟨w2, hr2, hown2, hb2⟩ := run_copy_I (w.alloc (.cells (madeCells #[.int .i64 0] c) 3)) w.heap.size w.heap.size c c 0 (List.replicate c 0) [-1] HO.out c c ad 1 cp (H.out.below ((Below.refl _ _).alloc (Nat.le_refl _) _)) (by omega)
  go_enter Tryz.func69, Tryz.ntmps69
  go_wp2_with (go_at_call 100; refine (HM.out _).mono ?_; rintro e w1 ⟨rfl, rfl⟩)
  clear hr2
  have hsp := rep_first c hc
  rw [hsp] at hown2
  have HB2 := Lib.hid (((Below.refl w.heap.size w).alloc (Nat.le_refl _) (.cells (madeCells #[.int .i64 0] c) 3)).trans hb2)
  have HI2 := Lib.hid hown2
  clear hsp hown2 hb2
  go_loopw [8] (fun s8 wr => ∃ (m : Nat), s8 = .int .i64 (m : Int) ∧ m ≤ c ∧ (1 ≤ c → 1 ≤ m) ∧ Hid (OwnI wr w.heap.size (.slice (some ⟨w.heap.size, 0, none⟩) c c) (List.replicate m (-1) ++ List.replicate (c - m) 0) ∧ Below w.heap.size w wr)) (fun s8 _ => c - (intOf s8).toNat)
  case atStart => exact ⟨min 1 c, by simp, by omega, by omega, HI2.out, HB2.out⟩
  case round =>
    obtain ⟨m, rfl, hm, hm1, HR⟩ := hrel
    by_cases hlt : m < c
    · have hii : (m : Int) < (c : Int) := by omega
      have hm0 : 1 ≤ m := hm1 (by omega)
      have HT := Lib.hid (show LI wr (.slice (some ⟨w.heap.size, 0, none⟩) m c) (List.replicate m (-1)) by
        have := HR.out.1.li.take (i := m) hm
        rw [List.take_append_of_le_length (by simp), List.take_of_length_le (by simp)] at this
        exact this)
      have HS := Lib.hid (rep_step c m hc hm)
      obtain ⟨w3, hr3, hown3, hb3⟩ := run_copy_I wr.drew w.heap.size w.heap.size c c m _ _ (HR.out.1.below ((Below.refl _ _).drew) (Nat.le_refl _)) (c - m) (c - m) _ m c (HT.out.below (Below.refl _ _).drew) (by omega)
      rw [HS.out] at hown3
      go_wp2
      go_region
      go_wp2
      go_roundw
      case rel => exact ⟨m + min m (c - m), by simp, by omega, by omega, hown3, HR.out.2.drew.trans hb3⟩
      case measure => simp [intOf]; omega
    · have hii : ¬ (m : Int) < (c : Int) := by omega
      obtain rfl : m = c := by omega
      have HO2 := Lib.hid HR.out.1.li
      rw [Nat.sub_self, List.replicate_zero, List.append_nil] at HO2
      go_wp2
      go_ret
      exact ⟨⟨_, _, rfl, HO2.out⟩, HR.out.2⟩
theorem rightL_split (n : Nat) : rightL n = (List.range n).map (fun (i : Nat) => (i : Int)) ++ List.replicate (n - 1) (-1) := rfl
theorem range_snoc (i : Nat) : (List.range (i + 1)).map (fun (i : Nat) => (i : Int)) = (List.range i).map (fun (i : Nat) => (i : Int)) ++ [(i : Int)] := by rw [List.range_succ, List.map_append]; rfl
set_option maxRecDepth 100000 in
set_option maxHeartbeats 1000000 in
theorem pright_calls (n : Int) (w : World) : Calls Tryz.prog 26 #[.int .i64 n] w fun e w' => (∃ v, e = .returned v ∧ LI w' v (rightD n)) ∧ Below w.heap.size w w' := by
  have HM := Lib.hid (fun w => pmay_calls n w)
  by_cases c : mayP n = true
  · have hD : rightD n = rightL n.toNat := by unfold rightD; rw [if_pos c]
    rw [hD]
    rw [c] at HM
    obtain ⟨k, rfl, hk1, hk8⟩ := mayP_nat c
    rw [Int.toNat_natCast]
    have HRP := Lib.hid (fun x (hx : x = ((k - 1 : Nat) : Int)) ad cp w (h : LI w (.slice (some ad) 1 cp) [-1]) => (by subst hx; exact repI_calls (k - 1) (by omega) ad cp w h : Calls Tryz.prog 69 #[.slice (some ad) 1 cp, .int .i64 x] w fun e w' => (∃ ad' cp', e = .returned (.slice (some ad') (k - 1) cp') ∧ LI w' (.slice (some ad') (k - 1) cp') (List.replicate (k - 1) (-1))) ∧ Below w.heap.size w w'))
    clear c hD
    go_enter Tryz.func26, Tryz.ntmps26
    go_wp2_with (go_at_call 67; refine (HM.out _).mono ?_; rintro e w1 ⟨rfl, rfl⟩)
    go_loopw [3, 9] (fun s3 s9 wr => ∃ (i : Nat), s9 = .int .i64 (i : Int) ∧ i ≤ k ∧ Hid (OwnI wr w.heap.size s3 ((List.range i).map (fun (i : Nat) => (i : Int))) ∧ Below w.heap.size w wr)) (fun _ s9 _ => k - (intOf s9).toNat)
    case atStart => exact ⟨0, rfl, Nat.zero_le _, ownI_nil _ _, Below.refl _ _⟩
    case round =>
      obtain ⟨i, rfl, hi, HR⟩ := hrel
      have hsz := Lib.hid HR.out.2.size
      have HB := Lib.hid (fun e (he : u3.ownBlock = some e) => HR.out.1.base e he)
      have hlen : Hid (((List.range i).map (fun (i : Nat) => (i : Int))).length = i) := by unfold Hid; simp
      by_cases hlt : i < k
      · have hii : (i : Int) < (k : Int) := by omega
        go_wp2_with (at_builtin; go_must (refine wpList_append_I _ rfl _ _ rfl w.heap.size _ _ [_] rfl (HR.out.1.below ((Below.refl _ _).alloc (Nat.le_refl _) _) (Nat.le_refl _)) _ _ _ rfl (li_one' (by simp)) (by rw [hlen.out]; simp; omega) (by have := hsz.out; simp; omega) ?_; intro v9 w3 hown9 hg9))
        have hBf : Below w.heap.size w w3 := (HR.out.2.alloc hsz.out _).grown hg9 (by have := hsz.out; simp; omega) HB.out
        go_roundw
        case rel => exact ⟨i + 1, by go_num, by omega, by rw [range_snoc]; exact hown9, hBf⟩
        case measure => simp [intOf]; omega
      · have hii : ¬ (i : Int) < (k : Int) := by omega
        obtain rfl : i = k := by omega
        go_wp2_with (first
          | (go_at_call 69; go_must (refine (HRP.out _ (by omega) _ _ _ (li_one' rfl)).mono ?_; rintro e w2 ⟨⟨ad2, cp2, rfl, hl2⟩, hb2⟩; have HL2 := Lib.hid hl2; have HB2 := Lib.hid hb2; clear hl2 hb2))
          | (at_builtin; go_must (refine wpList_append_I _ rfl _ _ rfl w.heap.size _ _ _ rfl ((HR.out.1.below ((Below.refl _ _).alloc (Nat.le_refl _) _) (Nat.le_refl _)).below HB2.out (Nat.le_refl _)) _ _ _ rfl HL2.out (by rw [hlen.out, List.length_replicate]; omega) (by have := hsz.out; have := HB2.out.size; simp at this; omega) ?_; intro v9 w3 hown9 hg9)))
        have hBf : Below w.heap.size w w3 := ((HR.out.2.alloc hsz.out _).trans (HB2.out.mono (by have := hsz.out; simp; omega))).grown hg9 (by have := hsz.out; have := HB2.out.size; simp at this; omega) HB.out
        go_ret
        exact ⟨⟨_, rfl, hown9.li⟩, hBf⟩
  · have hD : rightD n = [] := by unfold rightD; rw [if_neg c]
    rw [hD]
    rw [Bool.eq_false_iff.2 c] at HM
    clear c hD
    go_enter Tryz.func26, Tryz.ntmps26
    go_wp2_with (go_at_call 67; refine (HM.out _).mono ?_; rintro e w1 ⟨rfl, rfl⟩)
    go_ret
    exact ⟨⟨_, rfl, li_nil _⟩, Below.refl _ _⟩
theorem rep_snoc (j : Nat) : List.replicate (j + 1) (-1 : Int) = List.replicate j (-1) ++ [-1] := List.replicate_succ'
end Go.Proofs.YtnboegeljaplbaaGreat
