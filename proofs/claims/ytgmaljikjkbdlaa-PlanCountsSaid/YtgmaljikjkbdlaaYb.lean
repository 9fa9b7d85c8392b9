/- Plans, plainly: what may be, its order, how high it is; the plans of n shards. What a plan's play comes to, plainly; Left's is merge.All's; the counts tell what the factor has. -/
import Derived.Test.YtgmaljikjkbdlaaRd
import Derived.Test.YtgmaljikjkbdlaaMh
namespace Go.Proofs.Ytgmaljikjkbdlaa
open Lv

/-- behind a plan's steps: how many things there are; none: somewhere too few -/
def htsP : Int → List Int → Option Int
  | now, [] => some now
  | now, k :: t => if k = -1 then (if now < 2 then none else htsP (now - 1) t) else htsP (now + 1) t
theorem htsP_append : ∀ (now : Int) (l t : List Int), htsP now (l ++ t) = (htsP now l).bind fun h => htsP h t
  | _, [], _ => rfl
  | now, k :: l, t => by
    show (if k = -1 then (if now < 2 then none else htsP (now - 1) (l ++ t)) else htsP (now + 1) (l ++ t)) = (if k = -1 then (if now < 2 then none else htsP (now - 1) l) else htsP (now + 1) l).bind _
    by_cases c : k = -1
    · rw [if_pos c, if_pos c]
      by_cases c2 : now < 2
      · rw [if_pos c2, if_pos c2]; rfl
      · rw [if_neg c2, if_neg c2]; exact htsP_append _ l t
    · rw [if_neg c, if_neg c]; exact htsP_append _ l t
theorem htsP_snoc (now : Int) (l : List Int) (k : Int) : htsP now (l ++ [k]) = (htsP now l).bind fun h => if k = -1 then (if h < 2 then none else some (h - 1)) else some (h + 1) := htsP_append now l [k]
/-- how many things there are behind each step -/
def runH : Int → List Int → List Int
  | _, [] => []
  | now, k :: t => (if k = -1 then now - 1 else now + 1) :: runH (if k = -1 then now - 1 else now + 1) t
def netH : Int → List Int → Int
  | now, [] => now
  | now, k :: t => netH (if k = -1 then now - 1 else now + 1) t
theorem runH_snoc : ∀ (now : Int) (l : List Int) (k : Int), runH now (l ++ [k]) = runH now l ++ [if k = -1 then netH now l - 1 else netH now l + 1]
  | _, [], _ => rfl
  | now, j :: l, k => by
    show _ :: runH _ (l ++ [k]) = _ :: (runH _ l ++ _)
    rw [runH_snoc _ l k]
    rfl
theorem netH_snoc : ∀ (now : Int) (l : List Int) (k : Int), netH now (l ++ [k]) = if k = -1 then netH now l - 1 else netH now l + 1
  | _, [], _ => rfl
  | now, j :: l, k => by
    show netH _ (l ++ [k]) = _
    rw [netH_snoc _ l k]
    rfl
theorem htsP_net : ∀ (now : Int) (l : List Int) (h : Int), htsP now l = some h → netH now l = h
  | _, [], _, e => by simpa [htsP, netH] using e
  | now, k :: l, h, e => by
    unfold htsP at e
    unfold netH
    by_cases c : k = -1
    · rw [if_pos c] at e ⊢
      by_cases c2 : now < 2
      · rw [if_pos c2] at e; cases e
      · rw [if_neg c2] at e; exact htsP_net _ l h e
    · rw [if_neg c] at e ⊢
      exact htsP_net _ l h e
theorem runH_len : ∀ (now : Int) (l : List Int), (runH now l).length = l.length
  | _, [] => rfl
  | now, k :: l => by unfold runH; rw [List.length_cons, List.length_cons, runH_len]
theorem htsP_pos : ∀ (now : Int) (l : List Int) (h : Int), 0 ≤ now → htsP now l = some h → (l ≠ [] → 1 ≤ h) ∧ ∀ x ∈ runH now l, 1 ≤ x
  | _, [], _, _, _ => ⟨fun h => absurd rfl h, fun x hx => nomatch hx⟩
  | now, k :: l, h, h0, e => by
    have hn : 1 ≤ (if k = -1 then now - 1 else now + 1) ∧ htsP (if k = -1 then now - 1 else now + 1) l = some h := by
      unfold htsP at e
      by_cases c : k = -1
      · rw [if_pos c] at e ⊢
        by_cases c2 : now < 2
        · rw [if_pos c2] at e; cases e
        · rw [if_neg c2] at e; exact ⟨by omega, e⟩
      · rw [if_neg c] at e ⊢
        exact ⟨by omega, e⟩
    obtain ⟨i1, i2⟩ := htsP_pos _ l h (by omega) hn.2
    refine ⟨fun _ => ?_, fun x hx => ?_⟩
    · by_cases cl : l = []
      · subst cl
        have e2 : some (if k = -1 then now - 1 else now + 1) = some h := hn.2
        have := Option.some.inj e2
        omega
      · exact i1 cl
    · unfold runH at hx
      rcases List.mem_cons.1 hx with rfl | hx
      · exact hn.1
      · exact i2 x hx
/-- is a step in its bounds, and no shard laid twice? -/
def inP (l : List Int) (shards : Int) : Bool := (List.range l.length).all fun i => !(decide (l.getD i 0 < -1) || decide (shards ≤ l.getD i 0) || (decide (0 ≤ l.getD i 0) && (l.take i).contains (l.getD i 0)))
def badAt (l : List Int) (shards : Int) (i : Nat) : Bool := decide (l.getD i 0 < -1) || decide (shards ≤ l.getD i 0) || (decide (0 ≤ l.getD i 0) && (l.take i).contains (l.getD i 0))
theorem inP_bad {l : List Int} {shards : Int} {i : Nat} (hi : i < l.length) (h : badAt l shards i = true) : inP l shards = false := by
  cases e : inP l shards with
  | false => rfl
  | true =>
    have := List.all_eq_true.1 e i (List.mem_range.2 hi)
    unfold badAt at h
    rw [h] at this
    cases this
theorem inP_all {l : List Int} {shards : Int} (h : ∀ i, i < l.length → badAt l shards i = false) : inP l shards = true := by
  unfold inP
  rw [List.all_eq_true]
  intro i hi
  have := h i (List.mem_range.1 hi)
  unfold badAt at this
  rw [this]; rfl
/-- may a plan be? -/
def pcheckD (l : List Int) (shards : Int) : Int := if inP l shards = true ∧ htsP 0 l = some 1 then 0 else 10
theorem pcheck_hts {l : List Int} {shards : Int} (h : htsP 0 l ≠ some 1) : pcheckD l shards = 10 := by unfold pcheckD; rw [if_neg (fun e => h e.2)]
theorem pcheck_in {l : List Int} {shards : Int} (h : inP l shards = false) : pcheckD l shards = 10 := by unfold pcheckD; rw [if_neg (fun e => by rw [h] at e; cases e.1)]
theorem take_snoc {l : List Int} {i : Nat} (hi : i < l.length) : l.take (i + 1) = l.take i ++ [l.getD i 0] := by
  rw [List.take_succ_eq_append_getElem hi, List.getD_eq_getElem?_getD, List.getElem?_eq_getElem hi]; rfl
theorem hts_none {l : List Int} {i : Nat} (h : htsP 0 (l.take i) = none) : htsP 0 l = none := by
  rw [← List.take_append_drop i l, htsP_append, h]; rfl
/-- its shards, in order -/
def orderD (l : List Int) : List Int := l.filter fun k => decide (0 ≤ k)
theorem order_snoc {l : List Int} {i : Nat} (hi : i < l.length) : orderD (l.take (i + 1)) = orderD (l.take i) ++ (if 0 ≤ l.getD i 0 then [l.getD i 0] else []) := by
  unfold orderD
  rw [take_snoc hi, List.filter_append]
  congr 1
  by_cases c : 0 ≤ l.getD i 0
  · rw [if_pos c, List.filter_cons, if_pos (decide_eq_true c)]; rfl
  · rw [if_neg c, List.filter_cons, if_neg (by simpa using c)]; rfl
/-- how high a plan is -/
def heightD (l : List Int) : Int := if pcheckD l 9223372036854775807 ≠ 0 then 0 else (runH 0 l).foldl max 0
/-- may there be plans of so many shards? -/
def mayP (n : Int) : Bool := decide (1 ≤ n) && decide (n ≤ 8)
def leftL (n : Nat) : List Int := 0 :: (List.range (n - 1)).flatMap fun i => [((i + 1 : Nat) : Int), -1]
def leftD (n : Int) : List Int := if mayP n = true then leftL n.toNat else []
def rightL (n : Nat) : List Int := (List.range n).map (fun (i : Nat) => (i : Int)) ++ List.replicate (n - 1) (-1)
def rightD (n : Int) : List Int := if mayP n = true then rightL n.toNat else []
def evenF : Nat → Nat → Nat → List Int
  | 0, from', _ => [(from' : Int)]
  | f + 1, from', n => if n ≤ 1 then [(from' : Int)] else evenF f from' ((n + 1) / 2) ++ evenF f (from' + (n + 1) / 2) (n - (n + 1) / 2) ++ [-1]
def evenD (n : Int) : List Int := if mayP n = true then evenF 4 0 n.toNat else []
/-- what the document says of the plans of n shards -/
def makesOk (n : Nat) : Bool :=
  decide (pcheckD (leftL n) n = 0) && decide (pcheckD (rightL n) n = 0) && decide (pcheckD (evenF 4 0 n) n = 0) && decide (pcheckD (leftL n) ((n : Int) - 1) ≠ 0) &&
  decide (orderD (leftL n) = (List.range n).map (fun (i : Nat) => (i : Int))) && decide (orderD (rightL n) = (List.range n).map (fun (i : Nat) => (i : Int))) && decide (orderD (evenF 4 0 n) = (List.range n).map (fun (i : Nat) => (i : Int))) &&
  decide (heightD (leftL n) = min (n : Int) 2) && decide (heightD (rightL n) = n) && decide (heightD (evenF 4 0 n) ≤ 4) && decide (1 ≤ heightD (evenF 4 0 n)) &&
  decide ((leftL n).length = 2 * n - 1) && decide ((rightL n).length = 2 * n - 1) && decide ((evenF 4 0 n).length = 2 * n - 1)
theorem makes_ok : ∀ n, n < 9 → 1 ≤ n → makesOk n = true := by decide +kernel
end Go.Proofs.Ytgmaljikjkbdlaa
namespace Go.Proofs.Ytgmaljikjkbdlaa
open Lv

/-- a plan's play, from a stack on -/
def playD {T : Type} (z : T) (lay : Int → T × Int) (add : T → T → T × Int) : List Int → List T → T × Int
  | [], st => (st.getD 0 z, 0)
  | k :: t, st =>
    if (if k = -1 then add (st.getD (st.length - 2) z) (st.getD (st.length - 1) z) else lay k).2 ≠ 0 then (z, (if k = -1 then add (st.getD (st.length - 2) z) (st.getD (st.length - 1) z) else lay k).2)
    else playD z lay add t ((if k = -1 then st.take (st.length - 2) else st) ++ [(if k = -1 then add (st.getD (st.length - 2) z) (st.getD (st.length - 1) z) else lay k).1])
def layF (Fs : List FacD) (k : Int) : FacD × Int := if (Fs.getD k.toNat fac0).ok = true then (Fs.getD k.toNat fac0, 0) else (fac0, 1)
/-- what a plan comes to -/
def runD (l : List Int) (Fs : List FacD) : FacD × Int := if pcheckD l Fs.length ≠ 0 then (fac0, 10) else playD fac0 (layF Fs) twoD l []
def cntOk (c : Int × Int) : Bool := decide (0 ≤ c.1) && decide (c.1 ≤ 200) && decide (0 ≤ c.2) && decide (c.2 ≤ 4096)
def cntAdd (cols : Int) (a b : Int × Int) : (Int × Int) × Int := if cntOk (a.1 + b.1, max a.2 b.2 + sizeI cols) = false then ((0, 0), 6) else ((a.1 + b.1, max a.2 b.2 + sizeI cols), 0)
def layC (rows turns : List Int) (k : Int) : (Int × Int) × Int := ((rows.getD k.toNat 0, turns.getD k.toNat 0), 0)
/-- a plan's counts -/
def countsD (l : List Int) (cols : Int) (rows turns : List Int) : (Int × Int) × Int :=
  if sizeI cols = 0 ∨ rows.length ≠ turns.length then ((0, 0), 1)
  else if ((List.range rows.length).any fun k => !cntOk (rows.getD k 0, turns.getD k 0)) = true then ((0, 0), 1)
  else if pcheckD l rows.length ≠ 0 then ((0, 0), 10)
  else playD (0, 0) (layC rows turns) (cntAdd cols) l []

theorem pcheck_yes {l : List Int} {sh : Int} (h : pcheckD l sh = 0) : inP l sh = true ∧ htsP 0 l = some 1 := by
  unfold pcheckD at h
  by_cases c : inP l sh = true ∧ htsP 0 l = some 1
  · exact c
  · rw [if_neg c] at h; cases h
theorem inP_at {l : List Int} {sh : Int} (h : inP l sh = true) {i : Nat} (hi : i < l.length) : -1 ≤ l.getD i 0 ∧ l.getD i 0 < sh := by
  unfold inP at h
  have := List.all_eq_true.1 h i (List.mem_range.2 hi)
  simp only [Bool.not_eq_true', Bool.or_eq_false_iff, decide_eq_false_iff_not] at this
  omega
theorem drop_snoc {l : List Int} {i : Nat} (hi : i < l.length) : l.drop i = l.getD i 0 :: l.drop (i + 1) := by
  rw [List.drop_eq_getElem_cons hi, List.getD_eq_getElem?_getD, List.getElem?_eq_getElem hi]; rfl
theorem play_at {l : List Int} {sh : Int} (h : pcheckD l sh = 0) {i : Nat} {x : Int} (hx : htsP 0 (l.take i) = some x) (hi : i < l.length) :
    (l.getD i 0 = -1 → 2 ≤ x) ∧ htsP 0 (l.take (i + 1)) = some (if l.getD i 0 = -1 then x - 1 else x + 1) ∧ -1 ≤ l.getD i 0 ∧ l.getD i 0 < sh := by
  obtain ⟨h1, h2⟩ := pcheck_yes h
  have e : l = l.take i ++ l.getD i 0 :: l.drop (i + 1) := by rw [← drop_snoc hi, List.take_append_drop]
  have h3 : (htsP 0 (l.take i)).bind (fun y => htsP y (l.getD i 0 :: l.drop (i + 1))) = some 1 := by rw [← htsP_append, ← e]; exact h2
  rw [hx] at h3
  have h4 : htsP x (l.getD i 0 :: l.drop (i + 1)) = some 1 := h3
  have h5 : l.getD i 0 = -1 → 2 ≤ x := by
    intro ek
    unfold htsP at h4
    rw [if_pos ek] at h4
    by_cases c2 : x < 2
    · rw [if_pos c2] at h4; cases h4
    · omega
  refine ⟨h5, ?_, inP_at h1 hi⟩
  rw [take_snoc hi, htsP_snoc, hx]
  show (if l.getD i 0 = -1 then (if x < 2 then none else some (x - 1)) else some (x + 1)) = _
  by_cases ek : l.getD i 0 = -1
  · rw [if_pos ek, if_pos ek, if_neg (by have := h5 ek; omega)]
  · rw [if_neg ek, if_neg ek]
theorem play_end {l : List Int} {sh : Int} (h : pcheckD l sh = 0) {x : Int} (hx : htsP 0 (l.take l.length) = some x) : x = 1 := by
  obtain ⟨_, h2⟩ := pcheck_yes h
  rw [List.take_length, h2] at hx
  exact (Option.some.inj hx).symm

theorem play_push {T : Type} (z : T) (lay : Int → T × Int) (add : T → T → T × Int) {k : Int} (t : List Int) (st : List T) (hk : k ≠ -1) :
    playD z lay add (k :: t) st = if (lay k).2 ≠ 0 then (z, (lay k).2) else playD z lay add t (st ++ [(lay k).1]) := by
  rw [playD]
  simp only [if_neg hk]
theorem play_join {T : Type} (z : T) (lay : Int → T × Int) (add : T → T → T × Int) (t : List Int) (st : List T) :
    playD z lay add (-1 :: t) st = if (add (st.getD (st.length - 2) z) (st.getD (st.length - 1) z)).2 ≠ 0 then (z, (add (st.getD (st.length - 2) z) (st.getD (st.length - 1) z)).2) else playD z lay add t (st.take (st.length - 2) ++ [(add (st.getD (st.length - 2) z) (st.getD (st.length - 1) z)).1]) := by
  rw [playD]
  simp only [if_true]
/-- Left, unrolled -/
def leftT : Nat → Nat → List Int
  | 0, _ => []
  | m + 1, k => (k : Int) :: -1 :: leftT m (k + 1)
theorem left_unroll : ∀ n, n < 9 → 1 ≤ n → leftL n = 0 :: leftT (n - 1) 1 := by decide +kernel
theorem play_left (Fs : List FacD) : ∀ (m k : Nat) (G : FacD), k + m = Fs.length → playD fac0 (layF Fs) twoD (leftT m k) [G] = mfold G (Fs.drop k)
  | 0, k, G, h => by
    rw [List.drop_eq_nil_of_le (by omega)]
    rfl
  | m + 1, k, G, h => by
    have hk : k < Fs.length := by omega
    have ek : Fs.getD k fac0 = Fs[k] := by rw [List.getD_eq_getElem?_getD, List.getElem?_eq_getElem hk]; rfl
    rw [List.drop_eq_getElem_cons hk, ← ek]
    show playD fac0 (layF Fs) twoD ((k : Int) :: -1 :: leftT m (k + 1)) [G] = if (twoD G (Fs.getD k fac0)).2 ≠ 0 then (fac0, (twoD G (Fs.getD k fac0)).2) else mfold (twoD G (Fs.getD k fac0)).1 (Fs.drop (k + 1))
    rw [play_push _ _ _ _ _ (by omega)]
    by_cases c : (Fs.getD k fac0).ok = true
    · have e1 : layF Fs (k : Int) = (Fs.getD k fac0, 0) := by unfold layF; rw [Int.toNat_natCast, if_pos c]
      rw [e1, if_neg (by simp), play_join]
      show (if (twoD G (Fs.getD k fac0)).2 ≠ 0 then (fac0, (twoD G (Fs.getD k fac0)).2) else playD fac0 (layF Fs) twoD (leftT m (k + 1)) [(twoD G (Fs.getD k fac0)).1]) = _
      by_cases c2 : (twoD G (Fs.getD k fac0)).2 ≠ 0
      · rw [if_pos c2, if_pos c2]
      · rw [if_neg c2, if_neg c2]
        exact play_left Fs m (k + 1) _ (by omega)
    · have e1 : layF Fs (k : Int) = (fac0, 1) := by unfold layF; rw [Int.toNat_natCast, if_neg c]
      have e2 : twoD G (Fs.getD k fac0) = (fac0, 1) := twoD_early (by unfold twoEarly; rw [if_pos (.inr (by simpa using c))]) (by decide)
      rw [e1, e2, if_pos (by simp), if_pos (by simp)]
theorem left_checks {n : Nat} (h1 : 1 ≤ n) (h8 : n < 9) : pcheckD (leftL n) n = 0 := by
  have := makes_ok n h8 h1
  unfold makesOk at this
  simp only [Bool.and_eq_true, decide_eq_true_eq] at this
  exact this.1.1.1.1.1.1.1.1.1.1.1.1.1
/-- THE PLAIN LAW of PlanLeft -/
theorem run_left {Fs : List FacD} (h1 : 1 ≤ Fs.length) (h8 : Fs.length < 9) : runD (leftD Fs.length) Fs = mallD Fs := by
  have hm : mayP (Fs.length : Int) = true := by unfold mayP; simp; omega
  unfold runD leftD
  rw [if_pos hm, Int.toNat_natCast, left_checks h1 h8, if_neg (by decide), left_unroll _ h8 h1]
  obtain ⟨A, Bs, rfl⟩ : ∃ A Bs, Fs = A :: Bs := by
    cases Fs with
    | nil => cases h1
    | cons A Bs => exact ⟨A, Bs, rfl⟩
  rw [play_push _ _ _ _ _ (by decide)]
  have e0 : layF (A :: Bs) 0 = if A.ok = true then (A, 0) else (fac0, 1) := rfl
  rw [e0]
  show _ = if A.ok = false then (fac0, 1) else mfold A Bs
  cases hA : A.ok with
  | false => simp
  | true =>
    rw [if_pos rfl, if_neg (by simp), if_neg (by simp)]
    exact play_left (A :: Bs) _ 1 A (by simp; omega)

theorem twoL_ok {c : Nat} {bx : List (Option Nat)} {rws trn : Int} : ∀ (n i : Nat) (gx : List (Option Nat)) (G : FacD), checkP (c : Int) gx rws trn = true → twoLoop c bx n i ⟨(c : Int), gx, rws, trn⟩ = (G, true) → checkP (c : Int) G.xs rws trn = true
  | 0, i, gx, G, hck, h => by
    have hG : (⟨(c : Int), gx, rws, trn⟩ : FacD) = G := (Prod.mk.inj h).1
    subst hG
    exact hck
  | n + 1, i, gx, G, hck, h => by
    rcases two_step h with ⟨_, e⟩ | ⟨gy, e, h2⟩
    · cases e
    · have hok := (lineD_ok (by rw [e])).1
      rw [e] at hok
      exact twoL_ok n (i + 1) gy G hok h2
theorem checkP_re {c : Int} {xs : List (Option Nat)} {r t r' t' : Int} (h : checkP c xs r t = true) (h0 : 0 ≤ r') (h1 : r' ≤ 200) (h2 : 0 ≤ t') (h3 : t' ≤ 4096) : checkP c xs r' t' = true := by
  unfold checkP at h ⊢
  simp only [Bool.and_eq_true, decide_eq_true_eq] at h ⊢
  exact ⟨⟨⟨⟨⟨h.1.1.1.1.1, h0⟩, h1⟩, h2⟩, h3⟩, h.2⟩
theorem twoD_tells {A B : FacD} {C : Int} (hA : A.ok = true) (hB : B.ok = true) (cA : A.cols = C) (cB : B.cols = C) :
    (cntAdd C (A.rws, A.trn) (B.rws, B.trn) = ((0, 0), 6) ∧ (twoD A B).2 = 6) ∨
    (cntAdd C (A.rws, A.trn) (B.rws, B.trn) = ((A.rws + B.rws, max A.trn B.trn + sizeI C), 0) ∧ ((twoD A B).2 = 2 ∨ ((twoD A B).2 = 0 ∧ (twoD A B).1.ok = true ∧ (twoD A B).1.cols = C ∧ (twoD A B).1.rws = A.rws + B.rws ∧ (twoD A B).1.trn = max A.trn B.trn + sizeI C))) := by
  obtain ⟨a0, a1, a2, a3⟩ := ok_rows hA
  obtain ⟨b0, b1, b2, b3⟩ := ok_rows hB
  obtain ⟨c1, c6⟩ := ok_cols hA
  rw [cA] at c1 c6
  have hs := sizeI_in c1 c6
  have hE : twoEarly A B = if 200 < A.rws + B.rws ∨ 4096 < max A.trn B.trn + sizeI C then 6 else 0 := by
    unfold twoEarly
    rw [if_neg (by rw [hA, hB]; simp), if_neg (by rw [cA, cB]; simp), cA]
  have hN : cntOk (A.rws + B.rws, max A.trn B.trn + sizeI C) = !decide (200 < A.rws + B.rws ∨ 4096 < max A.trn B.trn + sizeI C) := by
    rw [Bool.eq_iff_iff]
    unfold cntOk
    simp only [Bool.and_eq_true, decide_eq_true_eq, Bool.not_eq_true', decide_eq_false_iff_not]
    omega
  unfold cntAdd
  dsimp only
  rw [hN]
  by_cases c : 200 < A.rws + B.rws ∨ 4096 < max A.trn B.trn + sizeI C
  · refine .inl ⟨?_, ?_⟩
    · rw [decide_eq_true c]; rfl
    · rw [if_pos c] at hE
      rw [twoD_early hE (by decide)]
  · refine .inr ⟨by rw [decide_eq_false c]; rfl, ?_⟩
    rw [if_neg c] at hE
    rw [twoD_loop hE rfl]
    obtain ⟨ac, ax, ar, at'⟩ := A
    dsimp only at *
    subst cA
    obtain ⟨k, rfl⟩ : ∃ k : Nat, ac = (k : Int) := ⟨ac.toNat, by omega⟩
    rw [Int.toNat_natCast]
    cases hT : (twoLoop k B.xs (k + 1) 0 ⟨(k : Int), ax, ar, at'⟩).2 with
    | false => rw [if_pos rfl]; exact .inl rfl
    | true =>
      rw [if_neg (by simp)]
      refine .inr ⟨rfl, ?_, rfl, rfl, rfl⟩
      have hL : twoLoop k B.xs (k + 1) 0 ⟨(k : Int), ax, ar, at'⟩ = ((twoLoop k B.xs (k + 1) 0 ⟨(k : Int), ax, ar, at'⟩).1, true) := Prod.ext rfl hT
      have hK := twoL_ok _ _ _ _ hA hL
      dsimp only at hK
      show checkP (k : Int) _ (ar + B.rws) (max at' B.trn + sizeI (k : Int)) = true
      exact checkP_re hK (by omega) (by omega) (by omega) (by omega)

theorem play_zero {T : Type} {z : T} {lay : Int → T × Int} {add : T → T → T × Int} : ∀ (l : List Int) (st : List T), (playD z lay add l st).2 ≠ 0 → (playD z lay add l st).1 = z
  | [], st, h => absurd rfl h
  | k :: t, st, h => by
    by_cases ek : k = -1
    · subst ek
      rw [play_join] at h ⊢
      by_cases c : (add (st.getD (st.length - 2) z) (st.getD (st.length - 1) z)).2 ≠ 0
      · rw [if_pos c]
      · rw [if_neg c] at h ⊢
        exact play_zero _ _ h
    · rw [play_push _ _ _ _ _ ek] at h ⊢
      by_cases c : (lay k).2 ≠ 0
      · rw [if_pos c]
      · rw [if_neg c] at h ⊢
        exact play_zero _ _ h
/-- what the counts tell of the factor -/
def CntRel (f : FacD × Int) (c : (Int × Int) × Int) : Prop := if f.2 = 0 then c = ((f.1.rws, f.1.trn), 0) else (c.2 ≠ 0 → c.1 = (0, 0)) ∧ (f.2 = 2 ∨ f.2 = c.2)
theorem sim_play {Fs : List FacD} {C : Int} {rows turns : List Int} : ∀ (l : List Int) (st : List FacD), (∀ F ∈ st, F.ok = true ∧ F.cols = C) →
    (∀ k ∈ l, k ≠ -1 → (Fs.getD k.toNat fac0).ok = true ∧ (Fs.getD k.toNat fac0).cols = C ∧ rows.getD k.toNat 0 = (Fs.getD k.toNat fac0).rws ∧ turns.getD k.toNat 0 = (Fs.getD k.toNat fac0).trn) → htsP st.length l = some 1 →
    CntRel (playD fac0 (layF Fs) twoD l st) (playD (0, 0) (layC rows turns) (cntAdd C) l (st.map fun F => (F.rws, F.trn)))
  | [], st, hst, hl, hh => by
    have : (st.length : Int) = 1 := Option.some.inj hh
    obtain ⟨F, rfl⟩ := List.length_eq_one_iff.1 (by omega : st.length = 1)
    unfold CntRel playD
    rw [if_pos rfl]; rfl
  | k :: t, st, hst, hl, hh => by
    have ht : ∀ j ∈ t, j ≠ -1 → _ := fun j hj => hl j (List.mem_cons_of_mem _ hj)
    unfold htsP at hh
    by_cases ek : k = -1
    · subst ek
      rw [if_pos rfl] at hh
      by_cases c2 : (st.length : Int) < 2
      · rw [if_pos c2] at hh; cases hh
      rw [if_neg c2] at hh
      have hlen : 2 ≤ st.length := by omega
      have mem : ∀ i, i < st.length → st.getD i fac0 ∈ st := fun i hi => by rw [List.getD_eq_getElem?_getD, List.getElem?_eq_getElem hi]; exact List.getElem_mem hi
      have mp : ∀ i, i < st.length → (st.map fun F => (F.rws, F.trn)).getD i (0, 0) = ((st.getD i fac0).rws, (st.getD i fac0).trn) := fun i hi => by
        simp [List.getD_eq_getElem?_getD, List.getElem?_eq_getElem hi]
      obtain ⟨p1, p2⟩ := hst _ (mem (st.length - 2) (by omega))
      obtain ⟨q1, q2⟩ := hst _ (mem (st.length - 1) (by omega))
      rw [play_join, play_join, List.length_map, mp _ (by omega), mp _ (by omega)]
      have T := twoD_tells p1 q1 p2 q2
      generalize twoD (st.getD (st.length - 2) fac0) (st.getD (st.length - 1) fac0) = G at *
      rcases T with ⟨e1, e2⟩ | ⟨e1, e2 | ⟨e2, e3, e4, e5, e6⟩⟩
      · rw [e1, e2, if_pos (by decide), if_pos (by decide)]
        unfold CntRel
        rw [if_neg (by decide)]
        exact ⟨fun _ => rfl, .inr rfl⟩
      · rw [e2, if_pos (by decide)]
        unfold CntRel
        rw [if_neg (by decide)]
        refine ⟨?_, .inl rfl⟩
        rw [e1, if_neg (by simp)]
        exact play_zero _ _
      · rw [e2, if_neg (by simp), e1, if_neg (by simp)]
        have key := sim_play t (st.take (st.length - 2) ++ [G.1]) (fun F hF => by
          rcases List.mem_append.1 hF with hF | hF
          · exact hst F (List.mem_of_mem_take hF)
          · rw [List.mem_singleton.1 hF]; exact ⟨e3, e4⟩) ht (by
          rw [List.length_append, List.length_take, List.length_singleton]
          rw [show ((min (st.length - 2) st.length + 1 : Nat) : Int) = (st.length : Int) - 1 by omega]
          exact hh)
        rw [List.map_append, List.map_take, List.map_singleton, e5, e6] at key
        exact key
    · rw [if_neg ek] at hh
      obtain ⟨h1, h2, h3, h4⟩ := hl k List.mem_cons_self ek
      rw [play_push _ _ _ _ _ ek, play_push _ _ _ _ _ ek]
      have e1 : layF Fs k = (Fs.getD k.toNat fac0, 0) := by unfold layF; rw [if_pos h1]
      have e2 : layC rows turns k = (((Fs.getD k.toNat fac0).rws, (Fs.getD k.toNat fac0).trn), 0) := by unfold layC; rw [h3, h4]
      rw [e1, e2, if_neg (by simp), if_neg (by simp)]
      have key := sim_play t (st ++ [Fs.getD k.toNat fac0]) (fun F hF => by
        rcases List.mem_append.1 hF with hF | hF
        · exact hst F hF
        · rw [List.mem_singleton.1 hF]; exact ⟨h1, h2⟩) ht (by
        rw [List.length_append, List.length_singleton]
        exact hh)
      rw [List.map_append, List.map_singleton] at key
      exact key
/-- THE PLAIN LAW of PlanCounts -/
theorem run_counts {l : List Int} {Fs : List FacD} {C : Int} (h0 : 1 ≤ Fs.length) (hF : ∀ i, i < Fs.length → (Fs.getD i fac0).ok = true ∧ (Fs.getD i fac0).cols = C) :
    CntRel (runD l Fs) (countsD l C (Fs.map FacD.rws) (Fs.map FacD.trn)) := by
  obtain ⟨k1, k2⟩ := hF 0 (by omega)
  obtain ⟨c1, c6⟩ := ok_cols k1
  rw [k2] at c1 c6
  have hs := sizeI_in c1 c6
  have rw1 : ∀ i, i < Fs.length → (Fs.map FacD.rws).getD i 0 = (Fs.getD i fac0).rws := fun i hi => by simp [List.getD_eq_getElem?_getD, List.getElem?_eq_getElem hi]
  have rw2 : ∀ i, i < Fs.length → (Fs.map FacD.trn).getD i 0 = (Fs.getD i fac0).trn := fun i hi => by simp [List.getD_eq_getElem?_getD, List.getElem?_eq_getElem hi]
  have n1 : ¬ (sizeI C = 0 ∨ (Fs.map FacD.rws).length ≠ (Fs.map FacD.trn).length) := by rw [List.length_map, List.length_map]; omega
  have n2 : ¬ ((List.range (Fs.map FacD.rws).length).any fun k => !cntOk ((Fs.map FacD.rws).getD k 0, (Fs.map FacD.trn).getD k 0)) = true := by
    rw [List.any_eq_true, List.length_map]
    rintro ⟨i, hi, hb⟩
    have hi := List.mem_range.1 hi
    obtain ⟨a0, a1, a2, a3⟩ := ok_rows (hF i hi).1
    rw [rw1 i hi, rw2 i hi] at hb
    unfold cntOk at hb
    simp only [Bool.not_eq_true', Bool.and_eq_false_iff, decide_eq_false_iff_not] at hb
    omega
  have hcd : countsD l C (Fs.map FacD.rws) (Fs.map FacD.trn) = if pcheckD l Fs.length ≠ 0 then ((0, 0), 10) else playD (0, 0) (layC (Fs.map FacD.rws) (Fs.map FacD.trn)) (cntAdd C) l [] := by
    unfold countsD
    rw [if_neg n1, if_neg n2, List.length_map]
  rw [hcd]
  unfold runD
  by_cases c : pcheckD l Fs.length ≠ 0
  · rw [if_pos c, if_pos c]
    unfold CntRel
    rw [if_neg (by simp)]
    exact ⟨fun _ => rfl, .inr rfl⟩
  · rw [if_neg c, if_neg c]
    have hc : pcheckD l Fs.length = 0 := by simpa using c
    obtain ⟨i1, i2⟩ := pcheck_yes hc
    refine sim_play l [] (fun F hF => nomatch hF) (fun k hk hne => ?_) i2
    obtain ⟨i, hi, rfl⟩ := List.getElem_of_mem hk
    have hb := inP_at i1 hi
    rw [List.getD_eq_getElem?_getD, List.getElem?_eq_getElem hi] at hb
    have hb' : -1 ≤ l[i] ∧ l[i] < (Fs.length : Int) := hb
    have hlt : l[i].toNat < Fs.length := by omega
    exact ⟨(hF _ hlt).1, (hF _ hlt).2, rw1 _ hlt, rw2 _ hlt⟩
end Go.Proofs.Ytgmaljikjkbdlaa
