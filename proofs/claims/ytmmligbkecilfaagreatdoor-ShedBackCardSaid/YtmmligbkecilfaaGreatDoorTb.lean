/- A line taken out of a factor, plainly: column by column, in place; row by row, set at the end. Hyperbolic rotations, walked: the program's and the reference's. -/
import Derived.Test.YtmmligbkecilfaaGreatDoorOe
import Derived.Test.YtmmligbkecilfaaGreatDoorT
namespace Go.Proofs.YtmmligbkecilfaaGreatDoor
open Lv
open Ieee
open Go.RowKit Go.Shelf

/-- both lists, the first n entries behind j turned -/
def gturnTo (g1 g2 : Option Nat → Option Nat → Option Nat) (j : Nat) : Nat → List (Option Nat) × List (Option Nat) → List (Option Nat) × List (Option Nat)
  | 0, p => p
  | n + 1, p => ((gturnTo g1 g2 j n p).1.set (j + 1 + n) (g1 ((gturnTo g1 g2 j n p).1.getD (j + 1 + n) none) ((gturnTo g1 g2 j n p).2.getD (j + 1 + n) none)),
      (gturnTo g1 g2 j n p).2.set (j + 1 + n) (g2 ((gturnTo g1 g2 j n p).1.getD (j + 1 + n) none) ((gturnTo g1 g2 j n p).2.getD (j + 1 + n) none)))
theorem gturnTo_len (g1 g2 : Option Nat → Option Nat → Option Nat) (j : Nat) (p : List (Option Nat) × List (Option Nat)) : ∀ n, (gturnTo g1 g2 j n p).1.length = p.1.length ∧ (gturnTo g1 g2 j n p).2.length = p.2.length
  | 0 => ⟨rfl, rfl⟩
  | n + 1 => by
    have := gturnTo_len g1 g2 j p n
    simp only [gturnTo, List.length_set]
    exact this
/-- the reference turns what is stored itself: entry j of the row stands at o -/
def gturn (g1 g2 : Option Nat → Option Nat → Option Nat) (j o : Nat) : Nat → List (Option Nat) × List (Option Nat) → List (Option Nat) × List (Option Nat)
  | 0, p => p
  | n + 1, p => ((gturn g1 g2 j o n p).1.set (o + 1 + n) (g1 ((gturn g1 g2 j o n p).1.getD (o + 1 + n) none) ((gturn g1 g2 j o n p).2.getD (j + 1 + n) none)),
      (gturn g1 g2 j o n p).2.set (j + 1 + n) (g2 ((gturn g1 g2 j o n p).1.getD (o + 1 + n) none) ((gturn g1 g2 j o n p).2.getD (j + 1 + n) none)))
theorem gturn_len (g1 g2 : Option Nat → Option Nat → Option Nat) (j o : Nat) (p : List (Option Nat) × List (Option Nat)) : ∀ n, (gturn g1 g2 j o n p).1.length = p.1.length ∧ (gturn g1 g2 j o n p).2.length = p.2.length
  | 0 => ⟨rfl, rfl⟩
  | n + 1 => by
    have := gturn_len g1 g2 j o p n
    simp only [gturn, List.length_set]
    exact this
/-- the two ways to turn a row agree -/
theorem gturn_agree {xs rest : List (Option Nat)} {c j : Nat} (h1 : 1 ≤ c) (h6 : c ≤ 6) (hl : xs.length = tsz c) (hj : j ≤ c) (g1 g2 : Option Nat → Option Nat → Option Nat) (r : Option Nat) : ∀ n, n ≤ c - j →
    (gturn g1 g2 j (offs c j) n (xs.set (offs c j) r, rest)).2 = (gturnTo g1 g2 j n ((lineP xs c j).set j r, rest)).2 ∧
    (gturn g1 g2 j (offs c j) n (xs.set (offs c j) r, rest)).1 = setP xs c j (gturnTo g1 g2 j n ((lineP xs c j).set j r, rest)).1
  | 0, _ => by
    have ho := offs_le c j h1 h6 (by omega)
    have hll := lineP_len h1 h6 hl hj
    refine ⟨rfl, ext_getD none ?_ fun i hi => ?_⟩
    · simp only [gturn, gturnTo]
      rw [List.length_set, setP_len h1 h6 hl hj (by rw [List.length_set]; exact hll), hl]
    · simp only [gturn, gturnTo] at hi ⊢
      rw [List.length_set] at hi
      rw [getD_set, getD_setP h1 h6 hl hj (by rw [List.length_set]; exact hll)]
      unfold tsz at hl
      by_cases e : i = offs c j
      · rw [if_pos ⟨e, by omega⟩, if_pos (by omega), getD_set, if_pos ⟨by omega, by omega⟩]
      · rw [if_neg (fun h => e h.1)]
        split
        · rw [getD_set, if_neg (by omega), getD_lineP hj _ (by omega), if_neg (by omega)]
          congr 1
          omega
        · rfl
  | n + 1, hn => by
    obtain ⟨a, b⟩ := gturn_agree h1 h6 hl hj g1 g2 r n (by omega)
    have ho := offs_le c j h1 h6 (by omega)
    have hll := lineP_len h1 h6 hl hj
    have hp := gturnTo_len g1 g2 j ((lineP xs c j).set j r, rest) n
    rw [List.length_set, hll] at hp
    simp only [gturn, gturnTo]
    rw [a, b]
    have hx : (setP xs c j (gturnTo g1 g2 j n ((lineP xs c j).set j r, rest)).1).getD (offs c j + 1 + n) none = (gturnTo g1 g2 j n ((lineP xs c j).set j r, rest)).1.getD (j + 1 + n) none := by
      rw [getD_setP h1 h6 hl hj hp.1, if_pos (by omega)]
      congr 1
      omega
    rw [hx]
    refine ⟨rfl, ext_getD none ?_ fun i hi => ?_⟩
    · rw [List.length_set, setP_len h1 h6 hl hj hp.1, setP_len h1 h6 hl hj (by rw [List.length_set]; exact hp.1)]
    · rw [List.length_set] at hi
      rw [getD_set, getD_setP h1 h6 hl hj hp.1, getD_setP h1 h6 hl hj (by rw [List.length_set]; exact hp.1), setP_len h1 h6 hl hj hp.1]
      unfold tsz at hl ⊢
      by_cases e : i = offs c j + 1 + n
      · rw [if_pos ⟨e, by omega⟩, if_pos (by omega), getD_set, if_pos ⟨by omega, by rw [hp.1]; omega⟩]
      · rw [if_neg (fun h => e h.1)]
        split
        · rw [getD_set, if_neg (by omega)]
        · rfl

/-- is a float less than 1, in size? -/
def ltOne (x : Option Nat) : Bool := match x with | none => false | some b => decide (b % 9223372036854775808 < 4607182418800017408)
def hyC (s : Option Nat) : Option Nat := fsqrt (fmul (fsub (some 4607182418800017408) s) (fadd (some 4607182418800017408) s))
/-- a hyperbolic rotation -/
def hyperF (r x : Option Nat) : Option (Option Nat × Option Nat) :=
  if (numF r && numF x) = false then none
  else if (zeroF r && zeroF x) = true then some (some 4607182418800017408, some 0)
  else if ltOne (fdiv x r) = true then some (hyC (fdiv x r), fdiv x r) else none
def downP (c s r x : Option Nat) : Option Nat := fdiv (fsub r (fmul s x)) c
def downX (c s r x : Option Nat) : Option Nat := fsub (fmul c x) (fmul s (downP c s r x))
/-- one column -/
def sstep (c j : Nat) (st : List (Option Nat) × List (Option Nat)) : Option (List (Option Nat) × List (Option Nat)) :=
  match hyperF (st.1.getD (offs c j) none) (st.2.getD j none) with
  | none => none
  | some (cc, ss) => some (gturn (downP cc ss) (downX cc ss) j (offs c j) (c - j) (st.1.set (offs c j) (fmul cc (st.1.getD (offs c j) none)), st.2))
/-- n columns, from j on -/
def sfrom (c : Nat) : Nat → Nat → List (Option Nat) × List (Option Nat) → Option (List (Option Nat))
  | 0, _, st => some st.1
  | n + 1, j, st => match sstep c j st with
    | none => none
    | some st' => sfrom c n (j + 1) st'
/-- a line taken out of a factor -/
def shedD (F : FacD) (ls : List (Option Nat)) : FacD × Int :=
  if F.ok = true ∧ (ls.length : Int) = F.cols + 1 then
    match sfrom F.cols.toNat (F.cols.toNat + 1) 0 (F.xs, ls) with
    | none => (fac0, 8)
    | some ys => if checkP F.cols ys F.rws F.trn = true then (⟨F.cols, ys, F.rws, F.trn⟩, 0) else (fac0, 2)
  else (fac0, 1)

theorem lineP_diag {xs : List (Option Nat)} {c j : Nat} (hj : j ≤ c) : (lineP xs c j).getD j none = xs.getD (offs c j) none := by
  rw [getD_lineP hj _ (by omega), if_neg (by omega), Nat.sub_self, Nat.add_zero]
/-- one column, by the row -/
theorem sstep_eq {xs rest : List (Option Nat)} {c j : Nat} (h1 : 1 ≤ c) (h6 : c ≤ 6) (hl : xs.length = tsz c) (hj : j ≤ c) :
    sstep c j (xs, rest) = match hyperF ((lineP xs c j).getD j none) (rest.getD j none) with
      | none => none
      | some (cc, ss) => some (setP xs c j (gturnTo (downP cc ss) (downX cc ss) j (c - j) ((lineP xs c j).set j (fmul cc ((lineP xs c j).getD j none)), rest)).1,
          (gturnTo (downP cc ss) (downX cc ss) j (c - j) ((lineP xs c j).set j (fmul cc ((lineP xs c j).getD j none)), rest)).2) := by
  rw [lineP_diag hj]
  unfold sstep
  dsimp only
  rcases hyperF (xs.getD (offs c j) none) (rest.getD j none) with _ | ⟨cc, ss⟩
  · rfl
  · dsimp only
    obtain ⟨a, b⟩ := gturn_agree (rest := rest) h1 h6 hl hj (downP cc ss) (downX cc ss) (fmul cc (xs.getD (offs c j) none)) (c - j) (Nat.le_refl _)
    rw [← a, ← b]
theorem sstep_lens {xs rest : List (Option Nat)} {c j : Nat} {st : List (Option Nat) × List (Option Nat)} (h : sstep c j (xs, rest) = some st) : st.1.length = xs.length ∧ st.2.length = rest.length := by
  unfold sstep at h
  dsimp only at h
  rcases hO : hyperF (xs.getD (offs c j) none) (rest.getD j none) with _ | ⟨cc, ss⟩
  · rw [hO] at h; cases h
  · rw [hO] at h
    obtain rfl := Option.some.inj h
    have := gturn_len (downP cc ss) (downX cc ss) j (offs c j) (xs.set (offs c j) (fmul cc (xs.getD (offs c j) none)), rest) (c - j)
    rw [List.length_set] at this
    exact this
/-- a triangle whose first k rows are another one's -/
def mixP (xs ys : List (Option Nat)) (c k : Nat) : List (Option Nat) := ys.take (offs c k) ++ xs.drop (offs c k)
theorem mix_len {xs ys : List (Option Nat)} {c k : Nat} (h1 : 1 ≤ c) (h6 : c ≤ 6) (hx : xs.length = tsz c) (hy : ys.length = tsz c) (hk : k ≤ c + 1) : (mixP xs ys c k).length = tsz c := by
  have := offs_le c k h1 h6 hk
  unfold mixP
  rw [List.length_append, List.length_take, List.length_drop, hx, hy]
  unfold tsz
  omega
theorem getD_mix {xs ys : List (Option Nat)} {c k : Nat} (h1 : 1 ≤ c) (h6 : c ≤ 6) (hy : ys.length = tsz c) (hk : k ≤ c + 1) (i : Nat) : (mixP xs ys c k).getD i none = if i < offs c k then ys.getD i none else xs.getD i none := by
  have := offs_le c k h1 h6 hk
  have hle : (ys.take (offs c k)).length = offs c k := by rw [List.length_take, hy]; unfold tsz; omega
  unfold mixP
  rw [List.getD_eq_getElem?_getD]
  by_cases h : i < offs c k
  · rw [List.getElem?_append_left (by omega), if_pos h, List.getElem?_take_of_lt h, List.getD_eq_getElem?_getD]
  · rw [List.getElem?_append_right (by omega), if_neg h, hle, List.getElem?_drop, List.getD_eq_getElem?_getD]
    congr 2
    omega
theorem mix_step {xs ys : List (Option Nat)} {c k : Nat} (h1 : 1 ≤ c) (h6 : c ≤ 6) (hx : xs.length = tsz c) (hy : ys.length = tsz c) (hk : k ≤ c) : setP (mixP xs ys c k) c k (lineP ys c k) = mixP xs ys c (k + 1) := by
  have hm := mix_len h1 h6 hx hy (k := k) (by omega)
  have hll := lineP_len h1 h6 hy hk
  refine ext_getD none (by rw [setP_len h1 h6 hm hk hll, mix_len h1 h6 hx hy (by omega)]) fun i hi => ?_
  rw [getD_setP h1 h6 hm hk hll, getD_mix h1 h6 hy (by omega), getD_mix h1 h6 hy (by omega)]
  have ho : offs c (k + 1) = offs c k + (c + 1 - k) := rfl
  by_cases c1 : offs c k ≤ i ∧ i < offs c k + (c + 1 - k)
  · rw [if_pos c1, if_pos (by omega), getD_lineP hk _ (by omega), if_neg (by omega)]
    congr 1
    omega
  · rw [if_neg c1]
    by_cases c2 : i < offs c k
    · rw [if_pos c2, if_pos (by omega)]
    · rw [if_neg c2, if_neg (by omega)]
theorem mix_zero (xs ys : List (Option Nat)) (c : Nat) : mixP xs ys c 0 = xs := by
  unfold mixP
  show ys.take 0 ++ xs.drop 0 = xs
  simp
theorem mix_all {xs ys : List (Option Nat)} {c : Nat} (h1 : 1 ≤ c) (h6 : c ≤ 6) (hx : xs.length = tsz c) (hy : ys.length = tsz c) : mixP xs ys c (c + 1) = ys := by
  unfold mixP
  rw [offs_end c h1 h6, List.take_of_length_le (by rw [hy]; exact Nat.le_refl _), List.drop_of_length_le (by rw [hx]; exact Nat.le_refl _), List.append_nil]
/-- if a set is refused, the whole is -/
theorem mix_bad {xs ys : List (Option Nat)} {c k : Nat} {rws trn : Int} (h1 : 1 ≤ c) (h6 : c ≤ 6) (hx : xs.length = tsz c) (hy : ys.length = tsz c) (hk : k ≤ c) (hok : checkP (c : Int) (mixP xs ys c k) rws trn = true) (hno : checkP (c : Int) (mixP xs ys c (k + 1)) rws trn = false) : checkP (c : Int) ys rws trn = false := by
  have hm := mix_len h1 h6 hx hy (k := k) (by omega)
  have hll := lineP_len h1 h6 hy hk
  rw [← mix_step h1 h6 hx hy hk] at hno
  have hb := check_bad h1 h6 hm hk hll hok hno
  rw [mix_step h1 h6 hx hy hk] at hb
  have he : seg (mixP xs ys c (k + 1)) c k = seg ys c k := by
    have hm2 := mix_len h1 h6 hx hy (k := k + 1) (by omega)
    have ho : offs c (k + 1) = offs c k + (c + 1 - k) := rfl
    refine ext_getD none (by rw [seg_length h1 h6 hm2 hk, seg_length h1 h6 hy hk]) fun i hi => ?_
    rw [seg_length h1 h6 hm2 hk] at hi
    unfold seg
    rw [List.getD_eq_getElem?_getD, List.getD_eq_getElem?_getD, List.getElem?_take_of_lt hi, List.getElem?_take_of_lt hi, List.getElem?_drop, List.getElem?_drop, ← List.getD_eq_getElem?_getD, ← List.getD_eq_getElem?_getD, getD_mix h1 h6 hy (by omega), if_pos (by omega)]
  rw [he] at hb
  exact bad_check hk hb
end Go.Proofs.YtmmligbkecilfaaGreatDoor
namespace Go.Proofs.YtmmligbkecilfaaGreatDoor
open Go.RowKit Lv Go.Shelf
open Ieee (double Format Datum Toward)
attribute [local go_sem] run_eqF run_store_float drewN_alloc drewN_setCell run_addF run_subF run_mulF run_quoF

theorem Down_calls (c s r x : Nat) (w : World) {C S R X : Option Nat} (hc : FW c C) (hs : FW s S) (hr : FW r R) (hx : FW x X) :
    Calls Tryz.prog 66 #[.float .f64 c, .float .f64 s, .float .f64 r, .float .f64 x] w fun e w' => ∃ u v, e = .returned (.tuple #[.float .f64 u, .float .f64 v]) ∧ FW u (downP C S R X) ∧ FW v (downX C S R X) ∧ Below w.heap.size w w' := by
  have H := Lib.hid (And.intro (And.intro hc hs) (And.intro hr hx))
  clear hc hs hr hx
  go_enter Tryz.func66, Tryz.ntmps66
  go_wp2
  go_ret2
  exact ⟨_, _, rfl, opw_div _ (opw_sub _ H.out.2.1 (opw_mul _ H.out.1.2 H.out.2.2)) H.out.1.1, opw_sub _ (opw_mul _ H.out.1.1 H.out.2.2) (opw_mul _ H.out.1.2 (opw_div _ (opw_sub _ H.out.2.1 (opw_mul _ H.out.1.2 H.out.2.2)) H.out.1.1)), below_drewN (Below.refl _ _) _⟩
/-- what a hyperbolic rotation hands back -/
def HyPost (o : Option (Option Nat × Option Nat)) (e : Ending) : Prop :=
  match o with
  | none => e = .returned (.tuple #[.float .f64 0, .float .f64 0, .bool false])
  | some (c, s) => ∃ u v, e = .returned (.tuple #[.float .f64 u, .float .f64 v, .bool true]) ∧ FW u c ∧ FW v s
theorem ltOne_word {q : Nat} {S : Option Nat} (h : FW q S) : (FloatKind.f64.format.order (q % 9223372036854775808) 4607182418800017408 == some Ordering.lt) = ltOne S := by
  obtain ⟨_, h2⟩ := h
  cases S with
  | none =>
    have hn := ab_none h2
    rw [show FloatKind.f64.format.order (q % 9223372036854775808) 4607182418800017408 = none from order_none (.inl (by rw [nan_abs]; exact hn))]
    rfl
  | some b =>
    obtain ⟨rfl, hn⟩ := ab_some h2
    refine (order_lt (by rw [nan_abs]; exact hn) (by decide) (by omega) (by decide)).trans ?_
    rw [key_abs, key_pos (by decide)]
    unfold ltOne
    dsimp only
    congr 1
    apply propext
    omega
theorem hyper_none {R X : Option Nat} (h : (numF R && numF X) = false) : hyperF R X = none := by unfold hyperF; rw [if_pos h]
theorem hyper_zero {R X : Option Nat} (h : (numF R && numF X) = true) (hz : (zeroF R && zeroF X) = true) : hyperF R X = some (some 4607182418800017408, some 0) := by unfold hyperF; rw [if_neg (by rw [h]; decide), if_pos hz]
theorem hyper_some {R X : Option Nat} (h : (numF R && numF X) = true) (hz : (zeroF R && zeroF X) = false) : hyperF R X = if ltOne (fdiv X R) = true then some (hyC (fdiv X R), fdiv X R) else none := by unfold hyperF; rw [if_neg (by rw [h]; decide), if_neg (by rw [hz]; decide)]
theorem fw_unit : FW 4607182418800017408 (some 4607182418800017408) := ⟨by unfold W64; decide, by decide⟩
set_option maxRecDepth 100000 in
theorem Hyper_calls (r x : Nat) (w : World) {R X : Option Nat} (hr : FW r R) (hx : FW x X) :
    Calls Tryz.prog 65 #[.float .f64 r, .float .f64 x] w fun e w' => HyPost (hyperF R X) e ∧ Below w.heap.size w w' := by
  have M := Lib.hid (may_calls r x hr.1 hx.1)
  rw [numW_F hr, numW_F hx] at M
  cases h : (numF R && numF X)
  · rw [h] at M
    rw [hyper_none h]
    clear hr hx h
    go_enter Tryz.func65, Tryz.ntmps65
    go_wp2_with (go_at_call 80; refine (M.out _).mono ?_; rintro e w1 ⟨rfl, hb⟩)
    go_ret3
    exact ⟨rfl, ((Below.refl _ _).alloc (Nat.le_refl _) _).trans (hb.mono (by simp))⟩
  · rw [h] at M
    have e1 : (FloatKind.f64.format.order r 0 == some Ordering.eq) = decide (r % 9223372036854775808 = 0) := is_zero r hr.1
    have e2 : (FloatKind.f64.format.order x 0 == some Ordering.eq) = decide (x % 9223372036854775808 = 0) := is_zero x hx.1
    rw [zeroW_F hr] at e1
    rw [zeroW_F hx] at e2
    cases hz : (zeroF R && zeroF X)
    · rw [hyper_some h hz]
      have HW := Lib.hid (And.intro hr hx)
      have AB := Lib.hid (fun b hb w => abs_calls b hb w)
      have LT := Lib.hid (fun q (hq : FW q (fdiv X R)) => ltOne_word hq)
      generalize zeroF R = zr at *
      generalize zeroF X = zx at *
      clear hr hx h
      cases hlt : ltOne (fdiv X R)
      · rw [if_neg (by decide)]
        rw [hlt] at LT
        clear hlt
        cases zr
        · go_enter Tryz.func65, Tryz.ntmps65
          go_upto_region 7 with (go_at_call 80; refine (M.out _).mono ?_; rintro e w1 ⟨rfl, hb⟩; obtain ⟨hc, hf⟩ := bcell hb)
          have HB := Lib.hid (((Below.refl w.heap.size w).alloc (Nat.le_refl _) (.cells #[.float .f64 r, .float .f64 x] 118)).trans (hb.mono (by simp)))
          have HQ := Lib.hid (opw_div w1 HW.out.2 HW.out.1)
          generalize opw (double.div x r) x r w1 = q at *
          generalize opd (double.div x r) = dq at *
          have hcmp := LT.out q HQ.out
          clear hb hc hf
          go_wp2_with (go_at_call 38; refine (AB.out q HQ.out.1 _).mono ?_; rintro e w' ⟨rfl, rfl⟩)
          go_ret3
          exact ⟨rfl, below_drewN HB.out _⟩
        · cases zx
          · go_enter Tryz.func65, Tryz.ntmps65
            go_upto_region 7 with (go_at_call 80; refine (M.out _).mono ?_; rintro e w1 ⟨rfl, hb⟩; obtain ⟨hc, hf⟩ := bcell hb)
            have HB := Lib.hid (((Below.refl w.heap.size w).alloc (Nat.le_refl _) (.cells #[.float .f64 r, .float .f64 x] 118)).trans (hb.mono (by simp)))
            have HQ := Lib.hid (opw_div w1 HW.out.2 HW.out.1)
            generalize opw (double.div x r) x r w1 = q at *
            generalize opd (double.div x r) = dq at *
            have hcmp := LT.out q HQ.out
            clear hb hc hf
            go_wp2_with (go_at_call 38; refine (AB.out q HQ.out.1 _).mono ?_; rintro e w' ⟨rfl, rfl⟩)
            go_ret3
            exact ⟨rfl, below_drewN HB.out _⟩
          · cases hz
      · rw [if_pos rfl]
        rw [hlt] at LT
        clear hlt
        cases zr
        · go_enter Tryz.func65, Tryz.ntmps65
          go_upto_region 7 with (go_at_call 80; refine (M.out _).mono ?_; rintro e w1 ⟨rfl, hb⟩; obtain ⟨hc, hf⟩ := bcell hb)
          have HB := Lib.hid (((Below.refl w.heap.size w).alloc (Nat.le_refl _) (.cells #[.float .f64 r, .float .f64 x] 118)).trans (hb.mono (by simp)))
          have HQ := Lib.hid (opw_div w1 HW.out.2 HW.out.1)
          generalize opw (double.div x r) x r w1 = q at *
          generalize opd (double.div x r) = dq at *
          have hcmp := LT.out q HQ.out
          clear hb hc hf
          go_wp2_with (first | (go_at_call 38; refine (AB.out q HQ.out.1 _).mono ?_; rintro e w' ⟨rfl, rfl⟩) | (go_at_call 87; refine (sqrt_calls _ _ (opw_mul _ (opw_sub _ fw_unit HQ.out) (opw_add _ fw_unit HQ.out))).mono ?_; rintro e w2 ⟨u, rfl, hu, hb2⟩))
          go_ret3
          exact ⟨⟨_, _, rfl, hu, HQ.out⟩, (below_drewN HB.out _).trans (hb2.mono HB.out.size)⟩
        · cases zx
          · go_enter Tryz.func65, Tryz.ntmps65
            go_upto_region 7 with (go_at_call 80; refine (M.out _).mono ?_; rintro e w1 ⟨rfl, hb⟩; obtain ⟨hc, hf⟩ := bcell hb)
            have HB := Lib.hid (((Below.refl w.heap.size w).alloc (Nat.le_refl _) (.cells #[.float .f64 r, .float .f64 x] 118)).trans (hb.mono (by simp)))
            have HQ := Lib.hid (opw_div w1 HW.out.2 HW.out.1)
            generalize opw (double.div x r) x r w1 = q at *
            generalize opd (double.div x r) = dq at *
            have hcmp := LT.out q HQ.out
            clear hb hc hf
            go_wp2_with (first | (go_at_call 38; refine (AB.out q HQ.out.1 _).mono ?_; rintro e w' ⟨rfl, rfl⟩) | (go_at_call 87; refine (sqrt_calls _ _ (opw_mul _ (opw_sub _ fw_unit HQ.out) (opw_add _ fw_unit HQ.out))).mono ?_; rintro e w2 ⟨u, rfl, hu, hb2⟩))
            go_ret3
            exact ⟨⟨_, _, rfl, hu, HQ.out⟩, (below_drewN HB.out _).trans (hb2.mono HB.out.size)⟩
          · cases hz
    · rw [hyper_zero h hz]
      rw [Bool.and_eq_true] at hz
      rw [hz.1] at e1
      rw [hz.2] at e2
      clear hr hx h hz
      go_enter Tryz.func65, Tryz.ntmps65
      go_wp2_with (go_at_call 80; refine (M.out _).mono ?_; rintro e w1 ⟨rfl, hb⟩; obtain ⟨hc, hf⟩ := bcell hb)
      go_ret3
      exact ⟨⟨_, _, rfl, ⟨by unfold W64; decide, by decide⟩, fw_zero⟩, ((Below.refl _ _).alloc (Nat.le_refl _) _).trans (hb.mono (by simp))⟩

theorem div_inf (s t : Bool) {g : Nat} (h0 : g ≠ 0) (hg : g < 9218868437227405312) : double.div (wd t g) (wd s 0) = some (wd (t ^^ s) 9218868437227405312) := by
  have hm := mg_ne h0
  unfold Ieee.Format.div
  rw [read_wd t hg, read_wd s (by decide)]
  simp only [Datum.quotient, mg_zero, if_neg hm, if_true, Option.map_some, Ieee.Format.write, ir]
  rw [word_wd]
theorem hyper_inf {R X : Option Nat} {r x : Nat} (hr : FW r R) (hx : FW x X) (h : (numF R && numF X) = true) (zr : zeroF R = true) (zx : zeroF X = false) : hyperF R X = none := by
  have h' := h
  rw [Bool.and_eq_true] at h'
  rw [hyper_some h (by rw [zx, Bool.and_false])]
  have wR : Wd R := by intro b hb; have h2 := hr.2; rw [hb] at h2; obtain ⟨rfl, _⟩ := ab_some h2; exact hr.1
  have wX : Wd X := by intro b hb; have h2 := hx.2; rw [hb] at h2; obtain ⟨rfl, _⟩ := ab_some h2; exact hx.1
  obtain ⟨s, g, rfl, hg⟩ := num_wd h'.1 wR
  obtain ⟨t, f, rfl, hf⟩ := num_wd h'.2 wX
  rw [zeroF_wd s hg] at zr
  rw [zeroF_wd t hf] at zx
  have g0 : g = 0 := of_decide_eq_true zr
  have f0 : f ≠ 0 := of_decide_eq_false zx
  subst g0
  have : ltOne (fdiv (some (wd t f)) (some (wd s 0))) = false := by
    rw [show fdiv (some (wd t f)) (some (wd s 0)) = some (wd (t ^^ s) 9218868437227405312) from div_inf s t f0 hf]
    unfold ltOne
    dsimp only
    rw [wd_mod _ (by decide)]
    rfl
  rw [if_neg (by rw [this]; decide)]
theorem between_word {q : Nat} {S : Option Nat} (h : FW q S) : ((FloatKind.f64.format.order q 13830554455654793216 == some Ordering.gt) && (FloatKind.f64.format.order q 4607182418800017408 == some Ordering.lt)) = ltOne S := by
  obtain ⟨h1, h2⟩ := h
  unfold W64 at h1
  cases S with
  | none =>
    have hn := ab_none h2
    rw [show FloatKind.f64.format.order q 13830554455654793216 = none from order_none (.inl hn)]
    rfl
  | some b =>
    obtain ⟨rfl, hn⟩ := ab_some h2
    have e1 : (FloatKind.f64.format.order b 13830554455654793216 == some Ordering.gt) = decide (key 13830554455654793216 < key b) := order_gt hn (by decide) h1 (by decide)
    have e2 : (FloatKind.f64.format.order b 4607182418800017408 == some Ordering.lt) = decide (key b < key 4607182418800017408) := order_lt hn (by decide) h1 (by decide)
    rw [e1, e2, show key 13830554455654793216 = -4607182418800017408 from by decide, show key 4607182418800017408 = 4607182418800017408 from by decide]
    have e3 : ltOne (some b) = decide (b % 9223372036854775808 < 4607182418800017408) := rfl
    rw [e3, ← Bool.decide_and]
    congr 1
    apply propext
    unfold key
    split <;> omega
end Go.Proofs.YtmmligbkecilfaaGreatDoor
