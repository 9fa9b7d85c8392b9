/- A drawn region whose last operation waits for all the others: the others first, then the last. The reference's Normal of layer 9: its entries both ways; its first loops. -/
import Derived.Test.YtnboegeljaplbaaGreatZq
namespace Go.Proofs.YtnboegeljaplbaaGreat
open Go.RowKit Lv Go.Shelf

section
variable {P : Program}
/-- what stands behind a region without its last operation -/
def LastQ (P : Program) (ops : Array Oper) (n : Nat) (Q : Exit → Act → World → Prop) : Exit → Act → World → Prop
  | .normal, a, w => wpOp P ops Q n (fun a w => Q .normal a w) a w
  | e, a, w => Q e a w
/-- every operation but the last is waited for; edges go back; guards too -/
def lastOk (l : List Oper) : Bool :=
  ((List.range l.length).all fun j => ((l[j]?).map (fun o => (o.after.all fun e => decide (e.on < j)) && (match o.guard with | none => true | some (g, _) => decide (g + 1 < l.length)))).getD false) &&
  ((List.range (l.length - 1)).all fun j => l.any fun o => o.after.any fun e => Region.binds .any e && e.on == j)
theorem getD_pushB (L : Array Bool) (b d : Bool) (i : Nat) : (L.push b).getD i d = if i < L.size then L.getD i d else if i = L.size then b else d := by
  rw [Array.getD_eq_getD_getElem?, Array.getD_eq_getD_getElem?, Array.getElem?_push]
  by_cases h : i < L.size
  · rw [if_neg (by omega), if_pos h]
  · by_cases e : i = L.size
    · rw [if_pos e, if_neg h, if_pos e]; rfl
    · rw [if_neg e, if_neg h, if_neg e, Array.getElem?_eq_none (by omega)]; rfl
theorem getD_setB' (L : Array Bool) (i j : Nat) (d : Bool) (hi : i < L.size) : (L.setIfInBounds i true).getD j d = if j = i then true else L.getD j d := by
  rw [Array.getD_eq_getD_getElem?, Array.getD_eq_getD_getElem?, Array.getElem?_setIfInBounds]
  by_cases e : j = i
  · subst e; rw [if_pos rfl, if_pos rfl, if_pos hi]; rfl
  · rw [if_neg (Ne.symm e), if_neg e]
theorem getD_any (L : Array Bool) (i : Nat) (hi : i < L.size) (d d' : Bool) : L.getD i d = L.getD i d' := by
  rw [Array.getD_eq_getD_getElem?, Array.getD_eq_getD_getElem?, Array.getElem?_eq_getElem hi]; rfl
theorem set_push (L : Array Bool) (i : Nat) (hi : i < L.size) (b : Bool) : (L.push b).setIfInBounds i true = (L.setIfInBounds i true).push b := by
  apply Array.ext_getElem?
  intro j
  rw [Array.getElem?_setIfInBounds, Array.getElem?_push, Array.getElem?_push, Array.getElem?_setIfInBounds, Array.size_setIfInBounds, Array.size_push]
  by_cases h1 : i = j
  · subst h1; rw [if_pos rfl, if_pos (by omega), if_neg (by omega), if_pos rfl, if_pos hi]
  · rw [if_neg h1]
    by_cases h2 : j = L.size
    · rw [if_pos h2, if_pos h2]
    · rw [if_neg h2, if_neg h2, if_neg h1]

variable {l : List Oper} {o : Oper} {Q : Exit → Act → World → Prop}
theorem lastOk_back (h : lastOk (l ++ [o]) = true) {j : Nat} {o' : Oper} (ho : (l ++ [o])[j]? = some o') : (∀ e ∈ o'.after, e.on < j) ∧ ∀ g b, o'.guard = some (g, b) → g < l.length := by
  unfold lastOk at h
  rw [Bool.and_eq_true] at h
  have hj : j < (l ++ [o]).length := (List.getElem?_eq_some_iff.1 ho).1
  have h1 := List.all_eq_true.1 h.1 j (List.mem_range.2 hj)
  rw [ho] at h1
  simp only [Option.map_some, Option.getD_some, Bool.and_eq_true, Array.all_eq_true'] at h1
  refine ⟨fun e he => of_decide_eq_true (h1.1 e he), fun g b hg => ?_⟩
  have h2 := h1.2
  rw [hg] at h2
  have := of_decide_eq_true h2
  simp at this; omega
theorem lastOk_wait (h : lastOk (l ++ [o]) = true) {j : Nat} (hj : j < l.length) : ∃ (k : Nat) (o' : Oper), (l ++ [o])[k]? = some o' ∧ ∃ e ∈ o'.after, Region.binds .any e = true ∧ e.on = j := by
  unfold lastOk at h
  rw [Bool.and_eq_true] at h
  have h1 := List.all_eq_true.1 h.2 j (List.mem_range.2 (by simp; exact hj))
  obtain ⟨o', ho', h2⟩ := List.any_eq_true.1 h1
  obtain ⟨k, hk⟩ := List.getElem?_of_mem ho'
  obtain ⟨i, hi, h3⟩ := Array.any_eq_true.1 h2
  rw [Bool.and_eq_true] at h3
  exact ⟨k, o', hk, _, Array.getElem_mem hi, h3.1, by simpa using h3.2⟩
/-- closed under what an operation waits for -/
def LCl (l : List Oper) (L : Array Bool) : Prop := L.size = l.length ∧ ∀ j, j < l.length → L.getD j true = true → ∀ o', l[j]? = some o' → ∀ e ∈ o'.after, Region.binds .any e = true → L.getD e.on false = true
theorem lcl_step {L : Array Bool} (h : LCl l L) {i : Nat} (hi : i ∈ Region.ready .any l.toArray L) : LCl l (L.setIfInBounds i true) := by
  obtain ⟨_, oi, hoi, hall⟩ := mem_ready.1 hi
  have hil : i < l.length := by simpa using (Array.getElem?_eq_some_iff.1 hoi).1
  refine ⟨by simpa using h.1, fun j hj hl o' ho' e he hb => ?_⟩
  have hs := h.1
  rw [getD_setB' _ _ _ _ (by omega)] at hl ⊢
  by_cases e1 : e.on = i
  · rw [if_pos e1]
  · rw [if_neg e1]
    by_cases e2 : j = i
    · subst e2
      rw [List.getElem?_toArray] at hoi
      rw [hoi] at ho'
      obtain rfl := Option.some.inj ho'
      exact hall e he hb
    · rw [if_neg e2] at hl
      exact h.2 j hj hl o' ho' e he hb
theorem lcl_all (hok : lastOk (l ++ [o]) = true) {L : Array Bool} (h : LCl l L) (ha : ∀ e ∈ o.after, Region.binds .any e = true → (L.push false).getD e.on false = true) : ∀ d j, j < l.length → l.length ≤ j + d → L.getD j true = true
  | 0, j, hj, hd => by omega
  | d + 1, j, hj, hd => by
    obtain ⟨k, o', hk, e, he, hb, rfl⟩ := lastOk_wait hok hj
    have hlt := (lastOk_back hok hk).1 e he
    have hkl : k < (l ++ [o]).length := (List.getElem?_eq_some_iff.1 hk).1
    have hs := h.1
    by_cases hk2 : k < l.length
    · rw [List.getElem?_append_left hk2] at hk
      have := h.2 k hk2 (lcl_all hok h ha d k hk2 (by omega)) o' hk e he hb
      rw [getD_any _ _ (by omega) true false]; exact this
    · obtain rfl : k = l.length := by simp at hkl; omega
      rw [List.getElem?_append_right (Nat.le_refl _), Nat.sub_self] at hk
      obtain rfl := Option.some.inj hk
      have := ha e he hb
      rw [getD_pushB, if_pos (by omega)] at this
      rw [getD_any _ _ (by omega) true false]; exact this
theorem ready_push (hok : lastOk (l ++ [o]) = true) {L : Array Bool} (hs : L.size = l.length) (b : Bool) {i : Nat} (hi : i < l.length) : i ∈ Region.ready .any (l ++ [o]).toArray (L.push b) ↔ i ∈ Region.ready .any l.toArray L := by
  rw [mem_ready, mem_ready, getD_pushB, if_pos (by omega), List.getElem?_toArray, List.getElem?_toArray, List.getElem?_append_left hi]
  refine and_congr_right fun _ => exists_congr fun o' => and_congr_right fun ho' => forall_congr' fun e => forall_congr' fun he => forall_congr' fun _ => ?_
  have := (lastOk_back hok (j := i) (by rw [List.getElem?_append_left hi]; exact ho')).1 e he
  rw [getD_pushB, if_pos (by omega)]
theorem ready_none {ops : Array Oper} {L : Array Bool} (h : ∀ j, j < ops.size → L.getD j true = true) : Region.ready .any ops L = [] := by
  rw [List.eq_nil_iff_forall_not_mem]
  intro i hi
  obtain ⟨h1, o, h2, _⟩ := mem_ready.1 hi
  rw [h i (Array.getElem?_eq_some_iff.1 h2).1] at h1
  cases h1
theorem wpAny_none {ops : Array Oper} {L : Array Bool} {a : Act} {w : World} (h : Region.ready .any ops L = []) (hq : Q .normal a w) : ∀ fuel, wpAny P .any ops Q fuel L a w
  | 0 => ⟨h, hq⟩
  | fuel + 1 => ⟨fun _ => hq, fun i hi => by rw [h] at hi; cases hi⟩
theorem wpAny_tail (hok : lastOk (l ++ [o]) = true) {L : Array Bool} {a : Act} {w : World} (hs : L.size = l.length) (hall : ∀ j, j < l.length → L.getD j true = true) (h : wpOp P (l ++ [o]).toArray Q l.length (fun a w => Q .normal a w) a w) (fuel : Nat) :
    wpAny P .any (l ++ [o]).toArray Q (fuel + 1) (L.push false) a w := by
  have hn : l.length ∈ Region.ready .any (l ++ [o]).toArray (L.push false) := by
    refine mem_ready.2 ⟨by rw [getD_pushB, if_neg (by omega), if_pos hs.symm], o, by simp, fun e he hb => ?_⟩
    have := (lastOk_back hok (j := l.length) (o' := o) (by simp)).1 e he
    rw [getD_pushB, if_pos (by omega), getD_any _ _ (by omega) false true]
    exact hall _ this
  refine ⟨fun h0 => (by rw [h0] at hn; cases hn), fun i hi => ?_⟩
  have hil : i < (l ++ [o]).length := by
    obtain ⟨_, o', h2, _⟩ := mem_ready.1 hi
    simpa using (Array.getElem?_eq_some_iff.1 h2).1
  by_cases hlt : i < l.length
  · obtain ⟨h1, _⟩ := mem_ready.1 ((ready_push hok hs false hlt).1 hi)
    rw [hall i hlt] at h1; cases h1
  · obtain rfl : i = l.length := by simp at hil; omega
    refine wpOp_mono (fun a w hq => wpAny_none (ready_none fun j hj => ?_) hq fuel) h
    rw [getD_setB' _ _ _ _ (by simp; omega)]
    by_cases e : j = l.length
    · rw [if_pos e]
    · rw [if_neg e, getD_pushB, if_pos (by simp at hj; omega)]
      exact hall j (by simp at hj; omega)
theorem wpOp_last (hok : lastOk (l ++ [o]) = true) {i : Nat} (hi : i < l.length) {K K' : Act → World → Prop} {n : Nat} {a : Act} {w : World} (hK : ∀ a w, K a w → K' a w) (h : wpOp P l.toArray (LastQ P (l ++ [o]).toArray n Q) i K a w) : wpOp P (l ++ [o]).toArray Q i K' a w := by
  unfold wpOp at *
  rw [List.getElem?_toArray] at *
  obtain ⟨oi, hoi⟩ : ∃ oi, l[i]? = some oi := ⟨_, List.getElem?_eq_getElem hi⟩
  rw [hoi] at h
  rw [List.getElem?_append_left hi, hoi]
  dsimp only at h ⊢
  have hy : Region.wanted oi (yielded (l ++ [o]).toArray a.tmps) = Region.wanted oi (yielded l.toArray a.tmps) := by
    unfold Region.wanted
    cases hg : oi.guard with
    | none => rfl
    | some p =>
      obtain ⟨g, b⟩ := p
      have := (lastOk_back hok (j := i) (o' := oi) (by rw [List.getElem?_append_left hi]; exact hoi)).2 g b hg
      dsimp only
      unfold yielded
      rw [List.getElem?_toArray, List.getElem?_toArray, List.getElem?_append_left this]
  rw [hy]
  by_cases hw : Region.wanted oi (yielded l.toArray a.tmps) = true
  · rw [if_pos hw] at h ⊢
    refine h.imp (fun h => ?_) (fun h => ⟨h.1, h.2⟩)
    unfold Oper.wp at *
    generalize (execOp a.eval oi).run P w = r at *
    cases r with
    | ok n w' =>
      cases n <;> simp only [Oper.upon] at h ⊢ <;>
        first
          | exact hK _ _ h
          | exact Calls.mono h (fun e w'' he => by cases e <;> first | exact hK _ _ he | exact he)
          | exact Rows.mono h (fun _ _ he => hK _ _ he)
    | halt x w' => cases x <;> simp only [Oper.upon] at h ⊢ <;> exact h
  · rw [if_neg hw] at h ⊢
    exact hK _ _ h
theorem wpAny_last (hok : lastOk (l ++ [o]) = true) : ∀ (fuel : Nat) (L : Array Bool) (a : Act) (w : World), LCl l L → wpAny P .any l.toArray (LastQ P (l ++ [o]).toArray l.length Q) fuel L a w → wpAny P .any (l ++ [o]).toArray Q (fuel + 1) (L.push false) a w
  | fuel, L, a, w, hc, h => by
    have hs := hc.1
    by_cases hr : Region.ready .any l.toArray L = []
    · refine wpAny_tail hok hs (fun j hj => ?_) ?_ fuel
      · induction j using Nat.strongRecOn with
        | ind j ih =>
          cases hl : L.getD j true with
          | true => rfl
          | false =>
            exfalso
            have hm : j ∈ Region.ready .any l.toArray L := by
              refine mem_ready.2 ⟨hl, l[j], by rw [List.getElem?_toArray]; exact List.getElem?_eq_getElem hj, fun e he _ => ?_⟩
              have hlt := (lastOk_back hok (j := j) (o' := l[j]) (by rw [List.getElem?_append_left hj]; exact List.getElem?_eq_getElem hj)).1 e he
              rw [getD_any _ _ (by omega) false true]
              exact ih e.on hlt (by omega)
            rw [hr] at hm; cases hm
      · cases fuel with
        | zero => exact h.2
        | succ fuel => exact h.1 hr
    · cases fuel with
      | zero => exact absurd h.1 hr
      | succ fuel =>
        obtain ⟨i0, hi0⟩ := List.exists_mem_of_ne_nil _ hr
        have hi0l : i0 < l.length := by
          obtain ⟨_, o', h2, _⟩ := mem_ready.1 hi0
          simpa using (Array.getElem?_eq_some_iff.1 h2).1
        refine ⟨fun h0 => ?_, fun i hi => ?_⟩
        · have := (ready_push hok hs false hi0l).2 hi0
          rw [h0] at this; cases this
        · have hil : i < (l ++ [o]).length := by
            obtain ⟨_, o', h2, _⟩ := mem_ready.1 hi
            simpa using (Array.getElem?_eq_some_iff.1 h2).1
          by_cases hlt : i < l.length
          · have hi' := (ready_push hok hs false hlt).1 hi
            refine wpOp_last hok hlt (fun a w hw => ?_) (h.2 i hi')
            rw [set_push _ _ (by omega)]
            exact wpAny_last hok fuel _ a w (lcl_step hc hi') hw
          · obtain rfl : i = l.length := by simp at hil; omega
            exfalso
            obtain ⟨_, o', h2, h3⟩ := mem_ready.1 hi
            have he : o' = o := by simpa using h2.symm
            subst he
            have := lcl_all hok hc h3 l.length i0 hi0l (by omega)
            rw [(mem_ready.1 hi0).1] at this; cases this
theorem region_last {id : Nat} {l : List Oper} (hm : P.follows .mixedOrders = true) (hl : l ≠ []) (hok : lastOk l = true) {a : Act} {w : World}
    (h : wpAny P .any l.dropLast.toArray (LastQ P l.toArray (l.length - 1) Q) l.dropLast.length (Array.replicate l.dropLast.length false) a w.drew) : (Code.region id l.toArray true).wp P Q a w := by
  refine wp_region_any hm ?_
  obtain ⟨l', o, rfl⟩ : ∃ l' o, l = l' ++ [o] := ⟨_, _, (List.dropLast_concat_getLast hl).symm⟩
  rw [List.dropLast_concat] at h
  rw [show (l' ++ [o]).length - 1 = l'.length by simp] at h
  have := wpAny_last hok l'.length _ a _ ⟨by simp, fun j hj hl => by
    rw [Array.getD_eq_getD_getElem?, Array.getElem?_replicate, if_pos hj] at hl; cases hl⟩ h
  rw [show (l' ++ [o]).toArray.size = l'.length + 1 by simp, show Array.replicate (l'.length + 1) false = (Array.replicate l'.length false).push false by rw [Array.replicate_succ]]
  exact this
/-- the same, loads held by S first -/
theorem region_held_last {id : Nat} {l : List Oper} (S : World → Prop) (hm : P.follows .mixedOrders = true) (hl : l ≠ []) (hok : lastOk l = true) {a : Act} {w : World} (hS : S w.drew)
    (h : S w.drew → wpAnyH P .any l.dropLast.toArray (LastQ P l.toArray (l.length - 1) Q) S l.dropLast.length (Array.replicate l.dropLast.length false) a w.drew) : (Code.region id l.toArray true).wp P Q a w :=
  region_last hm hl hok (wpAny_of_held _ _ _ _ (h hS))
end
/-- an operation that is carried out -/
theorem wpOp_does {P : Program} {ops : Array Oper} {Q : Exit → Act → World → Prop} {i : Nat} {o : Oper} {K : Act → World → Prop} {a : Act} {w : World} (hi : ops[i]? = some o) (hw : Region.wanted o (yielded ops a.tmps) = true) (h : Oper.wp P o a w K Q) : wpOp P ops Q i K a w := by
  unfold wpOp
  rw [hi]
  dsimp only
  rw [if_pos hw]
  exact .inl h
end Go.Proofs.YtnboegeljaplbaaGreat
namespace Go.Proofs.YtnboegeljaplbaaGreat
open Go.RowKit Lv Go.Shelf
attribute [local go_sem high] run_maxI run_minI

attribute [local go_sem] Oper.semAt_some drewN_alloc drewN_setCell

set_option maxRecDepth 100000 in
set_option maxHeartbeats 1000000 in
theorem eentry2_calls (c i j p0 q0 n B : Nat) (a : Option Addr) (cap : Nat) (qs : List Rat) (w : World) (h : DqL w (.slice a n cap) qs B) (h1 : 1 ≤ c) (h6 : c ≤ 6) (hn : n = tsz c) (hmin : min (i : Int) (j : Int) = (p0 : Int)) (hmax : max (i : Int) (j : Int) = (q0 : Int)) (hij : p0 ≤ q0) (hj : q0 ≤ c) :
    Calls Tryz.prog 56 #[.int .i64 (c : Int), .slice a n cap, .int .i64 (i : Int), .int .i64 (j : Int)] w fun e w' => (∃ z, e = .returned z ∧ Dq w' z (qs.getD (gix c p0 q0) 0) B) ∧ Below w.heap.size w w' := by
  have hlt := gix_lt h1 h6 hij hj
  have hb := tsz_bounds h1 h6
  rw [← hn] at hlt hb
  have RA := Lib.hid (fun w => rat_in c p0 q0 w h1 h6 hij hj)
  rw [show offs c p0 + (q0 - p0) = gix c p0 q0 from rfl] at RA
  obtain ⟨blk, off, rfl, hcs⟩ := h.at (by omega)
  obtain ⟨s1, b1, n1, c1, e1, k0, k1, k2, k3⟩ := hcs _ hlt
  generalize gix c p0 q0 = p at *
  have hpi : (p : Int) < (n : Int) := by omega
  have hp0 : (0 : Int) ≤ (p : Int) := by omega
  generalize qs.getD p 0 = q at *
  obtain ⟨s, m, e, hD, rfl, h3⟩ := id k3
  obtain ⟨a0, n0, c0, hv, _⟩ := id hD
  simp only [Value.agg.injEq] at hv
  have B0 := Lib.hid ((Below.refl w.heap.size w).alloc (Nat.le_refl _) (.cells #[.bool false, .slice none 0 0, .int .i64 0] 78))
  have E0 := Lib.hid (Cells3.new w (.bool false) (.slice none 0 0) (.int .i64 0) 78)
  have l0 := (B0.out.cell (p := ⟨blk, off + p * 3, none⟩) (cell_lt k0)).trans k0
  have l1 := (B0.out.cell (p := ⟨blk, off + p * 3 + 1, none⟩) (cell_lt k1)).trans k1
  have l2 := (B0.out.cell (p := ⟨blk, off + p * 3 + 2, none⟩) (cell_lt k2)).trans k2
  have MY := Lib.hid (dmay_calls _ s m e _ (hD.below B0.out))
  have KQ := Lib.hid (k3.below B0.out)
  clear h hcs k0 k1 k2 k3 hD h3 hlt hb hn hv
  go_enter Tryz.func56, Tryz.ntmps56
  go_wp2_with (first
    | (go_at_call 38; go_must (refine (RA.out _).mono ?_; rintro e ww ⟨rfl, rfl⟩))
    | (go_at_call 81; go_must (refine MY.out.mono ?_; rintro e w2 ⟨rfl, hb⟩; have F2 := Lib.hid (E0.out.below hb); have B2 := Lib.hid (B0.out.trans (hb.mono B0.out.size)); have KQ2 := Lib.hid (KQ.out.below hb); obtain ⟨_, _, _, x3, x4, x5⟩ := F2.out; clear hb)))
  have P := F2.out.put (.bool s1) (.slice b1 n1 c1) (.int .i64 e1)
  exact bodyPost_ret (v := .agg #[.bool s1, .slice b1 n1 c1, .int .i64 e1]) (by simp [results, Tryz.results56, go_sem, P.c0, P.c1, P.c2]) rfl ⟨⟨_, rfl, KQ2.out.put3 F2.out _ _ _⟩, below_put3 B2.out (Nat.le_refl _) _ _ _⟩
/-- a dyad in new cells of its own -/
def DCutB (wr : World) (q : Rat) (B : Nat) (s : Value) (wx : World) : Prop := ∃ g : Nat, s = .pointer (some ⟨g, 0, none⟩) ∧ wr.heap.size ≤ g ∧ DBox wx g q B ∧ Below wr.heap.size wr wx
/-- what Normal holds the left side against, column i -/
def mostN (us xs : List Rat) (c i k : Nat) : Rat := bndQ (us.getD i 0) (us.getD c 0) (k + 1) + sumQ (fun j => bndQ (us.getD i 0) (us.getD j 0) (k + 1) * absR (xs.getD j 0)) c + (us.getD i 0 + p2 (-1060)) * (1 + sumQ (fun l => us.getD l 0) (c + 1)) * p2 (-1060)
/-- a dyad in cells of its own, where others are written to -/
theorem DBox.put_other {W : World} {g g' : Nat} {q : Rat} {B : Nat} {s : Bool} {a : Option Addr} {k c : Nat} {e : Int} (h : DBox W g q B) (hc : Cells3 W g' (.bool s) (.slice a k c) (.int .i64 e)) (hne : g' ≠ g) (v0 v1 v2 : Value) :
    DBox (((W.setCell ⟨g', 0, none⟩ v0).setCell ⟨g', 1, none⟩ v1).setCell ⟨g', 2, none⟩ v2) g q B := by
  obtain ⟨s', a', n', c', e', h1, h2⟩ := h
  exact ⟨s', a', n', c', e', h1.put_other hne _ _ _, h2.put3 hc _ _ _⟩
theorem sub_sum {x : Rat} {f : Nat → Rat} {j : Nat} : x - sumQ f (j + 1) = x - sumQ f j - f j := by
  show x - (sumQ f j + f j) = _
  grind
theorem add_sum {x : Rat} {f : Nat → Rat} {j : Nat} : x + sumQ f (j + 1) = x + sumQ f j + f j := by
  show x + (sumQ f j + f j) = _
  grind
end Go.Proofs.YtnboegeljaplbaaGreat
namespace Go.Proofs.YtnboegeljaplbaaGreat
open Go.RowKit Lv Go.Shelf
attribute [local go_sem high] run_maxI run_minI

attribute [local go_sem] Oper.semAt_some drewN_alloc drewN_setCell

set_option maxRecDepth 100000 in
set_option maxHeartbeats 4000000 in
theorem enormal_calls (c k n A : Nat) (a1 a2 a3 : Option Addr) (c1 c2 c3 : Nat) (tn ti : List Rat) (xs : List (Option Nat)) (w : World) (hN : DqL w (.slice a1 n c1) tn 2148) (hI : DqL w (.slice a2 n c2) ti 2148) (hX : Row w (.slice a3 c c3) xs)
    (h1 : 1 ≤ c) (h6 : c ≤ 6) (hn : n = tsz c) (hA1 : ∀ p, p < n → Bd (tn.getD p 0) (p2 A)) (hA2 : ∀ p, p < n → Bd (ti.getD p 0) (p2 A)) (hA : A ≤ 1000) (hk : k ≤ 99999) (hf : ∀ x ∈ xs, Lv.Fn x)
    (hck : ∀ us, Norms c A ti us → ∀ i, i < c → absR (tn.getD (gix c i c) 0 - sumQ (fun j => tn.getD (gix c (min i j) (max i j)) 0 * (xs.map fv).getD j 0) c) ≤ mostN us (xs.map fv) c i k) :
    Calls Tryz.prog 19 #[.int .i64 (c : Int), .slice a1 n c1, .slice a2 n c2, .slice a3 c c3, .int .i64 (k : Int)] w fun e w' => e = .returned (.tuple #[.int .i64 0, .bool true]) ∧ Below w.heap.size w w' := by
  have hb := tsz_bounds h1 h6
  have hxl := hX.len
  have SZ := Lib.hid (rsizeI_calls (c : Int))
  rw [show sizeI (c : Int) = (n : Int) by unfold sizeI; rw [if_pos ⟨by omega, by omega⟩, Int.toNat_natCast, hn]] at SZ
  have NO := Lib.hid (fun W (hb : Below w.heap.size w W) => enorms_calls c n A 2148 a2 c2 ti W (hI.below hb) h1 h6 hn hA2 (by omega))
  have HN := Lib.hid hN
  have HX := Lib.hid hX
  have HF := Lib.hid hf
  have HL := Lib.hid hxl
  have HCK := Lib.hid hck
  have EN := Lib.hid (fun (i j p0 q0 : Nat) (hmin : min (i : Int) (j : Int) = (p0 : Int)) (hmax : max (i : Int) (j : Int) = (q0 : Int)) (hpq : p0 ≤ q0) (hq : q0 ≤ c) W (hb : Below w.heap.size w W) => eentry2_calls c i j p0 q0 n 2148 a1 c1 tn W (hN.below hb) h1 h6 hn hmin hmax hpq hq)
  have EA := Lib.hid (fun i j (hij : i ≤ j) (hj : j ≤ c) => hA1 (gix c i j) (by rw [hn]; exact gix_lt h1 h6 hij hj))
  rw [← hn] at hb
  have hn0 : ((n : Int) == 0) = false := by simp; omega
  have hnn : ((n : Int) != (n : Int)) = false := by simp
  have hcc : ((c : Int) != (c : Int)) = false := by simp
  have hk0 : ¬ (k : Int) < 0 := by omega
  have hk1 : ¬ (99999 : Int) < (k : Int) := by omega
  clear hN hI hX hA1 hA2 hck hn hf hxl
  go_enter Tryz.func19, Tryz.ntmps19
  go_upto_region 5 with (go_at_call 36; go_must (refine (SZ.out _).mono ?_; rintro e w1 ⟨rfl, rfl⟩))
  go_wp2
  go_loopw [13, 14] (fun s13 s14 wr => ∃ i : Nat, s14 = .int .i64 (i : Int) ∧ i ≤ c ∧ Hid (OwnQ wr w.heap.size s13 ((xs.map fv).take i) 1074 ∧ Below w.heap.size w wr)) (fun _ s14 _ => c - (intOf s14).toNat)
  case atStart => exact ⟨0, rfl, Nat.zero_le _, ownQ_nil _ _ _, Below.refl _ _⟩
  case round =>
    obtain ⟨i, rfl, hi, HI⟩ := hrel
    by_cases hlt : i < c
    · obtain ⟨blk, off, rfl, hc⟩ := row_cell (HX.out.below HI.out.2) (by omega)
      obtain ⟨x, hx, hfx⟩ := hc i hlt
      have hii : (i : Int) < (c : Int) := by omega
      have hFn := HF.out _ (getD_mem (i := i) (by rw [HL.out]; exact hlt))
      have HFX := Lib.hid (And.intro hfx hFn)
      have HTK := Lib.hid (show (xs.map fv).take (i + 1) = (xs.map fv).take i ++ [fv (xs.getD i none)] by rw [take_snocQ (by rw [List.length_map, HL.out]; exact hlt), getD_fv (by rw [HL.out]; exact hlt)])
      have HLN := Lib.hid (show ((xs.map fv).take i).length + 1 ≤ 1000 by rw [List.length_take]; omega)
      generalize xs.getD i none = X at *
      clear hc hfx hFn
      have hs1 := Lib.hid HI.out.2.size
      go_wp2_with (first
        | (go_at_call 53; go_must (refine (dfrom_calls x X _ HFX.out.1 HFX.out.2).mono ?_; rintro e w2 ⟨⟨z, rfl, hz⟩, hb⟩; have HZ := Lib.hid hz; obtain ⟨zs, zm, ze, ⟨za, zn, zc, rfl, _⟩, _⟩ := hz; have HB2 := Lib.hid hb; have hs2 := Lib.hid hb.size; have HB3 := Lib.hid (two_allocs w2 (.cells #[.bool zs, .slice za zn zc, .int .i64 ze] 78) (.cells #[.bool zs, .slice za zn zc, .int .i64 ze] 78)); clear hb))
        | (at_builtin; go_must (refine wpList_append_QQ _ rfl _ _ rfl w.heap.size 1074 _ _ [fv X] rfl ((HI.out.1.below HB2.out).below HB3.out) _ _ _ rfl (dql_new (HZ.out.below ((Below.refl _ _).alloc (Nat.le_refl _) _)) (by simp)) HLN.out (by have := hs1.out; have := hs2.out; simp; omega) ?_; intro v9 w4 hown9 hg9)))
      have hg9 : World.grownBy _ w4 u13.ownBlock := hg9
      replace hown9 := Lib.hid (show OwnQ w4 w.heap.size v9 ((xs.map fv).take (i + 1)) 1074 by rw [HTK.out]; exact hown9)
      have HBW := Lib.hid (HI.out.2.trans ((HB2.out.trans (HB3.out.mono hs2.out)).mono hs1.out))
      have hBe := HBW.out.grown hg9 HBW.out.size (fun q e => HI.out.1.base q e)
      clear hg9
      go_roundw
      case rel => exact ⟨i + 1, by go_num, by omega, hown9.out, hBe⟩
      case measure => simp [intOf]; omega
    · obtain rfl : c = i := by omega
      have hii : ¬ (c : Int) < (c : Int) := by omega
      have DL := Lib.hid (show DqL wr u13 (xs.map fv) 1074 by
        have := HI.out.1.dql
        rwa [List.take_of_length_le (by rw [List.length_map, HL.out]; exact Nat.le_refl _)] at this)
      have BW := Lib.hid HI.out.2
      clear HI
      go_upto_region 14 with (first
        | (go_at_call 37; go_must (refine (NO.out _ BW.out).mono ?_; rintro e w5 ⟨⟨us, v, rfl, hv, hnm⟩, hb⟩; have O5 := Lib.hid hv.dql; have NM := Lib.hid hnm; have B5 := Lib.hid (BW.out.trans (hb.mono BW.out.size)); have D5 := Lib.hid (DL.out.below hb); clear hv hb hnm))
        | (go_at_call 54; go_must (refine (dpow_calls 0 0 0 _ (by omega) (by omega) (by omega) (by omega)).mono ?_; rintro e w6 ⟨⟨z, rfl, hz⟩, hb⟩; have HZ := Lib.hid hz; have B6 := Lib.hid (B5.out.trans (hb.mono B5.out.size)); have O6 := Lib.hid (O5.out.below hb); have D6 := Lib.hid (D5.out.below hb); obtain ⟨zs, zm, ze, ⟨za, zn, zc, rfl, _⟩, _⟩ := hz; clear hb)))
      have E18 := Lib.hid (show DBox (w6.alloc (.cells #[.bool zs, .slice za zn zc, .int .i64 ze] 78)) w6.heap.size 1 (2148 / 2 + 65) from ⟨zs, za, zn, zc, ze, Cells3.new w6 _ _ _ _, by
        have h := (HZ.out.below ((Below.refl _ _).alloc (Nat.le_refl _) (.cells #[.bool zs, .slice za zn zc, .int .i64 ze] 78))).mono (show 0 ≤ 2148 / 2 + 65 by omega)
        rwa [p2_zero] at h⟩)
      have B7 := Lib.hid ((Below.refl w6.heap.size w6).alloc (Nat.le_refl _) (.cells #[.bool zs, .slice za zn zc, .int .i64 ze] 78))
      generalize w6.alloc (.cells #[.bool zs, .slice za zn zc, .int .i64 ze] 78) = W7 at *
      clear HZ D5 O5 DL B5
      obtain ⟨m, hm⟩ : ∃ m, c + 1 = m := ⟨_, rfl⟩
      obtain ⟨ua, uc, hv⟩ := O6.out.form
      rw [NM.out.len, hm] at hv
      subst hv
      obtain ⟨gu, ou, rfl, hcu⟩ := O6.out.at (show 0 < m by omega)
      obtain ⟨la, lc, hvl⟩ := D6.out.form
      rw [List.length_map, HL.out] at hvl
      subst hvl
      obtain ⟨gl, ol, rfl, hcl⟩ := D6.out.at (show 0 < c by omega)
      have HCL := Lib.hid hcl
      clear hcl
      have HCU := Lib.hid hcu
      clear hcu
      have hU1 := Lib.hid (show ∀ j, j ≤ m → Bd (1 + sumQ (fun l => us.getD l 0) j) (p2 ((A / 2 + 3 + 7 + 1 : Nat) : Int)) from fun j hj => bd_add_p2 (bd_p2_mono (A := 0) (by rw [show ((0 : Nat) : Int) = 0 from rfl, p2_zero]; exact bd_self (by grind)) (by omega)) (bd_p2_mono (sum_bd (A := A / 2 + 3) j (fun l hl => NM.out.bd (by omega))) (by omega)))
      go_wp2
      go_loopw [19] (fun s19 wr => ∃ j : Nat, s19 = .int .i64 (j : Int) ∧ j ≤ m ∧ Hid (DBox wr w6.heap.size (1 + sumQ (fun l => us.getD l 0) j) (2148 / 2 + 65) ∧ Below w6.heap.size w6 wr)) (fun s19 _ => m - (intOf s19).toNat)
      case atStart => exact ⟨0, rfl, Nat.zero_le _, by show DBox _ _ (1 + 0) _; rw [show (1 : Rat) + 0 = 1 by grind]; exact E18.out, B7.out⟩
      case round =>
        obtain ⟨j, rfl, hj, HJ⟩ := hrel
        by_cases hlj : j ≤ c
        · have hjj : (j : Int) ≤ (c : Int) := by omega
          have hjm : (j : Int) < (m : Int) := by omega
          obtain ⟨s1, a1', n1, d1, e1, E1, Q1⟩ := HJ.out.1
          obtain ⟨s2, b2, n2, d2, e2, k0, k1', k2, k3⟩ := HCU.out j (by omega)
          have HE1 := Lib.hid E1
          have HQ1 := Lib.hid Q1
          have HQ2 := Lib.hid k3
          have KU := Lib.hid (show ∀ W, Below w6.heap.size w6 W → W.cell? ⟨gu, ou + j * 3, none⟩ = some (.bool s2) ∧ W.cell? ⟨gu, ou + j * 3 + 1, none⟩ = some (.slice b2 n2 d2) ∧ W.cell? ⟨gu, ou + j * 3 + 2, none⟩ = some (.int .i64 e2) from fun W hb => ⟨(hb.cell (p := ⟨gu, ou + j * 3, none⟩) (cell_lt k0)).trans k0, (hb.cell (p := ⟨gu, ou + j * 3 + 1, none⟩) (cell_lt k1')).trans k1', (hb.cell (p := ⟨gu, ou + j * 3 + 2, none⟩) (cell_lt k2)).trans k2⟩)
          have BA := Lib.hid HJ.out.2.drew
          have bA := Lib.hid (show Below wr.heap.size wr wr.drew from (Below.refl _ _).drew)
          obtain ⟨x0, x1, x2⟩ := KU.out _ BA.out
          obtain ⟨y0, y1, y2, y3, y4, y5⟩ := HE1.out.below bA.out
          have hBV := Lib.hid (bd_p2_mono (NM.out.bd hlj) (show A / 2 + 3 ≤ A / 2 + 3 + 7 + 1 by omega))
          clear E1 Q1 k0 k1' k2 k3
          go_wp2
          go_region_with (go_at_call 55; go_must (refine (dadd_calls _ _ _ _ (A / 2 + 3 + 7 + 1) (2148 / 2 + 65) _ (HQ1.out.below bA.out) (hU1.out j hj) (HQ2.out.below BA.out) hBV.out (by omega)).mono ?_; rintro e' w9 ⟨⟨z, rfl, hz⟩, hb⟩; have B9 := Lib.hid (BA.out.trans (hb.mono BA.out.size)); have HZ := Lib.hid hz; have L1 := Lib.hid (HE1.out.below (bA.out.trans (hb.mono bA.out.size))); obtain ⟨zs, zm, ze, ⟨za, zn, zc, rfl, _⟩, _⟩ := hz; clear x0 x1 x2 y0 y1 y2 y3 y4 y5 hb; obtain ⟨y0, y1, y2, y3, y4, y5⟩ := L1.out))
          all_goals
            have N1 := Lib.hid (show DBox _ w6.heap.size (1 + sumQ (fun l => us.getD l 0) (j + 1)) (2148 / 2 + 65) from ⟨_, _, _, _, _, L1.out.put (.bool zs) (.slice za zn zc) (.int .i64 ze), by rw [show 1 + sumQ (fun l => us.getD l 0) (j + 1) = 1 + sumQ (fun l => us.getD l 0) j + us.getD j 0 by show 1 + (sumQ (fun l => us.getD l 0) j + us.getD j 0) = _; grind]; exact HZ.out.put3 L1.out _ _ _⟩)
            have N2 := Lib.hid (below_put3 B9.out (Nat.le_refl _) (.bool zs) (.slice za zn zc) (.int .i64 ze))
            clear L1 HZ y0 y1 y2 y3 y4 y5
            go_wp2
            go_roundw
            case rel => exact ⟨j + 1, by go_num, by omega, N1.out, N2.out⟩
            case measure => simp [intOf]; omega
        · obtain rfl : m = j := by omega
          have hjj : ¬ (m : Int) ≤ (c : Int) := by omega
          go_wp2
          have X18 := Lib.hid HJ.out.1
          have BX := Lib.hid HJ.out.2
          have hk1s : (k : Int) + 1 = ((k + 1 : Nat) : Int) := by omega
          obtain ⟨kk, hkk⟩ : ∃ kk, k + 1 = kk := ⟨_, rfl⟩
          have hki : (k : Int) + 1 = (kk : Int) := by omega
          have hkw : IntKind.i64.wrap (kk : Int) = (kk : Int) := IntWalk.i64_in _ (by omega)
          clear HJ hk1s
          go_loopw [20] (fun s20 wq => ∃ i : Nat, s20 = .int .i64 (i : Int) ∧ i ≤ c ∧ Hid (DBox wq w6.heap.size (1 + sumQ (fun l => us.getD l 0) m) (2148 / 2 + 65) ∧ Below w6.heap.size w6 wq)) (fun s20 _ => c - (intOf s20).toNat)
          case atStart => exact ⟨0, rfl, Nat.zero_le _, X18.out, BX.out⟩
          case round =>
            obtain ⟨i, rfl, hi, HI⟩ := hrel
            by_cases hlt : i < c
            · have hii : (i : Int) < (c : Int) := by omega
              have him : (i : Int) < (m : Int) := by omega
              have hcm : (c : Int) < (m : Int) := by omega
              have EI := Lib.hid (EN.out i c i c (by omega) (by omega) (by omega) (Nat.le_refl c) wr (B6.out.trans (HI.out.2.mono B6.out.size)))
              have EB := Lib.hid (EA.out i c (by omega) (Nat.le_refl c))
              go_upto_region 22 with (go_at_call 56; go_must (refine EI.out.mono ?_; rintro e' w9 ⟨⟨z, rfl, hz⟩, hb⟩; have B9 := Lib.hid (HI.out.2.trans (hb.mono HI.out.2.size)); have X9 := Lib.hid (HI.out.1.below hb); have HZ := Lib.hid hz; have S9 := Lib.hid hb.size; obtain ⟨zs, zm, ze, ⟨za, zn, zc, rfl, _⟩, _⟩ := hz; clear hb))
              have E21 := Lib.hid (show DBox (w9.alloc (.cells #[.bool zs, .slice za zn zc, .int .i64 ze] 78)) w9.heap.size (tn.getD (gix c i c) 0) 2148 from ⟨zs, za, zn, zc, ze, Cells3.new w9 _ _ _ _, HZ.out.below ((Below.refl _ _).alloc (Nat.le_refl _) _)⟩)
              have B10 := Lib.hid (B9.out.alloc B9.out.size (.cells #[.bool zs, .slice za zn zc, .int .i64 ze] 78))
              have X10 := Lib.hid (X9.out.below ((Below.refl _ _).alloc (Nat.le_refl _) (.cells #[.bool zs, .slice za zn zc, .int .i64 ze] 78)))
              have hlt18 : w6.heap.size < wr.heap.size := by
                obtain ⟨_, _, _, _, _, hE, _⟩ := HI.out.1
                exact hE.lt
              have hg21 : w6.heap.size < w9.heap.size := Nat.lt_of_lt_of_le hlt18 S9.out
              generalize w9.alloc (.cells #[.bool zs, .slice za zn zc, .int .i64 ze] 78) = W10 at *
              generalize w9.heap.size = g21 at *
              clear HZ EI X9 B9 S9
              obtain ⟨s1, b1, n1, d1, e1, k10, k11, k12, k13⟩ := HCU.out i (by omega)
              obtain ⟨s2, b2, n2, d2, e2, k20, k21, k22, k23⟩ := HCU.out c (by omega)
              have KU := Lib.hid (show ∀ W, Below w6.heap.size w6 W → W.cell? ⟨gu, ou + i * 3, none⟩ = some (.bool s1) ∧ W.cell? ⟨gu, ou + i * 3 + 1, none⟩ = some (.slice b1 n1 d1) ∧ W.cell? ⟨gu, ou + i * 3 + 2, none⟩ = some (.int .i64 e1) ∧ W.cell? ⟨gu, ou + c * 3, none⟩ = some (.bool s2) ∧ W.cell? ⟨gu, ou + c * 3 + 1, none⟩ = some (.slice b2 n2 d2) ∧ W.cell? ⟨gu, ou + c * 3 + 2, none⟩ = some (.int .i64 e2) from fun W hb => ⟨(hb.cell (p := ⟨gu, ou + i * 3, none⟩) (cell_lt k10)).trans k10, (hb.cell (p := ⟨gu, ou + i * 3 + 1, none⟩) (cell_lt k11)).trans k11, (hb.cell (p := ⟨gu, ou + i * 3 + 2, none⟩) (cell_lt k12)).trans k12, (hb.cell (p := ⟨gu, ou + c * 3, none⟩) (cell_lt k20)).trans k20, (hb.cell (p := ⟨gu, ou + c * 3 + 1, none⟩) (cell_lt k21)).trans k21, (hb.cell (p := ⟨gu, ou + c * 3 + 2, none⟩) (cell_lt k22)).trans k22⟩)
              have BO := Lib.hid (fun W (hb : Below w6.heap.size w6 W) => ebound_calls _ _ _ _ kk (A / 2 + 3) (2148 / 2 + 65) W (k13.below hb) (NM.out.bd (by omega)) (k23.below hb) (NM.out.bd (Nat.le_refl c)) (by omega) (by omega) (by omega) (by omega))
              clear k10 k11 k12 k13 k20 k21 k22 k23
              go_cut [22] from 100 to 110 (fun s22 wx => DCutB W10 (bndQ (us.getD i 0) (us.getD c 0) kk) (2 * (2148 / 2 + 65) + 53) s22 wx)
              case first =>
                rename_i J K' hJ hK'
                have bA := Lib.hid (show Below W10.heap.size W10 W10.drew from (Below.refl _ _).drew)
                have bB := Lib.hid (show Below W10.heap.size W10 (W10.alloc (.cells #[.bool false, .slice none 0 0, .int .i64 0] 78)).drew from ((Below.refl W10.heap.size W10).alloc (Nat.le_refl _) _).drew)
                have zB := Lib.hid (show Cells3 (W10.alloc (.cells #[.bool false, .slice none 0 0, .int .i64 0] 78)).drew W10.heap.size (.bool false) (.slice none 0 0) (.int .i64 0) from (Cells3.new W10 _ _ _ 78).below ((Below.refl _ _).drew))
                have KK := Lib.hid (fun W (hb : Below W10.heap.size W10 W) => KU.out W (B10.out.trans (hb.mono B10.out.size)))
                have BOO := Lib.hid (fun W (hb : Below W10.heap.size W10 W) => BO.out W (B10.out.trans (hb.mono B10.out.size)))
                have ka := Lib.hid (KK.out _ bA.out)
                have kb := Lib.hid (KK.out _ bB.out)
                go_region_held3 (fun w' => w'.cell? ⟨gu, ou + i * 3, none⟩ = some (.bool s1) ∧ w'.cell? ⟨gu, ou + i * 3 + 1, none⟩ = some (.slice b1 n1 d1) ∧ w'.cell? ⟨gu, ou + i * 3 + 2, none⟩ = some (.int .i64 e1) ∧ w'.cell? ⟨gu, ou + c * 3, none⟩ = some (.bool s2) ∧ w'.cell? ⟨gu, ou + c * 3 + 1, none⟩ = some (.slice b2 n2 d2) ∧ w'.cell? ⟨gu, ou + c * 3 + 2, none⟩ = some (.int .i64 e2))
                  (first
                    | with_reducible exact ka.out
                    | with_reducible exact kb.out
                    | with_reducible exact K7.out
                    | with_reducible exact K7a.out
                    | with_reducible exact K8.out
                    | with_reducible exact K9.out)
                  (first
                    | (go_at_call 42; first
                        | (refine (BOO.out _ bA.out).mono ?_; rintro e' w11 ⟨⟨z, rfl, hz⟩, hb⟩; have B7 := Lib.hid (bA.out.trans (hb.mono bA.out.size)); have Z7 := Lib.hid hz; obtain ⟨zs, zm, ze, ⟨za, zn, zc, rfl, _⟩, _⟩ := hz; have K7 := Lib.hid (KK.out _ B7.out); have B7a := Lib.hid (B7.out.alloc B7.out.size (.cells #[.bool false, .slice none 0 0, .int .i64 0] 78)); have K7a := Lib.hid (KK.out _ B7a.out); have B8 := Lib.hid (B7.out.alloc B7.out.size (.cells #[.bool zs, .slice za zn zc, .int .i64 ze] 78)); have K8 := Lib.hid (KK.out _ B8.out); clear hb)
                        | (refine (BOO.out _ bB.out).mono ?_; rintro e' w11 ⟨⟨z, rfl, hz⟩, hb⟩; have B7 := Lib.hid (bB.out.trans (hb.mono bB.out.size)); have Z7 := Lib.hid hz; obtain ⟨zs, zm, ze, ⟨za, zn, zc, rfl, _⟩, _⟩ := hz; have K7 := Lib.hid (KK.out _ B7.out); have F7 := Lib.hid (zB.out.below hb); obtain ⟨y0, y1, y2, y3, y4, y5⟩ := F7.out; have B9 := Lib.hid (below_put3 B7.out (Nat.le_refl _) (.bool zs) (.slice za zn zc) (.int .i64 ze)); have K9 := Lib.hid (KK.out _ B9.out); clear hb)))
                all_goals
                  refine hK' _ _ (Met.intro (hJ _ _ ?_))
                  (repeat apply Exists.intro)
                  refine ⟨?_, rfl⟩
                  unfold DCutB
                  (first
                    | (refine ⟨w11.heap.size, rfl, B7.out.size, ?_⟩; exact ⟨⟨zs, za, zn, zc, ze, Cells3.new w11 _ _ _ _, Z7.out.below ((Below.refl _ _).alloc (Nat.le_refl _) _)⟩, B8.out⟩)
                    | (refine ⟨W10.heap.size, rfl, Nat.le_refl _, ?_⟩; exact ⟨⟨zs, za, zn, zc, ze, F7.out.put _ _ _, Z7.out.put3 F7.out _ _ _⟩, B9.out⟩))
              case rest =>
                obtain ⟨g22, rfl, hg22, X22, BC⟩ := hcut
                have X21 := Lib.hid (E21.out.below BC)
                have X18' := Lib.hid (X10.out.below BC)
                have B6c := Lib.hid (B10.out.trans (BC.mono B10.out.size))
                have X22 := Lib.hid X22
                have hlt21 : g21 < W10.heap.size := by
                  obtain ⟨_, _, _, _, _, hE, _⟩ := E21.out
                  exact hE.lt
                clear E21 X10 B10 BC BO
                have LS := Lib.hid (show ∀ j, j ≤ c → Bd (tn.getD (gix c i c) 0 - sumQ (fun j => tn.getD (gix c (min i j) (max i j)) 0 * (xs.map fv).getD j 0) j) (p2 ((A + 1024 + 10 : Nat) : Int)) from fun j hj => by
                  rw [Rat.sub_eq_add_neg]
                  refine bd_p2_mono (bd_add_p2 (A := A + 1024 + 6) (bd_p2_mono EB.out (by omega)) (Bd.neg (bd_p2_mono (sum_bd (A := A + 1024) j (fun l hl => bd_mul_p2 (EA.out (min i l) (max i l) (by omega) (by omega)) (by
                    rw [getD_fv (by rw [HL.out]; omega)]
                    exact fn_bd (HF.out _ (getD_mem (by rw [HL.out]; omega)))))) (by omega)))) (by omega))
                have MS := Lib.hid (show ∀ j, j ≤ c → Bd (bndQ (us.getD i 0) (us.getD c 0) kk + sumQ (fun j => bndQ (us.getD i 0) (us.getD j 0) kk * absR ((xs.map fv).getD j 0)) j) (p2 ((A + 1024 + 60 : Nat) : Int)) from fun j hj =>
                  bd_p2_mono (bd_add_p2 (A := A + 1024 + 50) (bd_p2_mono (bndQ_bd (NM.out.bd (by omega)) (NM.out.bd (Nat.le_refl c)) (by omega)) (by omega)) (bd_p2_mono (sum_bd (A := 2 * (A / 2 + 3) + 36 + 1024) j (fun l hl => bd_mul_p2 (bndQ_bd (NM.out.bd (by omega)) (NM.out.bd (by omega)) (by omega)) (bd_absR'.2 (by
                    rw [getD_fv (by rw [HL.out]; omega)]
                    exact fn_bd (HF.out _ (getD_mem (by rw [HL.out]; omega))))))) (by omega))) (by omega))
                go_wp2
                go_loopw [23] (fun s23 wq => ∃ j : Nat, s23 = .int .i64 (j : Int) ∧ j ≤ c ∧ Hid (DBox wq g21 (tn.getD (gix c i c) 0 - sumQ (fun j => tn.getD (gix c (min i j) (max i j)) 0 * (xs.map fv).getD j 0) j) 3222 ∧ DBox wq g22 (bndQ (us.getD i 0) (us.getD c 0) kk + sumQ (fun j => bndQ (us.getD i 0) (us.getD j 0) kk * absR ((xs.map fv).getD j 0)) j) 3405 ∧ DBox wq w6.heap.size (1 + sumQ (fun l => us.getD l 0) m) (2148 / 2 + 65) ∧ Below w6.heap.size w6 wq)) (fun s23 _ => c - (intOf s23).toNat)
                case atStart => exact ⟨0, rfl, Nat.zero_le _, by show DBox _ _ (_ - 0) _; rw [show tn.getD (gix c i c) 0 - 0 = tn.getD (gix c i c) 0 by grind]; exact X21.out.mono (by omega), by show DBox _ _ (_ + 0) _; rw [show bndQ (us.getD i 0) (us.getD c 0) kk + 0 = bndQ (us.getD i 0) (us.getD c 0) kk by grind]; exact X22.out.mono (by omega), X18'.out, B6c.out⟩
                case round =>
                  obtain ⟨j, rfl, hj, HJ⟩ := hrel
                  by_cases hlj : j < c
                  · have hjj : (j : Int) < (c : Int) := by omega
                    have hjm : (j : Int) < (m : Int) := by omega
                    have EJ := Lib.hid (fun W (hb : Below w6.heap.size w6 W) => EN.out i j (min i j) (max i j) (by omega) (by omega) (by omega) (by omega) W (B6.out.trans (hb.mono B6.out.size)))
                    have EJB := Lib.hid (EA.out (min i j) (max i j) (by omega) (by omega))
                    obtain ⟨s3, b3, n3, d3, e3, k30, k31, k32, k33⟩ := HCL.out j hlj
                    have XB := Lib.hid (show Bd ((xs.map fv).getD j 0) (p2 ((1024 : Nat) : Int)) by
                      rw [getD_fv (by rw [HL.out]; omega)]
                      exact fn_bd (HF.out _ (getD_mem (by rw [HL.out]; omega))))
                    have KL := Lib.hid (show ∀ W, Below w6.heap.size w6 W → W.cell? ⟨gl, ol + j * 3, none⟩ = some (.bool s3) ∧ W.cell? ⟨gl, ol + j * 3 + 1, none⟩ = some (.slice b3 n3 d3) ∧ W.cell? ⟨gl, ol + j * 3 + 2, none⟩ = some (.int .i64 e3) from fun W hb => ⟨(hb.cell (p := ⟨gl, ol + j * 3, none⟩) (cell_lt k30)).trans k30, (hb.cell (p := ⟨gl, ol + j * 3 + 1, none⟩) (cell_lt k31)).trans k31, (hb.cell (p := ⟨gl, ol + j * 3 + 2, none⟩) (cell_lt k32)).trans k32⟩)
                    obtain ⟨s4, b4, n4, d4, e4, E4, Q4⟩ := HJ.out.1
                    have HE4 := Lib.hid E4
                    have HQ4 := Lib.hid Q4
                    have HQ3 := Lib.hid k33
                    have bA := Lib.hid (show Below wr.heap.size wr wr.drew from (Below.refl _ _).drew)
                    have BA := Lib.hid HJ.out.2.2.2.drew
                    clear E4 Q4 k30 k31 k32 k33
                    obtain ⟨y0, y1, y2, _, _, _⟩ := id HE4.out
                    obtain ⟨x0, x1, x2⟩ := KL.out _ HJ.out.2.2.2
                    have KS := Lib.hid (show ∀ w', Below wr.heap.size wr w' → w'.cell? ⟨gl, ol + j * 3, none⟩ = some (.bool s3) ∧ w'.cell? ⟨gl, ol + j * 3 + 1, none⟩ = some (.slice b3 n3 d3) ∧ w'.cell? ⟨gl, ol + j * 3 + 2, none⟩ = some (.int .i64 e3) ∧ w'.cell? ⟨g21, 0, none⟩ = some (.bool s4) ∧ w'.cell? ⟨g21, 0 + 1, none⟩ = some (.slice b4 n4 d4) ∧ w'.cell? ⟨g21, 0 + 2, none⟩ = some (.int .i64 e4) from fun W hb => ⟨(hb.cell (p := ⟨gl, ol + j * 3, none⟩) (cell_lt x0)).trans x0, (hb.cell (p := ⟨gl, ol + j * 3 + 1, none⟩) (cell_lt x1)).trans x1, (hb.cell (p := ⟨gl, ol + j * 3 + 2, none⟩) (cell_lt x2)).trans x2, (hb.cell (p := ⟨g21, 0, none⟩) (cell_lt y0)).trans y0, (hb.cell (p := ⟨g21, 0 + 1, none⟩) (cell_lt y1)).trans y1, (hb.cell (p := ⟨g21, 0 + 2, none⟩) (cell_lt y2)).trans y2⟩)
                    clear x0 x1 x2 y0 y1 y2
                    go_wp2
                    refine region_held_last (fun w' => w'.cell? ⟨gl, ol + j * 3, none⟩ = some (.bool s3) ∧ w'.cell? ⟨gl, ol + j * 3 + 1, none⟩ = some (.slice b3 n3 d3) ∧ w'.cell? ⟨gl, ol + j * 3 + 2, none⟩ = some (.int .i64 e3) ∧ w'.cell? ⟨g21, 0, none⟩ = some (.bool s4) ∧ w'.cell? ⟨g21, 0 + 1, none⟩ = some (.slice b4 n4 d4) ∧ w'.cell? ⟨g21, 0 + 2, none⟩ = some (.int .i64 e4)) (by kernel_rfl) (by simp) (by kernel_rfl) (KS.out _ bA.out) (fun hHeld => ?_)
                    simp only [List.dropLast_cons_cons, List.dropLast_singleton, List.length_cons, List.length_nil]
                    refine wpAnyH_take (i := 0) (v := _) (by simp only [List.getElem?_toArray, List.getElem?_cons_zero] <;> rfl) (by kernel_rfl) (by kernel_rfl) (by kernel_rfl) (by exact fun _ _ _ h => h) (Or.inl ⟨by rfl, fun w hSw => by (try dsimp only at hSw); go_simp <;> with_reducible rfl⟩) (by assumption) ?_
                    simp only [Act.put, List.setIfInBounds_toArray, List.set_cons_zero, List.set_cons_succ]
                    refine wpAnyH_take (i := 1) (v := _) (by simp only [List.getElem?_toArray, List.getElem?_cons_succ, List.getElem?_cons_zero] <;> rfl) (by kernel_rfl) (by kernel_rfl) (by kernel_rfl) (by exact fun _ _ _ h => h) (Or.inl ⟨by rfl, fun w hSw => by (try dsimp only at hSw); go_simp <;> with_reducible rfl⟩) (by assumption) ?_
                    simp only [Act.put, List.setIfInBounds_toArray, List.set_cons_zero, List.set_cons_succ]
                    refine wpAnyH_take (i := 2) (v := _) (by simp only [List.getElem?_toArray, List.getElem?_cons_succ, List.getElem?_cons_zero] <;> rfl) (by kernel_rfl) (by kernel_rfl) (by kernel_rfl) (by exact fun _ _ _ h => h) (Or.inl ⟨by rfl, fun w hSw => by (try dsimp only at hSw); go_simp <;> with_reducible rfl⟩) (by assumption) ?_
                    simp only [Act.put, List.setIfInBounds_toArray, List.set_cons_zero, List.set_cons_succ]
                    refine wpAnyH_take (i := 3) (v := _) (by simp only [List.getElem?_toArray, List.getElem?_cons_succ, List.getElem?_cons_zero] <;> rfl) (by kernel_rfl) (by kernel_rfl) (by kernel_rfl) (by exact fun _ _ _ h => h) (Or.inl ⟨by rfl, fun w hSw => by (try dsimp only at hSw); go_simp <;> with_reducible rfl⟩) (by assumption) ?_
                    simp only [Act.put, List.setIfInBounds_toArray, List.set_cons_zero, List.set_cons_succ]
                    refine wpAnyH_take (i := 4) (v := _) (by simp only [List.getElem?_toArray, List.getElem?_cons_succ, List.getElem?_cons_zero] <;> rfl) (by kernel_rfl) (by kernel_rfl) (by kernel_rfl) (by exact fun _ _ _ h => h) (Or.inl ⟨by rfl, fun w hSw => by (try dsimp only at hSw); go_simp <;> with_reducible rfl⟩) (by assumption) ?_
                    simp only [Act.put, List.setIfInBounds_toArray, List.set_cons_zero, List.set_cons_succ]
                    refine wpAnyH_take (i := 6) (v := _) (by simp only [List.getElem?_toArray, List.getElem?_cons_succ, List.getElem?_cons_zero] <;> rfl) (by kernel_rfl) (by kernel_rfl) (by kernel_rfl) (by exact fun _ _ _ h => h) (Or.inl ⟨by rfl, fun w hSw => by (try dsimp only at hSw); go_simp <;> with_reducible rfl⟩) (by assumption) ?_
                    simp only [Act.put, List.setIfInBounds_toArray, List.set_cons_zero, List.set_cons_succ]
                    refine wpAnyH_take (i := 7) (v := _) (by simp only [List.getElem?_toArray, List.getElem?_cons_succ, List.getElem?_cons_zero] <;> rfl) (by kernel_rfl) (by kernel_rfl) (by kernel_rfl) (by exact fun _ _ _ h => h) (Or.inl ⟨by rfl, fun w hSw => by (try dsimp only at hSw); go_simp <;> with_reducible rfl⟩) (by assumption) ?_
                    simp only [Act.put, List.setIfInBounds_toArray, List.set_cons_zero, List.set_cons_succ]
                    refine wpAnyH_take (i := 8) (v := _) (by simp only [List.getElem?_toArray, List.getElem?_cons_succ, List.getElem?_cons_zero] <;> rfl) (by kernel_rfl) (by kernel_rfl) (by kernel_rfl) (by exact fun _ _ _ h => h) (Or.inl ⟨by rfl, fun w hSw => by (try dsimp only at hSw); go_simp <;> with_reducible rfl⟩) (by assumption) ?_
                    simp only [Act.put, List.setIfInBounds_toArray, List.set_cons_zero, List.set_cons_succ]
                    refine wpAnyH_take (i := 9) (v := _) (by simp only [List.getElem?_toArray, List.getElem?_cons_succ, List.getElem?_cons_zero] <;> rfl) (by kernel_rfl) (by kernel_rfl) (by kernel_rfl) (by exact fun _ _ _ h => h) (Or.inl ⟨by rfl, fun w hSw => by (try dsimp only at hSw); go_simp <;> with_reducible rfl⟩) (by assumption) ?_
                    simp only [Act.put, List.setIfInBounds_toArray, List.set_cons_zero, List.set_cons_succ]
                    refine wpAnyH_ready (rs := [5]) (by kernel_rfl) (by simp) ?_
                    refine AllReadyH.cons (o := _) (by simp only [List.getElem?_toArray, List.getElem?_cons_succ, List.getElem?_cons_zero] <;> rfl) (fun K hK => ?_) AllReadyH.nil
                    go_simp
                    go_at_call 56
                    refine (EJ.out _ BA.out).mono ?_; rintro e' w12 ⟨⟨z12, rfl, hz⟩, hb⟩
                    have B12w := Lib.hid (bA.out.trans (hb.mono bA.out.size))
                    have B12 := Lib.hid (BA.out.trans (hb.mono BA.out.size))
                    have Z12 := Lib.hid hz
                    clear hz hb
                    go_wp2_with fail
                    refine hK.out _ _ (KS.out _ B12w.out) (fun hHeld => ?_)
                    clear hK K
                    refine wpAnyH_ready (rs := [10]) (by kernel_rfl) (by simp) ?_
                    refine AllReadyH.cons (o := _) (by simp only [List.getElem?_toArray, List.getElem?_cons_succ, List.getElem?_cons_zero] <;> rfl) (fun K hK => ?_) AllReadyH.nil
                    go_simp
                    go_at_call 57
                    refine (dmul_calls z12 _ _ _ A 2148 1024 1074 _ Z12.out EJB.out (HQ3.out.below B12.out) XB.out (by omega)).mono ?_; rintro e' w13 ⟨⟨z13, rfl, hz⟩, hb⟩
                    have B13w := Lib.hid (B12w.out.trans (hb.mono B12w.out.size))
                    have B13 := Lib.hid (B12.out.trans (hb.mono B12.out.size))
                    have Z13 := Lib.hid hz
                    clear hz hb
                    go_wp2_with fail
                    refine hK.out _ _ (KS.out _ B13w.out) (fun hHeld => ?_)
                    clear hK K
                    refine wpAnyH_ready (rs := [11]) (by kernel_rfl) (by simp) ?_
                    refine AllReadyH.cons (o := _) (by simp only [List.getElem?_toArray, List.getElem?_cons_succ, List.getElem?_cons_zero] <;> rfl) (fun K hK => ?_) AllReadyH.nil
                    go_simp
                    go_at_call 40
                    refine (dsub_calls _ z13 _ _ (A + 1024 + 10) 3222 _ (HQ4.out.below B13w.out) (LS.out j hj) Z13.out (bd_p2_mono (bd_mul_p2 EJB.out XB.out) (by omega)) (by omega)).mono ?_; rintro e' w14 ⟨⟨z14, rfl, hz⟩, hb⟩
                    have B14w := Lib.hid (B13w.out.trans (hb.mono B13w.out.size))
                    have B14 := Lib.hid (B13.out.trans (hb.mono B13.out.size))
                    have HZ := Lib.hid hz
                    obtain ⟨zs, zm, ze, ⟨za, zn, zc, rfl, _⟩, _⟩ := hz
                    have L4 := Lib.hid (HE4.out.below B14w.out)
                    clear hb
                    go_wp2_with fail
                    refine hK.out _ _ (KS.out _ B14w.out) (fun hHeld => ?_)
                    clear hK K
                    refine wpAnyH_done (by kernel_rfl) ?_ _
                    unfold LastQ
                    dsimp only
                    refine wpOp_does (o := _) (by simp only [List.getElem?_toArray, List.getElem?_cons_succ, List.getElem?_cons_zero, Nat.reduceAdd, Nat.reduceSub] <;> rfl) (by rfl) ?_
                    obtain ⟨y0, y1, y2, y3, y4, y5⟩ := L4.out
                    go_simp
                    have N21 := Lib.hid (show DBox _ g21 (tn.getD (gix c i c) 0 - sumQ (fun j => tn.getD (gix c (min i j) (max i j)) 0 * (xs.map fv).getD j 0) (j + 1)) 3222 from ⟨_, _, _, _, _, L4.out.put (.bool zs) (.slice za zn zc) (.int .i64 ze), by rw [sub_sum]; exact HZ.out.put3 L4.out _ _ _⟩)
                    have N22 := Lib.hid ((HJ.out.2.1.below B14w.out).put_other L4.out (show g21 ≠ g22 by omega) (.bool zs) (.slice za zn zc) (.int .i64 ze))
                    have N18 := Lib.hid ((HJ.out.2.2.1.below B14w.out).put_other L4.out (show g21 ≠ w6.heap.size by omega) (.bool zs) (.slice za zn zc) (.int .i64 ze))
                    have NB := Lib.hid (below_put3 B14.out (show w6.heap.size ≤ g21 by omega) (.bool zs) (.slice za zn zc) (.int .i64 ze))
                    clear y0 y1 y2 y3 y4 y5 hHeld L4 HZ Z13 Z12 KS HJ B12 B13 B14 B12w B13w B14w HE4 HQ4 bA BA EJ
                    generalize ((w14.setCell ⟨g21, 0, none⟩ (.bool zs)).setCell ⟨g21, 1, none⟩ (.slice za zn zc)).setCell ⟨g21, 2, none⟩ (.int .i64 ze) = W15 at *
                    obtain ⟨s1, b1, n1, d1, e1, k10, k11, k12, k13⟩ := HCU.out i (by omega)
                    obtain ⟨s5, b5, n5, d5, e5, k50, k51, k52, k53⟩ := HCU.out j (by omega)
                    obtain ⟨s6, b6, n6, d6, e6, E6, Q6⟩ := N22.out
                    have HE6 := Lib.hid E6
                    have HQ6 := Lib.hid Q6
                    have HQ1 := Lib.hid k13
                    have HQ5 := Lib.hid k53
                    have bC := Lib.hid (show Below W15.heap.size W15 W15.drew from (Below.refl _ _).drew)
                    have BC := Lib.hid NB.out.drew
                    obtain ⟨x0, x1, x2⟩ := KL.out _ NB.out
                    obtain ⟨y0, y1, y2, _, _, _⟩ := id E6
                    have KS := Lib.hid (show ∀ w', Below w6.heap.size w6 w' → Below W15.heap.size W15 w' → w'.cell? ⟨gu, ou + i * 3, none⟩ = some (.bool s1) ∧ w'.cell? ⟨gu, ou + i * 3 + 1, none⟩ = some (.slice b1 n1 d1) ∧ w'.cell? ⟨gu, ou + i * 3 + 2, none⟩ = some (.int .i64 e1) ∧ w'.cell? ⟨gu, ou + j * 3, none⟩ = some (.bool s5) ∧ w'.cell? ⟨gu, ou + j * 3 + 1, none⟩ = some (.slice b5 n5 d5) ∧ w'.cell? ⟨gu, ou + j * 3 + 2, none⟩ = some (.int .i64 e5) ∧ w'.cell? ⟨gl, ol + j * 3, none⟩ = some (.bool s3) ∧ w'.cell? ⟨gl, ol + j * 3 + 1, none⟩ = some (.slice b3 n3 d3) ∧ w'.cell? ⟨gl, ol + j * 3 + 2, none⟩ = some (.int .i64 e3) ∧ w'.cell? ⟨g22, 0, none⟩ = some (.bool s6) ∧ w'.cell? ⟨g22, 0 + 1, none⟩ = some (.slice b6 n6 d6) ∧ w'.cell? ⟨g22, 0 + 2, none⟩ = some (.int .i64 e6) from fun W hd hb => ⟨(hd.cell (p := ⟨gu, ou + i * 3, none⟩) (cell_lt k10)).trans k10, (hd.cell (p := ⟨gu, ou + i * 3 + 1, none⟩) (cell_lt k11)).trans k11, (hd.cell (p := ⟨gu, ou + i * 3 + 2, none⟩) (cell_lt k12)).trans k12, (hd.cell (p := ⟨gu, ou + j * 3, none⟩) (cell_lt k50)).trans k50, (hd.cell (p := ⟨gu, ou + j * 3 + 1, none⟩) (cell_lt k51)).trans k51, (hd.cell (p := ⟨gu, ou + j * 3 + 2, none⟩) (cell_lt k52)).trans k52, (hb.cell (p := ⟨gl, ol + j * 3, none⟩) (cell_lt x0)).trans x0, (hb.cell (p := ⟨gl, ol + j * 3 + 1, none⟩) (cell_lt x1)).trans x1, (hb.cell (p := ⟨gl, ol + j * 3 + 2, none⟩) (cell_lt x2)).trans x2, (hb.cell (p := ⟨g22, 0, none⟩) (cell_lt y0)).trans y0, (hb.cell (p := ⟨g22, 0 + 1, none⟩) (cell_lt y1)).trans y1, (hb.cell (p := ⟨g22, 0 + 2, none⟩) (cell_lt y2)).trans y2⟩)
                    clear E6 Q6 k10 k11 k12 k13 k50 k51 k52 k53 x0 x1 x2 y0 y1 y2
                    go_wp2
                    refine region_held_last (fun w' => w'.cell? ⟨gu, ou + i * 3, none⟩ = some (.bool s1) ∧ w'.cell? ⟨gu, ou + i * 3 + 1, none⟩ = some (.slice b1 n1 d1) ∧ w'.cell? ⟨gu, ou + i * 3 + 2, none⟩ = some (.int .i64 e1) ∧ w'.cell? ⟨gu, ou + j * 3, none⟩ = some (.bool s5) ∧ w'.cell? ⟨gu, ou + j * 3 + 1, none⟩ = some (.slice b5 n5 d5) ∧ w'.cell? ⟨gu, ou + j * 3 + 2, none⟩ = some (.int .i64 e5) ∧ w'.cell? ⟨gl, ol + j * 3, none⟩ = some (.bool s3) ∧ w'.cell? ⟨gl, ol + j * 3 + 1, none⟩ = some (.slice b3 n3 d3) ∧ w'.cell? ⟨gl, ol + j * 3 + 2, none⟩ = some (.int .i64 e3) ∧ w'.cell? ⟨g22, 0, none⟩ = some (.bool s6) ∧ w'.cell? ⟨g22, 0 + 1, none⟩ = some (.slice b6 n6 d6) ∧ w'.cell? ⟨g22, 0 + 2, none⟩ = some (.int .i64 e6)) (by kernel_rfl) (by simp) (by kernel_rfl) (KS.out _ BC.out bC.out) (fun hHeld => ?_)
                    simp only [List.dropLast_cons_cons, List.dropLast_singleton, List.length_cons, List.length_nil]
                    refine wpAnyH_take (i := 0) (v := _) (by simp only [List.getElem?_toArray, List.getElem?_cons_zero] <;> rfl) (by kernel_rfl) (by kernel_rfl) (by kernel_rfl) (by exact fun _ _ _ h => h) (Or.inl ⟨by rfl, fun w hSw => by (try dsimp only at hSw); go_simp <;> with_reducible rfl⟩) (by assumption) ?_
                    simp only [Act.put, List.setIfInBounds_toArray, List.set_cons_zero, List.set_cons_succ]
                    refine wpAnyH_take (i := 1) (v := _) (by simp only [List.getElem?_toArray, List.getElem?_cons_succ, List.getElem?_cons_zero] <;> rfl) (by kernel_rfl) (by kernel_rfl) (by kernel_rfl) (by exact fun _ _ _ h => h) (Or.inl ⟨by rfl, fun w hSw => by (try dsimp only at hSw); go_simp <;> with_reducible rfl⟩) (by assumption) ?_
                    simp only [Act.put, List.setIfInBounds_toArray, List.set_cons_zero, List.set_cons_succ]
                    refine wpAnyH_take (i := 2) (v := _) (by simp only [List.getElem?_toArray, List.getElem?_cons_succ, List.getElem?_cons_zero] <;> rfl) (by kernel_rfl) (by kernel_rfl) (by kernel_rfl) (by exact fun _ _ _ h => h) (Or.inl ⟨by rfl, fun w hSw => by (try dsimp only at hSw); go_simp <;> with_reducible rfl⟩) (by assumption) ?_
                    simp only [Act.put, List.setIfInBounds_toArray, List.set_cons_zero, List.set_cons_succ]
                    refine wpAnyH_take (i := 3) (v := _) (by simp only [List.getElem?_toArray, List.getElem?_cons_succ, List.getElem?_cons_zero] <;> rfl) (by kernel_rfl) (by kernel_rfl) (by kernel_rfl) (by exact fun _ _ _ h => h) (Or.inl ⟨by rfl, fun w hSw => by (try dsimp only at hSw); go_simp <;> with_reducible rfl⟩) (by assumption) ?_
                    simp only [Act.put, List.setIfInBounds_toArray, List.set_cons_zero, List.set_cons_succ]
                    refine wpAnyH_take (i := 4) (v := _) (by simp only [List.getElem?_toArray, List.getElem?_cons_succ, List.getElem?_cons_zero] <;> rfl) (by kernel_rfl) (by kernel_rfl) (by kernel_rfl) (by exact fun _ _ _ h => h) (Or.inl ⟨by rfl, fun w hSw => by (try dsimp only at hSw); go_simp <;> with_reducible rfl⟩) (by assumption) ?_
                    simp only [Act.put, List.setIfInBounds_toArray, List.set_cons_zero, List.set_cons_succ]
                    refine wpAnyH_take (i := 5) (v := _) (by simp only [List.getElem?_toArray, List.getElem?_cons_succ, List.getElem?_cons_zero] <;> rfl) (by kernel_rfl) (by kernel_rfl) (by kernel_rfl) (by exact fun _ _ _ h => h) (Or.inl ⟨by rfl, fun w hSw => by (try dsimp only at hSw); go_simp <;> with_reducible rfl⟩) (by assumption) ?_
                    simp only [Act.put, List.setIfInBounds_toArray, List.set_cons_zero, List.set_cons_succ]
                    refine wpAnyH_take (i := 6) (v := _) (by simp only [List.getElem?_toArray, List.getElem?_cons_succ, List.getElem?_cons_zero] <;> rfl) (by kernel_rfl) (by kernel_rfl) (by kernel_rfl) (by exact fun _ _ _ h => h) (Or.inl ⟨by rfl, fun w hSw => by (try dsimp only at hSw); go_simp <;> with_reducible rfl⟩) (by assumption) ?_
                    simp only [Act.put, List.setIfInBounds_toArray, List.set_cons_zero, List.set_cons_succ]
                    refine wpAnyH_take (i := 7) (v := _) (by simp only [List.getElem?_toArray, List.getElem?_cons_succ, List.getElem?_cons_zero] <;> rfl) (by kernel_rfl) (by kernel_rfl) (by kernel_rfl) (by exact fun _ _ _ h => h) (Or.inl ⟨by rfl, fun w hSw => by (try dsimp only at hSw); go_simp <;> with_reducible rfl⟩) (by assumption) ?_
                    simp only [Act.put, List.setIfInBounds_toArray, List.set_cons_zero, List.set_cons_succ]
                    refine wpAnyH_take (i := 8) (v := _) (by simp only [List.getElem?_toArray, List.getElem?_cons_succ, List.getElem?_cons_zero] <;> rfl) (by kernel_rfl) (by kernel_rfl) (by kernel_rfl) (by exact fun _ _ _ h => h) (Or.inl ⟨by rfl, fun w hSw => by (try dsimp only at hSw); go_simp <;> with_reducible rfl⟩) (by assumption) ?_
                    simp only [Act.put, List.setIfInBounds_toArray, List.set_cons_zero, List.set_cons_succ]
                    refine wpAnyH_take (i := 9) (v := _) (by simp only [List.getElem?_toArray, List.getElem?_cons_succ, List.getElem?_cons_zero] <;> rfl) (by kernel_rfl) (by kernel_rfl) (by kernel_rfl) (by exact fun _ _ _ h => h) (Or.inl ⟨by rfl, fun w hSw => by (try dsimp only at hSw); go_simp <;> with_reducible rfl⟩) (by assumption) ?_
                    simp only [Act.put, List.setIfInBounds_toArray, List.set_cons_zero, List.set_cons_succ]
                    refine wpAnyH_take (i := 10) (v := _) (by simp only [List.getElem?_toArray, List.getElem?_cons_succ, List.getElem?_cons_zero] <;> rfl) (by kernel_rfl) (by kernel_rfl) (by kernel_rfl) (by exact fun _ _ _ h => h) (Or.inl ⟨by rfl, fun w hSw => by (try dsimp only at hSw); go_simp <;> with_reducible rfl⟩) (by assumption) ?_
                    simp only [Act.put, List.setIfInBounds_toArray, List.set_cons_zero, List.set_cons_succ]
                    refine wpAnyH_take (i := 12) (v := _) (by simp only [List.getElem?_toArray, List.getElem?_cons_succ, List.getElem?_cons_zero] <;> rfl) (by kernel_rfl) (by kernel_rfl) (by kernel_rfl) (by exact fun _ _ _ h => h) (Or.inl ⟨by rfl, fun w hSw => by (try dsimp only at hSw); go_simp <;> with_reducible rfl⟩) (by assumption) ?_
                    simp only [Act.put, List.setIfInBounds_toArray, List.set_cons_zero, List.set_cons_succ]
                    refine wpAnyH_take (i := 13) (v := _) (by simp only [List.getElem?_toArray, List.getElem?_cons_succ, List.getElem?_cons_zero] <;> rfl) (by kernel_rfl) (by kernel_rfl) (by kernel_rfl) (by exact fun _ _ _ h => h) (Or.inl ⟨by rfl, fun w hSw => by (try dsimp only at hSw); go_simp <;> with_reducible rfl⟩) (by assumption) ?_
                    simp only [Act.put, List.setIfInBounds_toArray, List.set_cons_zero, List.set_cons_succ]
                    refine wpAnyH_take (i := 14) (v := _) (by simp only [List.getElem?_toArray, List.getElem?_cons_succ, List.getElem?_cons_zero] <;> rfl) (by kernel_rfl) (by kernel_rfl) (by kernel_rfl) (by exact fun _ _ _ h => h) (Or.inl ⟨by rfl, fun w hSw => by (try dsimp only at hSw); go_simp <;> with_reducible rfl⟩) (by assumption) ?_
                    simp only [Act.put, List.setIfInBounds_toArray, List.set_cons_zero, List.set_cons_succ]
                    refine wpAnyH_take (i := 15) (v := _) (by simp only [List.getElem?_toArray, List.getElem?_cons_succ, List.getElem?_cons_zero] <;> rfl) (by kernel_rfl) (by kernel_rfl) (by kernel_rfl) (by exact fun _ _ _ h => h) (Or.inl ⟨by rfl, fun w hSw => by (try dsimp only at hSw); go_simp <;> with_reducible rfl⟩) (by assumption) ?_
                    simp only [Act.put, List.setIfInBounds_toArray, List.set_cons_zero, List.set_cons_succ]
                    refine wpAnyH_ready (rs := [11]) (by kernel_rfl) (by simp) ?_
                    refine AllReadyH.cons (o := _) (by simp only [List.getElem?_toArray, List.getElem?_cons_succ, List.getElem?_cons_zero] <;> rfl) (fun K hK => ?_) AllReadyH.nil
                    go_simp
                    go_at_call 42
                    refine (ebound_calls _ _ _ _ kk (A / 2 + 3) (2148 / 2 + 65) _ (HQ1.out.below BC.out) (NM.out.bd (by omega)) (HQ5.out.below BC.out) (NM.out.bd (by omega)) (by omega) (by omega) (by omega) (by omega)).mono ?_; rintro e' w16 ⟨⟨z16, rfl, hz⟩, hb⟩
                    have B16w := Lib.hid (bC.out.trans (hb.mono bC.out.size))
                    have B16 := Lib.hid (BC.out.trans (hb.mono BC.out.size))
                    have Z16 := Lib.hid hz
                    clear hz hb
                    go_wp2_with fail
                    refine hK.out _ _ (KS.out _ B16.out B16w.out) (fun hHeld => ?_)
                    clear hK K
                    refine wpAnyH_ready (rs := [16]) (by kernel_rfl) (by simp) ?_
                    refine AllReadyH.cons (o := _) (by simp only [List.getElem?_toArray, List.getElem?_cons_succ, List.getElem?_cons_zero] <;> rfl) (fun K hK => ?_) AllReadyH.nil
                    go_simp
                    go_at_call 39
                    refine (dabs_calls _ _ 1024 1074 _ (HQ3.out.below B16.out) XB.out (by omega)).mono ?_; rintro e' w17 ⟨⟨z17, rfl, hz⟩, hb⟩
                    have B17w := Lib.hid (B16w.out.trans (hb.mono B16w.out.size))
                    have B17 := Lib.hid (B16.out.trans (hb.mono B16.out.size))
                    have Z17 := Lib.hid hz
                    have Z16' := Lib.hid (Z16.out.below hb)
                    clear hz hb
                    go_wp2_with fail
                    refine hK.out _ _ (KS.out _ B17.out B17w.out) (fun hHeld => ?_)
                    clear hK K
                    refine wpAnyH_ready (rs := [17]) (by kernel_rfl) (by simp) ?_
                    refine AllReadyH.cons (o := _) (by simp only [List.getElem?_toArray, List.getElem?_cons_succ, List.getElem?_cons_zero] <;> rfl) (fun K hK => ?_) AllReadyH.nil
                    go_simp
                    go_at_call 57
                    refine (dmul_calls z16 z17 _ _ (2 * (A / 2 + 3) + 36) (2 * (2148 / 2 + 65) + 53) 1024 1074 _ Z16'.out (bndQ_bd (NM.out.bd (by omega)) (NM.out.bd (by omega)) (by omega)) Z17.out (bd_absR'.2 XB.out) (by omega)).mono ?_; rintro e' w18 ⟨⟨z18, rfl, hz⟩, hb⟩
                    have B18w := Lib.hid (B17w.out.trans (hb.mono B17w.out.size))
                    have B18 := Lib.hid (B17.out.trans (hb.mono B17.out.size))
                    have Z18 := Lib.hid hz
                    clear hz hb
                    go_wp2_with fail
                    refine hK.out _ _ (KS.out _ B18.out B18w.out) (fun hHeld => ?_)
                    clear hK K
                    refine wpAnyH_ready (rs := [18]) (by kernel_rfl) (by simp) ?_
                    refine AllReadyH.cons (o := _) (by simp only [List.getElem?_toArray, List.getElem?_cons_succ, List.getElem?_cons_zero] <;> rfl) (fun K hK => ?_) AllReadyH.nil
                    go_simp
                    go_at_call 55
                    refine (dadd_calls _ z18 _ _ (A + 1024 + 60) 3405 _ (HQ6.out.below B18w.out) (MS.out j hj) Z18.out (bd_p2_mono (bd_mul_p2 (bndQ_bd (NM.out.bd (by omega)) (NM.out.bd (by omega)) (by omega)) (bd_absR'.2 XB.out)) (by omega)) (by omega)).mono ?_; rintro e' w19 ⟨⟨z19, rfl, hz⟩, hb⟩
                    have B19w := Lib.hid (B18w.out.trans (hb.mono B18w.out.size))
                    have B19 := Lib.hid (B18.out.trans (hb.mono B18.out.size))
                    have HZ := Lib.hid hz
                    obtain ⟨zs, zm, ze, ⟨za, zn, zc, rfl, _⟩, _⟩ := hz
                    have L6 := Lib.hid (HE6.out.below B19w.out)
                    clear hb
                    go_wp2_with fail
                    refine hK.out _ _ (KS.out _ B19.out B19w.out) (fun hHeld => ?_)
                    clear hK K
                    refine wpAnyH_done (by kernel_rfl) ?_ _
                    unfold LastQ
                    dsimp only
                    refine wpOp_does (o := _) (by simp only [List.getElem?_toArray, List.getElem?_cons_succ, List.getElem?_cons_zero, Nat.reduceAdd, Nat.reduceSub] <;> rfl) (by rfl) ?_
                    obtain ⟨y0, y1, y2, y3, y4, y5⟩ := L6.out
                    go_simp
                    have N2 := Lib.hid (show DBox _ g22 (bndQ (us.getD i 0) (us.getD c 0) kk + sumQ (fun j => bndQ (us.getD i 0) (us.getD j 0) kk * absR ((xs.map fv).getD j 0)) (j + 1)) 3405 from ⟨_, _, _, _, _, L6.out.put (.bool zs) (.slice za zn zc) (.int .i64 ze), by rw [add_sum]; exact HZ.out.put3 L6.out _ _ _⟩)
                    have N1 := Lib.hid ((N21.out.below B19w.out).put_other L6.out (show g22 ≠ g21 by omega) (.bool zs) (.slice za zn zc) (.int .i64 ze))
                    have N3 := Lib.hid ((N18.out.below B19w.out).put_other L6.out (show g22 ≠ w6.heap.size by omega) (.bool zs) (.slice za zn zc) (.int .i64 ze))
                    have N4 := Lib.hid (below_put3 B19.out (show w6.heap.size ≤ g22 by omega) (.bool zs) (.slice za zn zc) (.int .i64 ze))
                    clear y0 y1 y2 y3 y4 y5 L6 HZ hHeld
                    go_wp2
                    go_roundw
                    case rel => exact ⟨j + 1, by go_num, by omega, N1.out, N2.out, N3.out, N4.out⟩
                    case measure => simp [intOf]; omega
                  · obtain rfl : c = j := by omega
                    have hjj : ¬ (c : Int) < (c : Int) := by omega
                    have hle := HCK.out us NM.out i hlt
                    unfold mostN at hle
                    rw [hkk, hm] at hle
                    have HLE := Lib.hid hle
                    have BL := Lib.hid (LS.out c (Nat.le_refl c))
                    have BM := Lib.hid (MS.out c (Nat.le_refl c))
                    have BU := Lib.hid (hU1.out m (Nat.le_refl m))
                    have DL := Lib.hid HJ.out.1
                    have DM := Lib.hid HJ.out.2.1
                    have DU := Lib.hid HJ.out.2.2.1
                    have BJ := Lib.hid HJ.out.2.2.2
                    clear hle LS MS HJ hU1
                    generalize tn.getD (gix c i c) 0 - sumQ (fun j => tn.getD (gix c (min i j) (max i j)) 0 * (xs.map fv).getD j 0) c = T at *
                    generalize bndQ (us.getD i 0) (us.getD c 0) kk + sumQ (fun j => bndQ (us.getD i 0) (us.getD j 0) kk * absR ((xs.map fv).getD j 0)) c = V at *
                    generalize hU : 1 + sumQ (fun l => us.getD l 0) m = U at *
                    have hlt22 : g22 < wr.heap.size := by
                      obtain ⟨_, _, _, _, _, hE, _⟩ := DM.out
                      exact hE.lt
                    go_wp2
                    go_cut [24] from 147 to 155 (fun s24 wx => DCutB wr ((us.getD i 0 + p2 (-1060)) * U) 2278 s24 wx)
                    case first =>
                      rename_i J K' hJ hK'
                      obtain ⟨s1, b1, n1, d1, e1, k10, k11, k12, k13⟩ := HCU.out i (by omega)
                      have HQ1 := Lib.hid k13
                      obtain ⟨s7, b7, n7, d7, e7, E7, Q7⟩ := DU.out
                      have HQ7 := Lib.hid Q7
                      obtain ⟨y0, y1, y2, _, _, _⟩ := id E7
                      have KS := Lib.hid (show ∀ w', Below wr.heap.size wr w' → w'.cell? ⟨gu, ou + i * 3, none⟩ = some (.bool s1) ∧ w'.cell? ⟨gu, ou + i * 3 + 1, none⟩ = some (.slice b1 n1 d1) ∧ w'.cell? ⟨gu, ou + i * 3 + 2, none⟩ = some (.int .i64 e1) ∧ w'.cell? ⟨w6.heap.size, 0, none⟩ = some (.bool s7) ∧ w'.cell? ⟨w6.heap.size, 0 + 1, none⟩ = some (.slice b7 n7 d7) ∧ w'.cell? ⟨w6.heap.size, 0 + 2, none⟩ = some (.int .i64 e7) from fun W hb => ⟨((BJ.out.trans (hb.mono BJ.out.size)).cell (p := ⟨gu, ou + i * 3, none⟩) (cell_lt k10)).trans k10, ((BJ.out.trans (hb.mono BJ.out.size)).cell (p := ⟨gu, ou + i * 3 + 1, none⟩) (cell_lt k11)).trans k11, ((BJ.out.trans (hb.mono BJ.out.size)).cell (p := ⟨gu, ou + i * 3 + 2, none⟩) (cell_lt k12)).trans k12, (hb.cell (p := ⟨w6.heap.size, 0, none⟩) (cell_lt y0)).trans y0, (hb.cell (p := ⟨w6.heap.size, 0 + 1, none⟩) (cell_lt y1)).trans y1, (hb.cell (p := ⟨w6.heap.size, 0 + 2, none⟩) (cell_lt y2)).trans y2⟩)
                      have UB := Lib.hid (show Dq wr (.agg #[.bool s1, .slice b1 n1 d1, .int .i64 e1]) (us.getD i 0) (2148 / 2 + 65) from HQ1.out.below BJ.out)
                      have bdA := Lib.hid (bd_add_p2 (A := A / 2 + 3) (NM.out.bd (by omega : i ≤ c)) (bd_p2_mono (A := 0) (p2_bd (k := -1060) (A := 0) (by omega)) (by omega)))
                      have B0 := Lib.hid (show Below wr.heap.size wr wr.drew from (Below.refl _ _).drew)
                      clear k10 k11 k12 k13 E7 Q7 y0 y1 y2
                      refine region_held_last (fun w' => w'.cell? ⟨gu, ou + i * 3, none⟩ = some (.bool s1) ∧ w'.cell? ⟨gu, ou + i * 3 + 1, none⟩ = some (.slice b1 n1 d1) ∧ w'.cell? ⟨gu, ou + i * 3 + 2, none⟩ = some (.int .i64 e1) ∧ w'.cell? ⟨w6.heap.size, 0, none⟩ = some (.bool s7) ∧ w'.cell? ⟨w6.heap.size, 0 + 1, none⟩ = some (.slice b7 n7 d7) ∧ w'.cell? ⟨w6.heap.size, 0 + 2, none⟩ = some (.int .i64 e7)) (by kernel_rfl) (by simp) (by kernel_rfl) (KS.out _ B0.out) (fun hHeld => ?_)
                      simp only [List.dropLast_cons_cons, List.dropLast_singleton, List.length_cons, List.length_nil]
                      refine wpAnyH_take (i := 0) (v := _) (by simp only [List.getElem?_toArray, List.getElem?_cons_zero] <;> rfl) (by kernel_rfl) (by kernel_rfl) (by kernel_rfl) (by exact fun _ _ _ h => h) (Or.inl ⟨by rfl, fun w hSw => by (try dsimp only at hSw); go_simp <;> with_reducible rfl⟩) (by assumption) ?_
                      simp only [Act.put, List.setIfInBounds_toArray, List.set_cons_zero, List.set_cons_succ]
                      refine wpAnyH_take (i := 1) (v := _) (by simp only [List.getElem?_toArray, List.getElem?_cons_succ, List.getElem?_cons_zero] <;> rfl) (by kernel_rfl) (by kernel_rfl) (by kernel_rfl) (by exact fun _ _ _ h => h) (Or.inl ⟨by rfl, fun w hSw => by (try dsimp only at hSw); go_simp <;> with_reducible rfl⟩) (by assumption) ?_
                      simp only [Act.put, List.setIfInBounds_toArray, List.set_cons_zero, List.set_cons_succ]
                      refine wpAnyH_take (i := 2) (v := _) (by simp only [List.getElem?_toArray, List.getElem?_cons_succ, List.getElem?_cons_zero] <;> rfl) (by kernel_rfl) (by kernel_rfl) (by kernel_rfl) (by exact fun _ _ _ h => h) (Or.inl ⟨by rfl, fun w hSw => by (try dsimp only at hSw); go_simp <;> with_reducible rfl⟩) (by assumption) ?_
                      simp only [Act.put, List.setIfInBounds_toArray, List.set_cons_zero, List.set_cons_succ]
                      refine wpAnyH_take (i := 3) (v := _) (by simp only [List.getElem?_toArray, List.getElem?_cons_succ, List.getElem?_cons_zero] <;> rfl) (by kernel_rfl) (by kernel_rfl) (by kernel_rfl) (by exact fun _ _ _ h => h) (Or.inl ⟨by rfl, fun w hSw => by (try dsimp only at hSw); go_simp <;> with_reducible rfl⟩) (by assumption) ?_
                      simp only [Act.put, List.setIfInBounds_toArray, List.set_cons_zero, List.set_cons_succ]
                      refine wpAnyH_take (i := 6) (v := _) (by simp only [List.getElem?_toArray, List.getElem?_cons_succ, List.getElem?_cons_zero] <;> rfl) (by kernel_rfl) (by kernel_rfl) (by kernel_rfl) (by exact fun _ _ _ h => h) (Or.inl ⟨by rfl, fun w hSw => by (try dsimp only at hSw); go_simp <;> with_reducible rfl⟩) (by assumption) ?_
                      simp only [Act.put, List.setIfInBounds_toArray, List.set_cons_zero, List.set_cons_succ]
                      refine wpAnyH_ready (rs := [4, 8]) (by kernel_rfl) (by simp) ?_
                      refine AllReadyH.cons (o := _) (by simp only [List.getElem?_toArray, List.getElem?_cons_succ, List.getElem?_cons_zero] <;> rfl) (fun K hK => ?_) (AllReadyH.cons (o := _) (by simp only [List.getElem?_toArray, List.getElem?_cons_succ, List.getElem?_cons_zero] <;> rfl) (fun K hK => ?_) AllReadyH.nil)
                      · skip
                        go_simp
                        go_at_call 54; refine (dpow_calls (-1060) 0 (2148 / 2 + 65) _ (by omega) (by omega) (by omega) (by omega)).mono ?_; rintro e' w11 ⟨⟨z11, rfl, hz⟩, hb⟩
                        have B1 := Lib.hid (B0.out.trans (hb.mono B0.out.size))
                        have Z1 := Lib.hid hz
                        clear hz hb
                        go_wp2_with fail
                        refine hK.out _ _ (KS.out _ B1.out) (fun hHeld => ?_)
                        clear hK K
                        refine wpAnyH_ready (rs := [5, 8]) (by kernel_rfl) (by simp) ?_
                        refine AllReadyH.cons (o := _) (by simp only [List.getElem?_toArray, List.getElem?_cons_succ, List.getElem?_cons_zero] <;> rfl) (fun K hK => ?_) (AllReadyH.cons (o := _) (by simp only [List.getElem?_toArray, List.getElem?_cons_succ, List.getElem?_cons_zero] <;> rfl) (fun K hK => ?_) AllReadyH.nil)
                        · skip
                          go_simp
                          go_at_call 55; refine (dadd_calls _ z11 _ _ (A / 2 + 3) (2148 / 2 + 65) _ (UB.out.below B1.out) (NM.out.bd (by omega)) Z1.out (bd_p2_mono (A := 0) (p2_bd (k := -1060) (A := 0) (by omega)) (by omega)) (by omega)).mono ?_; rintro e' w12 ⟨⟨z12, rfl, hz⟩, hb⟩
                          have B2 := Lib.hid (B1.out.trans (hb.mono B1.out.size))
                          have Z2 := Lib.hid hz
                          clear hz hb
                          go_wp2_with fail
                          refine hK.out _ _ (KS.out _ B2.out) (fun hHeld => ?_)
                          clear hK K
                          refine wpAnyH_ready (rs := [7, 8]) (by kernel_rfl) (by simp) ?_
                          refine AllReadyH.cons (o := _) (by simp only [List.getElem?_toArray, List.getElem?_cons_succ, List.getElem?_cons_zero] <;> rfl) (fun K hK => ?_) (AllReadyH.cons (o := _) (by simp only [List.getElem?_toArray, List.getElem?_cons_succ, List.getElem?_cons_zero] <;> rfl) (fun K hK => ?_) AllReadyH.nil)
                          · skip
                            go_simp
                            go_at_call 57; refine (dmul_calls z12 _ _ _ (A / 2 + 3 + 1) (2148 / 2 + 65) (A / 2 + 3 + 7 + 1) (2148 / 2 + 65) _ Z2.out bdA.out (HQ7.out.below B2.out) BU.out (by omega)).mono ?_; rintro e' w13 ⟨⟨z13, rfl, hz⟩, hb⟩
                            have B3 := Lib.hid (B2.out.trans (hb.mono B2.out.size))
                            have Z3 := Lib.hid (hz.mono (show _ ≤ 2278 by omega))
                            obtain ⟨zs, zm, ze, ⟨za, zn, zc, rfl, _⟩, _⟩ := hz
                            clear hb
                            go_wp2_with fail
                            refine hK.out _ _ (KS.out _ B3.out) (fun hHeld => ?_)
                            clear hK K
                            refine wpAnyH_ready (rs := [8]) (by kernel_rfl) (by simp) ?_
                            refine AllReadyH.cons (o := _) (by simp only [List.getElem?_toArray, List.getElem?_cons_succ, List.getElem?_cons_zero] <;> rfl) (fun K hK => ?_) AllReadyH.nil
                            go_simp
                            have F3 := Lib.hid (Cells3.new w13 (.bool false) (.slice none 0 0) (.int .i64 0) 78)
                            have G3 := Lib.hid B3.out.size
                            have BB := Lib.hid (B3.out.alloc B3.out.size (.cells #[.bool false, .slice none 0 0, .int .i64 0] 78))
                            have ZZ := Lib.hid (Z3.out.below ((Below.refl _ _).alloc (Nat.le_refl _) (.cells #[.bool false, .slice none 0 0, .int .i64 0] 78)))
                            refine hK.out _ _ (KS.out _ BB.out) (fun hHeld => ?_)
                            clear hK K B3 Z3
                            have B3 := BB
                            have Z3 := ZZ
                            clear BB ZZ
                            generalize w13.alloc (.cells #[.bool false, .slice none 0 0, .int .i64 0] 78) = W13 at *
                            generalize w13.heap.size = g24 at *
                            (try simp only [Act.put, List.setIfInBounds_toArray, List.set_cons_zero, List.set_cons_succ])
                            have GG := G3
                            clear G3
                            refine wpAnyH_done (by kernel_rfl) ?_ _
                            unfold LastQ
                            dsimp only
                            refine wpOp_does (o := _) (by simp only [List.getElem?_toArray, List.getElem?_cons_succ, List.getElem?_cons_zero, Nat.reduceAdd, Nat.reduceSub] <;> rfl) (by rfl) ?_
                            obtain ⟨y0, y1, y2, y3, y4, y5⟩ := F3.out
                            go_simp
                            refine hK' _ _ (Met.intro (hJ _ _ ?_))
                            (repeat apply Exists.intro)
                            refine ⟨?_, rfl⟩
                            exact ⟨_, rfl, GG.out, ⟨_, _, _, _, _, F3.out.put _ _ _, Z3.out.put3 F3.out _ _ _⟩, below_put3 B3.out GG.out _ _ _⟩
                          · skip
                            go_simp
                            have F2 := Lib.hid (Cells3.new w12 (.bool false) (.slice none 0 0) (.int .i64 0) 78)
                            have G2 := Lib.hid B2.out.size
                            have BB := Lib.hid (B2.out.alloc B2.out.size (.cells #[.bool false, .slice none 0 0, .int .i64 0] 78))
                            have ZZ := Lib.hid (Z2.out.below ((Below.refl _ _).alloc (Nat.le_refl _) (.cells #[.bool false, .slice none 0 0, .int .i64 0] 78)))
                            refine hK.out _ _ (KS.out _ BB.out) (fun hHeld => ?_)
                            clear hK K B2 Z2
                            have B2 := BB
                            have Z2 := ZZ
                            clear BB ZZ
                            generalize w12.heap.size = g24 at *
                            (try simp only [Act.put, List.setIfInBounds_toArray, List.set_cons_zero, List.set_cons_succ])
                            have GG := G2
                            clear G2
                            refine wpAnyH_ready (rs := [7]) (by kernel_rfl) (by simp) ?_
                            refine AllReadyH.cons (o := _) (by simp only [List.getElem?_toArray, List.getElem?_cons_succ, List.getElem?_cons_zero] <;> rfl) (fun K hK => ?_) AllReadyH.nil
                            go_simp
                            go_at_call 57; refine (dmul_calls z12 _ _ _ (A / 2 + 3 + 1) (2148 / 2 + 65) (A / 2 + 3 + 7 + 1) (2148 / 2 + 65) _ Z2.out bdA.out (HQ7.out.below B2.out) BU.out (by omega)).mono ?_; rintro e' w13 ⟨⟨z13, rfl, hz⟩, hb⟩
                            have B3 := Lib.hid (B2.out.trans (hb.mono B2.out.size))
                            have Z3 := Lib.hid (hz.mono (show _ ≤ 2278 by omega))
                            obtain ⟨zs, zm, ze, ⟨za, zn, zc, rfl, _⟩, _⟩ := hz
                            have F3 := Lib.hid (F2.out.below hb)
                            clear hb
                            go_wp2_with fail
                            refine hK.out _ _ (KS.out _ B3.out) (fun hHeld => ?_)
                            clear hK K
                            refine wpAnyH_done (by kernel_rfl) ?_ _
                            unfold LastQ
                            dsimp only
                            refine wpOp_does (o := _) (by simp only [List.getElem?_toArray, List.getElem?_cons_succ, List.getElem?_cons_zero, Nat.reduceAdd, Nat.reduceSub] <;> rfl) (by rfl) ?_
                            obtain ⟨y0, y1, y2, y3, y4, y5⟩ := F3.out
                            go_simp
                            refine hK' _ _ (Met.intro (hJ _ _ ?_))
                            (repeat apply Exists.intro)
                            refine ⟨?_, rfl⟩
                            exact ⟨_, rfl, GG.out, ⟨_, _, _, _, _, F3.out.put _ _ _, Z3.out.put3 F3.out _ _ _⟩, below_put3 B3.out GG.out _ _ _⟩
                        · skip
                          go_simp
                          have F1 := Lib.hid (Cells3.new w11 (.bool false) (.slice none 0 0) (.int .i64 0) 78)
                          have G1 := Lib.hid B1.out.size
                          have BB := Lib.hid (B1.out.alloc B1.out.size (.cells #[.bool false, .slice none 0 0, .int .i64 0] 78))
                          have ZZ := Lib.hid (Z1.out.below ((Below.refl _ _).alloc (Nat.le_refl _) (.cells #[.bool false, .slice none 0 0, .int .i64 0] 78)))
                          refine hK.out _ _ (KS.out _ BB.out) (fun hHeld => ?_)
                          clear hK K B1 Z1
                          have B1 := BB
                          have Z1 := ZZ
                          clear BB ZZ
                          generalize w11.heap.size = g24 at *
                          (try simp only [Act.put, List.setIfInBounds_toArray, List.set_cons_zero, List.set_cons_succ])
                          have GG := G1
                          clear G1
                          refine wpAnyH_ready (rs := [5]) (by kernel_rfl) (by simp) ?_
                          refine AllReadyH.cons (o := _) (by simp only [List.getElem?_toArray, List.getElem?_cons_succ, List.getElem?_cons_zero] <;> rfl) (fun K hK => ?_) AllReadyH.nil
                          go_simp
                          go_at_call 55; refine (dadd_calls _ z11 _ _ (A / 2 + 3) (2148 / 2 + 65) _ (UB.out.below B1.out) (NM.out.bd (by omega)) Z1.out (bd_p2_mono (A := 0) (p2_bd (k := -1060) (A := 0) (by omega)) (by omega)) (by omega)).mono ?_; rintro e' w12 ⟨⟨z12, rfl, hz⟩, hb⟩
                          have B2 := Lib.hid (B1.out.trans (hb.mono B1.out.size))
                          have Z2 := Lib.hid hz
                          have F2 := Lib.hid (F1.out.below hb)
                          clear hz hb
                          go_wp2_with fail
                          refine hK.out _ _ (KS.out _ B2.out) (fun hHeld => ?_)
                          clear hK K
                          refine wpAnyH_ready (rs := [7]) (by kernel_rfl) (by simp) ?_
                          refine AllReadyH.cons (o := _) (by simp only [List.getElem?_toArray, List.getElem?_cons_succ, List.getElem?_cons_zero] <;> rfl) (fun K hK => ?_) AllReadyH.nil
                          go_simp
                          go_at_call 57; refine (dmul_calls z12 _ _ _ (A / 2 + 3 + 1) (2148 / 2 + 65) (A / 2 + 3 + 7 + 1) (2148 / 2 + 65) _ Z2.out bdA.out (HQ7.out.below B2.out) BU.out (by omega)).mono ?_; rintro e' w13 ⟨⟨z13, rfl, hz⟩, hb⟩
                          have B3 := Lib.hid (B2.out.trans (hb.mono B2.out.size))
                          have Z3 := Lib.hid (hz.mono (show _ ≤ 2278 by omega))
                          obtain ⟨zs, zm, ze, ⟨za, zn, zc, rfl, _⟩, _⟩ := hz
                          have F3 := Lib.hid (F2.out.below hb)
                          clear hb
                          go_wp2_with fail
                          refine hK.out _ _ (KS.out _ B3.out) (fun hHeld => ?_)
                          clear hK K
                          refine wpAnyH_done (by kernel_rfl) ?_ _
                          unfold LastQ
                          dsimp only
                          refine wpOp_does (o := _) (by simp only [List.getElem?_toArray, List.getElem?_cons_succ, List.getElem?_cons_zero, Nat.reduceAdd, Nat.reduceSub] <;> rfl) (by rfl) ?_
                          obtain ⟨y0, y1, y2, y3, y4, y5⟩ := F3.out
                          go_simp
                          refine hK' _ _ (Met.intro (hJ _ _ ?_))
                          (repeat apply Exists.intro)
                          refine ⟨?_, rfl⟩
                          exact ⟨_, rfl, GG.out, ⟨_, _, _, _, _, F3.out.put _ _ _, Z3.out.put3 F3.out _ _ _⟩, below_put3 B3.out GG.out _ _ _⟩
                      · skip
                        go_simp
                        have F0 := Lib.hid (show Cells3 (wr.drew.alloc (.cells #[.bool false, .slice none 0 0, .int .i64 0] 78)) wr.heap.size (.bool false) (.slice none 0 0) (.int .i64 0) from Cells3.new wr.drew (.bool false) (.slice none 0 0) (.int .i64 0) 78)
                        have G0 := Lib.hid (Nat.le_refl wr.heap.size)
                        have BB := Lib.hid (B0.out.alloc B0.out.size (.cells #[.bool false, .slice none 0 0, .int .i64 0] 78))
                        refine hK.out _ _ (KS.out _ BB.out) (fun hHeld => ?_)
                        clear hK K B0
                        have B0 := BB
                        clear BB
                        (try simp only [Act.put, List.setIfInBounds_toArray, List.set_cons_zero, List.set_cons_succ])
                        have GG := G0
                        clear G0
                        refine wpAnyH_ready (rs := [4]) (by kernel_rfl) (by simp) ?_
                        refine AllReadyH.cons (o := _) (by simp only [List.getElem?_toArray, List.getElem?_cons_succ, List.getElem?_cons_zero] <;> rfl) (fun K hK => ?_) AllReadyH.nil
                        go_simp
                        go_at_call 54; refine (dpow_calls (-1060) 0 (2148 / 2 + 65) _ (by omega) (by omega) (by omega) (by omega)).mono ?_; rintro e' w11 ⟨⟨z11, rfl, hz⟩, hb⟩
                        have B1 := Lib.hid (B0.out.trans (hb.mono B0.out.size))
                        have Z1 := Lib.hid hz
                        have F1 := Lib.hid (F0.out.below hb)
                        clear hz hb
                        go_wp2_with fail
                        refine hK.out _ _ (KS.out _ B1.out) (fun hHeld => ?_)
                        clear hK K
                        refine wpAnyH_ready (rs := [5]) (by kernel_rfl) (by simp) ?_
                        refine AllReadyH.cons (o := _) (by simp only [List.getElem?_toArray, List.getElem?_cons_succ, List.getElem?_cons_zero] <;> rfl) (fun K hK => ?_) AllReadyH.nil
                        go_simp
                        go_at_call 55; refine (dadd_calls _ z11 _ _ (A / 2 + 3) (2148 / 2 + 65) _ (UB.out.below B1.out) (NM.out.bd (by omega)) Z1.out (bd_p2_mono (A := 0) (p2_bd (k := -1060) (A := 0) (by omega)) (by omega)) (by omega)).mono ?_; rintro e' w12 ⟨⟨z12, rfl, hz⟩, hb⟩
                        have B2 := Lib.hid (B1.out.trans (hb.mono B1.out.size))
                        have Z2 := Lib.hid hz
                        have F2 := Lib.hid (F1.out.below hb)
                        clear hz hb
                        go_wp2_with fail
                        refine hK.out _ _ (KS.out _ B2.out) (fun hHeld => ?_)
                        clear hK K
                        refine wpAnyH_ready (rs := [7]) (by kernel_rfl) (by simp) ?_
                        refine AllReadyH.cons (o := _) (by simp only [List.getElem?_toArray, List.getElem?_cons_succ, List.getElem?_cons_zero] <;> rfl) (fun K hK => ?_) AllReadyH.nil
                        go_simp
                        go_at_call 57; refine (dmul_calls z12 _ _ _ (A / 2 + 3 + 1) (2148 / 2 + 65) (A / 2 + 3 + 7 + 1) (2148 / 2 + 65) _ Z2.out bdA.out (HQ7.out.below B2.out) BU.out (by omega)).mono ?_; rintro e' w13 ⟨⟨z13, rfl, hz⟩, hb⟩
                        have B3 := Lib.hid (B2.out.trans (hb.mono B2.out.size))
                        have Z3 := Lib.hid (hz.mono (show _ ≤ 2278 by omega))
                        obtain ⟨zs, zm, ze, ⟨za, zn, zc, rfl, _⟩, _⟩ := hz
                        have F3 := Lib.hid (F2.out.below hb)
                        clear hb
                        go_wp2_with fail
                        refine hK.out _ _ (KS.out _ B3.out) (fun hHeld => ?_)
                        clear hK K
                        refine wpAnyH_done (by kernel_rfl) ?_ _
                        unfold LastQ
                        dsimp only
                        refine wpOp_does (o := _) (by simp only [List.getElem?_toArray, List.getElem?_cons_succ, List.getElem?_cons_zero, Nat.reduceAdd, Nat.reduceSub] <;> rfl) (by rfl) ?_
                        obtain ⟨y0, y1, y2, y3, y4, y5⟩ := F3.out
                        go_simp
                        refine hK' _ _ (Met.intro (hJ _ _ ?_))
                        (repeat apply Exists.intro)
                        refine ⟨?_, rfl⟩
                        exact ⟨_, rfl, GG.out, ⟨_, _, _, _, _, F3.out.put _ _ _, Z3.out.put3 F3.out _ _ _⟩, below_put3 B3.out GG.out _ _ _⟩
                    case rest =>
                      obtain ⟨g24, rfl, hg24, D24, BC⟩ := hcut
                      have hlt24 := hg24
                      have DL := Lib.hid (DL.out.below BC)
                      have DM := Lib.hid (DM.out.below BC)
                      have DU := Lib.hid (DU.out.below BC)
                      have BJ := Lib.hid (BJ.out.trans (BC.mono BJ.out.size))
                      have D24 := Lib.hid D24
                      have bdM := Lib.hid (show Bd ((us.getD i 0 + p2 (-1060)) * U) (p2 ((A + 40 : Nat) : Int)) from bd_p2_mono (bd_mul_p2 (bd_add_p2 (A := A / 2 + 3) (NM.out.bd (by omega : i ≤ c)) (bd_p2_mono (A := 0) (p2_bd (k := -1060) (A := 0) (by omega)) (by omega))) BU.out) (by omega))
                      have bdN := Lib.hid (bd_mul_p2 bdM.out (p2_bd (k := -1060) (A := 0) (by omega)))
                      have h18 : w6.heap.size < g22 := by omega
                      clear BC hg24 BU
                      generalize (us.getD i 0 + p2 (-1060)) * U = Y at *
                      obtain ⟨s6, b6, n6, d6, e6, E6, Q6⟩ := DM.out
                      obtain ⟨s8, b8, n8, d8, e8, E8, Q8⟩ := D24.out
                      have HE6 := Lib.hid E6
                      have HQ6 := Lib.hid Q6
                      have HQ8 := Lib.hid Q8
                      have bA := Lib.hid (show Below wc.heap.size wc wc.drew from (Below.refl _ _).drew)
                      have KS := Lib.hid (fun W (hb : Below wc.heap.size wc W) => six_keep (E6.below hb) (E8.below hb))
                      clear E6 Q6 E8 Q8
                      go_wp2
                      refine region_held_last (fun w' => w'.cell? ⟨g22, 0, none⟩ = some (.bool s6) ∧ w'.cell? ⟨g22, 1, none⟩ = some (.slice b6 n6 d6) ∧ w'.cell? ⟨g22, 2, none⟩ = some (.int .i64 e6) ∧ w'.cell? ⟨g24, 0, none⟩ = some (.bool s8) ∧ w'.cell? ⟨g24, 1, none⟩ = some (.slice b8 n8 d8) ∧ w'.cell? ⟨g24, 2, none⟩ = some (.int .i64 e8)) (by kernel_rfl) (by simp) (by kernel_rfl) (KS.out _ bA.out) (fun hHeld => ?_)
                      simp only [List.dropLast_cons_cons, List.dropLast_singleton, List.length_cons, List.length_nil]
                      refine wpAnyH_take (i := 0) (v := _) (by simp only [List.getElem?_toArray, List.getElem?_cons_zero] <;> rfl) (by kernel_rfl) (by kernel_rfl) (by kernel_rfl) (by exact fun _ _ _ h => h) (Or.inl ⟨by rfl, fun w hSw => by (try dsimp only at hSw); go_simp <;> with_reducible rfl⟩) (by assumption) ?_
                      simp only [Act.put, List.setIfInBounds_toArray, List.set_cons_zero, List.set_cons_succ]
                      refine wpAnyH_take (i := 1) (v := _) (by simp only [List.getElem?_toArray, List.getElem?_cons_succ, List.getElem?_cons_zero] <;> rfl) (by kernel_rfl) (by kernel_rfl) (by kernel_rfl) (by exact fun _ _ _ h => h) (Or.inl ⟨by rfl, fun w hSw => by (try dsimp only at hSw); go_simp <;> with_reducible rfl⟩) (by assumption) ?_
                      simp only [Act.put, List.setIfInBounds_toArray, List.set_cons_zero, List.set_cons_succ]
                      refine wpAnyH_ready (rs := [2]) (by kernel_rfl) (by simp) ?_
                      refine AllReadyH.cons (o := _) (by simp only [List.getElem?_toArray, List.getElem?_cons_succ, List.getElem?_cons_zero] <;> rfl) (fun K hK => ?_) AllReadyH.nil
                      go_simp
                      go_at_call 54
                      refine (dpow_calls (-1060) 0 1060 _ (by omega) (by omega) (by omega) (by omega)).mono ?_; rintro e' w16 ⟨⟨z16, rfl, hz⟩, hb⟩
                      have B16 := Lib.hid (bA.out.trans (hb.mono bA.out.size))
                      have Z16 := Lib.hid hz
                      clear hz hb
                      go_wp2_with fail
                      refine hK.out _ _ (KS.out _ B16.out) (fun hHeld => ?_)
                      clear hK K
                      refine wpAnyH_ready (rs := [3]) (by kernel_rfl) (by simp) ?_
                      refine AllReadyH.cons (o := _) (by simp only [List.getElem?_toArray, List.getElem?_cons_succ, List.getElem?_cons_zero] <;> rfl) (fun K hK => ?_) AllReadyH.nil
                      go_simp
                      go_at_call 57
                      refine (dmul_calls _ z16 _ _ (A + 40) 2278 0 1060 _ (HQ8.out.below B16.out) bdM.out Z16.out (p2_bd (k := -1060) (A := 0) (by omega)) (by omega)).mono ?_; rintro e' w17 ⟨⟨z17, rfl, hz⟩, hb⟩
                      have B17 := Lib.hid (B16.out.trans (hb.mono B16.out.size))
                      have Z17 := Lib.hid (hz.mono (show 2278 + 1060 ≤ 3405 by omega))
                      clear hz hb
                      go_wp2_with fail
                      refine hK.out _ _ (KS.out _ B17.out) (fun hHeld => ?_)
                      clear hK K
                      refine wpAnyH_ready (rs := [4]) (by kernel_rfl) (by simp) ?_
                      refine AllReadyH.cons (o := _) (by simp only [List.getElem?_toArray, List.getElem?_cons_succ, List.getElem?_cons_zero] <;> rfl) (fun K hK => ?_) AllReadyH.nil
                      go_simp
                      go_at_call 55
                      refine (dadd_calls _ z17 _ _ (A + 1024 + 60) 3405 _ (HQ6.out.below B17.out) BM.out Z17.out (bd_p2_mono bdN.out (by omega)) (by omega)).mono ?_; rintro e' w18 ⟨⟨z18, rfl, hz⟩, hb⟩
                      have B18 := Lib.hid (B17.out.trans (hb.mono B17.out.size))
                      have HZ := Lib.hid hz
                      obtain ⟨zs, zm, ze, ⟨za, zn, zc, rfl, _⟩, _⟩ := hz
                      have L6 := Lib.hid (HE6.out.below B18.out)
                      clear hb
                      go_wp2_with fail
                      refine hK.out _ _ (KS.out _ B18.out) (fun hHeld => ?_)
                      clear hK K
                      refine wpAnyH_done (by kernel_rfl) ?_ _
                      unfold LastQ
                      dsimp only
                      refine wpOp_does (o := _) (by simp only [List.getElem?_toArray, List.getElem?_cons_succ, List.getElem?_cons_zero, Nat.reduceAdd, Nat.reduceSub] <;> rfl) (by rfl) ?_
                      obtain ⟨y0, y1, y2, y3, y4, y5⟩ := L6.out
                      go_simp
                      have N2 := Lib.hid (show DBox _ g22 (V + Y * p2 (-1060)) 3405 from ⟨_, _, _, _, _, L6.out.put (.bool zs) (.slice za zn zc) (.int .i64 ze), HZ.out.put3 L6.out _ _ _⟩)
                      have N1 := Lib.hid ((DL.out.below B18.out).put_other L6.out (show g22 ≠ g21 by omega) (.bool zs) (.slice za zn zc) (.int .i64 ze))
                      have N3 := Lib.hid ((DU.out.below B18.out).put_other L6.out (show g22 ≠ w6.heap.size by omega) (.bool zs) (.slice za zn zc) (.int .i64 ze))
                      have N4 := Lib.hid (below_put3 (BJ.out.trans (B18.out.mono BJ.out.size)) (show w6.heap.size ≤ g22 by omega) (.bool zs) (.slice za zn zc) (.int .i64 ze))
                      clear y0 y1 y2 y3 y4 y5 L6 HZ hHeld KS bA HE6 HQ6 HQ8 DL DM DU BJ D24 B16 B17 B18 Z16 Z17
                      generalize ((w18.setCell ⟨g22, 0, none⟩ (.bool zs)).setCell ⟨g22, 1, none⟩ (.slice za zn zc)).setCell ⟨g22, 2, none⟩ (.int .i64 ze) = W18 at *
                      obtain ⟨s6, b6, n6, d6, e6, E6, Q6⟩ := N2.out
                      obtain ⟨s8, b8, n8, d8, e8, E8, Q8⟩ := N1.out
                      have HQ6 := Lib.hid Q6
                      have HQ8 := Lib.hid Q8
                      have bA := Lib.hid (show Below W18.heap.size W18 W18.drew from (Below.refl _ _).drew)
                      have KS := Lib.hid (fun W (hb : Below W18.heap.size W18 W) => six_keep (E8.below hb) (E6.below hb))
                      have ka := Lib.hid (KS.out _ bA.out)
                      clear E6 Q6 E8 Q8
                      have hr : cmpQ (absR T) (V + Y * p2 (-1060)) ≤ 0 := by
                        have h0 := cmpQ_le (a := absR T) (b := V + Y * p2 (-1060))
                        rw [decide_eq_true HLE.out] at h0
                        exact of_decide_eq_true h0
                      have CM := Lib.hid (fun z u W h h' => dcmp_calls z u (absR T) (V + Y * p2 (-1060)) (A + 1024 + 61) 3405 W h (bd_absR'.2 (bd_p2_mono BL.out (by omega))) h' (bd_add_p2 (A := A + 1024 + 60) BM.out (bd_p2_mono bdN.out (by omega))) (by omega))
                      generalize cmpQ (absR T) (V + Y * p2 (-1060)) = r at *
                      have hr2 : ¬ (0 : Int) < r := by omega
                      go_wp2
                      go_region_held3 (fun w' => w'.cell? ⟨g21, 0, none⟩ = some (.bool s8) ∧ w'.cell? ⟨g21, 1, none⟩ = some (.slice b8 n8 d8) ∧ w'.cell? ⟨g21, 2, none⟩ = some (.int .i64 e8) ∧ w'.cell? ⟨g22, 0, none⟩ = some (.bool s6) ∧ w'.cell? ⟨g22, 1, none⟩ = some (.slice b6 n6 d6) ∧ w'.cell? ⟨g22, 2, none⟩ = some (.int .i64 e6))
                        (first
                          | with_reducible exact ka.out
                          | with_reducible exact K7.out
                          | with_reducible exact K8.out)
                        (first
                          | (go_at_call 39; go_must (refine (dabs_calls _ T (A + 1024 + 10) 3222 _ (HQ8.out.below bA.out) BL.out (by omega)).mono ?_; rintro e' w19 ⟨⟨z19, rfl, hz⟩, hb⟩; have B19 := Lib.hid (bA.out.trans (hb.mono bA.out.size)); have Z19 := Lib.hid (hz.mono (show 3222 ≤ 3405 by omega)); have K7 := Lib.hid (KS.out _ B19.out); clear hz hb))
                          | (go_at_call 41; go_must (refine (CM.out z19 _ _ Z19.out (HQ6.out.below B19.out)).mono ?_; rintro e' w20 ⟨rfl, hb⟩; have B20 := Lib.hid (B19.out.trans (hb.mono B19.out.size)); have K8 := Lib.hid (KS.out _ B20.out); clear hb)))
                      have M3 := Lib.hid (N3.out.below B20.out)
                      have M4 := Lib.hid (N4.out.trans (B20.out.mono N4.out.size))
                      go_wp2
                      go_roundw
                      case rel => exact ⟨i + 1, by go_num, by omega, by rw [hU]; exact M3.out, M4.out⟩
                      case measure => simp [intOf]; omega
            · obtain rfl : i = c := by omega
              have hii : ¬ (i : Int) < (i : Int) := by omega
              go_wp2
              exact bodyPost_ret (v := .tuple #[.int .i64 0, .bool true]) (by simp [results, Tryz.results19, go_sem]) rfl ⟨rfl, B6.out.trans (HI.out.2.mono B6.out.size)⟩
end Go.Proofs.YtnboegeljaplbaaGreat
