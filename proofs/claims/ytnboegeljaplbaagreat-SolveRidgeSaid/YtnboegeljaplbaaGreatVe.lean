/- The reference's Back and Forward, walked. A region that draws its order, in a round of a range over a function: by what is so behind any set of its operations. One round of solve.Back's loop: an answer is laid down. solve.Back, walked, the whole. -/
import Derived.Test.YtnboegeljaplbaaGreatVd
import Derived.Deep.RegionHeld3
import Derived.Deep.CutRange
namespace Go.Proofs.YtnboegeljaplbaaGreat
open Go.RowKit Lv Go.Shelf
open Ieee (double Format Datum Toward)
attribute [local go_sem] Oper.semAt_some run_store_float drewN_alloc drewN_setCell run_addF run_subF run_mulF run_quoF

/-- what stands at the head of the reference's loops -/
structure RbInv (w : World) (xb c : Nat) (rws trn : Int) (a : Option Addr) (n cap : Nat) (W : World) (X : List (Option Nat)) : Prop where
  c1 : Cells4 W w.heap.size (.int .i64 c) (.slice a n cap) (.int .i64 rws) (.int .i64 trn)
  own : OwnV W (w.heap.size + 1) (.slice (some ⟨xb, 0, none⟩) c c) X
  len : X.length = c
  below : Below w.heap.size w W
theorem RbInv.keep {w W W' : World} {xb c n cap : Nat} {rws trn : Int} {a : Option Addr} {X : List (Option Nat)} (h : RbInv w xb c rws trn a n cap W X) (hb : Below W.heap.size W W') : RbInv w xb c rws trn a n cap W' X :=
  ⟨h.c1.below hb, h.own.below hb (Nat.le_refl _), h.len, h.below.trans (hb.mono h.below.size)⟩
theorem RbInv.put {w W : World} {xb c n cap : Nat} {rws trn : Int} {a : Option Addr} {X : List (Option Nat)} (h : RbInv w xb c rws trn a n cap W X) (hx : w.heap.size < xb) (i : Nat) {b : Nat} {v : Option Nat} (hb : FW b v) :
    RbInv w xb c rws trn a n cap (W.setCell ⟨xb, i, none⟩ (.float .f64 b)) (X.set i v) :=
  ⟨h.c1.set (by omega), h.own.set h.len i hb, by rw [List.length_set]; exact h.len, h.below.setCell (p := ⟨xb, i, none⟩) (show w.heap.size ≤ xb by omega) _⟩
theorem backT_next (xs : List (Option Nat)) (c k i : Nat) : (backT xs c (k + 1)).getD (i + 1) none = (backT xs c k).getD i none := by
  show (_ :: backT xs c k).getD (i + 1) none = _
  rw [List.getD_cons_succ]
/-- the last k answers are laid down -/
def BkSt (xs : List (Option Nat)) (c k : Nat) (X : List (Option Nat)) : Prop := ∀ i, c - k ≤ i → i < c → X.getD i none = (backT xs c k).getD (i - (c - k)) none
theorem BkSt.next {xs X : List (Option Nat)} {c k : Nat} {v : Option Nat} (h : BkSt xs c k X) (hk : k < c) (hl : X.length = c)
    (hv : v = fdiv (lessF (ent xs c (c - (k + 1)) c) (fun m => ent xs c (c - (k + 1)) (c - (k + 1) + 1 + m)) (fun m => (backT xs c k).getD m none) k) (ent xs c (c - (k + 1)) (c - (k + 1)))) : BkSt xs c (k + 1) (X.set (c - 1 - k) v) := by
  intro i hi hic
  rw [getD_set]
  by_cases e : i = c - 1 - k
  · rw [if_pos ⟨e, by omega⟩, show i - (c - (k + 1)) = 0 by omega]
    unfold backT
    rw [List.getD_cons_zero, hv]
  · rw [if_neg (by omega), h i (by omega) hic, show i - (c - (k + 1)) = (i - (c - k)) + 1 by omega, backT_next]
theorem BkSt.all {xs X : List (Option Nat)} {c : Nat} (h : BkSt xs c c X) (hl : X.length = c) : X = backT xs c c := by
  refine ext_getD none (by rw [hl, backT_len]) fun i hi => ?_
  have := h i (by omega) (by omega)
  rw [show i - (c - c) = i by omega] at this
  exact this
theorem rmk28 (W : World) (B c : Nat) (h1 : 1 ≤ c) (h6 : c ≤ 6) (hB : B ≤ W.heap.size) : OwnV (W.alloc (.cells (madeCells #[.float .f64 0] c) 42)) B (.slice (some ⟨W.heap.size, 0, none⟩) c c) (List.replicate c (some 0)) := by
  obtain ⟨k, rfl⟩ : ∃ k, c = k + 1 := ⟨c - 1, by omega⟩
  exact own_made W B k hB (by omega)

theorem forwT_at (xs : List (Option Nat)) (c : Nat) (vs : List (Option Nat)) {i : Nat} (hi : i < c) :
    (forwT xs c vs c).getD i none = fdiv (lessF (vs.getD i none) (fun k => ent xs c k i) (fun k => (forwT xs c vs c).getD k none) i) (ent xs c i i) := by
  rw [forwT_get xs c vs i (i + 1) c (by omega) (by omega)]
  have hl := forwT_len xs c vs i
  show (forwT xs c vs i ++ [_]).getD i none = _
  rw [List.getD_eq_getElem?_getD, List.getElem?_append_right (by omega), hl, Nat.sub_self]
  show fdiv _ _ = _
  congr 1
  refine lessF_congr i (fun _ _ => rfl) fun k hk => ?_
  exact (forwT_get xs c vs k i c hk (by omega)).symm
theorem forw_all {xs vs X : List (Option Nat)} {c : Nat} (h : ∀ m, m < c → X.getD m none = (forwT xs c vs c).getD m none) (hl : X.length = c) : X = forwT xs c vs c :=
  ext_getD none (by rw [hl, forwT_len]) fun i hi => h i (by omega)

end Go.Proofs.YtnboegeljaplbaaGreat
namespace Go.Proofs.YtnboegeljaplbaaGreat
open Go.RowKit Lv Go.Shelf

section
variable {n l : Nat} {P : Program} {ops : Array Oper} {Q : Exit → Act → World → Prop} {md : Region.Mode}
/-- an order that is right at the wide fence is right in a round, where nothing is deferred -/
theorem opsIn_round (hd : ∀ (i : Nat) (o : Oper), ops[i]? = some o → ∀ c, o.op ≠ .defer c) : ∀ (L : List Nat) (a : Act) (w : World), wpOpsIn Fence.wide n P ops Q L a w → wpOpsIn (Fence.wide.inRound l) n P ops Q L a w
  | [], _, _, h => h
  | i :: rest, a, w, h => by
    rw [wpOpsIn_cons] at h ⊢
    have h2 := wpOpIn_mono (fun a w => opsIn_round hd rest a w) h
    unfold wpOpIn at h2 ⊢
    cases hi : ops[i]? with
    | none => rw [hi] at h2; exact h2
    | some o =>
      rw [hi] at h2
      have e := Oper.semAt_some l a.eval o (hd i o hi)
      dsimp only at h2 ⊢
      by_cases hw : Region.wanted o (yielded ops a.tmps) = true
      · rw [if_pos hw] at h2 ⊢
        refine ⟨h2.1, ?_⟩
        have h3 := h2.2
        rw [show Fence.wide.round = none from rfl, Oper.semAt_none] at h3
        rw [Fence.inRound_round, e]
        exact h3
      · rw [if_neg hw] at h2 ⊢
        exact h2
/-- an operation without a guard is carried out -/
theorem opIn_do {F : Fence} {i : Nat} {o : Oper} {K : Act → World → Prop} {a : Act} {w : World} (ho : ops[i]? = some o) (hw : Region.wanted o (yielded ops a.tmps) = true) (h : o.wpIn F n P a w K Q) : wpOpIn F n P ops Q i K a w := by
  unfold wpOpIn
  rw [ho]
  dsimp only
  rw [if_pos hw]
  exact h
/-- THE LAW: a state for each set of operations -/
theorem anyIn_state (St : Array Bool → Act → World → Prop) (hsz : ∀ L a w, St L a w → L.size = ops.size)
    (hstep : ∀ L a w, St L a w → ∀ i, L.getD i true = false → i < ops.size → (∀ o, ops[i]? = some o → ∀ e ∈ o.after, Region.binds md e = true → L.getD e.on false = true) → wpOpIn Fence.wide n P ops Q i (St (L.setIfInBounds i true)) a w)
    (hend : ∀ L a w, St L a w → Region.ready md ops L = [] → Q .normal a w) : ∀ (fuel : Nat) (L : Array Bool) (a : Act) (w : World), St L a w → L.toList.count false ≤ fuel → wpAnyIn Fence.wide n P md ops Q fuel L a w
  | 0, L, a, w, h, hf => by
    have hr : Region.ready md ops L = [] := by
      rw [List.eq_nil_iff_forall_not_mem]
      intro i hi
      obtain ⟨h1, o, h2, _⟩ := mem_ready.1 hi
      have hlt : i < L.size := by rw [hsz L a w h]; exact (Array.getElem?_eq_some_iff.1 h2).1
      have : false ∈ L.toList := by
        rw [Array.mem_toList_iff]
        have e : L[i] = false := by simpa [Array.getD, hlt] using h1
        rw [← e]; exact Array.getElem_mem hlt
      have := List.count_pos_iff.2 this
      omega
    exact ⟨hr, hend L a w h hr⟩
  | fuel + 1, L, a, w, h, hf => by
    refine ⟨fun hr => hend L a w h hr, fun i hi => ?_⟩
    obtain ⟨h1, o, h2, h3⟩ := mem_ready.1 hi
    have hlo := (Array.getElem?_eq_some_iff.1 h2).1
    have hlt : i < L.size := by rw [hsz L a w h]; exact hlo
    refine wpOpIn_mono (fun a' w' hs => anyIn_state St hsz hstep hend fuel _ a' w' hs ?_) (hstep L a w h i h1 hlo (fun o' ho' => by rw [h2] at ho'; obtain rfl := Option.some.inj ho'; exact h3))
    have e : L[i] = false := by simpa [Array.getD, hlt] using h1
    have e2 : (L.setIfInBounds i true).toList = L.toList.set i true := Array.toList_setIfInBounds
    have e3 : L.toList[i]'(by simpa using hlt) = false := by simpa using e
    rw [e2, List.count_set (by simpa using hlt), e3]
    show L.toList.count false - 1 + 0 ≤ fuel
    omega
theorem all_listed {L : Array Bool} (hsz : L.size = ops.size) (hback : ((List.range ops.size).all fun j => ((ops[j]?).map (fun o => o.after.all fun e => decide (e.on < j))).getD false) = true) (hr : Region.ready md ops L = []) (j : Nat) (hj : j < ops.size) : L.getD j true = true := by
  induction j using Nat.strongRecOn with
  | ind j ih =>
    cases h : L.getD j true with
    | true => rfl
    | false =>
      exfalso
      have hb := List.all_eq_true.1 hback j (List.mem_range.2 hj)
      rw [Array.getElem?_eq_getElem hj] at hb
      simp only [Option.map_some, Option.getD_some, Array.all_eq_true'] at hb
      have hm : j ∈ Region.ready md ops L := by
        refine mem_ready.2 ⟨h, _, Array.getElem?_eq_getElem hj, fun e he _ => ?_⟩
        have hlt : e.on < j := of_decide_eq_true (hb e he)
        have := ih e.on hlt (by omega)
        rw [Array.getD_eq_getD_getElem?, Array.getElem?_eq_getElem (by omega)] at this ⊢
        exact this
      rw [hr] at hm
      cases hm
/-- a region that draws its order, in a round -/
theorem region_state (id : Nat) (hm : P.follows .mixedOrders = true) (hd : ∀ (i : Nat) (o : Oper), ops[i]? = some o → ∀ c, o.op ≠ .defer c) (St : Array Bool → Act → World → Prop) (hsz : ∀ L a w, St L a w → L.size = ops.size)
    (hstep : ∀ L a w, St L a w → ∀ i, L.getD i true = false → i < ops.size → (∀ o, ops[i]? = some o → ∀ e ∈ o.after, Region.binds .any e = true → L.getD e.on false = true) → wpOpIn Fence.wide n P ops Q i (St (L.setIfInBounds i true)) a w)
    (hend : ∀ L a w, St L a w → Region.ready .any ops L = [] → Q .normal a w) {a : Act} {w : World} (h0 : St (Array.replicate ops.size false) a w.drew) : (Code.region id ops true).wpIn (Fence.wide.inRound l) n P Q a w :=
  wpIn_region_draw fun t => by
    simp only [Region.schedule, hm, Bool.true_or, if_true]
    exact opsIn_round hd _ _ _ (wpAnyIn_sound ops.size t _ a _ (anyIn_state St hsz hstep hend ops.size _ a _ h0 (by simp)))
end
end Go.Proofs.YtnboegeljaplbaaGreat
namespace Go.Proofs.YtnboegeljaplbaaGreat
open Go.RowKit Lv Go.Shelf
open Ieee (double Format Datum Toward)
attribute [local go_sem] Oper.semAt_some run_store_float drewN_alloc drewN_setCell run_addF run_subF run_mulF run_quoF

/-- what the operations of the round's one statement yield -/
def rgV (c i i1 xb g cp x d : Nat) (ad : Option Addr) (z q : Nat) : Nat → Value
  | 0 | 2 | 10 => .slice (some ⟨xb, 0, none⟩) c c
  | 4 | 20 => .pointer (some ⟨xb, i, none⟩)
  | 5 => .float .f64 x
  | 6 | 15 => .slice (some ⟨g, 0, none⟩) c cp
  | 8 | 12 => .int .i64 (i1 : Int)
  | 9 => .slice (some ⟨g, i1, none⟩) (c - i1) (cp - i1)
  | 13 => .slice ad (c - i1) (c - i1)
  | 14 => .float .f64 z
  | 17 => .pointer (some ⟨g, i, none⟩)
  | 18 => .float .f64 d
  | 19 => .float .f64 q
  | _ => .int .i64 (i : Int)
theorem rgV_z {c i i1 xb g cp x d : Nat} {ad : Option Addr} {z z' q : Nat} (k : Nat) (h : k ≠ 14) : rgV c i i1 xb g cp x d ad z' q k = rgV c i i1 xb g cp x d ad z q k := by
  unfold rgV
  split <;> first | rfl | exact absurd rfl h
theorem rgV_q {c i i1 xb g cp x d : Nat} {ad : Option Addr} {z q q' : Nat} (k : Nat) (h : k ≠ 19) : rgV c i i1 xb g cp x d ad z q' k = rgV c i i1 xb g cp x d ad z q k := by
  unfold rgV
  split <;> first | rfl | exact absurd rfl h
/-- behind a set of its operations -/
structure RgAt (B : List (Nat × Value)) (V : Nat → Value) (X14 X19 : Option Nat) (W : World) (pst : Addr) (z q : Nat) (L : Array Bool) (a : Act) (w : World) : Prop where
  sz : L.size = 22
  ts : a.tmps.size = 47
  df : a.defers = []
  base : ∀ p ∈ B, p.1 < 22 ∧ a.tmps.getD p.1 undef = p.2
  vals : ∀ j, j < 21 → L.getD j true = true → a.tmps.getD (22 + j) undef = V j
  f14 : L.getD 14 true = true → FW z X14
  f19 : L.getD 19 true = true → FW q X19
  full : L.getD 21 true = true → ∀ j, j < 21 → L.getD j true = true
  bel : L.getD 21 true = false → Below W.heap.size W w
  st : L.getD 21 true = true → ∃ w1, Below W.heap.size W w1 ∧ w = w1.setCell pst (.float .f64 q)
theorem getD_setB (L : Array Bool) (i j : Nat) (hi : i < L.size) : (L.setIfInBounds i true).getD j true = if j = i then true else L.getD j true := by
  rw [Array.getD_eq_getD_getElem?, Array.getD_eq_getD_getElem?, Array.getElem?_setIfInBounds]
  by_cases e : j = i
  · subst e; rw [if_pos rfl, if_pos rfl, if_pos hi]; rfl
  · rw [if_neg (Ne.symm e), if_neg e]
theorem getD_setV (L : Array Value) (i j : Nat) (v : Value) (hi : i < L.size) : (L.setIfInBounds i v).getD j undef = if j = i then v else L.getD j undef := by
  rw [Array.getD_eq_getD_getElem?, Array.getD_eq_getD_getElem?, Array.getElem?_setIfInBounds]
  by_cases e : j = i
  · subst e; rw [if_pos rfl, if_pos rfl, if_pos hi]; rfl
  · rw [if_neg (Ne.symm e), if_neg e]
section
variable {B : List (Nat × Value)} {V V' : Nat → Value} {X14 X19 : Option Nat} {W w w' : World} {pst : Addr} {z q z' q' : Nat} {L : Array Bool} {a : Act}
theorem RgAt.open (h : RgAt B V X14 X19 W pst z q L a w) {j : Nat} (hj : j < 22) (hn : L.getD j true = false) : L.getD 21 true = false := by
  cases e : L.getD 21 true with
  | false => rfl
  | true =>
    by_cases e2 : j = 21
    · rw [e2, e] at hn; cases hn
    · have := h.full e j (by omega)
      rw [hn] at this; cases this
theorem RgAt.put (h : RgAt B V X14 X19 W pst z q L a w) {j : Nat} {v : Value} (hj : j < 21) (hn : L.getD j true = false) (hv : V' j = v) (hV : ∀ k, k ≠ j → V' k = V k) (h14 : j = 14 → FW z' X14) (h19 : j = 19 → FW q' X19) (e14 : j ≠ 14 → z' = z) (e19 : j ≠ 19 → q' = q) (hb : Below W.heap.size W w') :
    RgAt B V' X14 X19 W pst z' q' (L.setIfInBounds j true) (a.put (some (22 + j)) v) w' := by
  have h21 := h.open (by omega) hn
  have hs := h.sz
  have ht := h.ts
  have p21 : (L.setIfInBounds j true).getD 21 true = false := by rw [getD_setB _ _ _ (by omega), if_neg (by omega)]; exact h21
  refine ⟨by simpa using hs, by simpa [Act.put] using ht, h.df, fun p hp => ?_, fun k hk hl => ?_, fun hl => ?_, fun hl => ?_, fun hl => ?_, fun _ => hb, fun hl => ?_⟩
  · have hb := h.base p hp
    refine ⟨hb.1, ?_⟩
    show (a.tmps.setIfInBounds (22 + j) v).getD p.1 undef = _
    rw [getD_setV _ _ _ _ (by omega), if_neg (by omega)]
    exact hb.2
  · show (a.tmps.setIfInBounds (22 + j) v).getD (22 + k) undef = _
    rw [getD_setV _ _ _ _ (by omega)]
    by_cases e : k = j
    · rw [if_pos (by omega), e, hv]
    · rw [if_neg (by omega), hV k e]
      rw [getD_setB _ _ _ (by omega), if_neg e] at hl
      exact h.vals k hk hl
  · by_cases e : j = 14
    · exact h14 e
    · rw [e14 e]
      rw [getD_setB _ _ _ (by omega), if_neg (Ne.symm e)] at hl
      exact h.f14 hl
  · by_cases e : j = 19
    · exact h19 e
    · rw [e19 e]
      rw [getD_setB _ _ _ (by omega), if_neg (Ne.symm e)] at hl
      exact h.f19 hl
  · rw [p21] at hl; cases hl
  · rw [p21] at hl; cases hl
theorem getD_q (T : Array Value) (k : Nat) (v : Value) (h : T.getD k undef = v) : T[k]?.getD undef = v := by rw [← Array.getD_eq_getD_getElem?]; exact h
theorem RgAt.valq (h : RgAt B V X14 X19 W pst z q L a w) {j k : Nat} (hj : j < 21) (hl : L.getD j false = true) (hk : k = 22 + j) : a.tmps[k]?.getD undef = V j := by
  subst hk
  refine getD_q _ _ _ (h.vals j hj ?_)
  have hs := h.sz
  simp only [Array.getD] at hl ⊢
  rw [dif_pos (by omega)] at hl ⊢
  exact hl
theorem RgAt.tt (h : RgAt B V X14 X19 W pst z q L a w) {j : Nat} (hj : j < 22) (hl : L.getD j false = true) : L.getD j true = true := by
  have hs := h.sz
  rw [Array.getD_eq_getD_getElem?, Array.getElem?_eq_getElem (by omega)] at hl ⊢
  exact hl
theorem RgAt.done (h : RgAt B V X14 X19 W pst z q L a w) (hn : L.getD 21 true = false) (hall : ∀ j, j < 21 → L.getD j true = true) : RgAt B V X14 X19 W pst z q (L.setIfInBounds 21 true) a (w.setCell pst (.float .f64 q)) := by
  have hs := h.sz
  have p21 : (L.setIfInBounds 21 true).getD 21 true = true := by rw [getD_setB _ _ _ (by omega), if_pos rfl]
  refine ⟨by simpa using hs, h.ts, h.df, h.base, fun k hk hl => h.vals k hk (hall k hk), fun _ => h.f14 (hall 14 (by decide)), fun _ => h.f19 (hall 19 (by decide)), fun _ k hk => ?_, fun hl => ?_, fun _ => ⟨w, h.bel hn, rfl⟩⟩
  · rw [getD_setB _ _ _ (by omega), if_neg (by omega)]; exact hall k hk
  · rw [p21] at hl; cases hl
theorem RgAt.val (h : RgAt B V X14 X19 W pst z q L a w) {j : Nat} (hj : j < 21) (hl : L.getD j false = true) : a.tmps.getD (22 + j) undef = V j := by
  refine h.vals j hj ?_
  have hs := h.sz
  simp only [Array.getD] at hl ⊢
  rw [dif_pos (by omega)] at hl ⊢
  exact hl
end

end Go.Proofs.YtnboegeljaplbaaGreat
namespace Go.Proofs.YtnboegeljaplbaaGreat
open Go.RowKit Lv Go.Shelf
open Ieee (double Format Datum Toward)
attribute [local go_sem] Oper.semAt_some run_store_float drewN_alloc drewN_setCell run_addF run_subF run_mulF run_quoF

/-- what the loop's body keeps -/
structure BkInv (B b5 qb xb c : Nat) (xs : List (Option Nat)) (G CP : Nat → Nat) (W : World) (X : List (Option Nat)) : Prop where
  q5 : W.cell? ⟨b5, 0, none⟩ = some (.slice (some ⟨xb, 0, none⟩) c c)
  rows : ∀ i, i < c → W.cell? ⟨qb, i, none⟩ = some (.slice (some ⟨G i, 0, none⟩) c (CP i))
  ents : ∀ i, i < c → ∀ k, k ≤ c → ∃ b, W.cell? ⟨G i, k, none⟩ = some (.float .f64 b) ∧ FW b (ent xs c i k)
  own : OwnV W B (.slice (some ⟨xb, 0, none⟩) c c) X
  len : X.length = c
section
variable {B b5 qb xb c : Nat} {xs : List (Option Nat)} {G CP : Nat → Nat} {W W' : World} {X : List (Option Nat)}
theorem BkInv.kept {row : Option Nat} (h : BkInv B b5 qb xb c xs G CP W X) (hg : W.grownBy W' row) (hr : ∀ r, row = some r → ∃ o : Obj, W.heap[r]? = some o ∧ o.isCells = false) : BkInv B b5 qb xb c xs G CP W' X :=
  ⟨cell_kept h.q5 hg hr, fun i hi => cell_kept (h.rows i hi) hg hr, fun i hi k hk => by obtain ⟨b, b1, b2⟩ := h.ents i hi k hk; exact ⟨b, cell_kept b1 hg hr, b2⟩, h.own.keptCells hg hr, h.len⟩
theorem BkInv.below (h : BkInv B b5 qb xb c xs G CP W X) (hb : Below W.heap.size W W') : BkInv B b5 qb xb c xs G CP W' X :=
  ⟨(hb.cell (p := ⟨b5, 0, none⟩) (cell_lt h.q5)).trans h.q5, fun i hi => (hb.cell (p := ⟨qb, i, none⟩) (cell_lt (h.rows i hi))).trans (h.rows i hi), fun i hi k hk => by obtain ⟨b, b1, b2⟩ := h.ents i hi k hk; exact ⟨b, (hb.cell (p := ⟨G i, k, none⟩) (cell_lt b1)).trans b1, b2⟩, h.own.below hb (Nat.le_refl _), h.len⟩
theorem BkInv.put (h : BkInv B b5 qb xb c xs G CP W X) (n5 : b5 ≠ xb) (nq : qb ≠ xb) (nG : ∀ i, i < c → G i ≠ xb) (i : Nat) {b : Nat} {v : Option Nat} (hb : FW b v) : BkInv B b5 qb xb c xs G CP (W.setCell ⟨xb, i, none⟩ (.float .f64 b)) (X.set i v) :=
  ⟨cell_set_ne h.q5 n5.symm, fun j hj => cell_set_ne (h.rows j hj) nq.symm, fun j hj k hk => by obtain ⟨b, b1, b2⟩ := h.ents j hj k hk; exact ⟨b, cell_set_ne b1 (nG j hj).symm, b2⟩, h.own.set h.len i hb, by rw [List.length_set]; exact h.len⟩
end
/-- the last k answers stand behind the last column's entries -/
def LsSt (xs : List (Option Nat)) (c k : Nat) (X : List (Option Nat)) : Prop := ∀ i, i < c → X.getD i none = if i < c - k then ent xs c i c else (backT xs c k).getD (i - (c - k)) none
theorem LsSt.next {xs X : List (Option Nat)} {c k : Nat} {v : Option Nat} (h : LsSt xs c k X) (hk : k < c) (hl : X.length = c)
    (hv : v = fdiv (lessF (X.getD (c - 1 - k) none) (fun m => ent xs c (c - 1 - k) (c - 1 - k + 1 + m)) (fun m => X.getD (c - 1 - k + 1 + m) none) (c - (c - 1 - k + 1))) (ent xs c (c - 1 - k) (c - 1 - k))) : LsSt xs c (k + 1) (X.set (c - 1 - k) v) := by
  have e0 : c - 1 - k = c - (k + 1) := by omega
  intro i hic
  rw [getD_set]
  by_cases e : i = c - 1 - k
  · rw [if_pos ⟨e, by omega⟩, if_neg (by omega), show i - (c - (k + 1)) = 0 by omega]
    unfold backT
    rw [List.getD_cons_zero, hv, h _ (by omega), if_pos (by omega), e0, show c - (c - (k + 1) + 1) = k by omega]
    congr 1
    refine lessF_congr k (fun _ _ => rfl) fun m hm => ?_
    rw [h _ (by omega), if_neg (by omega)]
    congr 1
    omega
  · rw [if_neg (by omega), h i hic]
    by_cases e2 : i < c - k
    · rw [if_pos e2, if_pos (by omega)]
    · rw [if_neg e2, if_neg (by omega), show i - (c - (k + 1)) = (i - (c - k)) + 1 by omega, backT_next]
theorem LsSt.all {xs X : List (Option Nat)} {c : Nat} (h : LsSt xs c c X) (hl : X.length = c) : X = backT xs c c := by
  refine ext_getD none (by rw [hl, backT_len]) fun i hi => ?_
  have := h i (by omega)
  rw [if_neg (by omega), show i - (c - c) = i by omega] at this
  exact this
theorem downs_step {c : Nat} {pre : List (RowIx c)} {x : RowIx c} (hl : pre.length < c) (h : pre ++ [x] = downs c (pre ++ [x]).length) : pre = downs c pre.length ∧ x.1 = c - 1 - pre.length := by
  rw [List.length_append, List.length_singleton, downs_succ c _ hl] at h
  have h2 := List.append_inj' h rfl
  exact ⟨h2.1, by have := congrArg (fun l => l.map (·.1)) h2.2; simpa using this⟩
theorem sq_rows {W : World} {B qb c : Nat} {xs : List (Option Nat)} (h : SqAt W B qb c xs c) : ∃ G CP : Nat → Nat, ∀ i, i < c → W.cell? ⟨qb, i, none⟩ = some (.slice (some ⟨G i, 0, none⟩) c (CP i)) ∧ c + 1 ≤ CP i ∧ CP i ≤ maxLen ∧ B ≤ G i ∧ G i < W.heap.size ∧
    ∀ k, k ≤ c → ∃ b, W.cell? ⟨G i, k, none⟩ = some (.float .f64 b) ∧ FW b (ent xs c i k) := by
  have key : ∀ i, ∃ g cap : Nat, i < c → W.cell? ⟨qb, i, none⟩ = some (.slice (some ⟨g, 0, none⟩) c cap) ∧ c + 1 ≤ cap ∧ cap ≤ maxLen ∧ B ≤ g ∧ g < W.heap.size ∧ ∀ k, k ≤ c → ∃ b, W.cell? ⟨g, k, none⟩ = some (.float .f64 b) ∧ FW b (ent xs c i k) := by
    intro i
    by_cases hi : i < c
    · obtain ⟨_, _, r⟩ := h i hi
      obtain ⟨g, cap, r⟩ := r hi
      exact ⟨g, cap, fun _ => r⟩
    · exact ⟨0, 0, fun h => absurd h hi⟩
  exact ⟨fun i => Classical.choose (key i), fun i => Classical.choose (Classical.choose_spec (key i)), fun i hi => Classical.choose_spec (Classical.choose_spec (key i)) hi⟩
theorem keeps_of_below {W W' : World} (h : Below W.heap.size W W') : KeepsOthers W W' := ⟨h.size, fun k _ hk _ => (h.block k (Array.getElem?_eq_some_iff.1 hk).1).trans hk⟩
theorem kpB_below {Bf qb : Nat} {W W' : World} (h : Below W.heap.size W W') : KpB Bf qb W W' := fun _ _ _ hv => (h.cell (cell_lt hv)).trans hv
theorem kpB_set {Bf qb b o : Nat} {v : Value} {W : World} (h1 : b ≠ Bf) (h2 : b ≠ qb) : KpB Bf qb W (W.setCell ⟨b, o, none⟩ v) := fun p u hp hv => by
  obtain ⟨pb, po, ps⟩ := p
  have hs : ps = none := World.cell?_spot hv
  subst hs
  refine cell_set_ne hv ?_
  rcases hp with e | e
  · dsimp only at e; omega
  · dsimp only at e; omega
theorem row_keptObj {W : World} {D : Nat} {o o' : Obj} {a : Option Addr} {n cap : Nat} {xs : List (Option Nat)} (h : Row W (.slice a n cap) xs) (hD : W.heap[D]? = some o) (ho : o.isCells = false) : Row (W.putObj D o') (.slice a n cap) xs := by
  obtain ⟨a', cap', hv, h1, h2, h3⟩ := h
  refine ⟨a', cap', hv, h1, h2, ?_⟩
  rcases h3 with h3 | ⟨blk, off, ha, hc⟩
  · exact .inl h3
  · refine .inr ⟨blk, off, ha, fun i hi => ?_⟩
    obtain ⟨b, b1, b2⟩ := hc i hi
    exact ⟨b, cell_kept b1 (grownBy_putObj' _ D o') (fun r e => by cases e; exact ⟨_, hD, ho⟩), b2⟩

set_option maxRecDepth 100000 in
set_option maxHeartbeats 8000000 in
theorem back_yes (c : Nat) (rws trn : Int) (a : Option Addr) (n cap : Nat) (xs : List (Option Nat)) (w : World) (h : Row w (.slice a n cap) xs) (hok : checkP (c : Int) xs rws trn = true) (hs : singD xs c = false) :
    Calls Tryz.prog 16 #[.agg #[.int .i64 (c : Int), .slice a n cap, .int .i64 rws, .int .i64 trn]] w fun e w' => LstE (answD (backT xs c c)) e w' ∧ Below w.heap.size w w' := by
  have hB := (Below.refl w.heap.size w).alloc (Nat.le_refl _) (.cells #[.int .i64 (c : Int), .slice a n cap, .int .i64 rws, .int .i64 trn] 28)
  have HB := Lib.hid hB
  have L := check_calls (c : Int) rws trn a n cap xs _ (h.below hB)
  rw [hok] at L
  have LH := Lib.hid L
  have HC := Lib.hid (Cells4.new w (.int .i64 (c : Int)) (.slice a n cap) (.int .i64 rws) (.int .i64 trn) 28)
  have HR := Lib.hid h
  obtain ⟨hc1, hc6⟩ := checkP_cols hok
  have h1 : 1 ≤ c := by omega
  have h6 : c ≤ 6 := by omega
  have SQ := Lib.hid (fun W hW => square_calls c rws trn a n cap xs W hW hok)
  have SG := Lib.hid (fun W B qb hW => by have := singular_calls B qb c xs W h6 hW; rw [hs] at this; exact this)
  clear h hok hB L hs
  refine (callsIn_wide (n := 6)).1 ?_
  refine callsIn_of_wp_marks Tryz.func16 rfl trivial ?_ rfl
  simp only [Tryz.ntmps16, List.size_toArray, List.length_cons, List.length_nil, Nat.reduceAdd, Nat.reduceSub, Array.replicate_succ, Array.replicate_zero, List.push_toArray, List.append_toArray, List.nil_append, List.cons_append]
  gi_wp2_with (first
    | (refine ⟨trivial, ?_⟩; gi_at_call 28; go_must (refine (callsIn_wide.2 LH.out).mono ?_; rintro e w1 ⟨rfl, hb⟩; have B1 := Lib.hid (HB.out.trans (hb.mono (by simp))); have C1 := Lib.hid (HC.out.below hb); obtain ⟨c0, c1, c2, c3, _, _, _, _⟩ := C1.out; clear hb))
    | (refine ⟨trivial, ?_⟩; gi_at_call 47; go_must (refine (callsIn_wide.2 (SQ.out _ (HR.out.below B1.out))).mono ?_; rintro e w2 ⟨⟨qb, xb, L, rfl, hsq, hqx, hq0, hx0, hx1, hq1, hown, hll, hlast, hsz⟩, hb2⟩; have S2 := Lib.hid hsq; have O2 := Lib.hid hown; have LA := Lib.hid (And.intro hll hlast); have B2 := Lib.hid (B1.out.trans (hb2.mono B1.out.size)); clear c0 c1 c2 c3 hsq hown hlast))
    | (refine ⟨trivial, ?_⟩; gi_at_call 48; go_must (refine (callsIn_wide.2 (SG.out _ _ qb (S2.out.below ((Below.refl _ _).alloc (Nat.le_refl _) (.cells #[.slice (some ⟨xb, 0, none⟩) c c] 26))))).mono ?_; rintro e w3 ⟨rfl, rfl⟩))
    | (refine ⟨trivial, ?_⟩; gi_at_call 49; go_must (refine (callsIn_wide.2 (backwd_calls _ _ _ _)).mono ?_; rintro e w4 ⟨rfl, rfl⟩)))
  obtain ⟨G0, CP, hG⟩ := sq_rows S2.out
  have hs1 := B1.out.size
  have hs2 := hb2.size
  have hsw : w.heap.size + 1 ≤ w1.heap.size := by have := C1.out.lt; omega
  obtain ⟨W0, hW0⟩ : ∃ x, x = (w2.alloc (.cells #[.slice (some ⟨xb, 0, none⟩) c c] 26)).alloc (.cells #[.slice (some ⟨qb, 0, none⟩) c c] 87) := ⟨_, rfl⟩
  have z0 : W0.heap.size = w2.heap.size + 2 := by rw [hW0]; simp
  have q5 : W0.cell? ⟨w2.heap.size, 0, none⟩ = some (.slice (some ⟨xb, 0, none⟩) c c) := by rw [hW0]; simp [go_sem]
  have qB : W0.cell? ⟨w2.heap.size + 1, 0, none⟩ = some (.slice (some ⟨qb, 0, none⟩) c c) := by rw [hW0]; simp [go_sem]
  have hb0 : Below w2.heap.size w2 W0 := by rw [hW0]; exact ((Below.refl _ _).alloc (Nat.le_refl _) _).alloc (by simp) _
  rw [← hW0]
  clear hW0
  have hqr : ∀ i, i < c → W0.cell? ⟨qb, i, none⟩ = some (.slice (some ⟨G0 i, 0, none⟩) c (CP i)) := fun i hi => (hb0.cell (p := ⟨qb, i, none⟩) (cell_lt (hG i hi).1)).trans (hG i hi).1
  have I0 : BkInv w1.heap.size w2.heap.size qb xb c xs G0 CP W0 L :=
    ⟨q5, hqr, fun i hi k hk => by obtain ⟨b, b1, b2⟩ := (hG i hi).2.2.2.2.2 k hk; exact ⟨b, (hb0.cell (p := ⟨G0 i, k, none⟩) (cell_lt b1)).trans b1, b2⟩, O2.out.below hb0 (Nat.le_refl _), LA.out.1⟩
  have L0 : LsSt xs c 0 L := fun i hi => by rw [if_pos (by omega)]; exact LA.out.2 i hi
  have BB0 := B2.out.trans (hb0.mono (by omega))
  have n5 : w2.heap.size ≠ xb := by omega
  have nB : xb ≠ w2.heap.size + 1 := by omega
  have nG : ∀ i, i < c → G0 i ≠ xb := fun i hi => by have := (hG i hi).2.2.2.1; omega
  refine wpIn_range2 (e1 := fun x : RowIx c => .int .i64 (x.1 : Int)) (e2 := fun x : RowIx c => .slice (some ⟨G0 x.1, 0, none⟩) c (CP x.1)) 6 7 (by decide) rfl (enters_of Tryz.func94 (by kernel_rfl) rfl)
    (backwd_stops 5 (w2.heap.size + 1) qb c G0 CP h1 h6 (by decide) W0 (by omega) (by omega) qB hqr)
    (fun h k p v hp hv => k p v hp (h p v hp hv)) (fun W l o o' _ hl ho _ p v _ hv => cell_kept hv (grownBy_putObj' W l o') (fun r e => by cases e; exact ⟨o, hl, ho⟩))
    (fun pre W => (∃ X, BkInv w1.heap.size w2.heap.size qb xb c xs G0 CP W X ∧ (pre = downs c pre.length → LsSt xs c pre.length X)) ∧ Below w.heap.size w W)
    (fun _ _ _ => False)
    (OwnFrom.and (Own.from (fun s A B row hs hg hr => by obtain ⟨X, h1, h2⟩ := hs; exact ⟨X, h1.kept hg hr, h2⟩) _) (ownFrom_below (Nat.le_refl _) (by omega)))
    (fun _ _ _ _ _ h _ _ => h) ⟨⟨L, I0, fun _ => L0⟩, BB0⟩ ?assign ?body ?done (fun _ _ _ _ _ _ h _ => h.elim)
  case assign =>
    intro l x W K hK
    gi_wp2
    exact hK
  case body =>
    rintro l pre ⟨i, hi⟩ W ⟨⟨X, HI, HS⟩, hbel⟩ hlt
    have IN := Lib.hid HI
    have ST := Lib.hid HS
    have BEL := Lib.hid hbel
    obtain ⟨x, hx1, hx2⟩ := HI.own.cell HI.len hi
    have fx := HI.own.frozen HI.len i
    obtain ⟨d, hd1, hd2⟩ := HI.ents i hi i (by omega)
    have q5W := HI.q5
    have FX := Lib.hid hx2
    have FD := Lib.hid hd2
    have hii : (i : Int) < (c : Int) := by omega
    have hcp := (hG i hi).2.1
    obtain ⟨i1, hi1⟩ : ∃ i1, i1 = i + 1 := ⟨_, rfl⟩
    have hsum : (i : Int) + 1 = (i1 : Int) := by omega
    have hwr : IntKind.i64.wrap (i1 : Int) = (i1 : Int) := IntWalk.i64_in _ (by omega)
    have hi0 : (0 : Int) ≤ (i1 : Int) := by omega
    have hi2 : (i1 : Int) ≤ (c : Int) := by omega
    have hcpn : ¬ CP i = i1 := by omega
    have HPRE := Lib.hid hlt
    have HI1 := Lib.hid hi1
    have RA : Hid (Row W (.slice (some ⟨G0 i, i1, none⟩) (c - i1) (CP i - i1)) ((List.range (c - i1)).map fun m => ent xs c i (i1 + m))) := by
      refine ⟨_, _, by rw [List.length_map, List.length_range], by rw [List.length_map, List.length_range]; omega, by have := (hG i hi).2.2.1; omega, .inr ⟨G0 i, i1, rfl, fun m hm => ?_⟩⟩
      rw [List.length_map, List.length_range] at hm
      obtain ⟨b, b1, b2⟩ := HI.ents i hi (i1 + m) (by omega)
      refine ⟨b, b1, ?_⟩
      rw [List.getD_eq_getElem?_getD]
      simp [hm]
      exact b2
    have RB : ∀ ad, (c = i1 ∨ ad = some ⟨xb, i1, none⟩) → Row W (.slice ad (c - i1) (c - i1)) (X.drop i1) := by
      intro ad had
      have hl := HI.len
      refine ⟨ad, c - i1, by rw [List.length_drop, hl], by rw [List.length_drop, hl]; exact Nat.le_refl _, by unfold maxLen; omega, ?_⟩
      rcases had with e | rfl
      · exact .inl ⟨by rw [List.length_drop]; omega, fun _ => by omega⟩
      · refine .inr ⟨xb, i1, rfl, fun m hm => ?_⟩
        rw [List.length_drop] at hm
        obtain ⟨b, b1, b2⟩ := HI.own.cell HI.len (j := i1 + m) (by omega)
        refine ⟨b, b1, ?_⟩
        rw [List.getD_eq_getElem?_getD, List.getElem?_drop]
        rw [List.getD_eq_getElem?_getD] at b2
        exact b2
    have HRB := Lib.hid RB
    clear HI HS hbel hlt hx2 hd2 q5 qB hqr I0 L0 BB0 hG hi1 hcp RB
    dsimp only
    obtain ⟨ad, had⟩ : ∃ ad : Option Addr, ad = if c = i1 then some ⟨xb, 0, none⟩ else some ⟨xb, i1, none⟩ := ⟨_, rfl⟩
    have RBX := Lib.hid (HRB.out ad (by rw [had]; by_cases e : c = i1; exact .inl e; rw [if_neg e]; exact .inr rfl))
    have HAD := Lib.hid had
    obtain ⟨g, hg⟩ : ∃ g, g = G0 i := ⟨_, rfl⟩
    obtain ⟨cp, hcpe⟩ : ∃ cp, cp = CP i := ⟨_, rfl⟩
    rw [← hcpe] at hcpn
    rw [← hg] at hd1
    rw [← hg, ← hcpe] at RA
    obtain ⟨b5, hb5⟩ : ∃ b5, b5 = w2.heap.size := ⟨_, rfl⟩
    have N5 := Lib.hid n5
    rw [← hb5] at q5W n5
    rw [← hg, ← hcpe]
    clear hg hcpe had
    gi_wp2
    rw [← hb5]
    clear hb5
    refine region_state 9 (by kernel_rfl) (fun j o ho cc e => ?_) (fun L a w => ∃ z q, RgAt [(5, .pointer (some ⟨b5, 0, none⟩)), (6, .int .i64 (i : Int)), (7, .slice (some ⟨g, 0, none⟩) c cp)] (rgV c i i1 xb g cp x d ad z q) (lessF (X.getD i none) (fun k => ((List.range (c - i1)).map fun m => ent xs c i (i1 + m)).getD k none) (fun k => (X.drop i1).getD k none) (c - i1)) (fdiv (lessF (X.getD i none) (fun k => ((List.range (c - i1)).map fun m => ent xs c i (i1 + m)).getD k none) (fun k => (X.drop i1).getD k none) (c - i1)) (ent xs c i i)) W ⟨xb, i, none⟩ z q L a w) (fun L a w h => by obtain ⟨z, q, h⟩ := h; exact h.sz) ?_ ?_ ?_
    · have hlt : j < 22 := (Array.getElem?_eq_some_iff.1 ho).1
      rcases (by omega : j = 0 ∨ j = 1 ∨ j = 2 ∨ j = 3 ∨ j = 4 ∨ j = 5 ∨ j = 6 ∨ j = 7 ∨ j = 8 ∨ j = 9 ∨ j = 10 ∨ j = 11 ∨ j = 12 ∨ j = 13 ∨ j = 14 ∨ j = 15 ∨ j = 16 ∨ j = 17 ∨ j = 18 ∨ j = 19 ∨ j = 20 ∨ j = 21) with rfl | rfl | rfl | rfl | rfl | rfl | rfl | rfl | rfl | rfl | rfl | rfl | rfl | rfl | rfl | rfl | rfl | rfl | rfl | rfl | rfl | rfl <;> (obtain rfl := Option.some.inj ho; cases e)
    · rintro L a w ⟨z, q, h⟩ j hj hlt hdep
      have k5 := getD_q _ _ _ (h.base (5, .pointer (some ⟨b5, 0, none⟩)) (by simp)).2
      have k6 := getD_q _ _ _ (h.base (6, .int .i64 (i : Int)) (by simp)).2
      have k7 := getD_q _ _ _ (h.base (7, .slice (some ⟨g, 0, none⟩) c cp) (by simp)).2
      have hop := h.open hlt hj
      have hbl := h.bel hop
      have q5w := (hbl.cell (p := ⟨b5, 0, none⟩) (cell_lt q5W)).trans q5W
      have hxw := (hbl.cell (p := ⟨xb, i, none⟩) (cell_lt hx1)).trans hx1
      have hdw := (hbl.cell (p := ⟨g, i, none⟩) (cell_lt hd1)).trans hd1
      have hfw := (hbl.frozen (p := ⟨xb, i, none⟩) (cell_lt hx1)).trans fx
      have HH := Lib.hid h
      have HJ := Lib.hid hj
      have HBL := Lib.hid hbl
      dsimp only at k5 k6 k7
      have hlt : j < 22 := hlt
      clear h hbl hop q5W hx1 hd1 fx hj
      obtain ⟨K, hK⟩ : ∃ K : Act → World → Prop, K = (fun a w => ∃ z q, RgAt [(5, .pointer (some ⟨b5, 0, none⟩)), (6, .int .i64 (i : Int)), (7, .slice (some ⟨g, 0, none⟩) c cp)] (rgV c i i1 xb g cp x d ad z q) (lessF (X.getD i none) (fun k => ((List.range (c - i1)).map fun m => ent xs c i (i1 + m)).getD k none) (fun k => (X.drop i1).getD k none) (c - i1)) (fdiv (lessF (X.getD i none) (fun k => ((List.range (c - i1)).map fun m => ent xs c i (i1 + m)).getD k none) (fun k => (X.drop i1).getD k none) (c - i1)) (ent xs c i i)) W ⟨xb, i, none⟩ z q (L.setIfInBounds j true) a w) := ⟨_, rfl⟩
      rw [← hK]
      have HK := Lib.hid hK
      clear hK
      rcases (by omega : j = 0 ∨ j = 1 ∨ j = 2 ∨ j = 3 ∨ j = 4 ∨ j = 5 ∨ j = 6 ∨ j = 7 ∨ j = 8 ∨ j = 9 ∨ j = 10 ∨ j = 11 ∨ j = 12 ∨ j = 13 ∨ j = 14 ∨ j = 15 ∨ j = 16 ∨ j = 17 ∨ j = 18 ∨ j = 19 ∨ j = 20 ∨ j = 21) with rfl | rfl | rfl | rfl | rfl | rfl | rfl | rfl | rfl | rfl | rfl | rfl | rfl | rfl | rfl | rfl | rfl | rfl | rfl | rfl | rfl | rfl
      · refine opIn_do rfl rfl ?_
        go_simp
        rw [HK.out]
        exact ⟨z, q, HH.out.put (j := 0) (by decide) HJ.out rfl (fun _ _ => rfl) (fun e => absurd e (by decide)) (fun e => absurd e (by decide)) (fun _ => rfl) (fun _ => rfl) HBL.out⟩
      · refine opIn_do rfl rfl ?_
        go_simp
        rw [HK.out]
        exact ⟨z, q, HH.out.put (j := 1) (by decide) HJ.out rfl (fun _ _ => rfl) (fun e => absurd e (by decide)) (fun e => absurd e (by decide)) (fun _ => rfl) (fun _ => rfl) HBL.out⟩
      · refine opIn_do rfl rfl ?_
        go_simp
        rw [HK.out]
        exact ⟨z, q, HH.out.put (j := 2) (by decide) HJ.out rfl (fun _ _ => rfl) (fun e => absurd e (by decide)) (fun e => absurd e (by decide)) (fun _ => rfl) (fun _ => rfl) HBL.out⟩
      · refine opIn_do rfl rfl ?_
        go_simp
        rw [HK.out]
        exact ⟨z, q, HH.out.put (j := 3) (by decide) HJ.out rfl (fun _ _ => rfl) (fun e => absurd e (by decide)) (fun e => absurd e (by decide)) (fun _ => rfl) (fun _ => rfl) HBL.out⟩
      · refine opIn_do rfl rfl ?_
        have e24 : a.tmps[24]?.getD undef = .slice (some ⟨xb, 0, none⟩) c c := HH.out.valq (j := 2) (by decide) (hdep _ rfl ⟨2, .data⟩ (by simp) rfl) rfl
        have e25 : a.tmps[25]?.getD undef = .int .i64 (i : Int) := HH.out.valq (j := 3) (by decide) (hdep _ rfl ⟨3, .data⟩ (by simp) rfl) rfl
        go_simp
        rw [HK.out]
        exact ⟨z, q, HH.out.put (j := 4) (by decide) HJ.out rfl (fun _ _ => rfl) (fun e => absurd e (by decide)) (fun e => absurd e (by decide)) (fun _ => rfl) (fun _ => rfl) HBL.out⟩
      · refine opIn_do rfl rfl ?_
        have e26 : a.tmps[26]?.getD undef = .pointer (some ⟨xb, i, none⟩) := HH.out.valq (j := 4) (by decide) (hdep _ rfl ⟨4, .data⟩ (by simp) rfl) rfl
        go_simp
        rw [HK.out]
        exact ⟨z, q, HH.out.put (j := 5) (by decide) HJ.out rfl (fun _ _ => rfl) (fun e => absurd e (by decide)) (fun e => absurd e (by decide)) (fun _ => rfl) (fun _ => rfl) HBL.out⟩
      · refine opIn_do rfl rfl ?_
        go_simp
        rw [HK.out]
        exact ⟨z, q, HH.out.put (j := 6) (by decide) HJ.out rfl (fun _ _ => rfl) (fun e => absurd e (by decide)) (fun e => absurd e (by decide)) (fun _ => rfl) (fun _ => rfl) HBL.out⟩
      · refine opIn_do rfl rfl ?_
        go_simp
        rw [HK.out]
        exact ⟨z, q, HH.out.put (j := 7) (by decide) HJ.out rfl (fun _ _ => rfl) (fun e => absurd e (by decide)) (fun e => absurd e (by decide)) (fun _ => rfl) (fun _ => rfl) HBL.out⟩
      · refine opIn_do rfl rfl ?_
        have e29 : a.tmps[29]?.getD undef = .int .i64 (i : Int) := HH.out.valq (j := 7) (by decide) (hdep _ rfl ⟨7, .data⟩ (by simp) rfl) rfl
        go_simp
        rw [HK.out]
        exact ⟨z, q, HH.out.put (j := 8) (by decide) HJ.out rfl (fun _ _ => rfl) (fun e => absurd e (by decide)) (fun e => absurd e (by decide)) (fun _ => rfl) (fun _ => rfl) HBL.out⟩
      · refine opIn_do rfl rfl ?_
        have e28 : a.tmps[28]?.getD undef = .slice (some ⟨g, 0, none⟩) c cp := HH.out.valq (j := 6) (by decide) (hdep _ rfl ⟨6, .data⟩ (by simp) rfl) rfl
        have e30 : a.tmps[30]?.getD undef = .int .i64 (i1 : Int) := HH.out.valq (j := 8) (by decide) (hdep _ rfl ⟨8, .data⟩ (by simp) rfl) rfl
        go_simp
        rw [HK.out]
        exact ⟨z, q, HH.out.put (j := 9) (by decide) HJ.out rfl (fun _ _ => rfl) (fun e => absurd e (by decide)) (fun e => absurd e (by decide)) (fun _ => rfl) (fun _ => rfl) HBL.out⟩
      · refine opIn_do rfl rfl ?_
        go_simp
        rw [HK.out]
        exact ⟨z, q, HH.out.put (j := 10) (by decide) HJ.out rfl (fun _ _ => rfl) (fun e => absurd e (by decide)) (fun e => absurd e (by decide)) (fun _ => rfl) (fun _ => rfl) HBL.out⟩
      · refine opIn_do rfl rfl ?_
        go_simp
        rw [HK.out]
        exact ⟨z, q, HH.out.put (j := 11) (by decide) HJ.out rfl (fun _ _ => rfl) (fun e => absurd e (by decide)) (fun e => absurd e (by decide)) (fun _ => rfl) (fun _ => rfl) HBL.out⟩
      · refine opIn_do rfl rfl ?_
        have e33 : a.tmps[33]?.getD undef = .int .i64 (i : Int) := HH.out.valq (j := 11) (by decide) (hdep _ rfl ⟨11, .data⟩ (by simp) rfl) rfl
        go_simp
        rw [HK.out]
        exact ⟨z, q, HH.out.put (j := 12) (by decide) HJ.out rfl (fun _ _ => rfl) (fun e => absurd e (by decide)) (fun e => absurd e (by decide)) (fun _ => rfl) (fun _ => rfl) HBL.out⟩
      · refine opIn_do rfl rfl ?_
        have e32 : a.tmps[32]?.getD undef = .slice (some ⟨xb, 0, none⟩) c c := HH.out.valq (j := 10) (by decide) (hdep _ rfl ⟨10, .data⟩ (by simp) rfl) rfl
        have e34 : a.tmps[34]?.getD undef = .int .i64 (i1 : Int) := HH.out.valq (j := 12) (by decide) (hdep _ rfl ⟨12, .data⟩ (by simp) rfl) rfl
        go_simp
        rw [HK.out]
        exact ⟨z, q, HH.out.put (j := 13) (by decide) HJ.out (by rw [HAD.out]; rfl) (fun _ _ => rfl) (fun e => absurd e (by decide)) (fun e => absurd e (by decide)) (fun _ => rfl) (fun _ => rfl) HBL.out⟩
      · refine opIn_do rfl rfl ?_
        have e27 : a.tmps[27]?.getD undef = .float .f64 x := HH.out.valq (j := 5) (by decide) (hdep _ rfl ⟨5, .data⟩ (by simp) rfl) rfl
        have e31 : a.tmps[31]?.getD undef = .slice (some ⟨g, i1, none⟩) (c - i1) (cp - i1) := HH.out.valq (j := 9) (by decide) (hdep _ rfl ⟨9, .data⟩ (by simp) rfl) rfl
        have e35 : a.tmps[35]?.getD undef = .slice ad (c - i1) (c - i1) := HH.out.valq (j := 13) (by decide) (hdep _ rfl ⟨13, .data⟩ (by simp) rfl) rfl
        go_simp
        refine ⟨trivial, (callsIn_wide.2 (less_calls x (some ⟨g, i1, none⟩) ad (c - i1) (cp - i1) (c - i1) (c - i1) _ _ w FX.out (RA.out.below HBL.out) (RBX.out.below HBL.out) (Nat.le_refl _))).mono ?_⟩
        rintro e w' ⟨⟨z', rfl, hz'⟩, hb'⟩
        dsimp only
        rw [HK.out]
        exact ⟨z', q, HH.out.put (j := 14) (by decide) HJ.out rfl (fun k hk => rgV_z k hk) (fun _ => hz') (fun e => absurd e (by decide)) (fun e => absurd rfl e) (fun _ => rfl) (HBL.out.trans (hb'.mono HBL.out.size))⟩
      · refine opIn_do rfl rfl ?_
        go_simp
        rw [HK.out]
        exact ⟨z, q, HH.out.put (j := 15) (by decide) HJ.out rfl (fun _ _ => rfl) (fun e => absurd e (by decide)) (fun e => absurd e (by decide)) (fun _ => rfl) (fun _ => rfl) HBL.out⟩
      · refine opIn_do rfl rfl ?_
        go_simp
        rw [HK.out]
        exact ⟨z, q, HH.out.put (j := 16) (by decide) HJ.out rfl (fun _ _ => rfl) (fun e => absurd e (by decide)) (fun e => absurd e (by decide)) (fun _ => rfl) (fun _ => rfl) HBL.out⟩
      · refine opIn_do rfl rfl ?_
        have e37 : a.tmps[37]?.getD undef = .slice (some ⟨g, 0, none⟩) c cp := HH.out.valq (j := 15) (by decide) (hdep _ rfl ⟨15, .data⟩ (by simp) rfl) rfl
        have e38 : a.tmps[38]?.getD undef = .int .i64 (i : Int) := HH.out.valq (j := 16) (by decide) (hdep _ rfl ⟨16, .data⟩ (by simp) rfl) rfl
        go_simp
        rw [HK.out]
        exact ⟨z, q, HH.out.put (j := 17) (by decide) HJ.out rfl (fun _ _ => rfl) (fun e => absurd e (by decide)) (fun e => absurd e (by decide)) (fun _ => rfl) (fun _ => rfl) HBL.out⟩
      · refine opIn_do rfl rfl ?_
        have e39 : a.tmps[39]?.getD undef = .pointer (some ⟨g, i, none⟩) := HH.out.valq (j := 17) (by decide) (hdep _ rfl ⟨17, .data⟩ (by simp) rfl) rfl
        go_simp
        rw [HK.out]
        exact ⟨z, q, HH.out.put (j := 18) (by decide) HJ.out rfl (fun _ _ => rfl) (fun e => absurd e (by decide)) (fun e => absurd e (by decide)) (fun _ => rfl) (fun _ => rfl) HBL.out⟩
      · refine opIn_do rfl rfl ?_
        have e36 : a.tmps[36]?.getD undef = .float .f64 z := HH.out.valq (j := 14) (by decide) (hdep _ rfl ⟨14, .data⟩ (by simp) rfl) rfl
        have e40 : a.tmps[40]?.getD undef = .float .f64 d := HH.out.valq (j := 18) (by decide) (hdep _ rfl ⟨18, .data⟩ (by simp) rfl) rfl
        have h14 := HH.out.f14 (HH.out.tt (by decide) (hdep _ rfl ⟨14, .data⟩ (by simp) rfl))
        go_simp
        rw [HK.out]
        exact ⟨z, _, HH.out.put (j := 19) (by decide) HJ.out rfl (fun k hk => rgV_q k hk) (fun e => absurd e (by decide)) (fun _ => opw_div _ h14 FD.out) (fun _ => rfl) (fun e => absurd rfl e) (below_drewN HBL.out _)⟩
      · refine opIn_do rfl rfl ?_
        have e22 : a.tmps[22]?.getD undef = .slice (some ⟨xb, 0, none⟩) c c := HH.out.valq (j := 0) (by decide) (hdep _ rfl ⟨0, .data⟩ (by simp) rfl) rfl
        have e23 : a.tmps[23]?.getD undef = .int .i64 (i : Int) := HH.out.valq (j := 1) (by decide) (hdep _ rfl ⟨1, .data⟩ (by simp) rfl) rfl
        go_simp
        rw [HK.out]
        exact ⟨z, q, HH.out.put (j := 20) (by decide) HJ.out rfl (fun _ _ => rfl) (fun e => absurd e (by decide)) (fun e => absurd e (by decide)) (fun _ => rfl) (fun _ => rfl) HBL.out⟩
      · refine opIn_do rfl rfl ?_
        have e42 : a.tmps[42]?.getD undef = .pointer (some ⟨xb, i, none⟩) := HH.out.valq (j := 20) (by decide) (hdep _ rfl ⟨20, .data⟩ (by simp) rfl) rfl
        have e41 : a.tmps[41]?.getD undef = .float .f64 q := HH.out.valq (j := 19) (by decide) (hdep _ rfl ⟨19, .data⟩ (by simp) rfl) rfl
        have hall : ∀ k, k < 21 → L.getD k true = true := fun k hk => by
          refine HH.out.tt (by omega) ?_
          by_cases e : k < 20
          · exact hdep _ rfl ⟨k, .phase⟩ (by rcases (by omega : k = 0 ∨ k = 1 ∨ k = 2 ∨ k = 3 ∨ k = 4 ∨ k = 5 ∨ k = 6 ∨ k = 7 ∨ k = 8 ∨ k = 9 ∨ k = 10 ∨ k = 11 ∨ k = 12 ∨ k = 13 ∨ k = 14 ∨ k = 15 ∨ k = 16 ∨ k = 17 ∨ k = 18 ∨ k = 19) with rfl | rfl | rfl | rfl | rfl | rfl | rfl | rfl | rfl | rfl | rfl | rfl | rfl | rfl | rfl | rfl | rfl | rfl | rfl | rfl <;> simp) rfl
          · obtain rfl : k = 20 := by omega
            exact hdep _ rfl ⟨20, .data⟩ (by simp) rfl
        go_simp
        rw [HK.out]
        exact ⟨z, q, HH.out.done HJ.out hall⟩
    · rintro L a w ⟨z, q, h⟩ hr
      have hall := all_listed h.sz (by kernel_rfl) hr
      obtain ⟨w3, hb3, rfl⟩ := h.st (hall 21 (by decide))
      have h19 := h.f19 (hall 19 (by decide))
      have hkeep : Below W.heap.size W w3 := hb3
      refine ⟨(keeps_of_below hb3).trans (KeepsOthers.setCell _ _ _), fun p v hp hv => kpB_set (by omega) (by omega) p v hp (kpB_below hb3 p v hp hv), ⟨X.set i _, (IN.out.below hb3).put N5.out hqx nG i h19, fun hpre => ?_⟩, ?_⟩
      · obtain ⟨e1, e2⟩ := downs_step HPRE.out hpre
        have e3 : i = c - 1 - pre.length := e2
        have e4 := HI1.out
        rw [List.length_append, List.length_singleton]
        have hv : fdiv (lessF (X.getD i none) (fun k => ((List.range (c - i1)).map fun m => ent xs c i (i1 + m)).getD k none) (fun k => (X.drop i1).getD k none) (c - i1)) (ent xs c i i) = fdiv (lessF (X.getD i none) (fun m => ent xs c i (i + 1 + m)) (fun m => X.getD (i + 1 + m) none) (c - (i + 1))) (ent xs c i i) := by
          subst e4
          congr 1
          refine lessF_congr _ (fun k hk => ?_) fun k _ => ?_
          · rw [List.getD_eq_getElem?_getD]
            simp [hk]
          · rw [List.getD_eq_getElem?_getD, List.getElem?_drop, List.getD_eq_getElem?_getD]
        rw [hv]
        have := (ST.out e1).next HPRE.out IN.out.len rfl
        rw [← e3] at this
        exact this
      · exact (BEL.out.trans (hb3.mono BEL.out.size)).setCell (p := ⟨xb, i, none⟩) (show w.heap.size ≤ xb by omega) _
    · refine ⟨0, 0, by simp, by simp, rfl, ?_, fun j hj hl => ?_, fun hl => ?_, fun hl => ?_, fun hl => ?_, fun _ => (Below.refl _ _).drew, fun hl => ?_⟩
      · simp
      all_goals (simp [Array.getD] at hl <;> omega)
  case done =>
    rintro D ys W hD rfl ⟨⟨X, HI, HS⟩, hbel⟩ hK
    have hdl := downs_length c c (Nat.le_refl _)
    have hX : X = backT xs c c := by
      have := HS (by rw [hdl])
      rw [hdl] at this
      exact this.all HI.len
    have AN := Lib.hid (answer_calls (some ⟨xb, 0, none⟩) c c X W HI.own.row)
    rw [hX] at AN
    have BEL := Lib.hid hbel
    have q5W := HI.q5
    clear HI HS hbel hX q5 qB hqr I0 L0 BB0 hG hdl
    gi_wp2_with (refine ⟨trivial, ?_⟩; gi_at_call 51; go_must (refine (callsIn_wide.2 AN.out).mono ?_; rintro e w' ⟨⟨pa, pn, pcp, rfl, hrow⟩, rfl⟩))
    refine ⟨by simp, .inl ⟨_, _, rfl, run_takeDeferred hK, ?_⟩⟩
    refine ⟨.tuple #[.slice pa pn pcp, .int .i64 (answD (backT xs c c)).2], by simp [results, Tryz.results16, go_sem], ⟨pa, pn, pcp, rfl, row_keptObj hrow hK rfl⟩, ?_⟩
    exact BEL.out.trans (belowK_b (w := w) (Nat.le_refl _) W D _ _ (by omega) hK rfl rfl)
/-- what solve.Back comes to -/
theorem back_calls (F : FacD) (a : Option Addr) (n cap : Nat) (w : World) (h : Row w (.slice a n cap) F.xs) :
    Calls Tryz.prog 16 #[.agg #[.int .i64 F.cols, .slice a n cap, .int .i64 F.rws, .int .i64 F.trn]] w fun e w' => LstE (backD F) e w' ∧ Below w.heap.size w w' := by
  have hB := (Below.refl w.heap.size w).alloc (Nat.le_refl _) (.cells #[.int .i64 F.cols, .slice a n cap, .int .i64 F.rws, .int .i64 F.trn] 28)
  have HB := Lib.hid hB
  have HR := Lib.hid h
  have L := check_calls F.cols F.rws F.trn a n cap F.xs _ (h.below hB)
  cases hok : F.ok
  · have e : backD F = ([], 1) := by unfold backD; rw [if_pos hok]
    rw [e]
    rw [show checkP F.cols F.xs F.rws F.trn = false from hok] at L
    have LH := Lib.hid L
    clear L h hB hok e
    go_enter Tryz.func16, Tryz.ntmps16
    go_wp2_with (go_at_call 28; go_must (refine LH.out.mono ?_; rintro e w1 ⟨rfl, hb⟩))
    go_ret2
    exact ⟨⟨none, 0, 0, rfl, row_nil _⟩, HB.out.trans (hb.mono (by simp))⟩
  · obtain ⟨cols, xs, rws, trn⟩ := F
    have hck : checkP cols xs rws trn = true := hok
    obtain ⟨hc1, hc6⟩ := checkP_cols hck
    obtain ⟨c, rfl⟩ := Int.eq_ofNat_of_zero_le (show 0 ≤ cols by omega)
    dsimp only at h L HR HB ⊢
    cases hs : singD xs c
    · have e : backD ⟨(c : Int), xs, rws, trn⟩ = answD (backT xs c c) := by unfold backD; rw [if_neg (by rw [hok]; decide)]; dsimp only; rw [Int.toNat_natCast, if_neg (by rw [hs]; decide)]
      rw [e]
      exact back_yes c rws trn a n cap xs w h hck hs
    · have e : backD ⟨(c : Int), xs, rws, trn⟩ = ([], 7) := by unfold backD; rw [if_neg (by rw [hok]; decide)]; dsimp only; rw [Int.toNat_natCast, if_pos hs]
      rw [e]
      rw [show checkP (c : Int) xs rws trn = true from hok] at L
      have LH := Lib.hid L
      have HC := Lib.hid (Cells4.new w (.int .i64 (c : Int)) (.slice a n cap) (.int .i64 rws) (.int .i64 trn) 28)
      have SQ := Lib.hid (fun W hW => square_calls c rws trn a n cap xs W hW hck)
      have SG := Lib.hid (fun W B qb hW => by have := singular_calls B qb c xs W (by omega) hW; rw [hs] at this; exact this)
      clear L h hB hok e hck hs
      go_enter Tryz.func16, Tryz.ntmps16
      go_wp2_with (first
        | (go_at_call 28; go_must (refine LH.out.mono ?_; rintro e w1 ⟨rfl, hb⟩; have B1 := Lib.hid (HB.out.trans (hb.mono (by simp))); have C1 := Lib.hid (HC.out.below hb); obtain ⟨c0, c1, c2, c3, _, _, _, _⟩ := C1.out; clear hb))
        | (go_at_call 47; go_must (refine (SQ.out _ (HR.out.below B1.out)).mono ?_; rintro e w2 ⟨⟨qb, xb, L, rfl, hsq, hqx, hq0, hx0, hx1, hq1, hown, hll, hlast, hsz⟩, hb2⟩; have S2 := Lib.hid hsq; have B2 := Lib.hid (B1.out.trans (hb2.mono B1.out.size)); clear c0 c1 c2 c3 hsq hown hlast))
        | (go_at_call 48; go_must (refine (SG.out _ _ qb (S2.out.below ((Below.refl _ _).alloc (Nat.le_refl _) (.cells #[.slice (some ⟨xb, 0, none⟩) c c] 26)))).mono ?_; rintro e w3 ⟨rfl, rfl⟩)))
      go_ret2
      exact ⟨⟨none, 0, 0, rfl, row_nil _⟩, B2.out.alloc B2.out.size _⟩
end Go.Proofs.YtnboegeljaplbaaGreat
