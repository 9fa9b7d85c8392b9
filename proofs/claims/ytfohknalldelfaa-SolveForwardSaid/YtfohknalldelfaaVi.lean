/- One round of solve.Back's loop: an answer is laid down. -/
import Derived.Test.YtfohknalldelfaaVh
namespace Go.Proofs.Ytfohknalldelfaa
open Go.RowKit Lv Go.Shelf
open Ieee (double Format Datum Toward)
attribute [local go_sem] Oper.semAt_some run_store_float drewN_alloc drewN_setCell run_addF run_subF run_mulF run_quoF

/-- what the operations of the round's one statement yield -/
def rgV (c i i1 xb g cp x d : Nat) (ad : Option Addr) (z q : Nat) : Nat → Value
  | 0 | 2 | 10 => .slice (some ⟨xb, 0, none⟩) c c
  | 4 | 20 => .pointer (some ⟨xb, i, none⟩)
  | 5 => .float .f64 x
  | 6 | 15 => .slice (some ⟨g, 0, none⟩) c cp
  | 8 | 12 => .int .i64 (i1 : Int)
  | 9 => .slice (some ⟨g, i1, none⟩) (c - i1) (cp - i1)
  | 13 => .slice ad (c - i1) (c - i1)
  | 14 => .float .f64 z
  | 17 => .pointer (some ⟨g, i, none⟩)
  | 18 => .float .f64 d
  | 19 => .float .f64 q
  | _ => .int .i64 (i : Int)
theorem rgV_z {c i i1 xb g cp x d : Nat} {ad : Option Addr} {z z' q : Nat} (k : Nat) (h : k ≠ 14) : rgV c i i1 xb g cp x d ad z' q k = rgV c i i1 xb g cp x d ad z q k := by
  unfold rgV
  split <;> first | rfl | exact absurd rfl h
theorem rgV_q {c i i1 xb g cp x d : Nat} {ad : Option Addr} {z q q' : Nat} (k : Nat) (h : k ≠ 19) : rgV c i i1 xb g cp x d ad z q' k = rgV c i i1 xb g cp x d ad z q k := by
  unfold rgV
  split <;> first | rfl | exact absurd rfl h
/-- behind a set of its operations -/
structure RgAt (B : List (Nat × Value)) (V : Nat → Value) (X14 X19 : Option Nat) (W : World) (pst : Addr) (z q : Nat) (L : Array Bool) (a : Act) (w : World) : Prop where
  sz : L.size = 22
  ts : a.tmps.size = 47
  df : a.defers = []
  base : ∀ p ∈ B, p.1 < 22 ∧ a.tmps.getD p.1 undef = p.2
  vals : ∀ j, j < 21 → L.getD j true = true → a.tmps.getD (22 + j) undef = V j
  f14 : L.getD 14 true = true → FW z X14
  f19 : L.getD 19 true = true → FW q X19
  full : L.getD 21 true = true → ∀ j, j < 21 → L.getD j true = true
  bel : L.getD 21 true = false → Below W.heap.size W w
  st : L.getD 21 true = true → ∃ w1, Below W.heap.size W w1 ∧ w = w1.setCell pst (.float .f64 q)
theorem getD_setB (L : Array Bool) (i j : Nat) (hi : i < L.size) : (L.setIfInBounds i true).getD j true = if j = i then true else L.getD j true := by
  rw [Array.getD_eq_getD_getElem?, Array.getD_eq_getD_getElem?, Array.getElem?_setIfInBounds]
  by_cases e : j = i
  · subst e; rw [if_pos rfl, if_pos rfl, if_pos hi]; rfl
  · rw [if_neg (Ne.symm e), if_neg e]
theorem getD_setV (L : Array Value) (i j : Nat) (v : Value) (hi : i < L.size) : (L.setIfInBounds i v).getD j undef = if j = i then v else L.getD j undef := by
  rw [Array.getD_eq_getD_getElem?, Array.getD_eq_getD_getElem?, Array.getElem?_setIfInBounds]
  by_cases e : j = i
  · subst e; rw [if_pos rfl, if_pos rfl, if_pos hi]; rfl
  · rw [if_neg (Ne.symm e), if_neg e]
section
variable {B : List (Nat × Value)} {V V' : Nat → Value} {X14 X19 : Option Nat} {W w w' : World} {pst : Addr} {z q z' q' : Nat} {L : Array Bool} {a : Act}
theorem RgAt.open (h : RgAt B V X14 X19 W pst z q L a w) {j : Nat} (hj : j < 22) (hn : L.getD j true = false) : L.getD 21 true = false := by
  cases e : L.getD 21 true with
  | false => rfl
  | true =>
    by_cases e2 : j = 21
    · rw [e2, e] at hn; cases hn
    · have := h.full e j (by omega)
      rw [hn] at this; cases this
theorem RgAt.put (h : RgAt B V X14 X19 W pst z q L a w) {j : Nat} {v : Value} (hj : j < 21) (hn : L.getD j true = false) (hv : V' j = v) (hV : ∀ k, k ≠ j → V' k = V k) (h14 : j = 14 → FW z' X14) (h19 : j = 19 → FW q' X19) (e14 : j ≠ 14 → z' = z) (e19 : j ≠ 19 → q' = q) (hb : Below W.heap.size W w') :
    RgAt B V' X14 X19 W pst z' q' (L.setIfInBounds j true) (a.put (some (22 + j)) v) w' := by
  have h21 := h.open (by omega) hn
  have hs := h.sz
  have ht := h.ts
  have p21 : (L.setIfInBounds j true).getD 21 true = false := by rw [getD_setB _ _ _ (by omega), if_neg (by omega)]; exact h21
  refine ⟨by simpa using hs, by simpa [Act.put] using ht, h.df, fun p hp => ?_, fun k hk hl => ?_, fun hl => ?_, fun hl => ?_, fun hl => ?_, fun _ => hb, fun hl => ?_⟩
  · have hb := h.base p hp
    refine ⟨hb.1, ?_⟩
    show (a.tmps.setIfInBounds (22 + j) v).getD p.1 undef = _
    rw [getD_setV _ _ _ _ (by omega), if_neg (by omega)]
    exact hb.2
  · show (a.tmps.setIfInBounds (22 + j) v).getD (22 + k) undef = _
    rw [getD_setV _ _ _ _ (by omega)]
    by_cases e : k = j
    · rw [if_pos (by omega), e, hv]
    · rw [if_neg (by omega), hV k e]
      rw [getD_setB _ _ _ (by omega), if_neg e] at hl
      exact h.vals k hk hl
  · by_cases e : j = 14
    · exact h14 e
    · rw [e14 e]
      rw [getD_setB _ _ _ (by omega), if_neg (Ne.symm e)] at hl
      exact h.f14 hl
  · by_cases e : j = 19
    · exact h19 e
    · rw [e19 e]
      rw [getD_setB _ _ _ (by omega), if_neg (Ne.symm e)] at hl
      exact h.f19 hl
  · rw [p21] at hl; cases hl
  · rw [p21] at hl; cases hl
theorem getD_q (T : Array Value) (k : Nat) (v : Value) (h : T.getD k undef = v) : T[k]?.getD undef = v := by rw [← Array.getD_eq_getD_getElem?]; exact h
theorem RgAt.valq (h : RgAt B V X14 X19 W pst z q L a w) {j k : Nat} (hj : j < 21) (hl : L.getD j false = true) (hk : k = 22 + j) : a.tmps[k]?.getD undef = V j := by
  subst hk
  refine getD_q _ _ _ (h.vals j hj ?_)
  have hs := h.sz
  simp only [Array.getD] at hl ⊢
  rw [dif_pos (by omega)] at hl ⊢
  exact hl
theorem RgAt.tt (h : RgAt B V X14 X19 W pst z q L a w) {j : Nat} (hj : j < 22) (hl : L.getD j false = true) : L.getD j true = true := by
  have hs := h.sz
  rw [Array.getD_eq_getD_getElem?, Array.getElem?_eq_getElem (by omega)] at hl ⊢
  exact hl
theorem RgAt.done (h : RgAt B V X14 X19 W pst z q L a w) (hn : L.getD 21 true = false) (hall : ∀ j, j < 21 → L.getD j true = true) : RgAt B V X14 X19 W pst z q (L.setIfInBounds 21 true) a (w.setCell pst (.float .f64 q)) := by
  have hs := h.sz
  have p21 : (L.setIfInBounds 21 true).getD 21 true = true := by rw [getD_setB _ _ _ (by omega), if_pos rfl]
  refine ⟨by simpa using hs, h.ts, h.df, h.base, fun k hk hl => h.vals k hk (hall k hk), fun _ => h.f14 (hall 14 (by decide)), fun _ => h.f19 (hall 19 (by decide)), fun _ k hk => ?_, fun hl => ?_, fun _ => ⟨w, h.bel hn, rfl⟩⟩
  · rw [getD_setB _ _ _ (by omega), if_neg (by omega)]; exact hall k hk
  · rw [p21] at hl; cases hl
theorem RgAt.val (h : RgAt B V X14 X19 W pst z q L a w) {j : Nat} (hj : j < 21) (hl : L.getD j false = true) : a.tmps.getD (22 + j) undef = V j := by
  refine h.vals j hj ?_
  have hs := h.sz
  simp only [Array.getD] at hl ⊢
  rw [dif_pos (by omega)] at hl ⊢
  exact hl
end

end Go.Proofs.Ytfohknalldelfaa
