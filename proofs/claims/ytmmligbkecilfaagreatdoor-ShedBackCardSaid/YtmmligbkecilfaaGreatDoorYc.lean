/- Lists of values of one cell each in memory; ints; appending to one's own. -/
import Derived.Test.YtmmligbkecilfaaGreatDoorRe
import Derived.Test.YtmmligbkecilfaaGreatDoorO
import Derived.LoopTactic
import Derived.Deep.RegionWith
import Derived.Deep.RegionHeld3
import Derived.BigQuiet
import Derived.Deep.QuietTactic
import Derived.IntWalk
namespace Go.Proofs.YtmmligbkecilfaaGreatDoor
open Go.RowKit Lv Go.Shelf
attribute [local go_sem] Oper.semAt_some

/-- a slice value that reads as values of one cell each -/
def Cel (W : World) (v : Value) (cs : List Value) : Prop :=
  ∃ (a : Option Addr) (cap : Nat), v = .slice a cs.length cap ∧ cs.length ≤ cap ∧ cap ≤ maxLen ∧ (cs.length = 0 ∨ ∃ blk off, a = some ⟨blk, off, none⟩ ∧ ∀ i, i < cs.length → W.cell? ⟨blk, off + i, none⟩ = cs[i]?)
theorem Cel.below {w w' : World} {v : Value} {cs : List Value} (h : Cel w v cs) (hb : Below w.heap.size w w') : Cel w' v cs := by
  obtain ⟨a, cap, rfl, h1, h2, h3⟩ := h
  refine ⟨a, cap, rfl, h1, h2, ?_⟩
  rcases h3 with h3 | ⟨blk, off, rfl, hc⟩
  · exact .inl h3
  · refine .inr ⟨blk, off, rfl, fun i hi => ?_⟩
    have k1 := hc i hi
    rw [List.getElem?_eq_getElem hi] at k1 ⊢
    exact (hb.cell (p := ⟨blk, off + i, none⟩) (cell_lt k1)).trans k1
theorem Cel.len {w : World} {a : Option Addr} {n cap : Nat} {cs : List Value} (h : Cel w (.slice a n cap) cs) : cs.length = n ∧ n ≤ cap ∧ cap ≤ 9223372036854775807 := by
  obtain ⟨_, _, hv, h1, h2, _⟩ := h
  simp only [Value.slice.injEq] at hv
  unfold maxLen at h2
  obtain ⟨_, rfl, rfl⟩ := hv
  exact ⟨rfl, h1, by omega⟩
theorem Cel.at {w : World} {a : Option Addr} {n cap : Nat} {cs : List Value} (h : Cel w (.slice a n cap) cs) (hn : 0 < n) : ∃ blk off, a = some ⟨blk, off, none⟩ ∧ ∀ i, i < n → w.cell? ⟨blk, off + i, none⟩ = cs[i]? := by
  obtain ⟨a', cap', hv, h1, h2, h3⟩ := h
  simp only [Value.slice.injEq] at hv
  obtain ⟨rfl, rfl, rfl⟩ := hv
  rcases h3 with h3 | h3
  · omega
  · exact h3
theorem Cel.form {w : World} {v : Value} {cs : List Value} (h : Cel w v cs) : ∃ a cap, v = .slice a cs.length cap := by
  obtain ⟨a, cap, hv, _⟩ := h
  exact ⟨a, cap, hv⟩
theorem Cel.take {w : World} {a : Option Addr} {n cap : Nat} {cs : List Value} (h : Cel w (.slice a n cap) cs) {i : Nat} (hi : i ≤ n) : Cel w (.slice a i cap) (cs.take i) := by
  have hl := h.len
  obtain ⟨a', cap', hv, h1, h2, h3⟩ := h
  simp only [Value.slice.injEq] at hv
  obtain ⟨rfl, rfl, rfl⟩ := hv
  refine ⟨a, cap, by rw [List.length_take]; congr 1; omega, by rw [List.length_take]; omega, h2, ?_⟩
  rw [List.length_take]
  rcases h3 with h3 | ⟨blk, off, rfl, hc⟩
  · exact .inl (by omega)
  · refine .inr ⟨blk, off, rfl, fun j hj => ?_⟩
    rw [List.getElem?_take_of_lt (by omega)]
    exact hc j (by omega)
/-- .. as ints -/
def LI (W : World) (v : Value) (zs : List Int) : Prop := Cel W v (zs.map (Value.int .i64))
theorem LI.below {w w' : World} {v : Value} {zs : List Int} (h : LI w v zs) (hb : Below w.heap.size w w') : LI w' v zs := Cel.below h hb
theorem LI.len {w : World} {a : Option Addr} {n cap : Nat} {zs : List Int} (h : LI w (.slice a n cap) zs) : zs.length = n ∧ n ≤ cap ∧ cap ≤ 9223372036854775807 := by
  have := Cel.len h
  rw [List.length_map] at this
  exact this
theorem LI.at {w : World} {a : Option Addr} {n cap : Nat} {zs : List Int} (h : LI w (.slice a n cap) zs) (hn : 0 < n) : ∃ blk off, a = some ⟨blk, off, none⟩ ∧ ∀ i, i < n → w.cell? ⟨blk, off + i, none⟩ = some (.int .i64 (zs.getD i 0)) := by
  obtain ⟨blk, off, e, hc⟩ := Cel.at h hn
  refine ⟨blk, off, e, fun i hi => ?_⟩
  have hl := h.len.1
  rw [hc i hi, List.getElem?_map, List.getElem?_eq_getElem (by omega), List.getD_eq_getElem?_getD, List.getElem?_eq_getElem (by omega)]
  rfl
theorem LI.form {w : World} {v : Value} {zs : List Int} (h : LI w v zs) : ∃ a cap, v = .slice a zs.length cap := by
  obtain ⟨a, cap, hv⟩ := Cel.form h
  rw [List.length_map] at hv
  exact ⟨a, cap, hv⟩
theorem LI.take {w : World} {a : Option Addr} {n cap : Nat} {zs : List Int} (h : LI w (.slice a n cap) zs) {i : Nat} (hi : i ≤ n) : LI w (.slice a i cap) (zs.take i) := by
  have := Cel.take h hi
  rw [← List.map_take] at this
  exact this
theorem li_nil (w : World) : LI w (.slice none 0 0) [] := ⟨none, 0, rfl, Nat.le_refl _, by unfold maxLen; omega, .inl rfl⟩

/-- a slice value that owns its values of one cell each -/
def OwnC (w : World) (B : Nat) (e : TypeId) (v : Value) (cs : List Value) : Prop := w.ownsRow B e 1 v cs.length cs
theorem ownC_nil (w : World) (B : Nat) (e : TypeId) : OwnC w B e (.slice none 0 0) [] := World.ownsRow_nil _ _ _ _
theorem OwnC.cel {w : World} {B : Nat} {e : TypeId} {v : Value} {cs : List Value} (h : OwnC w B e v cs) : Cel w v cs := by
  have hown : w.ownsRow B e 1 v cs.length cs := h
  rcases hown.2 with ⟨rfl, h0⟩ | ⟨g, cap, cur, rfl, _, _, h1, h2, _⟩
  · exact ⟨none, 0, by rw [h0], by omega, by unfold maxLen; omega, .inl h0⟩
  · exact ⟨some ⟨g, 0, none⟩, cap, rfl, h1, h2, .inr ⟨g, 0, rfl, fun i hi => by rw [Nat.zero_add, hown.cellAt i (by omega)]⟩⟩
theorem OwnC.below {w w' : World} {B C : Nat} {e : TypeId} {v : Value} {cs : List Value} (h : OwnC w B e v cs) (hb : Below C w w') (hC : w.heap.size ≤ C) : OwnC w' B e v cs := by
  have hown : w.ownsRow B e 1 v cs.length cs := h
  refine ⟨hown.1, ?_⟩
  rcases hown.2 with h0 | ⟨g, cap, cur, h1, h2, h3, h4⟩
  · exact .inl h0
  · have : g < w.heap.size := (Array.getElem?_eq_some_iff.1 h3).1
    exact .inr ⟨g, cap, cur, h1, h2, by rw [hb.block g (by omega)]; exact h3, h4⟩
theorem OwnC.mono {w : World} {B B' : Nat} {e : TypeId} {v : Value} {cs : List Value} (h : OwnC w B e v cs) (hB : B' ≤ B) : OwnC w B' e v cs := by
  have hown : w.ownsRow B e 1 v cs.length cs := h
  refine ⟨hown.1, ?_⟩
  rcases hown.2 with h0 | ⟨g, cap, cur, h1, h2, h3⟩
  · exact .inl h0
  · exact .inr ⟨g, cap, cur, h1, Nat.le_trans hB h2, h3⟩
theorem OwnC.base {w : World} {B : Nat} {e : TypeId} {v : Value} {cs : List Value} (h : OwnC w B e v cs) (k : Nat) (hk : v.ownBlock = some k) : B ≤ k := by
  have hown : w.ownsRow B e 1 v cs.length cs := h
  rcases hown.2 with ⟨rfl, h0⟩ | ⟨g, cap, cur, rfl, h2, _⟩
  · cases hk
  · cases hk; exact h2
def OwnI (w : World) (B : Nat) (v : Value) (zs : List Int) : Prop := OwnC w B 3 v (zs.map (Value.int .i64))
theorem ownI_nil (w : World) (B : Nat) : OwnI w B (.slice none 0 0) [] := ownC_nil _ _ _
theorem OwnI.li {w : World} {B : Nat} {v : Value} {zs : List Int} (h : OwnI w B v zs) : LI w v zs := OwnC.cel h
theorem OwnI.below {w w' : World} {B C : Nat} {v : Value} {zs : List Int} (h : OwnI w B v zs) (hb : Below C w w') (hC : w.heap.size ≤ C) : OwnI w' B v zs := OwnC.below h hb hC
theorem OwnI.mono {w : World} {B B' : Nat} {v : Value} {zs : List Int} (h : OwnI w B v zs) (hB : B' ≤ B) : OwnI w B' v zs := OwnC.mono h hB
theorem OwnI.base {w : World} {B : Nat} {v : Value} {zs : List Int} (h : OwnI w B v zs) (k : Nat) (hk : v.ownBlock = some k) : B ≤ k := OwnC.base h k hk

/-- append to what is one's own -/
theorem wpList_append_C (w : World) {ops : Array Oper} {rest : List Oper} {o : Oper} {a : Act} {Q : Exit → Act → World → Prop}
    (hg : o.guard = none) (s x : Operand) (e t : TypeId) (z : Value) (bytes : Nat) (hinfo : (Tryz.prog.info? e).map (fun i => (i.zero, i.size, i.bytes)) = some (some z, 1, bytes)) (hz : z.cells.size = 1) (hb16 : bytes ≤ 16) (ht : Tryz.prog.underlying t = some (.slice e))
    (hop : o.op = Op.call { callee := Callee.builtin Builtin.append, args := #[s, x], argTypes := #[t, t] })
    (B : Nat) (v : Value) (cs ys : List Value) (hs : a.eval s = v) (hown : OwnC w B e v cs) (ad : Addr) (m c : Nat) (hx : a.eval x = .slice (some ad) m c) (hy : ∀ j u, ys[j]? = some u → w.cell? (ad.add j) = some u) (h1 : ∀ u ∈ ys, u.oneCell' = true)
    (b1 : cs.length + ys.length ≤ 1000) (hm : ys.length = m) (b3 : B ≤ w.heap.size)
    (hK : ∀ v' w', OwnC w' B e v' (cs ++ ys) → w.grownBy w' v.ownBlock → wpList Tryz.prog ops Q rest (a.put o.dst v') w') :
    wpList Tryz.prog ops Q (o :: rest) a w := by
  obtain ⟨i0, hin, hz0, hz1, hz2⟩ := info_parts hinfo
  have hbb : (cs.length + m) * bytes ≤ 1000 * 16 := Nat.mul_le_mul (by omega) hb16
  refine wpList_append_own w hg s x _ hop B e i0 z 1 bytes ht hin hz0 hz1 hz2 hz (by decide) v cs.length cs hs hown ad m c ys hx (by omega) hy h1 (by unfold maxLen; omega) (by omega) b3 ?_
  intro v' w' h1 h2 _
  refine hK v' w' ?_ h2
  unfold OwnC
  rw [List.length_append, hm]; exact h1
theorem infoI : (Tryz.prog.info? 3).map (fun i => (i.zero, i.size, i.bytes)) = some (some (.int .i64 0), 1, 8) := by kernel_rfl
theorem li_one (w : World) (z : Int) : LI (w.alloc (.cells #[.int .i64 z] 3)) (.slice (some ⟨w.heap.size, 0, none⟩) 1 1) [z] :=
  ⟨_, _, rfl, Nat.le_refl _, by unfold maxLen; omega, .inr ⟨_, _, rfl, fun i hi => by
    obtain rfl : i = 0 := by simp at hi; omega
    simp [go_sem]⟩⟩

end Go.Proofs.YtmmligbkecilfaaGreatDoor
