/- Lists of values of one cell each in memory; ints; appending to one's own; Go's Index, Contains and Max of ints, the reference's Ints. Go's Index, Contains and Max of ints; a plan's steps and heights; whether it may be, its order, how high it is. -/
import Derived.Test.YtgmaljikjkbdlaaYb
import Derived.LoopTactic
import Derived.Deep.RegionWith
import Derived.Deep.RegionHeld3
import Derived.BigQuiet
import Derived.Deep.QuietTactic
import Derived.IntWalk
namespace Go.Proofs.Ytgmaljikjkbdlaa
open Go.RowKit Lv Go.Shelf
attribute [local go_sem high] run_maxI

attribute [local go_sem] Oper.semAt_some

/-- a slice value that reads as values of one cell each -/
def Cel (W : World) (v : Value) (cs : List Value) : Prop :=
  ∃ (a : Option Addr) (cap : Nat), v = .slice a cs.length cap ∧ cs.length ≤ cap ∧ cap ≤ maxLen ∧ (cs.length = 0 ∨ ∃ blk off, a = some ⟨blk, off, none⟩ ∧ ∀ i, i < cs.length → W.cell? ⟨blk, off + i, none⟩ = cs[i]?)
theorem Cel.below {w w' : World} {v : Value} {cs : List Value} (h : Cel w v cs) (hb : Below w.heap.size w w') : Cel w' v cs := by
  obtain ⟨a, cap, rfl, h1, h2, h3⟩ := h
  refine ⟨a, cap, rfl, h1, h2, ?_⟩
  rcases h3 with h3 | ⟨blk, off, rfl, hc⟩
  · exact .inl h3
  · refine .inr ⟨blk, off, rfl, fun i hi => ?_⟩
    have k1 := hc i hi
    rw [List.getElem?_eq_getElem hi] at k1 ⊢
    exact (hb.cell (p := ⟨blk, off + i, none⟩) (cell_lt k1)).trans k1
theorem Cel.len {w : World} {a : Option Addr} {n cap : Nat} {cs : List Value} (h : Cel w (.slice a n cap) cs) : cs.length = n ∧ n ≤ cap ∧ cap ≤ 9223372036854775807 := by
  obtain ⟨_, _, hv, h1, h2, _⟩ := h
  simp only [Value.slice.injEq] at hv
  unfold maxLen at h2
  obtain ⟨_, rfl, rfl⟩ := hv
  exact ⟨rfl, h1, by omega⟩
theorem Cel.at {w : World} {a : Option Addr} {n cap : Nat} {cs : List Value} (h : Cel w (.slice a n cap) cs) (hn : 0 < n) : ∃ blk off, a = some ⟨blk, off, none⟩ ∧ ∀ i, i < n → w.cell? ⟨blk, off + i, none⟩ = cs[i]? := by
  obtain ⟨a', cap', hv, h1, h2, h3⟩ := h
  simp only [Value.slice.injEq] at hv
  obtain ⟨rfl, rfl, rfl⟩ := hv
  rcases h3 with h3 | h3
  · omega
  · exact h3
theorem Cel.form {w : World} {v : Value} {cs : List Value} (h : Cel w v cs) : ∃ a cap, v = .slice a cs.length cap := by
  obtain ⟨a, cap, hv, _⟩ := h
  exact ⟨a, cap, hv⟩
theorem Cel.take {w : World} {a : Option Addr} {n cap : Nat} {cs : List Value} (h : Cel w (.slice a n cap) cs) {i : Nat} (hi : i ≤ n) : Cel w (.slice a i cap) (cs.take i) := by
  have hl := h.len
  obtain ⟨a', cap', hv, h1, h2, h3⟩ := h
  simp only [Value.slice.injEq] at hv
  obtain ⟨rfl, rfl, rfl⟩ := hv
  refine ⟨a, cap, by rw [List.length_take]; congr 1; omega, by rw [List.length_take]; omega, h2, ?_⟩
  rw [List.length_take]
  rcases h3 with h3 | ⟨blk, off, rfl, hc⟩
  · exact .inl (by omega)
  · refine .inr ⟨blk, off, rfl, fun j hj => ?_⟩
    rw [List.getElem?_take_of_lt (by omega)]
    exact hc j (by omega)
/-- .. as ints -/
def LI (W : World) (v : Value) (zs : List Int) : Prop := Cel W v (zs.map (Value.int .i64))
theorem LI.below {w w' : World} {v : Value} {zs : List Int} (h : LI w v zs) (hb : Below w.heap.size w w') : LI w' v zs := Cel.below h hb
theorem LI.len {w : World} {a : Option Addr} {n cap : Nat} {zs : List Int} (h : LI w (.slice a n cap) zs) : zs.length = n ∧ n ≤ cap ∧ cap ≤ 9223372036854775807 := by
  have := Cel.len h
  rw [List.length_map] at this
  exact this
theorem LI.at {w : World} {a : Option Addr} {n cap : Nat} {zs : List Int} (h : LI w (.slice a n cap) zs) (hn : 0 < n) : ∃ blk off, a = some ⟨blk, off, none⟩ ∧ ∀ i, i < n → w.cell? ⟨blk, off + i, none⟩ = some (.int .i64 (zs.getD i 0)) := by
  obtain ⟨blk, off, e, hc⟩ := Cel.at h hn
  refine ⟨blk, off, e, fun i hi => ?_⟩
  have hl := h.len.1
  rw [hc i hi, List.getElem?_map, List.getElem?_eq_getElem (by omega), List.getD_eq_getElem?_getD, List.getElem?_eq_getElem (by omega)]
  rfl
theorem LI.form {w : World} {v : Value} {zs : List Int} (h : LI w v zs) : ∃ a cap, v = .slice a zs.length cap := by
  obtain ⟨a, cap, hv⟩ := Cel.form h
  rw [List.length_map] at hv
  exact ⟨a, cap, hv⟩
theorem LI.take {w : World} {a : Option Addr} {n cap : Nat} {zs : List Int} (h : LI w (.slice a n cap) zs) {i : Nat} (hi : i ≤ n) : LI w (.slice a i cap) (zs.take i) := by
  have := Cel.take h hi
  rw [← List.map_take] at this
  exact this
theorem li_nil (w : World) : LI w (.slice none 0 0) [] := ⟨none, 0, rfl, Nat.le_refl _, by unfold maxLen; omega, .inl rfl⟩

/-- a slice value that owns its values of one cell each -/
def OwnC (w : World) (B : Nat) (e : TypeId) (v : Value) (cs : List Value) : Prop := w.ownsRow B e 1 v cs.length cs
theorem ownC_nil (w : World) (B : Nat) (e : TypeId) : OwnC w B e (.slice none 0 0) [] := World.ownsRow_nil _ _ _ _
theorem OwnC.cel {w : World} {B : Nat} {e : TypeId} {v : Value} {cs : List Value} (h : OwnC w B e v cs) : Cel w v cs := by
  have hown : w.ownsRow B e 1 v cs.length cs := h
  rcases hown.2 with ⟨rfl, h0⟩ | ⟨g, cap, cur, rfl, _, _, h1, h2, _⟩
  · exact ⟨none, 0, by rw [h0], by omega, by unfold maxLen; omega, .inl h0⟩
  · exact ⟨some ⟨g, 0, none⟩, cap, rfl, h1, h2, .inr ⟨g, 0, rfl, fun i hi => by rw [Nat.zero_add, hown.cellAt i (by omega)]⟩⟩
theorem OwnC.below {w w' : World} {B C : Nat} {e : TypeId} {v : Value} {cs : List Value} (h : OwnC w B e v cs) (hb : Below C w w') (hC : w.heap.size ≤ C) : OwnC w' B e v cs := by
  have hown : w.ownsRow B e 1 v cs.length cs := h
  refine ⟨hown.1, ?_⟩
  rcases hown.2 with h0 | ⟨g, cap, cur, h1, h2, h3, h4⟩
  · exact .inl h0
  · have : g < w.heap.size := (Array.getElem?_eq_some_iff.1 h3).1
    exact .inr ⟨g, cap, cur, h1, h2, by rw [hb.block g (by omega)]; exact h3, h4⟩
theorem OwnC.mono {w : World} {B B' : Nat} {e : TypeId} {v : Value} {cs : List Value} (h : OwnC w B e v cs) (hB : B' ≤ B) : OwnC w B' e v cs := by
  have hown : w.ownsRow B e 1 v cs.length cs := h
  refine ⟨hown.1, ?_⟩
  rcases hown.2 with h0 | ⟨g, cap, cur, h1, h2, h3⟩
  · exact .inl h0
  · exact .inr ⟨g, cap, cur, h1, Nat.le_trans hB h2, h3⟩
theorem OwnC.base {w : World} {B : Nat} {e : TypeId} {v : Value} {cs : List Value} (h : OwnC w B e v cs) (k : Nat) (hk : v.ownBlock = some k) : B ≤ k := by
  have hown : w.ownsRow B e 1 v cs.length cs := h
  rcases hown.2 with ⟨rfl, h0⟩ | ⟨g, cap, cur, rfl, h2, _⟩
  · cases hk
  · cases hk; exact h2
def OwnI (w : World) (B : Nat) (v : Value) (zs : List Int) : Prop := OwnC w B 3 v (zs.map (Value.int .i64))
theorem ownI_nil (w : World) (B : Nat) : OwnI w B (.slice none 0 0) [] := ownC_nil _ _ _
theorem OwnI.li {w : World} {B : Nat} {v : Value} {zs : List Int} (h : OwnI w B v zs) : LI w v zs := OwnC.cel h
theorem OwnI.below {w w' : World} {B C : Nat} {v : Value} {zs : List Int} (h : OwnI w B v zs) (hb : Below C w w') (hC : w.heap.size ≤ C) : OwnI w' B v zs := OwnC.below h hb hC
theorem OwnI.mono {w : World} {B B' : Nat} {v : Value} {zs : List Int} (h : OwnI w B v zs) (hB : B' ≤ B) : OwnI w B' v zs := OwnC.mono h hB
theorem OwnI.base {w : World} {B : Nat} {v : Value} {zs : List Int} (h : OwnI w B v zs) (k : Nat) (hk : v.ownBlock = some k) : B ≤ k := OwnC.base h k hk

/-- append to what is one's own -/
theorem wpList_append_C (w : World) {ops : Array Oper} {rest : List Oper} {o : Oper} {a : Act} {Q : Exit → Act → World → Prop}
    (hg : o.guard = none) (s x : Operand) (e t : TypeId) (z : Value) (bytes : Nat) (hinfo : (Try.prog.info? e).map (fun i => (i.zero, i.size, i.bytes)) = some (some z, 1, bytes)) (hz : z.cells.size = 1) (hb16 : bytes ≤ 16) (ht : Try.prog.underlying t = some (.slice e))
    (hop : o.op = Op.call { callee := Callee.builtin Builtin.append, args := #[s, x], argTypes := #[t, t] })
    (B : Nat) (v : Value) (cs ys : List Value) (hs : a.eval s = v) (hown : OwnC w B e v cs) (ad : Addr) (m c : Nat) (hx : a.eval x = .slice (some ad) m c) (hy : ∀ j u, ys[j]? = some u → w.cell? (ad.add j) = some u) (h1 : ∀ u ∈ ys, u.oneCell' = true)
    (b1 : cs.length + ys.length ≤ 1000) (hm : ys.length = m) (b3 : B ≤ w.heap.size)
    (hK : ∀ v' w', OwnC w' B e v' (cs ++ ys) → w.grownBy w' v.ownBlock → wpList Try.prog ops Q rest (a.put o.dst v') w') :
    wpList Try.prog ops Q (o :: rest) a w := by
  obtain ⟨i0, hin, hz0, hz1, hz2⟩ := info_parts hinfo
  have hbb : (cs.length + m) * bytes ≤ 1000 * 16 := Nat.mul_le_mul (by omega) hb16
  refine wpList_append_own w hg s x _ hop B e i0 z 1 bytes ht hin hz0 hz1 hz2 hz (by decide) v cs.length cs hs hown ad m c ys hx (by omega) hy h1 (by unfold maxLen; omega) (by omega) b3 ?_
  intro v' w' h1 h2 _
  refine hK v' w' ?_ h2
  unfold OwnC
  rw [List.length_append, hm]; exact h1
theorem infoI : (Try.prog.info? 3).map (fun i => (i.zero, i.size, i.bytes)) = some (some (.int .i64 0), 1, 8) := by kernel_rfl
theorem wpList_append_I (w : World) {ops : Array Oper} {rest : List Oper} {o : Oper} {a : Act} {Q : Exit → Act → World → Prop}
    (hg : o.guard = none) (s x : Operand) (hop : o.op = Op.call { callee := Callee.builtin Builtin.append, args := #[s, x], argTypes := #[22, 22] })
    (B : Nat) (v : Value) (xs ys : List Int) (hs : a.eval s = v) (hown : OwnI w B v xs) (ad : Addr) (m c : Nat) (hx : a.eval x = .slice (some ad) m c) (hy : LI w (.slice (some ad) m c) ys)
    (b1 : xs.length + ys.length ≤ 1000) (b3 : B ≤ w.heap.size)
    (hK : ∀ v' w', OwnI w' B v' (xs ++ ys) → w.grownBy w' v.ownBlock → wpList Try.prog ops Q rest (a.put o.dst v') w') :
    wpList Try.prog ops Q (o :: rest) a w := by
  have hl := hy.len.1
  refine wpList_append_C w hg s x 3 22 _ 8 infoI rfl (by decide) Try.underlying22 hop B v (xs.map (Value.int .i64)) (ys.map (Value.int .i64)) hs hown ad m c hx ?_ ?_ (by simpa using b1) (by simpa using hl) b3 ?_
  · intro j u hu
    have hj : j < m := by
      rw [← hl]
      have := List.getElem?_eq_some_iff.1 hu
      simpa using this.1
    obtain ⟨blk, off, e, hc⟩ := Cel.at hy (by omega)
    cases e
    have k1 := (hc j hj).trans hu
    rw [show (⟨blk, off, none⟩ : Addr).add j = ⟨blk, off + j, none⟩ by unfold Addr.add; split <;> simp_all]
    exact k1
  · intro u hu
    obtain ⟨z, _, rfl⟩ := List.mem_map.1 hu
    rfl
  · intro v' w' h1 h2
    refine hK v' w' ?_ h2
    unfold OwnI
    rw [List.map_append]
    exact h1
theorem li_one (w : World) (z : Int) : LI (w.alloc (.cells #[.int .i64 z] 3)) (.slice (some ⟨w.heap.size, 0, none⟩) 1 1) [z] :=
  ⟨_, _, rfl, Nat.le_refl _, by unfold maxLen; omega, .inr ⟨_, _, rfl, fun i hi => by
    obtain rfl : i = 0 := by simp at hi; omega
    simp [go_sem]⟩⟩

set_option maxRecDepth 100000 in
theorem rints_calls (a b : Option Addr) (n c m d : Nat) (xs ys : List Int) (w : World) (h : LI w (.slice a n c) xs) (h' : LI w (.slice b m d) ys) :
    Calls Try.prog 11 #[.slice a n c, .slice b m d] w fun e w' => e = .returned (.bool (decide (xs = ys))) ∧ Below w.heap.size w w' := by
  obtain ⟨l1, l2, l3⟩ := h.len
  obtain ⟨k1, k2, k3⟩ := h'.len
  have H := Lib.hid (And.intro h h')
  have HX := Lib.hid (And.intro l1 k1)
  clear h h' l1 k1
  go_enter Try.func11, Try.ntmps11
  by_cases e : n = m
  · have en : ((n : Int) != (m : Int)) = false := by simp [e]
    subst e
    go_wp2
    go_loopw [5] (fun s wr => ∃ k : Nat, s = .int .i64 (k : Int) ∧ k ≤ n ∧ Hid (LI wr (.slice a n c) xs ∧ LI wr (.slice b n d) ys ∧ xs.take k = ys.take k ∧ Below w.heap.size w wr)) (fun s _ => n - (intOf s).toNat)
    case atStart => exact ⟨0, rfl, Nat.zero_le _, H.out.1, H.out.2, rfl, Below.refl _ _⟩
    case round =>
      obtain ⟨k, rfl, hk, HR⟩ := hrel
      by_cases hlt : k < n
      · obtain ⟨blk, off, rfl, hc⟩ := HR.out.1.at (by omega)
        obtain ⟨blk', off', rfl, hc'⟩ := HR.out.2.1.at (by omega)
        have hx1 := hc k hlt
        have hy1 := hc' k hlt
        have hi : (k : Int) < (n : Int) := by omega
        clear hc hc'
        by_cases eq : xs.getD k 0 = ys.getD k 0
        · have hne : (xs.getD k 0 != ys.getD k 0) = false := by rw [eq]; simp
          have HQ := Lib.hid (show xs.take (k + 1) = ys.take (k + 1) by rw [take_snoc (by rw [HX.out.1]; exact hlt), take_snoc (by rw [HX.out.2]; exact hlt), HR.out.2.2.1, eq])
          clear eq
          generalize xs.getD k 0 = x at *
          generalize ys.getD k 0 = y at *
          go_wp2
          go_quiet (fail)
          go_wp2
          go_roundw
          case rel => exact ⟨k + 1, by go_num, by omega, HR.out.1.below (below_drewN (Below.refl _ _) _), HR.out.2.1.below (below_drewN (Below.refl _ _) _), HQ.out, below_drewN HR.out.2.2.2 _⟩
          case measure => simp [intOf]; omega
        · have hne : (xs.getD k 0 != ys.getD k 0) = true := bne_iff_ne.2 eq
          have hdec : decide (xs = ys) = false := decide_eq_false (fun e => eq (by rw [e]))
          clear eq
          have HDc := Lib.hid hdec
          clear hdec
          generalize xs.getD k 0 = x at *
          generalize ys.getD k 0 = y at *
          go_wp2
          go_quiet (fail)
          go_wp2
          go_ret
          exact ⟨ret_bool HDc.out.symm, below_drewN HR.out.2.2.2 _⟩
      · have hi : ¬ (k : Int) < (n : Int) := by omega
        have hdec : decide (xs = ys) = true := by
          obtain rfl : k = n := by omega
          have := HR.out.2.2.1
          rw [List.take_of_length_le (by rw [HX.out.1]; exact Nat.le_refl _), List.take_of_length_le (by rw [HX.out.2]; exact Nat.le_refl _)] at this
          exact decide_eq_true this
        have HDc := Lib.hid hdec
        clear hdec
        go_wp2
        go_ret
        exact ⟨ret_bool HDc.out.symm, HR.out.2.2.2⟩
  · have en : ((n : Int) != (m : Int)) = true := by simp; omega
    have hdec : decide (xs = ys) = false := decide_eq_false (fun e2 => e (by rw [← HX.out.1, ← HX.out.2, e2]))
    rw [hdec]
    go_wp2
    go_ret
    exact ⟨rfl, Below.refl _ _⟩
end Go.Proofs.Ytgmaljikjkbdlaa
namespace Go.Proofs.Ytgmaljikjkbdlaa
open Go.RowKit Lv Go.Shelf
attribute [local go_sem high] run_maxI

attribute [local go_sem] Oper.semAt_some

theorem take_snocI {l : List Int} {i : Nat} (hi : i < l.length) : l.take (i + 1) = l.take i ++ [l.getD i 0] := take_snoc hi
set_option maxRecDepth 100000 in
theorem indexI_calls (a : Option Addr) (n cap : Nat) (k : Int) (zs : List Int) (w : World) (h : LI w (.slice a n cap) zs) :
    Calls Try.prog 57 #[.slice a n cap, .int .i64 k] w fun e w' => (∃ r : Int, e = .returned (.int .i64 r) ∧ decide (0 ≤ r) = zs.contains k) ∧ w = w' := by
  obtain ⟨l1, l2, l3⟩ := h.len
  have H := Lib.hid h
  have HX := Lib.hid l1
  clear h l1
  go_enter Try.func57, Try.ntmps57
  go_wp2
  go_loopw [8] (fun s wr => ∃ i : Nat, s = .int .i64 (i : Int) ∧ i ≤ n ∧ Hid ((zs.take i).contains k = false ∧ wr = w)) (fun s _ => n - (intOf s).toNat)
  case atStart => exact ⟨0, rfl, Nat.zero_le _, rfl, rfl⟩
  case round =>
    obtain ⟨i, rfl, hi, HR⟩ := hrel
    obtain rfl := HR.out.2
    by_cases hlt : i < n
    · obtain ⟨blk, off, rfl, hc⟩ := H.out.at (by omega)
      have hx1 := hc i hlt
      have hii : (i : Int) < (n : Int) := by omega
      have htk := take_snocI (l := zs) (i := i) (by rw [HX.out]; exact hlt)
      clear hc
      by_cases eq : k = zs.getD i 0
      · have hm : zs.contains k = true := by
          rw [List.contains_iff_mem]
          refine List.mem_of_mem_take (i := i + 1) ?_
          rw [htk, ← eq]; simp
        rw [← eq] at hx1
        have HM := Lib.hid hm
        clear htk eq hm
        go_wp2
        go_ret
        exact ⟨⟨_, rfl, by rw [← List.contains_iff_mem, HM.out]; simp⟩, rfl⟩
      · have hne : (k == zs.getD i 0) = false := beq_eq_false_iff_ne.2 eq
        have HT := Lib.hid (show (zs.take (i + 1)).contains k = false by
          rw [htk, List.contains_eq_any_beq, List.any_append, ← List.contains_eq_any_beq, HR.out.1]
          rw [List.any_cons, List.any_nil, beq_eq_false_iff_ne.2 eq]; rfl)
        clear htk eq
        generalize zs.getD i 0 = x at *
        go_wp2
        go_roundw
        case rel => exact ⟨i + 1, by go_num, by omega, HT.out, trivial⟩
        case measure => simp [intOf]; omega
    · have hii : ¬ (i : Int) < (n : Int) := by omega
      obtain rfl : i = n := by omega
      have hm := HR.out.1
      rw [List.take_of_length_le (by rw [HX.out]; exact Nat.le_refl _)] at hm
      have HM := Lib.hid hm
      clear hm
      go_wp2
      go_ret
      exact ⟨⟨_, rfl, by rw [← List.contains_iff_mem, HM.out]; decide⟩, rfl⟩
theorem contI_calls (a : Option Addr) (n cap : Nat) (k : Int) (zs : List Int) (w : World) (h : LI w (.slice a n cap) zs) :
    Calls Try.prog 30 #[.slice a n cap, .int .i64 k] w fun e w' => e = .returned (.bool (zs.contains k)) ∧ w = w' := by
  have L := Lib.hid (indexI_calls a n cap k zs w h)
  clear h
  generalize zs.contains k = t at *
  go_enter Try.func30, Try.ntmps30
  go_wp2_with (go_at_call 57; refine L.out.mono ?_; rintro e w' ⟨⟨r, rfl, hr⟩, rfl⟩)
  go_ret
  subst hr
  exact ⟨rfl, rfl⟩
def maxL : List Int → Int
  | [] => 0
  | z :: t => t.foldl max z
theorem maxL_snoc {l : List Int} (h : l ≠ []) (k : Int) : maxL (l ++ [k]) = max (maxL l) k := by
  cases l with
  | nil => exact absurd rfl h
  | cons z t => show (t ++ [k]).foldl max z = _; rw [List.foldl_append]; rfl
set_option maxRecDepth 100000 in
theorem maxI_calls (a : Option Addr) (n cap : Nat) (zs : List Int) (w : World) (h : LI w (.slice a n cap) zs) (hn : 0 < n) :
    Calls Try.prog 33 #[.slice a n cap] w fun e w' => e = .returned (.int .i64 (maxL zs)) ∧ w = w' := by
  obtain ⟨l1, l2, l3⟩ := h.len
  obtain ⟨blk, off, rfl, hc⟩ := h.at hn
  have hx0 := hc 0 hn
  rw [Nat.add_zero] at hx0
  have HC := Lib.hid hc
  have HX := Lib.hid l1
  have hnn : ¬ (n : Int) < 1 := by omega
  have h0n : (0 : Int) < (n : Int) := by omega
  have HM0 := Lib.hid (show zs.getD 0 0 = maxL (zs.take 1) by
    cases zs with
    | nil => simp at l1; omega
    | cons z t => rfl)
  clear h l1 hc
  go_enter Try.func33, Try.ntmps33
  go_wp2
  clear hx0
  go_loopw [3, 4] (fun s3 s4 wr => ∃ i : Nat, s4 = .int .i64 (i : Int) ∧ s3 = .int .i64 (maxL (zs.take i)) ∧ 1 ≤ i ∧ i ≤ n ∧ wr = w) (fun _ s4 _ => n - (intOf s4).toNat)
  case atStart => exact ⟨1, rfl, congrArg (Value.int .i64) HM0.out, Nat.le_refl _, by omega, rfl⟩
  case round =>
    obtain ⟨i, rfl, rfl, h1, hi, rfl⟩ := hrel
    by_cases hlt : i < n
    · have hx1 := HC.out i hlt
      have hii : (i : Int) < (n : Int) := by omega
      have HT := Lib.hid (show maxL (zs.take (i + 1)) = max (maxL (zs.take i)) (zs.getD i 0) by
        rw [take_snocI (by rw [HX.out]; exact hlt), maxL_snoc (fun e => by
          have := congrArg List.length e
          rw [List.length_take, HX.out] at this
          simp at this; omega)])
      generalize zs.getD i 0 = x at *
      generalize maxL (zs.take i) = m at *
      go_wp2
      go_roundw
      case rel => exact ⟨i + 1, by go_num, by rw [HT.out], by omega, by omega, trivial⟩
      case measure => simp [intOf]; omega
    · have hii : ¬ (i : Int) < (n : Int) := by omega
      obtain rfl : i = n := by omega
      have HM := Lib.hid (show maxL (zs.take i) = maxL zs by rw [List.take_of_length_le (by rw [HX.out]; exact Nat.le_refl _)])
      generalize maxL (zs.take i) = m at *
      go_wp2
      go_ret
      exact ⟨ret_int HM.out, rfl⟩

/-- a step's value -/
def stepV (k : Int) : Value := if k = -1 then .iface 84 (.agg #[]) else .iface 57 (.agg #[.int .i64 k])
theorem mkJoin (x : Value) (w : World) : (Instr.makeInterface 84 x).run Try.prog w = .ok (.iface 84 x) w := run_makeInterface w 84 x (by kernel_rfl)
theorem mkPush (x : Value) (w : World) : (Instr.makeInterface 57 x).run Try.prog w = .ok (.iface 57 x) w := run_makeInterface w 57 x (by kernel_rfl)
theorem infoS : (Try.prog.info? 55).map (fun i => (i.zero, i.size, i.bytes)) = some (some .nilIface, 1, 16) := by kernel_rfl
attribute [local go_sem] mkJoin mkPush

theorem cell_new (w : World) (u : Value) (t : TypeId) : ∀ j v, [u][j]? = some v → (w.alloc (.cells #[u] t)).cell? ((⟨w.heap.size, 0, none⟩ : Addr).add j) = some v := by
  intro j v hv
  obtain rfl : j = 0 := by
    have := (List.getElem?_eq_some_iff.1 hv).1
    simp at this; omega
  cases hv
  simp [go_sem]
theorem one_new {u : Value} (h : u.oneCell' = true) : ∀ v ∈ [u], v.oneCell' = true := by
  intro v hv
  cases List.mem_singleton.1 hv
  exact h
set_option maxRecDepth 100000 in
theorem psteps_calls (a : Option Addr) (n cap : Nat) (zs : List Int) (w : World) (h : LI w (.slice a n cap) zs) (hl : zs.length ≤ 100) :
    Calls Try.prog 32 #[.slice a n cap] w fun e w' => (∃ v, e = .returned v ∧ OwnC w' w.heap.size 55 v (zs.map stepV)) ∧ Below w.heap.size w w' := by
  obtain ⟨l1, l2, l3⟩ := h.len
  have H := Lib.hid h
  have HX := Lib.hid l1
  have HL := Lib.hid hl
  clear h l1 hl
  go_enter Try.func32, Try.ntmps32
  go_wp2
  go_loopw [3, 8] (fun s3 s8 wr => ∃ i : Nat, s8 = .int .i64 (i : Int) ∧ i ≤ n ∧ Hid (OwnC wr w.heap.size 55 s3 ((zs.take i).map stepV) ∧ Below w.heap.size w wr)) (fun _ s8 _ => n - (intOf s8).toNat)
  case atStart => exact ⟨0, rfl, Nat.zero_le _, ownC_nil _ _ _, Below.refl _ _⟩
  case round =>
    obtain ⟨i, rfl, hi, HR⟩ := hrel
    by_cases hlt : i < n
    · obtain ⟨blk, off, rfl, hc⟩ := (H.out.below HR.out.2).at (by omega)
      have hx1 := hc i hlt
      have hii : (i : Int) < (n : Int) := by omega
      have hsz := Lib.hid HR.out.2.size
      have HT := Lib.hid (show (zs.take (i + 1)).map stepV = (zs.take i).map stepV ++ [stepV (zs.getD i 0)] by rw [take_snocI (by rw [HX.out]; exact hlt), List.map_append]; rfl)
      have hlen : Hid (((zs.take i).map stepV).length + 1 ≤ 1000) := by unfold Hid; rw [List.length_map, List.length_take]; have := HL.out; omega
      clear hc
      generalize zs.getD i 0 = k at *
      have HB := Lib.hid (fun e (he : u3.ownBlock = some e) => HR.out.1.base e he)
      by_cases ek : k = -1
      · subst ek
        have HT2 := HT.out
        rw [show stepV (-1) = .iface 84 (.agg #[]) from rfl] at HT2
        have HT3 := Lib.hid HT2
        clear HT HT2
        go_wp2_with (at_builtin; go_must (refine wpList_append_C _ rfl _ _ 55 52 _ 16 infoS rfl (by decide) Try.underlying52 rfl w.heap.size _ _ [.iface 84 (.agg #[])] rfl (HR.out.1.below ((Below.refl _ _).alloc (Nat.le_refl _) (.cells #[.iface 84 (.agg #[])] 55)) (Nat.le_refl _)) _ _ _ rfl (cell_new _ _ _) (one_new rfl) hlen.out rfl (by have := hsz.out; simp; omega) ?_; intro v9 w3 hown9 hg9))
        rw [← HT3.out] at hown9
        have hBe : Below w.heap.size w w3 := (HR.out.2.alloc hsz.out (.cells #[.iface 84 (.agg #[])] 55)).grown hg9 (by have := hsz.out; simp; omega) HB.out
        go_roundw
        case rel => exact ⟨i + 1, by go_num, by omega, hown9, hBe⟩
        case measure => simp [intOf]; omega
      · have hne : (k == -1) = false := beq_eq_false_iff_ne.2 ek
        have HT2 := HT.out
        rw [show stepV k = .iface 57 (.agg #[.int .i64 k]) from if_neg ek] at HT2
        have HT3 := Lib.hid HT2
        clear HT HT2
        go_wp2_with (at_builtin; go_must (refine wpList_append_C _ rfl _ _ 55 52 _ 16 infoS rfl (by decide) Try.underlying52 rfl w.heap.size _ _ [.iface 57 (.agg #[.int .i64 k])] rfl (HR.out.1.below ((Below.refl _ _).alloc (Nat.le_refl _) (.cells #[.iface 57 (.agg #[.int .i64 k])] 55)) (Nat.le_refl _)) _ _ _ rfl (cell_new _ _ _) (one_new rfl) hlen.out rfl (by have := hsz.out; simp; omega) ?_; intro v9 w3 hown9 hg9))
        rw [← HT3.out] at hown9
        have hBe : Below w.heap.size w w3 := (HR.out.2.alloc hsz.out (.cells #[.iface 57 (.agg #[.int .i64 k])] 55)).grown hg9 (by have := hsz.out; simp; omega) HB.out
        go_roundw
        case rel => exact ⟨i + 1, by go_num, by omega, hown9, hBe⟩
        case measure => simp [intOf]; omega
    · have hii : ¬ (i : Int) < (n : Int) := by omega
      obtain rfl : i = n := by omega
      have HM := Lib.hid HR.out.1
      rw [List.take_of_length_le (by rw [HX.out]; exact Nat.le_refl _)] at HM
      go_wp2
      go_ret
      exact ⟨⟨_, rfl, HM.out⟩, HR.out.2⟩

theorem as_jj (v : Value) (w : World) : (Instr.typeAssert (.iface 84 v) 55 84 true).run Try.prog w = .ok (.tuple #[v, .bool true]) w := by kernel_rfl
theorem as_pj (v : Value) (w : World) : (Instr.typeAssert (.iface 57 v) 55 84 true).run Try.prog w = .ok (.tuple #[.agg #[], .bool false]) w := by kernel_rfl
theorem as_pp (v : Value) (w : World) : (Instr.typeAssert (.iface 57 v) 55 57 true).run Try.prog w = .ok (.tuple #[v, .bool true]) w := by kernel_rfl
theorem as_jp (v : Value) (w : World) : (Instr.typeAssert (.iface 84 v) 55 57 true).run Try.prog w = .ok (.tuple #[.agg #[.int .i64 0], .bool false]) w := by kernel_rfl
theorem grows_j (v : Value) (w : World) : (method 248 84 v "levelling/plan.grows").run Try.prog w = .ok (124, v) w := by kernel_rfl
theorem grows_p (v : Value) (w : World) : (method 248 57 v "levelling/plan.grows").run Try.prog w = .ok (123, v) w := by kernel_rfl
theorem joing_calls (w : World) : Calls Try.prog 124 #[.agg #[]] w fun e w' => e = .returned (.int .i64 (-1)) ∧ Below w.heap.size w w' := by
  go_enter Try.func124, Try.ntmps124
  go_wp2
  go_ret
  exact ⟨rfl, (Below.refl _ _).alloc (Nat.le_refl _) _⟩
theorem pushg_calls (k : Int) (w : World) : Calls Try.prog 123 #[.agg #[.int .i64 k]] w fun e w' => e = .returned (.int .i64 1) ∧ Below w.heap.size w w' := by
  go_enter Try.func123, Try.ntmps123
  go_wp2
  go_ret
  exact ⟨rfl, (Below.refl _ _).alloc (Nat.le_refl _) _⟩
attribute [local go_sem] as_jj as_pj as_pp as_jp grows_j grows_p

theorem step_form {w : World} {B : Nat} {e : TypeId} {v : Value} {l : List Int} {n : Nat} (h : OwnC w B e v (l.map stepV)) (hl : l.length = n) : ∃ a c, v = .slice a n c := by
  obtain ⟨a, c, hv⟩ := h.cel.form
  exact ⟨a, c, by rw [hv, List.length_map, hl]⟩
theorem step_at {w : World} {a : Option Addr} {n cap : Nat} {ls : List Int} (h : Cel w (.slice a n cap) (ls.map stepV)) (hn : 0 < n) : ∃ blk off, a = some ⟨blk, off, none⟩ ∧ ∀ i, i < n → w.cell? ⟨blk, off + i, none⟩ = some (stepV (ls.getD i 0)) := by
  obtain ⟨blk, off, e, hc⟩ := h.at hn
  have hl := h.len.1
  rw [List.length_map] at hl
  refine ⟨blk, off, e, fun i hi => ?_⟩
  rw [hc i hi, List.getElem?_map, List.getElem?_eq_getElem (by omega), List.getD_eq_getElem?_getD, List.getElem?_eq_getElem (by omega)]
  rfl
set_option maxRecDepth 100000 in
theorem pheights_calls (a : Option Addr) (n cap : Nat) (ls : List Int) (w : World) (h : Cel w (.slice a n cap) (ls.map stepV)) (hl : ls.length ≤ 100) :
    Calls Try.prog 31 #[.slice a n cap] w fun e w' => (∃ v, e = .returned (.tuple #[v, .bool (decide (htsP 0 ls = some 1))]) ∧ (htsP 0 ls ≠ none → OwnI w' w.heap.size v (runH 0 ls))) ∧ Below w.heap.size w w' := by
  obtain ⟨l1, l2, l3⟩ := h.len
  rw [List.length_map] at l1
  have H := Lib.hid h
  have HX := Lib.hid l1
  have HL := Lib.hid hl
  clear h l1 hl
  generalize hT : decide (htsP 0 ls = some 1) = tt
  have HTT := Lib.hid hT
  clear hT
  go_enter Try.func31, Try.ntmps31
  go_wp2
  go_loopw [4, 5, 12] (fun s4 s5 s12 wr => ∃ (i : Nat) (x : Int), s12 = .int .i64 (i : Int) ∧ s5 = .int .i64 x ∧ i ≤ n ∧ 0 ≤ x ∧ x ≤ i ∧ Hid (OwnI wr w.heap.size s4 (runH 0 (ls.take i)) ∧ htsP 0 (ls.take i) = some x ∧ Below w.heap.size w wr)) (fun _ _ s12 _ => n - (intOf s12).toNat)
  case atStart => exact ⟨0, 0, rfl, rfl, Nat.zero_le _, by omega, by omega, ownI_nil _ _, rfl, Below.refl _ _⟩
  case round =>
    obtain ⟨i, x, rfl, rfl, hi, hx0, hxi, HR⟩ := hrel
    by_cases hlt : i < n
    · obtain ⟨blk, off, rfl, hc⟩ := step_at (H.out.below HR.out.2.2) (by omega)
      have hx1 := hc i hlt
      have hii : (i : Int) < (n : Int) := by omega
      have hi100 : (i : Int) ≤ 100 := by have := HX.out; have := HL.out; omega
      have hsz := Lib.hid HR.out.2.2.size
      have htk := take_snocI (l := ls) (i := i) (by rw [HX.out]; exact hlt)
      have HN := Lib.hid (htsP_net 0 _ _ HR.out.2.1)
      have hlen : Hid ((runH 0 (ls.take i)).length + 1 ≤ 1000) := by unfold Hid; rw [runH_len, List.length_take]; have := HL.out; omega
      have HB := Lib.hid (fun e (he : u4.ownBlock = some e) => HR.out.1.base e he)
      clear hc
      have HK := Lib.hid (htsP_snoc 0 (ls.take i) (ls.getD i 0))
      have HRU := Lib.hid (runH_snoc 0 (ls.take i) (ls.getD i 0))
      rw [← htk, HR.out.2.1] at HK
      rw [← htk, HN.out] at HRU
      have HDR := Lib.hid (fun (e : htsP 0 (ls.take (i + 1)) = none) => hts_none e)
      clear htk
      generalize ls.getD i 0 = k at *
      by_cases ek : k = -1
      · subst ek
        rw [show stepV (-1) = .iface 84 (.agg #[]) from rfl] at hx1
        by_cases hx2 : x < 2
        · have HZ := Lib.hid (show htsP 0 ls = none from HDR.out (by rw [HK.out]; show (if (-1 : Int) = -1 then (if x < 2 then none else some (x - 1)) else some (x + 1)) = none; rw [if_pos rfl, if_pos hx2]))
          go_wp2
          exact bodyPost_ret (v := .tuple #[.slice none 0 0, .bool false]) (by simp [results, Try.results31, go_sem]) rfl ⟨⟨_, by rw [← HTT.out, HZ.out]; rfl, fun e => absurd HZ.out e⟩, HR.out.2.2.alloc hsz.out _⟩
        · have HK2 := Lib.hid (show htsP 0 (ls.take (i + 1)) = some (x + -1) by rw [HK.out]; show (if (-1 : Int) = -1 then (if x < 2 then none else some (x - 1)) else some (x + 1)) = _; rw [if_pos rfl, if_neg hx2, Int.sub_eq_add_neg])
          have HR2 := Lib.hid (show runH 0 (ls.take (i + 1)) = runH 0 (ls.take i) ++ [x + -1] by rw [HRU.out, if_pos rfl, Int.sub_eq_add_neg])
          clear HK HRU
          go_wp2_with (first
            | (go_at_call 124; refine (joing_calls _).mono ?_; rintro e w2 ⟨rfl, hb2⟩; have hC2 := Lib.hid (((Below.refl wr.heap.size wr).alloc (Nat.le_refl _) (.cells #[] 84)).trans (hb2.mono (by simp))); have hsz1 : Hid (wr.heap.size ≤ wr.heap.size) := Nat.le_refl _; have hsz2 := Lib.hid (Nat.le_trans hsz.out hC2.out.size); clear hb2)
            | (at_builtin; go_must (refine wpList_append_I _ rfl _ _ rfl w.heap.size _ _ [_] rfl ((HR.out.1.below hC2.out hsz1.out).below ((Below.refl _ _).alloc (Nat.le_refl _) _) (Nat.le_refl _)) _ _ _ rfl (li_one _ _) hlen.out (by have := hsz2.out; simp; omega) ?_; intro v9 w3 hown9 hg9)))
          rw [← HR2.out] at hown9
          have hBe : Below w.heap.size w w3 := ((HR.out.2.2.trans (hC2.out.mono hsz.out)).alloc hsz2.out _).grown hg9 (by have := hsz2.out; simp; omega) HB.out
          go_roundw
          case rel => exact ⟨i + 1, _, by go_num, rfl, by omega, by omega, by omega, hown9, HK2.out, hBe⟩
          case measure => simp [intOf]; omega
      · have HK2 := Lib.hid (show htsP 0 (ls.take (i + 1)) = some (x + 1) by rw [HK.out]; show (if k = -1 then (if x < 2 then none else some (x - 1)) else some (x + 1)) = _; rw [if_neg ek])
        have HR2 := Lib.hid (show runH 0 (ls.take (i + 1)) = runH 0 (ls.take i) ++ [x + 1] by rw [HRU.out, if_neg ek])
        clear HK HRU
        rw [show stepV k = .iface 57 (.agg #[.int .i64 k]) from if_neg ek] at hx1
        go_wp2_with (first
            | (go_at_call 123; refine (pushg_calls k _).mono ?_; rintro e w2 ⟨rfl, hb2⟩; have hC2 := Lib.hid (((Below.refl wr.heap.size wr).alloc (Nat.le_refl _) (.cells #[] 84)).trans (hb2.mono (by simp))); have hsz1 : Hid (wr.heap.size ≤ wr.heap.size) := Nat.le_refl _; have hsz2 := Lib.hid (Nat.le_trans hsz.out hC2.out.size); clear hb2)
            | (at_builtin; go_must (refine wpList_append_I _ rfl _ _ rfl w.heap.size _ _ [_] rfl ((HR.out.1.below hC2.out hsz1.out).below ((Below.refl _ _).alloc (Nat.le_refl _) _) (Nat.le_refl _)) _ _ _ rfl (li_one _ _) hlen.out (by have := hsz2.out; simp; omega) ?_; intro v9 w3 hown9 hg9)))
        rw [← HR2.out] at hown9
        have hBe : Below w.heap.size w w3 := ((HR.out.2.2.trans (hC2.out.mono hsz.out)).alloc hsz2.out _).grown hg9 (by have := hsz2.out; simp; omega) HB.out
        go_roundw
        case rel => exact ⟨i + 1, _, by go_num, rfl, by omega, by omega, by omega, hown9, HK2.out, hBe⟩
        case measure => simp [intOf]; omega
    · have hii : ¬ (i : Int) < (n : Int) := by omega
      obtain rfl : i = n := by omega
      have HM := Lib.hid HR.out.1
      have HM2 := Lib.hid HR.out.2.1
      rw [List.take_of_length_le (by rw [HX.out]; exact Nat.le_refl _)] at HM HM2
      have HQ := Lib.hid (show (x == 1) = tt by rw [← HTT.out, HM2.out]; by_cases e : x = 1 <;> simp [e])
      generalize hq : (x == 1) = qq at *
      go_wp2
      go_ret2
      exact ⟨⟨_, by rw [HQ.out]; rfl, fun _ => HM.out⟩, HR.out.2.2⟩

set_option maxRecDepth 100000 in
set_option maxHeartbeats 2000000 in
theorem pcheck_calls (a : Option Addr) (n cap : Nat) (sh : Int) (l : List Int) (w : World) (h : LI w (.slice a n cap) l) (hl : l.length ≤ 100) :
    Calls Try.prog 9 #[.slice a n cap, .int .i64 sh] w fun e w' => e = .returned (.int .i64 (pcheckD l sh)) ∧ Below w.heap.size w w' := by
  obtain ⟨l1, l2, l3⟩ := h.len
  have H := Lib.hid h
  have HX := Lib.hid l1
  have HL := Lib.hid hl
  clear h l1 hl
  generalize hT : pcheckD l sh = tt
  have HTT := Lib.hid hT
  clear hT
  go_enter Try.func9, Try.ntmps9
  go_wp2
  go_loopw [11] (fun s11 wr => ∃ (i : Nat), s11 = .int .i64 (i : Int) ∧ i ≤ n ∧ Hid ((∀ j, j < i → badAt l sh j = false) ∧ wr = w)) (fun s11 _ => n - (intOf s11).toNat)
  case atStart => exact ⟨0, rfl, Nat.zero_le _, fun j hj => absurd hj (Nat.not_lt_zero _), rfl⟩
  case round =>
    obtain ⟨i, rfl, hi, HR⟩ := hrel
    obtain rfl := HR.out.2
    by_cases hlt : i < n
    · obtain ⟨blk, off, rfl, hc⟩ := H.out.at (by omega)
      have hx1 := hc i hlt
      have hii : (i : Int) < (n : Int) := by omega
      have hic : (i : Int) ≤ (cap : Int) := by omega
      have HBD := Lib.hid (fun (e : badAt l sh i = true) => pcheck_in (inP_bad (by rw [HX.out]; exact hlt) e))
      have HC := Lib.hid (fun w' (hw : LI w' (.slice (some ⟨blk, off, none⟩) n cap) l) => contI_calls (some ⟨blk, off, none⟩) i cap (l.getD i 0) (l.take i) w' (hw.take hi))
      have HU := Lib.hid (show badAt l sh i = (decide (l.getD i 0 < -1) || decide (sh ≤ l.getD i 0) || (decide (0 ≤ l.getD i 0) && (l.take i).contains (l.getD i 0))) from rfl)
      clear hc
      generalize (l.take i).contains (l.getD i 0) = ct at *
      generalize l.getD i 0 = k at *
      by_cases c1 : k < -1
      · have HE := Lib.hid (HBD.out (by rw [HU.out, decide_eq_true c1]; rfl))
        go_wp2
        go_ret
        exact ⟨ret_int (by rw [← HTT.out, HE.out]), Below.refl _ _⟩
      · by_cases c2 : sh ≤ k
        · have HE := Lib.hid (HBD.out (by rw [HU.out, decide_eq_true c2, Bool.or_true]; rfl))
          go_wp2
          go_ret
          exact ⟨ret_int (by rw [← HTT.out, HE.out]), Below.refl _ _⟩
        · have HU2 : badAt l sh i = (decide (0 ≤ k) && ct) := by rw [HU.out, decide_eq_false c1, decide_eq_false c2]; rfl
          by_cases c3 : 0 ≤ k
          · rw [decide_eq_true c3, Bool.true_and] at HU2
            have HU3 := Lib.hid HU2
            clear HU2
            cases ct with
            | true =>
              have HE := Lib.hid (HBD.out HU3.out)
              go_wp2_with (go_at_call 30; go_must (refine (HC.out _ H.out).mono ?_; rintro e w2 ⟨rfl, rfl⟩))
              go_ret
              exact ⟨ret_int (by rw [← HTT.out, HE.out]), Below.refl _ _⟩
            | false =>
              go_wp2_with (go_at_call 30; go_must (refine (HC.out _ H.out).mono ?_; rintro e w2 ⟨rfl, rfl⟩))
              go_roundw
              case rel =>
                refine ⟨i + 1, by go_num, by omega, fun j hj => ?_, trivial⟩
                by_cases e : j = i
                · subst e; exact HU3.out
                · exact HR.out.1 j (by omega)
              case measure => simp [intOf]; omega
          · rw [decide_eq_false c3, Bool.false_and] at HU2
            have HU3 := Lib.hid HU2
            clear HU2
            go_wp2
            go_roundw
            case rel =>
              refine ⟨i + 1, by go_num, by omega, fun j hj => ?_, trivial⟩
              by_cases e : j = i
              · subst e; exact HU3.out
              · exact HR.out.1 j (by omega)
            case measure => simp [intOf]; omega
    · have hii : ¬ (i : Int) < (n : Int) := by omega
      obtain rfl : i = n := by omega
      have HP := Lib.hid (inP_all (l := l) (shards := sh) (by rw [HX.out]; exact HR.out.1))
      have HH := Lib.hid (fun a n c W (hc : Cel W (.slice a n c) (l.map stepV)) => pheights_calls a n c l W hc HL.out)
      cases hd : decide (htsP 0 l = some 1) with
      | false =>
        rw [hd] at HH
        have HE := Lib.hid (pcheck_hts (shards := sh) (of_decide_eq_false hd))
        clear hd
        go_wp2_with (first
          | (go_at_call 32; refine (psteps_calls _ i cap l _ H.out HL.out).mono ?_; rintro e w2 ⟨⟨v, rfl, hv⟩, hb2⟩; obtain ⟨va, vc, rfl⟩ := step_form hv HX.out; have HV := Lib.hid hv.cel; have HB2 := Lib.hid hb2; clear hv hb2)
          | (go_at_call 31; refine (HH.out _ _ _ _ HV.out).mono ?_; rintro e w3 ⟨⟨u, rfl, hu⟩, hb3⟩; have HB3 := Lib.hid hb3; clear hu hb3))
        go_ret
        exact ⟨ret_int (by rw [← HTT.out, HE.out]), HB2.out.trans (HB3.out.mono HB2.out.size)⟩
      | true =>
        rw [hd] at HH
        have HE := Lib.hid (show pcheckD l sh = 0 by unfold pcheckD; rw [if_pos ⟨HP.out, of_decide_eq_true hd⟩])
        clear hd
        go_wp2_with (first
          | (go_at_call 32; refine (psteps_calls _ i cap l _ H.out HL.out).mono ?_; rintro e w2 ⟨⟨v, rfl, hv⟩, hb2⟩; obtain ⟨va, vc, rfl⟩ := step_form hv HX.out; have HV := Lib.hid hv.cel; have HB2 := Lib.hid hb2; clear hv hb2)
          | (go_at_call 31; refine (HH.out _ _ _ _ HV.out).mono ?_; rintro e w3 ⟨⟨u, rfl, hu⟩, hb3⟩; have HB3 := Lib.hid hb3; clear hu hb3))
        go_ret
        exact ⟨ret_int (by rw [← HTT.out, HE.out]), HB2.out.trans (HB3.out.mono HB2.out.size)⟩
end Go.Proofs.Ytgmaljikjkbdlaa
