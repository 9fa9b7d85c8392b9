/- A list of one's own whose block holds no float: what is appended leaves each list of floats as it reads. A stack of factors of one's own; what a plan lays; a plan's play with factors. A plan's play with factors. -/
import Derived.Test.YtnboegeljaplbaaGreatYh
import Derived.Test.YtnboegeljaplbaaGreatMj
namespace Go.Proofs.YtnboegeljaplbaaGreat
open Go.RowKit Lv Go.Shelf

/-- no float stands in a slice's own block -/
def NoF (w : World) (v : Value) : Prop := ∀ g, v.ownBlock = some g → ∀ (cur : Array Value) (t : TypeId) (fr : Nat × Nat), w.heap[g]? = some (.cells cur t fr) → ∀ u ∈ cur.toList, ∀ x, u ≠ .float .f64 x
theorem noF_nil (w : World) : NoF w (.slice none 0 0) := fun _ h => nomatch h
theorem NoF.below {w w' : World} {v : Value} {C : Nat} (h : NoF w v) (hb : Below C w w') (hC : w.heap.size ≤ C) (hv : ∀ g, v.ownBlock = some g → g < w.heap.size) : NoF w' v := by
  intro g hg cur t fr hh
  have := hv g hg
  rw [hb.block g (by omega)] at hh
  exact h g hg cur t fr hh
/-- a list of floats stays where a block without floats grows -/
theorem Row.grown {w w' : World} {u v : Value} {xs : List (Option Nat)} (h : Row w u xs) (hg : w.grownBy w' v.ownBlock) (nf : NoF w v) : Row w' u xs := by
  obtain ⟨a, cap, e, h1, h2, h3⟩ := h
  refine ⟨a, cap, e, h1, h2, ?_⟩
  rcases h3 with h3 | ⟨blk, off, ea, hc⟩
  · exact .inl h3
  · refine .inr ⟨blk, off, ea, fun i hi => ?_⟩
    obtain ⟨b, hb1, hb2⟩ := hc i hi
    refine ⟨b, ?_, hb2⟩
    have hlt := cell_lt hb1
    have hne : some blk ≠ v.ownBlock := by
      intro eo
      unfold World.cell? at hb1
      cases hh : w.heap[blk]? with
      | none => rw [hh] at hb1; cases hb1
      | some o =>
        rw [hh] at hb1
        cases o with
        | cells cur t fr =>
          have hq : cur[off + i]? = some (.float .f64 b) := hb1
          have hm : (Value.float .f64 b) ∈ cur.toList := by
            rw [← Array.getElem?_toList] at hq
            exact List.mem_of_getElem? hq
          exact nf blk eo.symm cur t fr hh _ hm b rfl
        | _ => cases hb1
    rw [← hb1]
    exact World.cell?_of_block (w := w) (w' := w') (a := ⟨blk, off + i, none⟩) (hg.block blk hlt hne)
theorem mem_zeroCells {z : Array Value} {n : Nat} {u : Value} (h : u ∈ (Builtin.zeroCells z n).toList) : u ∈ z.toList := by
  unfold Builtin.zeroCells at h
  rw [Array.toList_map, List.mem_map] at h
  obtain ⟨i, hi, rfl⟩ := h
  have hi2 : i < n * z.size := by simpa using hi
  have hz : 0 < z.size := by
    cases hs : z.size with
    | zero => rw [hs] at hi2; omega
    | succ k => omega
  have hlt := Nat.mod_lt i hz
  rw [getElem!_pos z (i % z.size) hlt]
  exact Array.mem_toList_iff.2 (Array.getElem_mem hlt)

/-- append to what is one's own, in a block without floats -/
theorem run_append_NF (w : World) (base : Nat) (t ty e : TypeId) (i : TypeInfo) (z : Value) (size bytes : Nat) (ht : Tryz.prog.underlying t = some (.slice e)) (hi : Tryz.prog.info? e = some i) (hz : i.zero = some z)
    (hsize : i.size = size) (hby : i.bytes = bytes) (hzs : z.cells.size = size) (hsz : 0 < size)
    (v : Value) (n : Nat) (xs : List Value) (hown : w.ownsRow base e size v n xs) (nf : NoF w v) (nz : ∀ u ∈ z.cells.toList, ∀ x, u ≠ .float .f64 x)
    (a : Addr) (m c : Nat) (news : List Value) (hl : news.length = m * size) (hnews : ∀ j u, news[j]? = some u → w.cell? (a.add j) = some u) (h1 : ∀ u ∈ news, u.oneCell' = true) (nn : ∀ u ∈ news, ∀ x, u ≠ .float .f64 x)
    (h63 : n + m ≤ 1000) (hbytes : (n + m) * bytes ≤ 140737488355328) (hbase : base ≤ w.heap.size) :
    ∃ v' w', (Builtin.append_ #[t, t] ty #[v, .slice (some a) m c]).run Tryz.prog w = .ok v' w' ∧ w'.ownsRow base e size v' (n + m) (xs ++ news) ∧ w.grownBy w' v.ownBlock ∧ NoF w' v' := by
  obtain ⟨v', w', hr, ho, hg, h4⟩ := run_append_own (P := Tryz.prog) w base t ty e i z size bytes ht hi hz hsize hby hzs hsz v n xs hown a m c news hl hnews h1 (by unfold maxLen; omega) hbytes hbase
  refine ⟨v', w', hr, ho, hg, ?_⟩
  subst hsize
  subst hby
  have hfresh : ∀ (cells : Array Value) (W : World) (k : Nat) (q q2 : Nat), (∀ u ∈ cells.toList, ∀ x, u ≠ .float .f64 x) → k = W.heap.size → NoF (W.alloc (.cells cells e)) (.slice (some ⟨k, 0, none⟩) q q2) := by
    intro cells W k q q2 hc hk g hg cur t fr hh
    subst hk
    cases hg
    rw [World.alloc_heap_new] at hh
    cases hh
    exact hc
  rcases hown.2 with ⟨rfl, rfl⟩ | ⟨g, cap, cur, rfl, hbg, hgc, hnc, hcm, hcs, htake⟩
  · have hx : xs = [] := List.eq_nil_of_length_eq_zero (by simpa using hown.1)
    by_cases hm : m = 0
    · rw [h4.2 ⟨rfl, hm⟩]
      exact noF_nil _
    · have hr2 := run_append_nil (P := Tryz.prog) w t ty e i z ht hi hz a m c news hl hnews (by omega) (by omega) (by rw [Nat.zero_add] at hbytes; omega)
      rw [hr2] at hr
      cases hr
      refine hfresh _ _ _ _ _ ?_ (by simp)
      intro u hu
      rw [Array.toList_append, List.mem_append] at hu
      rcases hu with hu | hu
      · exact nn u (by simpa using hu)
      · exact nz u (mem_zeroCells hu)
  · by_cases hroom : n + m ≤ cap
    · have hfit : n * i.size + news.length ≤ cur.size := by rw [hl, hcs, ← Nat.add_mul]; exact Nat.mul_le_mul_right _ hroom
      have hr2 := run_append_room (P := Tryz.prog) w t ty e i ht hi g n cap cur hgc a m c news hl hnews h1 hroom hfit
      rw [hr2] at hr
      cases hr
      intro k hk cur2 t2 fr2 hh
      cases hk
      rw [setRow_heap w g _ _ _ _ hgc] at hh
      cases hh
      intro u hu x
      have hcur := nf g rfl cur e (0, 0) hgc
      simp only [List.mem_append] at hu
      rcases hu with (hu | hu) | hu
      · exact hcur u (List.mem_of_mem_take hu) x
      · exact nn u hu x
      · exact hcur u (List.mem_of_mem_drop hu) x
    · have holds : ∀ j u, xs[j]? = some u → w.cell? ((⟨g, 0, none⟩ : Addr).add j) = some u := hown.cells (g := g) rfl
      have hr2 := run_append_grow (P := Tryz.prog) w t ty e i z ht hi hz ⟨g, 0, none⟩ n cap xs hown.1 holds a m c news hl hnews (by omega) (by omega) (by
        have := nextslicecap_le (need := n + m) (old := cap) (by omega)
        have h2 := Nat.mul_le_mul_right i.bytes this
        have h3 : 2 * (n + m) * i.bytes = 2 * ((n + m) * i.bytes) := Nat.mul_assoc _ _ _
        omega)
      rw [hr2] at hr
      cases hr
      refine hfresh _ _ _ _ _ ?_ (by simp)
      intro u hu x
      rw [Array.toList_append, Array.toList_append, List.mem_append, List.mem_append] at hu
      rcases hu with (hu | hu) | hu
      · have hu2 : u ∈ xs := by simpa using hu
        rw [← htake] at hu2
        exact nf g rfl cur e (0, 0) hgc u (List.mem_of_mem_take hu2) x
      · exact nn u (by simpa using hu) x
      · exact nz u (mem_zeroCells hu) x
theorem wpList_append_NF (w : World) {ops : Array Oper} {rest : List Oper} {o : Oper} {a : Act} {Q : Exit → Act → World → Prop} (hgd : o.guard = none) (s x : Operand) (t : TypeId)
    (ho : o.op = .call { callee := .builtin .append, args := #[s, x], argTypes := #[t, t] })
    (base : Nat) (e : TypeId) (i : TypeInfo) (z : Value) (size bytes : Nat) (ht : Tryz.prog.underlying t = some (.slice e)) (hi : Tryz.prog.info? e = some i) (hz : i.zero = some z)
    (hsize : i.size = size) (hby : i.bytes = bytes) (hzs : z.cells.size = size) (hsz : 0 < size)
    (v : Value) (n : Nat) (xs : List Value) (hs : a.eval s = v) (hown : w.ownsRow base e size v n xs) (nf : NoF w v) (nz : ∀ u ∈ z.cells.toList, ∀ x, u ≠ .float .f64 x)
    (ad : Addr) (m c : Nat) (news : List Value) (hx : a.eval x = .slice (some ad) m c) (hl : news.length = m * size) (hnews : ∀ j u, news[j]? = some u → w.cell? (ad.add j) = some u) (h1 : ∀ u ∈ news, u.oneCell' = true) (nn : ∀ u ∈ news, ∀ x, u ≠ .float .f64 x)
    (h63 : n + m ≤ 1000) (hbytes : (n + m) * bytes ≤ 140737488355328) (hbase : base ≤ w.heap.size)
    (h : ∀ v' w', w'.ownsRow base e size v' (n + m) (xs ++ news) → w.grownBy w' v.ownBlock → NoF w' v' → wpList Tryz.prog ops Q rest (a.put o.dst v') w') : wpList Tryz.prog ops Q (o :: rest) a w := by
  refine wpList_plain hgd fun K hK => ?_
  obtain ⟨v', w', hr, h2, h3, h4⟩ := run_append_NF w base t o.type e i z size bytes ht hi hz hsize hby hzs hsz v n xs hown nf nz ad m c news hl hnews h1 nn h63 hbytes hbase
  unfold Oper.wp execOp
  simp only [ho, resolve, invoke, builtin, Sem.run_bind, Sem.run_pure, Result.andThen_ok, List.map_toArray, List.map_cons, List.map_nil, hs, hx, hr]
  exact hK _ _ (h v' w' h2 h3 h4)
end Go.Proofs.YtnboegeljaplbaaGreat
namespace Go.Proofs.YtnboegeljaplbaaGreat
open Go.RowKit Lv Go.Shelf
attribute [local go_sem] Oper.semAt_some run_store_float drewN_alloc drewN_setCell

set_option maxRecDepth 100000 in
set_option maxHeartbeats 1000000 in
theorem prun1_calls (i : Nat) (Fs : List FacD) (sa : Option Addr) (sn sc bs : Nat) (w : World) (h : Fcs w (.slice sa sn sc) Fs) (hc : w.cell? ⟨bs, 0, none⟩ = some (.slice sa sn sc)) (hi : i < Fs.length) :
    Calls Tryz.prog 27 #[.int .i64 (i : Int), .pointer (some ⟨bs, 0, none⟩)] w fun e w' => FacE (layF Fs (i : Int)) e w' ∧ Below w.heap.size w w' := by
  obtain ⟨l1, l2, l3⟩ := h.len
  obtain ⟨blk, off, rfl, hcs⟩ := h.at (by omega)
  obtain ⟨b, m, d, k1, k2, k3, k4, k5⟩ := hcs i (by omega)
  have hii : (i : Int) < (sn : Int) := by omega
  have hR : layF Fs (i : Int) = if (Fs.getD i fac0).ok = true then (Fs.getD i fac0, 0) else (fac0, 1) := by unfold layF; rw [Int.toNat_natCast]
  rw [hR]
  clear h hcs hR hi
  generalize Fs.getD i fac0 = F at *
  obtain ⟨fc, fx, fr, ft⟩ := F
  dsimp only at *
  have hbs := cell_lt hc
  have hbk := cell_lt k1
  have hne1 : bs ≠ w.heap.size := by simp at hbs; omega
  have B1 := Lib.hid ((Below.refl w.heap.size w).alloc (Nat.le_refl _) (.cells #[.int .i64 0, .slice none 0 0, .int .i64 0, .int .i64 0] 28))
  have C1 := Lib.hid (Cells4.new w (.int .i64 0) (.slice none 0 0) (.int .i64 0) (.int .i64 0) 28)
  have RW := Lib.hid k5
  have CK := Lib.hid (check_calls fc fr ft b m d fx _ (RW.out.below B1.out))
  cases hk : checkP fc fx fr ft with
  | false =>
    rw [hk] at CK
    rw [if_neg (by unfold FacD.ok; rw [hk]; simp)]
    clear k5 hk
    go_enter Tryz.func27, Tryz.ntmps27
    go_wp2_with (go_at_call 28; go_must (refine CK.out.mono ?_; rintro e w1 ⟨rfl, hb1⟩; have E1 := Lib.hid (C1.out.below hb1); obtain ⟨c0, c1, c2, c3, _, _, _, _⟩ := E1.out; have BL := Lib.hid (B1.out.trans (hb1.mono (by simp))); clear hb1))
    have P4 := E1.out.put (.int .i64 0) (.slice none 0 0) (.int .i64 0) (.int .i64 0)
    exact bodyPost_ret (v := .tuple #[facZ, .int .i64 1]) (by simp [results, Tryz.results27, go_sem, facZ, P4.c0, P4.c1, P4.c2, P4.c3]) rfl ⟨facE_no _ rfl, below_put4 BL.out (Nat.le_refl _) _ _ _ _⟩
  | true =>
    rw [hk] at CK
    rw [if_pos (by unfold FacD.ok; rw [hk])]
    clear k5 hk
    go_enter Tryz.func27, Tryz.ntmps27
    go_wp2_with (go_at_call 28; go_must (refine CK.out.mono ?_; rintro e w1 ⟨rfl, hb1⟩; have E1 := Lib.hid (C1.out.below hb1); obtain ⟨c0, c1, c2, c3, _, _, _, _⟩ := E1.out; have BL := Lib.hid (B1.out.trans (hb1.mono (by simp))); have hc' := (BL.out.cell (p := ⟨bs, 0, none⟩) hbs).trans hc; have k1' := (BL.out.cell (p := ⟨blk, off + i * 4, none⟩) hbk).trans k1; have k2' := (BL.out.cell (p := ⟨blk, off + i * 4 + 1, none⟩) hbk).trans k2; have k3' := (BL.out.cell (p := ⟨blk, off + i * 4 + 2, none⟩) hbk).trans k3; have k4' := (BL.out.cell (p := ⟨blk, off + i * 4 + 3, none⟩) hbk).trans k4; clear hb1))
    have P4 := E1.out.put (.int .i64 fc) (.slice b m d) (.int .i64 fr) (.int .i64 ft)
    exact bodyPost_ret (v := .tuple #[.agg #[.int .i64 fc, .slice b m d, .int .i64 fr, .int .i64 ft], .int .i64 0]) (by simp [results, Tryz.results27, go_sem, P4.c0, P4.c1, P4.c2, P4.c3]) rfl ⟨⟨b, m, d, rfl, ((RW.out.below BL.out).put4 E1.out slice_ne _ _ _ _)⟩, below_put4 BL.out (Nat.le_refl _) _ _ _ _⟩

/-- a stack of factors of one's own -/
def OwnF (w : World) (B : Nat) (v : Value) (Fs : List FacD) : Prop :=
  ∃ cs, w.ownsRow B 28 4 v Fs.length cs ∧ NoF w v ∧ ∀ i, i < Fs.length → ∃ b m d, cs[i * 4]? = some (.int .i64 (Fs.getD i fac0).cols) ∧ cs[i * 4 + 1]? = some (.slice b m d) ∧
    cs[i * 4 + 2]? = some (.int .i64 (Fs.getD i fac0).rws) ∧ cs[i * 4 + 3]? = some (.int .i64 (Fs.getD i fac0).trn) ∧ Row w (.slice b m d) (Fs.getD i fac0).xs
theorem ownF_nil (w : World) (B : Nat) : OwnF w B (.slice none 0 0) [] := ⟨[], World.ownsRow_nil _ _ _ _, noF_nil _, fun _ hi => absurd hi (Nat.not_lt_zero _)⟩
theorem owns_lt {w : World} {B : Nat} {e : TypeId} {sz n : Nat} {v : Value} {cs : List Value} (h : w.ownsRow B e sz v n cs) : ∀ g, v.ownBlock = some g → B ≤ g ∧ g < w.heap.size := by
  intro g hg
  rcases h.2 with ⟨rfl, _⟩ | ⟨g', cap, cur, rfl, h2, h3, _⟩
  · cases hg
  · cases hg
    exact ⟨h2, (Array.getElem?_eq_some_iff.1 h3).1⟩
theorem owns_below {w w' : World} {B C : Nat} {e : TypeId} {sz n : Nat} {v : Value} {cs : List Value} (h : w.ownsRow B e sz v n cs) (hb : Below C w w') (hC : w.heap.size ≤ C) : w'.ownsRow B e sz v n cs := by
  refine ⟨h.1, ?_⟩
  rcases h.2 with h0 | ⟨g, cap, cur, h1, h2, h3, h4⟩
  · exact .inl h0
  · have : g < w.heap.size := (Array.getElem?_eq_some_iff.1 h3).1
    exact .inr ⟨g, cap, cur, h1, h2, by rw [hb.block g (by omega)]; exact h3, h4⟩
theorem OwnF.base {w : World} {B : Nat} {v : Value} {Fs : List FacD} (h : OwnF w B v Fs) (k : Nat) (hk : v.ownBlock = some k) : B ≤ k := by
  obtain ⟨cs, h1, _⟩ := h
  exact (owns_lt h1 k hk).1
theorem OwnF.below {w w' : World} {B : Nat} {v : Value} {Fs : List FacD} (h : OwnF w B v Fs) (hb : Below w.heap.size w w') : OwnF w' B v Fs := by
  obtain ⟨cs, h1, h2, h3⟩ := h
  refine ⟨cs, owns_below h1 hb (Nat.le_refl _), h2.below hb (Nat.le_refl _) (fun g hg => (owns_lt h1 g hg).2), fun i hi => ?_⟩
  obtain ⟨b, m, d, k1, k2, k3, k4, k5⟩ := h3 i hi
  exact ⟨b, m, d, k1, k2, k3, k4, k5.below hb⟩
theorem OwnF.form {w : World} {B : Nat} {v : Value} {Fs : List FacD} (h : OwnF w B v Fs) : ∃ a cap, v = .slice a Fs.length cap ∧ Fs.length ≤ cap ∧ cap ≤ 9223372036854775807 := by
  obtain ⟨cs, h1, h2, h3⟩ := h
  rcases h1.2 with ⟨rfl, h0⟩ | ⟨g, cap, cur, rfl, _, _, q1, q2, _⟩
  · exact ⟨none, 0, by rw [h0], by omega, by omega⟩
  · unfold maxLen at q2
    exact ⟨_, cap, rfl, q1, by omega⟩
theorem OwnF.at {w : World} {B : Nat} {a : Option Addr} {n cap : Nat} {Fs : List FacD} (h : OwnF w B (.slice a n cap) Fs) (hn : 0 < n) : ∃ g, a = some ⟨g, 0, none⟩ ∧ B ≤ g ∧ ∀ i, i < n → ∃ b m d, w.cell? ⟨g, i * 4, none⟩ = some (.int .i64 (Fs.getD i fac0).cols) ∧ w.cell? ⟨g, i * 4 + 1, none⟩ = some (.slice b m d) ∧
    w.cell? ⟨g, i * 4 + 2, none⟩ = some (.int .i64 (Fs.getD i fac0).rws) ∧ w.cell? ⟨g, i * 4 + 3, none⟩ = some (.int .i64 (Fs.getD i fac0).trn) ∧ Row w (.slice b m d) (Fs.getD i fac0).xs := by
  obtain ⟨cs, h1, h2, h3⟩ := h
  have hle := h1.1
  rcases id h1.2 with ⟨e, _⟩ | ⟨g, cap', cur, e, q0, q1, q2, q3, q4, q5⟩
  · simp only [Value.slice.injEq] at e; omega
  · simp only [Value.slice.injEq] at e
    obtain ⟨rfl, rfl, rfl⟩ := e
    refine ⟨g, rfl, q0, fun i hi => ?_⟩
    obtain ⟨b, m, d, k1, k2, k3, k4, k5⟩ := h3 i hi
    refine ⟨b, m, d, ?_, ?_, ?_, ?_, k5⟩
    · rw [h1.cellAt (i * 4) (by omega)]; exact k1
    · rw [h1.cellAt (i * 4 + 1) (by omega)]; exact k2
    · rw [h1.cellAt (i * 4 + 2) (by omega)]; exact k3
    · rw [h1.cellAt (i * 4 + 3) (by omega)]; exact k4
theorem OwnF.take {w : World} {B : Nat} {a : Option Addr} {n cap : Nat} {Fs : List FacD} (h : OwnF w B (.slice a n cap) Fs) (hn : Fs.length = n) {k : Nat} (hk : k ≤ n) (hk0 : 0 < n) : OwnF w B (.slice a k cap) (Fs.take k) := by
  obtain ⟨cs, h1, h2, h3⟩ := h
  have hl : (Fs.take k).length = k := by rw [List.length_take]; omega
  refine ⟨cs.take (k * 4), ?_, ?_, fun i hi => ?_⟩
  · rw [hl]
    have hle := h1.1
    rcases h1.2 with ⟨e, e0⟩ | ⟨g, cap', cur, e, q0, q1, q2, q3, q4, q5⟩
    · omega
    · simp only [Value.slice.injEq] at e
      obtain ⟨rfl, _, rfl⟩ := e
      refine ⟨by rw [List.length_take]; omega, .inr ⟨g, cap, cur, rfl, q0, q1, by omega, q3, q4, ?_⟩⟩
      rw [← q5, List.take_take]
      congr 1
      omega
  · intro g hg
    exact h2 g (by
      cases a with
      | none => cases hg
      | some ad => exact hg)
  · rw [hl] at hi
    obtain ⟨b, m, d, k1, k2, k3, k4, k5⟩ := h3 i (by omega)
    have e : (Fs.take k).getD i fac0 = Fs.getD i fac0 := by rw [List.getD_eq_getElem?_getD, List.getElem?_take_of_lt hi, List.getD_eq_getElem?_getD]
    rw [e]
    exact ⟨b, m, d, by rw [List.getElem?_take_of_lt (by omega)]; exact k1, by rw [List.getElem?_take_of_lt (by omega)]; exact k2, by rw [List.getElem?_take_of_lt (by omega)]; exact k3, by rw [List.getElem?_take_of_lt (by omega)]; exact k4, k5⟩
theorem infoT : (Tryz.prog.info? 28).map (fun i => (i.zero, i.size, i.bytes)) = some (some facZ, 4, 48) := by kernel_rfl
theorem fcs_cells {W : World} {ad : Addr} {m c : Nat} {Gs : List FacD} (h : Fcs W (.slice (some ad) m c) Gs) : ∀ j, j < m * 4 → ∃ u, W.cell? (ad.add j) = some u ∧ u.oneCell' = true ∧ ∀ x, u ≠ .float .f64 x := by
  intro j hj
  obtain ⟨blk, off, e, hc⟩ := h.at (by omega)
  cases e
  obtain ⟨b, mm, d, k1, k2, k3, k4, _⟩ := hc (j / 4) (by omega)
  have ea : (⟨blk, off, none⟩ : Addr).add j = ⟨blk, off + j, none⟩ := by unfold Addr.add; by_cases e : j = 0 <;> simp [e]
  rw [ea]
  have hr : j % 4 = 0 ∨ j % 4 = 1 ∨ j % 4 = 2 ∨ j % 4 = 3 := by omega
  rcases hr with hr | hr | hr | hr
  · rw [show off + j = off + j / 4 * 4 by omega]; exact ⟨_, k1, rfl, fun x e => by cases e⟩
  · rw [show off + j = off + j / 4 * 4 + 1 by omega]; exact ⟨_, k2, rfl, fun x e => by cases e⟩
  · rw [show off + j = off + j / 4 * 4 + 2 by omega]; exact ⟨_, k3, rfl, fun x e => by cases e⟩
  · rw [show off + j = off + j / 4 * 4 + 3 by omega]; exact ⟨_, k4, rfl, fun x e => by cases e⟩
theorem wpList_append_FF (w : World) {ops : Array Oper} {rest : List Oper} {o : Oper} {a : Act} {Q : Exit → Act → World → Prop}
    (hg : o.guard = none) (s x : Operand) (hop : o.op = Op.call { callee := Callee.builtin Builtin.append, args := #[s, x], argTypes := #[23, 23] })
    (B : Nat) (v : Value) (Fs Gs : List FacD) (hs : a.eval s = v) (hown : OwnF w B v Fs) (ad : Addr) (m c : Nat) (hx : a.eval x = .slice (some ad) m c) (hG : Fcs w (.slice (some ad) m c) Gs)
    (b1 : Fs.length + Gs.length ≤ 1000) (b3 : B ≤ w.heap.size)
    (hK : ∀ v' w', OwnF w' B v' (Fs ++ Gs) → w.grownBy w' v.ownBlock → wpList Tryz.prog ops Q rest (a.put o.dst v') w') :
    wpList Tryz.prog ops Q (o :: rest) a w := by
  obtain ⟨i0, hin, hz0, hz1, hz2⟩ := info_parts infoT
  obtain ⟨cs, h1, nf, h3⟩ := hown
  have hm := hG.len.1
  have hcl := h1.1
  have FC := fcs_cells hG
  obtain ⟨news, hnews⟩ : ∃ news : List Value, news = (List.range (m * 4)).map fun j => (w.cell? (ad.add j)).getD undef := ⟨_, rfl⟩
  have hnl : news.length = m * 4 := by rw [hnews]; simp
  have hat : ∀ j, j < m * 4 → news[j]? = w.cell? (ad.add j) := by
    intro j hj
    obtain ⟨u, hu, _⟩ := FC j hj
    rw [hnews, List.getElem?_map, List.getElem?_range hj, hu]
    simp [hu]
  have hmem : ∀ u ∈ news, u.oneCell' = true ∧ ∀ x, u ≠ .float .f64 x := by
    intro u hu
    obtain ⟨j, hj, rfl⟩ := List.getElem_of_mem hu
    rw [hnl] at hj
    obtain ⟨u', hu', h5⟩ := FC j hj
    have h6 := hat j hj
    rw [List.getElem?_eq_getElem (by rw [hnl]; exact hj), hu'] at h6
    rw [Option.some.inj h6]
    exact h5
  clear hnews
  refine wpList_append_NF w hg s x _ hop B 28 i0 facZ 4 48 Tryz.underlying23 hin hz0 hz1 hz2 rfl (by decide) v Fs.length cs hs h1 nf ?_ ad m c news hx hnl ?_ (fun u hu => (hmem u hu).1) (fun u hu => (hmem u hu).2) (by omega) (by omega) b3 ?_
  · intro u hu x e
    subst e
    simp [facZ, Value.cells] at hu
  · intro j u hu
    have hj : j < m * 4 := by rw [← hnl]; exact (List.getElem?_eq_some_iff.1 hu).1
    rw [← hat j hj]; exact hu
  · intro v' w' ho hgr nf'
    refine hK v' w' ⟨cs ++ news, by rw [List.length_append, hm]; exact ho, nf', fun i hi => ?_⟩ hgr
    rw [List.length_append, hm] at hi
    by_cases hlt : i < Fs.length
    · obtain ⟨b, mm, d, k1, k2, k3, k4, k5⟩ := h3 i hlt
      have e : (Fs ++ Gs).getD i fac0 = Fs.getD i fac0 := by rw [List.getD_eq_getElem?_getD, List.getElem?_append_left hlt, List.getD_eq_getElem?_getD]
      rw [e]
      exact ⟨b, mm, d, by rw [List.getElem?_append_left (by omega)]; exact k1, by rw [List.getElem?_append_left (by omega)]; exact k2, by rw [List.getElem?_append_left (by omega)]; exact k3, by rw [List.getElem?_append_left (by omega)]; exact k4, k5.grown hgr nf⟩
    · obtain ⟨q, rfl⟩ : ∃ q, i = Fs.length + q := ⟨i - Fs.length, by omega⟩
      have e : (Fs ++ Gs).getD (Fs.length + q) fac0 = Gs.getD q fac0 := by rw [List.getD_eq_getElem?_getD, List.getElem?_append_right (by omega), Nat.add_sub_cancel_left, List.getD_eq_getElem?_getD]
      rw [e]
      obtain ⟨blk, off, e2, hc⟩ := hG.at (by omega)
      cases e2
      obtain ⟨b, mm, d, k1, k2, k3, k4, k5⟩ := hc q (by omega)
      have ea : ∀ j, (⟨blk, off, none⟩ : Addr).add j = ⟨blk, off + j, none⟩ := by intro j; unfold Addr.add; by_cases e : j = 0 <;> simp [e]
      refine ⟨b, mm, d, ?_, ?_, ?_, ?_, k5.grown hgr nf⟩
      · rw [List.getElem?_append_right (by omega), hcl, show (Fs.length + q) * 4 - Fs.length * 4 = q * 4 by omega, hat _ (by omega), ea]; exact k1
      · rw [List.getElem?_append_right (by omega), hcl, show (Fs.length + q) * 4 + 1 - Fs.length * 4 = q * 4 + 1 by omega, hat _ (by omega), ea]; exact k2
      · rw [List.getElem?_append_right (by omega), hcl, show (Fs.length + q) * 4 + 2 - Fs.length * 4 = q * 4 + 2 by omega, hat _ (by omega), ea]; exact k3
      · rw [List.getElem?_append_right (by omega), hcl, show (Fs.length + q) * 4 + 3 - Fs.length * 4 = q * 4 + 3 by omega, hat _ (by omega), ea]; exact k4
theorem fcs_new {W : World} {F : FacD} {b : Option Addr} {m d g : Nat} (h : Row W (.slice b m d) F.xs) (hg : g = W.heap.size) :
    Fcs (W.alloc (.cells #[.int .i64 F.cols, .slice b m d, .int .i64 F.rws, .int .i64 F.trn] 28)) (.slice (some ⟨g, 0, none⟩) 1 1) [F] := by
  subst hg
  refine ⟨_, _, rfl, Nat.le_refl _, by unfold maxLen; simp, .inr ⟨_, _, rfl, fun i hi => ?_⟩⟩
  obtain rfl : i = 0 := by simp at hi; omega
  exact ⟨b, m, d, by simp [go_sem], by simp [go_sem], by simp [go_sem], by simp [go_sem], h.alloc _⟩
end Go.Proofs.YtnboegeljaplbaaGreat
namespace Go.Proofs.YtnboegeljaplbaaGreat
open Go.RowKit Lv Go.Shelf
attribute [local go_sem] Oper.semAt_some run_store_float drewN_alloc drewN_setCell as_jj as_pj as_pp as_jp

/-- what stands at the head of play's loop -/
structure PInv (w w2 : World) (R : FacD × Int) (Fs : List FacD) (l : List Int) (W : World) (i : Nat) (st : List FacD) (a : Option Addr) (n cap : Nat) : Prop where
  c6 : Cells4 W w.heap.size (.int .i64 0) (.slice none 0 0) (.int .i64 0) (.int .i64 0)
  c8 : Cells4 W (w.heap.size + 1) (.int .i64 0) (.slice none 0 0) (.int .i64 0) (.int .i64 0)
  own : OwnF W w2.heap.size (.slice a n cap) st
  len : st.length = n
  cap1 : n ≤ cap ∧ cap ≤ 9223372036854775807
  ht : htsP 0 (l.take i) = some (n : Int)
  eq : playD fac0 (layF Fs) twoD (l.drop i) st = R
  b2 : Below w2.heap.size w2 W
theorem OwnF.form' {w : World} {B : Nat} {v : Value} {Fs : List FacD} {n : Nat} (h : OwnF w B v Fs) (hl : Fs.length = n) : ∃ a cap, v = .slice a n cap ∧ n ≤ cap ∧ cap ≤ 9223372036854775807 := by
  subst hl
  exact h.form
theorem htsP_le' : ∀ (l : List Int) (now x : Int), htsP now l = some x → x ≤ now + l.length
  | [], now, x, h => by
    have : now = x := Option.some.inj h
    simp; omega
  | k :: t, now, x, h => by
    unfold htsP at h
    rw [List.length_cons]
    by_cases c : k = -1
    · rw [if_pos c] at h
      by_cases c2 : now < 2
      · rw [if_pos c2] at h; cases h
      · rw [if_neg c2] at h
        have := htsP_le' t _ _ h
        omega
    · rw [if_neg c] at h
      have := htsP_le' t _ _ h
      omega
theorem htsP_le {l : List Int} {x : Int} (h : htsP 0 l = some x) : x ≤ l.length := by have := htsP_le' l 0 x h; omega
theorem play_step {Fs : List FacD} {l : List Int} {i : Nat} (hi : i < l.length) (st : List FacD) : playD fac0 (layF Fs) twoD (l.drop i) st = playD fac0 (layF Fs) twoD (l.getD i 0 :: l.drop (i + 1)) st := by rw [drop_snoc hi]

/-- behind the statement that joins two -/
def JCut (wr : World) (gc gr gt : Int) (gx : List (Option Nat)) (W : World) : Prop :=
  ∃ ga gn gcp, Cells4 W wr.heap.size (.int .i64 gc) (.slice ga gn gcp) (.int .i64 gr) (.int .i64 gt) ∧ Row W (.slice ga gn gcp) gx ∧ Below wr.heap.size wr W
set_option maxRecDepth 100000 in
set_option maxHeartbeats 4000000 in
theorem playF_calls (l : List Int) (a : Option Addr) (n cap : Nat) (Fs : List FacD) (sa : Option Addr) (sn sc bs : Nat) (w : World) (h : LI w (.slice a n cap) l) (hl : l.length ≤ 100) (hs : Fcs w (.slice sa sn sc) Fs) (hc : w.cell? ⟨bs, 0, none⟩ = some (.slice sa sn sc)) (hok : pcheckD l Fs.length = 0) :
    Calls Tryz.prog 29 #[.slice a n cap, .func (.func 27) #[] #[.pointer (some ⟨bs, 0, none⟩)], .func (.func 30) #[] #[]] w fun e w' => FacE (playD fac0 (layF Fs) twoD l []) e w' ∧ Below w.heap.size w w' := by
  obtain ⟨R, hR⟩ : ∃ R, R = playD fac0 (layF Fs) twoD l [] := ⟨_, rfl⟩
  rw [← hR]
  have hn100 : n ≤ 100 := by rw [← h.len.1]; exact hl
  have HX := Lib.hid h.len.1
  have H := Lib.hid h
  have HL := Lib.hid hl
  have HS := Lib.hid hs
  have HC := Lib.hid hc
  have hbs := cell_lt hc
  have HOK := Lib.hid hok
  have HR := Lib.hid hR.symm
  have C0 := Lib.hid (Cells4.new w (.int .i64 0) (.slice none 0 0) (.int .i64 0) (.int .i64 0) 28)
  have C1 := Lib.hid (Cells4.new (w.alloc (.cells #[.int .i64 0, .slice none 0 0, .int .i64 0, .int .i64 0] 28)) (.int .i64 0) (.slice none 0 0) (.int .i64 0) (.int .i64 0) 28)
  have B1 := Lib.hid (((Below.refl w.heap.size w).alloc (Nat.le_refl _) (.cells #[.int .i64 0, .slice none 0 0, .int .i64 0, .int .i64 0] 28)).alloc (by simp) (.cells #[.int .i64 0, .slice none 0 0, .int .i64 0, .int .i64 0] 28))
  clear h hl hs hc hok hR
  go_enter Tryz.func29, Tryz.ntmps29
  go_wp2_with (go_at_call 32; refine (psteps_calls _ n cap l _ (H.out.below B1.out) HL.out).mono ?_; rintro e w2 ⟨⟨v, rfl, hv⟩, hb2⟩; obtain ⟨va, vc, rfl⟩ := step_form hv HX.out; have HV := Lib.hid hv.cel; have HB2 := Lib.hid hb2; clear hv hb2)
  have hsz2 := Lib.hid (show w.heap.size + 1 + 1 ≤ w2.heap.size by have := HB2.out.size; simp at this; omega)
  have BW := Lib.hid (B1.out.trans (HB2.out.mono (by simp; omega)))
  have IN : PInv w w2 R Fs l w2 0 [] none 0 0 := by
    refine ⟨(C0.out.alloc _).below HB2.out, ?_, ownF_nil _ _, rfl, ⟨Nat.le_refl _, by omega⟩, rfl, HR.out, Below.refl _ _⟩
    have := C1.out.below HB2.out
    simpa using this
  go_loopw [9, 20] (fun s9 s20 wr => ∃ (i : Nat) (st : List FacD) (a : Option Addr) (m c : Nat), s20 = .int .i64 (i : Int) ∧ s9 = .slice a m c ∧ i ≤ n ∧ PInv w w2 R Fs l wr i st a m c) (fun _ s20 _ => n - (intOf s20).toNat)
  case atStart => exact ⟨0, [], none, 0, 0, rfl, rfl, Nat.zero_le _, IN⟩
  case round =>
    obtain ⟨i, st, ta, tm, tc, rfl, rfl, hi, I⟩ := hrel
    have HI := Lib.hid I
    obtain ⟨c60, c61, c62, c63, f60, f61, f62, f63⟩ := I.c6
    obtain ⟨c80, c81, c82, c83, f80, f81, f82, f83⟩ := I.c8
    have hs1 := I.b2.size
    have hlw := hsz2.out
    have hl6 : w.heap.size < wr.heap.size := by omega
    have hl8 : w.heap.size + 1 < wr.heap.size := by omega
    clear I
    by_cases hlt : i < n
    · obtain ⟨blk, off, rfl, hcs⟩ := step_at (HV.out.below HI.out.b2) (by omega)
      have hx1 := hcs i hlt
      have hii : (i : Int) < (n : Int) := by omega
      have hil : i < l.length := by rw [HX.out]; exact hlt
      obtain ⟨p1, p2, p3, p4⟩ := play_at HOK.out HI.out.ht hil
      have HP2 := Lib.hid p2
      have HEQ := HI.out.eq
      rw [play_step hil] at HEQ
      clear hcs p2
      generalize l.getD i 0 = k at *
      by_cases ek : k = -1
      · subst ek
        rw [show stepV (-1) = .iface 118 (.agg #[]) from rfl] at hx1
        rw [play_join] at HEQ
        rw [if_pos rfl] at HP2
        have h2 := p1 rfl
        obtain ⟨t, rfl⟩ : ∃ t, tm = t + 2 := ⟨tm - 2, by omega⟩
        rw [HI.out.len, show t + 2 - 2 = t by omega, show t + 2 - 1 = t + 1 by omega] at HEQ
        obtain ⟨g, rfl, hg2, hst⟩ := (HI.out.own).at (by omega)
        obtain ⟨b, m, d, k1, k2, k3, k4, k5⟩ := hst t (by omega)
        obtain ⟨t1, ht1⟩ : ∃ t1 : Nat, t + 1 = t1 := ⟨_, rfl⟩
        rw [ht1] at HEQ
        obtain ⟨b', m', d', k1', k2', k3', k4', k5'⟩ := hst t1 (by omega)
        have hcap := HI.out.cap1
        have hi1 : (t : Int) + 1 = (t1 : Int) := by omega
        have hi2 : IntKind.i64.wrap (t1 : Int) = (t1 : Int) := IntWalk.i64_in _ (by omega)
        have hi3 : t1 < t + 2 := by omega
        have hi4 : (t1 : Int) < (t : Int) + 2 := by omega
        clear ht1
        have HK5 := Lib.hid k5
        have HK5' := Lib.hid k5'
        clear hst k5 k5' p1 p3 p4 h2
        have TW := Lib.hid (fun W hW hW' => two_calls (st.getD t fac0) (st.getD t1 fac0) b b' m d m' d' W hW hW')
        generalize twoD (st.getD t fac0) (st.getD t1 fac0) = D at *
        generalize st.getD t fac0 = G at *
        generalize st.getD t1 fac0 = G' at *
        obtain ⟨cc, cx, cr, ct⟩ := G
        obtain ⟨bc, bx, br, bt⟩ := G'
        obtain ⟨⟨gc, gx, gr, gt⟩, ge⟩ := D
        dsimp only at *
        have TW2 : ∀ W, Row W (.slice b m d) cx → Row W (.slice b' m' d') bx → Calls Tryz.prog 30 #[.agg #[.int .i64 cc, .slice b m d, .int .i64 cr, .int .i64 ct], .agg #[.int .i64 bc, .slice b' m' d', .int .i64 br, .int .i64 bt]] W fun e w' => (∃ ga gn gcp, e = .returned (.tuple #[.agg #[.int .i64 gc, .slice ga gn gcp, .int .i64 gr, .int .i64 gt], .int .i64 ge]) ∧ Row w' (.slice ga gn gcp) gx) ∧ Below W.heap.size W w' := fun W h h' => TW.out W h h'
        have TW := Lib.hid TW2
        clear TW2
        have CX := Lib.hid (Cells4.new wr (.int .i64 0) (.slice none 0 0) (.int .i64 0) (.int .i64 0) 28)
        have BX := Lib.hid (((Below.refl wr.heap.size wr).alloc (Nat.le_refl _) (.cells #[.int .i64 0, .slice none 0 0, .int .i64 0, .int .i64 0] 28)).alloc (by simp) (.cells #[] 118))
        have BWR := Lib.hid (BW.out.trans (HI.out.b2.mono (by omega)))
        go_wp2
        go_cut [13] from 41 to 54 (fun s13 wx => s13 = .int .i64 ge ∧ JCut wr gc gr gt gx wx)
        case first =>
          rename_i J K' hJ hK'
          have BD := Lib.hid BX.out.drew
          have j1 := (BD.out.cell (p := ⟨g, t * 4, none⟩) (cell_lt k1)).trans k1
          have j2 := (BD.out.cell (p := ⟨g, t * 4 + 1, none⟩) (cell_lt k2)).trans k2
          have j3 := (BD.out.cell (p := ⟨g, t * 4 + 2, none⟩) (cell_lt k3)).trans k3
          have j4 := (BD.out.cell (p := ⟨g, t * 4 + 3, none⟩) (cell_lt k4)).trans k4
          have j1' := (BD.out.cell (p := ⟨g, t1 * 4, none⟩) (cell_lt k1')).trans k1'
          have j2' := (BD.out.cell (p := ⟨g, t1 * 4 + 1, none⟩) (cell_lt k2')).trans k2'
          have j3' := (BD.out.cell (p := ⟨g, t1 * 4 + 2, none⟩) (cell_lt k3')).trans k3'
          have j4' := (BD.out.cell (p := ⟨g, t1 * 4 + 3, none⟩) (cell_lt k4')).trans k4'
          have CD := Lib.hid ((CX.out.alloc (.cells #[] 118)).below (Below.refl _ _).drew)
          go_region_with (go_at_call 30; go_must (refine (TW.out _ (HK5.out.below BD.out) (HK5'.out.below BD.out)).mono ?_; rintro e wL ⟨⟨ga, gn, gcp, rfl, hrow⟩, hbL⟩; have EX := Lib.hid (CD.out.below hbL); have HRW := Lib.hid hrow; have BL := Lib.hid (BD.out.trans (hbL.mono BD.out.size)); obtain ⟨m0, m1, m2, m3, n0, n1, n2, n3⟩ := EX.out; have hzL := BL.out.size; have hzM := EX.out.lt; clear hrow hbL))
          all_goals
            refine hK' _ _ (Met.intro (hJ _ _ ?_))
            (repeat apply Exists.intro)
            refine ⟨?_, rfl⟩
            refine ⟨rfl, ?_⟩
            exact ⟨ga, gn, gcp, EX.out.put _ _ _ _, HRW.out.put4 EX.out slice_ne _ _ _ _, below_put4 BL.out (Nat.le_refl _) _ _ _ _⟩
        case rest =>
          obtain ⟨rfl, ga, gn, gcp, ex, hrow, hbc⟩ := hcut
          have BL := Lib.hid hbc
          have E6 := Lib.hid (HI.out.c6.below hbc)
          have E8 := Lib.hid (HI.out.c8.below hbc)
          have EX := Lib.hid ex
          have HRW := Lib.hid hrow
          have hlen := Lib.hid HI.out.len
          have HOT := Lib.hid (HI.out.own.take HI.out.len (k := t) (by omega) (by omega))
          obtain ⟨m0, m1, m2, m3, n0, n1, n2, n3⟩ := ex
          obtain ⟨r0, r1, r2, r3, r4, r5, r6, r7⟩ := E6.out
          obtain ⟨v0, v1, v2, v3, _, _, _, _⟩ := E8.out
          have hzL := BL.out.size
          have hzM := EX.out.lt
          have hzN : w.heap.size < wc.heap.size := by omega
          have hnex : wr.heap.size ≠ w.heap.size + 1 := by omega
          clear c60 c61 c62 c63 f60 f61 f62 f63 c80 c81 c82 c83 f80 f81 f82 f83 hrow hbc k1 k2 k3 k4 k1' k2' k3' k4'
          by_cases e2 : ge = 0
          · subst e2
            rw [if_neg (by simp)] at HEQ
            have HEQ2 := Lib.hid HEQ
            clear HEQ
            have hlt2 : Hid ((st.take t).length + 1 ≤ 1000) := by
              unfold Hid
              have := htsP_le HI.out.ht
              rw [List.length_take]
              have := HL.out
              have := List.length_take_le i l
              omega
            go_wp2_with (at_builtin; go_must (refine wpList_append_FF _ rfl _ _ rfl w2.heap.size _ (st.take t) [⟨gc, gx, gr, gt⟩] rfl (HOT.out.below (BL.out.alloc (by omega) _)) _ _ _ rfl (fcs_new (F := ⟨gc, gx, gr, gt⟩) HRW.out (by simp)) hlt2.out (by simp; omega) ?_; intro v9 w3 hown9 hg9; obtain ⟨a9, c9, rfl, hf1, hf2⟩ := hown9.form' (n := t + 1) (by rw [List.length_append, List.length_take, hlen.out, List.length_singleton]; omega)))
            have hne0 : ∀ e, (Value.slice (some ⟨g, 0, none⟩) t tc).ownBlock = some e → w2.heap.size ≤ e := fun e he => HOT.out.base e he
            have N6 := (E6.out.alloc (.cells #[.int .i64 gc, .slice ga gn gcp, .int .i64 gr, .int .i64 gt] 28)).grown hg9 (fun e => by have := hne0 _ e.symm; omega)
            have N8 := (E8.out.alloc (.cells #[.int .i64 gc, .slice ga gn gcp, .int .i64 gr, .int .i64 gt] 28)).grown hg9 (fun e => by have := hne0 _ e.symm; omega)
            have NB : Below w2.heap.size w2 w3 := (HI.out.b2.trans ((BL.out.alloc (by omega) (.cells #[.int .i64 gc, .slice ga gn gcp, .int .i64 gr, .int .i64 gt] 28)).mono hs1)).grown hg9 (by simp; omega) hne0
            refine ⟨⟨i + 1, st.take t ++ [⟨gc, gx, gr, gt⟩], a9, t + 1, c9, by go_num, rfl, by omega, N6, N8, hown9, by rw [List.length_append, List.length_take, hlen.out, List.length_singleton]; omega, ⟨hf1, hf2⟩, ?_, HEQ2.out, NB⟩, by simp [intOf]; omega⟩
            rw [HP2.out]
            congr 1
            omega
          · rw [if_pos (by simpa using e2)] at HEQ
            obtain rfl : R = (fac0, ge) := HEQ.symm
            have hne : (ge != 0) = true := bne_iff_ne.2 e2
            clear HEQ
            go_wp2
            have P6 := E6.out.put (.int .i64 0) (.slice none 0 0) (.int .i64 0) (.int .i64 0)
            exact bodyPost_ret (v := .tuple #[facZ, .int .i64 ge]) (by simp [results, Tryz.results29, go_sem, facZ, P6.c0, P6.c1, P6.c2, P6.c3]) rfl ⟨facE_no _ rfl, below_put4 (BWR.out.trans (BL.out.mono BWR.out.size)) (Nat.le_refl _) _ _ _ _⟩
      · rw [show stepV k = .iface 67 (.agg #[.int .i64 k]) from if_neg ek] at hx1
        rw [play_push _ _ _ _ _ ek] at HEQ
        rw [if_neg ek] at HP2
        obtain ⟨q, rfl⟩ : ∃ q : Nat, k = (q : Int) := ⟨k.toNat, by omega⟩
        have hq : q < Fs.length := by omega
        have PR := Lib.hid (fun W h hc => prun1_calls q Fs sa sn sc bs W h hc hq)
        clear hq p1 p3 p4 ek
        have CX := Lib.hid (Cells4.new wr (.int .i64 0) (.slice none 0 0) (.int .i64 0) (.int .i64 0) 28)
        generalize layF Fs (q : Int) = D at *
        obtain ⟨⟨gc, gx, gr, gt⟩, ge⟩ := D
        dsimp only at *
        have BX := Lib.hid (((Below.refl wr.heap.size wr).alloc (Nat.le_refl _) (.cells #[.int .i64 0, .slice none 0 0, .int .i64 0, .int .i64 0] 28)).alloc (by simp) (.cells #[.int .i64 (q : Int)] 67))
        have BWR := Lib.hid (BW.out.trans (HI.out.b2.mono (by omega)))
        by_cases e2 : ge = 0
        · subst e2
          rw [if_neg (by simp)] at HEQ
          have HEQ2 := Lib.hid HEQ
          clear HEQ
          have hlen := Lib.hid (show st.length + 1 ≤ 1000 by have := htsP_le HI.out.ht; rw [HI.out.len]; have := HL.out; have := List.length_take_le i l; omega)
          go_wp2_with (first
            | (go_at_call 27; go_must (refine (PR.out _ ((HS.out.below BWR.out).below BX.out) ((BX.out.cell (p := ⟨bs, 0, none⟩) (by have := hbs; simp at this ⊢; omega)).trans ((BWR.out.cell (p := ⟨bs, 0, none⟩) hbs).trans HC.out))).mono ?_; rintro e wL ⟨⟨ga, gn, gcp, rfl, hrow⟩, hbL⟩; have BL := Lib.hid (BX.out.trans (hbL.mono (by simp; omega))); have E6 := Lib.hid (HI.out.c6.below BL.out); have E8 := Lib.hid (HI.out.c8.below BL.out); have EX := Lib.hid ((CX.out.alloc (.cells #[.int .i64 (q : Int)] 67)).below hbL); have HRW := Lib.hid hrow; obtain ⟨m0, m1, m2, m3, n0, n1, n2, n3⟩ := EX.out; obtain ⟨r0, r1, r2, r3, r4, r5, r6, r7⟩ := E6.out; obtain ⟨v0, v1, v2, v3, _, _, _, _⟩ := E8.out; have hzL := BL.out.size; have hzM := EX.out.lt; have hzN : w.heap.size < wL.heap.size := (by omega); have hnex : wr.heap.size ≠ w.heap.size + 1 := (by omega); clear c60 c61 c62 c63 f60 f61 f62 f63 c80 c81 c82 c83 f80 f81 f82 f83 hrow hbL))
            | (at_builtin; go_must (refine wpList_append_FF _ rfl _ _ rfl w2.heap.size _ st [⟨gc, gx, gr, gt⟩] rfl (HI.out.own.below ((below_put4 BL.out (Nat.le_refl _) _ _ _ _).alloc (by simp; omega) _)) _ _ _ rfl (fcs_new (F := ⟨gc, gx, gr, gt⟩) (HRW.out.put4 EX.out slice_ne _ _ _ _) (by simp)) hlen.out (by simp; omega) ?_; intro v9 w3 hown9 hg9; obtain ⟨a9, c9, rfl, hf1, hf2⟩ := hown9.form' (n := tm + 1) (by rw [List.length_append, HI.out.len]; rfl))))
          have hne0 : ∀ e, (Value.slice ta tm tc).ownBlock = some e → w2.heap.size ≤ e := fun e he => HI.out.own.base e he
          have N6 := ((E6.out.put_other (b' := wr.heap.size) (by omega) (.int .i64 gc) (.slice ga gn gcp) (.int .i64 gr) (.int .i64 gt)).alloc (.cells #[.int .i64 gc, .slice ga gn gcp, .int .i64 gr, .int .i64 gt] 28)).grown hg9 (fun e => by have := hne0 _ e.symm; omega)
          have N8 := ((E8.out.put_other (b' := wr.heap.size) (by omega) (.int .i64 gc) (.slice ga gn gcp) (.int .i64 gr) (.int .i64 gt)).alloc (.cells #[.int .i64 gc, .slice ga gn gcp, .int .i64 gr, .int .i64 gt] 28)).grown hg9 (fun e => by have := hne0 _ e.symm; omega)
          have NB : Below w2.heap.size w2 w3 := (HI.out.b2.trans (((below_put4 BL.out (Nat.le_refl _) (.int .i64 gc) (.slice ga gn gcp) (.int .i64 gr) (.int .i64 gt)).alloc (by simp; omega) (.cells #[.int .i64 gc, .slice ga gn gcp, .int .i64 gr, .int .i64 gt] 28)).mono hs1)).grown hg9 (by simp; omega) hne0
          go_roundw
          case rel => exact ⟨i + 1, st ++ [⟨gc, gx, gr, gt⟩], a9, tm + 1, c9, by go_num, rfl, by omega, N6, N8, hown9, by rw [List.length_append, HI.out.len]; rfl, ⟨hf1, hf2⟩, by rw [HP2.out]; simp, HEQ2.out, NB⟩
          case measure => simp [intOf]; omega
        · rw [if_pos (by simpa using e2)] at HEQ
          obtain rfl : R = (fac0, ge) := HEQ.symm
          have hne : (ge != 0) = true := bne_iff_ne.2 e2
          clear HEQ
          go_wp2_with (go_at_call 27; go_must (refine (PR.out _ ((HS.out.below BWR.out).below BX.out) ((BX.out.cell (p := ⟨bs, 0, none⟩) (by have := hbs; simp at this ⊢; omega)).trans ((BWR.out.cell (p := ⟨bs, 0, none⟩) hbs).trans HC.out))).mono ?_; rintro e wL ⟨⟨ga, gn, gcp, rfl, hrow⟩, hbL⟩; have BL := Lib.hid (BX.out.trans (hbL.mono (by simp; omega))); have E6 := Lib.hid (HI.out.c6.below BL.out); have E8 := Lib.hid (HI.out.c8.below BL.out); have EX := Lib.hid ((CX.out.alloc (.cells #[.int .i64 (q : Int)] 67)).below hbL); have HRW := Lib.hid hrow; obtain ⟨m0, m1, m2, m3, n0, n1, n2, n3⟩ := EX.out; obtain ⟨r0, r1, r2, r3, r4, r5, r6, r7⟩ := E6.out; obtain ⟨v0, v1, v2, v3, _, _, _, _⟩ := E8.out; have hzL := BL.out.size; have hzM := EX.out.lt; have hzN : w.heap.size < wL.heap.size := (by omega); have hnex : wr.heap.size ≠ w.heap.size + 1 := (by omega); clear c60 c61 c62 c63 f60 f61 f62 f63 c80 c81 c82 c83 f80 f81 f82 f83 hrow hbL))
          have P6 := (E6.out.put_other (b' := wr.heap.size) (by omega) (.int .i64 gc) (.slice ga gn gcp) (.int .i64 gr) (.int .i64 gt)).put (.int .i64 0) (.slice none 0 0) (.int .i64 0) (.int .i64 0)
          exact bodyPost_ret (v := .tuple #[facZ, .int .i64 ge]) (by simp [results, Tryz.results29, go_sem, facZ, P6.c0, P6.c1, P6.c2, P6.c3]) rfl ⟨facE_no _ rfl, below_put4 (below_put4 (BWR.out.trans (BL.out.mono BWR.out.size)) (by omega) _ _ _ _) (Nat.le_refl _) _ _ _ _⟩
    · have hii : ¬ (i : Int) < (n : Int) := by omega
      obtain rfl : i = n := by omega
      have hht := HI.out.ht
      rw [← HX.out] at hht
      have h1 := play_end HOK.out hht
      obtain rfl : tm = 1 := by omega
      have HEQ := HI.out.eq
      rw [List.drop_of_length_le (by rw [HX.out]; exact Nat.le_refl _)] at HEQ
      obtain ⟨F, hF⟩ : ∃ F, st.getD 0 fac0 = F := ⟨_, rfl⟩
      obtain rfl : R = (F, 0) := by rw [← HEQ, ← hF]; rfl
      obtain ⟨g, rfl, hg2, hcs⟩ := HI.out.own.at (by omega)
      obtain ⟨b, m, d, k1, k2, k3, k4, k5⟩ := hcs 0 (by omega)
      rw [hF] at k1 k3 k4 k5
      have HK5 := Lib.hid k5
      have E6 := Lib.hid HI.out.c6
      have BL := Lib.hid (BW.out.trans (HI.out.b2.mono (by omega)))
      rw [Nat.zero_mul] at k1 k2 k3 k4
      rw [Nat.zero_add] at k2 k3 k4
      clear hht h1 HEQ hcs k5 HI hF
      obtain ⟨fc, fx, fr, ft⟩ := F
      dsimp only at *
      go_wp2
      have P4 := E6.out.put (.int .i64 fc) (.slice b m d) (.int .i64 fr) (.int .i64 ft)
      exact bodyPost_ret (v := .tuple #[.agg #[.int .i64 fc, .slice b m d, .int .i64 fr, .int .i64 ft], .int .i64 0]) (by simp [results, Tryz.results29, go_sem, P4.c0, P4.c1, P4.c2, P4.c3]) rfl ⟨⟨b, m, d, rfl, HK5.out.put4 E6.out slice_ne _ _ _ _⟩, below_put4 BL.out (Nat.le_refl _) _ _ _ _⟩
end Go.Proofs.YtnboegeljaplbaaGreat
