/- A list of one's own whose block holds no float: what is appended leaves each list of floats as it reads. A stack of factors of one's own; what a plan lays; a plan's play with factors. -/
import Derived.Test.YtgmaljikjkbdlaaYd
import Derived.Test.YtgmaljikjkbdlaaYh
namespace Go.Proofs.Ytgmaljikjkbdlaa
open Go.RowKit Lv Go.Shelf

/-- no float stands in a slice's own block -/
def NoF (w : World) (v : Value) : Prop := ∀ g, v.ownBlock = some g → ∀ (cur : Array Value) (t : TypeId) (fr : Nat × Nat), w.heap[g]? = some (.cells cur t fr) → ∀ u ∈ cur.toList, ∀ x, u ≠ .float .f64 x
theorem noF_nil (w : World) : NoF w (.slice none 0 0) := fun _ h => nomatch h
theorem NoF.below {w w' : World} {v : Value} {C : Nat} (h : NoF w v) (hb : Below C w w') (hC : w.heap.size ≤ C) (hv : ∀ g, v.ownBlock = some g → g < w.heap.size) : NoF w' v := by
  intro g hg cur t fr hh
  have := hv g hg
  rw [hb.block g (by omega)] at hh
  exact h g hg cur t fr hh
/-- a list of floats stays where a block without floats grows -/
theorem Row.grown {w w' : World} {u v : Value} {xs : List (Option Nat)} (h : Row w u xs) (hg : w.grownBy w' v.ownBlock) (nf : NoF w v) : Row w' u xs := by
  obtain ⟨a, cap, e, h1, h2, h3⟩ := h
  refine ⟨a, cap, e, h1, h2, ?_⟩
  rcases h3 with h3 | ⟨blk, off, ea, hc⟩
  · exact .inl h3
  · refine .inr ⟨blk, off, ea, fun i hi => ?_⟩
    obtain ⟨b, hb1, hb2⟩ := hc i hi
    refine ⟨b, ?_, hb2⟩
    have hlt := cell_lt hb1
    have hne : some blk ≠ v.ownBlock := by
      intro eo
      unfold World.cell? at hb1
      cases hh : w.heap[blk]? with
      | none => rw [hh] at hb1; cases hb1
      | some o =>
        rw [hh] at hb1
        cases o with
        | cells cur t fr =>
          have hq : cur[off + i]? = some (.float .f64 b) := hb1
          have hm : (Value.float .f64 b) ∈ cur.toList := by
            rw [← Array.getElem?_toList] at hq
            exact List.mem_of_getElem? hq
          exact nf blk eo.symm cur t fr hh _ hm b rfl
        | _ => cases hb1
    rw [← hb1]
    exact World.cell?_of_block (w := w) (w' := w') (a := ⟨blk, off + i, none⟩) (hg.block blk hlt hne)
theorem mem_zeroCells {z : Array Value} {n : Nat} {u : Value} (h : u ∈ (Builtin.zeroCells z n).toList) : u ∈ z.toList := by
  unfold Builtin.zeroCells at h
  rw [Array.toList_map, List.mem_map] at h
  obtain ⟨i, hi, rfl⟩ := h
  have hi2 : i < n * z.size := by simpa using hi
  have hz : 0 < z.size := by
    cases hs : z.size with
    | zero => rw [hs] at hi2; omega
    | succ k => omega
  have hlt := Nat.mod_lt i hz
  rw [getElem!_pos z (i % z.size) hlt]
  exact Array.mem_toList_iff.2 (Array.getElem_mem hlt)

/-- append to what is one's own, in a block without floats -/
theorem run_append_NF (w : World) (base : Nat) (t ty e : TypeId) (i : TypeInfo) (z : Value) (size bytes : Nat) (ht : Try.prog.underlying t = some (.slice e)) (hi : Try.prog.info? e = some i) (hz : i.zero = some z)
    (hsize : i.size = size) (hby : i.bytes = bytes) (hzs : z.cells.size = size) (hsz : 0 < size)
    (v : Value) (n : Nat) (xs : List Value) (hown : w.ownsRow base e size v n xs) (nf : NoF w v) (nz : ∀ u ∈ z.cells.toList, ∀ x, u ≠ .float .f64 x)
    (a : Addr) (m c : Nat) (news : List Value) (hl : news.length = m * size) (hnews : ∀ j u, news[j]? = some u → w.cell? (a.add j) = some u) (h1 : ∀ u ∈ news, u.oneCell' = true) (nn : ∀ u ∈ news, ∀ x, u ≠ .float .f64 x)
    (h63 : n + m ≤ 1000) (hbytes : (n + m) * bytes ≤ 140737488355328) (hbase : base ≤ w.heap.size) :
    ∃ v' w', (Builtin.append_ #[t, t] ty #[v, .slice (some a) m c]).run Try.prog w = .ok v' w' ∧ w'.ownsRow base e size v' (n + m) (xs ++ news) ∧ w.grownBy w' v.ownBlock ∧ NoF w' v' := by
  obtain ⟨v', w', hr, ho, hg, h4⟩ := run_append_own (P := Try.prog) w base t ty e i z size bytes ht hi hz hsize hby hzs hsz v n xs hown a m c news hl hnews h1 (by unfold maxLen; omega) hbytes hbase
  refine ⟨v', w', hr, ho, hg, ?_⟩
  subst hsize
  subst hby
  have hfresh : ∀ (cells : Array Value) (W : World) (k : Nat) (q q2 : Nat), (∀ u ∈ cells.toList, ∀ x, u ≠ .float .f64 x) → k = W.heap.size → NoF (W.alloc (.cells cells e)) (.slice (some ⟨k, 0, none⟩) q q2) := by
    intro cells W k q q2 hc hk g hg cur t fr hh
    subst hk
    cases hg
    rw [World.alloc_heap_new] at hh
    cases hh
    exact hc
  rcases hown.2 with ⟨rfl, rfl⟩ | ⟨g, cap, cur, rfl, hbg, hgc, hnc, hcm, hcs, htake⟩
  · have hx : xs = [] := List.eq_nil_of_length_eq_zero (by simpa using hown.1)
    by_cases hm : m = 0
    · rw [h4.2 ⟨rfl, hm⟩]
      exact noF_nil _
    · have hr2 := run_append_nil (P := Try.prog) w t ty e i z ht hi hz a m c news hl hnews (by omega) (by omega) (by rw [Nat.zero_add] at hbytes; omega)
      rw [hr2] at hr
      cases hr
      refine hfresh _ _ _ _ _ ?_ (by simp)
      intro u hu
      rw [Array.toList_append, List.mem_append] at hu
      rcases hu with hu | hu
      · exact nn u (by simpa using hu)
      · exact nz u (mem_zeroCells hu)
  · by_cases hroom : n + m ≤ cap
    · have hfit : n * i.size + news.length ≤ cur.size := by rw [hl, hcs, ← Nat.add_mul]; exact Nat.mul_le_mul_right _ hroom
      have hr2 := run_append_room (P := Try.prog) w t ty e i ht hi g n cap cur hgc a m c news hl hnews h1 hroom hfit
      rw [hr2] at hr
      cases hr
      intro k hk cur2 t2 fr2 hh
      cases hk
      rw [setRow_heap w g _ _ _ _ hgc] at hh
      cases hh
      intro u hu x
      have hcur := nf g rfl cur e (0, 0) hgc
      simp only [List.mem_append] at hu
      rcases hu with (hu | hu) | hu
      · exact hcur u (List.mem_of_mem_take hu) x
      · exact nn u hu x
      · exact hcur u (List.mem_of_mem_drop hu) x
    · have holds : ∀ j u, xs[j]? = some u → w.cell? ((⟨g, 0, none⟩ : Addr).add j) = some u := hown.cells (g := g) rfl
      have hr2 := run_append_grow (P := Try.prog) w t ty e i z ht hi hz ⟨g, 0, none⟩ n cap xs hown.1 holds a m c news hl hnews (by omega) (by omega) (by
        have := nextslicecap_le (need := n + m) (old := cap) (by omega)
        have h2 := Nat.mul_le_mul_right i.bytes this
        have h3 : 2 * (n + m) * i.bytes = 2 * ((n + m) * i.bytes) := Nat.mul_assoc _ _ _
        omega)
      rw [hr2] at hr
      cases hr
      refine hfresh _ _ _ _ _ ?_ (by simp)
      intro u hu x
      rw [Array.toList_append, Array.toList_append, List.mem_append, List.mem_append] at hu
      rcases hu with (hu | hu) | hu
      · have hu2 : u ∈ xs := by simpa using hu
        rw [← htake] at hu2
        exact nf g rfl cur e (0, 0) hgc u (List.mem_of_mem_take hu2) x
      · exact nn u (by simpa using hu) x
      · exact nz u (mem_zeroCells hu) x
theorem wpList_append_NF (w : World) {ops : Array Oper} {rest : List Oper} {o : Oper} {a : Act} {Q : Exit → Act → World → Prop} (hgd : o.guard = none) (s x : Operand) (t : TypeId)
    (ho : o.op = .call { callee := .builtin .append, args := #[s, x], argTypes := #[t, t] })
    (base : Nat) (e : TypeId) (i : TypeInfo) (z : Value) (size bytes : Nat) (ht : Try.prog.underlying t = some (.slice e)) (hi : Try.prog.info? e = some i) (hz : i.zero = some z)
    (hsize : i.size = size) (hby : i.bytes = bytes) (hzs : z.cells.size = size) (hsz : 0 < size)
    (v : Value) (n : Nat) (xs : List Value) (hs : a.eval s = v) (hown : w.ownsRow base e size v n xs) (nf : NoF w v) (nz : ∀ u ∈ z.cells.toList, ∀ x, u ≠ .float .f64 x)
    (ad : Addr) (m c : Nat) (news : List Value) (hx : a.eval x = .slice (some ad) m c) (hl : news.length = m * size) (hnews : ∀ j u, news[j]? = some u → w.cell? (ad.add j) = some u) (h1 : ∀ u ∈ news, u.oneCell' = true) (nn : ∀ u ∈ news, ∀ x, u ≠ .float .f64 x)
    (h63 : n + m ≤ 1000) (hbytes : (n + m) * bytes ≤ 140737488355328) (hbase : base ≤ w.heap.size)
    (h : ∀ v' w', w'.ownsRow base e size v' (n + m) (xs ++ news) → w.grownBy w' v.ownBlock → NoF w' v' → wpList Try.prog ops Q rest (a.put o.dst v') w') : wpList Try.prog ops Q (o :: rest) a w := by
  refine wpList_plain hgd fun K hK => ?_
  obtain ⟨v', w', hr, h2, h3, h4⟩ := run_append_NF w base t o.type e i z size bytes ht hi hz hsize hby hzs hsz v n xs hown nf nz ad m c news hl hnews h1 nn h63 hbytes hbase
  unfold Oper.wp execOp
  simp only [ho, resolve, invoke, builtin, Sem.run_bind, Sem.run_pure, Result.andThen_ok, List.map_toArray, List.map_cons, List.map_nil, hs, hx, hr]
  exact hK _ _ (h v' w' h2 h3 h4)
end Go.Proofs.Ytgmaljikjkbdlaa
namespace Go.Proofs.Ytgmaljikjkbdlaa
open Go.RowKit Lv Go.Shelf
attribute [local go_sem] Oper.semAt_some run_store_float drewN_alloc drewN_setCell

set_option maxRecDepth 100000 in
set_option maxHeartbeats 1000000 in
theorem prun1_calls (i : Nat) (Fs : List FacD) (sa : Option Addr) (sn sc bs : Nat) (w : World) (h : Fcs w (.slice sa sn sc) Fs) (hc : w.cell? ⟨bs, 0, none⟩ = some (.slice sa sn sc)) (hi : i < Fs.length) :
    Calls Try.prog 38 #[.int .i64 (i : Int), .pointer (some ⟨bs, 0, none⟩)] w fun e w' => FacE (layF Fs (i : Int)) e w' ∧ Below w.heap.size w w' := by
  obtain ⟨l1, l2, l3⟩ := h.len
  obtain ⟨blk, off, rfl, hcs⟩ := h.at (by omega)
  obtain ⟨b, m, d, k1, k2, k3, k4, k5⟩ := hcs i (by omega)
  have hii : (i : Int) < (sn : Int) := by omega
  have hR : layF Fs (i : Int) = if (Fs.getD i fac0).ok = true then (Fs.getD i fac0, 0) else (fac0, 1) := by unfold layF; rw [Int.toNat_natCast]
  rw [hR]
  clear h hcs hR hi
  generalize Fs.getD i fac0 = F at *
  obtain ⟨fc, fx, fr, ft⟩ := F
  dsimp only at *
  have hbs := cell_lt hc
  have hbk := cell_lt k1
  have hne1 : bs ≠ w.heap.size := by simp at hbs; omega
  have B1 := Lib.hid ((Below.refl w.heap.size w).alloc (Nat.le_refl _) (.cells #[.int .i64 0, .slice none 0 0, .int .i64 0, .int .i64 0] 36))
  have C1 := Lib.hid (Cells4.new w (.int .i64 0) (.slice none 0 0) (.int .i64 0) (.int .i64 0) 36)
  have RW := Lib.hid k5
  have CK := Lib.hid (check_calls fc fr ft b m d fx _ (RW.out.below B1.out))
  cases hk : checkP fc fx fr ft with
  | false =>
    rw [hk] at CK
    rw [if_neg (by unfold FacD.ok; rw [hk]; simp)]
    clear k5 hk
    go_enter Try.func38, Try.ntmps38
    go_wp2_with (go_at_call 39; go_must (refine CK.out.mono ?_; rintro e w1 ⟨rfl, hb1⟩; have E1 := Lib.hid (C1.out.below hb1); obtain ⟨c0, c1, c2, c3, _, _, _, _⟩ := E1.out; have BL := Lib.hid (B1.out.trans (hb1.mono (by simp))); clear hb1))
    have P4 := E1.out.put (.int .i64 0) (.slice none 0 0) (.int .i64 0) (.int .i64 0)
    exact bodyPost_ret (v := .tuple #[facZ, .int .i64 1]) (by simp [results, Try.results38, go_sem, facZ, P4.c0, P4.c1, P4.c2, P4.c3]) rfl ⟨facE_no _ rfl, below_put4 BL.out (Nat.le_refl _) _ _ _ _⟩
  | true =>
    rw [hk] at CK
    rw [if_pos (by unfold FacD.ok; rw [hk])]
    clear k5 hk
    go_enter Try.func38, Try.ntmps38
    go_wp2_with (go_at_call 39; go_must (refine CK.out.mono ?_; rintro e w1 ⟨rfl, hb1⟩; have E1 := Lib.hid (C1.out.below hb1); obtain ⟨c0, c1, c2, c3, _, _, _, _⟩ := E1.out; have BL := Lib.hid (B1.out.trans (hb1.mono (by simp))); have hc' := (BL.out.cell (p := ⟨bs, 0, none⟩) hbs).trans hc; have k1' := (BL.out.cell (p := ⟨blk, off + i * 4, none⟩) hbk).trans k1; have k2' := (BL.out.cell (p := ⟨blk, off + i * 4 + 1, none⟩) hbk).trans k2; have k3' := (BL.out.cell (p := ⟨blk, off + i * 4 + 2, none⟩) hbk).trans k3; have k4' := (BL.out.cell (p := ⟨blk, off + i * 4 + 3, none⟩) hbk).trans k4; clear hb1))
    have P4 := E1.out.put (.int .i64 fc) (.slice b m d) (.int .i64 fr) (.int .i64 ft)
    exact bodyPost_ret (v := .tuple #[.agg #[.int .i64 fc, .slice b m d, .int .i64 fr, .int .i64 ft], .int .i64 0]) (by simp [results, Try.results38, go_sem, P4.c0, P4.c1, P4.c2, P4.c3]) rfl ⟨⟨b, m, d, rfl, ((RW.out.below BL.out).put4 E1.out slice_ne _ _ _ _)⟩, below_put4 BL.out (Nat.le_refl _) _ _ _ _⟩

/-- a stack of factors of one's own -/
def OwnF (w : World) (B : Nat) (v : Value) (Fs : List FacD) : Prop :=
  ∃ cs, w.ownsRow B 36 4 v Fs.length cs ∧ NoF w v ∧ ∀ i, i < Fs.length → ∃ b m d, cs[i * 4]? = some (.int .i64 (Fs.getD i fac0).cols) ∧ cs[i * 4 + 1]? = some (.slice b m d) ∧
    cs[i * 4 + 2]? = some (.int .i64 (Fs.getD i fac0).rws) ∧ cs[i * 4 + 3]? = some (.int .i64 (Fs.getD i fac0).trn) ∧ Row w (.slice b m d) (Fs.getD i fac0).xs
theorem ownF_nil (w : World) (B : Nat) : OwnF w B (.slice none 0 0) [] := ⟨[], World.ownsRow_nil _ _ _ _, noF_nil _, fun _ hi => absurd hi (Nat.not_lt_zero _)⟩
theorem owns_lt {w : World} {B : Nat} {e : TypeId} {sz n : Nat} {v : Value} {cs : List Value} (h : w.ownsRow B e sz v n cs) : ∀ g, v.ownBlock = some g → B ≤ g ∧ g < w.heap.size := by
  intro g hg
  rcases h.2 with ⟨rfl, _⟩ | ⟨g', cap, cur, rfl, h2, h3, _⟩
  · cases hg
  · cases hg
    exact ⟨h2, (Array.getElem?_eq_some_iff.1 h3).1⟩
theorem owns_below {w w' : World} {B C : Nat} {e : TypeId} {sz n : Nat} {v : Value} {cs : List Value} (h : w.ownsRow B e sz v n cs) (hb : Below C w w') (hC : w.heap.size ≤ C) : w'.ownsRow B e sz v n cs := by
  refine ⟨h.1, ?_⟩
  rcases h.2 with h0 | ⟨g, cap, cur, h1, h2, h3, h4⟩
  · exact .inl h0
  · have : g < w.heap.size := (Array.getElem?_eq_some_iff.1 h3).1
    exact .inr ⟨g, cap, cur, h1, h2, by rw [hb.block g (by omega)]; exact h3, h4⟩
theorem OwnF.base {w : World} {B : Nat} {v : Value} {Fs : List FacD} (h : OwnF w B v Fs) (k : Nat) (hk : v.ownBlock = some k) : B ≤ k := by
  obtain ⟨cs, h1, _⟩ := h
  exact (owns_lt h1 k hk).1
theorem OwnF.below {w w' : World} {B : Nat} {v : Value} {Fs : List FacD} (h : OwnF w B v Fs) (hb : Below w.heap.size w w') : OwnF w' B v Fs := by
  obtain ⟨cs, h1, h2, h3⟩ := h
  refine ⟨cs, owns_below h1 hb (Nat.le_refl _), h2.below hb (Nat.le_refl _) (fun g hg => (owns_lt h1 g hg).2), fun i hi => ?_⟩
  obtain ⟨b, m, d, k1, k2, k3, k4, k5⟩ := h3 i hi
  exact ⟨b, m, d, k1, k2, k3, k4, k5.below hb⟩
theorem OwnF.form {w : World} {B : Nat} {v : Value} {Fs : List FacD} (h : OwnF w B v Fs) : ∃ a cap, v = .slice a Fs.length cap ∧ Fs.length ≤ cap ∧ cap ≤ 9223372036854775807 := by
  obtain ⟨cs, h1, h2, h3⟩ := h
  rcases h1.2 with ⟨rfl, h0⟩ | ⟨g, cap, cur, rfl, _, _, q1, q2, _⟩
  · exact ⟨none, 0, by rw [h0], by omega, by omega⟩
  · unfold maxLen at q2
    exact ⟨_, cap, rfl, q1, by omega⟩
theorem OwnF.at {w : World} {B : Nat} {a : Option Addr} {n cap : Nat} {Fs : List FacD} (h : OwnF w B (.slice a n cap) Fs) (hn : 0 < n) : ∃ g, a = some ⟨g, 0, none⟩ ∧ B ≤ g ∧ ∀ i, i < n → ∃ b m d, w.cell? ⟨g, i * 4, none⟩ = some (.int .i64 (Fs.getD i fac0).cols) ∧ w.cell? ⟨g, i * 4 + 1, none⟩ = some (.slice b m d) ∧
    w.cell? ⟨g, i * 4 + 2, none⟩ = some (.int .i64 (Fs.getD i fac0).rws) ∧ w.cell? ⟨g, i * 4 + 3, none⟩ = some (.int .i64 (Fs.getD i fac0).trn) ∧ Row w (.slice b m d) (Fs.getD i fac0).xs := by
  obtain ⟨cs, h1, h2, h3⟩ := h
  have hle := h1.1
  rcases id h1.2 with ⟨e, _⟩ | ⟨g, cap', cur, e, q0, q1, q2, q3, q4, q5⟩
  · simp only [Value.slice.injEq] at e; omega
  · simp only [Value.slice.injEq] at e
    obtain ⟨rfl, rfl, rfl⟩ := e
    refine ⟨g, rfl, q0, fun i hi => ?_⟩
    obtain ⟨b, m, d, k1, k2, k3, k4, k5⟩ := h3 i hi
    refine ⟨b, m, d, ?_, ?_, ?_, ?_, k5⟩
    · rw [h1.cellAt (i * 4) (by omega)]; exact k1
    · rw [h1.cellAt (i * 4 + 1) (by omega)]; exact k2
    · rw [h1.cellAt (i * 4 + 2) (by omega)]; exact k3
    · rw [h1.cellAt (i * 4 + 3) (by omega)]; exact k4
theorem OwnF.take {w : World} {B : Nat} {a : Option Addr} {n cap : Nat} {Fs : List FacD} (h : OwnF w B (.slice a n cap) Fs) (hn : Fs.length = n) {k : Nat} (hk : k ≤ n) (hk0 : 0 < n) : OwnF w B (.slice a k cap) (Fs.take k) := by
  obtain ⟨cs, h1, h2, h3⟩ := h
  have hl : (Fs.take k).length = k := by rw [List.length_take]; omega
  refine ⟨cs.take (k * 4), ?_, ?_, fun i hi => ?_⟩
  · rw [hl]
    have hle := h1.1
    rcases h1.2 with ⟨e, e0⟩ | ⟨g, cap', cur, e, q0, q1, q2, q3, q4, q5⟩
    · omega
    · simp only [Value.slice.injEq] at e
      obtain ⟨rfl, _, rfl⟩ := e
      refine ⟨by rw [List.length_take]; omega, .inr ⟨g, cap, cur, rfl, q0, q1, by omega, q3, q4, ?_⟩⟩
      rw [← q5, List.take_take]
      congr 1
      omega
  · intro g hg
    exact h2 g (by
      cases a with
      | none => cases hg
      | some ad => exact hg)
  · rw [hl] at hi
    obtain ⟨b, m, d, k1, k2, k3, k4, k5⟩ := h3 i (by omega)
    have e : (Fs.take k).getD i fac0 = Fs.getD i fac0 := by rw [List.getD_eq_getElem?_getD, List.getElem?_take_of_lt hi, List.getD_eq_getElem?_getD]
    rw [e]
    exact ⟨b, m, d, by rw [List.getElem?_take_of_lt (by omega)]; exact k1, by rw [List.getElem?_take_of_lt (by omega)]; exact k2, by rw [List.getElem?_take_of_lt (by omega)]; exact k3, by rw [List.getElem?_take_of_lt (by omega)]; exact k4, k5⟩
theorem infoT : (Try.prog.info? 36).map (fun i => (i.zero, i.size, i.bytes)) = some (some facZ, 4, 48) := by kernel_rfl
theorem fcs_cells {W : World} {ad : Addr} {m c : Nat} {Gs : List FacD} (h : Fcs W (.slice (some ad) m c) Gs) : ∀ j, j < m * 4 → ∃ u, W.cell? (ad.add j) = some u ∧ u.oneCell' = true ∧ ∀ x, u ≠ .float .f64 x := by
  intro j hj
  obtain ⟨blk, off, e, hc⟩ := h.at (by omega)
  cases e
  obtain ⟨b, mm, d, k1, k2, k3, k4, _⟩ := hc (j / 4) (by omega)
  have ea : (⟨blk, off, none⟩ : Addr).add j = ⟨blk, off + j, none⟩ := by unfold Addr.add; by_cases e : j = 0 <;> simp [e]
  rw [ea]
  have hr : j % 4 = 0 ∨ j % 4 = 1 ∨ j % 4 = 2 ∨ j % 4 = 3 := by omega
  rcases hr with hr | hr | hr | hr
  · rw [show off + j = off + j / 4 * 4 by omega]; exact ⟨_, k1, rfl, fun x e => by cases e⟩
  · rw [show off + j = off + j / 4 * 4 + 1 by omega]; exact ⟨_, k2, rfl, fun x e => by cases e⟩
  · rw [show off + j = off + j / 4 * 4 + 2 by omega]; exact ⟨_, k3, rfl, fun x e => by cases e⟩
  · rw [show off + j = off + j / 4 * 4 + 3 by omega]; exact ⟨_, k4, rfl, fun x e => by cases e⟩
theorem wpList_append_FF (w : World) {ops : Array Oper} {rest : List Oper} {o : Oper} {a : Act} {Q : Exit → Act → World → Prop}
    (hg : o.guard = none) (s x : Operand) (hop : o.op = Op.call { callee := Callee.builtin Builtin.append, args := #[s, x], argTypes := #[31, 31] })
    (B : Nat) (v : Value) (Fs Gs : List FacD) (hs : a.eval s = v) (hown : OwnF w B v Fs) (ad : Addr) (m c : Nat) (hx : a.eval x = .slice (some ad) m c) (hG : Fcs w (.slice (some ad) m c) Gs)
    (b1 : Fs.length + Gs.length ≤ 1000) (b3 : B ≤ w.heap.size)
    (hK : ∀ v' w', OwnF w' B v' (Fs ++ Gs) → w.grownBy w' v.ownBlock → wpList Try.prog ops Q rest (a.put o.dst v') w') :
    wpList Try.prog ops Q (o :: rest) a w := by
  obtain ⟨i0, hin, hz0, hz1, hz2⟩ := info_parts infoT
  obtain ⟨cs, h1, nf, h3⟩ := hown
  have hm := hG.len.1
  have hcl := h1.1
  have FC := fcs_cells hG
  obtain ⟨news, hnews⟩ : ∃ news : List Value, news = (List.range (m * 4)).map fun j => (w.cell? (ad.add j)).getD undef := ⟨_, rfl⟩
  have hnl : news.length = m * 4 := by rw [hnews]; simp
  have hat : ∀ j, j < m * 4 → news[j]? = w.cell? (ad.add j) := by
    intro j hj
    obtain ⟨u, hu, _⟩ := FC j hj
    rw [hnews, List.getElem?_map, List.getElem?_range hj, hu]
    simp [hu]
  have hmem : ∀ u ∈ news, u.oneCell' = true ∧ ∀ x, u ≠ .float .f64 x := by
    intro u hu
    obtain ⟨j, hj, rfl⟩ := List.getElem_of_mem hu
    rw [hnl] at hj
    obtain ⟨u', hu', h5⟩ := FC j hj
    have h6 := hat j hj
    rw [List.getElem?_eq_getElem (by rw [hnl]; exact hj), hu'] at h6
    rw [Option.some.inj h6]
    exact h5
  clear hnews
  refine wpList_append_NF w hg s x _ hop B 36 i0 facZ 4 48 Try.underlying31 hin hz0 hz1 hz2 rfl (by decide) v Fs.length cs hs h1 nf ?_ ad m c news hx hnl ?_ (fun u hu => (hmem u hu).1) (fun u hu => (hmem u hu).2) (by omega) (by omega) b3 ?_
  · intro u hu x e
    subst e
    simp [facZ, Value.cells] at hu
  · intro j u hu
    have hj : j < m * 4 := by rw [← hnl]; exact (List.getElem?_eq_some_iff.1 hu).1
    rw [← hat j hj]; exact hu
  · intro v' w' ho hgr nf'
    refine hK v' w' ⟨cs ++ news, by rw [List.length_append, hm]; exact ho, nf', fun i hi => ?_⟩ hgr
    rw [List.length_append, hm] at hi
    by_cases hlt : i < Fs.length
    · obtain ⟨b, mm, d, k1, k2, k3, k4, k5⟩ := h3 i hlt
      have e : (Fs ++ Gs).getD i fac0 = Fs.getD i fac0 := by rw [List.getD_eq_getElem?_getD, List.getElem?_append_left hlt, List.getD_eq_getElem?_getD]
      rw [e]
      exact ⟨b, mm, d, by rw [List.getElem?_append_left (by omega)]; exact k1, by rw [List.getElem?_append_left (by omega)]; exact k2, by rw [List.getElem?_append_left (by omega)]; exact k3, by rw [List.getElem?_append_left (by omega)]; exact k4, k5.grown hgr nf⟩
    · obtain ⟨q, rfl⟩ : ∃ q, i = Fs.length + q := ⟨i - Fs.length, by omega⟩
      have e : (Fs ++ Gs).getD (Fs.length + q) fac0 = Gs.getD q fac0 := by rw [List.getD_eq_getElem?_getD, List.getElem?_append_right (by omega), Nat.add_sub_cancel_left, List.getD_eq_getElem?_getD]
      rw [e]
      obtain ⟨blk, off, e2, hc⟩ := hG.at (by omega)
      cases e2
      obtain ⟨b, mm, d, k1, k2, k3, k4, k5⟩ := hc q (by omega)
      have ea : ∀ j, (⟨blk, off, none⟩ : Addr).add j = ⟨blk, off + j, none⟩ := by intro j; unfold Addr.add; by_cases e : j = 0 <;> simp [e]
      refine ⟨b, mm, d, ?_, ?_, ?_, ?_, k5.grown hgr nf⟩
      · rw [List.getElem?_append_right (by omega), hcl, show (Fs.length + q) * 4 - Fs.length * 4 = q * 4 by omega, hat _ (by omega), ea]; exact k1
      · rw [List.getElem?_append_right (by omega), hcl, show (Fs.length + q) * 4 + 1 - Fs.length * 4 = q * 4 + 1 by omega, hat _ (by omega), ea]; exact k2
      · rw [List.getElem?_append_right (by omega), hcl, show (Fs.length + q) * 4 + 2 - Fs.length * 4 = q * 4 + 2 by omega, hat _ (by omega), ea]; exact k3
      · rw [List.getElem?_append_right (by omega), hcl, show (Fs.length + q) * 4 + 3 - Fs.length * 4 = q * 4 + 3 by omega, hat _ (by omega), ea]; exact k4
theorem fcs_new {W : World} {F : FacD} {b : Option Addr} {m d g : Nat} (h : Row W (.slice b m d) F.xs) (hg : g = W.heap.size) :
    Fcs (W.alloc (.cells #[.int .i64 F.cols, .slice b m d, .int .i64 F.rws, .int .i64 F.trn] 36)) (.slice (some ⟨g, 0, none⟩) 1 1) [F] := by
  subst hg
  refine ⟨_, _, rfl, Nat.le_refl _, by unfold maxLen; simp, .inr ⟨_, _, rfl, fun i hi => ?_⟩⟩
  obtain rfl : i = 0 := by simp at hi; omega
  exact ⟨b, m, d, by simp [go_sem], by simp [go_sem], by simp [go_sem], by simp [go_sem], h.alloc _⟩
end Go.Proofs.Ytgmaljikjkbdlaa
