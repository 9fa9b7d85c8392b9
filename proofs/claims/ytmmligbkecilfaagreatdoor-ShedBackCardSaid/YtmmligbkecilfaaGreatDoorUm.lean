/- The lines of a factor as rows of data: the reference's Lines of layer 8. The reference's Lines of layer 8, walked. The reference's Rows and Factor of layer 8. The reference's entry, norms of layer 9. -/
import Derived.Test.YtmmligbkecilfaaGreatDoorUi
import Derived.Test.YtmmligbkecilfaaGreatDoorSm
import Derived.Test.YtmmligbkecilfaaGreatDoorUd
namespace Go.Proofs.YtmmligbkecilfaaGreatDoor
open Go.RowKit Lv Go.Shelf
attribute [local go_sem] Oper.semAt_some drewN_alloc drewN_setCell

/-- append to what is one's own: where it lies then -/
theorem run_append_at (w : World) (base : Nat) (t ty e : TypeId) (i : TypeInfo) (z : Value) (size bytes : Nat) (ht : Tryz.prog.underlying t = some (.slice e)) (hi : Tryz.prog.info? e = some i) (hz : i.zero = some z)
    (hsize : i.size = size) (hby : i.bytes = bytes) (hzs : z.cells.size = size) (hsz : 0 < size)
    (v : Value) (n : Nat) (xs : List Value) (hown : w.ownsRow base e size v n xs)
    (a : Addr) (m c : Nat) (news : List Value) (hl : news.length = m * size) (hnews : ∀ j u, news[j]? = some u → w.cell? (a.add j) = some u) (h1 : ∀ u ∈ news, u.oneCell' = true) (hm : m ≠ 0)
    (h63 : n + m ≤ 1000) (hbytes : (n + m) * bytes ≤ 140737488355328) (hbase : base ≤ w.heap.size) :
    ∃ v' w', (Builtin.append_ #[t, t] ty #[v, .slice (some a) m c]).run Tryz.prog w = .ok v' w' ∧ w'.ownsRow base e size v' (n + m) (xs ++ news) ∧ w.grownBy w' v.ownBlock ∧ (v'.ownBlock = v.ownBlock ∨ v'.ownBlock = some w.heap.size) ∧ w.heap.size ≤ w'.heap.size := by
  obtain ⟨v', w', hr, ho, hg, h4⟩ := run_append_own (P := Tryz.prog) w base t ty e i z size bytes ht hi hz hsize hby hzs hsz v n xs hown a m c news hl hnews h1 (by unfold maxLen; omega) hbytes hbase
  refine ⟨v', w', hr, ho, hg, ?_⟩
  subst hsize
  subst hby
  rcases hown.2 with ⟨rfl, rfl⟩ | ⟨g, cap, cur, rfl, hbg, hgc, hnc, hcm, hcs, htake⟩
  · have hr2 := run_append_nil (P := Tryz.prog) w t ty e i z ht hi hz a m c news hl hnews (by omega) (by omega) (by rw [Nat.zero_add] at hbytes; omega)
    rw [hr2] at hr
    cases hr
    exact ⟨.inr rfl, by simp⟩
  · by_cases hroom : n + m ≤ cap
    · have hfit : n * i.size + news.length ≤ cur.size := by rw [hl, hcs, ← Nat.add_mul]; exact Nat.mul_le_mul_right _ hroom
      have hr2 := run_append_room (P := Tryz.prog) w t ty e i ht hi g n cap cur hgc a m c news hl hnews h1 hroom hfit
      rw [hr2] at hr
      cases hr
      exact ⟨.inl rfl, by simp⟩
    · have holds : ∀ j u, xs[j]? = some u → w.cell? ((⟨g, 0, none⟩ : Addr).add j) = some u := hown.cells (g := g) rfl
      have hr2 := run_append_grow (P := Tryz.prog) w t ty e i z ht hi hz ⟨g, 0, none⟩ n cap xs hown.1 holds a m c news hl hnews (by omega) (by omega) (by
        have := nextslicecap_le (need := n + m) (old := cap) (by omega)
        have h2 := Nat.mul_le_mul_right i.bytes this
        have h3 : 2 * (n + m) * i.bytes = 2 * ((n + m) * i.bytes) := Nat.mul_assoc _ _ _
        omega)
      rw [hr2] at hr
      cases hr
      exact ⟨.inr rfl, by simp⟩
theorem Row.kept {w w' : World} {g n d : Nat} {xs : List (Option Nat)} {row : Option Nat} (h : Row w (.slice (some ⟨g, 0, none⟩) n d) xs) (hg : w.grownBy w' row) (hne : some g ≠ row) : Row w' (.slice (some ⟨g, 0, none⟩) n d) xs := by
  obtain ⟨a, cap, e, h1, h2, h3⟩ := h
  refine ⟨a, cap, e, h1, h2, ?_⟩
  rcases h3 with h3 | ⟨blk, off, ea, hc⟩
  · exact .inl h3
  · refine .inr ⟨blk, off, ea, fun i hi => ?_⟩
    obtain ⟨b, hb1, hb2⟩ := hc i hi
    rw [ea] at e
    simp only [Value.slice.injEq, Option.some.injEq, Addr.mk.injEq, and_true] at e
    obtain ⟨⟨rfl, rfl⟩, _⟩ := e
    exact ⟨b, hg.cell hb1 hne, hb2⟩
/-- rows of one's own, each in a block of its own -/
def OwnR (w : World) (B : Nat) (v : Value) (rs : List RowD) : Prop :=
  ∃ cs, w.ownsRow B 27 2 v rs.length cs ∧ ∀ i, i < rs.length → ∃ g n d y, cs[i * 2]? = some (.slice (some ⟨g, 0, none⟩) n d) ∧ cs[i * 2 + 1]? = some (.float .f64 y) ∧
    Row w (.slice (some ⟨g, 0, none⟩) n d) (rs.getD i ([], none)).1 ∧ FW y (rs.getD i ([], none)).2 ∧ v.ownBlock ≠ some g ∧ g < w.heap.size
theorem ownR_nil (w : World) (B : Nat) : OwnR w B (.slice none 0 0) [] := ⟨[], World.ownsRow_nil _ _ _ _, fun _ hi => absurd hi (Nat.not_lt_zero _)⟩
theorem OwnR.base {w : World} {B : Nat} {v : Value} {rs : List RowD} (h : OwnR w B v rs) (k : Nat) (hk : v.ownBlock = some k) : B ≤ k := by
  obtain ⟨cs, h1, _⟩ := h
  exact (q_owns_lt h1 k hk).1
theorem OwnR.lt {w : World} {B : Nat} {v : Value} {rs : List RowD} (h : OwnR w B v rs) (k : Nat) (hk : v.ownBlock = some k) : k < w.heap.size := by
  obtain ⟨cs, h1, _⟩ := h
  exact (q_owns_lt h1 k hk).2
theorem OwnR.below {w w' : World} {B : Nat} {v : Value} {rs : List RowD} (h : OwnR w B v rs) (hb : Below w.heap.size w w') : OwnR w' B v rs := by
  obtain ⟨cs, h1, h3⟩ := h
  refine ⟨cs, q_owns_below h1 hb (Nat.le_refl _), fun i hi => ?_⟩
  obtain ⟨g, n, d, y, k1, k2, k3, k4, k5, k6⟩ := h3 i hi
  exact ⟨g, n, d, y, k1, k2, k3.below hb, k4, k5, Nat.lt_of_lt_of_le k6 hb.size⟩
theorem OwnR.monoB {w : World} {B B' : Nat} {v : Value} {rs : List RowD} (h : OwnR w B v rs) (hB : B' ≤ B) : OwnR w B' v rs := by
  obtain ⟨cs, h1, h3⟩ := h
  refine ⟨cs, ⟨h1.1, ?_⟩, h3⟩
  rcases h1.2 with h0 | ⟨g, cap, cur, q1, q2, q3⟩
  · exact .inl h0
  · exact .inr ⟨g, cap, cur, q1, Nat.le_trans hB q2, q3⟩
theorem OwnR.rws {w : World} {B : Nat} {v : Value} {rs : List RowD} (h : OwnR w B v rs) : Rws w v rs := by
  obtain ⟨cs, h1, h3⟩ := h
  rcases id h1.2 with ⟨rfl, h0⟩ | ⟨g, cap, cur, rfl, _, _, q1, q2, _⟩
  · exact ⟨none, 0, by rw [h0], by omega, by unfold maxLen; omega, .inl h0⟩
  · refine ⟨_, cap, rfl, q1, q2, .inr ⟨g, 0, rfl, fun i hi => ?_⟩⟩
    obtain ⟨g', n, d, y, k1, k2, k3, k4, _⟩ := h3 i hi
    refine ⟨_, n, d, y, ?_, ?_, k3, k4⟩
    · rw [Nat.zero_add, h1.cellAt (i * 2) (by omega)]; exact k1
    · rw [Nat.zero_add, h1.cellAt (i * 2 + 1) (by omega)]; exact k2
theorem infoR : (Tryz.prog.info? 27).map (fun i => (i.zero, i.size, i.bytes)) = some (some (.agg #[.slice none 0 0, .float .f64 0]), 2, 32) := by kernel_rfl
theorem run_append_RR (w : World) (ty : TypeId) (B : Nat) (v : Value) (rs : List RowD) (hown : OwnR w B v rs) (blk m c g n d y : Nat) (xs : List (Option Nat)) (Y : Option Nat) (hm : m = 1)
    (k1 : w.cell? ⟨blk, 0, none⟩ = some (.slice (some ⟨g, 0, none⟩) n d)) (k2 : w.cell? ⟨blk, 1, none⟩ = some (.float .f64 y)) (hx : Row w (.slice (some ⟨g, 0, none⟩) n d) xs) (hy : FW y Y) (hne : v.ownBlock ≠ some g) (hlt : g < w.heap.size)
    (b1 : rs.length + 1 ≤ 1000) (b3 : B ≤ w.heap.size) :
    ∃ v' w', (Builtin.append_ #[42, 42] ty #[v, .slice (some ⟨blk, 0, none⟩) m c]).run Tryz.prog w = .ok v' w' ∧ OwnR w' B v' (rs ++ [(xs, Y)]) ∧ w.grownBy w' v.ownBlock := by
  subst hm
  obtain ⟨i0, hin, hz0, hz1, hz2⟩ := info_parts infoR
  obtain ⟨cs, h1, h3⟩ := hown
  have hcl := h1.1
  obtain ⟨v', w', hr, ho, hgr, hv, hsz⟩ := run_append_at w B 42 ty 27 i0 _ 2 32 Tryz.underlying42 hin hz0 hz1 hz2 rfl (by decide) v rs.length cs h1 ⟨blk, 0, none⟩ 1 c [.slice (some ⟨g, 0, none⟩) n d, .float .f64 y] rfl (by
    intro j u hu
    have hj : j < 2 := (List.getElem?_eq_some_iff.1 hu).1
    have hr : j = 0 ∨ j = 1 := by omega
    rcases hr with rfl | rfl
    · cases hu; exact k1
    · cases hu; exact k2) (by
    intro u hu
    simp only [List.mem_cons, List.not_mem_nil, or_false] at hu
    rcases hu with rfl | rfl <;> rfl) (by decide) b1 (by omega) b3
  refine ⟨v', w', hr, ⟨cs ++ [.slice (some ⟨g, 0, none⟩) n d, .float .f64 y], by rw [List.length_append]; exact ho, fun i hi => ?_⟩, hgr⟩
  rw [List.length_append, List.length_singleton] at hi
  have hnn : ∀ k, k < w.heap.size → v.ownBlock ≠ some k → v'.ownBlock ≠ some k := by
    intro k hk hk2
    rcases hv with hv | hv <;> rw [hv]
    · exact hk2
    · intro e; injection e with e; omega
  by_cases hlti : i < rs.length
  · obtain ⟨g', n', d', y', q1, q2, q3, q4, q5, q6⟩ := h3 i hlti
    have e : (rs ++ [(xs, Y)]).getD i ([], none) = rs.getD i ([], none) := by rw [List.getD_eq_getElem?_getD, List.getElem?_append_left hlti, List.getD_eq_getElem?_getD]
    rw [e]
    exact ⟨g', n', d', y', by rw [List.getElem?_append_left (by omega)]; exact q1, by rw [List.getElem?_append_left (by omega)]; exact q2, q3.kept hgr (fun e => q5 e.symm), q4, hnn _ q6 q5, by omega⟩
  · obtain rfl : i = rs.length := by omega
    have e : (rs ++ [(xs, Y)]).getD rs.length ([], none) = (xs, Y) := by rw [List.getD_eq_getElem?_getD, List.getElem?_append_right (Nat.le_refl _), Nat.sub_self]; rfl
    rw [e]
    exact ⟨g, n, d, y, by rw [List.getElem?_append_right (by omega), hcl, Nat.sub_self]; rfl, by rw [List.getElem?_append_right (by omega), hcl, Nat.add_sub_cancel_left]; rfl, hx.kept hgr (fun e => hne e.symm), hy, hnn _ hlt hne, by omega⟩
theorem step_append_RR {w : World} {ops : Array Oper} {o : Oper} {a : Act} {K : Act → World → Prop} {Q : Exit → Act → World → Prop} {E : Prop} (hgd : o.guard = none) (s x : Operand)
    (hop : o.op = Op.call { callee := Callee.builtin Builtin.append, args := #[s, x], argTypes := #[42, 42] })
    (B : Nat) (v : Value) (rs : List RowD) (hs : a.eval s = v) (hown : OwnR w B v rs) (blk c g n d y : Nat) (xs : List (Option Nat)) (Y : Option Nat) (hx : a.eval x = .slice (some ⟨blk, 0, none⟩) 1 c)
    (k1 : w.cell? ⟨blk, 0, none⟩ = some (.slice (some ⟨g, 0, none⟩) n d)) (k2 : w.cell? ⟨blk, 1, none⟩ = some (.float .f64 y)) (hxs : Row w (.slice (some ⟨g, 0, none⟩) n d) xs) (hy : FW y Y) (hne : v.ownBlock ≠ some g) (hlt : g < w.heap.size)
    (b1 : rs.length + 1 ≤ 1000) (b3 : B ≤ w.heap.size)
    (hK : ∀ v' w', OwnR w' B v' (rs ++ [(xs, Y)]) → w.grownBy w' v.ownBlock → K (a.put o.dst v') w') :
    if Region.wanted o (yielded ops a.tmps) = true then Oper.wp Tryz.prog o a w K Q else E := by
  have hw : Region.wanted o (yielded ops a.tmps) = true := by simp [Region.wanted, hgd]
  rw [if_pos hw]
  obtain ⟨v', w', hr, h2, h3⟩ := run_append_RR w o.type B v rs hown blk 1 c g n d y xs Y rfl k1 k2 hxs hy hne hlt b1 b3
  unfold Oper.wp execOp
  simp only [hop, resolve, invoke, builtin, Sem.run_bind, Sem.run_pure, Result.andThen_ok, List.map_toArray, List.map_cons, List.map_nil, hs, hx, hr]
  exact hK v' w' h2 h3
end Go.Proofs.YtmmligbkecilfaaGreatDoor
namespace Go.Proofs.YtmmligbkecilfaaGreatDoor
open Go.RowKit Lv Go.Shelf
attribute [local go_sem] Oper.semAt_some drewN_alloc drewN_setCell

/-- a factor's lines as rows -/
def linesD (xs : List (Option Nat)) (c : Nat) : List RowD := (List.range (c + 1)).map fun i => ((lineP xs c i).take c, (lineP xs c i).getD c none)
theorem linesD_take (xs : List (Option Nat)) (c i : Nat) (hi : i ≤ c) : (linesD xs c).take (i + 1) = (linesD xs c).take i ++ [((lineP xs c i).take c, (lineP xs c i).getD c none)] := by
  unfold linesD
  rw [List.take_succ_eq_append_getElem (by simp; omega)]
  simp
theorem linesD_len (xs : List (Option Nat)) (c : Nat) : (linesD xs c).length = c + 1 := by unfold linesD; simp
theorem linesD_get {xs : List (Option Nat)} {c i : Nat} (hi : i ≤ c) : (linesD xs c).getD i ([], none) = ((lineP xs c i).take c, (lineP xs c i).getD c none) := by
  unfold linesD
  rw [List.getD_eq_getElem?_getD, List.getElem?_map, List.getElem?_range (by omega)]
  rfl
theorem Row.takeR {w : World} {a : Option Addr} {n cap k : Nat} {xs : List (Option Nat)} (h : Row w (.slice a n cap) xs) (h1 : 1 ≤ k) (hk : k ≤ n) : Row w (.slice a k cap) (xs.take k) := by
  obtain ⟨a', cap', e, q1, q2, q3⟩ := h
  simp only [Value.slice.injEq] at e
  obtain ⟨rfl, hl, rfl⟩ := e
  have e2 : (xs.take k).length = k := by rw [List.length_take]; omega
  refine ⟨a, cap, by rw [e2], by rw [e2]; omega, q2, ?_⟩
  rcases q3 with ⟨q3, _⟩ | ⟨blk, off, ea, hc⟩
  · omega
  · refine .inr ⟨blk, off, ea, fun i hi => ?_⟩
    rw [e2] at hi
    obtain ⟨b, hb1, hb2⟩ := hc i (by omega)
    refine ⟨b, hb1, ?_⟩
    rw [List.getD_eq_getElem?_getD, List.getElem?_take_of_lt hi, ← List.getD_eq_getElem?_getD]
    exact hb2

set_option maxRecDepth 100000 in
set_option maxHeartbeats 1000000 in
theorem glines_calls (c : Nat) (rws trn : Int) (a : Option Addr) (n cap : Nat) (xs : List (Option Nat)) (w : World) (h : Row w (.slice a n cap) xs) (hok : checkP (c : Int) xs rws trn = true) :
    Calls Tryz.prog 19 #[.agg #[.int .i64 (c : Int), .slice a n cap, .int .i64 rws, .int .i64 trn]] w fun e w' => (∃ v, e = .returned v ∧ OwnR w' w.heap.size v (linesD xs c)) ∧ Below w.heap.size w w' := by
  obtain ⟨hc1, hc6⟩ := checkP_cols hok
  have h1 : 1 ≤ c := by omega
  have h6 : c ≤ 6 := by omega
  have hxl := checkP_len hok
  have B0 := Lib.hid ((Below.refl w.heap.size w).alloc (Nat.le_refl _) (.cells #[.int .i64 (c : Int), .slice a n cap, .int .i64 rws, .int .i64 trn] 24))
  have C0 := Lib.hid (Cells4.new w (.int .i64 (c : Int)) (.slice a n cap) (.int .i64 rws) (.int .i64 trn) 24)
  have LL := Lib.hid (fun i (hi : i ≤ c) => lineP_len h1 h6 hxl hi)
  have RL := Lib.hid (fun i (hi : i ≤ c) W hW => rline7_calls c i rws trn a n cap xs W hW hok hi)
  have HR := Lib.hid h
  clear h hok hc1 hc6 hxl
  obtain ⟨m, hm⟩ : ∃ m, c + 1 = m := ⟨_, rfl⟩
  have hmi : (c : Int) + 1 = (m : Int) := by omega
  have hwc : IntKind.i64.wrap (m : Int) = (m : Int) := IntWalk.i64_in _ (by omega)
  go_enter Tryz.func19, Tryz.ntmps19
  go_wp2
  go_loopw [3, 4] (fun s3 s4 wr => ∃ i : Nat, s4 = .int .i64 (i : Int) ∧ i ≤ m ∧ Hid (OwnR wr (w.heap.size + 1) s3 ((linesD xs c).take i) ∧ Cells4 wr w.heap.size (.int .i64 (c : Int)) (.slice a n cap) (.int .i64 rws) (.int .i64 trn) ∧ Below w.heap.size w wr)) (fun _ s4 _ => m - (intOf s4).toNat)
  case atStart => exact ⟨0, rfl, Nat.zero_le _, ownR_nil _ _, C0.out, B0.out⟩
  case round =>
    obtain ⟨i, rfl, hi, HI⟩ := hrel
    obtain ⟨c0, c1, c2, c3, _, _, _, _⟩ := HI.out.2.1
    have hb0 := HI.out.2.1.lt
    by_cases hlt : i ≤ c
    · have hii : (i : Int) ≤ (c : Int) := by omega
      have HLC := Lib.hid (RL.out i hlt wr (HR.out.below HI.out.2.2))
      have hli := LL.out i hlt
      have HTK := Lib.hid (linesD_take xs c i hlt)
      have HLN := Lib.hid (show ((linesD xs c).take i).length + 1 ≤ 1000 by rw [List.length_take]; omega)
      generalize lineP xs c i = l at *
      rw [hm] at hli
      have HLI := Lib.hid hli
      clear hli
      have hne : ((m : Int) != (m : Int)) = false := by simp
      go_upto_region 8 with (go_at_call 41; go_must (refine HLC.out.mono ?_; rintro e w2 ⟨⟨v, rfl, hv⟩, hb⟩; have HV := Lib.hid hv; obtain ⟨g, gc, hv0, hg1, hg2, hg3, hg4⟩ := hv.shape (by rw [HLI.out]; omega); rw [HLI.out] at hv0 hg3; subst hv0; have C2 := Lib.hid (HI.out.2.1.below hb); clear c0 c1 c2 c3; obtain ⟨c0, c1, c2, c3, _, _, _, _⟩ := C2.out; have HB2 := Lib.hid hb; have hs2 := Lib.hid hb.size; clear hv hb))
      obtain ⟨y, hy, hfy⟩ := HV.out.cell HLI.out (j := c) (by omega)
      have HFY := Lib.hid hfy
      have HRT := Lib.hid (HV.out.row.takeR (k := c) h1 (by omega))
      have hcc : (c : Int) ≤ (gc : Int) := by omega
      have hc0 : (0 : Int) ≤ (c : Int) := by omega
      have hcm : (c : Int) < (m : Int) := by omega
      have HO := Lib.hid (HI.out.1.below HB2.out)
      have HNE := Lib.hid (show u3.ownBlock ≠ some g ∧ u3.ownBlock ≠ some w.heap.size from ⟨fun e => by have := HI.out.1.lt _ e; omega, fun e => by have := HI.out.1.base _ e; omega⟩)
      have KP := Lib.hid (show ∀ W, Below w2.heap.size w2 W → W.cell? ⟨w.heap.size, 0, none⟩ = some (.int .i64 (c : Int)) ∧ W.cell? ⟨g, c, none⟩ = some (.float .f64 y) from fun W hb => ⟨(hb.cell (p := ⟨w.heap.size, 0, none⟩) (cell_lt c0)).trans c0, (hb.cell (p := ⟨g, c, none⟩) (cell_lt hy)).trans hy⟩)
      have BD := Lib.hid ((Below.refl w2.heap.size w2).drew)
      have K0 := Lib.hid (KP.out _ BD.out)
      have B7 := Lib.hid (((Below.refl w2.heap.size w2).alloc (Nat.le_refl _) (.cells #[.slice (some ⟨g, 0, none⟩) c gc, .float .f64 y] 27)).drew)
      have K2 := Lib.hid (KP.out _ B7.out)
      have HS7 := Lib.hid (show w.heap.size + 1 ≤ (w2.alloc (.cells #[.slice (some ⟨g, 0, none⟩) c gc, .float .f64 y] 27)).drew.heap.size ∧ g < (w2.alloc (.cells #[.slice (some ⟨g, 0, none⟩) c gc, .float .f64 y] 27)).drew.heap.size by
        have h1 := B7.out.size
        have h2 := hs2.out
        have h3 := hb0
        omega)
      have BW := Lib.hid (HI.out.2.2.trans ((HB2.out.trans (B7.out.mono hs2.out)).mono HI.out.2.2.size))
      clear c0 c1 c2 c3 hy
      go_region_held3 (fun w' => w'.cell? ⟨w.heap.size, 0, none⟩ = some (.int .i64 (c : Int)) ∧ w'.cell? ⟨g, c, none⟩ = some (.float .f64 y))
        (first
          | with_reducible exact K0.out
          | with_reducible exact K2.out
          | with_reducible exact K3.out)
        (first | (refine step_append_RR rfl _ _ (by rfl) (w.heap.size + 1) _ _ (by rfl) (HO.out.below B7.out) _ _ g c gc y (l.take c) (l.getD c none) (by rfl) (by simp [go_sem]) (by simp [go_sem]) (HRT.out.below B7.out) HFY.out HNE.out.1 HS7.out.2 HLN.out HS7.out.1 ?_; intro v8 w8 hown8 hg8; have hg9 : World.grownBy _ w8 u3.ownBlock := hg8; have K3 := Lib.hid (And.intro (hg9.cell K2.out.1 (fun e => HNE.out.2 e.symm)) (hg9.cell K2.out.2 (fun e => HNE.out.1 e.symm))); have B8 := Lib.hid (BW.out.grown hg9 BW.out.size (fun k e => Nat.le_trans (Nat.le_succ _) (HI.out.1.base k e))); have C8 := Lib.hid ((C2.out.below B7.out).grown hg9 (fun e => HNE.out.2 e.symm)); clear hg9))
      replace hown8 := Lib.hid (show OwnR w8 (w.heap.size + 1) v8 ((linesD xs c).take (i + 1)) by rw [HTK.out]; exact hown8)
      clear hg8
      go_wp2
      go_roundw
      case rel => exact ⟨i + 1, by go_num, by omega, hown8.out, C8.out, B8.out⟩
      case measure => simp [intOf]; omega
    · obtain rfl : i = m := by omega
      have hii : ¬ (i : Int) ≤ (c : Int) := by omega
      go_wp2
      go_ret
      exact ⟨⟨_, rfl, by
        have h := HI.out.1
        rw [List.take_of_length_le (by rw [linesD_len]; omega)] at h
        exact h.monoB (Nat.le_succ _)⟩, HI.out.2.2⟩
end Go.Proofs.YtmmligbkecilfaaGreatDoor
namespace Go.Proofs.YtmmligbkecilfaaGreatDoor
open Go.RowKit Lv Go.Shelf
attribute [local go_sem] Oper.semAt_some drewN_alloc drewN_setCell

/-- what rows' products come to, one after the other -/
def gramL (c : Nat) (rs : List RowD) : List Rat := rs.foldl (fun s r => addL s (prs ((r.1 ++ [r.2]).map fv))) (List.replicate (tsz c) 0)
/-- a row of finite floats, none of them great -/
structure RowOk (c A : Nat) (r : RowD) : Prop where
  len : r.1.length = c
  fn : ∀ x ∈ r.1 ++ [r.2], Lv.Fn x
  bd : ∀ x ∈ r.1 ++ [r.2], Bd (fv x) (p2 A)
theorem RowOk.prs {c A : Nat} {r : RowD} (h : RowOk c A r) : (prs ((r.1 ++ [r.2]).map fv)).length = tsz c := by
  have h1 := prs_len ((r.1 ++ [r.2]).map fv)
  rw [List.length_map, List.length_append, h.len, List.length_singleton] at h1
  have h2 : 2 * (Proofs.YtmmligbkecilfaaGreatDoor.prs ((r.1 ++ [r.2]).map fv)).length = (c + 1) * (c + 2) := h1
  unfold tsz
  generalize (c + 1) * (c + 2) = z at *
  omega
theorem prs_bd {l : List Rat} {A : Nat} (h : ∀ x ∈ l, Bd x (p2 A)) : ∀ z ∈ prs l, Bd z (p2 ((A + A : Nat) : Int)) := by
  induction l with
  | nil => intro z hz; cases hz
  | cons x t ih =>
    intro z hz
    unfold Proofs.YtmmligbkecilfaaGreatDoor.prs at hz
    rw [List.mem_append] at hz
    rcases hz with hz | hz
    · obtain ⟨u, hu, rfl⟩ := List.mem_map.1 hz
      exact bd_mul_p2 (h x (List.mem_cons_self ..)) (h u hu)
    · exact ih (fun u hu => h u (List.mem_cons_of_mem _ hu)) z hz
theorem RowOk.pbd {c A : Nat} {r : RowD} (h : RowOk c A r) : ∀ z ∈ Proofs.YtmmligbkecilfaaGreatDoor.prs ((r.1 ++ [r.2]).map fv), Bd z (p2 ((A + A : Nat) : Int)) := prs_bd (fun x hx => by
  obtain ⟨y, hy, rfl⟩ := List.mem_map.1 hx
  exact h.bd y hy)
theorem zero_bd (A : Nat) : Bd 0 (p2 (A : Int)) := by have := p2_pos (A : Int); unfold Bd; grind
theorem getD_memQ {l : List Rat} {i : Nat} (hi : i < l.length) : l.getD i 0 ∈ l := by
  rw [List.getD_eq_getElem?_getD, List.getElem?_eq_getElem hi]
  exact List.getElem_mem hi
theorem gramL_snoc (c : Nat) (rs : List RowD) (r : RowD) : gramL c (rs ++ [r]) = addL (gramL c rs) (prs ((r.1 ++ [r.2]).map fv)) := by
  unfold gramL; rw [List.foldl_append]; rfl
theorem gramL_ok {c A : Nat} (rs : List RowD) (h : ∀ r ∈ rs, RowOk c A r) : (gramL c rs).length = tsz c ∧ ∀ j, j < tsz c → Bd ((gramL c rs).getD j 0) (p2 ((A + A + rs.length : Nat) : Int)) := by
  have : ∀ n, n ≤ rs.length → (gramL c (rs.take n)).length = tsz c ∧ ∀ j, j < tsz c → Bd ((gramL c (rs.take n)).getD j 0) (p2 ((A + A + n : Nat) : Int)) := by
    intro n
    induction n with
    | zero =>
      intro _
      refine ⟨by simp [gramL], fun j hj => ?_⟩
      have : (gramL c (rs.take 0)).getD j 0 = 0 := by
        simp only [List.take_zero, gramL, List.foldl_nil]
        rw [List.getD_eq_getElem?_getD, List.getElem?_replicate]; split <;> rfl
      rw [this]
      exact zero_bd _
    | succ n ih =>
      intro hn
      obtain ⟨h1, h2⟩ := ih (by omega)
      have ht : rs.take (n + 1) = rs.take n ++ [rs[n]] := List.take_succ_eq_append_getElem (by omega)
      have hr := h rs[n] (List.getElem_mem _)
      rw [ht, gramL_snoc]
      refine ⟨addL_len h1 hr.prs, fun j hj => ?_⟩
      rw [addL_get h1 hr.prs hj]
      have h3 := h2 j hj
      have h4 := bd_p2_mono (hr.pbd _ (getD_memQ (i := j) (by rw [hr.prs]; exact hj))) (show A + A ≤ A + A + n by omega)
      exact bd_add_p2 h3 h4
  have := this rs.length (Nat.le_refl _)
  rwa [List.take_length] at this
theorem takeR_snoc {rs : List RowD} {i : Nat} (h : i < rs.length) : rs.take (i + 1) = rs.take i ++ [rs.getD i ([], none)] := by
  rw [List.take_succ_eq_append_getElem h, List.getD_eq_getElem?_getD, List.getElem?_eq_getElem h]
  rfl
theorem getD_memR {rs : List RowD} {i : Nat} (h : i < rs.length) : rs.getD i ([], none) ∈ rs := by
  rw [List.getD_eq_getElem?_getD, List.getElem?_eq_getElem h]
  exact List.getElem_mem h

set_option maxRecDepth 100000 in
set_option maxHeartbeats 1000000 in
theorem growsQ_calls (c k A : Nat) (t : Option Addr) (kc : Nat) (rs : List RowD) (w : World) (h : Rws w (.slice t k kc) rs) (h1 : 1 ≤ c) (h6 : c ≤ 6) (hk : k ≤ 28) (hr : ∀ r ∈ rs, RowOk c A r) (hA2 : A ≤ 1024) :
    Calls Tryz.prog 18 #[.int .i64 (c : Int), .slice t k kc] w fun e w' => (∃ v, e = .returned (.tuple #[v, .bool true]) ∧ OwnQ w' w.heap.size v (gramL c rs) 2148) ∧ Below w.heap.size w w' := by
  have hl := h.len.1
  obtain ⟨s, hs⟩ : ∃ s, tsz c = s := ⟨_, rfl⟩
  have hb := tsz_bounds h1 h6
  have SZ := Lib.hid (rsizeI_calls (c : Int))
  rw [show sizeI (c : Int) = (s : Int) by unfold sizeI; rw [if_pos ⟨by omega, by omega⟩, Int.toNat_natCast, hs]] at SZ
  have ZR := Lib.hid (gzero_calls c w 2148 h1 h6)
  rw [hs] at hb ZR
  have hs0 : ((s : Int) == 0) = false := by simp; omega
  have HR := Lib.hid h
  have HO := Lib.hid hr
  have HL := Lib.hid hl
  have HG := Lib.hid (fun n (hn : n ≤ k) => gramL_ok (c := c) (A := A) (rs.take n) (fun r hm => hr r (List.mem_of_mem_take hm)))
  have hcc : ((c : Int) != (c : Int)) = false := by simp
  have HS := Lib.hid hs
  clear h hr hl hs
  go_enter Tryz.func18, Tryz.ntmps18
  go_upto_region 4 with (first
    | (go_at_call 20; go_must (refine (SZ.out _).mono ?_; rintro e w1 ⟨rfl, rfl⟩))
    | (go_at_call 40; go_must (refine ZR.out.mono ?_; rintro e w1 ⟨⟨v, rfl, hv⟩, hb⟩; have O1 := Lib.hid hv; have B1 := Lib.hid hb; clear hv hb)))
  go_wp2
  go_loopw [6, 7] (fun s6 s7 wr => ∃ i : Nat, s7 = .int .i64 (i : Int) ∧ i ≤ k ∧ Hid (OwnQ wr w.heap.size s6 (gramL c (rs.take i)) 2148 ∧ Below w.heap.size w wr)) (fun _ s7 _ => k - (intOf s7).toNat)
  case atStart => exact ⟨0, rfl, Nat.zero_le _, by rw [List.take_zero]; show OwnQ _ _ _ (List.replicate (tsz c) 0) _; rw [HS.out]; exact O1.out, B1.out⟩
  case round =>
    obtain ⟨i, rfl, hi, HI⟩ := hrel
    by_cases hlt : i < k
    · have hii : (i : Int) < (k : Int) := by omega
      have HBD := Lib.hid (And.intro HI.out.2 HI.out.2.size)
      obtain ⟨blk, off, rfl, hcs⟩ := (HR.out.below HI.out.2).at (by omega)
      obtain ⟨b, m, d, y, k1, k2, k3, k4⟩ := hcs i hlt
      have hok := HO.out _ (getD_memR (i := i) (by rw [HL.out]; exact hlt))
      have HTK := Lib.hid (takeR_snoc (rs := rs) (i := i) (by rw [HL.out]; exact hlt))
      have HGI := Lib.hid (HG.out i (by omega))
      have hgl : (rs.take i).length = i := by rw [List.length_take, HL.out]; omega
      rw [hgl, HS.out] at HGI
      obtain ⟨a6, c6, hv6, _, _⟩ := HI.out.1.form
      rw [HGI.out.1] at hv6
      subst hv6
      have hm := k3.len
      rw [hok.len] at hm
      subst hm
      have hpl := hok.prs
      have hpb := hok.pbd
      rw [HS.out] at hpl
      have HGR := Lib.hid (grow_calls b c d y A _ _ wr k3 k4 h1 h6 hok.fn hok.bd hA2)
      have HSN := Lib.hid (gramL_snoc c (rs.take i) (rs.getD i ([], none)))
      rw [← HTK.out] at HSN
      generalize rs.getD i ([], none) = R at *
      generalize prs ((R.1 ++ [R.2]).map fv) = pr at *
      have HPL := Lib.hid hpl
      have HPB := Lib.hid (show ∀ j, j < s → Bd (pr.getD j 0) (p2 ((A + A + i : Nat) : Int)) from fun j hj => bd_p2_mono (hpb _ (getD_memQ (by rw [hpl]; exact hj))) (by omega))
      clear hcs k3 k4 hok hgl hpl hpb
      have O6 := Lib.hid HI.out.1
      generalize gramL c (rs.take i) = G at *
      have hkk1 := cell_lt k1
      go_wp2_with (first
        | (go_at_call 8; go_must (refine HGR.out.mono ?_; rintro e w2 ⟨⟨v2, rfl, hv⟩, hb⟩; have O2 := Lib.hid hv; obtain ⟨a8, c8, hv8, _, _⟩ := hv.form; rw [HPL.out] at hv8; subst hv8; have B2 := Lib.hid hb; have l1 := (hb.cell (p := ⟨blk, off + i * 2, none⟩) hkk1).trans k1; have G2 := Lib.hid (O6.out.below hb); have HAD := Lib.hid (gadd_calls _ _ s _ _ (A + A + i) 2148 _ _ w2 G2.out.dql O2.out.dql (by omega) HGI.out.2 HPB.out (by omega)); clear hv hb))
        | (go_at_call 12; go_must (refine HAD.out.mono ?_; rintro e w3 ⟨⟨v3, rfl, hv⟩, hb⟩; have O3 := Lib.hid hv; have B3 := Lib.hid (B2.out.trans (hb.mono B2.out.size)); have S3 := Lib.hid B2.out.size; clear hv hb)))
      go_roundw
      case rel => exact ⟨i + 1, by go_num, by omega, by rw [HSN.out]; exact O3.out.monoB (Nat.le_trans HBD.out.2 S3.out), HBD.out.1.trans (B3.out.mono HBD.out.2)⟩
      case measure => simp [intOf]; omega
    · obtain rfl : i = k := by omega
      have hii : ¬ (i : Int) < (i : Int) := by omega
      go_wp2
      exact bodyPost_ret (v := .tuple #[u6, .bool true]) (by simp [results, Tryz.results18, go_sem]) rfl ⟨⟨_, rfl, by
        have h := HI.out.1
        rwa [List.take_of_length_le (by rw [HL.out]; exact Nat.le_refl _)] at h⟩, HI.out.2⟩
set_option maxRecDepth 100000 in
set_option maxHeartbeats 1000000 in
theorem gfactor_calls (c A : Nat) (rws trn : Int) (a : Option Addr) (n cap : Nat) (xs : List (Option Nat)) (w : World) (h : Row w (.slice a n cap) xs) (hok : checkP (c : Int) xs rws trn = true)
    (hr : ∀ r ∈ linesD xs c, RowOk c A r) (hA2 : A ≤ 1024) :
    Calls Tryz.prog 7 #[.agg #[.int .i64 (c : Int), .slice a n cap, .int .i64 rws, .int .i64 trn]] w fun e w' => (∃ v, e = .returned (.tuple #[v, .bool true]) ∧ OwnQ w' w.heap.size v (gramL c (linesD xs c)) 2148) ∧ Below w.heap.size w w' := by
  obtain ⟨hc1, hc6⟩ := checkP_cols hok
  have h1 : 1 ≤ c := by omega
  have h6 : c ≤ 6 := by omega
  have B0 := Lib.hid ((Below.refl w.heap.size w).alloc (Nat.le_refl _) (.cells #[.int .i64 (c : Int), .slice a n cap, .int .i64 rws, .int .i64 trn] 24))
  have C0 := Lib.hid (Cells4.new w (.int .i64 (c : Int)) (.slice a n cap) (.int .i64 rws) (.int .i64 trn) 24)
  have CK := Lib.hid (rcheck_calls (c : Int) rws trn a n cap xs _ (h.below B0.out))
  rw [hok] at CK
  have LN := Lib.hid (fun W (hb : Below w.heap.size w W) => glines_calls c rws trn a n cap xs W (h.below hb) hok)
  have LL := Lib.hid (linesD_len xs c)
  have RS := Lib.hid (fun t k kc W hW hk => growsQ_calls c k A t kc (linesD xs c) W hW h1 h6 hk hr hA2)
  clear h hok hr hc1 hc6
  generalize linesD xs c = L at *
  go_enter Tryz.func7, Tryz.ntmps7
  go_upto_region 3 with (go_at_call 17; go_must (refine CK.out.mono ?_; rintro e w1 ⟨rfl, hb⟩; have B1 := Lib.hid (B0.out.trans (hb.mono B0.out.size)); have C1 := Lib.hid (C0.out.below hb); clear hb))
  have BD := Lib.hid (B1.out.drew)
  have CD := Lib.hid (C1.out.below (Below.refl _ _).drew)
  have KP := Lib.hid (show ∀ W, Cells4 W w.heap.size (.int .i64 (c : Int)) (.slice a n cap) (.int .i64 rws) (.int .i64 trn) → W.cell? ⟨w.heap.size, 0, none⟩ = some (.int .i64 (c : Int)) ∧ W.cell? ⟨w.heap.size, 1, none⟩ = some (.slice a n cap) ∧ W.cell? ⟨w.heap.size, 2, none⟩ = some (.int .i64 rws) ∧ W.cell? ⟨w.heap.size, 3, none⟩ = some (.int .i64 trn) from fun W h => ⟨h.c0, h.c1, h.c2, h.c3⟩)
  have K0 := Lib.hid (KP.out _ CD.out)
  go_region_held3 (fun w' => w'.cell? ⟨w.heap.size, 0, none⟩ = some (.int .i64 (c : Int)) ∧ w'.cell? ⟨w.heap.size, 1, none⟩ = some (.slice a n cap) ∧ w'.cell? ⟨w.heap.size, 2, none⟩ = some (.int .i64 rws) ∧ w'.cell? ⟨w.heap.size, 3, none⟩ = some (.int .i64 trn))
    (first
      | with_reducible exact K0.out
      | with_reducible exact K1.out
      | with_reducible exact K2.out)
    (first
      | (go_at_call 19; go_must (refine (LN.out _ BD.out).mono ?_; rintro e w2 ⟨⟨v, rfl, hv⟩, hb⟩; have HV := Lib.hid hv.rws; obtain ⟨va, vc, hv0, _⟩ := hv.rws; rw [LL.out] at hv0; subst hv0; have B2 := Lib.hid (BD.out.trans (hb.mono BD.out.size)); have C2 := Lib.hid (CD.out.below hb); have K1 := Lib.hid (KP.out _ C2.out); clear hb hv))
      | (go_at_call 18; go_must (refine (RS.out _ _ _ _ HV.out (by omega)).mono ?_; rintro e w3 ⟨⟨v, rfl, hv⟩, hb⟩; have O3 := Lib.hid hv; have B3 := Lib.hid (B2.out.trans (hb.mono B2.out.size)); have S3 := Lib.hid B2.out.size; have K2 := Lib.hid (KP.out _ (C2.out.below hb)); clear hb hv)))
  go_wp2
  exact bodyPost_ret (v := .tuple #[v, .bool true]) (by simp [results, Tryz.results7, go_sem]) rfl ⟨⟨_, rfl, O3.out.monoB S3.out⟩, B3.out⟩
end Go.Proofs.YtmmligbkecilfaaGreatDoor
namespace Go.Proofs.YtmmligbkecilfaaGreatDoor
open Go.RowKit Lv Go.Shelf
attribute [local go_sem high] run_maxI run_minI

attribute [local go_sem] Oper.semAt_some drewN_alloc drewN_setCell

/-- where column i's and j's entry stands -/
def gix (c i j : Nat) : Nat := offs c i + (j - i)
theorem gix_lt {c i j : Nat} (h1 : 1 ≤ c) (h6 : c ≤ 6) (hij : i ≤ j) (hj : j ≤ c) : gix c i j < tsz c := by
  have hs := offs_le c i h1 h6 (by omega)
  unfold gix tsz
  omega
set_option maxRecDepth 100000 in
set_option maxHeartbeats 1000000 in
theorem eentry_calls (c i j n B : Nat) (a : Option Addr) (cap : Nat) (qs : List Rat) (w : World) (h : DqL w (.slice a n cap) qs B) (h1 : 1 ≤ c) (h6 : c ≤ 6) (hn : n = tsz c) (hij : i ≤ j) (hj : j ≤ c) :
    Calls Tryz.prog 48 #[.int .i64 (c : Int), .slice a n cap, .int .i64 (i : Int), .int .i64 (j : Int)] w fun e w' => (∃ z, e = .returned z ∧ Dq w' z (qs.getD (gix c i j) 0) B) ∧ Below w.heap.size w w' := by
  have hlt := gix_lt h1 h6 hij hj
  have hb := tsz_bounds h1 h6
  rw [← hn] at hlt hb
  have RA := Lib.hid (fun w => rat_in c i j w h1 h6 hij hj)
  rw [show offs c i + (j - i) = gix c i j from rfl] at RA
  obtain ⟨blk, off, rfl, hcs⟩ := h.at (by omega)
  obtain ⟨s1, b1, n1, c1, e1, k0, k1, k2, k3⟩ := hcs _ hlt
  generalize gix c i j = p at *
  have hpi : (p : Int) < (n : Int) := by omega
  have hp0 : (0 : Int) ≤ (p : Int) := by omega
  have hmin : min (i : Int) (j : Int) = (i : Int) := by omega
  have hmax : max (i : Int) (j : Int) = (j : Int) := by omega
  generalize qs.getD p 0 = q at *
  obtain ⟨s, m, e, hD, rfl, h3⟩ := id k3
  obtain ⟨a0, n0, c0, hv, _⟩ := id hD
  simp only [Value.agg.injEq] at hv
  have B0 := Lib.hid ((Below.refl w.heap.size w).alloc (Nat.le_refl _) (.cells #[.bool false, .slice none 0 0, .int .i64 0] 53))
  have E0 := Lib.hid (Cells3.new w (.bool false) (.slice none 0 0) (.int .i64 0) 53)
  have l0 := (B0.out.cell (p := ⟨blk, off + p * 3, none⟩) (cell_lt k0)).trans k0
  have l1 := (B0.out.cell (p := ⟨blk, off + p * 3 + 1, none⟩) (cell_lt k1)).trans k1
  have l2 := (B0.out.cell (p := ⟨blk, off + p * 3 + 2, none⟩) (cell_lt k2)).trans k2
  have MY := Lib.hid (dmay_calls _ s m e _ (hD.below B0.out))
  have KQ := Lib.hid (k3.below B0.out)
  clear h hcs k0 k1 k2 k3 hD h3 hlt hb hn hv
  go_enter Tryz.func48, Tryz.ntmps48
  go_wp2_with (first
    | (go_at_call 25; go_must (refine (RA.out _).mono ?_; rintro e ww ⟨rfl, rfl⟩))
    | (go_at_call 44; go_must (refine MY.out.mono ?_; rintro e w2 ⟨rfl, hb⟩; have F2 := Lib.hid (E0.out.below hb); have B2 := Lib.hid (B0.out.trans (hb.mono B0.out.size)); have KQ2 := Lib.hid (KQ.out.below hb); obtain ⟨_, _, _, x3, x4, x5⟩ := F2.out; clear hb)))
  have P := F2.out.put (.bool s1) (.slice b1 n1 c1) (.int .i64 e1)
  exact bodyPost_ret (v := .agg #[.bool s1, .slice b1 n1 c1, .int .i64 e1]) (by simp [results, Tryz.results48, go_sem, P.c0, P.c1, P.c2]) rfl ⟨⟨_, rfl, KQ2.out.put3 F2.out _ _ _⟩, below_put3 B2.out (Nat.le_refl _) _ _ _⟩
/-- the norms of a Gram list's columns -/
structure Norms (c A : Nat) (qs us : List Rat) : Prop where
  len : us.length = c + 1
  nn : ∀ i, i ≤ c → 0 ≤ us.getD i 0
  le : ∀ i, i ≤ c → us.getD i 0 ≤ p2 ((A / 2 + 3 : Nat) : Int)
  sq : ∀ i, i ≤ c → qs.getD (gix c i i) 0 ≤ us.getD i 0 * us.getD i 0
theorem getD_snocQ {us : List Rat} {U : Rat} {i k : Nat} (h : us.length = k) (hi : i ≤ k) : (us ++ [U]).getD i 0 = if i = k then U else us.getD i 0 := by
  split
  · subst i; rw [List.getD_eq_getElem?_getD, List.getElem?_append_right (by omega), h, Nat.sub_self]; rfl
  · rw [List.getD_eq_getElem?_getD, List.getElem?_append_left (by omega), ← List.getD_eq_getElem?_getD]
set_option maxRecDepth 100000 in
set_option maxHeartbeats 1000000 in
theorem enorms_calls (c n A B : Nat) (a : Option Addr) (cap : Nat) (qs : List Rat) (w : World) (h : DqL w (.slice a n cap) qs B) (h1 : 1 ≤ c) (h6 : c ≤ 6) (hn : n = tsz c)
    (hA : ∀ k, k < n → Bd (qs.getD k 0) (p2 A)) (hAB : A + B ≤ 3800) :
    Calls Tryz.prog 24 #[.int .i64 (c : Int), .slice a n cap] w fun e w' => (∃ us v, e = .returned v ∧ OwnQ w' w.heap.size v us (B / 2 + 65) ∧ Norms c A qs us) ∧ Below w.heap.size w w' := by
  have EN := Lib.hid (fun i (hi : i ≤ c) W (hb : Below w.heap.size w W) => eentry_calls c i i n B a cap qs W (h.below hb) h1 h6 hn (Nat.le_refl i) hi)
  have HA := Lib.hid (fun i (hi : i ≤ c) => hA (gix c i i) (by rw [hn]; exact gix_lt h1 h6 (Nat.le_refl i) hi))
  obtain ⟨m, hm⟩ : ∃ m, c + 1 = m := ⟨_, rfl⟩
  clear h hA hn
  go_enter Tryz.func24, Tryz.ntmps24
  go_wp2
  go_loopw [5, 6] (fun s5 s6 wr => ∃ (i : Nat) (us : List Rat), s6 = .int .i64 (i : Int) ∧ i ≤ m ∧ Hid (OwnQ wr w.heap.size s5 us (B / 2 + 65) ∧ us.length = i ∧ (∀ k, k < i → 0 ≤ us.getD k 0 ∧ us.getD k 0 ≤ p2 ((A / 2 + 3 : Nat) : Int) ∧ qs.getD (gix c k k) 0 ≤ us.getD k 0 * us.getD k 0) ∧ Below w.heap.size w wr)) (fun _ s6 _ => m - (intOf s6).toNat)
  case atStart => exact ⟨0, [], rfl, Nat.zero_le _, ownQ_nil _ _ _, rfl, fun k hk => absurd hk (Nat.not_lt_zero _), Below.refl _ _⟩
  case round =>
    obtain ⟨i, us, rfl, hi, HI⟩ := hrel
    by_cases hlt : i ≤ c
    · have hii : (i : Int) ≤ (c : Int) := by omega
      have E1 := Lib.hid (EN.out i hlt wr HI.out.2.2.2)
      have HQ := Lib.hid (HA.out i hlt)
      have HLN := Lib.hid (show us.length + 1 ≤ 1000 by rw [HI.out.2.1]; omega)
      have HS := Lib.hid HI.out.2.2.2.size
      obtain ⟨q, hq⟩ : ∃ q, qs.getD (gix c i i) 0 = q := ⟨_, rfl⟩
      have HQE := Lib.hid hq
      rw [hq] at E1 HQ
      clear hq
      go_wp2_with (first
        | (go_at_call 48; go_must (refine E1.out.mono ?_; rintro e w2 ⟨⟨z, rfl, hz⟩, hb⟩; have Z2 := Lib.hid hz; have B2 := Lib.hid hb; have EU := Lib.hid (eup_calls z q A B w2 hz HQ.out hAB); clear hz hb))
        | (go_at_call 47; go_must (refine EU.out.mono ?_; rintro e w3 ⟨⟨z3, U, rfl, hz, hu⟩, hb⟩; have HU := Lib.hid hu; have HZ := Lib.hid hz; obtain ⟨zs, zm, ze, ⟨za, zn, zc, rfl, _⟩, _⟩ := hz; have B3 := Lib.hid (B2.out.trans (hb.mono B2.out.size)); have B4 := Lib.hid (B3.out.alloc B3.out.size (.cells #[.bool zs, .slice za zn zc, .int .i64 ze] 53)); clear hb hu))
        | (at_builtin; go_must (refine wpList_append_QQ _ rfl _ _ rfl w.heap.size (B / 2 + 65) _ us [U] rfl (HI.out.1.below B4.out) _ _ _ rfl (dql_new HZ.out rfl) HLN.out (Nat.le_trans HS.out B4.out.size) ?_; intro v9 w5 hown9 hg9)))
      have hg9 : World.grownBy _ w5 u5.ownBlock := hg9
      have BW := Lib.hid (HI.out.2.2.2.trans (B4.out.mono HS.out))
      have B9 := Lib.hid (BW.out.grown hg9 BW.out.size (fun k e => HI.out.1.base k e))
      have HN := Lib.hid hown9
      clear hg9
      go_roundw
      case rel => exact ⟨i + 1, us ++ [U], by go_num, by omega, HN.out, by rw [List.length_append, HI.out.2.1]; rfl, fun k hk => by
        rw [getD_snocQ HI.out.2.1 (by omega)]
        by_cases e : k = i
        · rw [if_pos e, e, HQE.out]; exact HU.out
        · rw [if_neg e]; exact HI.out.2.2.1 k (by omega), B9.out⟩
      case measure => simp [intOf]; omega
    · obtain rfl : i = m := by omega
      have hii : ¬ (i : Int) ≤ (c : Int) := by omega
      go_wp2
      go_ret
      exact ⟨⟨us, _, rfl, HI.out.1, HI.out.2.1.trans hm.symm, fun k hk => (HI.out.2.2.1 k (by omega)).1, fun k hk => (HI.out.2.2.1 k (by omega)).2.1, fun k hk => (HI.out.2.2.1 k (by omega)).2.2⟩, HI.out.2.2.2⟩
end Go.Proofs.YtmmligbkecilfaaGreatDoor
