/- A stack of factors laid anew: appending inside a statement that draws its order. What a plan comes to: the reference's Run. -/
import Derived.Test.YtgmaljikjkbdlaaYk
import Derived.Test.YtgmaljikjkbdlaaMf
import Derived.Test.YtgmaljikjkbdlaaYf
import Derived.Test.YtgmaljikjkbdlaaMj
import Derived.Deep.DrawnRows
namespace Go.Proofs.Ytgmaljikjkbdlaa
open Go.RowKit Lv Go.Shelf

theorem wp_append_NF (w : World) {o : Oper} {a : Act} {K : Act → World → Prop} {Q : Exit → Act → World → Prop} (s x : Operand) (t : TypeId)
    (ho : o.op = .call { callee := .builtin .append, args := #[s, x], argTypes := #[t, t] })
    (base : Nat) (e : TypeId) (i : TypeInfo) (z : Value) (size bytes : Nat) (ht : Try.prog.underlying t = some (.slice e)) (hi : Try.prog.info? e = some i) (hz : i.zero = some z)
    (hsize : i.size = size) (hby : i.bytes = bytes) (hzs : z.cells.size = size) (hsz : 0 < size)
    (v : Value) (n : Nat) (xs : List Value) (hs : a.eval s = v) (hown : w.ownsRow base e size v n xs) (nf : NoF w v) (nz : ∀ u ∈ z.cells.toList, ∀ x, u ≠ .float .f64 x)
    (ad : Addr) (m c : Nat) (news : List Value) (hx : a.eval x = .slice (some ad) m c) (hl : news.length = m * size) (hnews : ∀ j u, news[j]? = some u → w.cell? (ad.add j) = some u) (h1 : ∀ u ∈ news, u.oneCell' = true) (nn : ∀ u ∈ news, ∀ x, u ≠ .float .f64 x)
    (h63 : n + m ≤ 1000) (hbytes : (n + m) * bytes ≤ 140737488355328) (hbase : base ≤ w.heap.size)
    (h : ∀ v' w', w'.ownsRow base e size v' (n + m) (xs ++ news) → w.grownBy w' v.ownBlock → NoF w' v' → K (a.put o.dst v') w') : Oper.wp Try.prog o a w K Q := by
  obtain ⟨v', w', hr, h2, h3, h4⟩ := run_append_NF w base t o.type e i z size bytes ht hi hz hsize hby hzs hsz v n xs hown nf nz ad m c news hl hnews h1 nn h63 hbytes hbase
  unfold Oper.wp execOp
  simp only [ho, resolve, invoke, builtin, Sem.run_bind, Sem.run_pure, Result.andThen_ok, List.map_toArray, List.map_cons, List.map_nil, hs, hx, hr]
  exact h v' w' h2 h3 h4
/-- at a step of a region that draws its order -/
theorem step_append_FF {w : World} {ops : Array Oper} {o : Oper} {a : Act} {K : Act → World → Prop} {Q : Exit → Act → World → Prop} {E : Prop} (hgd : o.guard = none) (s x : Operand)
    (hop : o.op = Op.call { callee := Callee.builtin Builtin.append, args := #[s, x], argTypes := #[31, 31] })
    (B : Nat) (v : Value) (Fs Gs : List FacD) (hs : a.eval s = v) (hown : OwnF w B v Fs) (ad : Addr) (m c : Nat) (hx : a.eval x = .slice (some ad) m c) (hG : Fcs w (.slice (some ad) m c) Gs)
    (b1 : Fs.length + Gs.length ≤ 1000) (b3 : B ≤ w.heap.size)
    (hK : ∀ v' w', OwnF w' B v' (Fs ++ Gs) → w.grownBy w' v.ownBlock → K (a.put o.dst v') w') :
    if Region.wanted o (yielded ops a.tmps) = true then Oper.wp Try.prog o a w K Q else E := by
  have hw : Region.wanted o (yielded ops a.tmps) = true := by simp [Region.wanted, hgd]
  rw [if_pos hw]
  obtain ⟨i0, hin, hz0, hz1, hz2⟩ := info_parts infoT
  obtain ⟨cs, h1, nf, h3⟩ := hown
  have hm := hG.len.1
  have hcl := h1.1
  have FC := fcs_cells hG
  obtain ⟨news, hnews⟩ : ∃ news : List Value, news = (List.range (m * 4)).map fun j => (w.cell? (ad.add j)).getD undef := ⟨_, rfl⟩
  have hnl : news.length = m * 4 := by rw [hnews]; simp
  have hat : ∀ j, j < m * 4 → news[j]? = w.cell? (ad.add j) := by
    intro j hj
    obtain ⟨u, hu, _⟩ := FC j hj
    rw [hnews, List.getElem?_map, List.getElem?_range hj, hu]
    simp [hu]
  have hmem : ∀ u ∈ news, u.oneCell' = true ∧ ∀ x, u ≠ .float .f64 x := by
    intro u hu
    obtain ⟨j, hj, rfl⟩ := List.getElem_of_mem hu
    rw [hnl] at hj
    obtain ⟨u', hu', h5⟩ := FC j hj
    have h6 := hat j hj
    rw [List.getElem?_eq_getElem (by rw [hnl]; exact hj), hu'] at h6
    rw [Option.some.inj h6]
    exact h5
  clear hnews
  refine wp_append_NF w s x _ hop B 36 i0 facZ 4 48 Try.underlying31 hin hz0 hz1 hz2 rfl (by decide) v Fs.length cs hs h1 nf ?_ ad m c news hx hnl ?_ (fun u hu => (hmem u hu).1) (fun u hu => (hmem u hu).2) (by omega) (by omega) b3 ?_
  · intro u hu x e
    subst e
    simp [facZ, Value.cells] at hu
  · intro j u hu
    have hj : j < m * 4 := by rw [← hnl]; exact (List.getElem?_eq_some_iff.1 hu).1
    rw [← hat j hj]; exact hu
  · intro v' w' ho hgr nf'
    refine hK v' w' ⟨cs ++ news, by rw [List.length_append, hm]; exact ho, nf', fun i hi => ?_⟩ hgr
    rw [List.length_append, hm] at hi
    by_cases hlt : i < Fs.length
    · obtain ⟨b, mm, d, k1, k2, k3, k4, k5⟩ := h3 i hlt
      have e : (Fs ++ Gs).getD i fac0 = Fs.getD i fac0 := by rw [List.getD_eq_getElem?_getD, List.getElem?_append_left hlt, List.getD_eq_getElem?_getD]
      rw [e]
      exact ⟨b, mm, d, by rw [List.getElem?_append_left (by omega)]; exact k1, by rw [List.getElem?_append_left (by omega)]; exact k2, by rw [List.getElem?_append_left (by omega)]; exact k3, by rw [List.getElem?_append_left (by omega)]; exact k4, k5.grown hgr nf⟩
    · obtain ⟨q, rfl⟩ : ∃ q, i = Fs.length + q := ⟨i - Fs.length, by omega⟩
      have e : (Fs ++ Gs).getD (Fs.length + q) fac0 = Gs.getD q fac0 := by rw [List.getD_eq_getElem?_getD, List.getElem?_append_right (by omega), Nat.add_sub_cancel_left, List.getD_eq_getElem?_getD]
      rw [e]
      obtain ⟨blk, off, e2, hc⟩ := hG.at (by omega)
      cases e2
      obtain ⟨b, mm, d, k1, k2, k3, k4, k5⟩ := hc q (by omega)
      have ea : ∀ j, (⟨blk, off, none⟩ : Addr).add j = ⟨blk, off + j, none⟩ := by intro j; unfold Addr.add; by_cases e : j = 0 <;> simp [e]
      refine ⟨b, mm, d, ?_, ?_, ?_, ?_, k5.grown hgr nf⟩
      · rw [List.getElem?_append_right (by omega), hcl, show (Fs.length + q) * 4 - Fs.length * 4 = q * 4 by omega, hat _ (by omega), ea]; exact k1
      · rw [List.getElem?_append_right (by omega), hcl, show (Fs.length + q) * 4 + 1 - Fs.length * 4 = q * 4 + 1 by omega, hat _ (by omega), ea]; exact k2
      · rw [List.getElem?_append_right (by omega), hcl, show (Fs.length + q) * 4 + 2 - Fs.length * 4 = q * 4 + 2 by omega, hat _ (by omega), ea]; exact k3
      · rw [List.getElem?_append_right (by omega), hcl, show (Fs.length + q) * 4 + 3 - Fs.length * 4 = q * 4 + 3 by omega, hat _ (by omega), ea]; exact k4
theorem OwnF.fcs {w : World} {B : Nat} {v : Value} {Fs : List FacD} (h : OwnF w B v Fs) : Fcs w v Fs := by
  obtain ⟨a, cap, rfl, h1, h2⟩ := h.form
  refine ⟨a, cap, rfl, h1, by unfold maxLen; exact h2, ?_⟩
  by_cases h0 : Fs.length = 0
  · exact .inl h0
  · obtain ⟨g, rfl, _, hc⟩ := h.at (by omega)
    exact .inr ⟨g, 0, rfl, fun i hi => by
      obtain ⟨b, m, d, k1, k2, k3, k4, k5⟩ := hc i hi
      exact ⟨b, m, d, by rw [Nat.zero_add]; exact k1, by rw [Nat.zero_add]; exact k2, by rw [Nat.zero_add]; exact k3, by rw [Nat.zero_add]; exact k4, k5⟩⟩
theorem ownF_emp (W : World) (B g : Nat) (hg : g = W.heap.size) (hB : B ≤ g) : OwnF (W.alloc (.cells #[] 36)) B (.slice (some ⟨g, 0, none⟩) 0 0) [] := by
  subst hg
  have ho : (W.alloc (.cells #[] 36)).ownsRow B 36 4 (.slice (some ⟨W.heap.size, 0, none⟩) 0 0) 0 [] := World.ownsRow_lit W #[] 0 hB (Nat.zero_le _) rfl
  refine ⟨[], ho, ?_, fun i hi => absurd hi (Nat.not_lt_zero _)⟩
  intro g' hg cur t' fr hh u hu
  cases hg
  have hh2 : (W.heap.push (.cells #[] 36))[W.heap.size]? = some (.cells cur t' fr) := hh
  rw [Array.getElem?_push_size] at hh2
  cases hh2
  simp at hu
theorem Fcs.grown1 {W W' : World} {B b : Nat} {v : Value} {Fs : List FacD} {G : FacD} (h : Fcs W (.slice (some ⟨b, 0, none⟩) 1 1) [G]) (ho : OwnF W B v Fs) (hg : W.grownBy W' v.ownBlock) (hne : some b ≠ v.ownBlock) : Fcs W' (.slice (some ⟨b, 0, none⟩) 1 1) [G] := by
  obtain ⟨cs, h1, nf, h3⟩ := ho
  obtain ⟨blk, off, e, hc⟩ := h.at (by omega)
  cases e
  obtain ⟨b', m, d, k1, k2, k3, k4, k5⟩ := hc 0 (by omega)
  refine ⟨some ⟨b, 0, none⟩, 1, rfl, Nat.le_refl _, by unfold maxLen; simp, .inr ⟨b, 0, rfl, fun i hi => ?_⟩⟩
  obtain rfl : i = 0 := by simp at hi; omega
  exact ⟨b', m, d, hg.cell k1 hne, hg.cell k2 hne, hg.cell k3 hne, hg.cell k4 hne, k5.grown hg nf⟩
theorem OwnF.mono {w : World} {B B' : Nat} {v : Value} {Fs : List FacD} (h : OwnF w B v Fs) (hB : B' ≤ B) : OwnF w B' v Fs := by
  obtain ⟨cs, h1, h2, h3⟩ := h
  refine ⟨cs, ⟨h1.1, ?_⟩, h2, h3⟩
  rcases h1.2 with h0 | ⟨g, cap, cur, q1, q2, q3⟩
  · exact .inl h0
  · exact .inr ⟨g, cap, cur, q1, Nat.le_trans hB q2, q3⟩
theorem ownF_alloc {W : World} {B : Nat} {v : Value} {Fs : List FacD} (h : OwnF W B v Fs) (o : Obj) : OwnF (W.alloc o) B v Fs := h.below ((Below.refl _ _).alloc (Nat.le_refl _) o)
theorem ownF_drew {W : World} {B : Nat} {v : Value} {Fs : List FacD} (h : OwnF W B v Fs) : OwnF W.drew B v Fs := h.below (Below.refl _ _).drew
end Go.Proofs.Ytgmaljikjkbdlaa
namespace Go.Proofs.Ytgmaljikjkbdlaa
open Go.RowKit Lv Go.Shelf
attribute [local go_sem] Oper.semAt_some run_store_float drewN_alloc drewN_setCell

attribute [local go_sem ↓] Go.wp_at_zero Go.wp_at_succ

/-- what stands at the head of the reference's loop -/
structure DInv (w : World) (R : FacD × Int) (Fs : List FacD) (l : List Int) (W : World) (i : Nat) (st : List FacD) (a : Option Addr) (n cap : Nat) : Prop where
  c4 : Cells4 W w.heap.size (.int .i64 0) (.slice none 0 0) (.int .i64 0) (.int .i64 0)
  own : OwnF W (w.heap.size + 1) (.slice a n cap) st
  len : st.length = n
  cap1 : n ≤ cap ∧ cap ≤ 9223372036854775807
  ht : htsP 0 (l.take i) = some (n : Int)
  eq : playD fac0 (layF Fs) twoD (l.drop i) st = R
  b2 : Below w.heap.size w W
/-- behind the statement that joins two -/
def DCut (wr : World) (ge : Int) (G : FacD) (s10 s11 : Value) (W : World) : Prop :=
  ∃ (b6 : Nat) (ga : Option Addr) (gn gcp : Nat), s10 = .pointer (some ⟨b6, 0, none⟩) ∧ s11 = .int .i64 ge ∧ Cells4 W b6 (.int .i64 G.cols) (.slice ga gn gcp) (.int .i64 G.rws) (.int .i64 G.trn) ∧ Row W (.slice ga gn gcp) G.xs ∧ Below wr.heap.size wr W ∧ wr.heap.size ≤ b6
set_option maxRecDepth 100000 in
set_option maxHeartbeats 4000000 in
theorem rprun_calls (l : List Int) (a : Option Addr) (n cap : Nat) (Fs : List FacD) (sa : Option Addr) (sn sc : Nat) (w : World) (h : LI w (.slice a n cap) l) (hl : l.length ≤ 100) (hs : Fcs w (.slice sa sn sc) Fs) :
    Calls Try.prog 24 #[.slice a n cap, .slice sa sn sc] w fun e w' => FacE (runD l Fs) e w' ∧ Below w.heap.size w w' := by
  obtain ⟨s1, s2, s3⟩ := hs.len
  have hn100 : n ≤ 100 := by rw [← h.len.1]; exact hl
  have HX := Lib.hid h.len.1
  subst s1
  have H := Lib.hid h
  have HL := Lib.hid hl
  have HS := Lib.hid hs
  have B1 := Lib.hid ((Below.refl w.heap.size w).alloc (Nat.le_refl _) (.cells #[.int .i64 0, .slice none 0 0, .int .i64 0, .int .i64 0] 36))
  have C1 := Lib.hid (Cells4.new w (.int .i64 0) (.slice none 0 0) (.int .i64 0) (.int .i64 0) 36)
  have HC := Lib.hid (rpcheck_calls a n cap Fs.length l _ (H.out.below B1.out) HL.out)
  clear h hl hs
  by_cases c : pcheckD l Fs.length = 0
  · obtain ⟨R, hR0⟩ : ∃ R, R = runD l Fs := ⟨_, rfl⟩
    rw [← hR0]
    have HR := Lib.hid (show playD fac0 (layF Fs) twoD l [] = R by rw [hR0]; unfold runD; rw [if_neg (by simpa using c)])
    have HOK := Lib.hid c
    rw [c] at HC
    clear hR0 c
    go_enter Try.func24, Try.ntmps24
    go_wp2_with (go_at_call 10; go_must (refine HC.out.mono ?_; rintro e w2 ⟨rfl, hb1⟩; have HB2 := Lib.hid hb1; clear hb1))
    have IN : DInv w R Fs l w2 0 [] none 0 0 := ⟨C1.out.below HB2.out, ownF_nil _ _, rfl, ⟨Nat.le_refl _, by omega⟩, rfl, HR.out, B1.out.trans (HB2.out.mono (by simp))⟩
    go_loopw [6, 7] (fun s6 s7 wr => ∃ (i : Nat) (st : List FacD) (a : Option Addr) (m c : Nat), s7 = .int .i64 (i : Int) ∧ s6 = .slice a m c ∧ i ≤ n ∧ DInv w R Fs l wr i st a m c) (fun _ s7 _ => n - (intOf s7).toNat)
    case atStart => exact ⟨0, [], none, 0, 0, rfl, rfl, Nat.zero_le _, IN⟩
    case round =>
      obtain ⟨i, st, ta, tm, tc, rfl, rfl, hi, I⟩ := hrel
      have HI := Lib.hid I
      obtain ⟨c40, c41, c42, c43, f40, f41, f42, f43⟩ := I.c4
      have hs1 := I.b2.size
      have hl4 := I.c4.lt
      clear I
      by_cases hlt : i < n
      · obtain ⟨blk, off, rfl, hcs⟩ := (H.out.below HI.out.b2).at (by omega)
        have hx1 := hcs i hlt
        have hii : (i : Int) < (n : Int) := by omega
        have hil : i < l.length := by rw [HX.out]; exact hlt
        obtain ⟨p1, p2, p3, p4⟩ := play_at HOK.out HI.out.ht hil
        have HP2 := Lib.hid p2
        have HEQ := HI.out.eq
        rw [play_step hil] at HEQ
        clear hcs p2
        generalize l.getD i 0 = k at *
        by_cases ek : k = -1
        · subst ek
          rw [play_join] at HEQ
          rw [if_pos rfl] at HP2
          have h2 := p1 rfl
          obtain ⟨t, rfl⟩ : ∃ t, tm = t + 2 := ⟨tm - 2, by omega⟩
          rw [HI.out.len, show t + 2 - 2 = t by omega, show t + 2 - 1 = t + 1 by omega] at HEQ
          obtain ⟨g, rfl, hg2, hst⟩ := (HI.out.own).at (by omega)
          obtain ⟨b, m, d, k1, k2, k3, k4, k5⟩ := hst t (by omega)
          obtain ⟨t1, ht1⟩ : ∃ t1 : Nat, t + 1 = t1 := ⟨_, rfl⟩
          rw [ht1] at HEQ
          obtain ⟨b', m', d', k1', k2', k3', k4', k5'⟩ := hst t1 (by omega)
          have hcap := HI.out.cap1
          have hi1 : (t : Int) + 2 - 1 = (t1 : Int) := by omega
          have hi0 : (t : Int) + 2 - 2 = (t : Int) := by omega
          have hi2 : IntKind.i64.wrap (t1 : Int) = (t1 : Int) := IntWalk.i64_in _ (by omega)
          have hi2' : IntKind.i64.wrap (t : Int) = (t : Int) := IntWalk.i64_in _ (by omega)
          have hi3 : t1 < t + 2 := by omega
          have hi4 : (t1 : Int) < (t : Int) + 2 := by omega
          have hi5 : (t : Int) < (t : Int) + 2 := by omega
          clear ht1
          have HK5 := Lib.hid k5
          have HK5' := Lib.hid k5'
          clear hst k5 k5' p1 p3 p4 h2
          have TW := Lib.hid (fun W hW hW' => rtwo_calls (st.getD t fac0) (st.getD t1 fac0) b b' m d m' d' W hW hW')
          generalize twoD (st.getD t fac0) (st.getD t1 fac0) = D at *
          generalize st.getD t fac0 = G at *
          generalize st.getD t1 fac0 = G' at *
          obtain ⟨cc, cx, cr, ct⟩ := G
          obtain ⟨bc, bx, br, bt⟩ := G'
          obtain ⟨⟨gc, gx, gr, gt⟩, ge⟩ := D
          dsimp only at *
          have TW2 : ∀ W, Row W (.slice b m d) cx → Row W (.slice b' m' d') bx → Calls Try.prog 42 #[.agg #[.int .i64 cc, .slice b m d, .int .i64 cr, .int .i64 ct], .agg #[.int .i64 bc, .slice b' m' d', .int .i64 br, .int .i64 bt]] W fun e w' => (∃ ga gn gcp, e = .returned (.tuple #[.agg #[.int .i64 gc, .slice ga gn gcp, .int .i64 gr, .int .i64 gt], .int .i64 ge]) ∧ Row w' (.slice ga gn gcp) gx) ∧ Below W.heap.size W w' := fun W h h' => TW.out W h h'
          have TW := Lib.hid TW2
          clear TW2
          go_wp2
          go_cut [10, 11] from 46 to 59 (fun s10 s11 wx => DCut wr ge ⟨gc, gx, gr, gt⟩ s10 s11 wx)
          case first =>
            rename_i J K' hJ hK'
            have HbA := Lib.hid (show Below wr.heap.size wr wr.drew from (Below.refl _ _).drew)
            have HbB := Lib.hid (show Below wr.heap.size wr (wr.alloc (.cells #[.int .i64 0, .slice none 0 0, .int .i64 0, .int .i64 0] 36)).drew from ((Below.refl wr.heap.size wr).alloc (Nat.le_refl _) _).drew)
            have HzB := Lib.hid (show Cells4 (wr.alloc (.cells #[.int .i64 0, .slice none 0 0, .int .i64 0, .int .i64 0] 36)).drew wr.heap.size (.int .i64 0) (.slice none 0 0) (.int .i64 0) (.int .i64 0) from (Cells4.new wr _ _ _ _ 36).below ((Below.refl _ _).drew))
            have hgk := cell_lt k1
            have KEEP := Lib.hid (fun (W : World) (hb : Below wr.heap.size wr W) => (show W.cell? ⟨g, t * 4, none⟩ = some (.int .i64 cc) ∧ W.cell? ⟨g, t * 4 + 1, none⟩ = some (.slice b m d) ∧ W.cell? ⟨g, t * 4 + 2, none⟩ = some (.int .i64 cr) ∧ W.cell? ⟨g, t * 4 + 3, none⟩ = some (.int .i64 ct) ∧ W.cell? ⟨g, t1 * 4, none⟩ = some (.int .i64 bc) ∧ W.cell? ⟨g, t1 * 4 + 1, none⟩ = some (.slice b' m' d') ∧ W.cell? ⟨g, t1 * 4 + 2, none⟩ = some (.int .i64 br) ∧ W.cell? ⟨g, t1 * 4 + 3, none⟩ = some (.int .i64 bt) from
              ⟨(hb.cell (p := ⟨g, t * 4, none⟩) hgk).trans k1, (hb.cell (p := ⟨g, t * 4 + 1, none⟩) hgk).trans k2, (hb.cell (p := ⟨g, t * 4 + 2, none⟩) hgk).trans k3, (hb.cell (p := ⟨g, t * 4 + 3, none⟩) hgk).trans k4, (hb.cell (p := ⟨g, t1 * 4, none⟩) hgk).trans k1', (hb.cell (p := ⟨g, t1 * 4 + 1, none⟩) hgk).trans k2', (hb.cell (p := ⟨g, t1 * 4 + 2, none⟩) hgk).trans k3', (hb.cell (p := ⟨g, t1 * 4 + 3, none⟩) hgk).trans k4'⟩))
            clear c40 c41 c42 c43 f40 f41 f42 f43
            go_region_held3 (fun w' => w'.cell? ⟨g, t * 4, none⟩ = some (.int .i64 cc) ∧ w'.cell? ⟨g, t * 4 + 1, none⟩ = some (.slice b m d) ∧ w'.cell? ⟨g, t * 4 + 2, none⟩ = some (.int .i64 cr) ∧ w'.cell? ⟨g, t * 4 + 3, none⟩ = some (.int .i64 ct) ∧ w'.cell? ⟨g, t1 * 4, none⟩ = some (.int .i64 bc) ∧ w'.cell? ⟨g, t1 * 4 + 1, none⟩ = some (.slice b' m' d') ∧ w'.cell? ⟨g, t1 * 4 + 2, none⟩ = some (.int .i64 br) ∧ w'.cell? ⟨g, t1 * 4 + 3, none⟩ = some (.int .i64 bt))
              (first
              | with_reducible exact KEEP.out _ BL.out
              | with_reducible exact KEEP.out _ (BL.out.alloc BL.out.size _)
              | with_reducible exact KEEP.out _ HbB.out
              | with_reducible exact KEEP.out _ HbA.out
              | with_reducible exact KEEP.out _ (below_put4 BL.out (Nat.le_refl _) _ _ _ _)
              | go_keep)
              (first
              | (go_at_call 42; go_must (refine (TW.out _ (HK5.out.below (by first | with_reducible exact HbA.out | with_reducible exact HbB.out)) (HK5'.out.below (by first | with_reducible exact HbA.out | with_reducible exact HbB.out))).mono ?_; rintro e wL ⟨⟨ga, gn, gcp, rfl, hrowL⟩, hbL⟩; have BL' : Below wr.heap.size wr wL := (by first | with_reducible exact HbA.out.trans (hbL.mono (by simp)) | with_reducible exact HbB.out.trans (hbL.mono (by simp))); have hszL := BL'.size; have hLzb : g < wL.heap.size := Nat.lt_of_lt_of_le hgk hszL; (first | ((with_reducible have yy := HzB.out.below hbL); have YL := Lib.hid yy; obtain ⟨y0, y1, y2, y3, yf0, yf1, yf2, yf3⟩ := yy) | (have YN : True := trivial)); have BL := Lib.hid BL'; have RL := Lib.hid hrowL; clear BL' hrowL hbL)))
            all_goals
              refine hK' _ _ (Met.intro (hJ _ _ ?_))
              (repeat apply Exists.intro)
              refine ⟨?_, rfl⟩
              have hwL := BL.out.size
              unfold DCut
              (first
                | (refine ⟨wL.heap.size, ga, gn, gcp, rfl, rfl, ?_⟩; with_reducible exact ⟨Cells4.new wL _ _ _ _ _, RL.out.alloc _, BL.out.alloc hwL _, hwL⟩)
                | (refine ⟨wr.heap.size, ga, gn, gcp, rfl, rfl, ?_⟩; with_reducible exact ⟨YL.out.put _ _ _ _, RL.out.put4 YL.out slice_ne _ _ _ _, below_put4 BL.out (Nat.le_refl _) _ _ _ _, Nat.le_refl _⟩))
          case rest =>
            obtain ⟨b6, ga, gn, gcp, rfl, rfl, D6, RL, hbc, hb6⟩ := hcut
            have BL := Lib.hid hbc
            have E4 := Lib.hid (HI.out.c4.below hbc)
            have EX := Lib.hid D6
            have HRW := Lib.hid RL
            have hlen := Lib.hid HI.out.len
            have HOT := Lib.hid ((HI.out.own.take HI.out.len (k := t) (by omega) (by omega)).below hbc)
            obtain ⟨m0, m1, m2, m3, n0, n1, n2, n3⟩ := D6
            obtain ⟨r0, r1, r2, r3, r4, r5, r6, r7⟩ := E4.out
            have hzL := BL.out.size
            have hzM := EX.out.lt
            have hne6 : w.heap.size ≠ b6 := by omega
            clear c40 c41 c42 c43 f40 f41 f42 f43 RL k1 k2 k3 k4 k1' k2' k3' k4'
            dsimp only at *
            by_cases e2 : ge = 0
            · subst e2
              rw [if_neg (by simp)] at HEQ
              have HEQ2 := Lib.hid HEQ
              clear HEQ
              have hlt2 : Hid ((st.take t).length + 1 ≤ 1000) := by
                unfold Hid
                have := htsP_le HI.out.ht
                rw [List.length_take]
                have := HL.out
                have := List.length_take_le i l
                omega
              have hT : Hid ((st.take t).length = t) := by unfold Hid; rw [List.length_take, hlen.out]; omega
              clear HC IN HR H HS hx1 TW
              go_wp2
              have HbA := Lib.hid (show Below wc.heap.size wc (wc.alloc (.cells #[] 36)).drew from ((Below.refl wc.heap.size wc).alloc (Nat.le_refl _) _).drew)
              have HbB := Lib.hid (show Below wc.heap.size wc ((wc.alloc (.cells #[] 36)).alloc (.cells #[.int .i64 gc, .slice ga gn gcp, .int .i64 gr, .int .i64 gt] 36)).drew from (((Below.refl wc.heap.size wc).alloc (Nat.le_refl _) _).alloc (by simp) _).drew)
              have HbC := Lib.hid (show Below wc.heap.size wc ((wc.alloc (.cells #[.int .i64 gc, .slice ga gn gcp, .int .i64 gr, .int .i64 gt] 36)).alloc (.cells #[] 36)).drew from (((Below.refl wc.heap.size wc).alloc (Nat.le_refl _) _).alloc (by simp) _).drew)
              have hb6c := EX.out.lt
              have hl0 := Lib.hid (show ([] : List FacD).length + (st.take t).length ≤ 1000 by have := hlt2.out; simp at this ⊢; omega)
              have OA := Lib.hid (show OwnF (wc.alloc (.cells #[] 36)).drew wc.heap.size (.slice (some ⟨wc.heap.size, 0, none⟩) 0 0) [] from ownF_drew (ownF_emp wc _ _ rfl (Nat.le_refl _)))
              have OB := Lib.hid (show OwnF ((wc.alloc (.cells #[] 36)).alloc (.cells #[.int .i64 gc, .slice ga gn gcp, .int .i64 gr, .int .i64 gt] 36)).drew wc.heap.size (.slice (some ⟨wc.heap.size, 0, none⟩) 0 0) [] from ownF_drew (ownF_alloc (ownF_emp wc _ _ rfl (Nat.le_refl _)) _))
              have OC := Lib.hid (show OwnF ((wc.alloc (.cells #[.int .i64 gc, .slice ga gn gcp, .int .i64 gr, .int .i64 gt] 36)).alloc (.cells #[] 36)).drew wc.heap.size (.slice (some ⟨wc.heap.size + 1, 0, none⟩) 0 0) [] from ownF_drew (ownF_emp (wc.alloc _) _ _ (by simp) (by omega)))
              have FA := Lib.hid (HOT.out.fcs.below HbA.out)
              have FB := Lib.hid (HOT.out.fcs.below HbB.out)
              have FC := Lib.hid (HOT.out.fcs.below HbC.out)
              have GB := Lib.hid (show Fcs ((wc.alloc (.cells #[] 36)).alloc (.cells #[.int .i64 gc, .slice ga gn gcp, .int .i64 gr, .int .i64 gt] 36)).drew (.slice (some ⟨wc.heap.size + 1, 0, none⟩) 1 1) [⟨gc, gx, gr, gt⟩] from (fcs_new (F := ⟨gc, gx, gr, gt⟩) (HRW.out.alloc _) (by simp)).below (Below.refl _ _).drew)
              have GC := Lib.hid (show Fcs ((wc.alloc (.cells #[.int .i64 gc, .slice ga gn gcp, .int .i64 gr, .int .i64 gt] 36)).alloc (.cells #[] 36)).drew (.slice (some ⟨wc.heap.size, 0, none⟩) 1 1) [⟨gc, gx, gr, gt⟩] from ((fcs_new (F := ⟨gc, gx, gr, gt⟩) HRW.out rfl).below ((Below.refl _ _).alloc (Nat.le_refl _) _)).below (Below.refl _ _).drew)
              have hcp : (t : Int) ≤ (tc : Int) := by omega
              have hc0 : (0 : Int) ≤ (t : Int) := by omega
              have KEEP := Lib.hid (fun (W : World) (hb : Below wc.heap.size wc W) => (show W.cell? ⟨b6, 0, none⟩ = some (.int .i64 gc) ∧ W.cell? ⟨b6, 1, none⟩ = some (.slice ga gn gcp) ∧ W.cell? ⟨b6, 2, none⟩ = some (.int .i64 gr) ∧ W.cell? ⟨b6, 3, none⟩ = some (.int .i64 gt) from
                ⟨(hb.cell (p := ⟨b6, 0, none⟩) hb6c).trans m0, (hb.cell (p := ⟨b6, 1, none⟩) hb6c).trans m1, (hb.cell (p := ⟨b6, 2, none⟩) hb6c).trans m2, (hb.cell (p := ⟨b6, 3, none⟩) hb6c).trans m3⟩))
              have HIB := Lib.hid (And.intro HI.out.b2 HI.out.len)
              clear HI
              go_region_held3 (fun w' => w'.cell? ⟨b6, 0, none⟩ = some (.int .i64 gc) ∧ w'.cell? ⟨b6, 1, none⟩ = some (.slice ga gn gcp) ∧ w'.cell? ⟨b6, 2, none⟩ = some (.int .i64 gr) ∧ w'.cell? ⟨b6, 3, none⟩ = some (.int .i64 gt))
                (first
                | with_reducible exact KEEP.out _ HbA.out
                | with_reducible exact KEEP.out _ HbB.out
                | with_reducible exact KEEP.out _ HbC.out
                | with_reducible exact KEEP.out _ (Below.refl _ _).drew
                | with_reducible exact KEEP.out _ ((Below.refl _ _).alloc (Nat.le_refl _) _).drew
                | with_reducible exact KEEP.out _ BV1.out
                | with_reducible exact KEEP.out _ (BV1.out.alloc BV1.out.size _)
                | with_reducible exact KEEP.out _ BV2.out
                | go_keep)
                (first
                | (refine step_append_FF rfl _ _ (by rfl) wc.heap.size _ [] (st.take t) (by rfl) OA.out _ _ _ (by rfl) FA.out hl0.out HbA.out.size ?_; intro v1 w1 hown1 hg1; have BV1 := Lib.hid (HbA.out.grown hg1 HbA.out.size (fun e he => by cases he; exact Nat.le_refl _)); have HV1 := Lib.hid (show OwnF w1 wc.heap.size v1 (st.take t) from hown1); have GG := Lib.hid (fun (W : World) (h : Row W (.slice ga gn gcp) gx) => fcs_new (F := ⟨gc, gx, gr, gt⟩) h rfl); have HZ := Lib.hid BV1.out.size; clear hown1)
                | (refine step_append_FF rfl _ _ (by rfl) wc.heap.size _ [] (st.take t) (by rfl) OB.out _ _ _ (by rfl) FB.out hl0.out HbB.out.size ?_; intro v1 w1 hown1 hg1; have BV1 := Lib.hid (HbB.out.grown hg1 HbB.out.size (fun e he => by cases he; exact Nat.le_refl _)); have HV1 := Lib.hid (show OwnF w1 wc.heap.size v1 (st.take t) from hown1); have GG := Lib.hid (GB.out.grown1 OB.out hg1 (by simp [Value.ownBlock])); clear hown1)
                | (refine step_append_FF rfl _ _ (by rfl) wc.heap.size _ [] (st.take t) (by rfl) OC.out _ _ _ (by rfl) FC.out hl0.out HbC.out.size ?_; intro v1 w1 hown1 hg1; have BV1 := Lib.hid (HbC.out.grown hg1 HbC.out.size (fun e he => by cases he; exact Nat.le_succ _)); have HV1 := Lib.hid (show OwnF w1 wc.heap.size v1 (st.take t) from hown1); have GG := Lib.hid (GC.out.grown1 OC.out hg1 (by simp [Value.ownBlock])); clear hown1)
                | (refine step_append_FF rfl _ _ (by rfl) wc.heap.size _ (st.take t) [⟨gc, gx, gr, gt⟩] (by rfl) HV1.out _ _ _ (by rfl) GG.out hlt2.out BV1.out.size ?_; intro v2 w2 hown2 hg2; have BV2 := Lib.hid (BV1.out.grown hg2 BV1.out.size (fun e he => HV1.out.base e he)); have HV2 := Lib.hid hown2; clear hown2)
                | (refine step_append_FF rfl _ _ (by rfl) wc.heap.size _ (st.take t) [⟨gc, gx, gr, gt⟩] (by rfl) (ownF_alloc HV1.out _) _ _ _ (by rfl) (GG.out _ (HRW.out.below BV1.out)) hlt2.out (le_alloc BV1.out.size _) ?_; intro v2 w2 hown2 hg2; have BV2 := Lib.hid ((BV1.out.alloc BV1.out.size _).grown hg2 (le_alloc BV1.out.size _) (fun e he => HV1.out.base e he)); have HV2 := Lib.hid hown2; clear hown2))
              all_goals
                go_wp2
                obtain ⟨a9, c9, rfl, hf1, hf2⟩ := HV2.out.form' (n := t + 1) (by rw [List.length_append, hT.out]; rfl)
                refine ⟨⟨i + 1, st.take t ++ [⟨gc, gx, gr, gt⟩], a9, t + 1, c9, by go_num, rfl, by omega, E4.out.below BV2.out, HV2.out.mono (by omega), by rw [List.length_append, hT.out]; rfl, ⟨hf1, hf2⟩, ?_, HEQ2.out, HIB.out.1.trans ((BL.out.trans (BV2.out.mono BL.out.size)).mono hs1)⟩, by simp [intOf]; omega⟩
                rw [HP2.out]
                congr 1
                omega
            · rw [if_pos (by simpa using e2)] at HEQ
              obtain rfl : R = (fac0, ge) := HEQ.symm
              have hne : (ge != 0) = true := bne_iff_ne.2 e2
              clear HEQ
              go_wp2
              have P4 := E4.out.put (.int .i64 0) (.slice none 0 0) (.int .i64 0) (.int .i64 0)
              exact bodyPost_ret (v := .tuple #[facZ, .int .i64 ge]) (by simp [results, Try.results24, go_sem, facZ, P4.c0, P4.c1, P4.c2, P4.c3]) rfl ⟨facE_no _ rfl, below_put4 (HI.out.b2.trans (BL.out.mono hs1)) (Nat.le_refl _) _ _ _ _⟩
        · rw [play_push _ _ _ _ _ ek] at HEQ
          rw [if_neg ek] at HP2
          obtain ⟨q, rfl⟩ : ∃ q : Nat, k = (q : Int) := ⟨k.toNat, by omega⟩
          have hq : q < Fs.length := by omega
          have hqi : (q : Int) < (Fs.length : Int) := by omega
          obtain ⟨sb, so, rfl, hcs⟩ := (HS.out.below HI.out.b2).at (by omega)
          obtain ⟨b, m, d, k1, k2, k3, k4, k5⟩ := hcs q hq
          have HK5 := Lib.hid k5
          have hR : layF Fs (q : Int) = if (Fs.getD q fac0).ok = true then (Fs.getD q fac0, 0) else (fac0, 1) := by unfold layF; rw [Int.toNat_natCast]
          have CA := fun W (hW : Row W (.slice b m d) (Fs.getD q fac0).xs) => rcheck_calls (Fs.getD q fac0).cols (Fs.getD q fac0).rws (Fs.getD q fac0).trn b m d (Fs.getD q fac0).xs W hW
          clear hcs k5 hq p1 p3 p4 ek
          generalize Fs.getD q fac0 = F at *
          obtain ⟨fc, fx, fr, ft⟩ := F
          dsimp only at *
          have CX := Lib.hid (Cells4.new wr (.int .i64 fc) (.slice b m d) (.int .i64 fr) (.int .i64 ft) 36)
          have hne6 : w.heap.size ≠ wr.heap.size := by omega
          have BX := Lib.hid ((Below.refl wr.heap.size wr).alloc (Nat.le_refl _) (.cells #[.int .i64 fc, .slice b m d, .int .i64 fr, .int .i64 ft] 36))
          cases hk : checkP fc fx fr ft with
          | false =>
            rw [if_neg (by unfold FacD.ok; rw [hk]; simp)] at hR
            rw [hR, if_pos (by simp)] at HEQ
            obtain rfl : R = (fac0, 1) := HEQ.symm
            rw [hk] at CA
            have CA2 := Lib.hid CA
            clear CA hk HEQ hR
            go_wp2_with (go_at_call 28; go_must (refine (CA2.out _ (HK5.out.below BX.out)).mono ?_; rintro e w3 ⟨rfl, hb3⟩; have BL := Lib.hid (BX.out.trans (hb3.mono BX.out.size)); have E4 := Lib.hid (HI.out.c4.below BL.out); obtain ⟨r0, r1, r2, r3, r4, r5, r6, r7⟩ := E4.out; have hz3 := E4.out.lt; clear hb3))
            have P4 := E4.out.put (.int .i64 0) (.slice none 0 0) (.int .i64 0) (.int .i64 0)
            exact bodyPost_ret (v := .tuple #[facZ, .int .i64 1]) (by simp [results, Try.results24, go_sem, facZ, P4.c0, P4.c1, P4.c2, P4.c3]) rfl ⟨facE_no _ rfl, below_put4 (HI.out.b2.trans (BL.out.mono hs1)) (Nat.le_refl _) _ _ _ _⟩
          | true =>
            rw [if_pos (by unfold FacD.ok; rw [hk])] at hR
            rw [hR, if_neg (by simp)] at HEQ
            rw [hk] at CA
            have CA2 := Lib.hid CA
            have HEQ2 := Lib.hid HEQ
            clear CA hk HEQ hR
            have hlen := Lib.hid (show st.length + 1 ≤ 1000 by have := htsP_le HI.out.ht; rw [HI.out.len]; have := HL.out; have := List.length_take_le i l; omega)
            go_wp2_with (first
              | (go_at_call 28; go_must (refine (CA2.out _ (HK5.out.below BX.out)).mono ?_; rintro e w3 ⟨rfl, hb3⟩; have BL := Lib.hid (BX.out.trans (hb3.mono BX.out.size)); have E4 := Lib.hid (HI.out.c4.below BL.out); have EX := Lib.hid (CX.out.below hb3); obtain ⟨r0, r1, r2, r3, r4, r5, r6, r7⟩ := E4.out; obtain ⟨m0, m1, m2, m3, n0, n1, n2, n3⟩ := EX.out; have hz3 := E4.out.lt; have hz4 := EX.out.lt; clear c40 c41 c42 c43 f40 f41 f42 f43 hb3))
              | (at_builtin; go_must (refine wpList_append_FF _ rfl _ _ rfl (w.heap.size + 1) _ st [⟨fc, fx, fr, ft⟩] rfl (HI.out.own.below (BL.out.alloc BL.out.size _)) _ _ _ rfl (fcs_new (F := ⟨fc, fx, fr, ft⟩) (HK5.out.below BL.out) (by simp)) hlen.out (by simp; omega) ?_; intro v9 w4 hown9 hg9; obtain ⟨a9, c9, rfl, hf1, hf2⟩ := hown9.form' (n := tm + 1) (by rw [List.length_append, HI.out.len]; rfl))))
            have hne0 : ∀ e, (Value.slice ta tm tc).ownBlock = some e → w.heap.size + 1 ≤ e := fun e he => HI.out.own.base e he
            have N4 := (E4.out.alloc (.cells #[.int .i64 fc, .slice b m d, .int .i64 fr, .int .i64 ft] 36)).grown hg9 (fun e => by have := hne0 _ e.symm; omega)
            have NB : Below w.heap.size w w4 := (HI.out.b2.trans ((BL.out.alloc BL.out.size (.cells #[.int .i64 fc, .slice b m d, .int .i64 fr, .int .i64 ft] 36)).mono hs1)).grown hg9 (by simp; omega) (fun e he => by have := hne0 e he; omega)
            go_roundw
            case rel => exact ⟨i + 1, st ++ [⟨fc, fx, fr, ft⟩], a9, tm + 1, c9, by go_num, rfl, by omega, N4, hown9, by rw [List.length_append, HI.out.len]; rfl, ⟨hf1, hf2⟩, by rw [HP2.out]; simp, HEQ2.out, NB⟩
            case measure => simp [intOf]; omega
      · have hii : ¬ (i : Int) < (n : Int) := by omega
        obtain rfl : i = n := by omega
        have hht := HI.out.ht
        rw [← HX.out] at hht
        have h1 := play_end HOK.out hht
        obtain rfl : tm = 1 := by omega
        have HEQ := HI.out.eq
        rw [List.drop_of_length_le (by rw [HX.out]; exact Nat.le_refl _)] at HEQ
        obtain ⟨F, hF⟩ : ∃ F, st.getD 0 fac0 = F := ⟨_, rfl⟩
        obtain rfl : R = (F, 0) := by rw [← HEQ, ← hF]; rfl
        obtain ⟨g, rfl, hg2, hcs⟩ := HI.out.own.at (by omega)
        obtain ⟨b, m, d, k1, k2, k3, k4, k5⟩ := hcs 0 (by omega)
        rw [hF] at k1 k3 k4 k5
        have HK5 := Lib.hid k5
        have E4 := Lib.hid HI.out.c4
        have BL := Lib.hid HI.out.b2
        rw [Nat.zero_mul] at k1 k2 k3 k4
        rw [Nat.zero_add] at k2 k3 k4
        clear hht h1 HEQ hcs k5 HI hF
        obtain ⟨fc, fx, fr, ft⟩ := F
        dsimp only at *
        go_wp2
        have P4 := E4.out.put (.int .i64 fc) (.slice b m d) (.int .i64 fr) (.int .i64 ft)
        exact bodyPost_ret (v := .tuple #[.agg #[.int .i64 fc, .slice b m d, .int .i64 fr, .int .i64 ft], .int .i64 0]) (by simp [results, Try.results24, go_sem, P4.c0, P4.c1, P4.c2, P4.c3]) rfl ⟨⟨b, m, d, rfl, HK5.out.put4 E4.out slice_ne _ _ _ _⟩, below_put4 BL.out (Nat.le_refl _) _ _ _ _⟩
  · have hR : runD l Fs = (fac0, 10) := by unfold runD; rw [if_pos (by simpa using c)]
    rw [hR]
    have hc10 : pcheckD l Fs.length = 10 := by
      unfold pcheckD at c ⊢
      split <;> simp_all
    rw [hc10] at HC
    clear hR c hc10
    go_enter Try.func24, Try.ntmps24
    go_wp2_with (go_at_call 10; go_must (refine HC.out.mono ?_; rintro e w1 ⟨rfl, hb1⟩; have BL := Lib.hid (B1.out.trans (hb1.mono (by simp))); have E1 := Lib.hid (C1.out.below hb1); obtain ⟨m0, m1, m2, m3, n0, n1, n2, n3⟩ := E1.out; have hz3 := E1.out.lt; clear hb1))
    have P4 := E1.out.put (.int .i64 0) (.slice none 0 0) (.int .i64 0) (.int .i64 0)
    exact bodyPost_ret (v := .tuple #[facZ, .int .i64 10]) (by simp [results, Try.results24, go_sem, facZ, P4.c0, P4.c1, P4.c2, P4.c3]) rfl ⟨facE_no _ rfl, below_put4 BL.out (Nat.le_refl _) _ _ _ _⟩
end Go.Proofs.Ytgmaljikjkbdlaa
