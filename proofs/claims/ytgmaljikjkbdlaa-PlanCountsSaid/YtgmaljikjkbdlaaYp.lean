/- A plan's play with counts. What a plan's counts come to: the program's Counts. -/
import Derived.Test.YtgmaljikjkbdlaaYn
namespace Go.Proofs.Ytgmaljikjkbdlaa
open Go.RowKit Lv Go.Shelf
attribute [local go_sem] Oper.semAt_some drewN_alloc drewN_setCell as_jj as_pj as_pp as_jp

/-- pairs of ints, cell by cell -/
def pcell (cs : List (Int × Int)) : List Value := cs.flatMap fun c => [Value.int .i64 c.1, Value.int .i64 c.2]
theorem pcell_cons (c : Int × Int) (cs : List (Int × Int)) : pcell (c :: cs) = Value.int .i64 c.1 :: Value.int .i64 c.2 :: pcell cs := rfl
theorem pcell_len : ∀ cs : List (Int × Int), (pcell cs).length = cs.length * 2
  | [] => rfl
  | c :: cs => by rw [pcell_cons, List.length_cons, List.length_cons, List.length_cons, pcell_len cs]; omega
theorem pcell_append : ∀ a b : List (Int × Int), pcell (a ++ b) = pcell a ++ pcell b
  | [], b => rfl
  | c :: a, b => by rw [List.cons_append, pcell_cons, pcell_cons, pcell_append a b]; rfl
theorem pcell_at : ∀ (cs : List (Int × Int)) (i : Nat), i < cs.length → (pcell cs)[i * 2]? = some (.int .i64 (cs.getD i (0, 0)).1) ∧ (pcell cs)[i * 2 + 1]? = some (.int .i64 (cs.getD i (0, 0)).2)
  | [], i, h => absurd h (Nat.not_lt_zero _)
  | c :: cs, 0, h => ⟨rfl, rfl⟩
  | c :: cs, i + 1, h => by
    have := pcell_at cs i (by simpa using h)
    rw [pcell_cons, show (i + 1) * 2 = i * 2 + 1 + 1 by omega]
    exact this
theorem pcell_take : ∀ (cs : List (Int × Int)) (k : Nat), (pcell cs).take (k * 2) = pcell (cs.take k)
  | [], k => by simp [pcell]
  | c :: cs, 0 => by simp [pcell]
  | c :: cs, k + 1 => by
    rw [pcell_cons, show (k + 1) * 2 = k * 2 + 1 + 1 by omega, List.take_succ_cons, List.take_succ_cons, pcell_take cs k, List.take_succ_cons, pcell_cons]
theorem pcell_one : ∀ (cs : List (Int × Int)), ∀ u ∈ pcell cs, u.oneCell' = true := by
  intro cs u hu
  unfold pcell at hu
  obtain ⟨c, _, hc⟩ := List.mem_flatMap.1 hu
  simp at hc
  rcases hc with rfl | rfl <;> rfl
/-- a stack of pairs of one's own -/
def OwnP (w : World) (B : Nat) (e : TypeId) (v : Value) (cs : List (Int × Int)) : Prop := w.ownsRow B e 2 v cs.length (pcell cs)
theorem ownP_nil (w : World) (B : Nat) (e : TypeId) : OwnP w B e (.slice none 0 0) [] := World.ownsRow_nil _ _ _ _
theorem OwnP.base {w : World} {B : Nat} {e : TypeId} {v : Value} {cs : List (Int × Int)} (h : OwnP w B e v cs) (k : Nat) (hk : v.ownBlock = some k) : B ≤ k := (owns_lt h k hk).1
theorem OwnP.below {w w' : World} {B : Nat} {e : TypeId} {v : Value} {cs : List (Int × Int)} (h : OwnP w B e v cs) (hb : Below w.heap.size w w') : OwnP w' B e v cs := owns_below h hb (Nat.le_refl _)
theorem OwnP.form {w : World} {B : Nat} {e : TypeId} {v : Value} {cs : List (Int × Int)} {n : Nat} (h : OwnP w B e v cs) (hl : cs.length = n) : ∃ a cap, v = .slice a n cap ∧ n ≤ cap ∧ cap ≤ 9223372036854775807 := by
  subst hl
  rcases h.2 with ⟨rfl, h0⟩ | ⟨g, cap, cur, rfl, _, _, q1, q2, _⟩
  · exact ⟨none, 0, by rw [h0], by omega, by omega⟩
  · unfold maxLen at q2
    exact ⟨_, cap, rfl, q1, by omega⟩
theorem OwnP.at {w : World} {B : Nat} {e : TypeId} {a : Option Addr} {n cap : Nat} {cs : List (Int × Int)} (h : OwnP w B e (.slice a n cap) cs) (hl : cs.length = n) (hn : 0 < n) : ∃ g, a = some ⟨g, 0, none⟩ ∧ B ≤ g ∧ ∀ i, i < n → w.cell? ⟨g, i * 2, none⟩ = some (.int .i64 (cs.getD i (0, 0)).1) ∧ w.cell? ⟨g, i * 2 + 1, none⟩ = some (.int .i64 (cs.getD i (0, 0)).2) := by
  have h1 : w.ownsRow B e 2 (.slice a n cap) cs.length (pcell cs) := h
  have hle := h1.1
  rcases id h1.2 with ⟨e, _⟩ | ⟨g, cap', cur, e, q0, q1, q2, q3, q4, q5⟩
  · simp only [Value.slice.injEq] at e; omega
  · simp only [Value.slice.injEq] at e
    obtain ⟨rfl, rfl, rfl⟩ := e
    refine ⟨g, rfl, q0, fun i hi => ?_⟩
    obtain ⟨k1, k2⟩ := pcell_at cs i (by omega)
    exact ⟨by rw [h1.cellAt (i * 2) (by omega)]; exact k1, by rw [h1.cellAt (i * 2 + 1) (by omega)]; exact k2⟩
theorem OwnP.take {w : World} {B : Nat} {e : TypeId} {a : Option Addr} {n cap : Nat} {cs : List (Int × Int)} (h : OwnP w B e (.slice a n cap) cs) (hn : cs.length = n) {k : Nat} (hk : k ≤ n) (hk0 : 0 < n) : OwnP w B e (.slice a k cap) (cs.take k) := by
  have h1 : w.ownsRow B e 2 (.slice a n cap) cs.length (pcell cs) := h
  have hl : (cs.take k).length = k := by rw [List.length_take]; omega
  show w.ownsRow B e 2 (.slice a k cap) (cs.take k).length (pcell (cs.take k))
  rw [hl, ← pcell_take]
  have hle := h1.1
  rcases h1.2 with ⟨e, e0⟩ | ⟨g, cap', cur, e, q0, q1, q2, q3, q4, q5⟩
  · omega
  · simp only [Value.slice.injEq] at e
    obtain ⟨rfl, _, rfl⟩ := e
    refine ⟨by rw [List.length_take]; omega, .inr ⟨g, cap, cur, rfl, q0, q1, by omega, q3, q4, ?_⟩⟩
    rw [← q5, List.take_take]
    congr 1
    omega
theorem infoC : (Try.prog.info? 66).map (fun i => (i.zero, i.size, i.bytes)) = some (some (.agg #[.int .i64 0, .int .i64 0]), 2, 16) := by kernel_rfl
theorem wpList_append_P (w : World) {ops : Array Oper} {rest : List Oper} {o : Oper} {a : Act} {Q : Exit → Act → World → Prop}
    (hg : o.guard = none) (s x : Operand) (e t : TypeId) (hinfo : (Try.prog.info? e).map (fun i => (i.zero, i.size, i.bytes)) = some (some (.agg #[.int .i64 0, .int .i64 0]), 2, 16)) (ht : Try.prog.underlying t = some (.slice e))
    (hop : o.op = Op.call { callee := Callee.builtin Builtin.append, args := #[s, x], argTypes := #[t, t] })
    (B : Nat) (v : Value) (cs ys : List (Int × Int)) (hs : a.eval s = v) (hown : OwnP w B e v cs) (ad : Addr) (m c : Nat) (hx : a.eval x = .slice (some ad) m c) (hy : ∀ j u, (pcell ys)[j]? = some u → w.cell? (ad.add j) = some u)
    (b1 : cs.length + ys.length ≤ 1000) (hm : ys.length = m) (b3 : B ≤ w.heap.size)
    (hK : ∀ v' w', OwnP w' B e v' (cs ++ ys) → w.grownBy w' v.ownBlock → wpList Try.prog ops Q rest (a.put o.dst v') w') :
    wpList Try.prog ops Q (o :: rest) a w := by
  obtain ⟨i0, hin, hz0, hz1, hz2⟩ := info_parts hinfo
  have hcl : w.ownsRow B e 2 v cs.length (pcell cs) := hown
  refine wpList_append_own w hg s x _ hop B e i0 _ 2 16 ht hin hz0 hz1 hz2 rfl (by decide) v cs.length (pcell cs) hs hcl ad m c (pcell ys) hx (by rw [pcell_len]; omega) hy (pcell_one ys) (by unfold maxLen; omega) (by omega) b3 ?_
  intro v' w' h1 h2 _
  refine hK v' w' ?_ h2
  show w'.ownsRow B e 2 v' (cs ++ ys).length (pcell (cs ++ ys))
  rw [List.length_append, hm, pcell_append]; exact h1
theorem cnt_new {w : World} {g : Nat} (c1 c2 : Int) (t : TypeId) (hg : g = w.heap.size) : ∀ j u, (pcell [(c1, c2)])[j]? = some u → (w.alloc (.cells #[.int .i64 c1, .int .i64 c2] t)).cell? ((⟨g, 0, none⟩ : Addr).add j) = some u := by
  subst hg
  intro j u hu
  have hj : j < 2 := (List.getElem?_eq_some_iff.1 hu).1
  have hj' : j = 0 ∨ j = 1 := by omega
  rcases hj' with rfl | rfl
  · cases hu; simp [go_sem, Addr.add]
  · cases hu; simp [go_sem, Addr.add]

/-- what stands at the head of play's loop -/
structure CInv (w w2 : World) (R : (Int × Int) × Int) (rows turns : List Int) (C : Int) (l : List Int) (W : World) (i : Nat) (st : List (Int × Int)) (a : Option Addr) (n cap : Nat) : Prop where
  c6 : Cells2 W w.heap.size (.int .i64 0) (.int .i64 0)
  c8 : Cells2 W (w.heap.size + 1) (.int .i64 0) (.int .i64 0)
  own : OwnP W w2.heap.size 66 (.slice a n cap) st
  len : st.length = n
  cap1 : n ≤ cap ∧ cap ≤ 9223372036854775807
  ht : htsP 0 (l.take i) = some (n : Int)
  eq : playD (0, 0) (layC rows turns) (cntAdd C) (l.drop i) st = R
  b2 : Below w2.heap.size w2 W
  ok : ∀ c ∈ st, cntOk c = true
theorem cplay_step {rows turns : List Int} {C : Int} {l : List Int} {i : Nat} (hi : i < l.length) (st : List (Int × Int)) : playD (0, 0) (layC rows turns) (cntAdd C) (l.drop i) st = playD (0, 0) (layC rows turns) (cntAdd C) (l.getD i 0 :: l.drop (i + 1)) st := by rw [drop_snoc hi]
theorem cntOk_in {c : Int × Int} (h : cntOk c = true) : (0 ≤ c.1 ∧ c.1 ≤ 200) ∧ (0 ≤ c.2 ∧ c.2 ≤ 4096) := by
  unfold cntOk at h
  simp only [Bool.and_eq_true, decide_eq_true_eq] at h
  omega
theorem cntAdd_ok {C : Int} {a b : Int × Int} (h : (cntAdd C a b).2 = 0) : cntOk (cntAdd C a b).1 = true := by
  unfold cntAdd at h ⊢
  split at h
  · cases h
  · rename_i hk
    rw [if_neg hk]
    simpa using hk
theorem mem_getD {st : List (Int × Int)} {i : Nat} (h : i < st.length) : st.getD i (0, 0) ∈ st := by
  rw [List.getD_eq_getElem?_getD, List.getElem?_eq_getElem h]; exact List.getElem_mem h
/-- behind the statement that joins two -/
def KCut (wr : World) (c : Int × Int) (W : World) : Prop := Cells2 W wr.heap.size (.int .i64 c.1) (.int .i64 c.2) ∧ Below wr.heap.size wr W
set_option maxRecDepth 100000 in
set_option maxHeartbeats 4000000 in
theorem playC_calls (l : List Int) (a : Option Addr) (n cap : Nat) (rs ts : List Int) (ra ta : Option Addr) (rn rc tn tc b1 b2 b3 : Nat) (C : Int) (w : World) (h : LI w (.slice a n cap) l) (hl : l.length ≤ 100) (hr : LI w (.slice ra rn rc) rs) (ht : LI w (.slice ta tn tc) ts)
    (h1 : w.cell? ⟨b1, 0, none⟩ = some (.slice ra rn rc)) (h2 : w.cell? ⟨b2, 0, none⟩ = some (.slice ta tn tc)) (h3 : w.cell? ⟨b3, 0, none⟩ = some (.int .i64 C)) (hrt : rn = tn) (hall : ∀ k, k < rn → cntOk (rs.getD k 0, ts.getD k 0) = true) (hC1 : 1 ≤ C) (hC6 : C ≤ 6) (hok : pcheckD l rs.length = 0) :
    Calls Try.prog 48 #[.slice a n cap, .func (.func 45) #[] #[.pointer (some ⟨b1, 0, none⟩), .pointer (some ⟨b2, 0, none⟩)], .func (.func 46) #[] #[.pointer (some ⟨b3, 0, none⟩)]] w fun e w' => e = .returned (.tuple #[.agg #[.int .i64 (playD (0, 0) (layC rs ts) (cntAdd C) l []).1.1, .int .i64 (playD (0, 0) (layC rs ts) (cntAdd C) l []).1.2], .int .i64 (playD (0, 0) (layC rs ts) (cntAdd C) l []).2]) ∧ Below w.heap.size w w' := by
  obtain ⟨R, hR⟩ : ∃ R, R = playD (0, 0) (layC rs ts) (cntAdd C) l [] := ⟨_, rfl⟩
  rw [← hR]
  subst hrt
  have hn100 : n ≤ 100 := by rw [← h.len.1]; exact hl
  have HX := Lib.hid h.len.1
  have HRL := Lib.hid hr.len.1
  have H := Lib.hid h
  have HL := Lib.hid hl
  have HA := Lib.hid hall
  have HS := Lib.hid (And.intro hr ht)
  have HC := Lib.hid (And.intro h1 (And.intro h2 h3))
  have hb1 := cell_lt h1
  have hb2 := cell_lt h2
  have hb3 := cell_lt h3
  have HB := Lib.hid (show b1 < w.heap.size ∧ b2 < w.heap.size ∧ b3 < w.heap.size from ⟨hb1, hb2, hb3⟩)
  have HOK := Lib.hid hok
  have HR := Lib.hid hR.symm
  have C0 := Lib.hid (Cells2.new w (.int .i64 0) (.int .i64 0) 66)
  have C1 := Lib.hid (Cells2.new (w.alloc (.cells #[.int .i64 0, .int .i64 0] 66)) (.int .i64 0) (.int .i64 0) 66)
  have B1 := Lib.hid (((Below.refl w.heap.size w).alloc (Nat.le_refl _) (.cells #[.int .i64 0, .int .i64 0] 66)).alloc (by simp) (.cells #[.int .i64 0, .int .i64 0] 66))
  clear h hl hr ht h1 h2 h3 hok hR hall hb1 hb2 hb3
  go_enter Try.func48, Try.ntmps48
  go_wp2_with (go_at_call 32; refine (psteps_calls _ n cap l _ (H.out.below B1.out) HL.out).mono ?_; rintro e w2 ⟨⟨v, rfl, hv⟩, hb2⟩; obtain ⟨va, vc, rfl⟩ := step_form hv HX.out; have HV := Lib.hid hv.cel; have HB2 := Lib.hid hb2; clear hv hb2)
  have hsz2 := Lib.hid (show w.heap.size + 1 + 1 ≤ w2.heap.size by have := HB2.out.size; simp at this; omega)
  have BW := Lib.hid (B1.out.trans (HB2.out.mono (by simp; omega)))
  have IN : CInv w w2 R rs ts C l w2 0 [] none 0 0 := by
    refine ⟨(C0.out.alloc _).below HB2.out, ?_, ownP_nil _ _ _, rfl, ⟨Nat.le_refl _, by omega⟩, rfl, HR.out, Below.refl _ _, fun c hc => nomatch hc⟩
    have := C1.out.below HB2.out
    simpa using this
  go_loopw [9, 20] (fun s9 s20 wr => ∃ (i : Nat) (st : List (Int × Int)) (a : Option Addr) (m c : Nat), s20 = .int .i64 (i : Int) ∧ s9 = .slice a m c ∧ i ≤ n ∧ CInv w w2 R rs ts C l wr i st a m c) (fun _ s20 _ => n - (intOf s20).toNat)
  case atStart => exact ⟨0, [], none, 0, 0, rfl, rfl, Nat.zero_le _, IN⟩
  case round =>
    obtain ⟨i, st, ta', tm, tc', rfl, rfl, hi, I⟩ := hrel
    have HI := Lib.hid I
    obtain ⟨c60, c61, f60, f61⟩ := I.c6
    obtain ⟨c80, c81, f80, f81⟩ := I.c8
    have hs1 := I.b2.size
    have hlw := hsz2.out
    have hl6 : w.heap.size < wr.heap.size := by omega
    have hl8 : w.heap.size + 1 < wr.heap.size := by omega
    clear I
    by_cases hlt : i < n
    · obtain ⟨blk, off, rfl, hcs⟩ := step_at (HV.out.below HI.out.b2) (by omega)
      have hx1 := hcs i hlt
      have hii : (i : Int) < (n : Int) := by omega
      have hil : i < l.length := by rw [HX.out]; exact hlt
      obtain ⟨p1, p2, p3, p4⟩ := play_at HOK.out HI.out.ht hil
      have HP2 := Lib.hid p2
      have HEQ := HI.out.eq
      rw [cplay_step hil] at HEQ
      clear hcs p2
      generalize l.getD i 0 = k at *
      by_cases ek : k = -1
      · subst ek
        rw [show stepV (-1) = .iface 84 (.agg #[]) from rfl] at hx1
        rw [play_join] at HEQ
        rw [if_pos rfl] at HP2
        have h2 := p1 rfl
        obtain ⟨t, rfl⟩ : ∃ t, tm = t + 2 := ⟨tm - 2, by omega⟩
        rw [HI.out.len, show t + 2 - 2 = t by omega, show t + 2 - 1 = t + 1 by omega] at HEQ
        obtain ⟨g, rfl, hg2, hst⟩ := (HI.out.own).at HI.out.len (by omega)
        obtain ⟨k1, k2⟩ := hst t (by omega)
        obtain ⟨t1, ht1⟩ : ∃ t1 : Nat, t + 1 = t1 := ⟨_, rfl⟩
        rw [ht1] at HEQ
        obtain ⟨k1', k2'⟩ := hst t1 (by omega)
        have hcap := HI.out.cap1
        have hi1 : (t : Int) + 1 = (t1 : Int) := by omega
        have hi2 : IntKind.i64.wrap (t1 : Int) = (t1 : Int) := IntWalk.i64_in _ (by omega)
        have hi3 : t1 < t + 2 := by omega
        have hi4 : (t1 : Int) < (t : Int) + 2 := by omega
        obtain ⟨r1, r2⟩ := cntOk_in (HI.out.ok _ (mem_getD (i := t) (by rw [HI.out.len]; omega)))
        obtain ⟨r3, r4⟩ := cntOk_in (HI.out.ok _ (mem_getD (i := t1) (by rw [HI.out.len]; omega)))
        clear ht1
        clear hst p1 p3 p4 h2
        have TW := Lib.hid (fun W hW => pcounts2_calls C (st.getD t (0, 0)).1 (st.getD t (0, 0)).2 (st.getD t1 (0, 0)).1 (st.getD t1 (0, 0)).2 b3 W hW r1 r3 r2 r4 hC1 hC6)
        have HOKD := Lib.hid (cntAdd_ok (C := C) (a := st.getD t (0, 0)) (b := st.getD t1 (0, 0)))
        clear r1 r2 r3 r4
        generalize cntAdd C (st.getD t (0, 0)) (st.getD t1 (0, 0)) = D at *
        generalize st.getD t (0, 0) = G at *
        generalize st.getD t1 (0, 0) = G' at *
        obtain ⟨g1, g2⟩ := G
        obtain ⟨g1', g2'⟩ := G'
        obtain ⟨⟨d1, d2⟩, ge⟩ := D
        dsimp only at *
        have CX := Lib.hid (Cells2.new wr (.int .i64 0) (.int .i64 0) 66)
        have BX := Lib.hid (((Below.refl wr.heap.size wr).alloc (Nat.le_refl _) (.cells #[.int .i64 0, .int .i64 0] 66)).alloc (by simp) (.cells #[] 84))
        have BWR := Lib.hid (BW.out.trans (HI.out.b2.mono (by omega)))
        go_wp2
        go_cut [13] from 41 to 54 (fun s13 wx => s13 = .int .i64 ge ∧ KCut wr (d1, d2) wx)
        case first =>
          rename_i J K' hJ hK'
          have BD := Lib.hid BX.out.drew
          have j1 := (BD.out.cell (p := ⟨g, t * 2, none⟩) (cell_lt k1)).trans k1
          have j2 := (BD.out.cell (p := ⟨g, t * 2 + 1, none⟩) (cell_lt k2)).trans k2
          have j1' := (BD.out.cell (p := ⟨g, t1 * 2, none⟩) (cell_lt k1')).trans k1'
          have j2' := (BD.out.cell (p := ⟨g, t1 * 2 + 1, none⟩) (cell_lt k2')).trans k2'
          have j3 := (BD.out.cell (p := ⟨b3, 0, none⟩) (by have := HB.out.2.2; simp; omega)).trans ((BWR.out.cell (p := ⟨b3, 0, none⟩) HB.out.2.2).trans HC.out.2.2)
          have CD := Lib.hid ((CX.out.alloc (.cells #[] 84)).below (Below.refl _ _).drew)
          go_region_with (go_at_call 46; go_must (refine (TW.out _ j3).mono ?_; rintro e wL ⟨rfl, hbL⟩; have EX := Lib.hid (CD.out.below hbL); have BL := Lib.hid (BD.out.trans (hbL.mono BD.out.size)); obtain ⟨m0, m1, n0, n1⟩ := EX.out; have hzL := BL.out.size; have hzM := EX.out.lt; clear hbL))
          all_goals
            refine hK' _ _ (Met.intro (hJ _ _ ?_))
            (repeat apply Exists.intro)
            refine ⟨?_, rfl⟩
            refine ⟨rfl, ?_⟩
            exact ⟨EX.out.put _ _, below_put2 BL.out (Nat.le_refl _) _ _⟩
        case rest =>
          obtain ⟨rfl, ex, hbc⟩ := hcut
          have BL := Lib.hid hbc
          have E6 := Lib.hid (HI.out.c6.below hbc)
          have E8 := Lib.hid (HI.out.c8.below hbc)
          have EX := Lib.hid ex
          have hlen := Lib.hid HI.out.len
          have HOT := Lib.hid (HI.out.own.take HI.out.len (k := t) (by omega) (by omega))
          obtain ⟨m0, m1, n0, n1⟩ := ex
          obtain ⟨r0, r1, r4, r5⟩ := E6.out
          obtain ⟨v0, v1, _, _⟩ := E8.out
          have hzL := BL.out.size
          have hzM := EX.out.lt
          have hzN : w.heap.size < wc.heap.size := by omega
          have hnex : wr.heap.size ≠ w.heap.size + 1 := by omega
          clear c60 c61 f60 f61 c80 c81 f80 f81 hbc k1 k2 k1' k2'
          dsimp only at m0 m1
          by_cases e2 : ge = 0
          · subst e2
            rw [if_neg (by simp)] at HEQ
            have HEQ2 := Lib.hid HEQ
            clear HEQ
            have hlt2 : Hid ((st.take t).length + 1 ≤ 1000) := by
              unfold Hid
              have := htsP_le HI.out.ht
              rw [List.length_take]
              have := HL.out
              have := List.length_take_le i l
              omega
            go_wp2_with (at_builtin; go_must (refine wpList_append_P _ rfl _ _ 66 98 infoC Try.underlying98 rfl w2.heap.size _ (st.take t) [(d1, d2)] rfl (HOT.out.below (BL.out.alloc (by omega) _)) _ _ _ rfl (cnt_new d1 d2 _ (by simp)) hlt2.out rfl (by simp; omega) ?_; intro v9 w3 hown9 hg9; obtain ⟨a9, c9, rfl, hf1, hf2⟩ := hown9.form (n := t + 1) (by rw [List.length_append, List.length_take, hlen.out, List.length_singleton]; omega)))
            have hne0 : ∀ e, (Value.slice (some ⟨g, 0, none⟩) t tc').ownBlock = some e → w2.heap.size ≤ e := fun e he => HOT.out.base e he
            have N6 := (E6.out.alloc (.cells #[.int .i64 d1, .int .i64 d2] 66)).grown hg9 (fun e => by have := hne0 _ e.symm; omega)
            have N8 := (E8.out.alloc (.cells #[.int .i64 d1, .int .i64 d2] 66)).grown hg9 (fun e => by have := hne0 _ e.symm; omega)
            have NB : Below w2.heap.size w2 w3 := (HI.out.b2.trans ((BL.out.alloc (by omega) (.cells #[.int .i64 d1, .int .i64 d2] 66)).mono hs1)).grown hg9 (by simp; omega) hne0
            refine ⟨⟨i + 1, st.take t ++ [(d1, d2)], a9, t + 1, c9, by go_num, rfl, by omega, N6, N8, hown9, by rw [List.length_append, List.length_take, hlen.out, List.length_singleton]; omega, ⟨hf1, hf2⟩, ?_, HEQ2.out, NB, ?_⟩, by simp [intOf]; omega⟩
            · rw [HP2.out]
              congr 1
              omega
            · intro c hc
              rcases List.mem_append.1 hc with hc | hc
              · exact HI.out.ok c (List.mem_of_mem_take hc)
              · rw [List.mem_singleton.1 hc]; exact HOKD.out rfl
          · rw [if_pos (by simpa using e2)] at HEQ
            obtain rfl : R = ((0, 0), ge) := HEQ.symm
            have hne : (ge != 0) = true := bne_iff_ne.2 e2
            clear HEQ
            go_wp2
            have P6 := E6.out.put (.int .i64 0) (.int .i64 0)
            exact bodyPost_ret (v := .tuple #[.agg #[.int .i64 0, .int .i64 0], .int .i64 ge]) (by simp [results, Try.results48, go_sem, P6.c0, P6.c1]) rfl ⟨rfl, below_put2 (BWR.out.trans (BL.out.mono BWR.out.size)) (Nat.le_refl _) _ _⟩
      · rw [show stepV k = .iface 57 (.agg #[.int .i64 k]) from if_neg ek] at hx1
        rw [play_push _ _ _ _ _ ek] at HEQ
        rw [if_neg ek] at HP2
        obtain ⟨q, rfl⟩ : ∃ q : Nat, k = (q : Int) := ⟨k.toNat, by omega⟩
        have hq : q < rn := by rw [HRL.out] at p4; omega
        have PR := Lib.hid (fun W h h' hc hc' => pcounts1_calls q rs ts ra ta rn rc rn tc b1 b2 W h h' hc hc' hq hq)
        have HOKD := Lib.hid (HA.out q hq)
        clear hq p1 p3 p4 ek
        have CX := Lib.hid (Cells2.new wr (.int .i64 0) (.int .i64 0) 66)
        rw [show layC rs ts (q : Int) = ((rs.getD q 0, ts.getD q 0), 0) from rfl, if_neg (by simp)] at HEQ
        dsimp only at HEQ
        generalize rs.getD q 0 = d1 at *
        generalize ts.getD q 0 = d2 at *
        have BX := Lib.hid (((Below.refl wr.heap.size wr).alloc (Nat.le_refl _) (.cells #[.int .i64 0, .int .i64 0] 66)).alloc (by simp) (.cells #[.int .i64 (q : Int)] 57))
        have BWR := Lib.hid (BW.out.trans (HI.out.b2.mono (by omega)))
        have BWX := Lib.hid (BWR.out.trans (BX.out.mono BWR.out.size))
        have HEQ2 := Lib.hid HEQ
        clear HEQ
        have hlen := Lib.hid (show st.length + 1 ≤ 1000 by have := htsP_le HI.out.ht; rw [HI.out.len]; have := HL.out; have := List.length_take_le i l; omega)
        go_wp2_with (first
          | (go_at_call 45; go_must (refine (PR.out _ (HS.out.1.below BWX.out) (HS.out.2.below BWX.out) ((BWX.out.cell (p := ⟨b1, 0, none⟩) HB.out.1).trans HC.out.1) ((BWX.out.cell (p := ⟨b2, 0, none⟩) HB.out.2.1).trans HC.out.2.1)).mono ?_; rintro e wL ⟨rfl, hbL⟩; have BL := Lib.hid (BX.out.trans (hbL.mono (by simp; omega))); have E6 := Lib.hid (HI.out.c6.below BL.out); have E8 := Lib.hid (HI.out.c8.below BL.out); have EX := Lib.hid ((CX.out.alloc (.cells #[.int .i64 (q : Int)] 57)).below hbL); obtain ⟨m0, m1, n0, n1⟩ := EX.out; obtain ⟨r0, r1, r4, r5⟩ := E6.out; obtain ⟨v0, v1, _, _⟩ := E8.out; have hzL := BL.out.size; have hzM := EX.out.lt; have hzN : w.heap.size < wL.heap.size := (by omega); have hnex : wr.heap.size ≠ w.heap.size + 1 := (by omega); clear c60 c61 f60 f61 c80 c81 f80 f81 hbL))
          | (at_builtin; go_must (refine wpList_append_P _ rfl _ _ 66 98 infoC Try.underlying98 rfl w2.heap.size _ st [(d1, d2)] rfl (HI.out.own.below ((below_put2 BL.out (Nat.le_refl _) _ _).alloc (by simp; omega) _)) _ _ _ rfl (cnt_new d1 d2 _ (by simp)) hlen.out rfl (by simp; omega) ?_; intro v9 w3 hown9 hg9; obtain ⟨a9, c9, rfl, hf1, hf2⟩ := hown9.form (n := tm + 1) (by rw [List.length_append, HI.out.len]; rfl))))
        have hne0 : ∀ e, (Value.slice ta' tm tc').ownBlock = some e → w2.heap.size ≤ e := fun e he => HI.out.own.base e he
        have N6 := ((E6.out.put_other (b' := wr.heap.size) (by omega) (.int .i64 d1) (.int .i64 d2)).alloc (.cells #[.int .i64 d1, .int .i64 d2] 66)).grown hg9 (fun e => by have := hne0 _ e.symm; omega)
        have N8 := ((E8.out.put_other (b' := wr.heap.size) (by omega) (.int .i64 d1) (.int .i64 d2)).alloc (.cells #[.int .i64 d1, .int .i64 d2] 66)).grown hg9 (fun e => by have := hne0 _ e.symm; omega)
        have NB : Below w2.heap.size w2 w3 := (HI.out.b2.trans (((below_put2 BL.out (Nat.le_refl _) (.int .i64 d1) (.int .i64 d2)).alloc (by simp; omega) (.cells #[.int .i64 d1, .int .i64 d2] 66)).mono hs1)).grown hg9 (by simp; omega) hne0
        go_roundw
        case rel => exact ⟨i + 1, st ++ [(d1, d2)], a9, tm + 1, c9, by go_num, rfl, by omega, N6, N8, hown9, by rw [List.length_append, HI.out.len]; rfl, ⟨hf1, hf2⟩, by rw [HP2.out]; simp, HEQ2.out, NB, fun c hc => by
          rcases List.mem_append.1 hc with hc | hc
          · exact HI.out.ok c hc
          · rw [List.mem_singleton.1 hc]; exact HOKD.out⟩
        case measure => simp [intOf]; omega
    · have hii : ¬ (i : Int) < (n : Int) := by omega
      obtain rfl : i = n := by omega
      have hht := HI.out.ht
      rw [← HX.out] at hht
      have h1 := play_end HOK.out hht
      obtain rfl : tm = 1 := by omega
      have HEQ := HI.out.eq
      rw [List.drop_of_length_le (by rw [HX.out]; exact Nat.le_refl _)] at HEQ
      obtain ⟨F, hF⟩ : ∃ F, st.getD 0 (0, 0) = F := ⟨_, rfl⟩
      obtain rfl : R = (F, 0) := by rw [← HEQ, ← hF]; rfl
      obtain ⟨g, rfl, hg2, hcs⟩ := HI.out.own.at HI.out.len (by omega)
      obtain ⟨k1, k2⟩ := hcs 0 (by omega)
      rw [hF] at k1 k2
      have E6 := Lib.hid HI.out.c6
      have BL := Lib.hid (BW.out.trans (HI.out.b2.mono (by omega)))
      rw [Nat.zero_mul] at k1 k2
      rw [Nat.zero_add] at k2
      clear hht h1 HEQ hcs HI hF
      obtain ⟨fc, ft⟩ := F
      dsimp only at *
      go_wp2
      have P4 := E6.out.put (.int .i64 fc) (.int .i64 ft)
      exact bodyPost_ret (v := .tuple #[.agg #[.int .i64 fc, .int .i64 ft], .int .i64 0]) (by simp [results, Try.results48, go_sem, P4.c0, P4.c1]) rfl ⟨rfl, below_put2 BL.out (Nat.le_refl _) _ _⟩
end Go.Proofs.Ytgmaljikjkbdlaa
namespace Go.Proofs.Ytgmaljikjkbdlaa
open Go.RowKit Lv Go.Shelf
attribute [local go_sem] Oper.semAt_some drewN_alloc drewN_setCell

theorem any_none {rs ts : List Int} (h : ∀ k, k < rs.length → cntOk (rs.getD k 0, ts.getD k 0) = true) : ¬ ((List.range rs.length).any fun k => !cntOk (rs.getD k 0, ts.getD k 0)) = true := by
  intro hh
  obtain ⟨k, hk, hb⟩ := List.any_eq_true.1 hh
  rw [h k (List.mem_range.1 hk)] at hb
  cases hb
theorem any_one {rs ts : List Int} {k : Nat} (hk : k < rs.length) (h : cntOk (rs.getD k 0, ts.getD k 0) = false) : ((List.range rs.length).any fun k => !cntOk (rs.getD k 0, ts.getD k 0)) = true :=
  List.any_eq_true.2 ⟨k, List.mem_range.2 hk, by rw [h]; rfl⟩
theorem sizeI_ne {C : Int} (h : sizeI C ≠ 0) : 1 ≤ C ∧ C ≤ 6 := by
  unfold sizeI at h
  split at h
  · assumption
  · exact absurd rfl h
set_option maxRecDepth 100000 in
set_option maxHeartbeats 4000000 in
theorem pcounts_calls (l : List Int) (a : Option Addr) (n cap : Nat) (C : Int) (rs ts : List Int) (ra ta : Option Addr) (rn rc tn tc : Nat) (w : World) (h : LI w (.slice a n cap) l) (hl : l.length ≤ 100) (hr : LI w (.slice ra rn rc) rs) (ht : LI w (.slice ta tn tc) ts) :
    Calls Try.prog 25 #[.slice a n cap, .int .i64 C, .slice ra rn rc, .slice ta tn tc] w fun e w' => e = .returned (.tuple #[.int .i64 (countsD l C rs ts).1.1, .int .i64 (countsD l C rs ts).1.2, .int .i64 (countsD l C rs ts).2]) ∧ Below w.heap.size w w' := by
  obtain ⟨R, hR⟩ : ∃ R, R = countsD l C rs ts := ⟨_, rfl⟩
  rw [← hR]
  obtain ⟨r1, r2, r3⟩ := hr.len
  obtain ⟨t1, t2, t3⟩ := ht.len
  have HRL := Lib.hid r1
  have HTL := Lib.hid t1
  have H := Lib.hid h
  have HL := Lib.hid hl
  have HS := Lib.hid (And.intro hr ht)
  have HR := Lib.hid hR
  have SZ := Lib.hid (fun w => sizeI_calls C w)
  have B1 := Lib.hid ((((Below.refl w.heap.size w).alloc (Nat.le_refl _) (.cells #[.int .i64 C] 3)).alloc (by simp) (.cells #[.slice ra rn rc] 22)).alloc (by simp; omega) (.cells #[.slice ta tn tc] 22))
  clear h hl hr ht hR r1 t1
  by_cases hz : sizeI C = 0
  · obtain rfl : R = ((0, 0), 1) := by rw [HR.out]; unfold countsD; rw [if_pos (.inl hz)]
    have hz2 : (sizeI C == 0) = true := by simpa using hz
    clear hz HR
    generalize sizeI C = sz at *
    go_enter Try.func25, Try.ntmps25
    go_wp2_with (go_at_call 43; go_must (refine (SZ.out _).mono ?_; rintro e w1 ⟨rfl, rfl⟩))
    exact bodyPost_ret (v := .tuple #[.int .i64 0, .int .i64 0, .int .i64 1]) (by simp [results, Try.results25, go_sem]) rfl ⟨rfl, B1.out⟩
  · obtain ⟨hC1, hC6⟩ := sizeI_ne hz
    have hz2 : (sizeI C == 0) = false := by simpa using hz
    by_cases hrt : rn = tn
    · subst hrt
      have hrt2 : ((rn : Int) != (rn : Int)) = false := by simp
      have hRR : R = if ((List.range rs.length).any fun k => !cntOk (rs.getD k 0, ts.getD k 0)) = true then ((0, 0), 1) else if pcheckD l rs.length ≠ 0 then ((0, 0), 10) else playD (0, 0) (layC rs ts) (cntAdd C) l [] := by
        rw [HR.out]; unfold countsD; rw [if_neg (by rw [HRL.out, HTL.out]; simp [hz])]
      have HR2 := Lib.hid hRR
      clear hz HR hRR
      generalize sizeI C = sz at *
      go_enter Try.func25, Try.ntmps25
      go_wp2_with (go_at_call 43; go_must (refine (SZ.out _).mono ?_; rintro e w1 ⟨rfl, rfl⟩))
      have x0 : (((w.alloc (.cells #[.int .i64 C] 3)).alloc (.cells #[.slice ra rn rc] 22)).alloc (.cells #[.slice ta rn tc] 22)).cell? ⟨w.heap.size, 0, none⟩ = some (.int .i64 C) := by simp [go_sem]
      have x1 : (((w.alloc (.cells #[.int .i64 C] 3)).alloc (.cells #[.slice ra rn rc] 22)).alloc (.cells #[.slice ta rn tc] 22)).cell? ⟨w.heap.size + 1, 0, none⟩ = some (.slice ra rn rc) := by simp [go_sem]
      have x2 : (((w.alloc (.cells #[.int .i64 C] 3)).alloc (.cells #[.slice ra rn rc] 22)).alloc (.cells #[.slice ta rn tc] 22)).cell? ⟨w.heap.size + 1 + 1, 0, none⟩ = some (.slice ta rn tc) := by simp [go_sem]
      have hsz : w.heap.size + 3 ≤ (((w.alloc (.cells #[.int .i64 C] 3)).alloc (.cells #[.slice ra rn rc] 22)).alloc (.cells #[.slice ta rn tc] 22)).heap.size := by simp
      generalize (((w.alloc (.cells #[.int .i64 C] 3)).alloc (.cells #[.slice ra rn rc] 22)).alloc (.cells #[.slice ta rn tc] 22)) = W0 at *
      have X := Lib.hid (And.intro x0 (And.intro x1 x2))
      clear x0 x1 x2
      go_loopw [31] (fun s wr => ∃ k : Nat, s = .int .i64 (k : Int) ∧ k ≤ rn ∧ Hid ((∀ j, j < k → cntOk (rs.getD j 0, ts.getD j 0) = true) ∧ Below W0.heap.size W0 wr)) (fun s _ => rn - (intOf s).toNat)
      case atStart => exact ⟨0, rfl, Nat.zero_le _, fun j hj => absurd hj (Nat.not_lt_zero _), Below.refl _ _⟩
      case round =>
        obtain ⟨k, rfl, hk, HK⟩ := hrel
        have BW := Lib.hid (B1.out.trans (HK.out.2.mono B1.out.size))
        have y0 := (HK.out.2.cell (p := ⟨w.heap.size, 0, none⟩) (by simp; omega)).trans X.out.1
        have y1 := (HK.out.2.cell (p := ⟨w.heap.size + 1, 0, none⟩) (by simp; omega)).trans X.out.2.1
        have y2 := (HK.out.2.cell (p := ⟨w.heap.size + 1 + 1, 0, none⟩) (by simp; omega)).trans X.out.2.2
        by_cases hlt : k < rn
        · obtain ⟨blk, off, rfl, hc⟩ := (HS.out.1.below BW.out).at (by omega)
          obtain ⟨blk', off', rfl, hc'⟩ := (HS.out.2.below BW.out).at (by omega)
          have z1 := hc k hlt
          have z2 := hc' k hlt
          have hii : (k : Int) < (rn : Int) := by omega
          clear hc hc'
          have PM := Lib.hid (fun w => pcmay_calls (rs.getD k 0) (ts.getD k 0) w)
          have D := Lib.hid (Cells2.new wr (.int .i64 (rs.getD k 0)) (.int .i64 (ts.getD k 0)) 66)
          cases hck : cntOk (rs.getD k 0, ts.getD k 0) with
          | true =>
            have HCK := Lib.hid hck
            rw [hck] at PM
            clear hck
            have BA := Lib.hid ((HK.out.2.alloc (by have := HK.out.2.size; omega) (.cells #[.int .i64 (rs.getD k 0), .int .i64 (ts.getD k 0)] 66)))
            generalize hrd : rs.getD k 0 = r at *
            generalize htd : ts.getD k 0 = t at *
            have HD := Lib.hid (And.intro hrd htd)
            clear hrd htd
            go_wp2_with (go_at_call 44; go_must (refine (PM.out _).mono ?_; rintro e w1 ⟨rfl, hb1⟩; have HB1 := Lib.hid hb1; clear hb1))
            go_roundw
            case rel => exact ⟨k + 1, by go_num, by omega, fun j hj => by
              rcases Nat.lt_or_ge j k with hjk | hjk
              · exact HK.out.1 j hjk
              · obtain rfl : j = k := by omega
                rw [HD.out.1, HD.out.2]; exact HCK.out, BA.out.trans (HB1.out.mono BA.out.size)⟩
            case measure => simp [intOf]; omega
          | false =>
            obtain rfl : R = ((0, 0), 1) := by rw [HR2.out, if_pos (any_one (by rw [HRL.out]; exact hlt) hck)]
            rw [hck] at PM
            clear hck
            have BA := Lib.hid ((BW.out.alloc BW.out.size (.cells #[.int .i64 (rs.getD k 0), .int .i64 (ts.getD k 0)] 66)))
            generalize rs.getD k 0 = r at *
            generalize ts.getD k 0 = t at *
            go_wp2_with (go_at_call 44; go_must (refine (PM.out _).mono ?_; rintro e w1 ⟨rfl, hb1⟩; have HB1 := Lib.hid hb1; clear hb1))
            exact bodyPost_ret (v := .tuple #[.int .i64 0, .int .i64 0, .int .i64 1]) (by simp [results, Try.results25, go_sem]) rfl ⟨rfl, BA.out.trans (HB1.out.mono BA.out.size)⟩
        · have hii : ¬ (k : Int) < (rn : Int) := by omega
          obtain rfl : k = rn := by omega
          have HALL := Lib.hid HK.out.1
          have hR3 : R = if pcheckD l rs.length ≠ 0 then ((0, 0), 10) else playD (0, 0) (layC rs ts) (cntAdd C) l [] := by
            rw [HR2.out, if_neg (any_none (by rw [HRL.out]; exact HALL.out))]
          have HR3 := Lib.hid hR3
          clear hR3 HR2
          have PC := Lib.hid (pcheck_calls a n cap (k : Int) l wr (H.out.below BW.out) HL.out)
          rw [HRL.out] at HR3
          by_cases hpc : pcheckD l (k : Int) = 0
          · have HPC := Lib.hid hpc
            rw [hpc] at PC
            have eR : playD (0, 0) (layC rs ts) (cntAdd C) l [] = R := by rw [HR3.out, if_neg (by simpa using hpc)]
            have PL := Lib.hid (fun W h h' h'' g1 g2 g3 => playC_calls l a n cap rs ts ra ta k rc k tc (w.heap.size + 1) (w.heap.size + 1 + 1) w.heap.size C W h HL.out h' h'' g1 g2 g3 rfl HALL.out hC1 hC6 (by rw [HRL.out]; exact HPC.out))
            clear hpc HR3
            rw [eR] at PL
            clear eR
            obtain ⟨⟨d1, d2⟩, de⟩ := R
            have C2 := Lib.hid (fun (W : World) => Cells2.new W (.int .i64 0) (.int .i64 0) 66)
            go_wp2_with (first
              | (go_at_call 9; go_must (refine PC.out.mono ?_; rintro e w1 ⟨rfl, hb1⟩; have BL := Lib.hid (BW.out.trans (hb1.mono BW.out.size)); have u0 := Lib.hid ((hb1.cell (p := ⟨w.heap.size, 0, none⟩) (cell_lt y0)).trans y0); have u1 := Lib.hid ((hb1.cell (p := ⟨w.heap.size + 1, 0, none⟩) (cell_lt y1)).trans y1); have u2 := Lib.hid ((hb1.cell (p := ⟨w.heap.size + 1 + 1, 0, none⟩) (cell_lt y2)).trans y2); clear hb1))
              | (go_at_call 48; go_must (refine (PL.out _ (H.out.below BL.out) (HS.out.1.below BL.out) (HS.out.2.below BL.out) u1.out u2.out u0.out).mono ?_; rintro e w2 ⟨rfl, hb2⟩; have E2 := Lib.hid (Cells2.new w2 (.int .i64 0) (.int .i64 0) 66); obtain ⟨m0, m1, n0, n1⟩ := E2.out; have BL2 := Lib.hid (BL.out.trans (hb2.mono BL.out.size)); have hz3 := E2.out.lt; clear hb2)))
            have P := E2.out.put (.int .i64 d1) (.int .i64 d2)
            obtain ⟨p0, p1, _, _⟩ := P
            go_quiet (fail)
            go_wp2
            exact bodyPost_ret (v := .tuple #[.int .i64 d1, .int .i64 d2, .int .i64 de]) (by simp [results, Try.results25, go_sem]) rfl ⟨rfl, below_drewN (BL2.out.alloc BL2.out.size _) _⟩
          · obtain rfl : R = ((0, 0), 10) := by rw [HR3.out, if_pos (by simpa using hpc)]
            have hc10 : pcheckD l (k : Int) = 10 := by
              unfold pcheckD at hpc ⊢
              split <;> simp_all
            rw [hc10] at PC
            clear hpc hc10 HR3
            go_wp2_with (go_at_call 9; go_must (refine PC.out.mono ?_; rintro e w1 ⟨rfl, hb1⟩; have BL := Lib.hid (BW.out.trans (hb1.mono BW.out.size)); clear hb1))
            exact bodyPost_ret (v := .tuple #[.int .i64 0, .int .i64 0, .int .i64 10]) (by simp [results, Try.results25, go_sem]) rfl ⟨rfl, BL.out⟩
    · have hrt2 : ((rn : Int) != (tn : Int)) = true := by simp; omega
      obtain rfl : R = ((0, 0), 1) := by rw [HR.out]; unfold countsD; rw [if_pos (.inr (by rw [HRL.out, HTL.out]; exact hrt))]
      clear hz HR
      generalize sizeI C = sz at *
      go_enter Try.func25, Try.ntmps25
      go_wp2_with (go_at_call 43; go_must (refine (SZ.out _).mono ?_; rintro e w1 ⟨rfl, rfl⟩))
      exact bodyPost_ret (v := .tuple #[.int .i64 0, .int .i64 0, .int .i64 1]) (by simp [results, Try.results25, go_sem]) rfl ⟨rfl, B1.out⟩
end Go.Proofs.Ytgmaljikjkbdlaa
