/- What a plan's counts come to: the reference's Counts. What a plan's counts come to: the reference's Counts, walked. -/
import Derived.Test.YtgmaljikjkbdlaaYr
import Derived.Test.YtgmaljikjkbdlaaYp
namespace Go.Proofs.Ytgmaljikjkbdlaa
open Go.RowKit Lv Go.Shelf
attribute [local go_sem high] run_maxI

attribute [local go_sem] Oper.semAt_some drewN_alloc drewN_setCell

attribute [local go_sem ↓] Go.wp_at_zero Go.wp_at_succ

theorem infoA : (Try.prog.info? 72).map (fun i => (i.zero, i.size, i.bytes)) = some (some (.agg #[.int .i64 0, .int .i64 0]), 2, 16) := by kernel_rfl
/-- pairs in a slice -/
def Prs (w : World) (v : Value) (cs : List (Int × Int)) : Prop :=
  ∃ (a : Option Addr) (cap : Nat), v = .slice a cs.length cap ∧ ∀ j u, (pcell cs)[j]? = some u → ∃ ad, a = some ad ∧ w.cell? (ad.add j) = some u
theorem Prs.below {w w' : World} {v : Value} {cs : List (Int × Int)} (h : Prs w v cs) (hb : Below w.heap.size w w') : Prs w' v cs := by
  obtain ⟨a, cap, e, h1⟩ := h
  refine ⟨a, cap, e, fun j u hu => ?_⟩
  obtain ⟨ad, ea, hc⟩ := h1 j u hu
  exact ⟨ad, ea, (hb.cell (p := ad.add j) (cell_lt hc)).trans hc⟩
theorem Prs.cells {w : World} {ad : Addr} {m c : Nat} {cs : List (Int × Int)} (h : Prs w (.slice (some ad) m c) cs) : cs.length = m ∧ ∀ j u, (pcell cs)[j]? = some u → w.cell? (ad.add j) = some u := by
  obtain ⟨a, cap, e, h1⟩ := h
  cases e
  refine ⟨rfl, fun j u hu => ?_⟩
  obtain ⟨ad', ea, hc⟩ := h1 j u hu
  cases ea
  exact hc
theorem OwnP.prs {w : World} {B : Nat} {e : TypeId} {v : Value} {cs : List (Int × Int)} (h : OwnP w B e v cs) : Prs w v cs := by
  have h1 : w.ownsRow B e 2 v cs.length (pcell cs) := h
  rcases id h1.2 with ⟨rfl, h0⟩ | ⟨g, cap, cur, rfl, q0, q1, q2, q3, q4, q5⟩
  · refine ⟨none, 0, by rw [h0], fun j u hu => ?_⟩
    have := (List.getElem?_eq_some_iff.1 hu).1
    rw [pcell_len, h0] at this
    omega
  · refine ⟨some ⟨g, 0, none⟩, cap, rfl, fun j u hu => ⟨⟨g, 0, none⟩, rfl, ?_⟩⟩
    have hj : j < (pcell cs).length := (List.getElem?_eq_some_iff.1 hu).1
    rw [show (⟨g, 0, none⟩ : Addr).add j = ⟨g, j, none⟩ by unfold Addr.add; by_cases e : j = 0 <;> simp [e]]
    rw [h1.cellAt j (by rw [pcell_len] at hj; omega)]
    exact hu
theorem prs_new {w : World} {g : Nat} (c1 c2 : Int) (t : TypeId) (hg : g = w.heap.size) : Prs (w.alloc (.cells #[.int .i64 c1, .int .i64 c2] t)) (.slice (some ⟨g, 0, none⟩) 1 1) [(c1, c2)] :=
  ⟨_, _, rfl, fun j u hu => ⟨_, rfl, cnt_new c1 c2 t hg j u hu⟩⟩
theorem Prs.grown1 {W W' : World} {B b : Nat} {e : TypeId} {v : Value} {cs ds : List (Int × Int)} {n c : Nat} (h : Prs W (.slice (some ⟨b, 0, none⟩) n c) ds) (_ : OwnP W B e v cs) (hg : W.grownBy W' v.ownBlock) (hne : some b ≠ v.ownBlock) : Prs W' (.slice (some ⟨b, 0, none⟩) n c) ds := by
  obtain ⟨hl, h1⟩ := h.cells
  refine ⟨_, c, by rw [hl], fun j u hu => ⟨_, rfl, ?_⟩⟩
  have hc := h1 j u hu
  have ea : (⟨b, 0, none⟩ : Addr).add j = ⟨b, j, none⟩ := by unfold Addr.add; by_cases e : j = 0 <;> simp [e]
  rw [ea] at hc ⊢
  exact hg.cell hc hne
theorem OwnP.mono {w : World} {B B' : Nat} {e : TypeId} {v : Value} {cs : List (Int × Int)} (h : OwnP w B e v cs) (hB : B' ≤ B) : OwnP w B' e v cs := by
  have h1 : w.ownsRow B e 2 v cs.length (pcell cs) := h
  refine ⟨h1.1, ?_⟩
  rcases h1.2 with h0 | ⟨g, cap, cur, q1, q2, q3⟩
  · exact .inl h0
  · exact .inr ⟨g, cap, cur, q1, Nat.le_trans hB q2, q3⟩
theorem ownP_emp (W : World) (B g : Nat) (e : TypeId) (hg : g = W.heap.size) (hB : B ≤ g) : OwnP (W.alloc (.cells #[] e)) B e (.slice (some ⟨g, 0, none⟩) 0 0) [] := by
  subst hg
  exact World.ownsRow_lit W #[] 0 hB (Nat.zero_le _) rfl
theorem ownP_alloc {W : World} {B : Nat} {e : TypeId} {v : Value} {cs : List (Int × Int)} (h : OwnP W B e v cs) (o : Obj) : OwnP (W.alloc o) B e v cs := h.below ((Below.refl _ _).alloc (Nat.le_refl _) o)
theorem ownP_drew {W : World} {B : Nat} {e : TypeId} {v : Value} {cs : List (Int × Int)} (h : OwnP W B e v cs) : OwnP W.drew B e v cs := h.below (Below.refl _ _).drew
/-- at a step of a region that draws its order -/
theorem step_append_P {w : World} {ops : Array Oper} {o : Oper} {a : Act} {K : Act → World → Prop} {Q : Exit → Act → World → Prop} {E : Prop} (hgd : o.guard = none) (s x : Operand)
    (hop : o.op = Op.call { callee := Callee.builtin Builtin.append, args := #[s, x], argTypes := #[71, 71] })
    (B : Nat) (v : Value) (cs ys : List (Int × Int)) (hs : a.eval s = v) (hown : OwnP w B 72 v cs) (ad : Addr) (m c : Nat) (hx : a.eval x = .slice (some ad) m c) (hy : Prs w (.slice (some ad) m c) ys)
    (b1 : cs.length + ys.length ≤ 1000) (b3 : B ≤ w.heap.size)
    (hK : ∀ v' w', OwnP w' B 72 v' (cs ++ ys) → w.grownBy w' v.ownBlock → K (a.put o.dst v') w') :
    if Region.wanted o (yielded ops a.tmps) = true then Oper.wp Try.prog o a w K Q else E := by
  have hw : Region.wanted o (yielded ops a.tmps) = true := by simp [Region.wanted, hgd]
  rw [if_pos hw]
  obtain ⟨i0, hin, hz0, hz1, hz2⟩ := info_parts infoA
  obtain ⟨hm, hcl⟩ := hy.cells
  have ho : w.ownsRow B 72 2 v cs.length (pcell cs) := hown
  have hlen : (pcell ys).length = m * 2 := by rw [pcell_len, hm]
  obtain ⟨v', w', hr, h2, h3, _⟩ := run_append_own w B 71 o.type 72 i0 _ 2 16 Try.underlying71 hin hz0 hz1 hz2 rfl (by decide) v cs.length (pcell cs) ho ad m c (pcell ys) hlen hcl (pcell_one ys) (by unfold maxLen; omega) (by omega) b3
  unfold Oper.wp execOp
  simp only [hop, resolve, invoke, builtin, Sem.run_bind, Sem.run_pure, Result.andThen_ok, List.map_toArray, List.map_cons, List.map_nil, hs, hx, hr]
  refine hK v' w' ?_ h3
  show w'.ownsRow B 72 2 v' (cs ++ ys).length (pcell (cs ++ ys))
  rw [List.length_append, hm, pcell_append]; exact h2
end Go.Proofs.Ytgmaljikjkbdlaa
namespace Go.Proofs.Ytgmaljikjkbdlaa
open Go.RowKit Lv Go.Shelf
attribute [local go_sem high] run_maxI

attribute [local go_sem] Oper.semAt_some drewN_alloc drewN_setCell

attribute [local go_sem ↓] Go.wp_at_zero Go.wp_at_succ

/-- what stands at the head of the reference's loop -/
structure EInv (w : World) (R : (Int × Int) × Int) (rs ts : List Int) (C : Int) (l : List Int) (W : World) (i : Nat) (st : List (Int × Int)) (a : Option Addr) (n cap : Nat) : Prop where
  own : OwnP W w.heap.size 72 (.slice a n cap) st
  len : st.length = n
  cap1 : n ≤ cap ∧ cap ≤ 9223372036854775807
  ht : htsP 0 (l.take i) = some (n : Int)
  eq : playD (0, 0) (layC rs ts) (cntAdd C) (l.drop i) st = R
  b2 : Below w.heap.size w W
  ok : ∀ c ∈ st, cntOk c = true
/-- behind the statement that joins two -/
def ECut (wr : World) (c : Int × Int) (s17 : Value) (W : World) : Prop :=
  ∃ (b6 : Nat), s17 = .pointer (some ⟨b6, 0, none⟩) ∧ Cells2 W b6 (.int .i64 c.1) (.int .i64 c.2) ∧ Below wr.heap.size wr W ∧ wr.heap.size ≤ b6
theorem cntAdd_parts {C : Int} {a b : Int × Int} (ha : cntOk a = true) (hb : cntOk b = true) (hC1 : 1 ≤ C) (hC6 : C ≤ 6) :
    ((200 < a.1 + b.1 ∨ 4096 < max a.2 b.2 + sizeI C) ∧ cntAdd C a b = ((0, 0), 6)) ∨ (¬ (200 < a.1 + b.1) ∧ ¬ (4096 < max a.2 b.2 + sizeI C) ∧ cntAdd C a b = ((a.1 + b.1, max a.2 b.2 + sizeI C), 0) ∧ cntOk (a.1 + b.1, max a.2 b.2 + sizeI C) = true) := by
  obtain ⟨a1, a2⟩ := cntOk_in ha
  obtain ⟨b1, b2⟩ := cntOk_in hb
  have hs := sizeI_in hC1 hC6
  by_cases c : 200 < a.1 + b.1 ∨ 4096 < max a.2 b.2 + sizeI C
  · refine .inl ⟨c, ?_⟩
    unfold cntAdd
    rw [if_pos]
    unfold cntOk
    simp only [Bool.and_eq_false_iff, decide_eq_false_iff_not]
    omega
  · have hk : cntOk (a.1 + b.1, max a.2 b.2 + sizeI C) = true := by
      unfold cntOk
      simp only [Bool.and_eq_true, decide_eq_true_eq]
      omega
    refine .inr ⟨by omega, by omega, ?_, hk⟩
    unfold cntAdd
    rw [if_neg (by rw [hk]; simp)]
set_option maxRecDepth 100000 in
set_option maxHeartbeats 4000000 in
theorem rpcounts_calls (l : List Int) (a : Option Addr) (n cap : Nat) (C : Int) (rs ts : List Int) (ra ta : Option Addr) (rn rc tn tc : Nat) (w : World) (h : LI w (.slice a n cap) l) (hl : l.length ≤ 100) (hr : LI w (.slice ra rn rc) rs) (ht : LI w (.slice ta tn tc) ts) :
    Calls Try.prog 26 #[.slice a n cap, .int .i64 C, .slice ra rn rc, .slice ta tn tc] w fun e w' => e = .returned (.tuple #[.int .i64 (countsD l C rs ts).1.1, .int .i64 (countsD l C rs ts).1.2, .int .i64 (countsD l C rs ts).2]) ∧ Below w.heap.size w w' := by
  obtain ⟨R, hR⟩ : ∃ R, R = countsD l C rs ts := ⟨_, rfl⟩
  rw [← hR]
  obtain ⟨r1, r2, r3⟩ := hr.len
  obtain ⟨t1, t2, t3⟩ := ht.len
  have hn100 : n ≤ 100 := by rw [← h.len.1]; exact hl
  have HX := Lib.hid h.len.1
  have HRL := Lib.hid r1
  have HTL := Lib.hid t1
  have H := Lib.hid h
  have HL := Lib.hid hl
  have HS := Lib.hid (And.intro hr ht)
  have HR := Lib.hid hR
  have SZ := Lib.hid (fun w => rsizeI_calls C w)
  have CS := Lib.hid (fun w => rcost_calls C w)
  clear h hl hr ht hR r1 t1
  by_cases hz : sizeI C = 0
  · obtain rfl : R = ((0, 0), 1) := by rw [HR.out]; unfold countsD; rw [if_pos (.inl hz)]
    have hz2 : (sizeI C == 0) = true := by simpa using hz
    clear hz HR CS
    generalize sizeI C = sz at *
    go_enter Try.func26, Try.ntmps26
    go_wp2_with (go_at_call 49; go_must (refine (SZ.out _).mono ?_; rintro e w1 ⟨rfl, rfl⟩))
    exact bodyPost_ret (v := .tuple #[.int .i64 0, .int .i64 0, .int .i64 1]) (by simp [results, Try.results26, go_sem]) rfl ⟨rfl, Below.refl _ _⟩
  · obtain ⟨hC1, hC6⟩ := sizeI_ne hz
    have hz2 : (sizeI C == 0) = false := by simpa using hz
    by_cases hrt : rn = tn
    · subst hrt
      have hrt2 : ((rn : Int) != (rn : Int)) = false := by simp
      have hRR : R = if ((List.range rs.length).any fun k => !cntOk (rs.getD k 0, ts.getD k 0)) = true then ((0, 0), 1) else if pcheckD l rs.length ≠ 0 then ((0, 0), 10) else playD (0, 0) (layC rs ts) (cntAdd C) l [] := by
        rw [HR.out]; unfold countsD; rw [if_neg (by rw [HRL.out, HTL.out]; simp [hz])]
      have HR2 := Lib.hid hRR
      have PARTS := Lib.hid (fun a b ha hb => cntAdd_parts (C := C) (a := a) (b := b) ha hb hC1 hC6)
      have hsz := sizeI_in hC1 hC6
      obtain ⟨sz, hsz0⟩ : ∃ sz, sz = sizeI C := ⟨_, rfl⟩
      rw [← hsz0] at hz2 hsz SZ CS PARTS
      clear hz HR hRR hsz0
      go_enter Try.func26, Try.ntmps26
      go_wp2_with (go_at_call 49; go_must (refine (SZ.out _).mono ?_; rintro e w1 ⟨rfl, rfl⟩))
      go_loopw [11] (fun s wr => ∃ k : Nat, s = .int .i64 (k : Int) ∧ k ≤ rn ∧ Hid ((∀ j, j < k → cntOk (rs.getD j 0, ts.getD j 0) = true) ∧ Below w.heap.size w wr)) (fun s _ => rn - (intOf s).toNat)
      case atStart => exact ⟨0, rfl, Nat.zero_le _, fun j hj => absurd hj (Nat.not_lt_zero _), Below.refl _ _⟩
      case round =>
        obtain ⟨k, rfl, hk, HK⟩ := hrel
        have BW := Lib.hid HK.out.2
        by_cases hlt : k < rn
        · obtain ⟨blk, off, rfl, hc⟩ := (HS.out.1.below BW.out).at (by omega)
          obtain ⟨blk', off', rfl, hc'⟩ := (HS.out.2.below BW.out).at (by omega)
          have z1 := hc k hlt
          have z2 := hc' k hlt
          have hii : (k : Int) < (rn : Int) := by omega
          clear hc hc'
          have HAT := Lib.hid (fun h => any_one (rs := rs) (ts := ts) (k := k) (by rw [HRL.out]; exact hlt) h)
          obtain ⟨ck, hck⟩ : ∃ ck, ck = cntOk (rs.getD k 0, ts.getD k 0) := ⟨_, rfl⟩
          have HCK := Lib.hid hck
          unfold cntOk at hck
          dsimp only at hck
          generalize hrd : rs.getD k 0 = r at *
          generalize htd : ts.getD k 0 = t at *
          have HD := Lib.hid (And.intro hrd htd)
          clear hrd htd
          by_cases c1 : r < 0
          · obtain rfl : ck = false := by rw [hck]; simp; omega
            obtain rfl : R = ((0, 0), 1) := by rw [HR2.out, if_pos (HAT.out HCK.out.symm)]
            clear hck
            go_wp2
            exact bodyPost_ret (v := .tuple #[.int .i64 0, .int .i64 0, .int .i64 1]) (by simp [results, Try.results26, go_sem]) rfl ⟨rfl, BW.out⟩
          · by_cases c2 : 200 < r
            · obtain rfl : ck = false := by rw [hck]; simp; omega
              obtain rfl : R = ((0, 0), 1) := by rw [HR2.out, if_pos (HAT.out HCK.out.symm)]
              clear hck
              go_wp2
              exact bodyPost_ret (v := .tuple #[.int .i64 0, .int .i64 0, .int .i64 1]) (by simp [results, Try.results26, go_sem]) rfl ⟨rfl, BW.out⟩
            · by_cases c3 : t < 0
              · obtain rfl : ck = false := by rw [hck]; simp; omega
                obtain rfl : R = ((0, 0), 1) := by rw [HR2.out, if_pos (HAT.out HCK.out.symm)]
                clear hck
                go_wp2
                exact bodyPost_ret (v := .tuple #[.int .i64 0, .int .i64 0, .int .i64 1]) (by simp [results, Try.results26, go_sem]) rfl ⟨rfl, BW.out⟩
              · by_cases c4 : 4096 < t
                · obtain rfl : ck = false := by rw [hck]; simp; omega
                  obtain rfl : R = ((0, 0), 1) := by rw [HR2.out, if_pos (HAT.out HCK.out.symm)]
                  clear hck
                  go_wp2
                  exact bodyPost_ret (v := .tuple #[.int .i64 0, .int .i64 0, .int .i64 1]) (by simp [results, Try.results26, go_sem]) rfl ⟨rfl, BW.out⟩
                · obtain rfl : ck = true := by rw [hck]; simp; omega
                  clear hck HAT
                  go_wp2
                  go_roundw
                  case rel => exact ⟨k + 1, by go_num, by omega, fun j hj => by
                    rcases Nat.lt_or_ge j k with hjk | hjk
                    · exact HK.out.1 j hjk
                    · obtain rfl : j = k := by omega
                      rw [HD.out.1, HD.out.2]; exact HCK.out.symm, BW.out⟩
                  case measure => simp [intOf]; omega
        · have hii : ¬ (k : Int) < (rn : Int) := by omega
          obtain rfl : k = rn := by omega
          have HALL := Lib.hid HK.out.1
          have hR3 : R = if pcheckD l rs.length ≠ 0 then ((0, 0), 10) else playD (0, 0) (layC rs ts) (cntAdd C) l [] := by
            rw [HR2.out, if_neg (any_none (by rw [HRL.out]; exact HALL.out))]
          have HR3 := Lib.hid hR3
          clear hR3 HR2
          have PC := Lib.hid (rpcheck_calls a n cap (k : Int) l wr (H.out.below BW.out) HL.out)
          rw [HRL.out] at HR3
          by_cases hpc : pcheckD l (k : Int) = 0
          · have HOK := Lib.hid (show pcheckD l rs.length = 0 by rw [HRL.out]; exact hpc)
            rw [hpc] at PC
            have HR4 := Lib.hid (show playD (0, 0) (layC rs ts) (cntAdd C) l [] = R by rw [HR3.out, if_neg (by simpa using hpc)])
            clear hpc HR3
            go_wp2_with (go_at_call 10; go_must (refine PC.out.mono ?_; rintro e w1 ⟨rfl, hb1⟩; have BL := Lib.hid (BW.out.trans (hb1.mono BW.out.size)); clear hb1))
            have IN : EInv w R rs ts C l w1 0 [] none 0 0 := ⟨ownP_nil _ _ _, rfl, ⟨Nat.le_refl _, by omega⟩, rfl, HR4.out, BL.out, fun c hc => nomatch hc⟩
            clear HK BW PC BL
            go_loopw [12, 13] (fun s12 s13 wr => ∃ (i : Nat) (st : List (Int × Int)) (a : Option Addr) (m c : Nat), s13 = .int .i64 (i : Int) ∧ s12 = .slice a m c ∧ i ≤ n ∧ EInv w R rs ts C l wr i st a m c) (fun _ s13 _ => n - (intOf s13).toNat)
            case atStart => exact ⟨0, [], none, 0, 0, rfl, rfl, Nat.zero_le _, IN⟩
            case round =>
              obtain ⟨i, st, sa, tm, sc, rfl, rfl, hi, I⟩ := hrel
              have HI := Lib.hid I
              have hs1 := I.b2.size
              clear I IN
              by_cases hlt : i < n
              · obtain ⟨blk, off, rfl, hcs⟩ := (H.out.below HI.out.b2).at (by omega)
                have hx1 := hcs i hlt
                have hii2 : (i : Int) < (n : Int) := by omega
                have hil : i < l.length := by rw [HX.out]; exact hlt
                obtain ⟨p1, p2, p3, p4⟩ := play_at HOK.out HI.out.ht hil
                have HP2 := Lib.hid p2
                have HEQ := HI.out.eq
                rw [cplay_step hil] at HEQ
                clear hcs p2
                generalize hlq : l.getD i 0 = q at *
                by_cases ek : q = -1
                · subst ek
                  rw [play_join] at HEQ
                  rw [if_pos rfl] at HP2
                  have h2 := p1 rfl
                  obtain ⟨t, rfl⟩ : ∃ t, tm = t + 2 := ⟨tm - 2, by omega⟩
                  rw [HI.out.len, show t + 2 - 2 = t by omega, show t + 2 - 1 = t + 1 by omega] at HEQ
                  obtain ⟨g, rfl, hg2, hst⟩ := (HI.out.own).at HI.out.len (by omega)
                  obtain ⟨k1, k2⟩ := hst t (by omega)
                  obtain ⟨t1, ht1⟩ : ∃ t1 : Nat, t + 1 = t1 := ⟨_, rfl⟩
                  rw [ht1] at HEQ
                  obtain ⟨k1', k2'⟩ := hst t1 (by omega)
                  have hcap := HI.out.cap1
                  have hi1 : (t : Int) + 2 - 1 = (t1 : Int) := by omega
                  have hi0 : (t : Int) + 2 - 2 = (t : Int) := by omega
                  have hi2 : IntKind.i64.wrap (t1 : Int) = (t1 : Int) := IntWalk.i64_in _ (by omega)
                  have hi2' : IntKind.i64.wrap (t : Int) = (t : Int) := IntWalk.i64_in _ (by omega)
                  have hi4 : (t1 : Int) < (t : Int) + 2 := by omega
                  have hi5 : (t : Int) < (t : Int) + 2 := by omega
                  have ok1 := HI.out.ok _ (mem_getD (i := t) (by rw [HI.out.len]; omega))
                  have ok2 := HI.out.ok _ (mem_getD (i := t1) (by rw [HI.out.len]; omega))
                  have PT := PARTS.out _ _ ok1 ok2
                  have in1 := cntOk_in ok1
                  have in2 := cntOk_in ok2
                  clear ht1 hlq hst p1 p3 p4 h2 ok1 ok2
                  generalize cntAdd C (st.getD t (0, 0)) (st.getD t1 (0, 0)) = D at *
                  generalize st.getD t (0, 0) = G at *
                  generalize st.getD t1 (0, 0) = G' at *
                  obtain ⟨g1, g2⟩ := G
                  obtain ⟨g1', g2'⟩ := G'
                  dsimp only at *
                  obtain ⟨m, hm⟩ : ∃ m, max g2 g2' = m := ⟨_, rfl⟩
                  have hm0 : 0 ≤ m ∧ m ≤ 4096 := by omega
                  rw [hm] at PT
                  have hw0 : IntKind.i64.wrap (g1 + g1') = g1 + g1' := IntWalk.i64_in _ (by omega)
                  have hw1 : IntKind.i64.wrap (m + sz) = m + sz := IntWalk.i64_in _ (by omega)
                  have HBW := Lib.hid (((Below.refl wr.heap.size wr).alloc (Nat.le_refl _) (.cells #[.int .i64 g1, .int .i64 g2] 72)).alloc (by simp) (.cells #[.int .i64 g1', .int .i64 g2'] 72))
                  have D0 := (Cells2.new wr (.int .i64 g1) (.int .i64 g2) 72).alloc (.cells #[.int .i64 g1', .int .i64 g2'] 72)
                  have D1 : Cells2 ((wr.alloc (.cells #[.int .i64 g1, .int .i64 g2] 72)).alloc (.cells #[.int .i64 g1', .int .i64 g2'] 72)) (wr.heap.size + 1) (.int .i64 g1') (.int .i64 g2') := by
                    have := Cells2.new (wr.alloc (.cells #[.int .i64 g1, .int .i64 g2] 72)) (.int .i64 g1') (.int .i64 g2') 72
                    simpa using this
                  have j1' := (((Below.refl wr.heap.size wr).alloc (Nat.le_refl _) (.cells #[.int .i64 g1, .int .i64 g2] 72)).cell (p := ⟨g, t1 * 2, none⟩) (cell_lt k1')).trans k1'
                  have j2' := (((Below.refl wr.heap.size wr).alloc (Nat.le_refl _) (.cells #[.int .i64 g1, .int .i64 g2] 72)).cell (p := ⟨g, t1 * 2 + 1, none⟩) (cell_lt k2')).trans k2'
                  go_wp2
                  have HIO := Lib.hid (HI.out.own.below HBW.out)
                  have hszW := HBW.out.size
                  generalize (wr.alloc (.cells #[.int .i64 g1, .int .i64 g2] 72)).alloc (.cells #[.int .i64 g1', .int .i64 g2'] 72) = W0 at *
                  go_cut [17] from 106 to 119 (fun s17 wx => ECut W0 (g1 + g1', m + sz) s17 wx)
                  case first =>
                    rename_i J K' hJ hK'
                    obtain ⟨p0, p1, _, _⟩ := D0.below (Below.refl _ _).drew
                    obtain ⟨q0, q1, _, _⟩ := D1.below (Below.refl _ _).drew
                    have E3 := (Cells2.new W0 (.int .i64 0) (.int .i64 0) 72).below (Below.refl _ _).drew
                    have HE3 := Lib.hid E3
                    obtain ⟨e0, e1, e2, e3⟩ := E3
                    have gl : W0.heap.size < (W0.alloc (.cells #[.int .i64 0, .int .i64 0] 72)).drew.heap.size := by simp
                    have HbB := Lib.hid (show Below W0.heap.size W0 (W0.alloc (.cells #[.int .i64 0, .int .i64 0] 72)).drew from ((Below.refl _ _).alloc (Nat.le_refl _) _).drew)
                    have KEEP := Lib.hid (fun (W : World) (hb : Below W0.heap.size W0 W) => (show W.cell? ⟨wr.heap.size, 0, none⟩ = some (.int .i64 g1) ∧ W.cell? ⟨wr.heap.size, 1, none⟩ = some (.int .i64 g2) ∧ W.cell? ⟨wr.heap.size + 1, 0, none⟩ = some (.int .i64 g1') ∧ W.cell? ⟨wr.heap.size + 1, 1, none⟩ = some (.int .i64 g2') from
                      ⟨(hb.cell (p := ⟨wr.heap.size, 0, none⟩) D0.lt).trans D0.c0, (hb.cell (p := ⟨wr.heap.size, 1, none⟩) D0.lt).trans D0.c1, (hb.cell (p := ⟨wr.heap.size + 1, 0, none⟩) D1.lt).trans D1.c0, (hb.cell (p := ⟨wr.heap.size + 1, 1, none⟩) D1.lt).trans D1.c1⟩))
                    clear D0 D1 PT
                    go_region_held3 (fun w' => w'.cell? ⟨wr.heap.size, 0, none⟩ = some (.int .i64 g1) ∧ w'.cell? ⟨wr.heap.size, 1, none⟩ = some (.int .i64 g2) ∧ w'.cell? ⟨wr.heap.size + 1, 0, none⟩ = some (.int .i64 g1') ∧ w'.cell? ⟨wr.heap.size + 1, 1, none⟩ = some (.int .i64 g2'))
                      (first
                      | with_reducible exact KEEP.out _ (Below.refl _ _).drew
                      | with_reducible exact KEEP.out _ HbB.out
                      | with_reducible exact KEEP.out _ ((Below.refl _ _).alloc (Nat.le_refl _) _).drew
                      | with_reducible exact KEEP.out _ (below_put2 HbB.out (Nat.le_refl _) _ _)
                      | go_keep)
                      (first | (go_at_call 50; refine (CS.out _).mono ?_; rintro e w' ⟨rfl, rfl⟩))
                    all_goals
                      refine hK' _ _ (Met.intro (hJ _ _ ?_))
                      (repeat apply Exists.intro)
                      refine ⟨?_, rfl⟩
                      (first
                        | exact ⟨_, rfl, HE3.out.put _ _, below_put2 HbB.out (Nat.le_refl _) _ _, Nat.le_refl _⟩
                        | exact ⟨_, rfl, (Cells2.new W0 _ _ _).below (Below.refl _ _).drew, ((Below.refl _ _).alloc (Nat.le_refl _) _).drew, Nat.le_refl _⟩)
                  case rest =>
                    obtain ⟨b6, rfl, D6, hbc, hb6⟩ := hcut
                    have EX := Lib.hid D6
                    obtain ⟨m0, m1, n0, n1⟩ := D6
                    dsimp only at m0 m1
                    have BL := Lib.hid hbc
                    have BLW := Lib.hid (HBW.out.trans (hbc.mono hszW))
                    have hb6c := EX.out.lt
                    rcases PT with ⟨c1 | c1, eD⟩ | ⟨c1, c2, eD, ok3⟩
                    · rw [eD, if_pos (by simp)] at HEQ
                      obtain rfl : R = ((0, 0), 6) := HEQ.symm
                      clear HEQ
                      go_wp2
                      exact bodyPost_ret (v := .tuple #[.int .i64 0, .int .i64 0, .int .i64 6]) (by simp [results, Try.results26, go_sem]) rfl ⟨rfl, HI.out.b2.trans (BLW.out.mono hs1)⟩
                    · rw [eD, if_pos (by simp)] at HEQ
                      obtain rfl : R = ((0, 0), 6) := HEQ.symm
                      clear HEQ
                      by_cases c3 : 200 < g1 + g1'
                      · go_wp2
                        exact bodyPost_ret (v := .tuple #[.int .i64 0, .int .i64 0, .int .i64 6]) (by simp [results, Try.results26, go_sem]) rfl ⟨rfl, HI.out.b2.trans (BLW.out.mono hs1)⟩
                      · go_wp2
                        exact bodyPost_ret (v := .tuple #[.int .i64 0, .int .i64 0, .int .i64 6]) (by simp [results, Try.results26, go_sem]) rfl ⟨rfl, HI.out.b2.trans (BLW.out.mono hs1)⟩
                    · rw [eD, if_neg (by simp)] at HEQ
                      dsimp only at HEQ
                      have HEQ2 := Lib.hid HEQ
                      have HOKD := Lib.hid ok3
                      have HOT := Lib.hid ((HIO.out.below hbc).take HI.out.len (k := t) (by omega) (by omega))
                      have hT := Lib.hid (show (st.take t).length = t by rw [List.length_take, HI.out.len]; omega)
                      have hlt2 := Lib.hid (show (st.take t).length + [(g1 + g1', m + sz)].length ≤ 1000 by rw [hT.out]; have := htsP_le HI.out.ht; have := HL.out; have := List.length_take_le i l; simp; omega)
                      have hl0 := Lib.hid (show ([] : List (Int × Int)).length + (st.take t).length ≤ 1000 by have := hlt2.out; simp at this ⊢; omega)
                      clear HEQ ok3 hbc
                      generalize hd1 : g1 + g1' = d1 at *
                      generalize hd2 : m + sz = d2 at *
                      clear hd1 hd2
                      go_wp2
                      have HbA := Lib.hid (show Below wc.heap.size wc (wc.alloc (.cells #[] 72)).drew from ((Below.refl wc.heap.size wc).alloc (Nat.le_refl _) _).drew)
                      have HbB := Lib.hid (show Below wc.heap.size wc ((wc.alloc (.cells #[] 72)).alloc (.cells #[.int .i64 d1, .int .i64 d2] 72)).drew from (((Below.refl wc.heap.size wc).alloc (Nat.le_refl _) _).alloc (by simp) _).drew)
                      have HbC := Lib.hid (show Below wc.heap.size wc ((wc.alloc (.cells #[.int .i64 d1, .int .i64 d2] 72)).alloc (.cells #[] 72)).drew from (((Below.refl wc.heap.size wc).alloc (Nat.le_refl _) _).alloc (by simp) _).drew)
                      have OA := Lib.hid (show OwnP (wc.alloc (.cells #[] 72)).drew wc.heap.size 72 (.slice (some ⟨wc.heap.size, 0, none⟩) 0 0) [] from ownP_drew (ownP_emp wc _ _ _ rfl (Nat.le_refl _)))
                      have OB := Lib.hid (show OwnP ((wc.alloc (.cells #[] 72)).alloc (.cells #[.int .i64 d1, .int .i64 d2] 72)).drew wc.heap.size 72 (.slice (some ⟨wc.heap.size, 0, none⟩) 0 0) [] from ownP_drew (ownP_alloc (ownP_emp wc _ _ _ rfl (Nat.le_refl _)) _))
                      have OC := Lib.hid (show OwnP ((wc.alloc (.cells #[.int .i64 d1, .int .i64 d2] 72)).alloc (.cells #[] 72)).drew wc.heap.size 72 (.slice (some ⟨wc.heap.size + 1, 0, none⟩) 0 0) [] from ownP_drew (ownP_emp (wc.alloc _) _ _ _ (by simp) (by omega)))
                      have FA := Lib.hid (HOT.out.prs.below HbA.out)
                      have FB := Lib.hid (HOT.out.prs.below HbB.out)
                      have FC := Lib.hid (HOT.out.prs.below HbC.out)
                      have GB := Lib.hid (show Prs ((wc.alloc (.cells #[] 72)).alloc (.cells #[.int .i64 d1, .int .i64 d2] 72)).drew (.slice (some ⟨wc.heap.size + 1, 0, none⟩) 1 1) [(d1, d2)] from (prs_new d1 d2 _ (by simp)).below (Below.refl _ _).drew)
                      have GC := Lib.hid (show Prs ((wc.alloc (.cells #[.int .i64 d1, .int .i64 d2] 72)).alloc (.cells #[] 72)).drew (.slice (some ⟨wc.heap.size, 0, none⟩) 1 1) [(d1, d2)] from ((prs_new d1 d2 _ rfl).below ((Below.refl _ _).alloc (Nat.le_refl _) _)).below (Below.refl _ _).drew)
                      have hcp : (t : Int) ≤ (sc : Int) := by omega
                      have hc0 : (0 : Int) ≤ (t : Int) := by omega
                      have KEEP := Lib.hid (fun (W : World) (hb : Below wc.heap.size wc W) => (show W.cell? ⟨b6, 0, none⟩ = some (.int .i64 d1) ∧ W.cell? ⟨b6, 1, none⟩ = some (.int .i64 d2) from
                        ⟨(hb.cell (p := ⟨b6, 0, none⟩) hb6c).trans m0, (hb.cell (p := ⟨b6, 1, none⟩) hb6c).trans m1⟩))
                      have HIB := Lib.hid (And.intro HI.out.b2 HI.out.ok)
                      have hz0 := BLW.out.size
                      clear HI
                      go_region_held3 (fun w' => w'.cell? ⟨b6, 0, none⟩ = some (.int .i64 d1) ∧ w'.cell? ⟨b6, 1, none⟩ = some (.int .i64 d2))
                        (first
                        | with_reducible exact KEEP.out _ HbA.out
                        | with_reducible exact KEEP.out _ HbB.out
                        | with_reducible exact KEEP.out _ HbC.out
                        | with_reducible exact KEEP.out _ (Below.refl _ _).drew
                        | with_reducible exact KEEP.out _ ((Below.refl _ _).alloc (Nat.le_refl _) _).drew
                        | with_reducible exact KEEP.out _ BV1.out
                        | with_reducible exact KEEP.out _ (BV1.out.alloc BV1.out.size _)
                        | with_reducible exact KEEP.out _ BV2.out
                        | go_keep)
                        (first
                        | (refine step_append_P rfl _ _ (by rfl) wc.heap.size _ [] (st.take t) (by rfl) OA.out _ _ _ (by rfl) FA.out hl0.out HbA.out.size ?_; intro v1 w1 hown1 hg1; have BV1 := Lib.hid (HbA.out.grown hg1 HbA.out.size (fun e he => by cases he; exact Nat.le_refl _)); have HV1 := Lib.hid (show OwnP w1 wc.heap.size 72 v1 (st.take t) from hown1); have GG := Lib.hid (fun (_ : Unit) => prs_new (w := w1) d1 d2 72 rfl); clear hown1)
                        | (refine step_append_P rfl _ _ (by rfl) wc.heap.size _ [] (st.take t) (by rfl) OB.out _ _ _ (by rfl) FB.out hl0.out HbB.out.size ?_; intro v1 w1 hown1 hg1; have BV1 := Lib.hid (HbB.out.grown hg1 HbB.out.size (fun e he => by cases he; exact Nat.le_refl _)); have HV1 := Lib.hid (show OwnP w1 wc.heap.size 72 v1 (st.take t) from hown1); have GG := Lib.hid (GB.out.grown1 OB.out hg1 (by simp [Value.ownBlock])); clear hown1)
                        | (refine step_append_P rfl _ _ (by rfl) wc.heap.size _ [] (st.take t) (by rfl) OC.out _ _ _ (by rfl) FC.out hl0.out HbC.out.size ?_; intro v1 w1 hown1 hg1; have BV1 := Lib.hid (HbC.out.grown hg1 HbC.out.size (fun e he => by cases he; exact Nat.le_succ _)); have HV1 := Lib.hid (show OwnP w1 wc.heap.size 72 v1 (st.take t) from hown1); have GG := Lib.hid (GC.out.grown1 OC.out hg1 (by simp [Value.ownBlock])); clear hown1)
                        | (refine step_append_P rfl _ _ (by rfl) wc.heap.size _ (st.take t) [(d1, d2)] (by rfl) HV1.out _ _ _ (by rfl) GG.out hlt2.out BV1.out.size ?_; intro v2 w2 hown2 hg2; have BV2 := Lib.hid (BV1.out.grown hg2 BV1.out.size (fun e he => HV1.out.base e he)); have HV2 := Lib.hid hown2; clear hown2)
                        | (refine step_append_P rfl _ _ (by rfl) wc.heap.size _ (st.take t) [(d1, d2)] (by rfl) (ownP_alloc HV1.out _) _ _ _ (by rfl) (GG.out ()) hlt2.out (le_alloc BV1.out.size _) ?_; intro v2 w2 hown2 hg2; have BV2 := Lib.hid ((BV1.out.alloc BV1.out.size _).grown hg2 (le_alloc BV1.out.size _) (fun e he => HV1.out.base e he)); have HV2 := Lib.hid hown2; clear hown2))
                      all_goals
                        go_wp2
                        obtain ⟨a9, c9, rfl, hf1, hf2⟩ := HV2.out.form (n := t + 1) (by rw [List.length_append, hT.out]; rfl)
                        refine ⟨⟨i + 1, st.take t ++ [(d1, d2)], a9, t + 1, c9, by go_num, rfl, by omega, HV2.out.mono (by omega), by rw [List.length_append, hT.out]; rfl, ⟨hf1, hf2⟩, ?_, HEQ2.out, HIB.out.1.trans ((BLW.out.trans (BV2.out.mono BLW.out.size)).mono hs1), fun c hc => ?_⟩, by simp [intOf]; omega⟩
                        · rw [HP2.out]
                          congr 1
                          omega
                        · rcases List.mem_append.1 hc with hc | hc
                          · exact HIB.out.2 c (List.mem_of_mem_take hc)
                          · rw [List.mem_singleton.1 hc]; exact HOKD.out
                · rw [play_push _ _ _ _ _ ek] at HEQ
                  rw [if_neg ek] at HP2
                  obtain ⟨q, rfl⟩ : ∃ z : Nat, q = (z : Int) := ⟨q.toNat, by omega⟩
                  have hq : q < k := by rw [HRL.out] at p4; omega
                  have hqi : (q : Int) < (k : Int) := by omega
                  obtain ⟨rb, ro, rfl, hcr⟩ := (HS.out.1.below HI.out.b2).at (by omega)
                  obtain ⟨tb, to', rfl, hct⟩ := (HS.out.2.below HI.out.b2).at (by omega)
                  have y1 := hcr q hq
                  have y2 := hct q hq
                  have HOKD := Lib.hid (HALL.out q hq)
                  rw [show layC rs ts (q : Int) = ((rs.getD q 0, ts.getD q 0), 0) from rfl, if_neg (by simp)] at HEQ
                  dsimp only at HEQ
                  have HEQ2 := Lib.hid HEQ
                  obtain ⟨_, _, e0, hc0⟩ := (H.out).at (by omega)
                  cases e0
                  have hx0 := hc0 i hlt
                  obtain ⟨_, _, e0, hc1⟩ := (HS.out.1).at (by omega)
                  cases e0
                  have y10 := hc1 q hq
                  obtain ⟨_, _, e0, hc2⟩ := (HS.out.2).at (by omega)
                  cases e0
                  have y20 := hc2 q hq
                  rw [hlq] at hx0
                  clear HEQ hcr hct p1 p3 p4 ek hc0 hc1 hc2 hlq
                  generalize rs.getD q 0 = d1 at *
                  generalize ts.getD q 0 = d2 at *
                  have hlen := Lib.hid (show st.length + [(d1, d2)].length ≤ 1000 by have := htsP_le HI.out.ht; rw [HI.out.len]; have := HL.out; have := List.length_take_le i l; simp; omega)
                  have HbA := Lib.hid (show Below wr.heap.size wr (wr.alloc (.cells #[.int .i64 d1, .int .i64 d2] 72)).drew from ((Below.refl wr.heap.size wr).alloc (Nat.le_refl _) _).drew)
                  have PA := Lib.hid ((prs_new (w := wr) d1 d2 72 rfl).below (Below.refl _ _).drew)
                  have KEEP := Lib.hid (fun (W : World) (hb : Below w.heap.size w W) => (show W.cell? ⟨blk, off + i, none⟩ = some (.int .i64 (q : Int)) ∧ W.cell? ⟨rb, ro + q, none⟩ = some (.int .i64 d1) ∧ W.cell? ⟨tb, to' + q, none⟩ = some (.int .i64 d2) from
                    ⟨(hb.cell (p := ⟨blk, off + i, none⟩) (cell_lt hx0)).trans hx0, (hb.cell (p := ⟨rb, ro + q, none⟩) (cell_lt y10)).trans y10, (hb.cell (p := ⟨tb, to' + q, none⟩) (cell_lt y20)).trans y20⟩))
                  have HbW := Lib.hid (HI.out.b2.trans (HbA.out.mono hs1))
                  have HbD := Lib.hid (HI.out.b2.trans ((Below.refl wr.heap.size wr).drew.mono hs1))
                  have hq0 : (0 : Int) ≤ (q : Int) := by omega
                  have hi0 : (0 : Int) ≤ (i : Int) := by omega
                  go_wp2
                  go_region_held3 (fun w' => w'.cell? ⟨blk, off + i, none⟩ = some (.int .i64 (q : Int)) ∧ w'.cell? ⟨rb, ro + q, none⟩ = some (.int .i64 d1) ∧ w'.cell? ⟨tb, to' + q, none⟩ = some (.int .i64 d2))
                    (first
                    | with_reducible exact KEEP.out _ HbW.out
                    | with_reducible exact KEEP.out _ HbD.out
                    | with_reducible exact KEEP.out _ BV2.out
                    | go_keep)
                    ((refine step_append_P rfl _ _ (by rfl) w.heap.size _ st [(d1, d2)] (by rfl) (HI.out.own.below HbA.out) _ _ _ (by rfl) PA.out hlen.out (Nat.le_trans hs1 HbA.out.size) ?_; intro v2 w2 hown2 hg2; have BV2 := Lib.hid (HbW.out.grown hg2 HbW.out.size (fun e he => HI.out.own.base e he)); have HV2 := Lib.hid hown2; clear hown2))
                  all_goals
                    go_wp2
                    obtain ⟨a9, c9, rfl, hf1, hf2⟩ := HV2.out.form (n := tm + 1) (by rw [List.length_append, HI.out.len]; rfl)
                    refine ⟨⟨i + 1, st ++ [(d1, d2)], a9, tm + 1, c9, by go_num, rfl, by omega, HV2.out, by rw [List.length_append, HI.out.len]; rfl, ⟨hf1, hf2⟩, by rw [HP2.out]; simp, HEQ2.out, BV2.out, fun c hc => ?_⟩, by simp [intOf]; omega⟩
                    rcases List.mem_append.1 hc with hc | hc
                    · exact HI.out.ok c hc
                    · rw [List.mem_singleton.1 hc]; exact HOKD.out
              · have hii2 : ¬ (i : Int) < (n : Int) := by omega
                obtain rfl : i = n := by omega
                have hht := HI.out.ht
                rw [← HX.out] at hht
                have h1 := play_end HOK.out hht
                obtain rfl : tm = 1 := by omega
                have HEQ := HI.out.eq
                rw [List.drop_of_length_le (by rw [HX.out]; exact Nat.le_refl _)] at HEQ
                obtain ⟨F, hF⟩ : ∃ F, st.getD 0 (0, 0) = F := ⟨_, rfl⟩
                obtain rfl : R = (F, 0) := by rw [← HEQ, ← hF]; rfl
                obtain ⟨g, rfl, hg2, hcs⟩ := HI.out.own.at HI.out.len (by omega)
                obtain ⟨k1, k2⟩ := hcs 0 (by omega)
                rw [hF] at k1 k2
                have BL := Lib.hid HI.out.b2
                rw [Nat.zero_mul] at k1 k2
                rw [Nat.zero_add] at k2
                clear hht h1 HEQ hcs HI hF
                obtain ⟨fc, ft⟩ := F
                dsimp only at *
                go_wp2
                go_quiet (fail)
                go_wp2
                exact bodyPost_ret (v := .tuple #[.int .i64 fc, .int .i64 ft, .int .i64 0]) (by simp [results, Try.results26, go_sem]) rfl ⟨rfl, below_drewN BL.out _⟩
          · obtain rfl : R = ((0, 0), 10) := by rw [HR3.out, if_pos (by simpa using hpc)]
            have hc10 : pcheckD l (k : Int) = 10 := by
              unfold pcheckD at hpc ⊢
              split <;> simp_all
            rw [hc10] at PC
            clear hpc hc10 HR3
            go_wp2_with (go_at_call 10; go_must (refine PC.out.mono ?_; rintro e w1 ⟨rfl, hb1⟩; have BL := Lib.hid (BW.out.trans (hb1.mono BW.out.size)); clear hb1))
            exact bodyPost_ret (v := .tuple #[.int .i64 0, .int .i64 0, .int .i64 10]) (by simp [results, Try.results26, go_sem]) rfl ⟨rfl, BL.out⟩
    · have hrt2 : ((rn : Int) != (tn : Int)) = true := by simp; omega
      obtain rfl : R = ((0, 0), 1) := by rw [HR.out]; unfold countsD; rw [if_pos (.inr (by rw [HRL.out, HTL.out]; exact hrt))]
      clear hz HR CS
      generalize sizeI C = sz at *
      go_enter Try.func26, Try.ntmps26
      go_wp2_with (go_at_call 49; go_must (refine (SZ.out _).mono ?_; rintro e w1 ⟨rfl, rfl⟩))
      exact bodyPost_ret (v := .tuple #[.int .i64 0, .int .i64 0, .int .i64 1]) (by simp [results, Try.results26, go_sem]) rfl ⟨rfl, Below.refl _ _⟩
end Go.Proofs.Ytgmaljikjkbdlaa
