/- A plan's play with factors. -/
import Derived.Test.YtgmaljikjkbdlaaYj
import Derived.Test.YtgmaljikjkbdlaaMj
namespace Go.Proofs.Ytgmaljikjkbdlaa
open Go.RowKit Lv Go.Shelf
attribute [local go_sem] Oper.semAt_some run_store_float drewN_alloc drewN_setCell as_jj as_pj as_pp as_jp

/-- what stands at the head of play's loop -/
structure PInv (w w2 : World) (R : FacD × Int) (Fs : List FacD) (l : List Int) (W : World) (i : Nat) (st : List FacD) (a : Option Addr) (n cap : Nat) : Prop where
  c6 : Cells4 W w.heap.size (.int .i64 0) (.slice none 0 0) (.int .i64 0) (.int .i64 0)
  c8 : Cells4 W (w.heap.size + 1) (.int .i64 0) (.slice none 0 0) (.int .i64 0) (.int .i64 0)
  own : OwnF W w2.heap.size (.slice a n cap) st
  len : st.length = n
  cap1 : n ≤ cap ∧ cap ≤ 9223372036854775807
  ht : htsP 0 (l.take i) = some (n : Int)
  eq : playD fac0 (layF Fs) twoD (l.drop i) st = R
  b2 : Below w2.heap.size w2 W
theorem OwnF.form' {w : World} {B : Nat} {v : Value} {Fs : List FacD} {n : Nat} (h : OwnF w B v Fs) (hl : Fs.length = n) : ∃ a cap, v = .slice a n cap ∧ n ≤ cap ∧ cap ≤ 9223372036854775807 := by
  subst hl
  exact h.form
theorem htsP_le' : ∀ (l : List Int) (now x : Int), htsP now l = some x → x ≤ now + l.length
  | [], now, x, h => by
    have : now = x := Option.some.inj h
    simp; omega
  | k :: t, now, x, h => by
    unfold htsP at h
    rw [List.length_cons]
    by_cases c : k = -1
    · rw [if_pos c] at h
      by_cases c2 : now < 2
      · rw [if_pos c2] at h; cases h
      · rw [if_neg c2] at h
        have := htsP_le' t _ _ h
        omega
    · rw [if_neg c] at h
      have := htsP_le' t _ _ h
      omega
theorem htsP_le {l : List Int} {x : Int} (h : htsP 0 l = some x) : x ≤ l.length := by have := htsP_le' l 0 x h; omega
theorem play_step {Fs : List FacD} {l : List Int} {i : Nat} (hi : i < l.length) (st : List FacD) : playD fac0 (layF Fs) twoD (l.drop i) st = playD fac0 (layF Fs) twoD (l.getD i 0 :: l.drop (i + 1)) st := by rw [drop_snoc hi]

/-- behind the statement that joins two -/
def JCut (wr : World) (gc gr gt : Int) (gx : List (Option Nat)) (W : World) : Prop :=
  ∃ ga gn gcp, Cells4 W wr.heap.size (.int .i64 gc) (.slice ga gn gcp) (.int .i64 gr) (.int .i64 gt) ∧ Row W (.slice ga gn gcp) gx ∧ Below wr.heap.size wr W
set_option maxRecDepth 100000 in
set_option maxHeartbeats 4000000 in
theorem playF_calls (l : List Int) (a : Option Addr) (n cap : Nat) (Fs : List FacD) (sa : Option Addr) (sn sc bs : Nat) (w : World) (h : LI w (.slice a n cap) l) (hl : l.length ≤ 100) (hs : Fcs w (.slice sa sn sc) Fs) (hc : w.cell? ⟨bs, 0, none⟩ = some (.slice sa sn sc)) (hok : pcheckD l Fs.length = 0) :
    Calls Try.prog 40 #[.slice a n cap, .func (.func 38) #[] #[.pointer (some ⟨bs, 0, none⟩)], .func (.func 41) #[] #[]] w fun e w' => FacE (playD fac0 (layF Fs) twoD l []) e w' ∧ Below w.heap.size w w' := by
  obtain ⟨R, hR⟩ : ∃ R, R = playD fac0 (layF Fs) twoD l [] := ⟨_, rfl⟩
  rw [← hR]
  have hn100 : n ≤ 100 := by rw [← h.len.1]; exact hl
  have HX := Lib.hid h.len.1
  have H := Lib.hid h
  have HL := Lib.hid hl
  have HS := Lib.hid hs
  have HC := Lib.hid hc
  have hbs := cell_lt hc
  have HOK := Lib.hid hok
  have HR := Lib.hid hR.symm
  have C0 := Lib.hid (Cells4.new w (.int .i64 0) (.slice none 0 0) (.int .i64 0) (.int .i64 0) 36)
  have C1 := Lib.hid (Cells4.new (w.alloc (.cells #[.int .i64 0, .slice none 0 0, .int .i64 0, .int .i64 0] 36)) (.int .i64 0) (.slice none 0 0) (.int .i64 0) (.int .i64 0) 36)
  have B1 := Lib.hid (((Below.refl w.heap.size w).alloc (Nat.le_refl _) (.cells #[.int .i64 0, .slice none 0 0, .int .i64 0, .int .i64 0] 36)).alloc (by simp) (.cells #[.int .i64 0, .slice none 0 0, .int .i64 0, .int .i64 0] 36))
  clear h hl hs hc hok hR
  go_enter Try.func40, Try.ntmps40
  go_wp2_with (go_at_call 32; refine (psteps_calls _ n cap l _ (H.out.below B1.out) HL.out).mono ?_; rintro e w2 ⟨⟨v, rfl, hv⟩, hb2⟩; obtain ⟨va, vc, rfl⟩ := step_form hv HX.out; have HV := Lib.hid hv.cel; have HB2 := Lib.hid hb2; clear hv hb2)
  have hsz2 := Lib.hid (show w.heap.size + 1 + 1 ≤ w2.heap.size by have := HB2.out.size; simp at this; omega)
  have BW := Lib.hid (B1.out.trans (HB2.out.mono (by simp; omega)))
  have IN : PInv w w2 R Fs l w2 0 [] none 0 0 := by
    refine ⟨(C0.out.alloc _).below HB2.out, ?_, ownF_nil _ _, rfl, ⟨Nat.le_refl _, by omega⟩, rfl, HR.out, Below.refl _ _⟩
    have := C1.out.below HB2.out
    simpa using this
  go_loopw [9, 20] (fun s9 s20 wr => ∃ (i : Nat) (st : List FacD) (a : Option Addr) (m c : Nat), s20 = .int .i64 (i : Int) ∧ s9 = .slice a m c ∧ i ≤ n ∧ PInv w w2 R Fs l wr i st a m c) (fun _ s20 _ => n - (intOf s20).toNat)
  case atStart => exact ⟨0, [], none, 0, 0, rfl, rfl, Nat.zero_le _, IN⟩
  case round =>
    obtain ⟨i, st, ta, tm, tc, rfl, rfl, hi, I⟩ := hrel
    have HI := Lib.hid I
    obtain ⟨c60, c61, c62, c63, f60, f61, f62, f63⟩ := I.c6
    obtain ⟨c80, c81, c82, c83, f80, f81, f82, f83⟩ := I.c8
    have hs1 := I.b2.size
    have hlw := hsz2.out
    have hl6 : w.heap.size < wr.heap.size := by omega
    have hl8 : w.heap.size + 1 < wr.heap.size := by omega
    clear I
    by_cases hlt : i < n
    · obtain ⟨blk, off, rfl, hcs⟩ := step_at (HV.out.below HI.out.b2) (by omega)
      have hx1 := hcs i hlt
      have hii : (i : Int) < (n : Int) := by omega
      have hil : i < l.length := by rw [HX.out]; exact hlt
      obtain ⟨p1, p2, p3, p4⟩ := play_at HOK.out HI.out.ht hil
      have HP2 := Lib.hid p2
      have HEQ := HI.out.eq
      rw [play_step hil] at HEQ
      clear hcs p2
      generalize l.getD i 0 = k at *
      by_cases ek : k = -1
      · subst ek
        rw [show stepV (-1) = .iface 84 (.agg #[]) from rfl] at hx1
        rw [play_join] at HEQ
        rw [if_pos rfl] at HP2
        have h2 := p1 rfl
        obtain ⟨t, rfl⟩ : ∃ t, tm = t + 2 := ⟨tm - 2, by omega⟩
        rw [HI.out.len, show t + 2 - 2 = t by omega, show t + 2 - 1 = t + 1 by omega] at HEQ
        obtain ⟨g, rfl, hg2, hst⟩ := (HI.out.own).at (by omega)
        obtain ⟨b, m, d, k1, k2, k3, k4, k5⟩ := hst t (by omega)
        obtain ⟨t1, ht1⟩ : ∃ t1 : Nat, t + 1 = t1 := ⟨_, rfl⟩
        rw [ht1] at HEQ
        obtain ⟨b', m', d', k1', k2', k3', k4', k5'⟩ := hst t1 (by omega)
        have hcap := HI.out.cap1
        have hi1 : (t : Int) + 1 = (t1 : Int) := by omega
        have hi2 : IntKind.i64.wrap (t1 : Int) = (t1 : Int) := IntWalk.i64_in _ (by omega)
        have hi3 : t1 < t + 2 := by omega
        have hi4 : (t1 : Int) < (t : Int) + 2 := by omega
        clear ht1
        have HK5 := Lib.hid k5
        have HK5' := Lib.hid k5'
        clear hst k5 k5' p1 p3 p4 h2
        have TW := Lib.hid (fun W hW hW' => two_calls (st.getD t fac0) (st.getD t1 fac0) b b' m d m' d' W hW hW')
        generalize twoD (st.getD t fac0) (st.getD t1 fac0) = D at *
        generalize st.getD t fac0 = G at *
        generalize st.getD t1 fac0 = G' at *
        obtain ⟨cc, cx, cr, ct⟩ := G
        obtain ⟨bc, bx, br, bt⟩ := G'
        obtain ⟨⟨gc, gx, gr, gt⟩, ge⟩ := D
        dsimp only at *
        have TW2 : ∀ W, Row W (.slice b m d) cx → Row W (.slice b' m' d') bx → Calls Try.prog 41 #[.agg #[.int .i64 cc, .slice b m d, .int .i64 cr, .int .i64 ct], .agg #[.int .i64 bc, .slice b' m' d', .int .i64 br, .int .i64 bt]] W fun e w' => (∃ ga gn gcp, e = .returned (.tuple #[.agg #[.int .i64 gc, .slice ga gn gcp, .int .i64 gr, .int .i64 gt], .int .i64 ge]) ∧ Row w' (.slice ga gn gcp) gx) ∧ Below W.heap.size W w' := fun W h h' => TW.out W h h'
        have TW := Lib.hid TW2
        clear TW2
        have CX := Lib.hid (Cells4.new wr (.int .i64 0) (.slice none 0 0) (.int .i64 0) (.int .i64 0) 36)
        have BX := Lib.hid (((Below.refl wr.heap.size wr).alloc (Nat.le_refl _) (.cells #[.int .i64 0, .slice none 0 0, .int .i64 0, .int .i64 0] 36)).alloc (by simp) (.cells #[] 84))
        have BWR := Lib.hid (BW.out.trans (HI.out.b2.mono (by omega)))
        go_wp2
        go_cut [13] from 41 to 54 (fun s13 wx => s13 = .int .i64 ge ∧ JCut wr gc gr gt gx wx)
        case first =>
          rename_i J K' hJ hK'
          have BD := Lib.hid BX.out.drew
          have j1 := (BD.out.cell (p := ⟨g, t * 4, none⟩) (cell_lt k1)).trans k1
          have j2 := (BD.out.cell (p := ⟨g, t * 4 + 1, none⟩) (cell_lt k2)).trans k2
          have j3 := (BD.out.cell (p := ⟨g, t * 4 + 2, none⟩) (cell_lt k3)).trans k3
          have j4 := (BD.out.cell (p := ⟨g, t * 4 + 3, none⟩) (cell_lt k4)).trans k4
          have j1' := (BD.out.cell (p := ⟨g, t1 * 4, none⟩) (cell_lt k1')).trans k1'
          have j2' := (BD.out.cell (p := ⟨g, t1 * 4 + 1, none⟩) (cell_lt k2')).trans k2'
          have j3' := (BD.out.cell (p := ⟨g, t1 * 4 + 2, none⟩) (cell_lt k3')).trans k3'
          have j4' := (BD.out.cell (p := ⟨g, t1 * 4 + 3, none⟩) (cell_lt k4')).trans k4'
          have CD := Lib.hid ((CX.out.alloc (.cells #[] 84)).below (Below.refl _ _).drew)
          go_region_with (go_at_call 41; go_must (refine (TW.out _ (HK5.out.below BD.out) (HK5'.out.below BD.out)).mono ?_; rintro e wL ⟨⟨ga, gn, gcp, rfl, hrow⟩, hbL⟩; have EX := Lib.hid (CD.out.below hbL); have HRW := Lib.hid hrow; have BL := Lib.hid (BD.out.trans (hbL.mono BD.out.size)); obtain ⟨m0, m1, m2, m3, n0, n1, n2, n3⟩ := EX.out; have hzL := BL.out.size; have hzM := EX.out.lt; clear hrow hbL))
          all_goals
            refine hK' _ _ (Met.intro (hJ _ _ ?_))
            (repeat apply Exists.intro)
            refine ⟨?_, rfl⟩
            refine ⟨rfl, ?_⟩
            exact ⟨ga, gn, gcp, EX.out.put _ _ _ _, HRW.out.put4 EX.out slice_ne _ _ _ _, below_put4 BL.out (Nat.le_refl _) _ _ _ _⟩
        case rest =>
          obtain ⟨rfl, ga, gn, gcp, ex, hrow, hbc⟩ := hcut
          have BL := Lib.hid hbc
          have E6 := Lib.hid (HI.out.c6.below hbc)
          have E8 := Lib.hid (HI.out.c8.below hbc)
          have EX := Lib.hid ex
          have HRW := Lib.hid hrow
          have hlen := Lib.hid HI.out.len
          have HOT := Lib.hid (HI.out.own.take HI.out.len (k := t) (by omega) (by omega))
          obtain ⟨m0, m1, m2, m3, n0, n1, n2, n3⟩ := ex
          obtain ⟨r0, r1, r2, r3, r4, r5, r6, r7⟩ := E6.out
          obtain ⟨v0, v1, v2, v3, _, _, _, _⟩ := E8.out
          have hzL := BL.out.size
          have hzM := EX.out.lt
          have hzN : w.heap.size < wc.heap.size := by omega
          have hnex : wr.heap.size ≠ w.heap.size + 1 := by omega
          clear c60 c61 c62 c63 f60 f61 f62 f63 c80 c81 c82 c83 f80 f81 f82 f83 hrow hbc k1 k2 k3 k4 k1' k2' k3' k4'
          by_cases e2 : ge = 0
          · subst e2
            rw [if_neg (by simp)] at HEQ
            have HEQ2 := Lib.hid HEQ
            clear HEQ
            have hlt2 : Hid ((st.take t).length + 1 ≤ 1000) := by
              unfold Hid
              have := htsP_le HI.out.ht
              rw [List.length_take]
              have := HL.out
              have := List.length_take_le i l
              omega
            go_wp2_with (at_builtin; go_must (refine wpList_append_FF _ rfl _ _ rfl w2.heap.size _ (st.take t) [⟨gc, gx, gr, gt⟩] rfl (HOT.out.below (BL.out.alloc (by omega) _)) _ _ _ rfl (fcs_new (F := ⟨gc, gx, gr, gt⟩) HRW.out (by simp)) hlt2.out (by simp; omega) ?_; intro v9 w3 hown9 hg9; obtain ⟨a9, c9, rfl, hf1, hf2⟩ := hown9.form' (n := t + 1) (by rw [List.length_append, List.length_take, hlen.out, List.length_singleton]; omega)))
            have hne0 : ∀ e, (Value.slice (some ⟨g, 0, none⟩) t tc).ownBlock = some e → w2.heap.size ≤ e := fun e he => HOT.out.base e he
            have N6 := (E6.out.alloc (.cells #[.int .i64 gc, .slice ga gn gcp, .int .i64 gr, .int .i64 gt] 36)).grown hg9 (fun e => by have := hne0 _ e.symm; omega)
            have N8 := (E8.out.alloc (.cells #[.int .i64 gc, .slice ga gn gcp, .int .i64 gr, .int .i64 gt] 36)).grown hg9 (fun e => by have := hne0 _ e.symm; omega)
            have NB : Below w2.heap.size w2 w3 := (HI.out.b2.trans ((BL.out.alloc (by omega) (.cells #[.int .i64 gc, .slice ga gn gcp, .int .i64 gr, .int .i64 gt] 36)).mono hs1)).grown hg9 (by simp; omega) hne0
            refine ⟨⟨i + 1, st.take t ++ [⟨gc, gx, gr, gt⟩], a9, t + 1, c9, by go_num, rfl, by omega, N6, N8, hown9, by rw [List.length_append, List.length_take, hlen.out, List.length_singleton]; omega, ⟨hf1, hf2⟩, ?_, HEQ2.out, NB⟩, by simp [intOf]; omega⟩
            rw [HP2.out]
            congr 1
            omega
          · rw [if_pos (by simpa using e2)] at HEQ
            obtain rfl : R = (fac0, ge) := HEQ.symm
            have hne : (ge != 0) = true := bne_iff_ne.2 e2
            clear HEQ
            go_wp2
            have P6 := E6.out.put (.int .i64 0) (.slice none 0 0) (.int .i64 0) (.int .i64 0)
            exact bodyPost_ret (v := .tuple #[facZ, .int .i64 ge]) (by simp [results, Try.results40, go_sem, facZ, P6.c0, P6.c1, P6.c2, P6.c3]) rfl ⟨facE_no _ rfl, below_put4 (BWR.out.trans (BL.out.mono BWR.out.size)) (Nat.le_refl _) _ _ _ _⟩
      · rw [show stepV k = .iface 57 (.agg #[.int .i64 k]) from if_neg ek] at hx1
        rw [play_push _ _ _ _ _ ek] at HEQ
        rw [if_neg ek] at HP2
        obtain ⟨q, rfl⟩ : ∃ q : Nat, k = (q : Int) := ⟨k.toNat, by omega⟩
        have hq : q < Fs.length := by omega
        have PR := Lib.hid (fun W h hc => prun1_calls q Fs sa sn sc bs W h hc hq)
        clear hq p1 p3 p4 ek
        have CX := Lib.hid (Cells4.new wr (.int .i64 0) (.slice none 0 0) (.int .i64 0) (.int .i64 0) 36)
        generalize layF Fs (q : Int) = D at *
        obtain ⟨⟨gc, gx, gr, gt⟩, ge⟩ := D
        dsimp only at *
        have BX := Lib.hid (((Below.refl wr.heap.size wr).alloc (Nat.le_refl _) (.cells #[.int .i64 0, .slice none 0 0, .int .i64 0, .int .i64 0] 36)).alloc (by simp) (.cells #[.int .i64 (q : Int)] 57))
        have BWR := Lib.hid (BW.out.trans (HI.out.b2.mono (by omega)))
        by_cases e2 : ge = 0
        · subst e2
          rw [if_neg (by simp)] at HEQ
          have HEQ2 := Lib.hid HEQ
          clear HEQ
          have hlen := Lib.hid (show st.length + 1 ≤ 1000 by have := htsP_le HI.out.ht; rw [HI.out.len]; have := HL.out; have := List.length_take_le i l; omega)
          go_wp2_with (first
            | (go_at_call 38; go_must (refine (PR.out _ ((HS.out.below BWR.out).below BX.out) ((BX.out.cell (p := ⟨bs, 0, none⟩) (by have := hbs; simp at this ⊢; omega)).trans ((BWR.out.cell (p := ⟨bs, 0, none⟩) hbs).trans HC.out))).mono ?_; rintro e wL ⟨⟨ga, gn, gcp, rfl, hrow⟩, hbL⟩; have BL := Lib.hid (BX.out.trans (hbL.mono (by simp; omega))); have E6 := Lib.hid (HI.out.c6.below BL.out); have E8 := Lib.hid (HI.out.c8.below BL.out); have EX := Lib.hid ((CX.out.alloc (.cells #[.int .i64 (q : Int)] 57)).below hbL); have HRW := Lib.hid hrow; obtain ⟨m0, m1, m2, m3, n0, n1, n2, n3⟩ := EX.out; obtain ⟨r0, r1, r2, r3, r4, r5, r6, r7⟩ := E6.out; obtain ⟨v0, v1, v2, v3, _, _, _, _⟩ := E8.out; have hzL := BL.out.size; have hzM := EX.out.lt; have hzN : w.heap.size < wL.heap.size := (by omega); have hnex : wr.heap.size ≠ w.heap.size + 1 := (by omega); clear c60 c61 c62 c63 f60 f61 f62 f63 c80 c81 c82 c83 f80 f81 f82 f83 hrow hbL))
            | (at_builtin; go_must (refine wpList_append_FF _ rfl _ _ rfl w2.heap.size _ st [⟨gc, gx, gr, gt⟩] rfl (HI.out.own.below ((below_put4 BL.out (Nat.le_refl _) _ _ _ _).alloc (by simp; omega) _)) _ _ _ rfl (fcs_new (F := ⟨gc, gx, gr, gt⟩) (HRW.out.put4 EX.out slice_ne _ _ _ _) (by simp)) hlen.out (by simp; omega) ?_; intro v9 w3 hown9 hg9; obtain ⟨a9, c9, rfl, hf1, hf2⟩ := hown9.form' (n := tm + 1) (by rw [List.length_append, HI.out.len]; rfl))))
          have hne0 : ∀ e, (Value.slice ta tm tc).ownBlock = some e → w2.heap.size ≤ e := fun e he => HI.out.own.base e he
          have N6 := ((E6.out.put_other (b' := wr.heap.size) (by omega) (.int .i64 gc) (.slice ga gn gcp) (.int .i64 gr) (.int .i64 gt)).alloc (.cells #[.int .i64 gc, .slice ga gn gcp, .int .i64 gr, .int .i64 gt] 36)).grown hg9 (fun e => by have := hne0 _ e.symm; omega)
          have N8 := ((E8.out.put_other (b' := wr.heap.size) (by omega) (.int .i64 gc) (.slice ga gn gcp) (.int .i64 gr) (.int .i64 gt)).alloc (.cells #[.int .i64 gc, .slice ga gn gcp, .int .i64 gr, .int .i64 gt] 36)).grown hg9 (fun e => by have := hne0 _ e.symm; omega)
          have NB : Below w2.heap.size w2 w3 := (HI.out.b2.trans (((below_put4 BL.out (Nat.le_refl _) (.int .i64 gc) (.slice ga gn gcp) (.int .i64 gr) (.int .i64 gt)).alloc (by simp; omega) (.cells #[.int .i64 gc, .slice ga gn gcp, .int .i64 gr, .int .i64 gt] 36)).mono hs1)).grown hg9 (by simp; omega) hne0
          go_roundw
          case rel => exact ⟨i + 1, st ++ [⟨gc, gx, gr, gt⟩], a9, tm + 1, c9, by go_num, rfl, by omega, N6, N8, hown9, by rw [List.length_append, HI.out.len]; rfl, ⟨hf1, hf2⟩, by rw [HP2.out]; simp, HEQ2.out, NB⟩
          case measure => simp [intOf]; omega
        · rw [if_pos (by simpa using e2)] at HEQ
          obtain rfl : R = (fac0, ge) := HEQ.symm
          have hne : (ge != 0) = true := bne_iff_ne.2 e2
          clear HEQ
          go_wp2_with (go_at_call 38; go_must (refine (PR.out _ ((HS.out.below BWR.out).below BX.out) ((BX.out.cell (p := ⟨bs, 0, none⟩) (by have := hbs; simp at this ⊢; omega)).trans ((BWR.out.cell (p := ⟨bs, 0, none⟩) hbs).trans HC.out))).mono ?_; rintro e wL ⟨⟨ga, gn, gcp, rfl, hrow⟩, hbL⟩; have BL := Lib.hid (BX.out.trans (hbL.mono (by simp; omega))); have E6 := Lib.hid (HI.out.c6.below BL.out); have E8 := Lib.hid (HI.out.c8.below BL.out); have EX := Lib.hid ((CX.out.alloc (.cells #[.int .i64 (q : Int)] 57)).below hbL); have HRW := Lib.hid hrow; obtain ⟨m0, m1, m2, m3, n0, n1, n2, n3⟩ := EX.out; obtain ⟨r0, r1, r2, r3, r4, r5, r6, r7⟩ := E6.out; obtain ⟨v0, v1, v2, v3, _, _, _, _⟩ := E8.out; have hzL := BL.out.size; have hzM := EX.out.lt; have hzN : w.heap.size < wL.heap.size := (by omega); have hnex : wr.heap.size ≠ w.heap.size + 1 := (by omega); clear c60 c61 c62 c63 f60 f61 f62 f63 c80 c81 c82 c83 f80 f81 f82 f83 hrow hbL))
          have P6 := (E6.out.put_other (b' := wr.heap.size) (by omega) (.int .i64 gc) (.slice ga gn gcp) (.int .i64 gr) (.int .i64 gt)).put (.int .i64 0) (.slice none 0 0) (.int .i64 0) (.int .i64 0)
          exact bodyPost_ret (v := .tuple #[facZ, .int .i64 ge]) (by simp [results, Try.results40, go_sem, facZ, P6.c0, P6.c1, P6.c2, P6.c3]) rfl ⟨facE_no _ rfl, below_put4 (below_put4 (BWR.out.trans (BL.out.mono BWR.out.size)) (by omega) _ _ _ _) (Nat.le_refl _) _ _ _ _⟩
    · have hii : ¬ (i : Int) < (n : Int) := by omega
      obtain rfl : i = n := by omega
      have hht := HI.out.ht
      rw [← HX.out] at hht
      have h1 := play_end HOK.out hht
      obtain rfl : tm = 1 := by omega
      have HEQ := HI.out.eq
      rw [List.drop_of_length_le (by rw [HX.out]; exact Nat.le_refl _)] at HEQ
      obtain ⟨F, hF⟩ : ∃ F, st.getD 0 fac0 = F := ⟨_, rfl⟩
      obtain rfl : R = (F, 0) := by rw [← HEQ, ← hF]; rfl
      obtain ⟨g, rfl, hg2, hcs⟩ := HI.out.own.at (by omega)
      obtain ⟨b, m, d, k1, k2, k3, k4, k5⟩ := hcs 0 (by omega)
      rw [hF] at k1 k3 k4 k5
      have HK5 := Lib.hid k5
      have E6 := Lib.hid HI.out.c6
      have BL := Lib.hid (BW.out.trans (HI.out.b2.mono (by omega)))
      rw [Nat.zero_mul] at k1 k2 k3 k4
      rw [Nat.zero_add] at k2 k3 k4
      clear hht h1 HEQ hcs k5 HI hF
      obtain ⟨fc, fx, fr, ft⟩ := F
      dsimp only at *
      go_wp2
      have P4 := E6.out.put (.int .i64 fc) (.slice b m d) (.int .i64 fr) (.int .i64 ft)
      exact bodyPost_ret (v := .tuple #[.agg #[.int .i64 fc, .slice b m d, .int .i64 fr, .int .i64 ft], .int .i64 0]) (by simp [results, Try.results40, go_sem, P4.c0, P4.c1, P4.c2, P4.c3]) rfl ⟨⟨b, m, d, rfl, HK5.out.put4 E6.out slice_ne _ _ _ _⟩, below_put4 BL.out (Nat.le_refl _) _ _ _ _⟩
end Go.Proofs.Ytgmaljikjkbdlaa
