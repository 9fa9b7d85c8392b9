/- Factors merged one behind the other: the reference's All; its Few. MergeAll, walked. MergeAll holds of every input: the given statement Rows.MergeAllSaid. -/
import Derived.Test.YtaabfjfaljhjmaaMh
import Derived.Test.YtaabfjfaljhjmaaMj
import Derived.Test.YtaabfjfaljhjmaaPa
import Derived.Test.YtaabfjfaljhjmaaPb
namespace Go.Proofs.Ytaabfjfaljhjmaa
open Go.RowKit Lv Go.Shelf
open Ieee (double Format Datum Toward)
attribute [local go_sem] Oper.semAt_some run_store_float drewN_alloc drewN_setCell

/-- what stands at the loop's head -/
structure RFInv (w : World) (b4 : Nat) (R : FacD × Int) (Fs : List FacD) (W : World) (k : Nat) (G : FacD) (a : Option Addr) (n cap : Nat) : Prop where
  c2 : Cells4 W w.heap.size (.int .i64 0) (.slice none 0 0) (.int .i64 0) (.int .i64 0)
  c4 : Cells4 W b4 (.int .i64 G.cols) (.slice a n cap) (.int .i64 G.rws) (.int .i64 G.trn)
  row : Row W (.slice a n cap) G.xs
  eq : mfold G (Fs.drop k) = R
  below : Below w.heap.size w W
  lt : w.heap.size < b4
/-- behind the statement that calls Two -/
def MAllCut (wr : World) (ge : Int) (G : FacD) (s6 s7 : Value) (W : World) : Prop :=
  ∃ (b6 : Nat) (ga : Option Addr) (gn gcp : Nat), s6 = .pointer (some ⟨b6, 0, none⟩) ∧ s7 = .int .i64 ge ∧ Cells4 W b6 (.int .i64 G.cols) (.slice ga gn gcp) (.int .i64 G.rws) (.int .i64 G.trn) ∧ Row W (.slice ga gn gcp) G.xs ∧ Below wr.heap.size wr W ∧ wr.heap.size ≤ b6

set_option maxRecDepth 100000 in
set_option maxHeartbeats 2000000 in
theorem rmall_calls (t : Option Addr) (tn tc : Nat) (Fs : List FacD) (w : World) (hl : Fcs w (.slice t tn tc) Fs) :
    Calls Try.prog 21 #[.slice t tn tc] w fun e w' => FacE (mallD Fs) e w' ∧ Below w.heap.size w w' := by
  obtain ⟨hn1, hn2, hn3⟩ := hl.len
  have hB := (Below.refl w.heap.size w).alloc (Nat.le_refl _) (.cells #[.int .i64 0, .slice none 0 0, .int .i64 0, .int .i64 0] 24)
  have HB := Lib.hid hB
  have HS := Lib.hid hl
  by_cases h0 : tn = 0
  · have e : mallD Fs = (fac0, 4) := by
      obtain rfl := List.length_eq_zero_iff.1 (hn1.trans h0)
      rfl
    rw [e]
    have hz : ((tn : Int) == 0) = true := by simp; omega
    clear hl e hn1 h0
    go_enter Try.func21, Try.ntmps21
    go_wp2
    exact bodyPost_ret (v := .tuple #[facZ, .int .i64 4]) (by simp [results, Try.results21, go_sem, facZ]) rfl ⟨facE_no _ rfl, HB.out⟩
  · have hz : ((tn : Int) == 0) = false := by simp; omega
    have hp : (0 : Int) < (tn : Int) := by omega
    match Fs, hn1 with
    | [], hn1 => simp at hn1; omega
    | A :: Bs, hn1 =>
      obtain ⟨blk, off, rfl, hc⟩ := hl.at (by omega)
      obtain ⟨b, m, d, k1, k2, k3, k4, k5⟩ := hc 0 (by omega)
      simp only [List.getD_cons_zero, Nat.zero_mul, Nat.add_zero] at k1 k2 k3 k4 k5
      have hblk := cell_lt k1
      have HK5 := Lib.hid k5
      have CA := fun W (hW : Row W (.slice b m d) A.xs) => rcheck_calls A.cols A.rws A.trn b m d A.xs W hW
      clear hc k5 hl h0
      cases hA : A.ok
      · have e : mallD (A :: Bs) = (fac0, 1) := by show (if A.ok = false then (fac0, (1 : Int)) else mfold A Bs) = _; rw [if_pos hA]
        rw [e]
        have CA : ∀ W, Row W (.slice b m d) A.xs → Calls Try.prog 41 #[.agg #[.int .i64 A.cols, .slice b m d, .int .i64 A.rws, .int .i64 A.trn]] W fun e w' => e = .returned (.bool false) ∧ Below W.heap.size W w' := fun W hW => by have := CA W hW; rw [show checkP A.cols A.xs A.rws A.trn = false from hA] at this; exact this
        have CA2 := Lib.hid CA
        obtain ⟨ac, ax, ar, atn⟩ := A
        clear CA hA e hn1
        dsimp only at *
        go_enter Try.func21, Try.ntmps21
        go_wp2_with (go_at_call 41; refine (CA2.out _ (HK5.out.below HB.out)).mono ?_; rintro e w1 ⟨rfl, hb⟩; obtain ⟨hq, hf⟩ := bcell hb; have hC := Lib.hid (HB.out.trans (hb.mono (by simp))))
        exact bodyPost_ret (v := .tuple #[facZ, .int .i64 1]) (by simp [results, Try.results21, go_sem, hq, facZ]) rfl ⟨facE_no _ rfl, below_put4 hC.out (by omega) _ _ _ _⟩
      · have e : mallD (A :: Bs) = mfold A Bs := by show (if A.ok = false then (fac0, (1 : Int)) else mfold A Bs) = _; rw [if_neg (by rw [hA]; decide)]
        rw [e]
        have CA : ∀ W, Row W (.slice b m d) A.xs → Calls Try.prog 41 #[.agg #[.int .i64 A.cols, .slice b m d, .int .i64 A.rws, .int .i64 A.trn]] W fun e w' => e = .returned (.bool true) ∧ Below W.heap.size W w' := fun W hW => by have := CA W hW; rw [show checkP A.cols A.xs A.rws A.trn = true from hA] at this; exact this
        have CA2 := Lib.hid CA
        obtain ⟨res, hres⟩ : ∃ res, res = mfold A Bs := ⟨_, rfl⟩
        rw [← hres]
        have Z0 := Cells4.new w (.int .i64 0) (.slice none 0 0) (.int .i64 0) (.int .i64 0) 24
        have HZ0 := Lib.hid Z0
        have HN := Lib.hid hn1
        have EQ := Lib.hid (show mfold A ((A :: Bs).drop 1) = res from hres.symm)
        clear CA hA e hn1 Z0 hres
        generalize hFs : A :: Bs = Fs at *
        clear hFs
        go_enter Try.func21, Try.ntmps21
        go_wp2_with (go_at_call 41; refine (CA2.out _ (HK5.out.below HB.out)).mono ?_; rintro e w1 ⟨rfl, hb⟩; have hC := Lib.hid (HB.out.trans (hb.mono (by simp))); have q1 := (hC.out.cell (p := ⟨blk, off, none⟩) hblk).trans k1; have q2 := (hC.out.cell (p := ⟨blk, off + 1, none⟩) hblk).trans k2; have q3 := (hC.out.cell (p := ⟨blk, off + 2, none⟩) hblk).trans k3; have q4 := (hC.out.cell (p := ⟨blk, off + 3, none⟩) hblk).trans k4; have HZ1 := Lib.hid (HZ0.out.below hb); have hzw := HZ1.out.lt; clear hb)
        obtain ⟨W4, hW4⟩ : ∃ W4, W4 = w1 := ⟨_, rfl⟩
        have IN : RFInv w W4.heap.size res Fs (W4.alloc (.cells #[.int .i64 A.cols, .slice b m d, .int .i64 A.rws, .int .i64 A.trn] 24)) 1 A b m d := by
          rw [hW4]
          exact ⟨HZ1.out.alloc _, Cells4.new w1 _ _ _ _ _, (HK5.out.below hC.out).alloc _, EQ.out, hC.out.alloc hC.out.size _, hzw⟩
        subst hW4
        clear q1 q2 q3 q4 k1 k2 k3 k4 hblk HZ1 HZ0
        go_loopw [5] (fun s5 wr => ∃ (k : Nat) (G : FacD) (a' : Option Addr) (n' cap' : Nat), s5 = .int .i64 (k : Int) ∧ k ≤ tn ∧ RFInv w W4.heap.size res Fs wr k G a' n' cap') (fun s5 _ => tn - (intOf s5).toNat)
        case atStart => exact ⟨1, A, b, m, d, rfl, by omega, IN⟩
        case round =>
          obtain ⟨k, G, a', n', cap', rfl, hk, I⟩ := hrel
          have HI := Lib.hid I
          obtain ⟨c20, c21, c22, c23, f20, f21, f22, f23⟩ := I.c2
          obtain ⟨c40, c41, c42, c43, f40, f41, f42, f43⟩ := I.c4
          have hs1 := I.below.size
          have hl4 := I.c4.lt
          have hlt := I.lt
          have hl2 : w.heap.size < wr.heap.size := by omega
          clear I
          by_cases hkn : k < tn
          · have hki : (k : Int) < (tn : Int) := by omega
            obtain ⟨blk', off', e, hc⟩ := (HS.out.below HI.out.below).at (by omega)
            simp only [Option.some.injEq, Addr.mk.injEq, and_true] at e
            obtain ⟨rfl, rfl⟩ := e
            obtain ⟨b', m', d', k1, k2, k3, k4, k5⟩ := hc k hkn
            have HK := Lib.hid k5
            have hbk := cell_lt k1
            have ST := fold_step (by rw [HN.out]; exact hkn) HI.out.eq
            generalize Fs.getD k fac0 = B at *
            have TW := fun W hW hW' => rtwo_calls G B a' b' n' cap' m' d' W hW hW'
            generalize twoD G B = D at *
            obtain ⟨⟨gc, gx, gr, gt⟩, ge⟩ := D
            obtain ⟨cc, cx, cr, ct⟩ := G
            obtain ⟨bc, bx, br, bt⟩ := B
            dsimp only at *
            have TW2 := Lib.hid TW
            clear hc k5 TW
            go_wp2
            go_cut [6, 7] from 21 to 40 (fun s6 s7 wx => MAllCut wr ge ⟨gc, gx, gr, gt⟩ s6 s7 wx)
            case first =>
              rename_i J K' hJ hK'
              have bA : Below wr.heap.size wr wr.drew := (Below.refl _ _).drew
              have bB : Below wr.heap.size wr (wr.alloc (.cells #[.int .i64 0, .slice none 0 0, .int .i64 0, .int .i64 0] 24)).drew := ((Below.refl wr.heap.size wr).alloc (Nat.le_refl _) _).drew
              have zB : Cells4 (wr.alloc (.cells #[.int .i64 0, .slice none 0 0, .int .i64 0, .int .i64 0] 24)).drew wr.heap.size (.int .i64 0) (.slice none 0 0) (.int .i64 0) (.int .i64 0) := (Cells4.new wr _ _ _ _ 24).below ((Below.refl _ _).drew)
              have HbA := Lib.hid bA
              have HbB := Lib.hid bB
              have HzB := Lib.hid zB
              clear ST bA bB zB c20 c21 c22 c23 f20 f21 f22 f23 f40 f41 f42 f43
              go_region_held3 (fun w' => w'.cell? ⟨W4.heap.size, 0, none⟩ = some (.int .i64 cc) ∧ w'.cell? ⟨W4.heap.size, 1, none⟩ = some (.slice a' n' cap') ∧ w'.cell? ⟨W4.heap.size, 2, none⟩ = some (.int .i64 cr) ∧ w'.cell? ⟨W4.heap.size, 3, none⟩ = some (.int .i64 ct) ∧ w'.cell? ⟨blk, off + k * 4, none⟩ = some (.int .i64 bc) ∧ w'.cell? ⟨blk, off + k * 4 + 1, none⟩ = some (.slice b' m' d') ∧ w'.cell? ⟨blk, off + k * 4 + 2, none⟩ = some (.int .i64 br) ∧ w'.cell? ⟨blk, off + k * 4 + 3, none⟩ = some (.int .i64 bt))
                (first
              | with_reducible exact ⟨((BL.out).cell (p := ⟨W4.heap.size, 0, none⟩) hl4).trans c40, ((BL.out).cell (p := ⟨W4.heap.size, 1, none⟩) hl4).trans c41, ((BL.out).cell (p := ⟨W4.heap.size, 2, none⟩) hl4).trans c42, ((BL.out).cell (p := ⟨W4.heap.size, 3, none⟩) hl4).trans c43, ((BL.out).cell (p := ⟨blk, off + k * 4, none⟩) hbk).trans k1, ((BL.out).cell (p := ⟨blk, off + k * 4 + 1, none⟩) hbk).trans k2, ((BL.out).cell (p := ⟨blk, off + k * 4 + 2, none⟩) hbk).trans k3, ((BL.out).cell (p := ⟨blk, off + k * 4 + 3, none⟩) hbk).trans k4⟩
              | with_reducible exact ⟨((BL.out.alloc BL.out.size _).cell (p := ⟨W4.heap.size, 0, none⟩) hl4).trans c40, ((BL.out.alloc BL.out.size _).cell (p := ⟨W4.heap.size, 1, none⟩) hl4).trans c41, ((BL.out.alloc BL.out.size _).cell (p := ⟨W4.heap.size, 2, none⟩) hl4).trans c42, ((BL.out.alloc BL.out.size _).cell (p := ⟨W4.heap.size, 3, none⟩) hl4).trans c43, ((BL.out.alloc BL.out.size _).cell (p := ⟨blk, off + k * 4, none⟩) hbk).trans k1, ((BL.out.alloc BL.out.size _).cell (p := ⟨blk, off + k * 4 + 1, none⟩) hbk).trans k2, ((BL.out.alloc BL.out.size _).cell (p := ⟨blk, off + k * 4 + 2, none⟩) hbk).trans k3, ((BL.out.alloc BL.out.size _).cell (p := ⟨blk, off + k * 4 + 3, none⟩) hbk).trans k4⟩
              | with_reducible exact ⟨((HbB.out).cell (p := ⟨W4.heap.size, 0, none⟩) hl4).trans c40, ((HbB.out).cell (p := ⟨W4.heap.size, 1, none⟩) hl4).trans c41, ((HbB.out).cell (p := ⟨W4.heap.size, 2, none⟩) hl4).trans c42, ((HbB.out).cell (p := ⟨W4.heap.size, 3, none⟩) hl4).trans c43, ((HbB.out).cell (p := ⟨blk, off + k * 4, none⟩) hbk).trans k1, ((HbB.out).cell (p := ⟨blk, off + k * 4 + 1, none⟩) hbk).trans k2, ((HbB.out).cell (p := ⟨blk, off + k * 4 + 2, none⟩) hbk).trans k3, ((HbB.out).cell (p := ⟨blk, off + k * 4 + 3, none⟩) hbk).trans k4⟩
              | with_reducible exact ⟨((HbA.out).cell (p := ⟨W4.heap.size, 0, none⟩) hl4).trans c40, ((HbA.out).cell (p := ⟨W4.heap.size, 1, none⟩) hl4).trans c41, ((HbA.out).cell (p := ⟨W4.heap.size, 2, none⟩) hl4).trans c42, ((HbA.out).cell (p := ⟨W4.heap.size, 3, none⟩) hl4).trans c43, ((HbA.out).cell (p := ⟨blk, off + k * 4, none⟩) hbk).trans k1, ((HbA.out).cell (p := ⟨blk, off + k * 4 + 1, none⟩) hbk).trans k2, ((HbA.out).cell (p := ⟨blk, off + k * 4 + 2, none⟩) hbk).trans k3, ((HbA.out).cell (p := ⟨blk, off + k * 4 + 3, none⟩) hbk).trans k4⟩
              | with_reducible exact ⟨((below_put4 BL.out (Nat.le_refl _) _ _ _ _).cell (p := ⟨W4.heap.size, 0, none⟩) hl4).trans c40, ((below_put4 BL.out (Nat.le_refl _) _ _ _ _).cell (p := ⟨W4.heap.size, 1, none⟩) hl4).trans c41, ((below_put4 BL.out (Nat.le_refl _) _ _ _ _).cell (p := ⟨W4.heap.size, 2, none⟩) hl4).trans c42, ((below_put4 BL.out (Nat.le_refl _) _ _ _ _).cell (p := ⟨W4.heap.size, 3, none⟩) hl4).trans c43, ((below_put4 BL.out (Nat.le_refl _) _ _ _ _).cell (p := ⟨blk, off + k * 4, none⟩) hbk).trans k1, ((below_put4 BL.out (Nat.le_refl _) _ _ _ _).cell (p := ⟨blk, off + k * 4 + 1, none⟩) hbk).trans k2, ((below_put4 BL.out (Nat.le_refl _) _ _ _ _).cell (p := ⟨blk, off + k * 4 + 2, none⟩) hbk).trans k3, ((below_put4 BL.out (Nat.le_refl _) _ _ _ _).cell (p := ⟨blk, off + k * 4 + 3, none⟩) hbk).trans k4⟩
              | go_keep)
                (first
                  | (go_at_call 15; go_must (refine (TW2.out _ (HI.out.row.below (by first | with_reducible exact HbA.out | with_reducible exact HbB.out)) (HK.out.below (by first | with_reducible exact HbA.out | with_reducible exact HbB.out))).mono ?_; rintro e wL ⟨⟨ga, gn, gcp, rfl, hrowL⟩, hbL⟩; have BL' : Below wr.heap.size wr wL := (by first | with_reducible exact HbA.out.trans (hbL.mono (by simp)) | with_reducible exact HbB.out.trans (hbL.mono (by simp))); have hszL := BL'.size; have hLz0 : W4.heap.size < wL.heap.size := (by omega); have hLzb : blk < wL.heap.size := (by omega); (first | ((with_reducible have yy := HzB.out.below hbL); have YL := Lib.hid yy; obtain ⟨y0, y1, y2, y3, yf0, yf1, yf2, yf3⟩ := yy) | (have YN : True := trivial)); have BL := Lib.hid BL'; have RL := Lib.hid hrowL; clear BL' hrowL hbL)))
              all_goals
                refine hK' _ _ (Met.intro (hJ _ _ ?_))
                (repeat apply Exists.intro)
                refine ⟨?_, rfl⟩
                have hwL := BL.out.size
                unfold MAllCut
                (first
                  | (refine ⟨wL.heap.size, ga, gn, gcp, rfl, rfl, ?_⟩; with_reducible exact ⟨Cells4.new wL _ _ _ _ _, RL.out.alloc _, BL.out.alloc hwL _, hwL⟩)
                  | (refine ⟨wr.heap.size, ga, gn, gcp, rfl, rfl, ?_⟩; with_reducible exact ⟨YL.out.put _ _ _ _, RL.out.put4 YL.out slice_ne _ _ _ _, below_put4 BL.out (Nat.le_refl _) _ _ _ _, Nat.le_refl _⟩))
            case rest =>
              obtain ⟨b6, ga, gn, gcp, rfl, rfl, D6, RL, BW, hb6⟩ := hcut
              have E2 := Lib.hid (HI.out.c2.below BW)
              have E4 := Lib.hid (HI.out.c4.below BW)
              have HRW := Lib.hid RL
              clear c20 c21 c22 c23 f20 f21 f22 f23 c40 c41 c42 c43 f40 f41 f42 f43 k1 k2 k3 k4
              obtain ⟨q0, q1, q2, q3, u0, u1, u2, u3⟩ := E2.out
              obtain ⟨m0, m1, m2, m3, n0, n1, n2, n3⟩ := E4.out
              obtain ⟨p0, p1, p2, p3, v0, v1, v2, v3⟩ := D6
              have BL := Lib.hid (HI.out.below.trans (BW.mono hs1))
              have hb6w : W4.heap.size ≠ b6 := by omega
              clear RL
              dsimp only at *
              rcases ST with ⟨e2, eR⟩ | ⟨e2, eR⟩
              · have hne : (ge != 0) = true := by simpa using e2
                subst eR
                clear e2
                go_wp2
                have P4 := E2.out.put (.int .i64 0) (.slice none 0 0) (.int .i64 0) (.int .i64 0)
                exact bodyPost_ret (v := .tuple #[facZ, .int .i64 ge]) (by simp [results, Try.results21, go_sem, facZ, P4.c0, P4.c1, P4.c2, P4.c3]) rfl ⟨facE_no _ rfl, below_put4 BL.out (by omega) _ _ _ _⟩
              · subst e2
                have ER := Lib.hid eR
                clear eR
                go_wp2
                have P4 := E4.out.put (.int .i64 gc) (.slice ga gn gcp) (.int .i64 gr) (.int .i64 gt)
                have P2 := E2.out.put_other (b' := W4.heap.size) (by omega) (.int .i64 gc) (.slice ga gn gcp) (.int .i64 gr) (.int .i64 gt)
                have BB := below_put4 BL.out (Nat.le_of_lt hlt) (.int .i64 gc) (.slice ga gn gcp) (.int .i64 gr) (.int .i64 gt)
                refine ⟨⟨k + 1, ⟨gc, gx, gr, gt⟩, ga, gn, gcp, by go_num, by omega, P2, P4, HRW.out.put4 E4.out slice_ne _ _ _ _, ER.out, BB, hlt⟩, by simp [intOf]; omega⟩
          · obtain rfl : k = tn := by omega
            have eR := HI.out.eq
            rw [List.drop_of_length_le (by rw [HN.out]; exact Nat.le_refl _)] at eR
            obtain rfl : res = (G, 0) := eR.symm
            have hrO := Lib.hid HI.out.row
            have E2 := Lib.hid HI.out.c2
            have BL := Lib.hid HI.out.below
            clear eR HI EQ
            obtain ⟨cc, cx, cr, ct⟩ := G
            dsimp only at *
            go_wp2
            have P4 := E2.out.put (.int .i64 cc) (.slice a' n' cap') (.int .i64 cr) (.int .i64 ct)
            exact bodyPost_ret (v := .tuple #[.agg #[.int .i64 cc, .slice a' n' cap', .int .i64 cr, .int .i64 ct], .int .i64 0]) (by simp [results, Try.results21, go_sem, P4.c0, P4.c1, P4.c2, P4.c3]) rfl ⟨⟨a', n', cap', rfl, hrO.out.put4 E2.out slice_ne _ _ _ _⟩, below_put4 BL.out (Nat.le_refl _) _ _ _ _⟩

/-- are there few factors, with few entries? -/
def fewF (Fs : List FacD) (k : Nat) : Bool := decide (Fs.length ≤ k) && !Fs.any fun F => decide (60 < F.xs.length)
theorem any_stepF {p : FacD → Bool} {Fs : List FacD} {k : Nat} (hk : k < Fs.length) (h : (Fs.take k).any p = false) : (Fs.take (k + 1)).any p = p (Fs.getD k fac0) := by
  rw [List.take_succ_eq_append_getElem hk, List.any_append, h, Bool.false_or]
  simp [List.getD_eq_getElem?_getD, hk]
theorem any_of_takeF {p : FacD → Bool} {Fs : List FacD} {k : Nat} (h : (Fs.take k).any p = true) : Fs.any p = true := by
  rw [List.any_eq_true] at h ⊢
  obtain ⟨x, hx, hp⟩ := h
  exact ⟨x, List.mem_of_mem_take hx, hp⟩
theorem rfew_calls (t : Option Addr) (tn tc k : Nat) (Fs : List FacD) (w : World) (hl : Fcs w (.slice t tn tc) Fs) :
    Calls Try.prog 19 #[.slice t tn tc, .int .i64 (k : Int)] w fun e w' => e = .returned (.bool (fewF Fs k)) ∧ w = w' := by
  obtain ⟨hn1, hn2, hn3⟩ := hl.len
  obtain ⟨res, hres⟩ : ∃ res, res = fewF Fs k := ⟨_, rfl⟩
  rw [← hres]
  have HS := Lib.hid hl
  have HN := Lib.hid hn1
  unfold fewF at hres
  by_cases hb : k < tn
  · rw [decide_eq_false (by omega), Bool.false_and] at hres
    subst hres
    have hbi : (k : Int) < (tn : Int) := by omega
    clear hl hn1
    go_enter Try.func19, Try.ntmps19
    go_wp2
    go_ret
    exact ⟨rfl, rfl⟩
  · rw [decide_eq_true (by omega), Bool.true_and] at hres
    have HRES := Lib.hid hres
    have hbi : ¬ (k : Int) < (tn : Int) := by omega
    clear hl hn1 hres
    go_enter Try.func19, Try.ntmps19
    go_wp2
    go_loop [5] (fun s => ∃ j : Nat, j ≤ tn ∧ s = .int .i64 (j : Int) ∧ Hid (((Fs.take j).any fun F => decide (60 < F.xs.length)) = false)) (fun s => tn - (intOf s).toNat)
    case atStart => exact ⟨0, Nat.zero_le _, rfl, rfl⟩
    case round =>
      obtain ⟨j, hj, rfl, hrel⟩ := hrel
      by_cases hlt : j < tn
      · obtain ⟨blk, off, rfl, hc⟩ := HS.out.at (by omega)
        obtain ⟨b, m, d, k1, k2, k3, k4, k5⟩ := hc j hlt
        have hst := Lib.hid (any_stepF (p := fun F => decide (60 < F.xs.length)) (by rw [HN.out]; exact hlt) hrel.out)
        have hm := Lib.hid k5.len
        clear hc k5 k1 k3 k4
        by_cases h60 : 60 < m
        · have h60i : (60 : Int) < (m : Int) := by omega
          have HR : Hid (res = false) := by
            unfold Hid
            rw [HRES.out, any_of_takeF (k := j + 1) (by rw [hst.out, hm.out]; exact decide_eq_true h60)]
            rfl
          go_wp2
          go_ret
          exact ⟨ret_bool HR.out.symm, rfl⟩
        · have h60i : ¬ (60 : Int) < (m : Int) := by omega
          have hs2 : Hid (((Fs.take (j + 1)).any fun F => decide (60 < F.xs.length)) = false) := by
            unfold Hid
            rw [hst.out, hm.out]; exact decide_eq_false h60
          go_wp2
          go_round
          case rel => exact ⟨j + 1, by omega, by go_num, hs2⟩
          case measure => simp [intOf]; omega
      · obtain rfl : j = tn := by omega
        have HR : Hid (res = true) := by
          unfold Hid
          have := hrel.out
          rw [List.take_of_length_le (by rw [HN.out]; exact Nat.le_refl _)] at this
          rw [HRES.out, this]; rfl
        go_wp2
        go_ret
        exact ⟨ret_bool HR.out.symm, rfl⟩
end Go.Proofs.Ytaabfjfaljhjmaa
namespace Go.Proofs.Ytaabfjfaljhjmaa
open Go.RowKit Lv Go.Shelf
open Ieee (double Format Datum Toward)
attribute [local go_sem] Oper.semAt_some run_store_float drewN_alloc drewN_setCell

set_option maxRecDepth 100000 in
set_option maxHeartbeats 1000000 in
theorem mergeAll_walk (w : World) (Fs : List FacD) (t : Option Addr) (tn tc : Nat) (hl : Fcs w (.slice t tn tc) Fs) :
    Calls Try.prog 4 #[.slice t tn tc] w fun e w' => e = .returned (.bool true) ∧ Below w.heap.size w w' := by
  have FW' := Lib.hid (rfew_calls t tn tc 8 Fs w hl)
  have HL := Lib.hid hl
  have A1 := Lib.hid (fun W h => mall_calls t tn tc Fs W h)
  have A2 := Lib.hid (fun W h => rmall_calls t tn tc Fs W h)
  clear hl
  cases hf : fewF Fs 8
  · rw [hf] at FW'
    clear hf
    go_enter Try.func4, Try.ntmps4
    go_wp2_with (first | (go_at_call 19; refine FW'.out.mono ?_; rintro e w1 ⟨rfl, rfl⟩) | (go_at_call 13; refine (live13_calls _).mono ?_; rintro e w1 ⟨rfl, hb⟩))
    go_ret
    exact ⟨rfl, hb⟩
  · rw [hf] at FW'
    clear hf
    generalize mallD Fs = G at *
    obtain ⟨G, ge⟩ := G
    have hee : (ge == ge) = true := by simp
    go_enter Try.func4, Try.ntmps4
    go_wp2_with (first
      | (go_at_call 19; refine FW'.out.mono ?_; rintro e w1 ⟨rfl, rfl⟩)
      | (go_at_call 20; go_must (refine (A1.out _ HL.out).mono ?_; rintro e w1 ⟨⟨ga, gn, gcp, rfl, hr1⟩, hb1⟩; have B1 := Lib.hid hb1; have R1 := Lib.hid hr1; have hz1 := hb1.size; clear hr1 hb1))
      | (go_at_call 21; go_must (refine (A2.out _ ((HL.out.below B1.out).below ((Below.refl _ _).alloc (Nat.le_refl _) _))).mono ?_; rintro e w2 ⟨⟨ka, kn, kcp, rfl, hr2⟩, hb2⟩; have B2 := Lib.hid ((B1.out.alloc hz1 (.cells #[.int .i64 G.cols, .slice ga gn gcp, .int .i64 G.rws, .int .i64 G.trn] 24)).trans (hb2.mono (by simp; omega))); have R1b := Lib.hid ((R1.out.alloc (.cells #[.int .i64 G.cols, .slice ga gn gcp, .int .i64 G.rws, .int .i64 G.trn] 24)).below hb2); have R2 := Lib.hid hr2; have D7 := (Cells4.new w1 (.int .i64 G.cols) (.slice ga gn gcp) (.int .i64 G.rws) (.int .i64 G.trn) 24).below hb2; obtain ⟨c0, c1, c2, c3, _, _, _, _⟩ := D7; have hz2 := hb2.size; simp at hz2; have hx2 : w1.heap.size < w2.heap.size := (by omega); clear hr2 hb2))
      | (go_at_call 16; go_must (refine (rsame7_calls G ga ka gn kn gcp kcp _ (R1b.out.alloc _) (R2.out.alloc _)).mono ?_; rintro e w3 ⟨rfl, hb3⟩; have B3 := Lib.hid ((B2.out.alloc (by omega) (.cells #[.int .i64 G.cols, .slice ka kn kcp, .int .i64 G.rws, .int .i64 G.trn] 24)).trans (hb3.mono (by simp; omega))); have hz3 := hb3.size; simp at hz3))
      | (go_at_call 13; refine (live13_calls _).mono ?_; rintro e w6 ⟨rfl, hb6⟩))
    go_ret
    exact ⟨by simp, B3.out.trans (hb6.mono (by omega))⟩
end Go.Proofs.Ytaabfjfaljhjmaa
namespace Go.Proofs.Ytaabfjfaljhjmaa
open Go.ChangeShapes Go.WideShapes Go.ChangeAt Go.RowKit Lv

set_option maxRecDepth 100000 in
theorem mergeAll_lifted (os : Os) (started : os.Started) (H : Type) (enc : TypeId × Value → H) :
    ReturnsInHanded {} Try.checked os 4 .any (Rows.mergeAllSpec.pre6 enc Try.prog Try.f4 Rows.mergeAllRow.domain false) (Rows.mergeAllSpec.post enc Try.prog Try.f4 false true false false) := by
  refine returnsInHanded_of_change (C := Try.checked) own started (by kernel_rfl) Try.func4
    (ChangeSpec.witness6 (enc := enc) (C := Try.checked) false ⟨#[], #[.slice none 0 0], []⟩ 12 (by kernel_rfl) (by kernel_rfl) (by kernel_rfl) (by kernel_rfl)) ?_
  intro W base args ds gs before hval0 hW hcnd _
  have hval : ∀ (j : Nat) t v, Try.f4.params[j]? = some t → args[j]? = some v → Value.okWide Try.prog W .any base t v := hval0
  have hW' := hW
  obtain ⟨p, q, hA0, hV, rfl, hfz, hnd⟩ := hW
  have hA : DataW.TrodAll enc Try.prog W 0 (fun _ => true) true Try.f4.params.toList args.toList ds p := hA0
  rw [Try.params4] at hA hval
  obtain ⟨v0, vs0, d0, ds0, p0, q0, hargs, rfl, rfl, h0, r0⟩ := trodAll_cons hA
  obtain ⟨rfl, rfl, rfl⟩ := trodAll_nil r0
  obtain rfl : args = #[v0] := by cases args; simp_all
  obtain ⟨rfl, rfl⟩ := trodVars_none hV
  have k0 := h0
  have lt0 : ∀ x ∈ p0, x.block < W.heap.size := by obtain ⟨m, hm⟩ := k0; exact DataW.trod_lt m _ _ _ hm
  obtain ⟨l0, a0, n0, c0, rfl, w0⟩ := open_factors (hval 0 32 v0 rfl rfl) h0
  clear hA0 hval0
  refine (mergeAll_walk W l0 a0 n0 c0 w0).mono fun e W' ⟨he, bel⟩ => ?_
  subst he
  exact ⟨_, rfl, _, _, _, [], _, [], hW', trodAll_mk1 (shut_bool Try.underlying4 _), (trodAll_cons_mk (Below.trod laidOut (by kernel_rfl) (of_decide_eq_true (by kernel_rfl)) k0 bel lt0) trodAll_mk0), rfl, bel.frame _, fun h => by cases h⟩

theorem mergeAll_holds : Rows.MergeAllSaid :=
  OpenClaim.holds_of_wide 4 Try.f4 rfl rfl rfl rfl rfl rfl rfl ⟨rfl, rfl, rfl, rfl, rfl⟩ rfl rfl rfl rfl rfl (by kernel_rfl) Try.func4 (by kernel_rfl)
    (of_decide_eq_true (by kernel_rfl)) (by unfold Func.isWrapper; first | (rw [if_pos (by decide +kernel)]; kernel_rfl) | (rw [if_neg (by decide +kernel)]; exact ⟨rfl, rfl⟩))
    (fun os started H enc _ => mergeAll_lifted os started H enc)
#print axioms mergeAll_holds
end Go.Proofs.Ytaabfjfaljhjmaa
