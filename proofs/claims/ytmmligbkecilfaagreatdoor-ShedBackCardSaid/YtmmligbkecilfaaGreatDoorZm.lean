/- The reference's Check of layer 9. A factor's Gram list, and a row's, as the reference lays them. A row absorbed: the plain law of what comes near. Two factors merged: the plain law of what comes near. -/
import Derived.Test.YtmmligbkecilfaaGreatDoorUm
import Derived.Test.YtmmligbkecilfaaGreatDoorZh
namespace Go.Proofs.YtmmligbkecilfaaGreatDoor
open Go.RowKit Lv Go.Shelf
attribute [local go_sem] Oper.semAt_some drewN_alloc drewN_setCell

/-- a dyad in a cell of its own -/
def DCut (wr : World) (q : Rat) (s : Value) (wx : World) : Prop :=
  ∃ (g : Nat) (s0 : Bool) (a : Option Addr) (n c : Nat) (e : Int), s = .pointer (some ⟨g, 0, none⟩) ∧ Cells3 wx g (.bool s0) (.slice a n c) (.int .i64 e) ∧ Dq wx (.agg #[.bool s0, .slice a n c, .int .i64 e]) q 2148 ∧ Below wr.heap.size wr wx
theorem Norms.bd {c A : Nat} {qs us : List Rat} (h : Norms c A qs us) {i : Nat} (hi : i ≤ c) : Bd (us.getD i 0) (p2 ((A / 2 + 3 : Nat) : Int)) := by
  have h1 := h.nn i hi
  have h2 := h.le i hi
  unfold Bd
  grind
set_option maxRecDepth 100000 in
set_option maxHeartbeats 2000000 in
theorem echeck_calls (c k n A : Nat) (a1 a2 a3 : Option Addr) (c1 c2 c3 : Nat) (tn ti tg : List Rat) (w : World) (hN : DqL w (.slice a1 n c1) tn 2148) (hI : DqL w (.slice a2 n c2) ti 2148) (hG : DqL w (.slice a3 n c3) tg 2148)
    (h1 : 1 ≤ c) (h6 : c ≤ 6) (hn : n = tsz c) (hA1 : ∀ p, p < n → Bd (tn.getD p 0) (p2 A)) (hA2 : ∀ p, p < n → Bd (ti.getD p 0) (p2 A)) (hA3 : ∀ p, p < n → Bd (tg.getD p 0) (p2 A)) (hA : A ≤ 1600) (hk : k ≤ 100000)
    (hck : ∀ us, Norms c A ti us → ∀ i j, i ≤ j → j ≤ c → absR (tg.getD (gix c i j) 0 - tn.getD (gix c i j) 0) ≤ bndQ (us.getD i 0) (us.getD j 0) k) :
    Calls Tryz.prog 10 #[.int .i64 (c : Int), .slice a1 n c1, .slice a2 n c2, .slice a3 n c3, .int .i64 (k : Int)] w fun e w' => e = .returned (.tuple #[.int .i64 0, .bool true]) ∧ Below w.heap.size w w' := by
  have hb := tsz_bounds h1 h6
  have SZ := Lib.hid (rsizeI_calls (c : Int))
  rw [show sizeI (c : Int) = (n : Int) by unfold sizeI; rw [if_pos ⟨by omega, by omega⟩, Int.toNat_natCast, hn]] at SZ
  have NO := Lib.hid (enorms_calls c n A 2148 a2 c2 ti w hI h1 h6 hn hA2 (by omega))
  have RA := Lib.hid (fun i j w (hij : i ≤ j) (hj : j ≤ c) => rat_in c i j w h1 h6 hij hj)
  have GL := Lib.hid (fun i j (hij : i ≤ j) (hj : j ≤ c) => show gix c i j < n by rw [hn]; exact gix_lt h1 h6 hij hj)
  have HN := Lib.hid hN
  have HG := Lib.hid hG
  have HA1 := Lib.hid hA1
  have HA3 := Lib.hid hA3
  have HCK := Lib.hid hck
  rw [← hn] at hb
  have hn0 : ((n : Int) == 0) = false := by simp; omega
  have hnn : ((n : Int) != (n : Int)) = false := by simp
  have hk0 : ¬ (k : Int) < 0 := by omega
  have hk1 : ¬ (100000 : Int) < (k : Int) := by omega
  obtain ⟨m, hm⟩ : ∃ m, c + 1 = m := ⟨_, rfl⟩
  clear hN hI hG hA1 hA2 hA3 hck hn
  go_enter Tryz.func10, Tryz.ntmps10
  go_upto_region 5 with (first
    | (go_at_call 20; go_must (refine (SZ.out _).mono ?_; rintro e w1 ⟨rfl, rfl⟩))
    | (go_at_call 24; go_must (refine NO.out.mono ?_; rintro e w1 ⟨⟨us, v, rfl, hv, hnm⟩, hb⟩; have O1 := Lib.hid hv.dql; have NM := Lib.hid hnm; have B1 := Lib.hid hb; clear hv hb hnm)))
  obtain ⟨ua, uc, hv⟩ := O1.out.form
  rw [NM.out.len, hm] at hv
  subst hv
  have HC := Lib.hid (HCK.out us NM.out)
  obtain ⟨gu, ou, rfl, hcu⟩ := O1.out.at (show 0 < m by omega)
  have HCU := Lib.hid hcu
  clear hcu
  go_wp2
  go_loopw [14] (fun s14 wr => ∃ i : Nat, s14 = .int .i64 (i : Int) ∧ i ≤ m ∧ Hid (Below w1.heap.size w1 wr)) (fun s14 _ => m - (intOf s14).toNat)
  case atStart => exact ⟨0, rfl, Nat.zero_le _, Below.refl _ _⟩
  case round =>
    obtain ⟨i, rfl, hi, HI⟩ := hrel
    by_cases hlt : i ≤ c
    · have hii : (i : Int) ≤ (c : Int) := by omega
      go_wp2
      go_loopw [15] (fun s15 wr => ∃ j : Nat, s15 = .int .i64 (j : Int) ∧ i ≤ j ∧ j ≤ m ∧ Hid (Below w1.heap.size w1 wr)) (fun s15 _ => m - (intOf s15).toNat)
      case atStart => exact ⟨i, rfl, Nat.le_refl _, by omega, HI.out⟩
      case round =>
        obtain ⟨j, rfl, hij, hj, HJ⟩ := hrel
        by_cases hlj : j ≤ c
        · have hjj : (j : Int) ≤ (c : Int) := by omega
          have hpn := GL.out i j hij hlj
          have RA2 := Lib.hid (fun W => RA.out i j W hij hlj)
          have HC2 := Lib.hid (HC.out i j hij hlj)
          have X1 := Lib.hid (HA1.out _ hpn)
          have X3 := Lib.hid (HA3.out _ hpn)
          have HW := Lib.hid (B1.out.trans (HJ.out.mono B1.out.size))
          obtain ⟨g1, o1, rfl, hcs1⟩ := HN.out.at (by omega)
          obtain ⟨g3, o3, rfl, hcs3⟩ := HG.out.at (by omega)
          obtain ⟨s1, b1, n1, d1, e1, k10, k11, k12, k13⟩ := hcs1 _ hpn
          obtain ⟨s3, b3, n3, d3, e3, k30, k31, k32, k33⟩ := hcs3 _ hpn
          rw [show offs c i + (j - i) = gix c i j from rfl] at RA2
          generalize gix c i j = p at *
          generalize tn.getD p 0 = qn at *
          generalize tg.getD p 0 = qg at *
          have hpi : (p : Int) < (n : Int) := by omega
          have hp0 : (0 : Int) ≤ (p : Int) := by omega
          have KP := Lib.hid (show ∀ W, Below w.heap.size w W → W.cell? ⟨g3, o3 + p * 3, none⟩ = some (.bool s3) ∧ W.cell? ⟨g3, o3 + p * 3 + 1, none⟩ = some (.slice b3 n3 d3) ∧ W.cell? ⟨g3, o3 + p * 3 + 2, none⟩ = some (.int .i64 e3) ∧ W.cell? ⟨g1, o1 + p * 3, none⟩ = some (.bool s1) ∧ W.cell? ⟨g1, o1 + p * 3 + 1, none⟩ = some (.slice b1 n1 d1) ∧ W.cell? ⟨g1, o1 + p * 3 + 2, none⟩ = some (.int .i64 e1) from fun W hb =>
            ⟨(hb.cell (p := ⟨g3, o3 + p * 3, none⟩) (cell_lt k30)).trans k30, (hb.cell (p := ⟨g3, o3 + p * 3 + 1, none⟩) (cell_lt k31)).trans k31, (hb.cell (p := ⟨g3, o3 + p * 3 + 2, none⟩) (cell_lt k32)).trans k32, (hb.cell (p := ⟨g1, o1 + p * 3, none⟩) (cell_lt k10)).trans k10, (hb.cell (p := ⟨g1, o1 + p * 3 + 1, none⟩) (cell_lt k11)).trans k11, (hb.cell (p := ⟨g1, o1 + p * 3 + 2, none⟩) (cell_lt k12)).trans k12⟩)
          have HS := Lib.hid (fun W (hb : Below w.heap.size w W) => dsub_calls _ _ _ _ A 2148 W (k33.below hb) X3.out (k13.below hb) X1.out (by omega))
          have HB := Lib.hid (fun v W hv => dabs_calls v (qg - qn) (A + 1) 2148 W hv (by rw [Rat.sub_eq_add_neg]; exact bd_add_p2 X3.out X1.out.neg) (by omega))
          clear hcs1 hcs3 k10 k11 k12 k30 k31 k32 k13 k33 hpn
          go_wp2_with (go_at_call 25; go_must (refine (RA2.out _).mono ?_; rintro e ww ⟨rfl, rfl⟩))
          go_cut [18] from 70 to 79 (fun s18 wx => DCut wr (absR (qg - qn)) s18 wx)
          case first =>
            rename_i J K' hJ hK'
            have bA := Lib.hid (show Below wr.heap.size wr wr.drew from (Below.refl _ _).drew)
            have bB := Lib.hid (show Below wr.heap.size wr (wr.alloc (.cells #[.bool false, .slice none 0 0, .int .i64 0] 53)).drew from ((Below.refl wr.heap.size wr).alloc (Nat.le_refl _) _).drew)
            have zB := Lib.hid (show Cells3 (wr.alloc (.cells #[.bool false, .slice none 0 0, .int .i64 0] 53)).drew wr.heap.size (.bool false) (.slice none 0 0) (.int .i64 0) from (Cells3.new wr _ _ _ 53).below ((Below.refl _ _).drew))
            have KK := Lib.hid (fun W (hb : Below wr.heap.size wr W) => KP.out W (HW.out.trans (hb.mono HW.out.size)))
            have HSS := Lib.hid (fun W (hb : Below wr.heap.size wr W) => HS.out W (HW.out.trans (hb.mono HW.out.size)))
            have ka := Lib.hid (KK.out _ bA.out)
            have kb := Lib.hid (KK.out _ bB.out)
            go_region_held3 (fun w' => w'.cell? ⟨g3, o3 + p * 3, none⟩ = some (.bool s3) ∧ w'.cell? ⟨g3, o3 + p * 3 + 1, none⟩ = some (.slice b3 n3 d3) ∧ w'.cell? ⟨g3, o3 + p * 3 + 2, none⟩ = some (.int .i64 e3) ∧ w'.cell? ⟨g1, o1 + p * 3, none⟩ = some (.bool s1) ∧ w'.cell? ⟨g1, o1 + p * 3 + 1, none⟩ = some (.slice b1 n1 d1) ∧ w'.cell? ⟨g1, o1 + p * 3 + 2, none⟩ = some (.int .i64 e1))
              (first
                | with_reducible exact ka.out
                | with_reducible exact kb.out
                | with_reducible exact K6.out
                | with_reducible exact K6a.out
                | with_reducible exact K7.out
                | with_reducible exact K7a.out
                | with_reducible exact K8.out
                | with_reducible exact K9.out)
              (first
                | (go_at_call 23; first
                    | (refine (HSS.out _ bA.out).mono ?_; rintro e' w6 ⟨⟨z, rfl, hz⟩, hb⟩; have B6 := Lib.hid (bA.out.trans (hb.mono bA.out.size)); have Z6 := Lib.hid hz; have K6 := Lib.hid (KK.out _ B6.out); have B6a := Lib.hid (B6.out.alloc B6.out.size (.cells #[.bool false, .slice none 0 0, .int .i64 0] 53)); have K6a := Lib.hid (KK.out _ B6a.out); clear hz hb)
                    | (refine (HSS.out _ bB.out).mono ?_; rintro e' w6 ⟨⟨z, rfl, hz⟩, hb⟩; have B6 := Lib.hid (bB.out.trans (hb.mono bB.out.size)); have Z6 := Lib.hid hz; have K6 := Lib.hid (KK.out _ B6.out); have F6 := Lib.hid (zB.out.below hb); clear hz hb))
                | (go_at_call 26; first
                    | (refine (HB.out _ _ Z6.out).mono ?_; rintro e' w7 ⟨⟨z2, rfl, hz⟩, hb⟩; have B7 := Lib.hid (B6.out.trans (hb.mono B6.out.size)); have Z7 := Lib.hid hz; obtain ⟨zs, zm, ze, ⟨za, zn, zc, rfl, _⟩, _⟩ := hz; have K7 := Lib.hid (KK.out _ B7.out); have B7a := Lib.hid (B7.out.alloc B7.out.size (.cells #[.bool false, .slice none 0 0, .int .i64 0] 53)); have K7a := Lib.hid (KK.out _ B7a.out); have B8 := Lib.hid (B7.out.alloc B7.out.size (.cells #[.bool zs, .slice za zn zc, .int .i64 ze] 53)); have K8 := Lib.hid (KK.out _ B8.out); try (have F7 := Lib.hid (F6.out.below hb); obtain ⟨y0, y1, y2, y3, y4, y5⟩ := F7.out; have B9 := Lib.hid (below_put3 B7.out (Nat.le_refl _) (.bool zs) (.slice za zn zc) (.int .i64 ze)); have K9 := Lib.hid (KK.out _ B9.out)); clear hb)
                    | (refine (HB.out _ _ (Z6.out.below ((Below.refl _ _).alloc (Nat.le_refl _) (.cells #[.bool false, .slice none 0 0, .int .i64 0] 53)))).mono ?_; rintro e' w7 ⟨⟨z2, rfl, hz⟩, hb⟩; have B7 := Lib.hid (B6a.out.trans (hb.mono B6a.out.size)); have Z7 := Lib.hid hz; obtain ⟨zs, zm, ze, ⟨za, zn, zc, rfl, _⟩, _⟩ := hz; have K7 := Lib.hid (KK.out _ B7.out); have F7 := Lib.hid ((Cells3.new w6 (.bool false) (.slice none 0 0) (.int .i64 0) 53).below hb); obtain ⟨y0, y1, y2, y3, y4, y5⟩ := F7.out; have B9 := Lib.hid (below_put3 B7.out B6.out.size (.bool zs) (.slice za zn zc) (.int .i64 ze)); have K9 := Lib.hid (KK.out _ B9.out); clear hb)))
            all_goals
              refine hK' _ _ (Met.intro (hJ _ _ ?_))
              (repeat apply Exists.intro)
              refine ⟨?_, rfl⟩
              unfold DCut
              (first
                | (refine ⟨w7.heap.size, zs, za, zn, zc, ze, rfl, ?_⟩; with_reducible exact ⟨Cells3.new w7 _ _ _ _, Z7.out.below ((Below.refl _ _).alloc (Nat.le_refl _) _), B8.out⟩)
                | (refine ⟨_, zs, za, zn, zc, ze, rfl, ?_⟩; with_reducible exact ⟨F7.out.put _ _ _, Z7.out.put3 F7.out _ _ _, B9.out⟩))
          case rest =>
            obtain ⟨g, s0, a0, n0, c0, e0, rfl, E, hq, hbc⟩ := hcut
            clear s1 b1 n1 d1 e1 s3 b3 n3 d3 e3 KP HS HB HW
            obtain ⟨s3, b3, n3, d3, e3, k30, k31, k32, k33⟩ := HCU.out i (by omega)
            obtain ⟨s1, b1, n1, d1, e1, k10, k11, k12, k13⟩ := HCU.out j (by omega)
            have HE := Lib.hid E
            have HW := Lib.hid (HJ.out.trans (hbc.mono HJ.out.size))
            have HQ := Lib.hid hq
            have KP := Lib.hid (show ∀ W, Below wc.heap.size wc W → W.cell? ⟨g, 0, none⟩ = some (.bool s0) ∧ W.cell? ⟨g, 1, none⟩ = some (.slice a0 n0 c0) ∧ W.cell? ⟨g, 2, none⟩ = some (.int .i64 e0) ∧ W.cell? ⟨gu, ou + i * 3, none⟩ = some (.bool s3) ∧ W.cell? ⟨gu, ou + i * 3 + 1, none⟩ = some (.slice b3 n3 d3) ∧ W.cell? ⟨gu, ou + i * 3 + 2, none⟩ = some (.int .i64 e3) ∧ W.cell? ⟨gu, ou + j * 3, none⟩ = some (.bool s1) ∧ W.cell? ⟨gu, ou + j * 3 + 1, none⟩ = some (.slice b1 n1 d1) ∧ W.cell? ⟨gu, ou + j * 3 + 2, none⟩ = some (.int .i64 e1) from fun W hb => by
              have h9 := HW.out.trans (hb.mono HW.out.size)
              have h8 := HE.out.below hb
              exact ⟨h8.c0, h8.c1, h8.c2, (h9.cell (p := ⟨gu, ou + i * 3, none⟩) (cell_lt k30)).trans k30, (h9.cell (p := ⟨gu, ou + i * 3 + 1, none⟩) (cell_lt k31)).trans k31, (h9.cell (p := ⟨gu, ou + i * 3 + 2, none⟩) (cell_lt k32)).trans k32, (h9.cell (p := ⟨gu, ou + j * 3, none⟩) (cell_lt k10)).trans k10, (h9.cell (p := ⟨gu, ou + j * 3 + 1, none⟩) (cell_lt k11)).trans k11, (h9.cell (p := ⟨gu, ou + j * 3 + 2, none⟩) (cell_lt k12)).trans k12⟩)
            have BO := Lib.hid (fun W (hb : Below wc.heap.size wc W) => ebound_calls _ _ _ _ k (A / 2 + 3) (2148 / 2 + 65) W (k33.below (HW.out.trans (hb.mono HW.out.size))) (NM.out.bd hlt) (k13.below (HW.out.trans (hb.mono HW.out.size))) (NM.out.bd hlj) (by omega) (by omega) (by omega) (by omega))
            have HBB := Lib.hid (bndQ_bd (k := k) (NM.out.bd hlt) (NM.out.bd hlj) (by omega))
            have HQB := Lib.hid (bd_absR'.2 (show Bd (qg - qn) (p2 ((2 * (A / 2 + 3) + 36 : Nat) : Int)) by rw [Rat.sub_eq_add_neg]; exact bd_p2_mono (bd_add_p2 X3.out X1.out.neg) (by omega)))
            generalize us.getD i 0 = U at *
            generalize us.getD j 0 = V at *
            have CM := Lib.hid (fun u W (hb : Below wc.heap.size wc W) hu => dcmp_calls _ u (absR (qg - qn)) (bndQ U V k) (2 * (A / 2 + 3) + 36) (2 * (2148 / 2 + 65) + 53) W ((HQ.out.below hb).mono (by omega)) HQB.out hu HBB.out (by omega))
            have hr : ¬ (0 : Int) < cmpQ (absR (qg - qn)) (bndQ U V k) := by
              have h0 := cmpQ_le (a := absR (qg - qn)) (b := bndQ U V k)
              rw [decide_eq_true HC2.out] at h0
              have := of_decide_eq_true h0
              omega
            generalize absR (qg - qn) = qa at *
            generalize bndQ U V k = qb at *
            generalize cmpQ qa qb = r at *
            have hii2 : (i : Int) < (m : Int) := by omega
            have hjj2 : (j : Int) < (m : Int) := by omega
            have bA := Lib.hid (show Below wc.heap.size wc wc.drew from (Below.refl _ _).drew)
            have ka := Lib.hid (KP.out _ bA.out)
            clear hq E hbc k30 k31 k32 k33 k10 k11 k12 k13
            go_wp2
            go_region_held3 (fun w' => w'.cell? ⟨g, 0, none⟩ = some (.bool s0) ∧ w'.cell? ⟨g, 1, none⟩ = some (.slice a0 n0 c0) ∧ w'.cell? ⟨g, 2, none⟩ = some (.int .i64 e0) ∧ w'.cell? ⟨gu, ou + i * 3, none⟩ = some (.bool s3) ∧ w'.cell? ⟨gu, ou + i * 3 + 1, none⟩ = some (.slice b3 n3 d3) ∧ w'.cell? ⟨gu, ou + i * 3 + 2, none⟩ = some (.int .i64 e3) ∧ w'.cell? ⟨gu, ou + j * 3, none⟩ = some (.bool s1) ∧ w'.cell? ⟨gu, ou + j * 3 + 1, none⟩ = some (.slice b1 n1 d1) ∧ w'.cell? ⟨gu, ou + j * 3 + 2, none⟩ = some (.int .i64 e1))
              (first
                | with_reducible exact ka.out
                | with_reducible exact K6.out
                | with_reducible exact K7.out)
              (first
                | (go_at_call 28; go_must (refine (BO.out _ bA.out).mono ?_; rintro e' w6 ⟨⟨z, rfl, hz⟩, hb⟩; have B6 := Lib.hid (bA.out.trans (hb.mono bA.out.size)); have Z6 := Lib.hid hz; have K6 := Lib.hid (KP.out _ B6.out); clear hz hb))
                | (go_at_call 27; go_must (refine (CM.out _ _ B6.out Z6.out).mono ?_; rintro e' w7 ⟨rfl, hb⟩; have B7 := Lib.hid (B6.out.trans (hb.mono B6.out.size)); have K7 := Lib.hid (KP.out _ B7.out); clear hb)))
            go_wp2
            go_roundw
            case rel => exact ⟨j + 1, by go_num, by omega, by omega, HW.out.trans (B7.out.mono HW.out.size)⟩
            case measure => simp [intOf]; omega
        · obtain rfl : j = m := by omega
          have hjj : ¬ (j : Int) ≤ (c : Int) := by omega
          go_wp2
          go_roundw
          case rel => exact ⟨i + 1, by go_num, by omega, HJ.out⟩
          case measure => simp [intOf]; omega
    · obtain rfl : i = m := by omega
      have hii : ¬ (i : Int) ≤ (c : Int) := by omega
      go_wp2
      exact bodyPost_ret (v := .tuple #[.int .i64 0, .bool true]) (by simp [results, Tryz.results10, go_sem]) rfl ⟨rfl, B1.out.trans (HI.out.mono B1.out.size)⟩
end Go.Proofs.YtmmligbkecilfaaGreatDoor
namespace Go.Proofs.YtmmligbkecilfaaGreatDoor
open Lv
open Ieee

theorem offs_shift (c : Nat) : ∀ i, offs (c + 1) (i + 1) = (c + 2) + offs c i
  | 0 => by simp [offs]
  | i + 1 => by
    have h := offs_shift c i
    have e1 : offs (c + 1) (i + 1 + 1) = offs (c + 1) (i + 1) + (c + 1 + 1 - (i + 1)) := rfl
    have e2 : offs c (i + 1) = offs c i + (c + 1 - i) := rfl
    rw [e1, e2, h]
    omega
theorem prs_get : ∀ (i c l : Nat) (qs : List Rat), qs.length = c + 1 → i ≤ l → l ≤ c → (prs qs).getD (gix c i l) 0 = qs.getD i 0 * qs.getD l 0
  | 0, c, l, [], h, _, _ => by simp at h
  | 0, c, l, x :: t, h, _, hl => by
    have e : gix c 0 l = l := by unfold gix offs; omega
    rw [e]
    show (((x :: t).map (x * ·)) ++ prs t).getD l 0 = _
    rw [List.getD_eq_getElem?_getD, List.getElem?_append_left (by rw [List.length_map]; omega), List.getElem?_map, List.getElem?_eq_getElem (by omega), List.getD_eq_getElem?_getD, List.getD_eq_getElem?_getD, List.getElem?_eq_getElem (by omega : l < (x :: t).length)]
    rfl
  | i + 1, c, l, [], h, _, _ => by simp at h
  | i + 1, c, l, x :: t, h, hil, hl => by
    obtain ⟨c', rfl⟩ : ∃ c', c = c' + 1 := ⟨c - 1, by omega⟩
    obtain ⟨l', rfl⟩ : ∃ l', l = l' + 1 := ⟨l - 1, by omega⟩
    have ht : t.length = c' + 1 := by simpa using h
    have e : gix (c' + 1) (i + 1) (l' + 1) = (c' + 2) + gix c' i l' := by
      unfold gix; rw [offs_shift]; omega
    rw [e]
    show (((x :: t).map (x * ·)) ++ prs t).getD _ 0 = _
    rw [List.getD_eq_getElem?_getD, List.getElem?_append_right (by rw [List.length_map]; omega), List.length_map, List.length_cons, ht, show c' + 2 + gix c' i l' - (c' + 1 + 1) = gix c' i l' by omega, ← List.getD_eq_getElem?_getD, prs_get i c' l' t ht (by omega) (by omega)]
    rfl
/-- a line, cut and put together again -/
theorem cut_line {l : List (Option Nat)} {c : Nat} (h : l.length = c + 1) : l.take c ++ [l.getD c none] = l := by
  have := List.take_succ_eq_append_getElem (l := l) (i := c) (by omega)
  rw [List.take_of_length_le (by omega)] at this
  rw [List.getD_eq_getElem?_getD, List.getElem?_eq_getElem (by omega)]
  exact this.symm
theorem lx_line {xs : List (Option Nat)} {c a l : Nat} (ha : a ≤ c) (hl : l ≤ c) : fv ((lineP xs c a).getD l none) = Lx xs c a l := by
  rw [getD_lineP ha l (by omega)]
  unfold Lx
  by_cases h : l < a
  · rw [if_pos h, if_pos h, fv_nil]
  · rw [if_neg h, if_neg h]
theorem gram_get {xs : List (Option Nat)} {c i l : Nat} (h1 : 1 ≤ c) (h6 : c ≤ 6) (hxl : xs.length = tsz c) (hil : i ≤ l) (hl : l ≤ c) : (gramL c (linesD xs c)).getD (gix c i l) 0 = Gx xs c i l := by
  have hp := gix_lt h1 h6 hil hl
  have key : ∀ n, n ≤ c + 1 → (gramL c ((linesD xs c).take n)).length = tsz c ∧ (gramL c ((linesD xs c).take n)).getD (gix c i l) 0 = sumQ (fun a => Lx xs c a i * Lx xs c a l) n := by
    intro n
    induction n with
    | zero =>
      intro _
      rw [List.take_zero]
      unfold gramL
      rw [List.foldl_nil, List.length_replicate]
      refine ⟨rfl, ?_⟩
      rw [List.getD_eq_getElem?_getD, List.getElem?_replicate, if_pos hp]
      rfl
    | succ n ih =>
      intro hn
      obtain ⟨k1, k2⟩ := ih (by omega)
      have hll := lineP_len h1 h6 hxl (show n ≤ c by omega)
      rw [linesD_take xs c n (by omega), gramL_snoc]
      dsimp only
      rw [cut_line hll]
      have hm : ((lineP xs c n).map fv).length = c + 1 := by rw [List.length_map, hll]
      have hpl : (prs ((lineP xs c n).map fv)).length = tsz c := by
        have h2 := prs_len ((lineP xs c n).map fv)
        rw [hm] at h2
        have h3 : 2 * (prs ((lineP xs c n).map fv)).length = (c + 1) * (c + 2) := h2
        unfold tsz
        generalize (c + 1) * (c + 2) = z at *
        omega
      refine ⟨addL_len k1 hpl, ?_⟩
      rw [addL_get k1 hpl hp, k2, prs_get i c l _ hm hil hl]
      rw [getD_fv (by rw [hll]; omega), getD_fv (by rw [hll]; omega), lx_line (by omega) (by omega), lx_line (by omega) hl]
      rfl
  have := (key (c + 1) (Nat.le_refl _)).2
  rw [List.take_of_length_le (by rw [linesD_len]; exact Nat.le_refl _)] at this
  exact this
theorem rowg_get {r : List (Option Nat)} {c i l : Nat} (hr : r.length = c + 1) (hil : i ≤ l) (hl : l ≤ c) : (prs (r.map fv)).getD (gix c i l) 0 = Rx r 0 i * Rx r 0 l := by
  rw [prs_get i c l _ (by rw [List.length_map, hr]) hil hl, getD_fv (by omega), getD_fv (by omega)]
  rfl
/-- what Check of layer 7 lets in -/
theorem fn_of {x : Option Nat} (hw : Wd x) {k : Nat} (hk : k < 9218868437227405312) (h : ∀ b, x = some b → b % 9223372036854775808 ≤ k) (h0 : x ≠ none) : Lv.Fn x ∧ Bd (fv x) (rv k) := by
  cases x with
  | none => exact absurd rfl h0
  | some b =>
    have hb := h b rfl
    have h64 := hw b rfl
    obtain ⟨s, r, e, hr⟩ : ∃ (s : Bool) (r : Nat), some b = some (wd s r) ∧ r ≤ k := by
      refine ⟨decide (9223372036854775808 ≤ b), b % 9223372036854775808, ?_, hb⟩
      by_cases c : 9223372036854775808 ≤ b
      · rw [decide_eq_true c]
        show some b = some (9223372036854775808 + b % 9223372036854775808)
        congr 1; omega
      · rw [decide_eq_false c]
        show some b = some (b % 9223372036854775808)
        congr 1; omega
    rw [e]
    refine ⟨⟨s, r, rfl, by omega⟩, ?_⟩
    rw [fv_wd s (by omega), vz_sg]
    exact bd_sg.2 ((bd_self (rv_nonneg r)).mono (rv_le hr))
theorem fn_large {x : Option Nat} (hw : Wd x) (h : largeF x = false) : Lv.Fn x ∧ Bd (fv x) (p2 ((420 : Nat) : Int)) := by
  have w := pw_val (k := 420) (by decide) (by decide)
  have := fn_of hw (k := pw 420) w.2.2 (fun b e => by
    subst e
    have h2 : ¬ pw 420 < b % 9223372036854775808 := of_decide_eq_false h
    omega) (fun e => by subst e; cases h)
  rw [w.1] at this
  exact this
theorem fn_in {x : Option Nat} (hw : Wd x) (h : outF x = false) : Lv.Fn x ∧ Bd (fv x) (p2 ((420 : Nat) : Int)) := by
  have w := pw_val (k := 420) (by decide) (by decide)
  have w4 := pw_val (k := 400) (by decide) (by decide)
  have := fn_of hw (k := pw 420) w.2.2 (fun b e => by
    subst e
    have h2 : inW b = true := by simpa [outF] using h
    unfold inW at h2
    have h3 : pw 400 ≤ pw 420 := by decide
    simp at h2
    omega) (fun e => by subst e; cases h)
  rw [w.1] at this
  exact this
theorem zero_ok : Lv.Fn (some 0) ∧ Bd (fv (some 0)) (p2 ((420 : Nat) : Int)) := ⟨fn_nil, by rw [fv_nil]; exact bd_zero (Rat.le_of_lt (p2_pos _))⟩
/-- a triangle of numbers, none of them great -/
structure TriOk (c : Nat) (xs : List (Option Nat)) : Prop where
  h1 : 1 ≤ c
  h6 : c ≤ 6
  len : xs.length = tsz c
  ok : ∀ a l, a ≤ l → l ≤ c → Lv.Fn (xs.getD (offs c a + (l - a)) none) ∧ Bd (fv (xs.getD (offs c a + (l - a)) none)) (p2 ((420 : Nat) : Int))
theorem tri_ok {c : Nat} {xs : List (Option Nat)} {rws trn : Int} (hck : checkP (c : Int) xs rws trn = true) (hw : ∀ a l, a ≤ l → l ≤ c → Wd (xs.getD (offs c a + (l - a)) none)) : TriOk c xs := by
  obtain ⟨h1, h6, hl, he⟩ := check_parts hck
  exact ⟨h1, h6, hl, fun a l hal hlc => fn_large (hw a l hal hlc) ((he a (by omega)).2 (l - a) (by omega))⟩
theorem TriOk.lines {c : Nat} {xs : List (Option Nat)} (h : TriOk c xs) : ∀ r ∈ linesD xs c, RowOk c 420 r := by
  intro r hr
  unfold linesD at hr
  obtain ⟨a, ha, rfl⟩ := List.mem_map.1 hr
  have ha' : a ≤ c := by have := List.mem_range.1 ha; omega
  have hll := lineP_len h.h1 h.h6 h.len ha'
  have key : ∀ x ∈ lineP xs c a, Lv.Fn x ∧ Bd (fv x) (p2 ((420 : Nat) : Int)) := by
    intro x hx
    obtain ⟨l, hl, rfl⟩ := List.getElem_of_mem hx
    have e : (lineP xs c a)[l] = (lineP xs c a).getD l none := by rw [List.getD_eq_getElem?_getD, List.getElem?_eq_getElem hl]; rfl
    rw [e, getD_lineP ha' l (by omega)]
    split
    · exact zero_ok
    · exact h.ok a l (by omega) (by omega)
  have e := cut_line hll
  exact ⟨by dsimp only; rw [List.length_take]; omega, fun x hx => (key x (by dsimp only at hx; rwa [e] at hx)).1, fun x hx => (key x (by dsimp only at hx; rwa [e] at hx)).2⟩
end Go.Proofs.YtmmligbkecilfaaGreatDoor
namespace Go.Proofs.YtmmligbkecilfaaGreatDoor
open Lv
open Ieee

theorem fn_wd {x : Option Nat} (h : Lv.Fn x) : Wd x := by
  obtain ⟨s, r, rfl, hr⟩ := h
  intro b hb
  obtain rfl := Option.some.inj hb
  unfold wd
  split <;> omega
/-- what Line comes to -/
theorem line_from {c j : Nat} {xs ls : List (Option Nat)} {rws trn : Int} {G : FacD} (h : lineD ⟨(c : Int), xs, rws, trn⟩ ls (j : Int) = (G, true)) :
    checkP (c : Int) xs rws trn = true ∧ j ≤ c ∧ ls.length = c + 1 ∧ G = ⟨(c : Int), G.xs, rws, trn⟩ ∧ checkP (c : Int) G.xs rws trn = true ∧ rlineFrom c (c + 1 - j) j (xs, ls) = some G.xs := by
  unfold lineD at h
  by_cases c1 : (⟨(c : Int), xs, rws, trn⟩ : FacD).ok = true ∧ 0 ≤ (j : Int) ∧ (j : Int) ≤ (⟨(c : Int), xs, rws, trn⟩ : FacD).cols ∧ (ls.length : Int) = (⟨(c : Int), xs, rws, trn⟩ : FacD).cols + 1
  · rw [if_pos c1] at h
    obtain ⟨hck, _, hj, hl⟩ := c1
    dsimp only at hj hl h
    cases hP : rlineP ((c : Int).toNat) rws trn ((j : Int).toNat) (xs, ls) with
    | none => rw [hP] at h; cases h
    | some ys =>
      rw [hP] at h
      dsimp only at h
      have hG : (⟨(c : Int), ys, rws, trn⟩ : FacD) = G := (Prod.mk.inj h).1
      subst hG
      unfold rlineP at hP
      rw [Int.toNat_natCast, Int.toNat_natCast] at hP
      cases hF : rlineFrom c (c + 1 - j) j (xs, ls) with
      | none => rw [hF] at hP; cases hP
      | some zs =>
        rw [hF] at hP
        dsimp only at hP
        by_cases hc : checkP (c : Int) zs rws trn = true
        · rw [if_pos hc] at hP
          obtain rfl := Option.some.inj hP
          exact ⟨hck, by omega, by omega, rfl, hc, rfl⟩
        · rw [if_neg hc] at hP; cases hP
  · rw [if_neg c1] at h; cases h
theorem MM_le {U : Rat} {A K : Nat} (hU0 : 0 ≤ U) (hU : U ≤ p2 ((A / 2 + 3 : Nat) : Int)) (hA : A ≤ 860) (hK : K ≤ 4096) : MM U K ≤ p2 440 := by
  have h1 : p2 ((A / 2 + 3 : Nat) : Int) ≤ p2 433 := p2_le (by omega)
  have h2 : p2 433 * 4 ≤ p2 440 := by
    have e1 := p2_succ 433
    have e2 := p2_succ 434
    have e3 := p2_le (show (433 : Int) + 1 + 1 ≤ 440 by decide)
    have e4 : (433 : Int) + 1 = 434 := rfl
    rw [e4] at e1 e3
    grind
  have h3 : (1 : Rat) ≤ p2 433 := by
    have := p2_le (show (0 : Int) ≤ 433 by decide)
    rwa [p2_zero] at this
  have ht := t30
  have hk1 : (K : Rat) ≤ 4096 := by exact_mod_cast hK
  have he := ee_uu
  have he0 := Rat.le_of_lt ee_pos
  have hKe : (K : Rat) * ee ≤ 4096 * (1/1000000) := rmul_le (ratn_nn K) he0 hk1 he.2
  have tU : p2 (-30) * U ≤ 1 * U := Rat.mul_le_mul_of_nonneg_right (by grind) hU0
  unfold MM
  grind
/-- what Rows of layer 8 comes to: a list of a factor's, and a row's -/
theorem RowOk.full {c A : Nat} {ls : List (Option Nat)} {Y : Option Nat} (h : RowOk c A (ls, Y)) : (ls ++ [Y]).length = c + 1 := by rw [List.length_append, h.len]; rfl
theorem absorb_near {c : Nat} {xs ls : List (Option Nat)} {Y : Option Nat} {rws trn : Int} {G : FacD} (hw : ∀ i, Wd (xs.getD i none)) (hw2 : ∀ i, Wd (ls.getD i none)) (hY : Wd Y) (h : rowD ⟨(c : Int), xs, rws, trn⟩ ls Y = (G, 0)) :
    checkP (c : Int) xs rws trn = true ∧ G.ok = true ∧ G.cols = (c : Int) ∧ TriOk c xs ∧ TriOk c G.xs ∧ RowOk c 420 (ls, Y) ∧
    ∀ us A, A ≤ 860 → Norms c A (addL (gramL c (linesD xs c)) (prs ((ls ++ [Y]).map fv))) us → ∀ i j, i ≤ j → j ≤ c →
      absR ((gramL c (linesD G.xs c)).getD (gix c i j) 0 - (addL (gramL c (linesD xs c)) (prs ((ls ++ [Y]).map fv))).getD (gix c i j) 0) ≤ bndQ (us.getD i 0) (us.getD j 0) (c + 1) := by
  obtain ⟨k1, k2, k3⟩ := rowD_zero (by rw [h])
  have hGok := (rowD_ok (F := ⟨(c : Int), xs, rws, trn⟩) (ls := ls) (Y := Y) (by rw [h])).1
  rw [h] at hGok
  obtain ⟨hok, hl, ho1, ho2⟩ := early_zero k1
  dsimp only at hl
  rw [rowD_line k1 k2, k3, if_neg (by decide)] at h
  have hG := (Prod.mk.inj h).1
  have hL : lineD ⟨(c : Int), xs, rws, trn⟩ (ls ++ [Y]) ((0 : Nat) : Int) = ((lineD ⟨(c : Int), xs, rws, trn⟩ (ls ++ [Y]) 0).1, true) := Prod.ext rfl k3
  obtain ⟨hck, _, hll, hGe, hGck, hF⟩ := line_from hL
  generalize (lineD ⟨(c : Int), xs, rws, trn⟩ (ls ++ [Y]) 0).1 = H at *
  have hGx : G.xs = H.xs := by rw [← hG]
  have hGc : G.cols = (c : Int) := by rw [← hG, hGe]
  have hTx : TriOk c xs := tri_ok hck (fun a l _ _ => hw _)
  have hRow : RowOk c 420 (ls, Y) := by
    have key : ∀ x ∈ ls ++ [Y], Lv.Fn x ∧ Bd (fv x) (p2 ((420 : Nat) : Int)) := by
      intro x hx
      rcases List.mem_append.1 hx with hx | hx
      · obtain ⟨i, hi, rfl⟩ := List.getElem_of_mem hx
        have e : ls[i] = ls.getD i none := by rw [List.getD_eq_getElem?_getD, List.getElem?_eq_getElem hi]; rfl
        rw [e]
        refine fn_in (hw2 i) ?_
        rw [List.any_eq_false] at ho1
        have := ho1 ls[i] (List.getElem_mem hi)
        rw [e] at this
        simpa using this
      · obtain rfl := List.mem_singleton.1 hx
        exact fn_in hY ho2
    exact ⟨by dsimp only; omega, fun x hx => (key x hx).1, fun x hx => (key x hx).2⟩
  have hfn : AllFn c 0 (xs, ls ++ [Y]) := ⟨fun a l hal hlc => (hTx.ok a l hal hlc).1, fun l _ hlc => by
    have hli : l < (ls ++ [Y]).length := by omega
    exact hRow.fn _ (getD_mem hli)⟩
  have hlen0 : (gramL c (linesD xs c)).length = tsz c := (gramL_ok (c := c) (A := 420) _ hTx.lines).1
  have hlen1 : (prs ((ls ++ [Y]).map fv)).length = tsz c := hRow.prs
  have hti : ∀ i l, i ≤ l → l ≤ c → (addL (gramL c (linesD xs c)) (prs ((ls ++ [Y]).map fv))).getD (gix c i l) 0 = Gmx c 0 (xs, ls ++ [Y]) i l := by
    intro i l hil hlc
    rw [addL_get hlen0 hlen1 (gix_lt hTx.h1 hTx.h6 hil hlc), gram_get hTx.h1 hTx.h6 hTx.len hil hlc, rowg_get hll hil hlc]
    rfl
  -- the norms that are there in any case
  have hM440 : ∀ U A, 0 ≤ U → U ≤ p2 ((A / 2 + 3 : Nat) : Int) → A ≤ 860 → MM U (c + 1) ≤ p2 440 := fun U A h1 h2 h3 => MM_le h1 h2 h3 (by have := hTx.h6; omega)
  have main : ∀ us A, A ≤ 860 → Norms c A (addL (gramL c (linesD xs c)) (prs ((ls ++ [Y]).map fv))) us → H.xs.length = tsz c ∧ (∀ a l, a ≤ l → l ≤ c → Lv.Fn (H.xs.getD (offs c a + (l - a)) none)) ∧ ∀ i l, i ≤ c → l ≤ c → Bd (Gx H.xs c i l - Gmx c 0 (xs, ls ++ [Y]) i l) (((c + 1 : Nat) : Rat) * EE (MM (us.getD i 0) (c + 1)) (MM (us.getD l 0) (c + 1))) := by
    intro us A hA hN
    exact rline_gram (M := fun l => MM (us.getD l 0) (c + 1)) hTx.h1 hTx.h6 (fun l hl => MM_nn (hN.nn l hl) _) (fun l hl => hM440 _ A (hN.nn l hl) (hN.le l hl) hA) (c + 1) 0 (xs, ls ++ [Y]) H.xs (by omega) hTx.len hll hfn (fun l hl => by
      have h1 := hN.sq l hl
      rw [hti l l (Nat.le_refl _) hl] at h1
      exact MM_sq (hN.nn l hl) h1 (by have := hTx.h6; omega)) hF
  have hTy : TriOk c H.xs := by
    obtain ⟨_, g2, _⟩ := line_grows (fun i _ => hw i) (fun i _ => by
      rw [List.getD_eq_getElem?_getD]
      by_cases c1 : i < ls.length
      · rw [List.getElem?_append_left c1, ← List.getD_eq_getElem?_getD]
        exact hw2 i
      · by_cases c2 : i = ls.length
        · rw [List.getElem?_append_right (by omega), c2, Nat.sub_self]
          exact hY
        · rw [List.getElem?_eq_none (by rw [List.length_append]; simp; omega)]
          intro b hb; cases hb) hL
    exact tri_ok hGck (fun a l hal hlc => g2 _ (offs_in hTx.h1 hTx.h6 (by omega) (by omega)))
  refine ⟨hck, hGok, hGc, hTx, by rw [hGx]; exact hTy, hRow, fun us A hA hN i j hij hj => ?_⟩
  · obtain ⟨_, _, m3⟩ := main us A hA hN
    rw [hGx, gram_get hTy.h1 hTy.h6 hTy.len hij hj, hti i j hij hj]
    refine bd_absR.1 ((m3 i j (by omega) hj).mono ?_)
    exact bnd_room (hN.nn i (by omega)) (hN.nn j hj) (by have := hTx.h6; omega) (by omega)
end Go.Proofs.YtmmligbkecilfaaGreatDoor
namespace Go.Proofs.YtmmligbkecilfaaGreatDoor
open Lv
open Ieee

theorem sumQ_mono {f : Nat → Rat} {i : Nat} : ∀ n, i ≤ n → (∀ a, a < n → 0 ≤ f a) → sumQ f i ≤ sumQ f n
  | 0, h, _ => by obtain rfl : i = 0 := by omega
                  exact Rat.le_refl
  | n + 1, h, h2 => by
    by_cases c : i = n + 1
    · subst c; exact Rat.le_refl
    · have h3 := sumQ_mono (i := i) n (by omega) (fun a ha => h2 a (by omega))
      have h4 := h2 n (by omega)
      show _ ≤ sumQ f n + f n
      grind
/-- the rotations of n lines, each one shorter -/
def rotN : Nat → Nat
  | 0 => 0
  | n + 1 => rotN n + (n + 1)
theorem rotN_tsz {c : Nat} (h6 : c ≤ 6) : rotN (c + 1) = tsz c := by
  have : ∀ c, c < 7 → rotN (c + 1) = tsz c := by decide
  exact this c (by omega)
/-- a triangle's Gram list, and what is left of another one's -/
def Gt (c : Nat) (gx bx : List (Option Nat)) (i p q : Nat) : Rat := Gx gx c p q + (Gx bx c p q - sumQ (fun a => Lx bx c a p * Lx bx c a q) i)
theorem two_gram {c : Nat} {M : Nat → Rat} {bx : List (Option Nat)} {rws trn : Int} (h1 : 1 ≤ c) (h6 : c ≤ 6) (hM0 : ∀ l, l ≤ c → 0 ≤ M l) (hM : ∀ l, l ≤ c → M l ≤ p2 440) (hB : ∀ a l, a ≤ l → l ≤ c → Lv.Fn (bx.getD (offs c a + (l - a)) none)) (hbl : bx.length = tsz c) :
    ∀ (n i : Nat) (gx : List (Option Nat)) (G : FacD), n + i = c + 1 → gx.length = tsz c → (∀ a l, a ≤ l → l ≤ c → Lv.Fn (gx.getD (offs c a + (l - a)) none)) → (∀ l, l ≤ c → Gt c gx bx i l l + (rotN n : Rat) * EE (M l) (M l) ≤ M l * M l) →
      twoLoop c bx n i ⟨(c : Int), gx, rws, trn⟩ = (G, true) →
      G.xs.length = tsz c ∧ (∀ a l, a ≤ l → l ≤ c → Lv.Fn (G.xs.getD (offs c a + (l - a)) none)) ∧ ∀ p q, p ≤ c → q ≤ c → Bd (Gx G.xs c p q - Gt c gx bx i p q) ((rotN n : Rat) * EE (M p) (M q))
  | 0, i, gx, G, hni, hl, hfn, _, h => by
    have hG : (⟨(c : Int), gx, rws, trn⟩ : FacD) = G := (Prod.mk.inj h).1
    subst hG
    refine ⟨hl, hfn, fun p q hp hq => ?_⟩
    obtain rfl : i = c + 1 := by omega
    unfold Gt
    dsimp only
    rw [show ((rotN 0 : Nat) : Rat) = 0 from rfl, Rat.zero_mul]
    unfold Gx
    refine Eq.mp (congrArg (fun z => Bd z 0) ?_) (bd_zero (Rat.le_refl (a := 0)))
    grind
  | n + 1, i, gx, G, hni, hl, hfn, hS, h => by
    have hi : i ≤ c := by omega
    rcases two_step h with ⟨_, e⟩ | ⟨gy, e, h2⟩
    · cases e
    · obtain ⟨_, _, hll, _, _, hF⟩ := line_from e
      rw [show c + 1 - i = n + 1 by omega] at hF
      dsimp only at hF
      have hRx : ∀ l, l ≤ c → Rx (lineP bx c i) i l = Lx bx c i l := by
        intro l hlc
        unfold Rx
        by_cases c1 : l < i
        · rw [if_pos c1]; unfold Lx; rw [if_pos c1]
        · rw [if_neg c1, lx_line hi hlc]
      have hGm : ∀ p q, p ≤ c → q ≤ c → Gmx c i (gx, lineP bx c i) p q = Gx gx c p q + Lx bx c i p * Lx bx c i q := by
        intro p q hp hq
        unfold Gmx
        rw [hRx p hp, hRx q hq]
      have hstep : ∀ p q, sumQ (fun a => Lx bx c a p * Lx bx c a q) (i + 1) = sumQ (fun a => Lx bx c a p * Lx bx c a q) i + Lx bx c i p * Lx bx c i q := fun p q => rfl
      have hrest : ∀ l, l ≤ c → sumQ (fun a => Lx bx c a l * Lx bx c a l) (i + 1) ≤ Gx bx c l l := fun l hlc => sumQ_mono (c + 1) (by omega) (fun a _ => rsq_nn _)
      have hrn : ((rotN (n + 1) : Nat) : Rat) = (rotN n : Rat) + ((n + 1 : Nat) : Rat) := by
        show ((rotN n + (n + 1) : Nat) : Rat) = _
        norm_cast
      have hfn2 : AllFn c i (gx, lineP bx c i) := ⟨hfn, fun l hil hlc => by
        rw [getD_lineP hi l (by omega), if_neg (by omega)]
        exact hB i l hil hlc⟩
      obtain ⟨q1, q2, q3⟩ := rline_gram h1 h6 hM0 hM (n + 1) i (gx, lineP bx c i) gy (by omega) hl hll hfn2 (fun l hlc => by
        have a1 := hS l hlc
        have a2 := hrest l hlc
        rw [hstep] at a2
        rw [hGm l l hlc hlc]
        unfold Gt at a1
        rw [hrn] at a1
        have a3 := rmul_nn (show (0 : Rat) ≤ (rotN n : Rat) from ratn_nn _) (EE_nn (hM0 l hlc) (hM0 l hlc))
        grind) hF
      have hS2 : ∀ l, l ≤ c → Gt c gy bx (i + 1) l l + (rotN n : Rat) * EE (M l) (M l) ≤ M l * M l := by
        intro l hlc
        have a1 := hS l hlc
        have a2 := q3 l l hlc hlc
        rw [hGm l l hlc hlc] at a2
        unfold Gt at a1 ⊢
        rw [hrn] at a1
        rw [hstep]
        unfold Bd at a2
        grind
      obtain ⟨k1, k2, k3⟩ := two_gram h1 h6 hM0 hM hB hbl n (i + 1) gy G (by omega) q1 q2 hS2 h2
      refine ⟨k1, k2, fun p q hp hq => ?_⟩
      have a1 := k3 p q hp hq
      have a2 := q3 p q hp hq
      rw [hGm p q hp hq] at a2
      have a3 := a1.add a2
      unfold Gt at a3 ⊢
      rw [hstep] at a3
      rw [hrn]
      refine Eq.mp (congrArg (fun z => Bd z _) ?_) (a3.mono (show _ ≤ ((rotN n : Rat) + ((n + 1 : Nat) : Rat)) * EE (M p) (M q) by grind))
      grind
theorem two_words {c : Nat} {bx : List (Option Nat)} {rws trn : Int} (hB : ∀ i, Wd (bx.getD i none)) : ∀ (n i : Nat) (gx : List (Option Nat)) (G : FacD), n + i = c + 1 → (∀ i, i < tsz c → Wd (gx.getD i none)) → twoLoop c bx n i ⟨(c : Int), gx, rws, trn⟩ = (G, true) →
    ∀ i, i < tsz c → Wd (G.xs.getD i none)
  | 0, i, gx, G, _, hw, h => by
    have hG : (⟨(c : Int), gx, rws, trn⟩ : FacD) = G := (Prod.mk.inj h).1
    subst hG
    exact hw
  | n + 1, i, gx, G, hni, hw, h => by
    rcases two_step h with ⟨_, e⟩ | ⟨gy, e, h2⟩
    · cases e
    · obtain ⟨_, g2, _⟩ := line_grows hw (fun k hk => by
        rw [getD_lineP (by omega) k (by omega)]
        split
        · intro b hb
          obtain rfl := Option.some.inj hb
          decide
        · exact hB _) e
      exact two_words hB n (i + 1) gy G (by omega) g2 h2
/-- two factors merged -/
theorem two_parts {c : Nat} {ax bx : List (Option Nat)} {ar at' br bt : Int} {G : FacD} (hA : ∀ i, Wd (ax.getD i none)) (hB : ∀ i, Wd (bx.getD i none)) (h : twoD ⟨(c : Int), ax, ar, at'⟩ ⟨(c : Int), bx, br, bt⟩ = (G, 0)) :
    checkP (c : Int) ax ar at' = true ∧ checkP (c : Int) bx br bt = true ∧ TriOk c ax ∧ TriOk c bx ∧ TriOk c G.xs ∧
    ∀ (us : Nat → Rat) (A : Nat), A ≤ 860 → (∀ l, l ≤ c → 0 ≤ us l ∧ us l ≤ p2 ((A / 2 + 3 : Nat) : Int) ∧ Gx ax c l l + Gx bx c l l ≤ us l * us l) →
      ∀ p q, p ≤ c → q ≤ c → Bd (Gx G.xs c p q - (Gx ax c p q + Gx bx c p q)) (((tsz c : Nat) : Rat) * EE (MM (us p) (tsz c)) (MM (us q) (tsz c))) := by
  unfold twoD at h
  by_cases h0 : twoEarly ⟨(c : Int), ax, ar, at'⟩ ⟨(c : Int), bx, br, bt⟩ ≠ 0
  · rw [if_pos h0] at h
    exact absurd (Prod.mk.inj h).2 h0
  · rw [if_neg h0] at h
    obtain ⟨ka, kb, _, _, _⟩ := two_zero (show twoEarly ⟨(c : Int), ax, ar, at'⟩ ⟨(c : Int), bx, br, bt⟩ = 0 by simpa using h0)
    have hca : checkP (c : Int) ax ar at' = true := ka
    have hcb : checkP (c : Int) bx br bt = true := kb
    have TA : TriOk c ax := tri_ok hca (fun a l _ _ => hA _)
    have TB : TriOk c bx := tri_ok hcb (fun a l _ _ => hB _)
    cases hL : twoLoop c bx (c + 1) 0 ⟨(c : Int), ax, ar, at'⟩ with
    | mk H b =>
      dsimp only at h
      rw [Int.toNat_natCast, hL] at h
      cases b with
      | false => rw [if_pos rfl] at h; cases (Prod.mk.inj h).2
      | true =>
        rw [if_neg (by simp)] at h
        have hG := (Prod.mk.inj h).1
        have hGx : G.xs = H.xs := by rw [← hG]
        have hck : checkP (c : Int) H.xs ar at' = true := two_ok (c + 1) 0 ax H hca hL
        have hw := two_words hB (c + 1) 0 ax H (by omega) (fun i _ => hA i) hL
        have TG : TriOk c H.xs := tri_ok hck (fun a l hal hlc => hw _ (offs_in TA.h1 TA.h6 (by omega) (by omega)))
        rw [hGx]
        refine ⟨hca, hcb, TA, TB, TG, fun us A hA8 hU p q hp hq => ?_⟩
        have hK : tsz c ≤ 4096 := by have := tsz_bounds TA.h1 TA.h6; omega
        have g0 : ∀ p q, Gt c ax bx 0 p q = Gx ax c p q + Gx bx c p q := by
          intro p q
          unfold Gt
          show _ + (_ - 0) = _
          grind
        obtain ⟨_, _, k3⟩ := two_gram (M := fun l => MM (us l) (tsz c)) TA.h1 TA.h6 (fun l hl => MM_nn (hU l hl).1 _) (fun l hl => MM_le (hU l hl).1 (hU l hl).2.1 hA8 hK) (fun a l hal hlc => (TB.ok a l hal hlc).1) TB.len (c + 1) 0 ax H (by omega) TA.len (fun a l hal hlc => (TA.ok a l hal hlc).1) (fun l hl => by
          rw [g0, rotN_tsz TA.h6]
          exact MM_sq (hU l hl).1 (hU l hl).2.2 hK) hL
        have := k3 p q hp hq
        rw [g0, rotN_tsz TA.h6] at this
        exact this
end Go.Proofs.YtmmligbkecilfaaGreatDoor
