/- The reference's Row of layer 8: the products of a row's entries. The reference's Add and Zero of layer 8. -/
import Derived.Test.YtmmligbkecilfaaGreatDoorUg
import Derived.Test.YtmmligbkecilfaaGreatDoorMb
namespace Go.Proofs.YtmmligbkecilfaaGreatDoor
open Go.RowKit Lv Go.Shelf
attribute [local go_sem] Oper.semAt_some drewN_alloc drewN_setCell

/-- the products of any two -/
def prs : List Rat → List Rat
  | [] => []
  | x :: t => (x :: t).map (x * ·) ++ prs t
theorem prs_len (l : List Rat) : 2 * (prs l).length = l.length * (l.length + 1) := by
  induction l with
  | nil => rfl
  | cons x t ih =>
    have h := ih
    unfold prs
    rw [List.length_append, List.length_map, Nat.mul_add, h, List.length_cons]
    have e : (t.length + 1) * (t.length + 1 + 1) = 2 * (t.length + 1) + t.length * (t.length + 1) := by
      rw [Nat.add_mul, Nat.mul_add, Nat.mul_add]; omega
    exact e.symm
theorem prs_le {l : List Rat} (h : l.length ≤ 7) : (prs l).length ≤ 28 := by
  have h1 := prs_len l
  have h2 : l.length * (l.length + 1) ≤ 7 * 8 := Nat.mul_le_mul h (by omega)
  omega
theorem prs_drop {l : List Rat} {i : Nat} (hi : i < l.length) : prs (l.drop i) = (l.drop i).map (l.getD i 0 * ·) ++ prs (l.drop (i + 1)) := by
  rw [List.getD_eq_getElem?_getD, List.getElem?_eq_getElem hi, Option.getD_some]
  rw [List.drop_eq_getElem_cons hi]
  rfl
theorem map_drop {l : List Rat} {j : Nat} (x : Rat) (hj : j < l.length) : (l.drop j).map (x * ·) = [x * l.getD j 0] ++ (l.drop (j + 1)).map (x * ·) := by
  rw [List.getD_eq_getElem?_getD, List.getElem?_eq_getElem hj, Option.getD_some]
  rw [List.drop_eq_getElem_cons hj]
  rfl
theorem getD_fv {ls : List (Option Nat)} {i : Nat} (hi : i < ls.length) : (ls.map fv).getD i 0 = fv (ls.getD i none) := by
  rw [List.getD_eq_getElem?_getD, List.getElem?_map, List.getElem?_eq_getElem hi, List.getD_eq_getElem?_getD, List.getElem?_eq_getElem hi]
  rfl
theorem take_snocQ {qs : List Rat} {i : Nat} (h : i < qs.length) : qs.take (i + 1) = qs.take i ++ [qs.getD i 0] := by
  rw [List.take_succ_eq_append_getElem h, List.getD_eq_getElem?_getD, List.getElem?_eq_getElem h]
  rfl
theorem getD_mem {ls : List (Option Nat)} {i : Nat} (hi : i < ls.length) : ls.getD i none ∈ ls := by
  rw [List.getD_eq_getElem?_getD, List.getElem?_eq_getElem hi]
  exact List.getElem_mem hi
/-- two cells -/
def Duo2 (W : World) (b : Nat) (u0 u1 : Value) : Prop := W.cell? ⟨b, 0, none⟩ = some u0 ∧ W.cell? ⟨b, 1, none⟩ = some u1
theorem Duo2.below {W W' : World} {b : Nat} {u0 u1 : Value} (h : Duo2 W b u0 u1) (hb : Below W.heap.size W W') : Duo2 W' b u0 u1 :=
  ⟨(hb.cell (p := ⟨b, 0, none⟩) (cell_lt h.1)).trans h.1, (hb.cell (p := ⟨b, 1, none⟩) (cell_lt h.2)).trans h.2⟩
theorem Duo2.new (W : World) (u0 u1 : Value) (t : TypeId) : Duo2 (W.alloc (.cells #[u0, u1] t)) W.heap.size u0 u1 := ⟨by simp [go_sem], by simp [go_sem]⟩
theorem Duo2.grown {W W' : World} {b : Nat} {u0 u1 : Value} {row : Option Nat} (h : Duo2 W b u0 u1) (hg : W.grownBy W' row) (hne : some b ≠ row) : Duo2 W' b u0 u1 := ⟨hg.cell h.1 hne, hg.cell h.2 hne⟩
theorem two_allocs (W : World) (o o' : Obj) : Below W.heap.size W ((W.alloc o).alloc o') := ((Below.refl _ _).alloc (Nat.le_refl _) _).alloc (by simp) _

set_option maxRecDepth 100000 in
set_option maxHeartbeats 1000000 in
theorem grow_calls (b : Option Addr) (m d y A : Nat) (ls : List (Option Nat)) (Y : Option Nat) (w : World) (h : Row w (.slice b m d) ls) (hy : FW y Y) (h1 : 1 ≤ m) (h6 : m ≤ 6)
    (hf : ∀ x ∈ ls ++ [Y], Lv.Fn x) (hA : ∀ x ∈ ls ++ [Y], Bd (fv x) (p2 A)) (hA2 : A ≤ 1024) :
    Calls Tryz.prog 8 #[.agg #[.slice b m d, .float .f64 y]] w fun e w' => (∃ v, e = .returned (.tuple #[v, .bool true]) ∧ OwnQ w' w.heap.size v (prs ((ls ++ [Y]).map fv)) 2148) ∧ Below w.heap.size w w' := by
  have hl := h.len
  obtain ⟨qs, hqs⟩ : ∃ qs, (ls ++ [Y]).map fv = qs := ⟨_, rfl⟩
  rw [hqs]
  have HQS := Lib.hid hqs
  clear hqs
  have SZ := Lib.hid (rsizeI_calls (m : Int))
  have hs3 := (sizeI_in (c := (m : Int)) (by omega) (by omega)).1
  generalize sizeI (m : Int) = sz at *
  have hs0 : (sz == 0) = false := by simp; omega
  have B0 := Lib.hid ((Below.refl w.heap.size w).alloc (Nat.le_refl _) (.cells #[.slice b m d, .float .f64 y] 27))
  have C0 := Lib.hid (Duo2.new w (.slice b m d) (.float .f64 y) 27)
  have HR := Lib.hid h
  have HF := Lib.hid hf
  have HA := Lib.hid hA
  have HY := Lib.hid hy
  have HL := Lib.hid hl
  clear h hf hA hl hs3 hy
  go_enter Tryz.func8, Tryz.ntmps8
  go_wp2_with (go_at_call 20; go_must (refine (SZ.out _).mono ?_; rintro e w1 ⟨rfl, rfl⟩))
  have hDN : ∀ k : Nat, Hid (k ≤ 28 → k + 1 ≤ 1000) := fun k h => by omega
  go_loopw [4, 5] (fun s4 s5 wr => ∃ i : Nat, s5 = .int .i64 (i : Int) ∧ i ≤ m ∧ Hid (OwnQ wr (w.heap.size + 1) s4 ((ls.map fv).take i) 1074 ∧ Duo2 wr w.heap.size (.slice b m d) (.float .f64 y) ∧ Below w.heap.size w wr)) (fun _ s5 _ => m - (intOf s5).toNat)
  case atStart => exact ⟨0, rfl, Nat.zero_le _, ownQ_nil _ _ _, C0.out, B0.out⟩
  case round =>
    obtain ⟨i, rfl, hi, HI⟩ := hrel
    obtain ⟨c0, c1⟩ := HI.out.2.1
    have hb0 := cell_lt c0
    by_cases hlt : i < m
    · obtain ⟨blk, off, rfl, hc⟩ := row_cell (HR.out.below HI.out.2.2) h1
      obtain ⟨x, hx, hfx⟩ := hc i hlt
      have hii : (i : Int) < (m : Int) := by omega
      have hFn := HF.out _ (List.mem_append_left _ (getD_mem (i := i) (by rw [HL.out]; exact hlt)))
      have HFX := Lib.hid (And.intro hfx hFn)
      have HTK := Lib.hid (show (ls.map fv).take (i + 1) = (ls.map fv).take i ++ [fv (ls.getD i none)] by rw [take_snocQ (by rw [List.length_map, HL.out]; exact hlt), getD_fv (by rw [HL.out]; exact hlt)])
      have HLN := Lib.hid (show ((ls.map fv).take i).length + 1 ≤ 1000 by rw [List.length_take]; omega)
      generalize ls.getD i none = X at *
      clear hc hfx hFn
      have hs1 := Lib.hid HI.out.2.2.size
      go_wp2_with (first
        | (go_at_call 21; go_must (refine (dfrom_calls x X _ HFX.out.1 HFX.out.2).mono ?_; rintro e w2 ⟨⟨z, rfl, hz⟩, hb⟩; have HZ := Lib.hid hz; obtain ⟨zs, zm, ze, ⟨za, zn, zc, rfl, _⟩, _⟩ := hz; have HB2 := Lib.hid hb; have hs2 := Lib.hid hb.size; have HB3 := Lib.hid (two_allocs w2 (.cells #[.bool zs, .slice za zn zc, .int .i64 ze] 53) (.cells #[.bool zs, .slice za zn zc, .int .i64 ze] 53)); clear hb))
        | (at_builtin; go_must (refine wpList_append_QQ _ rfl _ _ rfl (w.heap.size + 1) 1074 _ _ [fv X] rfl ((HI.out.1.below HB2.out).below HB3.out) _ _ _ rfl (dql_new (HZ.out.below ((Below.refl _ _).alloc (Nat.le_refl _) _)) (by simp)) HLN.out (by have := hs1.out; have := hs2.out; have := hb0; simp at this ⊢; omega) ?_; intro v9 w4 hown9 hg9)))
      have hg9 : World.grownBy _ w4 u4.ownBlock := hg9
      replace hown9 := Lib.hid (show OwnQ w4 (w.heap.size + 1) v9 ((ls.map fv).take (i + 1)) 1074 by rw [HTK.out]; exact hown9)
      have HBW := Lib.hid (HI.out.2.2.trans ((HB2.out.trans (HB3.out.mono hs2.out)).mono hs1.out))
      have hBe := HBW.out.grown hg9 HBW.out.size (fun k e => Nat.le_trans (Nat.le_succ _) (HI.out.1.base k e))
      have hCe : Duo2 w4 w.heap.size (.slice (some ⟨blk, off, none⟩) m d) (.float .f64 y) := ((HI.out.2.1.below HB2.out).below HB3.out).grown hg9 (by
        intro e
        have := HI.out.1.base _ e.symm
        omega)
      go_roundw
      case rel => exact ⟨i + 1, by go_num, by omega, hown9.out, hCe, hBe⟩
      case measure => simp [intOf]; omega
    · obtain rfl : i = m := by omega
      have hii : ¬ (i : Int) < (i : Int) := by omega
      have HFY := Lib.hid (And.intro HY.out (HF.out Y (List.mem_append_right _ (List.mem_singleton.2 rfl))))
      have hs1 := Lib.hid HI.out.2.2.size
      have HOI := Lib.hid (show OwnQ wr (w.heap.size + 1) u4 (ls.map fv) 1074 by have := HI.out.1; rwa [List.take_of_length_le (by rw [List.length_map, HL.out]; exact Nat.le_refl _)] at this)
      have HLN := Lib.hid (show (ls.map fv).length + 1 ≤ 1000 by rw [List.length_map, HL.out]; omega)
      go_wp2_with (first
        | (go_at_call 21; go_must (refine (dfrom_calls y Y _ HFY.out.1 HFY.out.2).mono ?_; rintro e w2 ⟨⟨z, rfl, hz⟩, hb⟩; have HZ := Lib.hid hz; obtain ⟨zs, zm, ze, ⟨za, zn, zc, rfl, _⟩, _⟩ := hz; have HB2 := Lib.hid hb; have hs2 := Lib.hid hb.size; have HB3 := Lib.hid (two_allocs w2 (.cells #[.bool zs, .slice za zn zc, .int .i64 ze] 53) (.cells #[.bool zs, .slice za zn zc, .int .i64 ze] 53)); clear hb))
        | (at_builtin; go_must (refine wpList_append_QQ _ rfl _ _ rfl (w.heap.size + 1) 1074 _ _ [fv Y] rfl ((HOI.out.below HB2.out).below HB3.out) _ _ _ rfl (dql_new (HZ.out.below ((Below.refl _ _).alloc (Nat.le_refl _) _)) (by simp)) HLN.out (by have := hs1.out; have := hs2.out; have := hb0; simp at this ⊢; omega) ?_; intro v9 w4 hown9 hg9)))
      have hg9 : World.grownBy _ w4 u4.ownBlock := hg9
      have HBW := Lib.hid (HI.out.2.2.trans ((HB2.out.trans (HB3.out.mono hs2.out)).mono hs1.out))
      have hBe := Lib.hid (HBW.out.grown hg9 HBW.out.size (fun k e => Nat.le_trans (Nat.le_succ _) (HOI.out.base k e)))
      obtain ⟨n, hn⟩ : ∃ n, i + 1 = n := ⟨_, rfl⟩
      have hn0 : 0 < n := by omega
      have HQL := Lib.hid (show qs.length = n by rw [← HQS.out, List.length_map, List.length_append, HL.out]; exact hn)
      have DL := Lib.hid (show DqL w4 v9 qs 1074 by rw [← HQS.out, List.map_append]; exact hown9.dql)
      have HQA := Lib.hid (show ∀ j, j < n → Bd (qs.getD j 0) (p2 A) from fun j hj => by
        rw [← HQS.out]
        have hjl : j < (ls ++ [Y]).length := by rw [List.length_append, HL.out]; simpa [hn] using hj
        rw [getD_fv hjl]
        exact HA.out _ (getD_mem hjl))
      clear HBW HB2 HB3 HZ hown9 hg9 HI hs1 hs2 HOI HLN HFY HF HA HY HL HR SZ B0 C0 c0 c1 hb0
      obtain ⟨la, lc, hv⟩ := DL.out.form
      rw [HQL.out] at hv
      subst hv
      have HPL := Lib.hid (prs_le (l := qs) (by rw [HQL.out]; omega))
      obtain ⟨blk, off, rfl, hcs⟩ := DL.out.at hn0
      have hcs := Lib.hid hcs
      go_loopw [10, 11] (fun s10 s11 wr => ∃ (i : Nat) (acc : List Rat), s11 = .int .i64 (i : Int) ∧ i ≤ n ∧ Hid (OwnQ wr w4.heap.size s10 acc 2148 ∧ prs qs = acc ++ prs (qs.drop i) ∧ Below w4.heap.size w4 wr)) (fun _ s11 _ => n - (intOf s11).toNat)
      case atStart => exact ⟨0, [], rfl, Nat.zero_le _, ownQ_nil _ _ _, rfl, Below.refl _ _⟩
      case round =>
        obtain ⟨i, acc, rfl, hi, HI⟩ := hrel
        by_cases hlt : i < n
        · have hii : (i : Int) < (n : Int) := by omega
          go_wp2
          go_loopw [10, 12] (fun s10 s12 wr => ∃ (j : Nat) (acc : List Rat), s12 = .int .i64 (j : Int) ∧ j ≤ n ∧ Hid (OwnQ wr w4.heap.size s10 acc 2148 ∧ prs qs = acc ++ ((qs.drop j).map (qs.getD i 0 * ·) ++ prs (qs.drop (i + 1))) ∧ Below w4.heap.size w4 wr)) (fun _ s12 _ => n - (intOf s12).toNat)
          case atStart => exact ⟨i, acc, rfl, hi, HI.out.1, by rw [HI.out.2.1, prs_drop (by rw [HQL.out]; exact hlt)], HI.out.2.2⟩
          case round =>
            obtain ⟨j, ac, rfl, hj, HJ⟩ := hrel
            by_cases hlj : j < n
            · have hjj : (j : Int) < (n : Int) := by omega
              obtain ⟨s1, b1, n1, c1, e1, k10, k11, k12, k13⟩ := hcs.out i hlt
              obtain ⟨s2, b2, n2, c2, e2, k20, k21, k22, k23⟩ := hcs.out j hlj
              have HB1 := Lib.hid (And.intro k13 (HQA.out i hlt))
              have HB2 := Lib.hid (And.intro k23 (HQA.out j hlj))
              have HMD := Lib.hid (show prs qs = (ac ++ [qs.getD i 0 * qs.getD j 0]) ++ ((qs.drop (j + 1)).map (qs.getD i 0 * ·) ++ prs (qs.drop (i + 1))) by rw [HJ.out.2.1, map_drop _ (by rw [HQL.out]; exact hlj)]; simp)
              have HLN := Lib.hid (show ac.length + 1 ≤ 1000 by
                have h1 := congrArg List.length HMD.out
                have h2 := HPL.out
                rw [List.length_append, List.length_append] at h1
                simp at h1
                omega)
              have DLJ := Lib.hid HJ.out.2.2.size
              clear k13 k23
              have KP := Lib.hid (show ∀ W, Below w4.heap.size w4 W → W.cell? ⟨blk, off + i * 3, none⟩ = some (.bool s1) ∧ W.cell? ⟨blk, off + i * 3 + 1, none⟩ = some (.slice b1 n1 c1) ∧ W.cell? ⟨blk, off + i * 3 + 2, none⟩ = some (.int .i64 e1) ∧ W.cell? ⟨blk, off + j * 3, none⟩ = some (.bool s2) ∧ W.cell? ⟨blk, off + j * 3 + 1, none⟩ = some (.slice b2 n2 c2) ∧ W.cell? ⟨blk, off + j * 3 + 2, none⟩ = some (.int .i64 e2) from fun W hb =>
                ⟨(hb.cell (p := ⟨blk, off + i * 3, none⟩) (cell_lt k10)).trans k10, (hb.cell (p := ⟨blk, off + i * 3 + 1, none⟩) (cell_lt k11)).trans k11, (hb.cell (p := ⟨blk, off + i * 3 + 2, none⟩) (cell_lt k12)).trans k12, (hb.cell (p := ⟨blk, off + j * 3, none⟩) (cell_lt k20)).trans k20, (hb.cell (p := ⟨blk, off + j * 3 + 1, none⟩) (cell_lt k21)).trans k21, (hb.cell (p := ⟨blk, off + j * 3 + 2, none⟩) (cell_lt k22)).trans k22⟩)
              have hbk := cell_lt k10
              clear k10 k11 k12 k20 k21 k22
              have BD := Lib.hid (HJ.out.2.2.drew)
              have OD := Lib.hid (HJ.out.1.below (Below.refl _ _).drew)
              have K0 := Lib.hid (KP.out _ BD.out)
              have HM := Lib.hid (fun W (hb : Below w4.heap.size w4 W) => dmul_calls _ _ _ _ A 1074 A 1074 W (HB1.out.1.below hb) HB1.out.2 (HB2.out.1.below hb) HB2.out.2 (by omega))
              go_wp2
              go_region_held3 (fun w' => w'.cell? ⟨blk, off + i * 3, none⟩ = some (.bool s1) ∧ w'.cell? ⟨blk, off + i * 3 + 1, none⟩ = some (.slice b1 n1 c1) ∧ w'.cell? ⟨blk, off + i * 3 + 2, none⟩ = some (.int .i64 e1) ∧ w'.cell? ⟨blk, off + j * 3, none⟩ = some (.bool s2) ∧ w'.cell? ⟨blk, off + j * 3 + 1, none⟩ = some (.slice b2 n2 c2) ∧ w'.cell? ⟨blk, off + j * 3 + 2, none⟩ = some (.int .i64 e2))
                (first
                  | with_reducible exact K0.out
                  | with_reducible exact K1.out
                  | with_reducible exact K2.out
                  | with_reducible exact K3.out)
                (first
                  | (go_at_call 22; go_must (refine (HM.out _ BD.out).mono ?_; rintro e' w6 ⟨⟨z, rfl, hz⟩, hb⟩; have B6 := Lib.hid (BD.out.trans (hb.mono BD.out.size)); have HZ := Lib.hid hz; have O7 := Lib.hid ((OD.out.below hb)); obtain ⟨zs, zm, ze, ⟨za, zn, zc, rfl, _⟩, _⟩ := hz; have K1 := Lib.hid (KP.out _ B6.out); have B7 := Lib.hid (B6.out.alloc B6.out.size (.cells #[.bool zs, .slice za zn zc, .int .i64 ze] 53)); have K2 := Lib.hid (KP.out _ B7.out); clear hb))
                  | (refine step_append_QQ rfl _ _ (by rfl) w4.heap.size 2148 _ ac [qs.getD i 0 * qs.getD j 0] (by rfl) (O7.out.below ((Below.refl _ _).alloc (Nat.le_refl _) _)) _ _ _ (by rfl) (dql_new HZ.out rfl) HLN.out B7.out.size ?_; intro v8 w8 hown8 hg8; have B8 := Lib.hid (B7.out.grown hg8 B7.out.size (fun k e => HJ.out.1.base k e)); have K3 := Lib.hid (KP.out _ B8.out)))
              replace hown8 := Lib.hid (hown8)
              clear hg8
              go_wp2
              go_roundw
              case rel => exact ⟨j + 1, _, by go_num, by omega, hown8.out, HMD.out, B8.out⟩
              case measure => simp [intOf]; omega
            · obtain rfl : j = n := by omega
              have hjj : ¬ (j : Int) < (j : Int) := by omega
              go_wp2
              go_roundw
              case rel => exact ⟨i + 1, ac, by go_num, by omega, HJ.out.1, by rw [HJ.out.2.1, List.drop_eq_nil_of_le (by rw [HQL.out]; exact Nat.le_refl _)]; rfl, HJ.out.2.2⟩
              case measure => simp [intOf]; omega
        · obtain rfl : i = n := by omega
          have hii : ¬ (i : Int) < (i : Int) := by omega
          go_wp2
          exact bodyPost_ret (v := .tuple #[u10, .bool true]) (by simp [results, Tryz.results8, go_sem]) rfl ⟨⟨_, rfl, by
            have h := HI.out.2.1
            rw [List.drop_eq_nil_of_le (by rw [HQL.out]; exact Nat.le_refl _)] at h
            rw [h]
            simpa [prs] using HI.out.1.monoB hBe.out.size⟩, hBe.out.trans (HI.out.2.2.mono hBe.out.size)⟩
end Go.Proofs.YtmmligbkecilfaaGreatDoor
namespace Go.Proofs.YtmmligbkecilfaaGreatDoor
open Go.RowKit Lv Go.Shelf
attribute [local go_sem] Oper.semAt_some drewN_alloc drewN_setCell

/-- sums, place by place -/
def addL (qs ts : List Rat) : List Rat := List.zipWith (· + ·) qs ts
theorem addL_len {qs ts : List Rat} {n : Nat} (h : qs.length = n) (h' : ts.length = n) : (addL qs ts).length = n := by
  unfold addL; rw [List.length_zipWith, h, h', Nat.min_self]
theorem addL_get {qs ts : List Rat} {n i : Nat} (h : qs.length = n) (h' : ts.length = n) (hi : i < n) : (addL qs ts).getD i 0 = qs.getD i 0 + ts.getD i 0 := by
  unfold addL
  rw [List.getD_eq_getElem?_getD, List.getElem?_zipWith, List.getElem?_eq_getElem (by omega), List.getElem?_eq_getElem (by omega), List.getD_eq_getElem?_getD, List.getD_eq_getElem?_getD, List.getElem?_eq_getElem (by omega), List.getElem?_eq_getElem (by omega)]
  rfl
set_option maxRecDepth 100000 in
set_option maxHeartbeats 1000000 in
theorem gadd_calls (a b : Option Addr) (n c d A B : Nat) (qs ts : List Rat) (w : World) (h : DqL w (.slice a n c) qs B) (h' : DqL w (.slice b n d) ts B) (hn : n ≤ 28)
    (hA : ∀ j, j < n → Bd (qs.getD j 0) (p2 A)) (hA' : ∀ j, j < n → Bd (ts.getD j 0) (p2 A)) (hAB : A + B ≤ 9400) :
    Calls Tryz.prog 12 #[.slice a n c, .slice b n d] w fun e w' => (∃ v, e = .returned (.tuple #[v, .bool true]) ∧ OwnQ w' w.heap.size v (addL qs ts) B) ∧ Below w.heap.size w w' := by
  have HQL := Lib.hid h.len.1
  have HTL := Lib.hid h'.len.1
  have HLL := Lib.hid (addL_len HQL.out HTL.out)
  have hnn : ((n : Int) != (n : Int)) = false := by simp
  have H := Lib.hid h
  have H' := Lib.hid h'
  have HA := Lib.hid hA
  have HA' := Lib.hid hA'
  clear h h' hA hA'
  go_enter Tryz.func12, Tryz.ntmps12
  go_wp2
  go_loopw [6, 7] (fun s6 s7 wr => ∃ i : Nat, s7 = .int .i64 (i : Int) ∧ i ≤ n ∧ Hid (OwnQ wr w.heap.size s6 ((addL qs ts).take i) B ∧ Below w.heap.size w wr)) (fun _ s7 _ => n - (intOf s7).toNat)
  case atStart => exact ⟨0, rfl, Nat.zero_le _, ownQ_nil _ _ _, Below.refl _ _⟩
  case round =>
    obtain ⟨i, rfl, hi, HI⟩ := hrel
    by_cases hlt : i < n
    · have hii : (i : Int) < (n : Int) := by omega
      obtain ⟨blk, off, rfl, hcs⟩ := H.out.at (by omega)
      obtain ⟨blk', off', rfl, hcs'⟩ := H'.out.at (by omega)
      obtain ⟨s1, b1, n1, c1, e1, k10, k11, k12, k13⟩ := hcs i hlt
      obtain ⟨s2, b2, n2, c2, e2, k20, k21, k22, k23⟩ := hcs' i hlt
      have HB1 := Lib.hid (And.intro k13 (HA.out i hlt))
      have HB2 := Lib.hid (And.intro k23 (HA'.out i hlt))
      have HTK := Lib.hid (show (addL qs ts).take (i + 1) = (addL qs ts).take i ++ [qs.getD i 0 + ts.getD i 0] by rw [take_snocQ (by rw [HLL.out]; exact hlt), addL_get HQL.out HTL.out hlt])
      have HLN := Lib.hid (show ((addL qs ts).take i).length + 1 ≤ 1000 by rw [List.length_take]; omega)
      clear hcs hcs' k13 k23
      have KP := Lib.hid (show ∀ W, Below w.heap.size w W → W.cell? ⟨blk, off + i * 3, none⟩ = some (.bool s1) ∧ W.cell? ⟨blk, off + i * 3 + 1, none⟩ = some (.slice b1 n1 c1) ∧ W.cell? ⟨blk, off + i * 3 + 2, none⟩ = some (.int .i64 e1) ∧ W.cell? ⟨blk', off' + i * 3, none⟩ = some (.bool s2) ∧ W.cell? ⟨blk', off' + i * 3 + 1, none⟩ = some (.slice b2 n2 c2) ∧ W.cell? ⟨blk', off' + i * 3 + 2, none⟩ = some (.int .i64 e2) from fun W hb =>
        ⟨(hb.cell (p := ⟨blk, off + i * 3, none⟩) (cell_lt k10)).trans k10, (hb.cell (p := ⟨blk, off + i * 3 + 1, none⟩) (cell_lt k11)).trans k11, (hb.cell (p := ⟨blk, off + i * 3 + 2, none⟩) (cell_lt k12)).trans k12, (hb.cell (p := ⟨blk', off' + i * 3, none⟩) (cell_lt k20)).trans k20, (hb.cell (p := ⟨blk', off' + i * 3 + 1, none⟩) (cell_lt k21)).trans k21, (hb.cell (p := ⟨blk', off' + i * 3 + 2, none⟩) (cell_lt k22)).trans k22⟩)
      clear k10 k11 k12 k20 k21 k22
      have BD := Lib.hid (HI.out.2.drew)
      have OD := Lib.hid (HI.out.1.below (Below.refl _ _).drew)
      have K0 := Lib.hid (KP.out _ BD.out)
      have HM := Lib.hid (fun W (hb : Below w.heap.size w W) => dadd_calls _ _ _ _ A B W (HB1.out.1.below hb) HB1.out.2 (HB2.out.1.below hb) HB2.out.2 hAB)
      go_wp2
      go_region_held3 (fun w' => w'.cell? ⟨blk, off + i * 3, none⟩ = some (.bool s1) ∧ w'.cell? ⟨blk, off + i * 3 + 1, none⟩ = some (.slice b1 n1 c1) ∧ w'.cell? ⟨blk, off + i * 3 + 2, none⟩ = some (.int .i64 e1) ∧ w'.cell? ⟨blk', off' + i * 3, none⟩ = some (.bool s2) ∧ w'.cell? ⟨blk', off' + i * 3 + 1, none⟩ = some (.slice b2 n2 c2) ∧ w'.cell? ⟨blk', off' + i * 3 + 2, none⟩ = some (.int .i64 e2))
        (first
          | with_reducible exact K0.out
          | with_reducible exact K1.out
          | with_reducible exact K2.out
          | with_reducible exact K3.out)
        (first
          | (go_at_call 33; go_must (refine (HM.out _ BD.out).mono ?_; rintro e' w6 ⟨⟨z, rfl, hz⟩, hb⟩; have B6 := Lib.hid (BD.out.trans (hb.mono BD.out.size)); have HZ := Lib.hid hz; have O7 := Lib.hid ((OD.out.below hb)); obtain ⟨zs, zm, ze, ⟨za, zn, zc, rfl, _⟩, _⟩ := hz; have K1 := Lib.hid (KP.out _ B6.out); have B7 := Lib.hid (B6.out.alloc B6.out.size (.cells #[.bool zs, .slice za zn zc, .int .i64 ze] 53)); have K2 := Lib.hid (KP.out _ B7.out); clear hb))
          | (refine step_append_QQ rfl _ _ (by rfl) w.heap.size B _ _ [qs.getD i 0 + ts.getD i 0] (by rfl) (O7.out.below ((Below.refl _ _).alloc (Nat.le_refl _) _)) _ _ _ (by rfl) (dql_new HZ.out rfl) HLN.out B7.out.size ?_; intro v8 w8 hown8 hg8; have B8 := Lib.hid (B7.out.grown hg8 B7.out.size (fun k e => HI.out.1.base k e)); have K3 := Lib.hid (KP.out _ B8.out)))
      replace hown8 := Lib.hid (show OwnQ w8 w.heap.size v8 ((addL qs ts).take (i + 1)) B by rw [HTK.out]; exact hown8)
      clear hg8
      go_wp2
      go_roundw
      case rel => exact ⟨i + 1, by go_num, by omega, hown8.out, B8.out⟩
      case measure => simp [intOf]; omega
    · obtain rfl : i = n := by omega
      have hii : ¬ (i : Int) < (i : Int) := by omega
      go_wp2
      exact bodyPost_ret (v := .tuple #[u6, .bool true]) (by simp [results, Tryz.results12, go_sem]) rfl ⟨⟨_, rfl, by
        have h := HI.out.1
        rwa [List.take_of_length_le (by rw [HLL.out]; exact Nat.le_refl _)] at h⟩, HI.out.2⟩
theorem madeQ_at (n j : Nat) (hj : j < n * 3) : (madeCells #[Value.bool false, .slice none 0 0, .int .i64 0] (n * 3)).toList[j]? = some (#[Value.bool false, Value.slice none 0 0, Value.int .i64 0][j % 3]!) := by
  unfold madeCells
  rw [Array.getElem?_toList, Array.getElem?_map, Array.getElem?_range, if_pos hj]
  rfl
theorem ownQ_zeros (w : World) (n D k : Nat) (hk : k = n * 3) (hn : n ≤ 1000) : OwnQ (w.alloc (.cells (madeCells #[.bool false, .slice none 0 0, .int .i64 0] k) 53)) w.heap.size (.slice (some ⟨w.heap.size, 0, none⟩) n n) (List.replicate n 0) D := by
  subst hk
  refine ⟨(madeCells #[.bool false, .slice none 0 0, .int .i64 0] (n * 3)).toList, ?_, ?_, fun i hi => ?_⟩
  · rw [List.length_replicate]
    refine ⟨by rw [Array.length_toList, size_madeCells], .inr ⟨w.heap.size, n, madeCells #[.bool false, .slice none 0 0, .int .i64 0] (n * 3), rfl, Nat.le_refl _, World.alloc_heap_new w _, Nat.le_refl _, by unfold maxLen; omega, by rw [size_madeCells], ?_⟩⟩
    rw [List.take_of_length_le (by rw [Array.length_toList, size_madeCells]; exact Nat.le_refl _)]
  · intro g hg cur t fr hh u hu x e
    cases hg
    rw [World.alloc_heap_new] at hh
    cases hh
    obtain ⟨j, hj, rfl⟩ := List.getElem_of_mem hu
    have hj2 : j < n * 3 := by simpa [size_madeCells] using hj
    have := madeQ_at n j hj2
    rw [List.getElem?_eq_getElem hj, e] at this
    have hr : j % 3 = 0 ∨ j % 3 = 1 ∨ j % 3 = 2 := by omega
    rcases hr with hr | hr | hr <;> rw [hr] at this <;> simp at this
  · rw [List.length_replicate] at hi
    have e0 : (List.replicate n (0 : Rat)).getD i 0 = 0 := by
      rw [List.getD_eq_getElem?_getD, List.getElem?_replicate]; split <;> rfl
    rw [e0]
    refine ⟨false, none, 0, 0, 0, ?_, ?_, ?_, dq_zero _ _⟩
    · rw [madeQ_at n _ (by omega), show i * 3 % 3 = 0 by omega]; rfl
    · rw [madeQ_at n _ (by omega), show (i * 3 + 1) % 3 = 1 by omega]; rfl
    · rw [madeQ_at n _ (by omega), show (i * 3 + 2) % 3 = 2 by omega]; rfl
set_option maxRecDepth 100000 in
set_option maxHeartbeats 1000000 in
theorem gzero_calls (c : Nat) (w : World) (D : Nat) (h1 : 1 ≤ c) (h6 : c ≤ 6) :
    Calls Tryz.prog 40 #[.int .i64 (c : Int)] w fun e w' => (∃ v, e = .returned v ∧ OwnQ w' w.heap.size v (List.replicate (tsz c) 0) D) ∧ Below w.heap.size w w' := by
  obtain ⟨k, hk⟩ : ∃ k, tsz c = k := ⟨_, rfl⟩
  have hb := tsz_bounds h1 h6
  have SZ := Lib.hid (rsizeI_calls (c : Int))
  rw [show sizeI (c : Int) = (k : Int) by unfold sizeI; rw [if_pos ⟨by omega, by omega⟩, Int.toNat_natCast, hk]] at SZ
  rw [hk] at hb ⊢
  clear hk
  obtain ⟨i0, hin, hz0, hz1, hz2⟩ := info_parts infoQ
  have hmk := fun W => run_make (P := Tryz.prog) W 32 53 i0 _ Tryz.underlying32 hin hz0 .i64 .i64 k k (by omega) (by omega) (by rw [hz2]; omega) (by omega)
  rw [show ((k : Int)).toNat = k from Int.toNat_natCast k] at hmk
  have HZ := Lib.hid (ownQ_zeros w k D (k * i0.size) (by rw [hz1]) (by omega))
  clear hin hz0 hz1 hz2
  go_enter Tryz.func40, Tryz.ntmps40
  go_wp2_with (go_at_call 20; go_must (refine (SZ.out _).mono ?_; rintro e w1 ⟨rfl, rfl⟩))
  go_ret
  exact ⟨⟨_, rfl, HZ.out⟩, (Below.refl _ _).alloc (Nat.le_refl _) _⟩
end Go.Proofs.YtmmligbkecilfaaGreatDoor
