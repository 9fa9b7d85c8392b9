/- The statement PlanCounts, walked. -/
import Derived.Test.YtgmaljikjkbdlaaYu
import Derived.Test.YtgmaljikjkbdlaaLdP
import Derived.Maps.AppendAt
namespace Go.Proofs.Ytgmaljikjkbdlaa
open Go.RowKit Lv Go.Shelf
open Ieee (double Format Datum Toward)
attribute [local go_sem] Oper.semAt_some run_store_float drewN_alloc drewN_setCell
attribute [local go_sem ↓] Go.wp_at_zero Go.wp_at_succ

theorem wpList_append_I2 (w : World) {ops : Array Oper} {rest : List Oper} {o : Oper} {a : Act} {Q : Exit → Act → World → Prop}
    (hg : o.guard = none) (s x : Operand) (hop : o.op = Op.call { callee := Callee.builtin Builtin.append, args := #[s, x], argTypes := #[22, 22] })
    (B : Nat) (v : Value) (xs : List Int) (y : Int) (hs : a.eval s = v) (hown : OwnI w B v xs) (ad : Addr) (c : Nat) (hx : a.eval x = .slice (some ad) 1 c) (hy : LI w (.slice (some ad) 1 c) [y])
    (b1 : xs.length + 1 ≤ 1000) (b3 : B ≤ w.heap.size)
    (hK : ∀ v' w', OwnI w' B v' (xs ++ [y]) → w.grownBy w' v.ownBlock → (v'.ownBlock = v.ownBlock ∨ v'.ownBlock = some w.heap.size) → wpList Try.prog ops Q rest (a.put o.dst v') w') :
    wpList Try.prog ops Q (o :: rest) a w := by
  obtain ⟨i0, hin, hz0, hz1, hz2⟩ := info_parts infoI
  have hcl : w.ownsRow B 3 1 v (xs.map (Value.int .i64)).length (xs.map (Value.int .i64)) := hown
  rw [List.length_map] at hcl
  refine wpList_append_own_at w hg s x _ hop B 3 i0 _ 1 8 Try.underlying22 hin hz0 hz1 hz2 rfl (by decide) v xs.length (xs.map (Value.int .i64)) hs hcl ad 1 c [.int .i64 y] hx rfl ?_ (fun u hu => by rw [List.mem_singleton.1 hu]; rfl) (by unfold maxLen; omega) (by omega) b3 ?_
  · intro j u hu
    have hj : j = 0 := by have := (List.getElem?_eq_some_iff.1 hu).1; simp at this; omega
    subst hj
    cases hu
    obtain ⟨blk, off, e, hc⟩ := LI.at hy (by omega)
    cases e
    exact hc 0 (by omega)
  · intro v' w' h1 h2 _ h4
    refine hK v' w' ?_ h2 h4
    show w'.ownsRow B 3 1 v' ((xs ++ [y]).map (Value.int .i64)).length ((xs ++ [y]).map (Value.int .i64))
    rw [List.length_map, List.length_append, List.map_append]; exact h1
theorem OwnI.grown {w w' : World} {B : Nat} {v : Value} {zs : List Int} {row : Option Nat} (h : OwnI w B v zs) (hg : w.grownBy w' row) (hne : ∀ k, v.ownBlock = some k → some k ≠ row) : OwnI w' B v zs := by
  have hown : w.ownsRow B 3 1 v (zs.map (Value.int .i64)).length (zs.map (Value.int .i64)) := h
  refine ⟨hown.1, ?_⟩
  rcases hown.2 with h0 | ⟨g, cap, cur, h1, h2, h3, h4⟩
  · exact .inl h0
  · have hlt : g < w.heap.size := (Array.getElem?_eq_some_iff.1 h3).1
    exact .inr ⟨g, cap, cur, h1, h2, by rw [hg.block g hlt (hne g (by rw [h1]; rfl))]; exact h3, h4⟩
theorem OwnI.lt {w : World} {B : Nat} {v : Value} {zs : List Int} (h : OwnI w B v zs) : ∀ g, v.ownBlock = some g → B ≤ g ∧ g < w.heap.size := owns_lt h

/-- what stands at the loop's head -/
structure QInv (w : World) (Fs : List FacD) (C : Int) (W : World) (i : Nat) (v5 v6 : Value) : Prop where
  o5 : OwnI W w.heap.size v5 ((Fs.take i).map FacD.rws)
  o6 : OwnI W w.heap.size v6 ((Fs.take i).map FacD.trn)
  ap : ∀ k, v5.ownBlock = some k → v6.ownBlock ≠ some k
  b2 : Below w.heap.size w W
  all : ∀ j, j < i → (Fs.getD j fac0).ok = true ∧ (Fs.getD j fac0).cols = C
theorem few_len' {Fs : List FacD} {k : Nat} (h : fewF Fs k = true) : Fs.length ≤ k := by
  unfold fewF at h
  simp only [Bool.and_eq_true, decide_eq_true_eq] at h
  exact h.1
theorem wpOp_do {ops : Array Oper} {Q : Exit → Act → World → Prop} {i : Nat} {o : Oper} {K : Act → World → Prop} {a : Act} {w : World} (hi : ops[i]? = some o) (hw : Region.wanted o (yielded ops a.tmps) = true) (h : Oper.wp Try.prog o a w K Q) : wpOp Try.prog ops Q i K a w := by
  unfold wpOp
  simp only [hi, hw, if_true]
  exact .inl h
theorem takeF_snoc {Fs : List FacD} {i : Nat} (hi : i < Fs.length) : Fs.take (i + 1) = Fs.take i ++ [Fs.getD i fac0] := by
  rw [List.take_succ_eq_append_getElem hi, List.getD_eq_getElem?_getD, List.getElem?_eq_getElem hi]; rfl
set_option maxRecDepth 100000 in
set_option maxHeartbeats 4000000 in
theorem planCounts_walk (w : World) (l : List Int) (a : Option Addr) (n cap : Nat) (hl : LI w (.slice a n cap) l) (Fs : List FacD) (t : Option Addr) (tn tc : Nat) (hs : Fcs w (.slice t tn tc) Fs) :
    Calls Try.prog 6 #[.slice a n cap, .slice t tn tc] w fun e w' => e = .returned (.bool true) ∧ Below w.heap.size w w' := by
  obtain ⟨l1, l2, l3⟩ := hl.len
  obtain ⟨s1, s2, s3⟩ := hs.len
  have H := Lib.hid hl
  have HS := Lib.hid hs
  have HF := Lib.hid (rfew_calls t tn tc 8 Fs w hs)
  by_cases c1 : 30 < n
  · have h1 : (30 : Int) < (n : Int) := by omega
    clear hl hs l1 s1
    go_enter Try.func6, Try.ntmps6
    go_wp2_with (first | (go_at_call 8; refine (live14_calls _).mono ?_; rintro e w1 ⟨rfl, hb⟩))
    go_ret
    exact ⟨rfl, hb⟩
  · have h1 : ¬ (30 : Int) < (n : Int) := by omega
    have HL := Lib.hid (show l.length ≤ 100 by omega)
    cases hf : fewF Fs 8
    · rw [hf] at HF
      clear hl hs l1 s1 hf
      go_enter Try.func6, Try.ntmps6
      go_wp2_with (first | (go_at_call 22; refine HF.out.mono ?_; rintro e w1 ⟨rfl, rfl⟩) | (go_at_call 8; refine (live14_calls _).mono ?_; rintro e w1 ⟨rfl, hb⟩))
      go_ret
      exact ⟨rfl, hb⟩
    · rw [hf] at HF
      have h8 := few_len' hf
      by_cases c2 : tn = 0
      · have h2 : ((tn : Int) == 0) = true := by simp; omega
        clear hl hs l1 s1 hf c2
        go_enter Try.func6, Try.ntmps6
        go_wp2_with (first | (go_at_call 22; refine HF.out.mono ?_; rintro e w1 ⟨rfl, rfl⟩) | (go_at_call 8; refine (live14_calls _).mono ?_; rintro e w1 ⟨rfl, hb⟩))
        go_ret
        exact ⟨rfl, hb⟩
      · have h2 : ((tn : Int) == 0) = false := by simp; omega
        obtain ⟨blk, off, rfl, hc⟩ := hs.at (by omega)
        obtain ⟨b0, m0, d0, y0, _⟩ := hc 0 (by omega)
        rw [Nat.zero_mul] at y0
        have HC := Lib.hid hc
        obtain ⟨C, hC⟩ : ∃ C, (Fs.getD 0 fac0).cols = C := ⟨_, rfl⟩
        rw [hC] at y0
        have hz : (0 : Int) < (tn : Int) := by omega
        have hz' : 0 < tn := by omega
        simp only [Nat.add_zero] at y0
        have H8 := Lib.hid (And.intro s1 h8)
        clear hl hs l1 s1 hf hc hC h8
        go_enter Try.func6, Try.ntmps6
        go_wp2_with (first | (go_at_call 22; refine HF.out.mono ?_; rintro e w1 ⟨rfl, rfl⟩))
        go_loopw [5, 6, 7] (fun s5 s6 s7 wr => ∃ i : Nat, s7 = .int .i64 (i : Int) ∧ i ≤ tn ∧ QInv w Fs C wr i s5 s6) (fun _ _ s7 _ => tn - (intOf s7).toNat)
        case atStart => exact ⟨0, rfl, Nat.zero_le _, ⟨ownI_nil _ _, ownI_nil _ _, (fun k hk => nomatch hk), Below.refl _ _, fun j hj => absurd hj (Nat.not_lt_zero _)⟩⟩
        case round =>
          obtain ⟨i, rfl, hi, I⟩ := hrel
          have HI := Lib.hid I
          have hs1 := I.b2.size
          clear I
          by_cases hlt : i < tn
          · have hii : (i : Int) < (tn : Int) := by omega
            obtain ⟨b, m, d, k1, k2, k3, k4, k5⟩ := HC.out i hlt
            have HK5 := Lib.hid k5
            have CA := fun W (hW : Row W (.slice b m d) (Fs.getD i fac0).xs) => rcheck_calls (Fs.getD i fac0).cols (Fs.getD i fac0).rws (Fs.getD i fac0).trn b m d (Fs.getD i fac0).xs W hW
            have HG := Lib.hid (show ∃ G, Fs.getD i fac0 = G from ⟨_, rfl⟩)
            have HTK := Lib.hid (takeF_snoc (Fs := Fs) (i := i) (by rw [H8.out.1]; exact hlt))
            have HALL := Lib.hid (fun (h : (Fs.getD i fac0).ok = true ∧ (Fs.getD i fac0).cols = C) => show ∀ j, j < i + 1 → (Fs.getD j fac0).ok = true ∧ (Fs.getD j fac0).cols = C from fun j hj => by
              rcases Nat.lt_or_ge j i with hji | hji
              · exact HI.out.all j hji
              · obtain rfl : j = i := by omega
                exact h)
            clear k5
            generalize Fs.getD i fac0 = F at *
            obtain ⟨fc, fx, fr, ft⟩ := F
            dsimp only at *
            have KEEP := Lib.hid (fun (W : World) (hb : Below w.heap.size w W) => (show W.cell? ⟨blk, off + i * 4, none⟩ = some (.int .i64 fc) ∧ W.cell? ⟨blk, off + i * 4 + 1, none⟩ = some (.slice b m d) ∧ W.cell? ⟨blk, off + i * 4 + 2, none⟩ = some (.int .i64 fr) ∧ W.cell? ⟨blk, off + i * 4 + 3, none⟩ = some (.int .i64 ft) ∧ W.cell? ⟨blk, off, none⟩ = some (.int .i64 C) from
              ⟨(hb.cell (p := ⟨blk, off + i * 4, none⟩) (cell_lt k1)).trans k1, (hb.cell (p := ⟨blk, off + i * 4 + 1, none⟩) (cell_lt k2)).trans k2, (hb.cell (p := ⟨blk, off + i * 4 + 2, none⟩) (cell_lt k3)).trans k3, (hb.cell (p := ⟨blk, off + i * 4 + 3, none⟩) (cell_lt k4)).trans k4, (hb.cell (p := ⟨blk, off, none⟩) (cell_lt y0)).trans y0⟩))
            have HbD := Lib.hid (HI.out.b2.trans ((Below.refl wr.heap.size wr).drew.mono hs1))
            have hi0 : (0 : Int) ≤ (i : Int) := by omega
            cases hk : checkP fc fx fr ft with
            | false =>
              rw [hk] at CA
              have CA2 := Lib.hid CA
              clear CA hk
              go_wp2
              obtain ⟨k1', k2', k3', k4', y0'⟩ := KEEP.out _ HbD.out
              refine wp_region_noPanic (wp_region_any (by kernel_rfl) ?_)
              refine wpAny_take (i := 0) (v := .slice (some ⟨blk, off, none⟩) tn tc) rfl (by kernel_rfl) (by kernel_rfl) (by kernel_rfl) (fun _ _ _ h => False.elim h) (.inl ⟨rfl, fun _ => rfl⟩) ?_
              refine wpAny_take (i := 1) (v := .int .i64 (i : Int)) rfl (by kernel_rfl) (by kernel_rfl) (by kernel_rfl) (fun _ _ _ h => False.elim h) (.inl ⟨rfl, fun _ => rfl⟩) ?_
              refine wpAny_take (i := 2) (v := .pointer (some ⟨blk, off + i * 4, none⟩)) rfl (by kernel_rfl) (by kernel_rfl) (by kernel_rfl) (fun _ _ _ h => False.elim h) (.inl ⟨rfl, fun W => by go_simp⟩) ?_
              refine wpAny_all (rs := [3]) (by kernel_rfl) (by simp) (fun jj hjj => ?_)
              obtain rfl := List.mem_singleton.1 hjj
              refine wpOp_do rfl rfl ?_
              unfold Oper.wp
              go_simp
              refine wpAny_all (rs := [4]) (by kernel_rfl) (by simp) (fun jj hjj => ?_)
              obtain rfl := List.mem_singleton.1 hjj
              refine wpOp_do rfl rfl ?_
              unfold Oper.wp
              go_simp
              refine (CA2.out _ (HK5.out.below HbD.out)).mono ?_
              rintro e w3 ⟨rfl, hb3⟩
              have BV := Lib.hid (HbD.out.trans (hb3.mono HbD.out.size))
              dsimp only
              refine wpAny_take (i := 5) (v := .bool true) rfl (by kernel_rfl) (by kernel_rfl) (by kernel_rfl) (fun _ _ _ h => False.elim h) (.inl ⟨rfl, fun _ => rfl⟩) ?_
              refine wpAny_take (i := 6) (v := .bool true) rfl (by kernel_rfl) (by kernel_rfl) (by kernel_rfl) (fun _ _ _ h => False.elim h) (.inl ⟨rfl, fun _ => rfl⟩) ?_
              refine wpAny_take (i := 7) (v := undef) rfl (by kernel_rfl) (by kernel_rfl) (by kernel_rfl) (fun _ _ _ h => False.elim h) (.inr ⟨by kernel_rfl, rfl⟩) ?_
              refine wpAny_take (i := 8) (v := undef) rfl (by kernel_rfl) (by kernel_rfl) (by kernel_rfl) (fun _ _ _ h => False.elim h) (.inr ⟨by kernel_rfl, rfl⟩) ?_
              refine wpAny_take (i := 9) (v := undef) rfl (by kernel_rfl) (by kernel_rfl) (by kernel_rfl) (fun _ _ _ h => False.elim h) (.inr ⟨by kernel_rfl, rfl⟩) ?_
              refine wpAny_take (i := 10) (v := undef) rfl (by kernel_rfl) (by kernel_rfl) (by kernel_rfl) (fun _ _ _ h => False.elim h) (.inr ⟨by kernel_rfl, rfl⟩) ?_
              refine wpAny_take (i := 11) (v := undef) rfl (by kernel_rfl) (by kernel_rfl) (by kernel_rfl) (fun _ _ _ h => False.elim h) (.inr ⟨by kernel_rfl, rfl⟩) ?_
              refine wpAny_take (i := 12) (v := undef) rfl (by kernel_rfl) (by kernel_rfl) (by kernel_rfl) (fun _ _ _ h => False.elim h) (.inr ⟨by kernel_rfl, rfl⟩) ?_
              refine wpAny_take (i := 13) (v := undef) rfl (by kernel_rfl) (by kernel_rfl) (by kernel_rfl) (fun _ _ _ h => False.elim h) (.inr ⟨by kernel_rfl, rfl⟩) ?_
              refine wpAny_take (i := 14) (v := undef) rfl (by kernel_rfl) (by kernel_rfl) (by kernel_rfl) (fun _ _ _ h => False.elim h) (.inr ⟨by kernel_rfl, rfl⟩) ?_
              refine wpAny_take (i := 15) (v := undef) rfl (by kernel_rfl) (by kernel_rfl) (by kernel_rfl) (fun _ _ _ h => False.elim h) (.inr ⟨by kernel_rfl, rfl⟩) ?_
              refine wpAny_take (i := 16) (v := undef) rfl (by kernel_rfl) (by kernel_rfl) (by kernel_rfl) (fun _ _ _ h => False.elim h) (.inr ⟨by kernel_rfl, rfl⟩) ?_
              refine wpAny_take (i := 17) (v := .bool true) rfl (by kernel_rfl) (by kernel_rfl) (by kernel_rfl) (fun _ _ _ h => False.elim h) (.inl ⟨by kernel_rfl, fun _ => by kernel_rfl⟩) ?_
              refine wpAny_done (by kernel_rfl) ?_ _
              clear k1 k2 k3 k4 k1' k2' k3' k4' y0 y0'
              refine NoPanic.normal ?_
              simp only [List.getElem_toArray, List.getElem_cons_succ, List.getElem_cons_zero, Act.put, List.setIfInBounds_toArray, List.set_cons_zero, List.set_cons_succ]
              go_simp
              go_wp2_with (first | (go_at_call 8; refine (live14_calls _).mono ?_; rintro e w6 ⟨rfl, hb6⟩))
              go_ret
              exact ⟨rfl, BV.out.trans (hb6.mono BV.out.size)⟩
            | true =>
              rw [hk] at CA
              have CA2 := Lib.hid CA
              have HOKF := Lib.hid hk
              clear CA
              have BRD := Lib.hid (show Below wr.heap.size wr wr.drew from (Below.refl _ _).drew)
              have HLTI := Lib.hid hlt
              by_cases hfc : fc = C
              · have hfe : (fc != C) = false := by simp [hfc]
                have HA2 := Lib.hid (HALL.out ⟨hk, hfc⟩)
                have hl5 := Lib.hid (show ((Fs.take i).map FacD.rws).length + 1 ≤ 1000 by rw [List.length_map, List.length_take]; have := H8.out.2; omega)
                have hl6 := Lib.hid (show ((Fs.take i).map FacD.trn).length + 1 ≤ 1000 by rw [List.length_map, List.length_take]; have := H8.out.2; omega)
                clear hk hfc
                go_wp2
                go_region_held3 (fun w' => w'.cell? ⟨blk, off + i * 4, none⟩ = some (.int .i64 fc) ∧ w'.cell? ⟨blk, off + i * 4 + 1, none⟩ = some (.slice b m d) ∧ w'.cell? ⟨blk, off + i * 4 + 2, none⟩ = some (.int .i64 fr) ∧ w'.cell? ⟨blk, off + i * 4 + 3, none⟩ = some (.int .i64 ft) ∧ w'.cell? ⟨blk, off, none⟩ = some (.int .i64 C))
                  (first
                  | with_reducible exact KEEP.out _ HbD.out
                  | with_reducible exact KEEP.out _ BV.out
                  | go_keep)
                  (first | (go_at_call 28; go_must (refine (CA2.out _ (HK5.out.below HbD.out)).mono ?_; rintro e w3 ⟨rfl, hb3⟩; have BV := Lib.hid (HbD.out.trans (hb3.mono HbD.out.size)); have BR := Lib.hid (BRD.out.trans (hb3.mono (by simp))); clear hb3)))
                all_goals
                  have z3 := BR.out.size
                  go_wp2_with (first
                    | (at_builtin; refine wpList_append_I2 _ rfl _ _ rfl w.heap.size _ ((Fs.take i).map FacD.trn) ft rfl (O6.out.below ((Below.refl _ _).alloc (Nat.le_refl _) _) (Nat.le_refl _)) _ _ rfl (li_one _ _) hl6.out (by have := B5.out.size; simp; omega) ?_; intro v8 w8 hown8 hg8 hx8)
                    | (at_builtin; go_must (refine wpList_append_I2 _ rfl _ _ rfl w.heap.size _ ((Fs.take i).map FacD.rws) fr rfl ((HI.out.o5.below BR.out (Nat.le_refl _)).below ((Below.refl _ _).alloc (Nat.le_refl _) _) (Nat.le_refl _)) _ _ rfl (li_one _ _) hl5.out (by have := BV.out.size; simp; omega) ?_; intro v7 w7 hown7 hg7 hx7; have O5 := Lib.hid hown7; have X7 := Lib.hid hx7; have O6 := Lib.hid (((HI.out.o6.below BR.out (Nat.le_refl _)).below ((Below.refl _ _).alloc (Nat.le_refl _) (.cells #[.int .i64 fr] 3)) (Nat.le_refl _)).grown hg7 (fun k hk e => HI.out.ap k e.symm hk)); have B5 := Lib.hid ((BV.out.alloc BV.out.size (.cells #[.int .i64 fr] 3)).grown hg7 (by have := BV.out.size; simp; omega) (fun e he => HI.out.o5.base e he)); have Z7 := Lib.hid hg7.size; obtain ⟨_, _, _, t4, _⟩ := KEEP.out _ B5.out; clear hown7 hx7)))
                  have hne : ∀ k, v7.ownBlock = some k → u6.ownBlock ≠ some k := by
                    intro k hk he
                    have h1 := (HI.out.o6.lt k he).2
                    rcases X7.out with h | h
                    · rw [h] at hk; exact HI.out.ap k hk he
                    · rw [hk] at h
                      have h := Option.some.inj h
                      simp at h
                      omega
                  have O7 := (O5.out.below ((Below.refl _ _).alloc (Nat.le_refl _) (.cells #[.int .i64 ft] 3)) (Nat.le_refl _)).grown hg8 (fun k hk e => hne k hk e.symm)
                  have B8 : Below w.heap.size w w8 := (B5.out.alloc B5.out.size (.cells #[.int .i64 ft] 3)).grown hg8 (by have := B5.out.size; simp; omega) (fun e he => HI.out.o6.base e he)
                  go_roundw
                  case rel =>
                    refine ⟨i + 1, by go_num, HLTI.out, ⟨?_, ?_, ?_, B8, HA2.out⟩⟩
                    · rw [HTK.out, List.map_append]; exact O7
                    · rw [HTK.out, List.map_append]; exact hown8
                    · intro k hk he
                      rcases hx8 with h | h
                      · rw [h] at he; exact hne k hk he
                      · rw [he] at h
                        have h := Option.some.inj h
                        have h1 := (O5.out.lt k hk).2
                        simp at h
                        omega
                  case measure => simp [intOf]; omega
              · have hfe : (fc != C) = true := bne_iff_ne.2 hfc
                clear hk hfc
                go_wp2
                go_region_held3 (fun w' => w'.cell? ⟨blk, off + i * 4, none⟩ = some (.int .i64 fc) ∧ w'.cell? ⟨blk, off + i * 4 + 1, none⟩ = some (.slice b m d) ∧ w'.cell? ⟨blk, off + i * 4 + 2, none⟩ = some (.int .i64 fr) ∧ w'.cell? ⟨blk, off + i * 4 + 3, none⟩ = some (.int .i64 ft) ∧ w'.cell? ⟨blk, off, none⟩ = some (.int .i64 C))
                  (first
                  | with_reducible exact KEEP.out _ HbD.out
                  | with_reducible exact KEEP.out _ BV.out
                  | go_keep)
                  (first | (go_at_call 28; go_must (refine (CA2.out _ (HK5.out.below HbD.out)).mono ?_; rintro e w3 ⟨rfl, hb3⟩; have BV := Lib.hid (HbD.out.trans (hb3.mono HbD.out.size)); clear hb3)))
                all_goals
                  go_wp2_with (first | (go_at_call 8; refine (live14_calls _).mono ?_; rintro e w6 ⟨rfl, hb6⟩))
                  go_ret
                  exact ⟨rfl, BV.out.trans (hb6.mono BV.out.size)⟩
          · have hii : ¬ (i : Int) < (tn : Int) := by omega
            obtain rfl : i = tn := by omega
            have T5 := HI.out.o5
            have T6 := HI.out.o6
            rw [List.take_of_length_le (by rw [H8.out.1]; exact Nat.le_refl _)] at T5 T6
            have hRC := run_counts (l := l) (Fs := Fs) (C := C) (by rw [H8.out.1]; omega) (fun j hj => HI.out.all j (by rw [← H8.out.1]; exact hj))
            have A1 := Lib.hid (fun W h h' => prun_calls l a n cap Fs (some ⟨blk, off, none⟩) i tc W h HL.out h')
            have A3 := Lib.hid (fun W h (r1 r2 : Option Addr) (m1 d1 m2 d2 : Nat) h' h'' => pcounts_calls l a n cap C (Fs.map FacD.rws) (Fs.map FacD.trn) r1 r2 m1 d1 m2 d2 W h HL.out h' h'')
            obtain ⟨ra, rc, hv5⟩ := T5.li.form
            obtain ⟨sa, sc, hv6⟩ := T6.li.form
            subst hv5
            subst hv6
            have V5 := Lib.hid T5.li
            have V6 := Lib.hid T6.li
            rw [List.length_map] at V5 V6
            rw [List.length_map, List.length_map]
            have y0w := (HI.out.b2.cell (p := ⟨blk, off, none⟩) (cell_lt y0)).trans y0
            have HIB := Lib.hid HI.out.b2
            have HCR := Lib.hid hRC
            clear HI T5 T6 hRC
            obtain ⟨G, hG⟩ : ∃ G, runD l Fs = G := ⟨_, rfl⟩
            obtain ⟨D, hD⟩ : ∃ D, countsD l C (Fs.map FacD.rws) (Fs.map FacD.trn) = D := ⟨_, rfl⟩
            rw [hG] at A1 HCR
            rw [hD] at A3 HCR
            clear hG hD
            generalize Fs.length = z at *
            obtain ⟨G, ge⟩ := G
            obtain ⟨⟨e1, e2⟩, e3⟩ := D
            have E0 := Lib.hid (show LI wr (Value.slice a n cap) l ∧ Fcs wr (Value.slice (some { block := blk, off := off }) i tc) Fs from ⟨H.out.below HIB.out, HS.out.below HIB.out⟩)
            by_cases hg : ge = 0
            · subst hg
              have hcc : ((e1, e2), e3) = ((G.rws, G.trn), (0 : Int)) := by have := HCR.out; unfold CntRel at this; rwa [if_pos rfl] at this
              simp only [Prod.mk.injEq] at hcc
              obtain ⟨⟨rfl, rfl⟩, rfl⟩ := hcc
              have q1 : (G.rws == G.rws) = true := by simp
              have q2 : (G.trn == G.trn) = true := by simp
              go_wp2_with (first
                | (go_at_call 23; go_must (refine (A1.out _ E0.out.1 E0.out.2).mono ?_; rintro e w1 ⟨⟨ga, gn, gcp, rfl, hr1⟩, hb1⟩; have B1 := Lib.hid (HIB.out.trans (hb1.mono HIB.out.size)); have B1r := Lib.hid hb1; have y1 := (B1.out.cell (p := ⟨blk, off, none⟩) (cell_lt y0)).trans y0; have y2 := (((Below.refl _ _).alloc (Nat.le_refl _) (.cells #[.int .i64 G.cols, .slice ga gn gcp, .int .i64 G.rws, .int .i64 G.trn] 36)).cell (p := ⟨blk, off, none⟩) (cell_lt y1)).trans y1; clear hr1 hb1))
                | (go_at_call 25; go_must (refine (A3.out _ ((H.out.below B1.out).below ((Below.refl _ _).alloc (Nat.le_refl _) _)) _ _ _ _ _ _ ((V5.out.below B1r.out).below ((Below.refl _ _).alloc (Nat.le_refl _) _)) ((V6.out.below B1r.out).below ((Below.refl _ _).alloc (Nat.le_refl _) _))).mono ?_; rintro e w3 ⟨rfl, hb3⟩; have B3 := Lib.hid ((B1.out.alloc B1.out.size (.cells #[.int .i64 G.cols, .slice ga gn gcp, .int .i64 G.rws, .int .i64 G.trn] 36)).trans (hb3.mono (by have := B1.out.size; simp; omega))); have D8 := (Cells4.new w1 (.int .i64 G.cols) (.slice ga gn gcp) (.int .i64 G.rws) (.int .i64 G.trn) 36).below hb3; obtain ⟨m0, m1, m2, m3, _, _, _, _⟩ := D8; clear hb3))
                | (go_at_call 8; refine (live14_calls _).mono ?_; rintro e w6 ⟨rfl, hb6⟩))
              go_ret
              exact ⟨rfl, B3.out.trans (hb6.mono B3.out.size)⟩
            · have hcc := HCR.out
              unfold CntRel at hcc
              rw [if_neg hg] at hcc
              obtain ⟨hc1, hc2⟩ := hcc
              dsimp only at hc1 hc2
              have q0 : (ge == 0) = false := by simpa using hg
              by_cases h3 : e3 = 0
              · subst h3
                have q3 : ge = 2 := hc2.resolve_right hg
                subst q3
                clear hc1 hc2 hg
                go_wp2_with (first
                  | (go_at_call 23; go_must (refine (A1.out _ E0.out.1 E0.out.2).mono ?_; rintro e w1 ⟨⟨ga, gn, gcp, rfl, hr1⟩, hb1⟩; have B1 := Lib.hid (HIB.out.trans (hb1.mono HIB.out.size)); have B1r := Lib.hid hb1; have y1 := (B1.out.cell (p := ⟨blk, off, none⟩) (cell_lt y0)).trans y0; have y2 := (((Below.refl _ _).alloc (Nat.le_refl _) (.cells #[.int .i64 G.cols, .slice ga gn gcp, .int .i64 G.rws, .int .i64 G.trn] 36)).cell (p := ⟨blk, off, none⟩) (cell_lt y1)).trans y1; clear hr1 hb1))
                  | (go_at_call 25; go_must (refine (A3.out _ ((H.out.below B1.out).below ((Below.refl _ _).alloc (Nat.le_refl _) _)) _ _ _ _ _ _ ((V5.out.below B1r.out).below ((Below.refl _ _).alloc (Nat.le_refl _) _)) ((V6.out.below B1r.out).below ((Below.refl _ _).alloc (Nat.le_refl _) _))).mono ?_; rintro e w3 ⟨rfl, hb3⟩; have B3 := Lib.hid ((B1.out.alloc B1.out.size (.cells #[.int .i64 G.cols, .slice ga gn gcp, .int .i64 G.rws, .int .i64 G.trn] 36)).trans (hb3.mono (by have := B1.out.size; simp; omega))); have D8 := (Cells4.new w1 (.int .i64 G.cols) (.slice ga gn gcp) (.int .i64 G.rws) (.int .i64 G.trn) 36).below hb3; obtain ⟨m0, m1, m2, m3, _, _, _, _⟩ := D8; clear hb3))
                  | (go_at_call 8; refine (live14_calls _).mono ?_; rintro e w6 ⟨rfl, hb6⟩))
                go_ret
                exact ⟨rfl, B3.out.trans (hb6.mono B3.out.size)⟩
              · have hc1 := hc1 h3
                simp only [Prod.mk.injEq] at hc1
                obtain ⟨rfl, rfl⟩ := hc1
                have q3 : (e3 != 0) = true := bne_iff_ne.2 h3
                rcases hc2 with rfl | rfl
                · clear hg h3
                  go_wp2_with (first
                    | (go_at_call 23; go_must (refine (A1.out _ E0.out.1 E0.out.2).mono ?_; rintro e w1 ⟨⟨ga, gn, gcp, rfl, hr1⟩, hb1⟩; have B1 := Lib.hid (HIB.out.trans (hb1.mono HIB.out.size)); have B1r := Lib.hid hb1; have y1 := (B1.out.cell (p := ⟨blk, off, none⟩) (cell_lt y0)).trans y0; have y2 := (((Below.refl _ _).alloc (Nat.le_refl _) (.cells #[.int .i64 G.cols, .slice ga gn gcp, .int .i64 G.rws, .int .i64 G.trn] 36)).cell (p := ⟨blk, off, none⟩) (cell_lt y1)).trans y1; clear hr1 hb1))
                    | (go_at_call 25; go_must (refine (A3.out _ ((H.out.below B1.out).below ((Below.refl _ _).alloc (Nat.le_refl _) _)) _ _ _ _ _ _ ((V5.out.below B1r.out).below ((Below.refl _ _).alloc (Nat.le_refl _) _)) ((V6.out.below B1r.out).below ((Below.refl _ _).alloc (Nat.le_refl _) _))).mono ?_; rintro e w3 ⟨rfl, hb3⟩; have B3 := Lib.hid ((B1.out.alloc B1.out.size (.cells #[.int .i64 G.cols, .slice ga gn gcp, .int .i64 G.rws, .int .i64 G.trn] 36)).trans (hb3.mono (by have := B1.out.size; simp; omega))); have D8 := (Cells4.new w1 (.int .i64 G.cols) (.slice ga gn gcp) (.int .i64 G.rws) (.int .i64 G.trn) 36).below hb3; obtain ⟨m0, m1, m2, m3, _, _, _, _⟩ := D8; clear hb3))
                    | (go_at_call 8; refine (live14_calls _).mono ?_; rintro e w6 ⟨rfl, hb6⟩))
                  go_ret
                  exact ⟨rfl, B3.out.trans (hb6.mono B3.out.size)⟩
                · have q4 : (ge == ge) = true := by simp
                  clear hg h3
                  go_wp2_with (first
                    | (go_at_call 23; go_must (refine (A1.out _ E0.out.1 E0.out.2).mono ?_; rintro e w1 ⟨⟨ga, gn, gcp, rfl, hr1⟩, hb1⟩; have B1 := Lib.hid (HIB.out.trans (hb1.mono HIB.out.size)); have B1r := Lib.hid hb1; have y1 := (B1.out.cell (p := ⟨blk, off, none⟩) (cell_lt y0)).trans y0; have y2 := (((Below.refl _ _).alloc (Nat.le_refl _) (.cells #[.int .i64 G.cols, .slice ga gn gcp, .int .i64 G.rws, .int .i64 G.trn] 36)).cell (p := ⟨blk, off, none⟩) (cell_lt y1)).trans y1; clear hr1 hb1))
                    | (go_at_call 25; go_must (refine (A3.out _ ((H.out.below B1.out).below ((Below.refl _ _).alloc (Nat.le_refl _) _)) _ _ _ _ _ _ ((V5.out.below B1r.out).below ((Below.refl _ _).alloc (Nat.le_refl _) _)) ((V6.out.below B1r.out).below ((Below.refl _ _).alloc (Nat.le_refl _) _))).mono ?_; rintro e w3 ⟨rfl, hb3⟩; have B3 := Lib.hid ((B1.out.alloc B1.out.size (.cells #[.int .i64 G.cols, .slice ga gn gcp, .int .i64 G.rws, .int .i64 G.trn] 36)).trans (hb3.mono (by have := B1.out.size; simp; omega))); have D8 := (Cells4.new w1 (.int .i64 G.cols) (.slice ga gn gcp) (.int .i64 G.rws) (.int .i64 G.trn) 36).below hb3; obtain ⟨m0, m1, m2, m3, _, _, _, _⟩ := D8; clear hb3))
                    | (go_at_call 8; refine (live14_calls _).mono ?_; rintro e w6 ⟨rfl, hb6⟩))
                  all_goals
                    go_ret
                    exact ⟨rfl, B3.out.trans (hb6.mono B3.out.size)⟩
end Go.Proofs.Ytgmaljikjkbdlaa
