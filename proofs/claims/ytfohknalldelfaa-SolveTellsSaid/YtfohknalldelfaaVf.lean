/- The reference's Back and Forward, walked. -/
import Derived.Test.YtfohknalldelfaaVc
import Derived.Deep.RegionHeld3
import Derived.Deep.CutRange
namespace Go.Proofs.Ytfohknalldelfaa
open Go.RowKit Lv Go.Shelf
open Ieee (double Format Datum Toward)
attribute [local go_sem] Oper.semAt_some run_store_float drewN_alloc drewN_setCell run_addF run_subF run_mulF run_quoF

/-- what stands at the head of the reference's loops -/
structure RbInv (w : World) (xb c : Nat) (rws trn : Int) (a : Option Addr) (n cap : Nat) (W : World) (X : List (Option Nat)) : Prop where
  c1 : Cells4 W w.heap.size (.int .i64 c) (.slice a n cap) (.int .i64 rws) (.int .i64 trn)
  own : OwnV W (w.heap.size + 1) (.slice (some ⟨xb, 0, none⟩) c c) X
  len : X.length = c
  below : Below w.heap.size w W
theorem RbInv.keep {w W W' : World} {xb c n cap : Nat} {rws trn : Int} {a : Option Addr} {X : List (Option Nat)} (h : RbInv w xb c rws trn a n cap W X) (hb : Below W.heap.size W W') : RbInv w xb c rws trn a n cap W' X :=
  ⟨h.c1.below hb, h.own.below hb (Nat.le_refl _), h.len, h.below.trans (hb.mono h.below.size)⟩
theorem RbInv.put {w W : World} {xb c n cap : Nat} {rws trn : Int} {a : Option Addr} {X : List (Option Nat)} (h : RbInv w xb c rws trn a n cap W X) (hx : w.heap.size < xb) (i : Nat) {b : Nat} {v : Option Nat} (hb : FW b v) :
    RbInv w xb c rws trn a n cap (W.setCell ⟨xb, i, none⟩ (.float .f64 b)) (X.set i v) :=
  ⟨h.c1.set (by omega), h.own.set h.len i hb, by rw [List.length_set]; exact h.len, h.below.setCell (p := ⟨xb, i, none⟩) (show w.heap.size ≤ xb by omega) _⟩
theorem backT_next (xs : List (Option Nat)) (c k i : Nat) : (backT xs c (k + 1)).getD (i + 1) none = (backT xs c k).getD i none := by
  show (_ :: backT xs c k).getD (i + 1) none = _
  rw [List.getD_cons_succ]
/-- the last k answers are laid down -/
def BkSt (xs : List (Option Nat)) (c k : Nat) (X : List (Option Nat)) : Prop := ∀ i, c - k ≤ i → i < c → X.getD i none = (backT xs c k).getD (i - (c - k)) none
theorem BkSt.next {xs X : List (Option Nat)} {c k : Nat} {v : Option Nat} (h : BkSt xs c k X) (hk : k < c) (hl : X.length = c)
    (hv : v = fdiv (lessF (ent xs c (c - (k + 1)) c) (fun m => ent xs c (c - (k + 1)) (c - (k + 1) + 1 + m)) (fun m => (backT xs c k).getD m none) k) (ent xs c (c - (k + 1)) (c - (k + 1)))) : BkSt xs c (k + 1) (X.set (c - 1 - k) v) := by
  intro i hi hic
  rw [getD_set]
  by_cases e : i = c - 1 - k
  · rw [if_pos ⟨e, by omega⟩, show i - (c - (k + 1)) = 0 by omega]
    unfold backT
    rw [List.getD_cons_zero, hv]
  · rw [if_neg (by omega), h i (by omega) hic, show i - (c - (k + 1)) = (i - (c - k)) + 1 by omega, backT_next]
theorem BkSt.all {xs X : List (Option Nat)} {c : Nat} (h : BkSt xs c c X) (hl : X.length = c) : X = backT xs c c := by
  refine ext_getD none (by rw [hl, backT_len]) fun i hi => ?_
  have := h i (by omega) (by omega)
  rw [show i - (c - c) = i by omega] at this
  exact this
theorem rmk28 (W : World) (B c : Nat) (h1 : 1 ≤ c) (h6 : c ≤ 6) (hB : B ≤ W.heap.size) : OwnV (W.alloc (.cells (madeCells #[.float .f64 0] c) 25)) B (.slice (some ⟨W.heap.size, 0, none⟩) c c) (List.replicate c (some 0)) := by
  obtain ⟨k, rfl⟩ : ∃ k, c = k + 1 := ⟨c - 1, by omega⟩
  exact own_made W B k hB (by omega)

set_option maxRecDepth 100000 in
set_option maxHeartbeats 4000000 in
theorem rback_yes (c : Nat) (rws trn : Int) (a : Option Addr) (n cap : Nat) (xs : List (Option Nat)) (w : World) (h : Row w (.slice a n cap) xs) (hok : checkP (c : Int) xs rws trn = true) (hs : singD xs c = false) :
    Calls Try.prog 8 #[.agg #[.int .i64 (c : Int), .slice a n cap, .int .i64 rws, .int .i64 trn]] w fun e w' => LstE (answD (backT xs c c)) e w' ∧ Below w.heap.size w w' := by
  have hB := (Below.refl w.heap.size w).alloc (Nat.le_refl _) (.cells #[.int .i64 (c : Int), .slice a n cap, .int .i64 rws, .int .i64 trn] 24)
  have HB := Lib.hid hB
  have L := rcheck_calls (c : Int) rws trn a n cap xs _ (h.below hB)
  rw [hok] at L
  have LH := Lib.hid L
  have HC := Lib.hid (Cells4.new w (.int .i64 (c : Int)) (.slice a n cap) (.int .i64 rws) (.int .i64 trn) 24)
  have HR := Lib.hid h
  obtain ⟨hc1, hc6⟩ := checkP_cols hok
  have h1 : 1 ≤ c := by omega
  have h6 : c ≤ 6 := by omega
  have SG := Lib.hid (fun W hW => by have := rsing_calls c rws trn a n cap xs W hW hok; rw [hs] at this; exact this)
  have G := Lib.hid (fun i j (hi : i ≤ c) (hj : j ≤ c) W (hW : Row W (.slice a n cap) xs) => rget_calls c i j rws trn a n cap xs W hW hok hi hj)
  have hmk2 := run_make_row' (P := Try.prog) 22 25 (.float .f64 0) 8 (by kernel_rfl) (by kernel_rfl) rfl .i64 .i64 c (by omega) (by omega)
  clear h hok hB L hs
  go_enter Try.func8, Try.ntmps8
  go_wp2_with (first
    | (go_at_call 14; go_must (refine LH.out.mono ?_; rintro e w1 ⟨rfl, hb⟩; have B1 := Lib.hid (HB.out.trans (hb.mono (by simp))); have C1 := Lib.hid (HC.out.below hb); obtain ⟨c0, c1, c2, c3, _, _, _, _⟩ := C1.out; clear hb))
    | (go_at_call 15; go_must (refine (SG.out _ (HR.out.below B1.out)).mono ?_; rintro e w2 ⟨rfl, hb2⟩; have B2 := Lib.hid (B1.out.trans (hb2.mono B1.out.size)); have C2 := Lib.hid (C1.out.below hb2); clear c0 c1 c2 c3; obtain ⟨c0, c1, c2, c3, _, _, _, _⟩ := C2.out; have CA := Lib.hid (C2.out.alloc (.cells (madeCells #[.float .f64 0] c) 25)); obtain ⟨m0, m1, m2, m3, _, _, _, _⟩ := CA.out; clear hb2)))
  have hlt2 := C2.out.lt
  have I0 : RbInv w w2.heap.size c rws trn a n cap (w2.alloc (.cells (madeCells #[.float .f64 0] c) 25)) (List.replicate c (some 0)) :=
    ⟨C2.out.alloc _, rmk28 w2 _ c h1 h6 (by omega), by rw [List.length_replicate], B2.out.alloc B2.out.size _⟩
  have HI0 := Lib.hid I0
  clear c0 c1 c2 c3 m0 m1 m2 m3 CA C1 C2 B1 B2 I0 hmk2 LH SG HB HC
  generalize w2.heap.size = xb at *
  go_loopw [5] (fun s5 W => ∃ (k : Nat) (X : List (Option Nat)), s5 = .int .i64 ((c : Int) - 1 - k) ∧ k ≤ c ∧ Hid (RbInv w xb c rws trn a n cap W X ∧ BkSt xs c k X)) (fun s5 _ => (intOf s5 + 1).toNat)
  case atStart => exact ⟨0, _, by simp, Nat.zero_le _, HI0.out, fun i h h2 => by omega⟩
  case round =>
    obtain ⟨k, X, rfl, hk, HI⟩ := hrel
    obtain ⟨c0, c1, c2, c3, _, _, _, _⟩ := HI.out.1.c1
    by_cases hlt : k < c
    · obtain ⟨i, hi⟩ : ∃ i, i = c - 1 - k := ⟨_, rfl⟩
      have hie : (c : Int) - 1 - (k : Int) = (i : Int) := by omega
      have hi0 : (0 : Int) ≤ (i : Int) := by omega
      have hil : (i : Int) < (c : Int) := by omega
      have HII := Lib.hid hi
      rw [hie]
      clear hi hie
      go_wp2_with (go_at_call 24; go_must (refine (G.out i c (by omega) (Nat.le_refl _) _ (HR.out.below HI.out.1.below)).mono ?_; rintro e w3 ⟨⟨s, rfl, hfs⟩, hb3⟩; have FS := Lib.hid hfs; have I3 := Lib.hid (HI.out.1.keep hb3); clear hfs hb3))
      clear c0 c1 c2 c3
      go_loopw [6, 7] (fun s6 s7 W => ∃ (m y : Nat), s6 = .float .f64 y ∧ s7 = .int .i64 ((i + 1 + m : Nat) : Int) ∧ m ≤ k ∧ Hid (FW y (lessF (ent xs c i c) (fun m => ent xs c i (i + 1 + m)) (fun m => (backT xs c k).getD m none) m) ∧ RbInv w xb c rws trn a n cap W X)) (fun _ s7 _ => c - (intOf s7).toNat)
      case atStart => exact ⟨0, s, rfl, by go_num, Nat.zero_le _, FS.out, I3.out⟩
      case round =>
        obtain ⟨m, y, rfl, rfl, hm, HJ⟩ := hrel
        obtain ⟨c0, c1, c2, c3, _, _, _, _⟩ := HJ.out.2.c1
        obtain ⟨q, hq⟩ : ∃ q, q = i + 1 + m := ⟨_, rfl⟩
        rw [← hq]
        have HQ := Lib.hid hq
        clear hq
        by_cases hml : m < k
        · have hqc : (q : Int) < (c : Int) := by have := HII.out; have := HQ.out; omega
          obtain ⟨z, hz1, hz2⟩ := HJ.out.2.own.cell HJ.out.2.len (j := q) (by omega)
          have hxz : X.getD q none = (backT xs c k).getD m none := by
            have := HII.out; have := HQ.out
            rw [HI.out.2 q (by omega) (by omega)]
            congr 1; omega
          rw [hxz] at hz2
          have FZ := Lib.hid hz2
          have BD := Lib.hid ((Below.refl wr.heap.size wr).drew)
          have hxl := cell_lt hz1
          clear hz2 hxz
          go_wp2
          go_region_with (go_at_call 24; go_must (refine (G.out i q (by omega) (by omega) _ (HR.out.below (HJ.out.2.below.trans (by first | with_reducible exact BD.out.mono HJ.out.2.below.size | with_reducible exact Below.refl _ _)))).mono ?_; rintro e wg ⟨⟨g, rfl, hfg⟩, hbg⟩; have FG := Lib.hid hfg; (first | (with_reducible have BG' := BD.out.trans (hbg.mono BD.out.size)) | (with_reducible have BG' := hbg)); have BG := Lib.hid BG'; have z1 := (BG.out.cell (p := ⟨xb, q, none⟩) hxl).trans hz1; clear BG' hfg hbg))
          all_goals
            go_wp2
            go_roundw
            case rel => exact ⟨m + 1, _, rfl, by have := HQ.out; go_num, by omega, opw_sub _ HJ.out.1 (opw_mul _ (by have := FG.out; rw [HQ.out] at this; exact this) FZ.out), HJ.out.2.keep (below_drewN BG.out _)⟩
            case measure => simp [intOf]; omega
        · have hqc : ¬ (q : Int) < (c : Int) := by have := HII.out; have := HQ.out; omega
          obtain rfl : m = k := by omega
          have fz := HJ.out.2.own.frozen HJ.out.2.len i
          obtain ⟨z, hz1, _⟩ := HJ.out.2.own.cell HJ.out.2.len (j := i) (by omega)
          clear hml
          go_wp2_with (go_at_call 24; go_must (refine (G.out i i (by omega) (by omega) _ (HR.out.below HJ.out.2.below)).mono ?_; rintro e w4 ⟨⟨d, rfl, hfd⟩, hb4⟩; have FD := Lib.hid hfd; have I4 := Lib.hid (HJ.out.2.keep hb4); have z4 := (hb4.cell (p := ⟨xb, i, none⟩) (cell_lt hz1)).trans hz1; have f4 := (hb4.frozen (p := ⟨xb, i, none⟩) (cell_lt hz1)).trans fz; clear hfd hb4))
          go_roundw
          case rel =>
            have hii := HII.out
            refine ⟨m + 1, X.set i _, by go_num, by omega, (I4.out.put (by omega) i (opw_div _ HJ.out.1 FD.out)).keep (below_drewN (Below.refl _ _) _), ?_⟩
            have := HI.out.2.next hlt HI.out.1.len rfl
            rw [show c - 1 - m = i from hii.symm] at this
            rw [show c - (m + 1) = i by omega] at this
            exact this
          case measure => first | (simp [intOf]; done) | (simp [intOf]; omega)
    · obtain rfl : k = c := by omega
      have hge : ¬ (0 : Int) ≤ (k : Int) - 1 - (k : Int) := by omega
      have hX := HI.out.2.all HI.out.1.len
      have HX := Lib.hid hX
      have NB := Lib.hid (numbers_calls (some ⟨xb, 0, none⟩) k k X wr HI.out.1.own.row)
      have HA : Hid (answD (backT xs k k) = if X.any wildF = true then ([], 2) else (X, 0)) := by unfold Hid; rw [← hX]; rfl
      clear hX
      cases hw : X.any wildF
      · rw [hw] at NB
        have E2 : Hid (answD (backT xs k k) = (X, 0)) := by unfold Hid; rw [HA.out, if_neg (by rw [hw]; decide)]
        clear hw HA
        go_wp2_with (go_at_call 25; go_must (refine NB.out.mono ?_; rintro e w5 ⟨rfl, rfl⟩))
        go_ret2
        exact ⟨by rw [E2.out]; exact ⟨_, _, _, rfl, HI.out.1.own.row⟩, HI.out.1.below⟩
      · rw [hw] at NB
        have E2 : Hid (answD (backT xs k k) = ([], 2)) := by unfold Hid; rw [HA.out, if_pos (by rw [hw])]
        clear hw HA
        go_wp2_with (go_at_call 25; go_must (refine NB.out.mono ?_; rintro e w5 ⟨rfl, rfl⟩))
        go_ret2
        exact ⟨by rw [E2.out]; exact ⟨none, 0, 0, rfl, row_nil _⟩, HI.out.1.below⟩

theorem forwT_at (xs : List (Option Nat)) (c : Nat) (vs : List (Option Nat)) {i : Nat} (hi : i < c) :
    (forwT xs c vs c).getD i none = fdiv (lessF (vs.getD i none) (fun k => ent xs c k i) (fun k => (forwT xs c vs c).getD k none) i) (ent xs c i i) := by
  rw [forwT_get xs c vs i (i + 1) c (by omega) (by omega)]
  have hl := forwT_len xs c vs i
  show (forwT xs c vs i ++ [_]).getD i none = _
  rw [List.getD_eq_getElem?_getD, List.getElem?_append_right (by omega), hl, Nat.sub_self]
  show fdiv _ _ = _
  congr 1
  refine lessF_congr i (fun _ _ => rfl) fun k hk => ?_
  exact (forwT_get xs c vs k i c hk (by omega)).symm
theorem forw_all {xs vs X : List (Option Nat)} {c : Nat} (h : ∀ m, m < c → X.getD m none = (forwT xs c vs c).getD m none) (hl : X.length = c) : X = forwT xs c vs c :=
  ext_getD none (by rw [hl, forwT_len]) fun i hi => h i (by omega)

set_option maxRecDepth 100000 in
set_option maxHeartbeats 4000000 in
theorem rforw_yes (c : Nat) (rws trn : Int) (a b : Option Addr) (n cap d : Nat) (xs vs : List (Option Nat)) (w : World) (h : Row w (.slice a n cap) xs) (hv : Row w (.slice b c d) vs) (hok : checkP (c : Int) xs rws trn = true) (hs : singD xs c = false) :
    Calls Try.prog 13 #[.agg #[.int .i64 (c : Int), .slice a n cap, .int .i64 rws, .int .i64 trn], .slice b c d] w fun e w' => LstE (answD (forwT xs c vs c)) e w' ∧ Below w.heap.size w w' := by
  have hB := (Below.refl w.heap.size w).alloc (Nat.le_refl _) (.cells #[.int .i64 (c : Int), .slice a n cap, .int .i64 rws, .int .i64 trn] 24)
  have HB := Lib.hid hB
  have L := rcheck_calls (c : Int) rws trn a n cap xs _ (h.below hB)
  rw [hok] at L
  have LH := Lib.hid L
  have HC := Lib.hid (Cells4.new w (.int .i64 (c : Int)) (.slice a n cap) (.int .i64 rws) (.int .i64 trn) 24)
  have HR := Lib.hid h
  have HV := Lib.hid hv
  obtain ⟨hc1, hc6⟩ := checkP_cols hok
  have h1 : 1 ≤ c := by omega
  have h6 : c ≤ 6 := by omega
  have SG := Lib.hid (fun W hW => by have := rsing_calls c rws trn a n cap xs W hW hok; rw [hs] at this; exact this)
  have G := Lib.hid (fun i j (hi : i ≤ c) (hj : j ≤ c) W (hW : Row W (.slice a n cap) xs) => rget_calls c i j rws trn a n cap xs W hW hok hi hj)
  have hmk2 := run_make_row' (P := Try.prog) 22 25 (.float .f64 0) 8 (by kernel_rfl) (by kernel_rfl) rfl .i64 .i64 c (by omega) (by omega)
  have hne : ((c : Int) != (c : Int)) = false := by simp
  clear h hv hok hB L hs
  go_enter Try.func13, Try.ntmps13
  go_wp2_with (first
    | (go_at_call 14; go_must (refine LH.out.mono ?_; rintro e w1 ⟨rfl, hb⟩; have B1 := Lib.hid (HB.out.trans (hb.mono (by simp))); have C1 := Lib.hid (HC.out.below hb); obtain ⟨c0, c1, c2, c3, _, _, _, _⟩ := C1.out; clear hb))
    | (go_at_call 15; go_must (refine (SG.out _ (HR.out.below B1.out)).mono ?_; rintro e w2 ⟨rfl, hb2⟩; have B2 := Lib.hid (B1.out.trans (hb2.mono B1.out.size)); have C2 := Lib.hid (C1.out.below hb2); clear c0 c1 c2 c3; obtain ⟨c0, c1, c2, c3, _, _, _, _⟩ := C2.out; have CA := Lib.hid (C2.out.alloc (.cells (madeCells #[.float .f64 0] c) 25)); obtain ⟨m0, m1, m2, m3, _, _, _, _⟩ := CA.out; clear hb2)))
  have hlt2 := C2.out.lt
  have I0 : RbInv w w2.heap.size c rws trn a n cap (w2.alloc (.cells (madeCells #[.float .f64 0] c) 25)) (List.replicate c (some 0)) :=
    ⟨C2.out.alloc _, rmk28 w2 _ c h1 h6 (by omega), by rw [List.length_replicate], B2.out.alloc B2.out.size _⟩
  have HI0 := Lib.hid I0
  clear c0 c1 c2 c3 m0 m1 m2 m3 CA C1 C2 B1 B2 I0 hmk2 LH SG HB HC
  generalize w2.heap.size = xb at *
  go_loopw [7] (fun s7 W => ∃ (i : Nat) (X : List (Option Nat)), s7 = .int .i64 (i : Int) ∧ i ≤ c ∧ Hid (RbInv w xb c rws trn a n cap W X ∧ ∀ m, m < i → X.getD m none = (forwT xs c vs c).getD m none)) (fun s7 _ => c - (intOf s7).toNat)
  case atStart => exact ⟨0, _, by simp, Nat.zero_le _, HI0.out, fun m hm => absurd hm (Nat.not_lt_zero m)⟩
  case round =>
    obtain ⟨i, X, rfl, hi, HI⟩ := hrel
    obtain ⟨c0, c1, c2, c3, _, _, _, _⟩ := HI.out.1.c1
    by_cases hlt : i < c
    · have hil : (i : Int) < (c : Int) := by omega
      have RV := Lib.hid (HV.out.below HI.out.1.below)
      obtain ⟨blk, off, rfl, hcv⟩ := row_cell RV.out (by omega)
      obtain ⟨s, hs1, hs2⟩ := hcv i hlt
      have FS := Lib.hid hs2
      clear hcv hs2
      go_wp2
      clear c0 c1 c2 c3
      go_loopw [8, 9] (fun s8 s9 W => ∃ (m y : Nat), s8 = .float .f64 y ∧ s9 = .int .i64 (m : Int) ∧ m ≤ i ∧ Hid (FW y (lessF (vs.getD i none) (fun k => ent xs c k i) (fun k => (forwT xs c vs c).getD k none) m) ∧ RbInv w xb c rws trn a n cap W X)) (fun _ s9 _ => i - (intOf s9).toNat)
      case atStart => exact ⟨0, s, rfl, by go_num, Nat.zero_le _, FS.out, HI.out.1⟩
      case round =>
        obtain ⟨m, y, rfl, rfl, hm, HJ⟩ := hrel
        obtain ⟨c0, c1, c2, c3, _, _, _, _⟩ := HJ.out.2.c1
        by_cases hml : m < i
        · have hmi : (m : Int) < (i : Int) := by omega
          have hmc : (m : Int) < (c : Int) := by omega
          obtain ⟨z, hz1, hz2⟩ := HJ.out.2.own.cell HJ.out.2.len (j := m) (by omega)
          rw [HI.out.2 m hml] at hz2
          have FZ := Lib.hid hz2
          have BD := Lib.hid ((Below.refl wr.heap.size wr).drew)
          have hxl := cell_lt hz1
          clear hz2 hs1
          go_wp2
          go_region_with (go_at_call 24; go_must (refine (G.out m i (by omega) (by omega) _ (HR.out.below (HJ.out.2.below.trans (by first | with_reducible exact BD.out.mono HJ.out.2.below.size | with_reducible exact Below.refl _ _)))).mono ?_; rintro e wg ⟨⟨g, rfl, hfg⟩, hbg⟩; have FG := Lib.hid hfg; (first | (with_reducible have BG' := BD.out.trans (hbg.mono BD.out.size)) | (with_reducible have BG' := hbg)); have BG := Lib.hid BG'; have z1 := (BG.out.cell (p := ⟨xb, m, none⟩) hxl).trans hz1; clear BG' hfg hbg))
          all_goals
            go_wp2
            go_roundw
            case rel => exact ⟨m + 1, _, rfl, by go_num, by omega, opw_sub _ HJ.out.1 (opw_mul _ FG.out FZ.out), HJ.out.2.keep (below_drewN BG.out _)⟩
            case measure => simp [intOf]; omega
        · have hmi : ¬ (m : Int) < (i : Int) := by omega
          obtain rfl : m = i := by omega
          have fz := HJ.out.2.own.frozen HJ.out.2.len m
          obtain ⟨z, hz1, _⟩ := HJ.out.2.own.cell HJ.out.2.len (j := m) (by omega)
          clear hml hs1
          go_wp2_with (go_at_call 24; go_must (refine (G.out m m (by omega) (by omega) _ (HR.out.below HJ.out.2.below)).mono ?_; rintro e w4 ⟨⟨d', rfl, hfd⟩, hb4⟩; have FD := Lib.hid hfd; have I4 := Lib.hid (HJ.out.2.keep hb4); have z4 := (hb4.cell (p := ⟨xb, m, none⟩) (cell_lt hz1)).trans hz1; have f4 := (hb4.frozen (p := ⟨xb, m, none⟩) (cell_lt hz1)).trans fz; clear hfd hb4))
          go_roundw
          case rel =>
            refine ⟨m + 1, X.set m _, by go_num, by omega, (I4.out.put (by omega) m (opw_div _ HJ.out.1 FD.out)).keep (below_drewN (Below.refl _ _) _), fun k hk => ?_⟩
            rw [getD_set]
            by_cases e : k = m
            · rw [if_pos ⟨e, by have := HI.out.1.len; omega⟩, e, forwT_at xs c vs hlt]
              rfl
            · rw [if_neg (fun h => e h.1)]
              exact HI.out.2 k (by omega)
          case measure => first | (simp [intOf]; done) | (simp [intOf]; omega)
    · obtain rfl : i = c := by omega
      have hil : ¬ (i : Int) < (i : Int) := by omega
      have hX := forw_all HI.out.2 HI.out.1.len
      have NB := Lib.hid (numbers_calls (some ⟨xb, 0, none⟩) i i X wr HI.out.1.own.row)
      have HA : Hid (answD (forwT xs i vs i) = if X.any wildF = true then ([], 2) else (X, 0)) := by unfold Hid; rw [← hX]; rfl
      clear hX
      cases hw : X.any wildF
      · rw [hw] at NB
        have E2 : Hid (answD (forwT xs i vs i) = (X, 0)) := by unfold Hid; rw [HA.out, if_neg (by rw [hw]; decide)]
        clear hw HA
        go_wp2_with (go_at_call 25; go_must (refine NB.out.mono ?_; rintro e w5 ⟨rfl, rfl⟩))
        go_ret2
        exact ⟨by rw [E2.out]; exact ⟨_, _, _, rfl, HI.out.1.own.row⟩, HI.out.1.below⟩
      · rw [hw] at NB
        have E2 : Hid (answD (forwT xs i vs i) = ([], 2)) := by unfold Hid; rw [HA.out, if_pos (by rw [hw])]
        clear hw HA
        go_wp2_with (go_at_call 25; go_must (refine NB.out.mono ?_; rintro e w5 ⟨rfl, rfl⟩))
        go_ret2
        exact ⟨by rw [E2.out]; exact ⟨none, 0, 0, rfl, row_nil _⟩, HI.out.1.below⟩
end Go.Proofs.Ytfohknalldelfaa
