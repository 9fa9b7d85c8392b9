/- solve.Forward, walked. -/
import Derived.Test.YtfohknalldelfaaVe
import Derived.Test.YtfohknalldelfaaQ
import Derived.WalkMore
namespace Go.Proofs.Ytfohknalldelfaa
open Go.RowKit Lv Go.Shelf
open Ieee (double Format Datum Toward)
attribute [local go_sem] Oper.semAt_some run_store_float drewN_alloc drewN_setCell run_addF run_subF run_mulF run_quoF

/-- what the loops keep -/
structure FwInv (w : World) (B wb wcap qb c : Nat) (xs : List (Option Nat)) (G CP : Nat → Nat) (W : World) (X : List (Option Nat)) : Prop where
  rows : ∀ i, i < c → W.cell? ⟨qb, i, none⟩ = some (.slice (some ⟨G i, 0, none⟩) c (CP i))
  ents : ∀ i, i < c → ∀ k, k ≤ c → ∃ b, W.cell? ⟨G i, k, none⟩ = some (.float .f64 b) ∧ FW b (ent xs c i k)
  own : OwnV W B (.slice (some ⟨wb, 0, none⟩) c wcap) X
  len : X.length = c
  below : Below w.heap.size w W
section
variable {w : World} {B wb wcap qb c : Nat} {xs : List (Option Nat)} {G CP : Nat → Nat} {W W' : World} {X : List (Option Nat)}
theorem FwInv.keep (h : FwInv w B wb wcap qb c xs G CP W X) (hb : Below W.heap.size W W') : FwInv w B wb wcap qb c xs G CP W' X :=
  ⟨fun i hi => (hb.cell (p := ⟨qb, i, none⟩) (cell_lt (h.rows i hi))).trans (h.rows i hi), fun i hi k hk => by obtain ⟨b, b1, b2⟩ := h.ents i hi k hk; exact ⟨b, (hb.cell (p := ⟨G i, k, none⟩) (cell_lt b1)).trans b1, b2⟩, h.own.below hb (Nat.le_refl _), h.len, h.below.trans (hb.mono h.below.size)⟩
theorem FwInv.put (h : FwInv w B wb wcap qb c xs G CP W X) (hw : w.heap.size ≤ wb) (nq : qb ≠ wb) (nG : ∀ i, i < c → G i ≠ wb) (i : Nat) {b : Nat} {v : Option Nat} (hb : FW b v) : FwInv w B wb wcap qb c xs G CP (W.setCell ⟨wb, i, none⟩ (.float .f64 b)) (X.set i v) :=
  ⟨fun j hj => cell_set_ne (h.rows j hj) nq.symm, fun j hj k hk => by obtain ⟨b, b1, b2⟩ := h.ents j hj k hk; exact ⟨b, cell_set_ne b1 (nG j hj).symm, b2⟩, h.own.set h.len i hb, by rw [List.length_set]; exact h.len, h.below.setCell (p := ⟨wb, i, none⟩) hw _⟩
end
/-- what is left of a list's entry when the first k answers are taken off -/
def fwL (xs : List (Option Nat)) (c : Nat) (vs : List (Option Nat)) (i k : Nat) : Option Nat := lessF (vs.getD i none) (fun m => ent xs c m i) (fun m => (forwT xs c vs c).getD m none) k
theorem forw_wild {xs vs : List (Option Nat)} {c k : Nat} (hk : k < c) (h : wildF ((forwT xs c vs c).getD k none) = true) : answD (forwT xs c vs c) = ([], 2) := by
  unfold answD
  rw [if_pos]
  rw [List.any_eq_true]
  have hl := forwT_len xs c vs c
  refine ⟨(forwT xs c vs c).getD k none, ?_, h⟩
  rw [List.getD_eq_getElem?_getD, List.getElem?_eq_getElem (by omega)]
  exact List.getElem_mem _
theorem answ_wild {X : List (Option Nat)} {k : Nat} (hk : k < X.length) (h : wildF (X.getD k none) = true) : answD X = ([], 2) := by
  unfold answD
  rw [if_pos]
  rw [List.any_eq_true]
  refine ⟨X.getD k none, ?_, h⟩
  rw [List.getD_eq_getElem?_getD, List.getElem?_eq_getElem hk]
  exact List.getElem_mem _

set_option maxRecDepth 100000 in
set_option maxHeartbeats 8000000 in
theorem forw_yes (c : Nat) (rws trn : Int) (a b : Option Addr) (n cap d : Nat) (xs vs : List (Option Nat)) (w : World) (h : Row w (.slice a n cap) xs) (hv : Row w (.slice b c d) vs) (hok : checkP (c : Int) xs rws trn = true) (hs : singD xs c = false) :
    Calls Try.prog 12 #[.agg #[.int .i64 (c : Int), .slice a n cap, .int .i64 rws, .int .i64 trn], .slice b c d] w fun e w' => LstE (answD (forwT xs c vs c)) e w' ∧ Below w.heap.size w w' := by
  have hB := (Below.refl w.heap.size w).alloc (Nat.le_refl _) (.cells #[.int .i64 (c : Int), .slice a n cap, .int .i64 rws, .int .i64 trn] 24)
  have HB := Lib.hid hB
  have L := check_calls (c : Int) rws trn a n cap xs _ (h.below hB)
  rw [hok] at L
  have LH := Lib.hid L
  have HC := Lib.hid (Cells4.new w (.int .i64 (c : Int)) (.slice a n cap) (.int .i64 rws) (.int .i64 trn) 24)
  have HR := Lib.hid h
  have HV := Lib.hid hv
  obtain ⟨hc1, hc6⟩ := checkP_cols hok
  have h1 : 1 ≤ c := by omega
  have h6 : c ≤ 6 := by omega
  have hvl : Hid (vs.length = c) := hv.len
  have SQ := Lib.hid (fun W hW => square_calls c rws trn a n cap xs W hW hok)
  have SG := Lib.hid (fun W B qb hW => by have := singular_calls B qb c xs W h6 hW; rw [hs] at this; exact this)
  have hne : ((c : Int) != (c : Int)) = false := by simp
  clear h hv hok hB L hs
  go_enter Try.func12, Try.ntmps12
  go_wp2
  go_step3
  go_wp2_with (first
    | (go_at_call 18; go_must (refine LH.out.mono ?_; rintro e w1 ⟨rfl, hb⟩; have B1 := Lib.hid (HB.out.trans (hb.mono (by simp))); have C1 := Lib.hid (HC.out.below hb); obtain ⟨c0, c1, c2, c3, _, _, _, _⟩ := C1.out; clear hb))
    | (go_at_call 19; go_must (refine (SQ.out _ (HR.out.below B1.out)).mono ?_; rintro e w2 ⟨⟨qb, xb, L, rfl, hsq, hqx, hq0, hx0, hx1, hq1, hown, hll, hlast, hsz⟩, hb2⟩; have S2 := Lib.hid hsq; have B2 := Lib.hid (B1.out.trans (hb2.mono B1.out.size)); clear c0 c1 c2 c3 hsq hown hlast))
    | (go_at_call 20; go_must (refine (SG.out _ _ qb S2.out).mono ?_; rintro e w3 ⟨rfl, rfl⟩))
    | (go_at_call 29; go_must (refine (clone_calls b c d vs _ (HV.out.below B2.out) (by have := hvl.out; omega)).mono ?_; rintro e w4 ⟨v4, rfl, hown4, hb4⟩)))
  obtain ⟨wb, wcap, hv4, hg1, hg2, hg3, hg4⟩ := hown4.shape (by have := hvl.out; omega)
  rw [hvl.out] at hv4
  subst hv4
  obtain ⟨G0, CP, hG⟩ := sq_rows S2.out
  have hs1 := B1.out.size
  have hs2 := hb2.size
  have hs4 := hb4.size
  have hw1 : w.heap.size < w1.heap.size := C1.out.lt
  have I0 : FwInv w w.heap.size wb wcap qb c xs G0 CP w4 vs :=
    ⟨fun i hi => (hb4.cell (p := ⟨qb, i, none⟩) (cell_lt (hG i hi).1)).trans (hG i hi).1, fun i hi k hk => by obtain ⟨b', b1, b2⟩ := (hG i hi).2.2.2.2.2 k hk; exact ⟨b', (hb4.cell (p := ⟨G0 i, k, none⟩) (cell_lt b1)).trans b1, b2⟩, hown4.mono (by omega), hvl.out, B2.out.trans (hb4.mono (by omega))⟩
  have HI0 := Lib.hid I0
  have nq : qb ≠ wb := by omega
  have nG : ∀ i, i < c → G0 i ≠ wb := fun i hi => by have := (hG i hi).2.2.2.2.1; omega
  have NG := Lib.hid nG
  have HCP := Lib.hid (fun i (hi : i < c) => (hG i hi).2.1)
  have hwb : w.heap.size ≤ wb := by omega
  clear hG nG I0 hown4 hb4 hb2 LH SQ SG hg2 hg1
  go_step3
  go_wp2
  go_loopw [33] (fun s33 W => ∃ (k : Nat) (X : List (Option Nat)), s33 = .int .i64 (k : Int) ∧ k ≤ c ∧ Hid (FwInv w w.heap.size wb wcap qb c xs G0 CP W X ∧ ∀ i, i < c → X.getD i none = if i < k then (forwT xs c vs c).getD i none else fwL xs c vs i k)) (fun s33 _ => c - (intOf s33).toNat)
  case atStart => exact ⟨0, vs, rfl, Nat.zero_le _, HI0.out, fun i hi => by rw [if_neg (by omega)]; rfl⟩
  case round =>
    obtain ⟨k, X, rfl, hk, HI⟩ := hrel
    by_cases hlt : k < c
    · have hkl : (k : Int) < (c : Int) := by omega
      obtain ⟨x, hx1, hx2⟩ := HI.out.1.own.cell HI.out.1.len hlt
      have fx := HI.out.1.own.frozen HI.out.1.len k
      obtain ⟨d1, hd1, hd2⟩ := HI.out.1.ents k hlt k (by omega)
      have hq1 := HI.out.1.rows k hlt
      have FX := Lib.hid hx2
      have FD := Lib.hid hd2
      have ngk := NG.out k hlt
      have hcpk := HCP.out k hlt
      have ngk' : wb ≠ G0 k := fun e => ngk e.symm
      have nq' : wb ≠ qb := fun e => nq e.symm
      clear hx2 hd2
      have HXK : Hid (X.getD k none = fwL xs c vs k k) := by have := HI.out.2 k hlt; rw [if_neg (by omega)] at this; exact this
      have HFT : Hid ((forwT xs c vs c).getD k none = fdiv (fwL xs c vs k k) (ent xs c k k)) := forwT_at xs c vs hlt
      go_wp2
      go_region
      have hq := opw_div wr.drew FX.out FD.out
      have IP := (HI.out.1.put hwb nq NG.out k hq).keep (below_drewN (Below.refl _ _) (1 + opd (double.div x d1)))
      generalize opw (double.div x d1) x d1 wr.drew = q at *
      generalize (1 + opd (double.div x d1)) = dz at *
      have HFQ : Hid (FW q ((forwT xs c vs c).getD k none)) := by unfold Hid; rw [HFT.out, ← HXK.out]; exact hq
      obtain ⟨X1, hX1⟩ : ∃ X1, X1 = X.set k (fdiv (X.getD k none) (ent xs c k k)) := ⟨_, rfl⟩
      have HX1 : Hid (∀ i, i < c → X1.getD i none = if i ≤ k then (forwT xs c vs c).getD i none else fwL xs c vs i k) := fun i hi => by
        rw [hX1, getD_set]
        by_cases e : i = k
        · rw [if_pos ⟨e, by have := HI.out.1.len; omega⟩, if_pos (by omega), e, HFT.out, HXK.out]
        · rw [if_neg (fun h => e h.1), HI.out.2 i hi]
          by_cases e2 : i < k
          · rw [if_pos e2, if_pos (by omega)]
          · rw [if_neg e2, if_neg (by omega)]
      rw [← hX1] at IP
      have HIP := Lib.hid IP
      obtain ⟨W5, hW5⟩ : ∃ W5, W5 = (wr.setCell ⟨wb, k, none⟩ (.float .f64 q)).drewN dz := ⟨_, rfl⟩
      rw [← hW5] at HIP
      rw [← hW5]
      have hq5 : W5.cell? ⟨wb, k, none⟩ = some (.float .f64 q) := by rw [hW5]; exact cell_set_eq hx1
      have WC := Lib.hid (wild_calls q hq.1)
      have hwf := wildW_F HFQ.out
      clear IP hX1 hW5 hq hx1 fx hd1
      cases hwl : wildF ((forwT xs c vs c).getD k none)
      · rw [hwl] at hwf
        rw [hwf] at WC
        have HWL := Lib.hid hwl
        clear hwf hwl
        go_wp2_with (go_at_call 30; go_must (refine (WC.out _).mono ?_; rintro e w' ⟨rfl, rfl⟩))
        clear hq5 hq1
        go_loopw [10] (fun s10 W => ∃ (i : Nat) (Y : List (Option Nat)), s10 = .int .i64 (i : Int) ∧ k + 1 ≤ i ∧ i ≤ c ∧ Hid (FwInv w w.heap.size wb wcap qb c xs G0 CP W Y ∧ ∀ j, j < c → Y.getD j none = if j ≤ k then (forwT xs c vs c).getD j none else if j < i then fwL xs c vs j (k + 1) else fwL xs c vs j k)) (fun s10 _ => c - (intOf s10).toNat)
        case atStart => exact ⟨k + 1, X1, by go_num, Nat.le_refl _, by omega, HIP.out, fun j hj => by
          rw [HX1.out j hj]
          by_cases e : j ≤ k
          · rw [if_pos e, if_pos e]
          · rw [if_neg e, if_neg e, if_neg (by omega)]⟩
        case round =>
          obtain ⟨i, Y, rfl, hi1, hi2, HJ⟩ := hrel
          by_cases hic : i < c
          · have hil : (i : Int) < (c : Int) := by omega
            obtain ⟨y, hy1, hy2⟩ := HJ.out.1.own.cell HJ.out.1.len hic
            obtain ⟨z, hz1, hz2⟩ := HJ.out.1.own.cell HJ.out.1.len hlt
            obtain ⟨m, hm1, hm2⟩ := HJ.out.1.ents k hlt i (by omega)
            have fy := HJ.out.1.own.frozen HJ.out.1.len i
            have hq1 := HJ.out.1.rows k hlt
            have FY := Lib.hid hy2
            have FZ : Hid (FW z ((forwT xs c vs c).getD k none)) := by have := hz2; rw [HJ.out.2 k hlt, if_pos (Nat.le_refl _)] at this; exact this
            have FM := Lib.hid hm2
            have hY : Hid (Y.getD i none = fwL xs c vs i k) := by have := HJ.out.2 i hic; rw [if_neg (by omega), if_neg (by omega)] at this; exact this
            clear hy2 hz2 hm2
            go_wp2
            go_region
            go_wp2
            go_roundw
            case rel =>
              have hs : FW (opw (double.sub y (opw (double.mul m z) m z wr.drew)) y (opw (double.mul m z) m z wr.drew) (wr.drewN (1 + opd (double.mul m z)))) (fwL xs c vs i (k + 1)) := by
                have := opw_sub (wr.drewN (1 + opd (double.mul m z))) FY.out (opw_mul wr.drew FM.out FZ.out)
                rw [hY.out] at this
                exact this
              refine ⟨i + 1, Y.set i (fwL xs c vs i (k + 1)), by go_num, by omega, by omega, (HJ.out.1.put hwb nq NG.out i hs).keep (below_drewN (Below.refl _ _) _), fun j hj => ?_⟩
              rw [getD_set]
              by_cases e : j = i
              · rw [if_pos ⟨e, by have := HJ.out.1.len; omega⟩, if_neg (by omega), if_pos (by omega), e]
              · rw [if_neg (fun h => e h.1), HJ.out.2 j hj]
                by_cases e1 : j ≤ k
                · rw [if_pos e1, if_pos e1]
                · rw [if_neg e1, if_neg e1]
                  by_cases e2 : j < i
                  · rw [if_pos e2, if_pos (by omega)]
                  · rw [if_neg e2, if_neg (by omega)]
            case measure => first | (simp [intOf]; done) | (simp [intOf]; omega)
          · have hil : ¬ (i : Int) < (c : Int) := by omega
            go_wp2
            go_roundw
            case rel => exact ⟨k + 1, Y, by go_num, by omega, HJ.out.1, fun j hj => by
              rw [HJ.out.2 j hj]
              by_cases e : j ≤ k
              · rw [if_pos e, if_pos (by omega)]
              · rw [if_neg e, if_pos (by omega), if_neg (by omega)]⟩
            case measure => first | (simp [intOf]; done) | (simp [intOf]; omega)
      · rw [hwl] at hwf
        rw [hwf] at WC
        have e1 := forw_wild hlt hwl
        have e2 : answD X1 = ([], 2) := answ_wild (k := k) (by rw [HIP.out.len]; exact hlt) (by rw [HX1.out k hlt, if_pos (Nat.le_refl _)]; exact hwl)
        have AN := Lib.hid (answer_calls (some ⟨wb, 0, none⟩) c wcap X1 W5 HIP.out.own.row)
        rw [e2] at AN
        have E1 := Lib.hid e1
        clear hwf hwl e1 e2
        go_wp2_with (first
          | (go_at_call 30; go_must (refine (WC.out _).mono ?_; rintro e w' ⟨rfl, rfl⟩))
          | (go_at_call 23; go_must (refine AN.out.mono ?_; rintro e w' ⟨⟨pa, pn, pcp, rfl, hrow⟩, rfl⟩)))
        rw [Exit.noGoto_ret]
        go_ret2
        exact ⟨by rw [E1.out]; exact ⟨pa, pn, pcp, rfl, hrow⟩, HIP.out.below⟩
    · have hkl : ¬ (k : Int) < (c : Int) := by omega
      obtain rfl : k = c := by omega
      have hX := forw_all (fun m hm => by have := HI.out.2 m hm; rw [if_pos hm] at this; exact this) HI.out.1.len
      have AN := Lib.hid (answer_calls (some ⟨wb, 0, none⟩) k wcap X wr HI.out.1.own.row)
      rw [hX] at AN
      clear hX
      go_wp2_with (go_at_call 23; go_must (refine AN.out.mono ?_; rintro e w' ⟨⟨pa, pn, pcp, rfl, hrow⟩, rfl⟩))
      rw [Exit.noGoto_ret]
      go_ret2
      exact ⟨⟨pa, pn, pcp, rfl, hrow⟩, HI.out.1.below⟩
end Go.Proofs.Ytfohknalldelfaa
