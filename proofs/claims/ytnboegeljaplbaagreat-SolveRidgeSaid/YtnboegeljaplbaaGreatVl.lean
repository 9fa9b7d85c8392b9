/- solve.Forward, walked. Solving, whole: both Backs, both Forwards, both Ridges; layer 16's own examples, walked. Layer 16's own examples, walked. SolveTells and SolveForward, walked. -/
import Derived.Test.YtnboegeljaplbaaGreatVe
import Derived.Test.YtnboegeljaplbaaGreatQ
import Derived.WalkMore
import Derived.Test.YtnboegeljaplbaaGreatSo
import Derived.Deep.CutRange
namespace Go.Proofs.YtnboegeljaplbaaGreat
open Go.RowKit Lv Go.Shelf
open Ieee (double Format Datum Toward)
attribute [local go_sem] Oper.semAt_some run_store_float drewN_alloc drewN_setCell run_addF run_subF run_mulF run_quoF

/-- what the loops keep -/
structure FwInv (w : World) (B wb wcap qb c : Nat) (xs : List (Option Nat)) (G CP : Nat → Nat) (W : World) (X : List (Option Nat)) : Prop where
  rows : ∀ i, i < c → W.cell? ⟨qb, i, none⟩ = some (.slice (some ⟨G i, 0, none⟩) c (CP i))
  ents : ∀ i, i < c → ∀ k, k ≤ c → ∃ b, W.cell? ⟨G i, k, none⟩ = some (.float .f64 b) ∧ FW b (ent xs c i k)
  own : OwnV W B (.slice (some ⟨wb, 0, none⟩) c wcap) X
  len : X.length = c
  below : Below w.heap.size w W
section
variable {w : World} {B wb wcap qb c : Nat} {xs : List (Option Nat)} {G CP : Nat → Nat} {W W' : World} {X : List (Option Nat)}
theorem FwInv.keep (h : FwInv w B wb wcap qb c xs G CP W X) (hb : Below W.heap.size W W') : FwInv w B wb wcap qb c xs G CP W' X :=
  ⟨fun i hi => (hb.cell (p := ⟨qb, i, none⟩) (cell_lt (h.rows i hi))).trans (h.rows i hi), fun i hi k hk => by obtain ⟨b, b1, b2⟩ := h.ents i hi k hk; exact ⟨b, (hb.cell (p := ⟨G i, k, none⟩) (cell_lt b1)).trans b1, b2⟩, h.own.below hb (Nat.le_refl _), h.len, h.below.trans (hb.mono h.below.size)⟩
theorem FwInv.put (h : FwInv w B wb wcap qb c xs G CP W X) (hw : w.heap.size ≤ wb) (nq : qb ≠ wb) (nG : ∀ i, i < c → G i ≠ wb) (i : Nat) {b : Nat} {v : Option Nat} (hb : FW b v) : FwInv w B wb wcap qb c xs G CP (W.setCell ⟨wb, i, none⟩ (.float .f64 b)) (X.set i v) :=
  ⟨fun j hj => cell_set_ne (h.rows j hj) nq.symm, fun j hj k hk => by obtain ⟨b, b1, b2⟩ := h.ents j hj k hk; exact ⟨b, cell_set_ne b1 (nG j hj).symm, b2⟩, h.own.set h.len i hb, by rw [List.length_set]; exact h.len, h.below.setCell (p := ⟨wb, i, none⟩) hw _⟩
end
/-- what is left of a list's entry when the first k answers are taken off -/
def fwL (xs : List (Option Nat)) (c : Nat) (vs : List (Option Nat)) (i k : Nat) : Option Nat := lessF (vs.getD i none) (fun m => ent xs c m i) (fun m => (forwT xs c vs c).getD m none) k
theorem forw_wild {xs vs : List (Option Nat)} {c k : Nat} (hk : k < c) (h : wildF ((forwT xs c vs c).getD k none) = true) : answD (forwT xs c vs c) = ([], 2) := by
  unfold answD
  rw [if_pos]
  rw [List.any_eq_true]
  have hl := forwT_len xs c vs c
  refine ⟨(forwT xs c vs c).getD k none, ?_, h⟩
  rw [List.getD_eq_getElem?_getD, List.getElem?_eq_getElem (by omega)]
  exact List.getElem_mem _
theorem answ_wild {X : List (Option Nat)} {k : Nat} (hk : k < X.length) (h : wildF (X.getD k none) = true) : answD X = ([], 2) := by
  unfold answD
  rw [if_pos]
  rw [List.any_eq_true]
  refine ⟨X.getD k none, ?_, h⟩
  rw [List.getD_eq_getElem?_getD, List.getElem?_eq_getElem hk]
  exact List.getElem_mem _

set_option maxRecDepth 100000 in
set_option maxHeartbeats 8000000 in
theorem forw_yes (c : Nat) (rws trn : Int) (a b : Option Addr) (n cap d : Nat) (xs vs : List (Option Nat)) (w : World) (h : Row w (.slice a n cap) xs) (hv : Row w (.slice b c d) vs) (hok : checkP (c : Int) xs rws trn = true) (hs : singD xs c = false) :
    Calls Tryz.prog 43 #[.agg #[.int .i64 (c : Int), .slice a n cap, .int .i64 rws, .int .i64 trn], .slice b c d] w fun e w' => LstE (answD (forwT xs c vs c)) e w' ∧ Below w.heap.size w w' := by
  have hB := (Below.refl w.heap.size w).alloc (Nat.le_refl _) (.cells #[.int .i64 (c : Int), .slice a n cap, .int .i64 rws, .int .i64 trn] 28)
  have HB := Lib.hid hB
  have L := check_calls (c : Int) rws trn a n cap xs _ (h.below hB)
  rw [hok] at L
  have LH := Lib.hid L
  have HC := Lib.hid (Cells4.new w (.int .i64 (c : Int)) (.slice a n cap) (.int .i64 rws) (.int .i64 trn) 28)
  have HR := Lib.hid h
  have HV := Lib.hid hv
  obtain ⟨hc1, hc6⟩ := checkP_cols hok
  have h1 : 1 ≤ c := by omega
  have h6 : c ≤ 6 := by omega
  have hvl : Hid (vs.length = c) := hv.len
  have SQ := Lib.hid (fun W hW => square_calls c rws trn a n cap xs W hW hok)
  have SG := Lib.hid (fun W B qb hW => by have := singular_calls B qb c xs W h6 hW; rw [hs] at this; exact this)
  have hne : ((c : Int) != (c : Int)) = false := by simp
  clear h hv hok hB L hs
  go_enter Tryz.func43, Tryz.ntmps43
  go_wp2
  go_step3
  go_wp2_with (first
    | (go_at_call 28; go_must (refine LH.out.mono ?_; rintro e w1 ⟨rfl, hb⟩; have B1 := Lib.hid (HB.out.trans (hb.mono (by simp))); have C1 := Lib.hid (HC.out.below hb); obtain ⟨c0, c1, c2, c3, _, _, _, _⟩ := C1.out; clear hb))
    | (go_at_call 47; go_must (refine (SQ.out _ (HR.out.below B1.out)).mono ?_; rintro e w2 ⟨⟨qb, xb, L, rfl, hsq, hqx, hq0, hx0, hx1, hq1, hown, hll, hlast, hsz⟩, hb2⟩; have S2 := Lib.hid hsq; have B2 := Lib.hid (B1.out.trans (hb2.mono B1.out.size)); clear c0 c1 c2 c3 hsq hown hlast))
    | (go_at_call 48; go_must (refine (SG.out _ _ qb S2.out).mono ?_; rintro e w3 ⟨rfl, rfl⟩))
    | (go_at_call 87; go_must (refine (clone_calls b c d vs _ (HV.out.below B2.out) (by have := hvl.out; omega)).mono ?_; rintro e w4 ⟨v4, rfl, hown4, hb4⟩)))
  obtain ⟨wb, wcap, hv4, hg1, hg2, hg3, hg4⟩ := hown4.shape (by have := hvl.out; omega)
  rw [hvl.out] at hv4
  subst hv4
  obtain ⟨G0, CP, hG⟩ := sq_rows S2.out
  have hs1 := B1.out.size
  have hs2 := hb2.size
  have hs4 := hb4.size
  have hw1 : w.heap.size < w1.heap.size := C1.out.lt
  have I0 : FwInv w w.heap.size wb wcap qb c xs G0 CP w4 vs :=
    ⟨fun i hi => (hb4.cell (p := ⟨qb, i, none⟩) (cell_lt (hG i hi).1)).trans (hG i hi).1, fun i hi k hk => by obtain ⟨b', b1, b2⟩ := (hG i hi).2.2.2.2.2 k hk; exact ⟨b', (hb4.cell (p := ⟨G0 i, k, none⟩) (cell_lt b1)).trans b1, b2⟩, hown4.mono (by omega), hvl.out, B2.out.trans (hb4.mono (by omega))⟩
  have HI0 := Lib.hid I0
  have nq : qb ≠ wb := by omega
  have nG : ∀ i, i < c → G0 i ≠ wb := fun i hi => by have := (hG i hi).2.2.2.2.1; omega
  have NG := Lib.hid nG
  have HCP := Lib.hid (fun i (hi : i < c) => (hG i hi).2.1)
  have hwb : w.heap.size ≤ wb := by omega
  clear hG nG I0 hown4 hb4 hb2 LH SQ SG hg2 hg1
  go_step3
  go_wp2
  go_loopw [33] (fun s33 W => ∃ (k : Nat) (X : List (Option Nat)), s33 = .int .i64 (k : Int) ∧ k ≤ c ∧ Hid (FwInv w w.heap.size wb wcap qb c xs G0 CP W X ∧ ∀ i, i < c → X.getD i none = if i < k then (forwT xs c vs c).getD i none else fwL xs c vs i k)) (fun s33 _ => c - (intOf s33).toNat)
  case atStart => exact ⟨0, vs, rfl, Nat.zero_le _, HI0.out, fun i hi => by rw [if_neg (by omega)]; rfl⟩
  case round =>
    obtain ⟨k, X, rfl, hk, HI⟩ := hrel
    by_cases hlt : k < c
    · have hkl : (k : Int) < (c : Int) := by omega
      obtain ⟨x, hx1, hx2⟩ := HI.out.1.own.cell HI.out.1.len hlt
      have fx := HI.out.1.own.frozen HI.out.1.len k
      obtain ⟨d1, hd1, hd2⟩ := HI.out.1.ents k hlt k (by omega)
      have hq1 := HI.out.1.rows k hlt
      have FX := Lib.hid hx2
      have FD := Lib.hid hd2
      have ngk := NG.out k hlt
      have hcpk := HCP.out k hlt
      have ngk' : wb ≠ G0 k := fun e => ngk e.symm
      have nq' : wb ≠ qb := fun e => nq e.symm
      clear hx2 hd2
      have HXK : Hid (X.getD k none = fwL xs c vs k k) := by have := HI.out.2 k hlt; rw [if_neg (by omega)] at this; exact this
      have HFT : Hid ((forwT xs c vs c).getD k none = fdiv (fwL xs c vs k k) (ent xs c k k)) := forwT_at xs c vs hlt
      go_wp2
      go_region
      have hq := opw_div wr.drew FX.out FD.out
      have IP := (HI.out.1.put hwb nq NG.out k hq).keep (below_drewN (Below.refl _ _) (1 + opd (double.div x d1)))
      generalize opw (double.div x d1) x d1 wr.drew = q at *
      generalize (1 + opd (double.div x d1)) = dz at *
      have HFQ : Hid (FW q ((forwT xs c vs c).getD k none)) := by unfold Hid; rw [HFT.out, ← HXK.out]; exact hq
      obtain ⟨X1, hX1⟩ : ∃ X1, X1 = X.set k (fdiv (X.getD k none) (ent xs c k k)) := ⟨_, rfl⟩
      have HX1 : Hid (∀ i, i < c → X1.getD i none = if i ≤ k then (forwT xs c vs c).getD i none else fwL xs c vs i k) := fun i hi => by
        rw [hX1, getD_set]
        by_cases e : i = k
        · rw [if_pos ⟨e, by have := HI.out.1.len; omega⟩, if_pos (by omega), e, HFT.out, HXK.out]
        · rw [if_neg (fun h => e h.1), HI.out.2 i hi]
          by_cases e2 : i < k
          · rw [if_pos e2, if_pos (by omega)]
          · rw [if_neg e2, if_neg (by omega)]
      rw [← hX1] at IP
      have HIP := Lib.hid IP
      obtain ⟨W5, hW5⟩ : ∃ W5, W5 = (wr.setCell ⟨wb, k, none⟩ (.float .f64 q)).drewN dz := ⟨_, rfl⟩
      rw [← hW5] at HIP
      rw [← hW5]
      have hq5 : W5.cell? ⟨wb, k, none⟩ = some (.float .f64 q) := by rw [hW5]; exact cell_set_eq hx1
      have WC := Lib.hid (wild_calls q hq.1)
      have hwf := wildW_F HFQ.out
      clear IP hX1 hW5 hq hx1 fx hd1
      cases hwl : wildF ((forwT xs c vs c).getD k none)
      · rw [hwl] at hwf
        rw [hwf] at WC
        have HWL := Lib.hid hwl
        clear hwf hwl
        go_wp2_with (go_at_call 88; go_must (refine (WC.out _).mono ?_; rintro e w' ⟨rfl, rfl⟩))
        clear hq5 hq1
        go_loopw [10] (fun s10 W => ∃ (i : Nat) (Y : List (Option Nat)), s10 = .int .i64 (i : Int) ∧ k + 1 ≤ i ∧ i ≤ c ∧ Hid (FwInv w w.heap.size wb wcap qb c xs G0 CP W Y ∧ ∀ j, j < c → Y.getD j none = if j ≤ k then (forwT xs c vs c).getD j none else if j < i then fwL xs c vs j (k + 1) else fwL xs c vs j k)) (fun s10 _ => c - (intOf s10).toNat)
        case atStart => exact ⟨k + 1, X1, by go_num, Nat.le_refl _, by omega, HIP.out, fun j hj => by
          rw [HX1.out j hj]
          by_cases e : j ≤ k
          · rw [if_pos e, if_pos e]
          · rw [if_neg e, if_neg e, if_neg (by omega)]⟩
        case round =>
          obtain ⟨i, Y, rfl, hi1, hi2, HJ⟩ := hrel
          by_cases hic : i < c
          · have hil : (i : Int) < (c : Int) := by omega
            obtain ⟨y, hy1, hy2⟩ := HJ.out.1.own.cell HJ.out.1.len hic
            obtain ⟨z, hz1, hz2⟩ := HJ.out.1.own.cell HJ.out.1.len hlt
            obtain ⟨m, hm1, hm2⟩ := HJ.out.1.ents k hlt i (by omega)
            have fy := HJ.out.1.own.frozen HJ.out.1.len i
            have hq1 := HJ.out.1.rows k hlt
            have FY := Lib.hid hy2
            have FZ : Hid (FW z ((forwT xs c vs c).getD k none)) := by have := hz2; rw [HJ.out.2 k hlt, if_pos (Nat.le_refl _)] at this; exact this
            have FM := Lib.hid hm2
            have hY : Hid (Y.getD i none = fwL xs c vs i k) := by have := HJ.out.2 i hic; rw [if_neg (by omega), if_neg (by omega)] at this; exact this
            clear hy2 hz2 hm2
            go_wp2
            go_region
            go_wp2
            go_roundw
            case rel =>
              have hs : FW (opw (double.sub y (opw (double.mul m z) m z wr.drew)) y (opw (double.mul m z) m z wr.drew) (wr.drewN (1 + opd (double.mul m z)))) (fwL xs c vs i (k + 1)) := by
                have := opw_sub (wr.drewN (1 + opd (double.mul m z))) FY.out (opw_mul wr.drew FM.out FZ.out)
                rw [hY.out] at this
                exact this
              refine ⟨i + 1, Y.set i (fwL xs c vs i (k + 1)), by go_num, by omega, by omega, (HJ.out.1.put hwb nq NG.out i hs).keep (below_drewN (Below.refl _ _) _), fun j hj => ?_⟩
              rw [getD_set]
              by_cases e : j = i
              · rw [if_pos ⟨e, by have := HJ.out.1.len; omega⟩, if_neg (by omega), if_pos (by omega), e]
              · rw [if_neg (fun h => e h.1), HJ.out.2 j hj]
                by_cases e1 : j ≤ k
                · rw [if_pos e1, if_pos e1]
                · rw [if_neg e1, if_neg e1]
                  by_cases e2 : j < i
                  · rw [if_pos e2, if_pos (by omega)]
                  · rw [if_neg e2, if_neg (by omega)]
            case measure => first | (simp [intOf]; done) | (simp [intOf]; omega)
          · have hil : ¬ (i : Int) < (c : Int) := by omega
            go_wp2
            go_roundw
            case rel => exact ⟨k + 1, Y, by go_num, by omega, HJ.out.1, fun j hj => by
              rw [HJ.out.2 j hj]
              by_cases e : j ≤ k
              · rw [if_pos e, if_pos (by omega)]
              · rw [if_neg e, if_pos (by omega), if_neg (by omega)]⟩
            case measure => first | (simp [intOf]; done) | (simp [intOf]; omega)
      · rw [hwl] at hwf
        rw [hwf] at WC
        have e1 := forw_wild hlt hwl
        have e2 : answD X1 = ([], 2) := answ_wild (k := k) (by rw [HIP.out.len]; exact hlt) (by rw [HX1.out k hlt, if_pos (Nat.le_refl _)]; exact hwl)
        have AN := Lib.hid (answer_calls (some ⟨wb, 0, none⟩) c wcap X1 W5 HIP.out.own.row)
        rw [e2] at AN
        have E1 := Lib.hid e1
        clear hwf hwl e1 e2
        go_wp2_with (first
          | (go_at_call 88; go_must (refine (WC.out _).mono ?_; rintro e w' ⟨rfl, rfl⟩))
          | (go_at_call 51; go_must (refine AN.out.mono ?_; rintro e w' ⟨⟨pa, pn, pcp, rfl, hrow⟩, rfl⟩)))
        rw [Exit.noGoto_ret]
        go_ret2
        exact ⟨by rw [E1.out]; exact ⟨pa, pn, pcp, rfl, hrow⟩, HIP.out.below⟩
    · have hkl : ¬ (k : Int) < (c : Int) := by omega
      obtain rfl : k = c := by omega
      have hX := forw_all (fun m hm => by have := HI.out.2 m hm; rw [if_pos hm] at this; exact this) HI.out.1.len
      have AN := Lib.hid (answer_calls (some ⟨wb, 0, none⟩) k wcap X wr HI.out.1.own.row)
      rw [hX] at AN
      clear hX
      go_wp2_with (go_at_call 51; go_must (refine AN.out.mono ?_; rintro e w' ⟨⟨pa, pn, pcp, rfl, hrow⟩, rfl⟩))
      rw [Exit.noGoto_ret]
      go_ret2
      exact ⟨⟨pa, pn, pcp, rfl, hrow⟩, HI.out.1.below⟩
end Go.Proofs.YtnboegeljaplbaaGreat
namespace Go.Proofs.YtnboegeljaplbaaGreat
open Go.RowKit Lv Go.Shelf
open Ieee (double Format Datum Toward)
attribute [local go_sem] Oper.semAt_some run_store_float drewN_alloc drewN_setCell

/-- what solve.Forward comes to -/
theorem forw_calls (F : FacD) (a b : Option Addr) (n cap m d : Nat) (vs : List (Option Nat)) (w : World) (h : Row w (.slice a n cap) F.xs) (hv : Row w (.slice b m d) vs) :
    Calls Tryz.prog 43 #[.agg #[.int .i64 F.cols, .slice a n cap, .int .i64 F.rws, .int .i64 F.trn], .slice b m d] w fun e w' => LstE (forwD F vs) e w' ∧ Below w.heap.size w w' := by
  have hB := (Below.refl w.heap.size w).alloc (Nat.le_refl _) (.cells #[.int .i64 F.cols, .slice a n cap, .int .i64 F.rws, .int .i64 F.trn] 28)
  have HB := Lib.hid hB
  have HR := Lib.hid h
  have hvl := hv.len
  have L := check_calls F.cols F.rws F.trn a n cap F.xs _ (h.below hB)
  have HC := Lib.hid (Cells4.new w (.int .i64 F.cols) (.slice a n cap) (.int .i64 F.rws) (.int .i64 F.trn) 28)
  cases hok : F.ok
  · have e : forwD F vs = ([], 1) := by unfold forwD; rw [if_pos (.inl hok)]
    rw [e]
    rw [show checkP F.cols F.xs F.rws F.trn = false from hok] at L
    have LH := Lib.hid L
    clear L h hv hB hok e hvl
    go_enter Tryz.func43, Tryz.ntmps43
    go_wp2
    go_step3
    go_wp2_with (go_at_call 28; go_must (refine LH.out.mono ?_; rintro e w1 ⟨rfl, hb⟩))
    rw [Exit.noGoto_ret]
    go_ret2
    exact ⟨⟨none, 0, 0, rfl, row_nil _⟩, HB.out.trans (hb.mono (by simp))⟩
  · rw [show checkP F.cols F.xs F.rws F.trn = true from hok] at L
    by_cases hm : (m : Int) ≠ F.cols
    · have e : forwD F vs = ([], 1) := by unfold forwD; rw [if_pos (.inr (by omega))]
      rw [e]
      have LH := Lib.hid L
      have hne : ((m : Int) != F.cols) = true := by simpa using hm
      clear L h hv hB hok e hvl hm
      go_enter Tryz.func43, Tryz.ntmps43
      go_wp2
      go_step3
      go_wp2_with (go_at_call 28; go_must (refine LH.out.mono ?_; rintro e w1 ⟨rfl, hb⟩; have C1 := Lib.hid (HC.out.below hb); obtain ⟨c0, c1, c2, c3, _, _, _, _⟩ := C1.out))
      rw [Exit.noGoto_ret]
      go_ret2
      exact ⟨⟨none, 0, 0, rfl, row_nil _⟩, HB.out.trans (hb.mono (by simp))⟩
    · obtain ⟨cols, xs, rws, trn⟩ := F
      have hck : checkP cols xs rws trn = true := hok
      obtain ⟨hc1, hc6⟩ := checkP_cols hck
      obtain ⟨c, rfl⟩ := Int.eq_ofNat_of_zero_le (show 0 ≤ cols by omega)
      dsimp only at h L HR HB HC hm ⊢
      obtain rfl : m = c := by omega
      have hno : ¬ ((⟨(m : Int), xs, rws, trn⟩ : FacD).ok = false ∨ (vs.length : Int) ≠ (⟨(m : Int), xs, rws, trn⟩ : FacD).cols) := by
        rintro (e | e)
        · rw [hok] at e; cases e
        · exact e (by dsimp only; omega)
      cases hs : singD xs m
      · have e : forwD ⟨(m : Int), xs, rws, trn⟩ vs = answD (forwT xs m vs m) := by unfold forwD; rw [if_neg hno]; dsimp only; rw [Int.toNat_natCast, if_neg (by rw [hs]; decide)]
        rw [e]
        exact forw_yes m rws trn a b n cap d xs vs w h hv hck hs
      · have e : forwD ⟨(m : Int), xs, rws, trn⟩ vs = ([], 7) := by unfold forwD; rw [if_neg hno]; dsimp only; rw [Int.toNat_natCast, if_pos hs]
        rw [e]
        have LH := Lib.hid L
        have SQ := Lib.hid (fun W hW => square_calls m rws trn a n cap xs W hW hck)
        have SG := Lib.hid (fun W B qb hW => by have := singular_calls B qb m xs W (by omega) hW; rw [hs] at this; exact this)
        have hne : ((m : Int) != (m : Int)) = false := by simp
        clear L h hv hB hok e hck hs hno hm hvl
        go_enter Tryz.func43, Tryz.ntmps43
        go_wp2
        go_step3
        go_wp2_with (first
          | (go_at_call 28; go_must (refine LH.out.mono ?_; rintro e w1 ⟨rfl, hb⟩; have B1 := Lib.hid (HB.out.trans (hb.mono (by simp))); have C1 := Lib.hid (HC.out.below hb); obtain ⟨c0, c1, c2, c3, _, _, _, _⟩ := C1.out; clear hb))
          | (go_at_call 47; go_must (refine (SQ.out _ (HR.out.below B1.out)).mono ?_; rintro e w2 ⟨⟨qb, xb, L, rfl, hsq, hqx, hq0, hx0, hx1, hq1, hown, hll, hlast, hsz⟩, hb2⟩; have S2 := Lib.hid hsq; have B2 := Lib.hid (B1.out.trans (hb2.mono B1.out.size)); clear c0 c1 c2 c3 hsq hown hlast))
          | (go_at_call 48; go_must (refine (SG.out _ _ qb S2.out).mono ?_; rintro e w3 ⟨rfl, rfl⟩)))
        rw [Exit.noGoto_ret]
        go_ret2
        exact ⟨⟨none, 0, 0, rfl, row_nil _⟩, B2.out⟩
/-- with a ridge -/
def sridgeD (F : FacD) (mu : Option Nat) : List (Option Nat) × Int := if (ridgeD F mu).2 ≠ 0 then ([], (ridgeD F mu).2) else backD (ridgeD F mu).1
theorem sridge_calls (F : FacD) (a : Option Addr) (n cap y : Nat) {mu : Option Nat} (w : World) (h : Row w (.slice a n cap) F.xs) (hy : FW y mu) :
    Calls Tryz.prog 14 #[.agg #[.int .i64 F.cols, .slice a n cap, .int .i64 F.rws, .int .i64 F.trn], .float .f64 y] w fun e w' => LstE (sridgeD F mu) e w' ∧ Below w.heap.size w w' := by
  have hB := (Below.refl w.heap.size w).alloc (Nat.le_refl _) (.cells #[.int .i64 F.cols, .slice a n cap, .int .i64 F.rws, .int .i64 F.trn] 28)
  have HB := Lib.hid hB
  have AR := aridge_calls F a n cap y _ (h.below hB) hy
  have HC := Lib.hid (Cells4.new w (.int .i64 F.cols) (.slice a n cap) (.int .i64 F.rws) (.int .i64 F.trn) 28)
  have E : Hid (sridgeD F mu = if (ridgeD F mu).2 ≠ 0 then ([], (ridgeD F mu).2) else backD (ridgeD F mu).1) := rfl
  generalize sridgeD F mu = D at *
  obtain ⟨R, hR⟩ : ∃ R, R = ridgeD F mu := ⟨_, rfl⟩
  rw [← hR] at E AR
  obtain ⟨G, ge⟩ := R
  dsimp only at E AR
  have ARH := Lib.hid AR
  clear AR hR h hB
  by_cases hge : ge ≠ 0
  · have E2 : Hid (D = ([], ge)) := by unfold Hid; rw [E.out, if_pos hge]
    have hne : (ge != 0) = true := by simpa using hge
    clear hge E
    go_enter Tryz.func14, Tryz.ntmps14
    go_wp2_with (go_at_call 15; go_must (refine ARH.out.mono ?_; rintro e w2 ⟨⟨ga, gn, gcp, he, hrow⟩, hb2⟩; dsimp only at he; subst he; have B2 := Lib.hid (HB.out.trans (hb2.mono HB.out.size)); have C2 := Lib.hid (HC.out.below hb2); obtain ⟨c0, c1, c2, c3, f0, f1, f2, f3⟩ := C2.out; clear hrow hb2))
    go_ret2
    exact ⟨by rw [E2.out]; exact ⟨none, 0, 0, rfl, row_nil _⟩, below_put4 B2.out (Nat.le_refl _) _ _ _ _⟩
  · obtain rfl : ge = 0 := by simpa using hge
    have E2 : Hid (D = backD G) := by unfold Hid; rw [E.out, if_neg hge]
    clear hge E
    have BK := Lib.hid (fun ga gn gcp W hW => back_calls G ga gn gcp W hW)
    go_enter Tryz.func14, Tryz.ntmps14
    go_wp2_with (first
      | (go_at_call 15; go_must (refine ARH.out.mono ?_; rintro e w2 ⟨⟨ga, gn, gcp, he, hrow⟩, hb2⟩; dsimp only at he; subst he; have B2 := Lib.hid (HB.out.trans (hb2.mono HB.out.size)); have C2 := Lib.hid (HC.out.below hb2); obtain ⟨c0, c1, c2, c3, f0, f1, f2, f3⟩ := C2.out; have R2 := Lib.hid (hrow.put4 C2.out slice_ne (.int .i64 G.cols) (.slice ga gn gcp) (.int .i64 G.rws) (.int .i64 G.trn)); have B3 := Lib.hid (below_put4 B2.out (Nat.le_refl _) (.int .i64 G.cols) (.slice ga gn gcp) (.int .i64 G.rws) (.int .i64 G.trn)); clear hrow hb2))
      | (go_at_call 16; go_must (refine (BK.out ga gn gcp _ R2.out).mono ?_; rintro e w3 ⟨⟨pa, pn, pcp, rfl, hrow3⟩, hb3⟩)))
    go_ret2
    exact ⟨by rw [E2.out]; exact ⟨pa, pn, pcp, rfl, hrow3⟩, B3.out.trans (hb3.mono B3.out.size)⟩
theorem row_pair {W : World} {a : Option Addr} {n cap x y : Nat} (h : Row W (.slice a n cap) [some x, some y]) :
    ∃ blk off, a = some ⟨blk, off, none⟩ ∧ n = 2 ∧ W.cell? ⟨blk, off, none⟩ = some (.float .f64 x) ∧ W.cell? ⟨blk, off + 1, none⟩ = some (.float .f64 y) := by
  have hn := h.len
  simp at hn
  subst hn
  obtain ⟨blk, off, rfl, hc⟩ := row_cell h (by omega)
  obtain ⟨p, hp1, hp2⟩ := hc 0 (by omega)
  obtain ⟨q, hq1, hq2⟩ := hc 1 (by omega)
  obtain ⟨rfl, _⟩ := ab_some hp2.2
  obtain ⟨rfl, _⟩ := ab_some hq2.2
  exact ⟨blk, off, rfl, rfl, hp1, hq1⟩
theorem row_single {W : World} {a : Option Addr} {n cap x : Nat} (h : Row W (.slice a n cap) [some x]) :
    ∃ blk off, a = some ⟨blk, off, none⟩ ∧ n = 1 ∧ W.cell? ⟨blk, off, none⟩ = some (.float .f64 x) := by
  have hn := h.len
  simp at hn
  subst hn
  obtain ⟨blk, off, rfl, hc⟩ := row_cell h (by omega)
  obtain ⟨p, hp1, hp2⟩ := hc 0 (by omega)
  obtain ⟨rfl, _⟩ := ab_some hp2.2
  exact ⟨blk, off, rfl, rfl, hp1⟩
abbrev FS2 : FacD := ⟨2, [some 4611686018427387904, some 4607182418800017408, some 4617315517961601024, some 4616189618054758400, some 4620693217682128896, some 4613937818241073152], 4, 0⟩
abbrev FS1 : FacD := ⟨1, [some 0, some 4607182418800017408, some 4607182418800017408], 0, 0⟩
theorem live16_a : backD FS2 = ([some 4609434218613702656, some 4611686018427387904], 0) := by decide +kernel
theorem live16_b : forwD FS2 [some 4616189618054758400, some 4621819117588971520] = ([some 4611686018427387904, some 4611686018427387904], 0) := by decide +kernel
theorem live16_c : backD FS1 = ([], 7) := by decide +kernel
theorem live16_d : sridgeD FS1 (some 4611686018427387904) = ([some 0], 0) := by decide +kernel
theorem live16_e : forwD FS2 [] = ([], 1) := by decide +kernel
end Go.Proofs.YtnboegeljaplbaaGreat
namespace Go.Proofs.YtnboegeljaplbaaGreat
open Go.RowKit Lv Go.Shelf
open Ieee (double Format Datum Toward)
attribute [local go_sem] Oper.semAt_some run_store_float drewN_alloc drewN_setCell

set_option maxRecDepth 100000 in
set_option maxHeartbeats 4000000 in
theorem live16_calls (w : World) : Calls Tryz.prog 13 #[] w fun e w' => e = .returned (.bool true) ∧ Below w.heap.size w w' := by
  have AB := Lib.hid (fun a n cap W hW => by have := back_calls FS2 a n cap W hW; rw [live16_a] at this; exact this)
  have AF := Lib.hid (fun a n cap b m d W hW hV => by have := forw_calls FS2 a b n cap m d [some 4616189618054758400, some 4621819117588971520] W hW hV; rw [live16_b] at this; exact this)
  have AC := Lib.hid (fun a n cap W hW => by have := back_calls FS1 a n cap W hW; rw [live16_c] at this; exact this)
  have AD := Lib.hid (fun a n cap W hW => by have := sridge_calls FS1 a n cap 4611686018427387904 W hW (fw_lit 4611686018427387904 (by unfold W64; decide) (by decide)); rw [live16_d] at this; exact this)
  have AE := Lib.hid (fun a n cap W hW => by have := forw_calls FS2 a none n cap 0 0 [] W hW (row_nil W); rw [live16_e] at this; exact this)
  dsimp only at AB AF AC AD AE
  go_enter Tryz.func13, Tryz.ntmps13
  go_upto_region 1 with (fail)
  go_cut [1] from 12 to 13 (fun s1 wx => ∃ b1 : Nat, s1 = .pointer (some ⟨b1, 0, none⟩) ∧ FacAt wx b1 FS2 ∧ Below w.heap.size w wx)
  case first =>
    go_wp2
    go_meet
    case rel => exact ⟨_, rfl, FacAt.new' (F := FS2) (row_lits w [4611686018427387904, 4607182418800017408, 4617315517961601024, 4616189618054758400, 4620693217682128896, 4613937818241073152] (by decide) 6 rfl (by decide)) (by simp), ((Below.refl _ _).alloc (Nat.le_refl _) _).alloc (by simp) _⟩
  case rest =>
    obtain ⟨b1, rfl, F1, B1⟩ := hcut
    obtain ⟨W1, rfl⟩ : ∃ x, x = wc := ⟨_, rfl⟩
    obtain ⟨fa, fn, fc, fC, fR⟩ := F1
    have C1 := Lib.hid fC
    have R1 := Lib.hid fR
    have B1 := Lib.hid B1
    obtain ⟨c0, c1, c2, c3, _, _, _, _⟩ := fC
    dsimp only at c0 c1 c2 c3
    clear fR
    go_upto_region 3 with (go_at_call 16; go_must (refine (AB.out fa fn fc _ R1.out).mono ?_; rintro e w2 ⟨⟨pa, pn, pcp, rfl, hp⟩, hb2⟩; dsimp only at hp; have RP := Lib.hid hp; have C2 := Lib.hid (C1.out.below hb2); have R2 := Lib.hid (R1.out.below hb2); have B2 := Lib.hid (B1.out.trans (hb2.mono B1.out.size)); clear hp hb2 c0 c1 c2 c3; obtain ⟨c0, c1, c2, c3, _, _, _, _⟩ := C2.out))
    have RV := Lib.hid (row_lits w2 [4616189618054758400, 4621819117588971520] (by decide) 2 rfl (by decide))
    have BV := Lib.hid ((Below.refl w2.heap.size w2).alloc (Nat.le_refl _) (.cells #[.float .f64 4616189618054758400, .float .f64 4621819117588971520] 42))
    go_upto_region 4 with (go_at_call 43; go_must (refine (AF.out fa fn fc _ 2 2 _ (R2.out.below BV.out) RV.out).mono ?_; rintro e w3 ⟨⟨qa, qn, qcp, rfl, hq⟩, hb3⟩; dsimp only at hq; have RQ := Lib.hid hq; have B23 := Lib.hid (BV.out.trans (hb3.mono BV.out.size)); clear hq hb3))
    have RP3 := Lib.hid (RP.out.below B23.out)
    have C3 := Lib.hid (C2.out.below B23.out)
    have R3 := Lib.hid (R2.out.below B23.out)
    have B3 := Lib.hid (B2.out.trans (B23.out.mono B2.out.size))
    clear c0 c1 c2 c3
    have RF := Lib.hid (row_lits w3 [0, 4607182418800017408, 4607182418800017408] (by decide) 3 rfl (by decide))
    have BF := Lib.hid ((Below.refl w3.heap.size w3).alloc (Nat.le_refl _) (.cells #[.float .f64 0, .float .f64 4607182418800017408, .float .f64 4607182418800017408] 42))
    go_upto_region 5 with (go_at_call 16; go_must (refine (AC.out _ 3 3 _ RF.out).mono ?_; rintro e w4 ⟨⟨ra, rn, rcp, rfl, hr⟩, hb4⟩; dsimp only at hr; have B34 := Lib.hid (BF.out.trans (hb4.mono BF.out.size)); clear hr hb4))
    have RP4 := Lib.hid (RP3.out.below B34.out)
    have RQ4 := Lib.hid (RQ.out.below B34.out)
    have C4 := Lib.hid (C3.out.below B34.out)
    have R4 := Lib.hid (R3.out.below B34.out)
    have B4 := Lib.hid (B3.out.trans (B34.out.mono B3.out.size))
    have RG := Lib.hid (row_lits w4 [0, 4607182418800017408, 4607182418800017408] (by decide) 3 rfl (by decide))
    have BG := Lib.hid ((Below.refl w4.heap.size w4).alloc (Nat.le_refl _) (.cells #[.float .f64 0, .float .f64 4607182418800017408, .float .f64 4607182418800017408] 42))
    go_upto_region 6 with (go_at_call 14; go_must (refine (AD.out _ 3 3 _ RG.out).mono ?_; rintro e w5 ⟨⟨ta, tn, tcp, rfl, ht⟩, hb5⟩; dsimp only at ht; have RT := Lib.hid ht; have B45 := Lib.hid (BG.out.trans (hb5.mono BG.out.size)); clear ht hb5))
    have RP5 := Lib.hid (RP4.out.below B45.out)
    have RQ5 := Lib.hid (RQ4.out.below B45.out)
    have C5 := Lib.hid (C4.out.below B45.out)
    have R5 := Lib.hid (R4.out.below B45.out)
    have B5 := Lib.hid (B4.out.trans (B45.out.mono B4.out.size))
    obtain ⟨c0, c1, c2, c3, _, _, _, _⟩ := C5.out
    go_upto_region 7 with (go_at_call 43; go_must (refine (AE.out fa fn fc _ R5.out).mono ?_; rintro e w6 ⟨⟨va, vn, vcp, rfl, hv⟩, hb6⟩; dsimp only at hv; have B56 := Lib.hid hb6; clear hv hb6))
    have B6 := Lib.hid (B5.out.trans (B56.out.mono B5.out.size))
    obtain ⟨pb, po, rfl, rfl, p0, p1⟩ := row_pair (RP5.out.below B56.out)
    obtain ⟨qb, qo, rfl, rfl, q0, q1⟩ := row_pair (RQ5.out.below B56.out)
    obtain ⟨tb, to', rfl, rfl, t0⟩ := row_single (RT.out.below B56.out)
    have o1 : (FloatKind.f64.format.order 4609434218613702656 4609434218613702656 == some Ordering.eq) = true := by decide +kernel
    have o2 : (FloatKind.f64.format.order 4611686018427387904 4611686018427387904 == some Ordering.eq) = true := by decide +kernel
    have o3 : (FloatKind.f64.format.order 0 0 == some Ordering.eq) = true := by decide +kernel
    clear c0 c1 c2 c3
    go_wp2
    go_ret
    exact ⟨rfl, B6.out⟩

end Go.Proofs.YtnboegeljaplbaaGreat
