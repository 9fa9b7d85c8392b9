/- Rows taken out one by one: the program's All, the reference's, walked. -/
import Derived.Test.YtfohknalldelfaaDoorTk
import Derived.Test.YtfohknalldelfaaDoorSm
namespace Go.Proofs.YtfohknalldelfaaDoor
open Go.RowKit Lv Go.Shelf
open Ieee (double Format Datum Toward)
attribute [local go_sem] Oper.semAt_some run_store_float drewN_alloc drewN_setCell

/-- rows taken out one by one, k of them already -/
def sAllLoop : Nat → FacD → List RowD → FacD × Int × Int
  | k, F, [] => (F, (k : Int), 0)
  | k, F, r :: rs => if (sRowD F r.1 r.2).2 ≠ 0 then (F, (k : Int), (sRowD F r.1 r.2).2) else sAllLoop (k + 1) (sRowD F r.1 r.2).1 rs
def sAllD (F : FacD) (rs : List RowD) : FacD × Int × Int := if F.ok = false then (fac0, 0, 1) else sAllLoop 0 F rs
theorem sall_step {k : Nat} {G : FacD} {rs : List RowD} {R : FacD × Int × Int} (hk : k < rs.length) (h : sAllLoop k G (rs.drop k) = R) :
    ((sRowD G (rs.getD k ([], none)).1 (rs.getD k ([], none)).2).2 ≠ 0 ∧ R = (G, (k : Int), (sRowD G (rs.getD k ([], none)).1 (rs.getD k ([], none)).2).2)) ∨
    ((sRowD G (rs.getD k ([], none)).1 (rs.getD k ([], none)).2).2 = 0 ∧ sAllLoop (k + 1) (sRowD G (rs.getD k ([], none)).1 (rs.getD k ([], none)).2).1 (rs.drop (k + 1)) = R) := by
  have e : rs.getD k ([], none) = rs[k] := by rw [List.getD_eq_getElem?_getD, List.getElem?_eq_getElem hk]; rfl
  rw [e]
  rw [List.drop_eq_getElem_cons hk] at h
  unfold sAllLoop at h
  by_cases h2 : (sRowD G rs[k].1 rs[k].2).2 ≠ 0
  · rw [if_pos h2] at h; exact .inl ⟨h2, h.symm⟩
  · rw [if_neg h2] at h; exact .inr ⟨by simpa using h2, h⟩

/-- what stands at the loop's head -/
structure SNInv (w : World) (R : FacD × Int × Int) (rs : List RowD) (t : Option Addr) (tn tc : Nat) (W : World) (k : Nat) (G : FacD) (a : Option Addr) (n cap : Nat) : Prop where
  c2 : Cells4 W w.heap.size (.int .i64 G.cols) (.slice a n cap) (.int .i64 G.rws) (.int .i64 G.trn)
  c4 : Cells4 W (w.heap.size + 1) (.int .i64 0) (.slice none 0 0) (.int .i64 0) (.int .i64 0)
  row : Row W (.slice a n cap) G.xs
  rws : Rws W (.slice t tn tc) rs
  eq : sAllLoop k G (rs.drop k) = R
  below : Below w.heap.size w W

set_option maxRecDepth 100000 in
set_option maxHeartbeats 2000000 in
theorem sall_calls (F : FacD) (a t : Option Addr) (n cap tn tc : Nat) (rs : List RowD) (w : World) (a0 a1 a2 : Addr) (LD : Laid w a0 a1 a2) (h : Row w (.slice a n cap) F.xs) (hl : Rws w (.slice t tn tc) rs) :
    Calls Tryd.prog 16 #[.agg #[.int .i64 F.cols, .slice a n cap, .int .i64 F.rws, .int .i64 F.trn], .slice t tn tc] w fun e w' => FacN (sAllD F rs) e w' ∧ Below w.heap.size w w' := by
  have hB := ((Below.refl w.heap.size w).alloc (Nat.le_refl _) (.cells #[.int .i64 F.cols, .slice a n cap, .int .i64 F.rws, .int .i64 F.trn] 24)).alloc (by simp) (.cells #[.int .i64 0, .slice none 0 0, .int .i64 0, .int .i64 0] 24)
  have L := check_calls F.cols F.rws F.trn a n cap F.xs _ (h.below hB)
  have HB := Lib.hid hB
  have HR := Lib.hid h
  have HS := Lib.hid hl
  have HLD := Lib.hid LD
  clear LD
  obtain ⟨hn1, hn2⟩ := hl.len
  have HN := Lib.hid hn1
  obtain ⟨res, hres⟩ : ∃ res, res = sAllD F rs := ⟨_, rfl⟩
  rw [← hres]
  unfold sAllD at hres
  by_cases h1 : F.ok = false
  · rw [if_pos h1] at hres
    subst hres
    rw [show checkP F.cols F.xs F.rws F.trn = false from h1] at L
    have LH := Lib.hid L
    obtain ⟨cols, xs, rws, trn⟩ := F
    clear h1 L h hl hB hn1
    have hB := HB
    clear HB
    dsimp only at *
    go_enter Tryd.func16, Tryd.ntmps16
    go_wp2_with (first | (go_at_call 18; refine LH.out.mono ?_; rintro e w1 ⟨rfl, hb⟩; obtain ⟨hq, hf⟩ := bcell hb; have hC := Lib.hid (hB.out.trans (hb.mono (by simp; omega)))))
    exact bodyPost_ret (v := .tuple #[facZ, .int .i64 0, .int .i64 1]) (by simp [results, Tryd.results16, go_sem, hq, facZ]) rfl ⟨facN_no _ _ rfl, below_put4 hC.out (by omega) _ _ _ _⟩
  · have hok : F.ok = true := by simpa using h1
    rw [if_neg h1] at hres
    rw [show checkP F.cols F.xs F.rws F.trn = true from hok] at L
    have LH := Lib.hid L
    have HRES := Lib.hid hres
    clear h1 L h hl hB hn1 hok hres
    have hB := HB
    clear HB
    go_enter Tryd.func16, Tryd.ntmps16
    go_wp2_with (first | (go_at_call 18; refine LH.out.mono ?_; rintro e w1 ⟨rfl, hb⟩; obtain ⟨hq, hf⟩ := bcell hb; have hz := hb.size; simp at hz; have hz1 : w.heap.size < w1.heap.size := (by omega); have hz2 : w.heap.size + 1 < w1.heap.size := (by omega); have hC := Lib.hid (hB.out.trans (hb.mono (by simp; omega)))))
    have C2 : Cells4 w1 w.heap.size (.int .i64 F.cols) (.slice a n cap) (.int .i64 F.rws) (.int .i64 F.trn) := ((Cells4.new w (.int .i64 F.cols) (.slice a n cap) (.int .i64 F.rws) (.int .i64 F.trn) 24).alloc (.cells #[.int .i64 0, .slice none 0 0, .int .i64 0, .int .i64 0] 24)).below hb
    have C4 : Cells4 w1 (w.heap.size + 1) (.int .i64 0) (.slice none 0 0) (.int .i64 0) (.int .i64 0) := by
      have := (Cells4.new (w.alloc (.cells #[.int .i64 F.cols, .slice a n cap, .int .i64 F.rws, .int .i64 F.trn] 24)) (.int .i64 0) (.slice none 0 0) (.int .i64 0) (.int .i64 0) 24).below hb
      simpa using this
    have IN : SNInv w res rs t tn tc w1 0 F a n cap := ⟨C2, C4, HR.out.below hC.out, HS.out.below hC.out, HRES.out.symm, hC.out⟩
    clear C2 C4 hq hf hb
    go_loopw [17] (fun s17 wr => ∃ (k : Nat) (G : FacD) (a' : Option Addr) (n' cap' : Nat), s17 = .int .i64 (k : Int) ∧ k ≤ tn ∧ SNInv w res rs t tn tc wr k G a' n' cap') (fun s17 _ => tn - (intOf s17).toNat)
    case atStart => exact ⟨0, F, a, n, cap, rfl, Nat.zero_le _, IN⟩
    case round =>
      obtain ⟨k, G, a', n', cap', rfl, hk, I⟩ := hrel
      have HI := Lib.hid I
      obtain ⟨c20, c21, c22, c23, f20, f21, f22, f23⟩ := I.c2
      obtain ⟨c40, c41, c42, c43, f40, f41, f42, f43⟩ := I.c4
      have hs1 := I.below.size
      have hl4 := I.c4.lt
      have hl2 : w.heap.size < wr.heap.size := by omega
      clear I
      by_cases hkn : k < tn
      · have hki : (k : Int) < (tn : Int) := by omega
        obtain ⟨blk, off, rfl, hc⟩ := HI.out.rws.at (by omega)
        obtain ⟨b, m, d, y, k1, k2, k3, k4⟩ := hc k hkn
        have HK3 := Lib.hid k3
        have HK4 := Lib.hid k4
        clear hc k3 k4
        have ST := sall_step (by rw [HN.out]; exact hkn) HI.out.eq
        have AR := fun W ld h h' => srow_calls G a' b n' cap' m d y (rs.getD k ([], none)).1 (Y := (rs.getD k ([], none)).2) W a0 a1 a2 ld h h' HK4.out
        have HI3 := Lib.hid (HI.out.below)
        have HI4 := Lib.hid (HI.out.c4)
        have HI2 := Lib.hid (HI.out.c2)
        have HIr := Lib.hid (HI.out.row)
        clear HI
        generalize sRowD G (rs.getD k ([], none)).1 (rs.getD k ([], none)).2 = D at *
        obtain ⟨⟨gc, gx, gr, gt⟩, ge⟩ := D
        obtain ⟨cc, cx, cr, ct⟩ := G
        dsimp only at *
        have AR2 := Lib.hid AR
        clear AR
        rcases ST with ⟨e2, eR⟩ | ⟨e2, eR⟩
        · have hne : (ge != 0) = true := by simpa using e2
          subst eR
          clear e2
          go_wp2_with (go_at_call 13; go_must (refine (AR2.out _ (HLD.out.below (HI3.out.alloc hs1 _)) (HIr.out.alloc _) (HK3.out.alloc _)).mono ?_; rintro e wL ⟨⟨ga, gn, gcp, rfl, hrow⟩, hbL⟩; have BL := Lib.hid ((HI3.out.alloc hs1 (.cells #[.slice b m d, .float .f64 y] 33)).trans (hbL.mono (by simp; omega))); have E2 := Lib.hid ((HI2.out.alloc _).below hbL); have E4 := Lib.hid ((HI4.out.alloc _).below hbL); obtain ⟨m0, m1, m2, m3, n0, n1, n2, n3⟩ := E4.out; obtain ⟨q0, q1, q2, q3, u0, u1, u2, u3⟩ := E2.out; have hzL := hbL.size; simp at hzL; have hzM : w.heap.size < wL.heap.size := (by omega); have hzN : w.heap.size + 1 < wL.heap.size := (by omega); have hrO := Lib.hid ((HIr.out.alloc (.cells #[.slice b m d, .float .f64 y] 33)).below hbL)))
          have P4 := E4.out.put (.int .i64 cc) (.slice a' n' cap') (.int .i64 cr) (.int .i64 ct)
          exact bodyPost_ret (v := .tuple #[.agg #[.int .i64 cc, .slice a' n' cap', .int .i64 cr, .int .i64 ct], .int .i64 (k : Int), .int .i64 ge]) (by simp [results, Tryd.results16, go_sem, P4.c0, P4.c1, P4.c2, P4.c3, hzN]) rfl ⟨⟨a', n', cap', rfl, (hrO.out.put4 E4.out slice_ne _ _ _ _).alloc _⟩, (below_put4 BL.out (by omega) _ _ _ _).alloc (by simp; omega) _⟩
        · subst e2
          have ER := Lib.hid eR
          clear eR
          go_wp2_with (go_at_call 13; go_must (refine (AR2.out _ (HLD.out.below (HI3.out.alloc hs1 _)) (HIr.out.alloc _) (HK3.out.alloc _)).mono ?_; rintro e wL ⟨⟨ga, gn, gcp, rfl, hrow⟩, hbL⟩; have BL := Lib.hid ((HI3.out.alloc hs1 (.cells #[.slice b m d, .float .f64 y] 33)).trans (hbL.mono (by simp; omega))); have E2 := Lib.hid ((HI2.out.alloc _).below hbL); have E4 := Lib.hid ((HI4.out.alloc _).below hbL); obtain ⟨q0, q1, q2, q3, u0, u1, u2, u3⟩ := E2.out; have hzL := hbL.size; simp at hzL; have hzM : w.heap.size < wL.heap.size := (by omega); have hzN : w.heap.size + 1 < wL.heap.size := (by omega); have HRW := Lib.hid hrow; clear hrow))
          have P2 := E2.out.put (.int .i64 gc) (.slice ga gn gcp) (.int .i64 gr) (.int .i64 gt)
          have P4 := E4.out.put_other (b' := w.heap.size) (by omega) (.int .i64 gc) (.slice ga gn gcp) (.int .i64 gr) (.int .i64 gt)
          have BB := (below_put4 BL.out (Nat.le_refl _) (.int .i64 gc) (.slice ga gn gcp) (.int .i64 gr) (.int .i64 gt)).alloc (by simp; omega) (.cells #[.int .i64 gc, .slice ga gn gcp, .int .i64 gr, .int .i64 gt] 24)
          go_roundw
          case rel => exact ⟨k + 1, ⟨gc, gx, gr, gt⟩, ga, gn, gcp, by go_num, by omega, P2.alloc _, P4.alloc _, (HRW.out.put4 E2.out slice_ne _ _ _ _).alloc _, HS.out.below BB, ER.out, BB⟩
          case measure => simp [intOf]; omega
      · obtain rfl : k = tn := by omega
        have eR := HI.out.eq
        rw [List.drop_of_length_le (by rw [HN.out]; exact Nat.le_refl _)] at eR
        obtain rfl : res = (G, (k : Int), 0) := eR.symm
        have hrO := Lib.hid HI.out.row
        have E4 := Lib.hid HI.out.c4
        have BL := Lib.hid HI.out.below
        clear eR HRES HI
        obtain ⟨cc, cx, cr, ct⟩ := G
        dsimp only at *
        go_wp2
        have P4 := E4.out.put (.int .i64 cc) (.slice a' n' cap') (.int .i64 cr) (.int .i64 ct)
        exact bodyPost_ret (v := .tuple #[.agg #[.int .i64 cc, .slice a' n' cap', .int .i64 cr, .int .i64 ct], .int .i64 (k : Int), .int .i64 0]) (by simp [results, Tryd.results16, go_sem, P4.c0, P4.c1, P4.c2, P4.c3]) rfl ⟨⟨a', n', cap', rfl, hrO.out.put4 E4.out slice_ne _ _ _ _⟩, below_put4 BL.out (by omega) _ _ _ _⟩

set_option maxRecDepth 100000 in
set_option maxHeartbeats 2000000 in
theorem rsall_calls (F : FacD) (a t : Option Addr) (n cap tn tc : Nat) (rs : List RowD) (w : World) (h : Row w (.slice a n cap) F.xs) (hl : Rws w (.slice t tn tc) rs) :
    Calls Tryd.prog 17 #[.agg #[.int .i64 F.cols, .slice a n cap, .int .i64 F.rws, .int .i64 F.trn], .slice t tn tc] w fun e w' => FacN (sAllD F rs) e w' ∧ Below w.heap.size w w' := by
  have hB := ((Below.refl w.heap.size w).alloc (Nat.le_refl _) (.cells #[.int .i64 F.cols, .slice a n cap, .int .i64 F.rws, .int .i64 F.trn] 24)).alloc (by simp) (.cells #[.int .i64 0, .slice none 0 0, .int .i64 0, .int .i64 0] 24)
  have L := rcheck_calls F.cols F.rws F.trn a n cap F.xs _ (h.below hB)
  have HB := Lib.hid hB
  have HR := Lib.hid h
  have HS := Lib.hid hl
  obtain ⟨hn1, hn2⟩ := hl.len
  have HN := Lib.hid hn1
  obtain ⟨res, hres⟩ : ∃ res, res = sAllD F rs := ⟨_, rfl⟩
  rw [← hres]
  unfold sAllD at hres
  by_cases h1 : F.ok = false
  · rw [if_pos h1] at hres
    subst hres
    rw [show checkP F.cols F.xs F.rws F.trn = false from h1] at L
    have LH := Lib.hid L
    obtain ⟨cols, xs, rws, trn⟩ := F
    clear h1 L h hl hB hn1
    have hB := HB
    clear HB
    dsimp only at *
    go_enter Tryd.func17, Tryd.ntmps17
    go_wp2_with (first | (go_at_call 27; refine LH.out.mono ?_; rintro e w1 ⟨rfl, hb⟩; obtain ⟨hq, hf⟩ := bcell hb; have hC := Lib.hid (hB.out.trans (hb.mono (by simp; omega)))))
    exact bodyPost_ret (v := .tuple #[facZ, .int .i64 0, .int .i64 1]) (by simp [results, Tryd.results17, go_sem, hq, facZ]) rfl ⟨facN_no _ _ rfl, below_put4 hC.out (by omega) _ _ _ _⟩
  · have hok : F.ok = true := by simpa using h1
    rw [if_neg h1] at hres
    rw [show checkP F.cols F.xs F.rws F.trn = true from hok] at L
    have LH := Lib.hid L
    have HRES := Lib.hid hres
    clear h1 L h hl hB hn1 hok hres
    have hB := HB
    clear HB
    go_enter Tryd.func17, Tryd.ntmps17
    go_wp2_with (first | (go_at_call 27; refine LH.out.mono ?_; rintro e w1 ⟨rfl, hb⟩; obtain ⟨hq, hf⟩ := bcell hb; have hz := hb.size; simp at hz; have hz1 : w.heap.size < w1.heap.size := (by omega); have hz2 : w.heap.size + 1 < w1.heap.size := (by omega); have hC := Lib.hid (hB.out.trans (hb.mono (by simp; omega)))))
    have C2 : Cells4 w1 w.heap.size (.int .i64 F.cols) (.slice a n cap) (.int .i64 F.rws) (.int .i64 F.trn) := ((Cells4.new w (.int .i64 F.cols) (.slice a n cap) (.int .i64 F.rws) (.int .i64 F.trn) 24).alloc (.cells #[.int .i64 0, .slice none 0 0, .int .i64 0, .int .i64 0] 24)).below hb
    have C4 : Cells4 w1 (w.heap.size + 1) (.int .i64 0) (.slice none 0 0) (.int .i64 0) (.int .i64 0) := by
      have := (Cells4.new (w.alloc (.cells #[.int .i64 F.cols, .slice a n cap, .int .i64 F.rws, .int .i64 F.trn] 24)) (.int .i64 0) (.slice none 0 0) (.int .i64 0) (.int .i64 0) 24).below hb
      simpa using this
    have IN : SNInv w res rs t tn tc w1 0 F a n cap := ⟨C2, C4, HR.out.below hC.out, HS.out.below hC.out, HRES.out.symm, hC.out⟩
    clear C2 C4 hq hf hb
    go_loopw [7] (fun s7 wr => ∃ (k : Nat) (G : FacD) (a' : Option Addr) (n' cap' : Nat), s7 = .int .i64 (k : Int) ∧ k ≤ tn ∧ SNInv w res rs t tn tc wr k G a' n' cap') (fun s7 _ => tn - (intOf s7).toNat)
    case atStart => exact ⟨0, F, a, n, cap, rfl, Nat.zero_le _, IN⟩
    case round =>
      obtain ⟨k, G, a', n', cap', rfl, hk, I⟩ := hrel
      have HI := Lib.hid I
      obtain ⟨c20, c21, c22, c23, f20, f21, f22, f23⟩ := I.c2
      obtain ⟨c40, c41, c42, c43, f40, f41, f42, f43⟩ := I.c4
      have hs1 := I.below.size
      have hl4 := I.c4.lt
      have hl2 : w.heap.size < wr.heap.size := by omega
      clear I
      by_cases hkn : k < tn
      · have hki : (k : Int) < (tn : Int) := by omega
        obtain ⟨blk, off, rfl, hc⟩ := HI.out.rws.at (by omega)
        obtain ⟨b, m, d, y, k1, k2, k3, k4⟩ := hc k hkn
        have HK3 := Lib.hid k3
        have HK4 := Lib.hid k4
        clear hc k3 k4
        have ST := sall_step (by rw [HN.out]; exact hkn) HI.out.eq
        have AR := fun W h h' => rsrow_calls G a' b n' cap' m d y (rs.getD k ([], none)).1 (Y := (rs.getD k ([], none)).2) W h h' HK4.out
        have HI3 := Lib.hid (HI.out.below)
        have HI4 := Lib.hid (HI.out.c4)
        have HI2 := Lib.hid (HI.out.c2)
        have HIr := Lib.hid (HI.out.row)
        clear HI
        generalize sRowD G (rs.getD k ([], none)).1 (rs.getD k ([], none)).2 = D at *
        obtain ⟨⟨gc, gx, gr, gt⟩, ge⟩ := D
        obtain ⟨cc, cx, cr, ct⟩ := G
        dsimp only at *
        have AR2 := Lib.hid AR
        clear AR
        have hbk : blk < wr.heap.size := cell_lt k1
        go_wp2
        go_cut [8, 9] from 20 to 34 (fun s8 s9 wx => AllCut wr ge ⟨gc, gx, gr, gt⟩ s8 s9 wx)
        case first =>
          rename_i J K' hJ hK'
          have b0 : Below wr.heap.size wr wr.drew := (Below.refl _ _).drew
          have b1 : Below wr.heap.size wr (wr.alloc (.cells #[.int .i64 0, .slice none 0 0, .int .i64 0, .int .i64 0] 24)).drew := ((Below.refl wr.heap.size wr).alloc (Nat.le_refl _) _).drew
          have z1 : Cells4 (wr.alloc (.cells #[.int .i64 0, .slice none 0 0, .int .i64 0, .int .i64 0] 24)).drew wr.heap.size (.int .i64 0) (.slice none 0 0) (.int .i64 0) (.int .i64 0) := (Cells4.new wr _ _ _ _ 24).below ((Below.refl _ _).drew)
          have B0 := Lib.hid (And.intro b0 (And.intro b1 z1))
          clear b0 b1 z1 ST
          go_region_held3 (fun w' => w'.cell? ⟨w.heap.size, 0, none⟩ = some (.int .i64 cc) ∧ w'.cell? ⟨w.heap.size, 1, none⟩ = some (.slice a' n' cap') ∧ w'.cell? ⟨w.heap.size, 2, none⟩ = some (.int .i64 cr) ∧ w'.cell? ⟨w.heap.size, 3, none⟩ = some (.int .i64 ct) ∧ w'.cell? ⟨blk, off + k * 2, none⟩ = some (.slice b m d) ∧ w'.cell? ⟨blk, off + k * 2 + 1, none⟩ = some (.float .f64 y))
            (first
            | with_reducible exact ⟨((BL.out).cell (p := ⟨w.heap.size, 0, none⟩) hl2).trans c20, ((BL.out).cell (p := ⟨w.heap.size, 1, none⟩) hl2).trans c21, ((BL.out).cell (p := ⟨w.heap.size, 2, none⟩) hl2).trans c22, ((BL.out).cell (p := ⟨w.heap.size, 3, none⟩) hl2).trans c23, ((BL.out).cell (p := ⟨blk, off + k * 2, none⟩) hbk).trans k1, ((BL.out).cell (p := ⟨blk, off + k * 2 + 1, none⟩) hbk).trans k2⟩
            | with_reducible exact ⟨((BL.out.alloc BL.out.size _).cell (p := ⟨w.heap.size, 0, none⟩) hl2).trans c20, ((BL.out.alloc BL.out.size _).cell (p := ⟨w.heap.size, 1, none⟩) hl2).trans c21, ((BL.out.alloc BL.out.size _).cell (p := ⟨w.heap.size, 2, none⟩) hl2).trans c22, ((BL.out.alloc BL.out.size _).cell (p := ⟨w.heap.size, 3, none⟩) hl2).trans c23, ((BL.out.alloc BL.out.size _).cell (p := ⟨blk, off + k * 2, none⟩) hbk).trans k1, ((BL.out.alloc BL.out.size _).cell (p := ⟨blk, off + k * 2 + 1, none⟩) hbk).trans k2⟩
            | with_reducible exact ⟨((B0.out.2.1).cell (p := ⟨w.heap.size, 0, none⟩) hl2).trans c20, ((B0.out.2.1).cell (p := ⟨w.heap.size, 1, none⟩) hl2).trans c21, ((B0.out.2.1).cell (p := ⟨w.heap.size, 2, none⟩) hl2).trans c22, ((B0.out.2.1).cell (p := ⟨w.heap.size, 3, none⟩) hl2).trans c23, ((B0.out.2.1).cell (p := ⟨blk, off + k * 2, none⟩) hbk).trans k1, ((B0.out.2.1).cell (p := ⟨blk, off + k * 2 + 1, none⟩) hbk).trans k2⟩
            | with_reducible exact ⟨((B0.out.1).cell (p := ⟨w.heap.size, 0, none⟩) hl2).trans c20, ((B0.out.1).cell (p := ⟨w.heap.size, 1, none⟩) hl2).trans c21, ((B0.out.1).cell (p := ⟨w.heap.size, 2, none⟩) hl2).trans c22, ((B0.out.1).cell (p := ⟨w.heap.size, 3, none⟩) hl2).trans c23, ((B0.out.1).cell (p := ⟨blk, off + k * 2, none⟩) hbk).trans k1, ((B0.out.1).cell (p := ⟨blk, off + k * 2 + 1, none⟩) hbk).trans k2⟩
            | with_reducible exact ⟨((below_put4 BL.out (Nat.le_refl _) _ _ _ _).cell (p := ⟨w.heap.size, 0, none⟩) hl2).trans c20, ((below_put4 BL.out (Nat.le_refl _) _ _ _ _).cell (p := ⟨w.heap.size, 1, none⟩) hl2).trans c21, ((below_put4 BL.out (Nat.le_refl _) _ _ _ _).cell (p := ⟨w.heap.size, 2, none⟩) hl2).trans c22, ((below_put4 BL.out (Nat.le_refl _) _ _ _ _).cell (p := ⟨w.heap.size, 3, none⟩) hl2).trans c23, ((below_put4 BL.out (Nat.le_refl _) _ _ _ _).cell (p := ⟨blk, off + k * 2, none⟩) hbk).trans k1, ((below_put4 BL.out (Nat.le_refl _) _ _ _ _).cell (p := ⟨blk, off + k * 2 + 1, none⟩) hbk).trans k2⟩
            | with_reducible exact ⟨((below_put4 (BL.out.alloc BL.out.size _) (Nat.le_refl _) _ _ _ _).cell (p := ⟨w.heap.size, 0, none⟩) hl2).trans c20, ((below_put4 (BL.out.alloc BL.out.size _) (Nat.le_refl _) _ _ _ _).cell (p := ⟨w.heap.size, 1, none⟩) hl2).trans c21, ((below_put4 (BL.out.alloc BL.out.size _) (Nat.le_refl _) _ _ _ _).cell (p := ⟨w.heap.size, 2, none⟩) hl2).trans c22, ((below_put4 (BL.out.alloc BL.out.size _) (Nat.le_refl _) _ _ _ _).cell (p := ⟨w.heap.size, 3, none⟩) hl2).trans c23, ((below_put4 (BL.out.alloc BL.out.size _) (Nat.le_refl _) _ _ _ _).cell (p := ⟨blk, off + k * 2, none⟩) hbk).trans k1, ((below_put4 (BL.out.alloc BL.out.size _) (Nat.le_refl _) _ _ _ _).cell (p := ⟨blk, off + k * 2 + 1, none⟩) hbk).trans k2⟩
            | go_keep)
            (first
              | (go_at_call 14; go_must (refine (AR2.out _ (HIr.out.below (by first | with_reducible exact B0.out.1 | with_reducible exact B0.out.2.1)) (HK3.out.below (by first | with_reducible exact B0.out.1 | with_reducible exact B0.out.2.1))).mono ?_; rintro e wL ⟨⟨ga, gn, gcp, rfl, hrowL⟩, hbL⟩; have BL' : Below wr.heap.size wr wL := (by first | with_reducible exact B0.out.1.trans (hbL.mono (by simp)) | with_reducible exact B0.out.2.1.trans (hbL.mono (by simp))); have hszL := BL'.size; have hLz0 : w.heap.size < wL.heap.size := (by omega); have hLzb : blk < wL.heap.size := (by omega); have hLzr : wr.heap.size ≤ wL.heap.size := (by omega); (first | ((with_reducible have yy := B0.out.2.2.below hbL); have YL := Lib.hid yy; obtain ⟨y0, y1, y2, y3, yf0, yf1, yf2, yf3⟩ := yy) | (have YN : True := trivial)); have BL := Lib.hid BL'; have RL := Lib.hid hrowL; clear BL' hrowL hbL)))
          all_goals
            refine hK' _ _ (Met.intro (hJ _ _ ?_))
            (repeat apply Exists.intro)
            refine ⟨?_, rfl⟩
            have hwL := BL.out.size
            unfold AllCut
            (first
              | (refine ⟨wL.heap.size, ga, gn, gcp, rfl, rfl, ?_⟩; with_reducible exact ⟨Cells4.new wL _ _ _ _ _, RL.out.alloc _, BL.out.alloc hwL _, hwL⟩)
              | (refine ⟨wr.heap.size, ga, gn, gcp, rfl, rfl, ?_⟩; with_reducible exact ⟨YL.out.put _ _ _ _, RL.out.put4 YL.out slice_ne _ _ _ _, below_put4 BL.out (Nat.le_refl _) _ _ _ _, Nat.le_refl _⟩))
        case rest =>
          obtain ⟨b8, ga, gn, gcp, rfl, rfl, D8, RL, BW, hb8⟩ := hcut
          have E2 := Lib.hid (HI2.out.below BW)
          have E4 := Lib.hid (HI4.out.below BW)
          have E8 := Lib.hid D8
          have hrO := Lib.hid (HIr.out.below BW)
          have HRW := Lib.hid RL
          obtain ⟨q0, q1, q2, q3, u0, u1, u2, u3⟩ := E2.out
          obtain ⟨m0, m1, m2, m3, n0, n1, n2, n3⟩ := E4.out
          obtain ⟨p0, p1, p2, p3, v0, v1, v2, v3⟩ := D8
          have BL := Lib.hid (HI3.out.trans (BW.mono hs1))
          have hb8w : w.heap.size ≠ b8 := by omega
          clear RL
          dsimp only at *
          rcases ST with ⟨e2, eR⟩ | ⟨e2, eR⟩
          · have hne : (ge != 0) = true := by simpa using e2
            subst eR
            clear e2
            go_wp2
            have P4 := E4.out.put (.int .i64 cc) (.slice a' n' cap') (.int .i64 cr) (.int .i64 ct)
            exact bodyPost_ret (v := .tuple #[.agg #[.int .i64 cc, .slice a' n' cap', .int .i64 cr, .int .i64 ct], .int .i64 (k : Int), .int .i64 ge]) (by simp [results, Tryd.results17, go_sem, P4.c0, P4.c1, P4.c2, P4.c3]) rfl ⟨⟨a', n', cap', rfl, hrO.out.put4 E4.out slice_ne _ _ _ _⟩, below_put4 BL.out (by omega) _ _ _ _⟩
          · subst e2
            have ER := Lib.hid eR
            clear eR
            go_wp2
            have P2 := E2.out.put (.int .i64 gc) (.slice ga gn gcp) (.int .i64 gr) (.int .i64 gt)
            have P4 := E4.out.put_other (b' := w.heap.size) (by omega) (.int .i64 gc) (.slice ga gn gcp) (.int .i64 gr) (.int .i64 gt)
            have BB := below_put4 BL.out (Nat.le_refl _) (.int .i64 gc) (.slice ga gn gcp) (.int .i64 gr) (.int .i64 gt)
            refine ⟨⟨k + 1, ⟨gc, gx, gr, gt⟩, ga, gn, gcp, by go_num, by omega, P2, P4, HRW.out.put4 E2.out slice_ne _ _ _ _, HS.out.below BB, ER.out, BB⟩, by simp [intOf]; omega⟩
      · obtain rfl : k = tn := by omega
        have eR := HI.out.eq
        rw [List.drop_of_length_le (by rw [HN.out]; exact Nat.le_refl _)] at eR
        obtain rfl : res = (G, (k : Int), 0) := eR.symm
        have hrO := Lib.hid HI.out.row
        have E4 := Lib.hid HI.out.c4
        have BL := Lib.hid HI.out.below
        clear eR HRES HI
        obtain ⟨cc, cx, cr, ct⟩ := G
        dsimp only at *
        go_wp2
        have P4 := E4.out.put (.int .i64 cc) (.slice a' n' cap') (.int .i64 cr) (.int .i64 ct)
        exact bodyPost_ret (v := .tuple #[.agg #[.int .i64 cc, .slice a' n' cap', .int .i64 cr, .int .i64 ct], .int .i64 (k : Int), .int .i64 0]) (by simp [results, Tryd.results17, go_sem, P4.c0, P4.c1, P4.c2, P4.c3]) rfl ⟨⟨a', n', cap', rfl, hrO.out.put4 E4.out slice_ne _ _ _ _⟩, below_put4 BL.out (by omega) _ _ _ _⟩
end Go.Proofs.YtfohknalldelfaaDoor
