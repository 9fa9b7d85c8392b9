/- Rows of data in memory; many rows absorbed, plainly; the program's All, walked. Many rows absorbed: the reference's All, walked. -/
import Derived.Test.YtnboegeljaplbaaSf
import Derived.Test.YtnboegeljaplbaaSh
import Derived.LoopTactic
import Derived.Deep.CutRange
namespace Go.Proofs.Ytnboegeljaplbaa
open Go.RowKit Lv Go.Shelf
open Ieee (double Format Datum Toward)
attribute [local go_sem] Oper.semAt_some run_store_float drewN_alloc drewN_setCell

/-- a row of data -/
abbrev RowD := List (Option Nat) × Option Nat
/-- a slice value that reads as rows of data -/
def Rws (w : World) (v : Value) (rs : List RowD) : Prop :=
  ∃ (a : Option Addr) (cap : Nat), v = .slice a rs.length cap ∧ rs.length ≤ cap ∧ cap ≤ maxLen ∧
    (rs.length = 0 ∨ ∃ blk off, a = some ⟨blk, off, none⟩ ∧ ∀ i, i < rs.length → ∃ b m d y, w.cell? ⟨blk, off + i * 2, none⟩ = some (.slice b m d) ∧ w.cell? ⟨blk, off + i * 2 + 1, none⟩ = some (.float .f64 y) ∧ Row w (.slice b m d) (rs.getD i ([], none)).1 ∧ FW y (rs.getD i ([], none)).2)
theorem Rws.below {w w' : World} {v : Value} {rs : List RowD} (h : Rws w v rs) (hb : Below w.heap.size w w') : Rws w' v rs := by
  obtain ⟨a, cap, rfl, h1, h2, h3⟩ := h
  refine ⟨a, cap, rfl, h1, h2, ?_⟩
  rcases h3 with h3 | ⟨blk, off, rfl, hc⟩
  · exact .inl h3
  · refine .inr ⟨blk, off, rfl, fun i hi => ?_⟩
    obtain ⟨b, m, d, y, k1, k2, k3, k4⟩ := hc i hi
    exact ⟨b, m, d, y, (hb.cell (p := ⟨blk, off + i * 2, none⟩) (cell_lt k1)).trans k1, (hb.cell (p := ⟨blk, off + i * 2 + 1, none⟩) (cell_lt k2)).trans k2, k3.below hb, k4⟩
theorem Rws.len {w : World} {a : Option Addr} {n cap : Nat} {rs : List RowD} (h : Rws w (.slice a n cap) rs) : rs.length = n ∧ n ≤ 9223372036854775807 := by
  obtain ⟨_, _, hv, h1, h2, _⟩ := h
  simp only [Value.slice.injEq] at hv
  unfold maxLen at h2
  obtain ⟨_, rfl, rfl⟩ := hv
  exact ⟨rfl, by omega⟩
theorem Rws.at {w : World} {a : Option Addr} {n cap : Nat} {rs : List RowD} (h : Rws w (.slice a n cap) rs) (hn : 0 < n) : ∃ blk off, a = some ⟨blk, off, none⟩ ∧ ∀ i, i < n → ∃ b m d y, w.cell? ⟨blk, off + i * 2, none⟩ = some (.slice b m d) ∧ w.cell? ⟨blk, off + i * 2 + 1, none⟩ = some (.float .f64 y) ∧ Row w (.slice b m d) (rs.getD i ([], none)).1 ∧ FW y (rs.getD i ([], none)).2 := by
  obtain ⟨a', cap', hv, h1, h2, h3⟩ := h
  simp only [Value.slice.injEq] at hv
  obtain ⟨rfl, rfl, rfl⟩ := hv
  rcases h3 with h3 | h3
  · omega
  · exact h3

/-- rows absorbed one by one, k of them already -/
def allLoop : Nat → FacD → List RowD → FacD × Int × Int
  | k, F, [] => (F, (k : Int), 0)
  | k, F, r :: rs => if (rowD F r.1 r.2).2 ≠ 0 then (F, (k : Int), (rowD F r.1 r.2).2) else allLoop (k + 1) (rowD F r.1 r.2).1 rs
def allD (F : FacD) (rs : List RowD) : FacD × Int × Int := if F.ok = false then (fac0, 0, 1) else allLoop 0 F rs
/-- a factor, a count and an error -/
def FacN (G : FacD × Int × Int) (e : Ending) (w' : World) : Prop := ∃ a n cap, e = .returned (.tuple #[.agg #[.int .i64 G.1.cols, .slice a n cap, .int .i64 G.1.rws, .int .i64 G.1.trn], .int .i64 G.2.1, .int .i64 G.2.2]) ∧ Row w' (.slice a n cap) G.1.xs

theorem all_step {k : Nat} {G : FacD} {rs : List RowD} {R : FacD × Int × Int} (hk : k < rs.length) (h : allLoop k G (rs.drop k) = R) :
    ((rowD G (rs.getD k ([], none)).1 (rs.getD k ([], none)).2).2 ≠ 0 ∧ R = (G, (k : Int), (rowD G (rs.getD k ([], none)).1 (rs.getD k ([], none)).2).2)) ∨
    ((rowD G (rs.getD k ([], none)).1 (rs.getD k ([], none)).2).2 = 0 ∧ allLoop (k + 1) (rowD G (rs.getD k ([], none)).1 (rs.getD k ([], none)).2).1 (rs.drop (k + 1)) = R) := by
  have e : rs.getD k ([], none) = rs[k] := by rw [List.getD_eq_getElem?_getD, List.getElem?_eq_getElem hk]; rfl
  rw [e]
  rw [List.drop_eq_getElem_cons hk] at h
  unfold allLoop at h
  by_cases h2 : (rowD G rs[k].1 rs[k].2).2 ≠ 0
  · rw [if_pos h2] at h; exact .inl ⟨h2, h.symm⟩
  · rw [if_neg h2] at h; exact .inr ⟨by simpa using h2, h⟩

/-- what stands at the loop's head -/
structure NInv (w : World) (R : FacD × Int × Int) (rs : List RowD) (t : Option Addr) (tn tc : Nat) (W : World) (k : Nat) (G : FacD) (a : Option Addr) (n cap : Nat) : Prop where
  c2 : Cells4 W w.heap.size (.int .i64 G.cols) (.slice a n cap) (.int .i64 G.rws) (.int .i64 G.trn)
  c4 : Cells4 W (w.heap.size + 1) (.int .i64 0) (.slice none 0 0) (.int .i64 0) (.int .i64 0)
  row : Row W (.slice a n cap) G.xs
  rws : Rws W (.slice t tn tc) rs
  eq : allLoop k G (rs.drop k) = R
  below : Below w.heap.size w W

theorem facN_no (k err : Int) {e : Ending} {w' : World} (h : e = .returned (.tuple #[facZ, .int .i64 k, .int .i64 err])) : FacN (fac0, k, err) e w' := ⟨none, 0, 0, h, row_nil _⟩

set_option maxRecDepth 100000 in
set_option maxHeartbeats 2000000 in
theorem aall_calls (F : FacD) (a t : Option Addr) (n cap tn tc : Nat) (rs : List RowD) (w : World) (h : Row w (.slice a n cap) F.xs) (hl : Rws w (.slice t tn tc) rs) :
    Calls Try.prog 21 #[.agg #[.int .i64 F.cols, .slice a n cap, .int .i64 F.rws, .int .i64 F.trn], .slice t tn tc] w fun e w' => FacN (allD F rs) e w' ∧ Below w.heap.size w w' := by
  have hB := ((Below.refl w.heap.size w).alloc (Nat.le_refl _) (.cells #[.int .i64 F.cols, .slice a n cap, .int .i64 F.rws, .int .i64 F.trn] 24)).alloc (by simp) (.cells #[.int .i64 0, .slice none 0 0, .int .i64 0, .int .i64 0] 24)
  have L := check_calls F.cols F.rws F.trn a n cap F.xs _ (h.below hB)
  have HB := Lib.hid hB
  have HR := Lib.hid h
  have HS := Lib.hid hl
  obtain ⟨hn1, hn2⟩ := hl.len
  have HN := Lib.hid hn1
  obtain ⟨res, hres⟩ : ∃ res, res = allD F rs := ⟨_, rfl⟩
  rw [← hres]
  unfold allD at hres
  by_cases h1 : F.ok = false
  · rw [if_pos h1] at hres
    subst hres
    rw [show checkP F.cols F.xs F.rws F.trn = false from h1] at L
    have LH := Lib.hid L
    obtain ⟨cols, xs, rws, trn⟩ := F
    clear h1 L h hl hB hn1
    have hB := HB
    clear HB
    dsimp only at *
    go_enter Try.func21, Try.ntmps21
    go_wp2_with (first | (go_at_call 33; refine LH.out.mono ?_; rintro e w1 ⟨rfl, hb⟩; obtain ⟨hq, hf⟩ := bcell hb; have hC := Lib.hid (hB.out.trans (hb.mono (by simp; omega)))))
    exact bodyPost_ret (v := .tuple #[facZ, .int .i64 0, .int .i64 1]) (by simp [results, Try.results21, go_sem, hq, facZ]) rfl ⟨facN_no _ _ rfl, below_put4 hC.out (by omega) _ _ _ _⟩
  · have hok : F.ok = true := by simpa using h1
    rw [if_neg h1] at hres
    rw [show checkP F.cols F.xs F.rws F.trn = true from hok] at L
    have LH := Lib.hid L
    have HRES := Lib.hid hres
    clear h1 L h hl hB hn1 hok hres
    have hB := HB
    clear HB
    go_enter Try.func21, Try.ntmps21
    go_wp2_with (first | (go_at_call 33; refine LH.out.mono ?_; rintro e w1 ⟨rfl, hb⟩; obtain ⟨hq, hf⟩ := bcell hb; have hz := hb.size; simp at hz; have hz1 : w.heap.size < w1.heap.size := (by omega); have hz2 : w.heap.size + 1 < w1.heap.size := (by omega); have hC := Lib.hid (hB.out.trans (hb.mono (by simp; omega)))))
    have C2 : Cells4 w1 w.heap.size (.int .i64 F.cols) (.slice a n cap) (.int .i64 F.rws) (.int .i64 F.trn) := ((Cells4.new w (.int .i64 F.cols) (.slice a n cap) (.int .i64 F.rws) (.int .i64 F.trn) 24).alloc (.cells #[.int .i64 0, .slice none 0 0, .int .i64 0, .int .i64 0] 24)).below hb
    have C4 : Cells4 w1 (w.heap.size + 1) (.int .i64 0) (.slice none 0 0) (.int .i64 0) (.int .i64 0) := by
      have := (Cells4.new (w.alloc (.cells #[.int .i64 F.cols, .slice a n cap, .int .i64 F.rws, .int .i64 F.trn] 24)) (.int .i64 0) (.slice none 0 0) (.int .i64 0) (.int .i64 0) 24).below hb
      simpa using this
    have IN : NInv w res rs t tn tc w1 0 F a n cap := ⟨C2, C4, HR.out.below hC.out, HS.out.below hC.out, HRES.out.symm, hC.out⟩
    clear C2 C4 hq hf hb
    go_loopw [17] (fun s17 wr => ∃ (k : Nat) (G : FacD) (a' : Option Addr) (n' cap' : Nat), s17 = .int .i64 (k : Int) ∧ k ≤ tn ∧ NInv w res rs t tn tc wr k G a' n' cap') (fun s17 _ => tn - (intOf s17).toNat)
    case atStart => exact ⟨0, F, a, n, cap, rfl, Nat.zero_le _, IN⟩
    case round =>
      obtain ⟨k, G, a', n', cap', rfl, hk, I⟩ := hrel
      have HI := Lib.hid I
      obtain ⟨c20, c21, c22, c23, f20, f21, f22, f23⟩ := I.c2
      obtain ⟨c40, c41, c42, c43, f40, f41, f42, f43⟩ := I.c4
      have hs1 := I.below.size
      have hl4 := I.c4.lt
      have hl2 : w.heap.size < wr.heap.size := by omega
      clear I
      by_cases hkn : k < tn
      · have hki : (k : Int) < (tn : Int) := by omega
        obtain ⟨blk, off, rfl, hc⟩ := HI.out.rws.at (by omega)
        obtain ⟨b, m, d, y, k1, k2, k3, k4⟩ := hc k hkn
        have HK3 := Lib.hid k3
        have HK4 := Lib.hid k4
        clear hc k3 k4
        have ST := all_step (by rw [HN.out]; exact hkn) HI.out.eq
        have AR := fun W h h' => arow_calls G a' b n' cap' m d y (rs.getD k ([], none)).1 (Y := (rs.getD k ([], none)).2) W h h' HK4.out
        have HI3 := Lib.hid (HI.out.below)
        have HI4 := Lib.hid (HI.out.c4)
        have HI2 := Lib.hid (HI.out.c2)
        have HIr := Lib.hid (HI.out.row)
        clear HI
        generalize rowD G (rs.getD k ([], none)).1 (rs.getD k ([], none)).2 = D at *
        obtain ⟨⟨gc, gx, gr, gt⟩, ge⟩ := D
        obtain ⟨cc, cx, cr, ct⟩ := G
        dsimp only at *
        have AR2 := Lib.hid AR
        clear AR
        rcases ST with ⟨e2, eR⟩ | ⟨e2, eR⟩
        · have hne : (ge != 0) = true := by simpa using e2
          subst eR
          clear e2
          go_wp2_with (go_at_call 11; go_must (refine (AR2.out _ (HIr.out.alloc _) (HK3.out.alloc _)).mono ?_; rintro e wL ⟨⟨ga, gn, gcp, rfl, hrow⟩, hbL⟩; have BL := Lib.hid ((HI3.out.alloc hs1 (.cells #[.slice b m d, .float .f64 y] 27)).trans (hbL.mono (by simp; omega))); have E2 := Lib.hid ((HI2.out.alloc _).below hbL); have E4 := Lib.hid ((HI4.out.alloc _).below hbL); obtain ⟨m0, m1, m2, m3, n0, n1, n2, n3⟩ := E4.out; obtain ⟨q0, q1, q2, q3, u0, u1, u2, u3⟩ := E2.out; have hzL := hbL.size; simp at hzL; have hzM : w.heap.size < wL.heap.size := (by omega); have hzN : w.heap.size + 1 < wL.heap.size := (by omega); have hrO := Lib.hid ((HIr.out.alloc (.cells #[.slice b m d, .float .f64 y] 27)).below hbL)))
          have P4 := E4.out.put (.int .i64 cc) (.slice a' n' cap') (.int .i64 cr) (.int .i64 ct)
          exact bodyPost_ret (v := .tuple #[.agg #[.int .i64 cc, .slice a' n' cap', .int .i64 cr, .int .i64 ct], .int .i64 (k : Int), .int .i64 ge]) (by simp [results, Try.results21, go_sem, P4.c0, P4.c1, P4.c2, P4.c3, hzN]) rfl ⟨⟨a', n', cap', rfl, (hrO.out.put4 E4.out slice_ne _ _ _ _).alloc _⟩, (below_put4 BL.out (by omega) _ _ _ _).alloc (by simp; omega) _⟩
        · subst e2
          have ER := Lib.hid eR
          clear eR
          go_wp2_with (go_at_call 11; go_must (refine (AR2.out _ (HIr.out.alloc _) (HK3.out.alloc _)).mono ?_; rintro e wL ⟨⟨ga, gn, gcp, rfl, hrow⟩, hbL⟩; have BL := Lib.hid ((HI3.out.alloc hs1 (.cells #[.slice b m d, .float .f64 y] 27)).trans (hbL.mono (by simp; omega))); have E2 := Lib.hid ((HI2.out.alloc _).below hbL); have E4 := Lib.hid ((HI4.out.alloc _).below hbL); obtain ⟨q0, q1, q2, q3, u0, u1, u2, u3⟩ := E2.out; have hzL := hbL.size; simp at hzL; have hzM : w.heap.size < wL.heap.size := (by omega); have hzN : w.heap.size + 1 < wL.heap.size := (by omega); have HRW := Lib.hid hrow; clear hrow))
          have P2 := E2.out.put (.int .i64 gc) (.slice ga gn gcp) (.int .i64 gr) (.int .i64 gt)
          have P4 := E4.out.put_other (b' := w.heap.size) (by omega) (.int .i64 gc) (.slice ga gn gcp) (.int .i64 gr) (.int .i64 gt)
          have BB := (below_put4 BL.out (Nat.le_refl _) (.int .i64 gc) (.slice ga gn gcp) (.int .i64 gr) (.int .i64 gt)).alloc (by simp; omega) (.cells #[.int .i64 gc, .slice ga gn gcp, .int .i64 gr, .int .i64 gt] 24)
          go_roundw
          case rel => exact ⟨k + 1, ⟨gc, gx, gr, gt⟩, ga, gn, gcp, by go_num, by omega, P2.alloc _, P4.alloc _, (HRW.out.put4 E2.out slice_ne _ _ _ _).alloc _, HS.out.below BB, ER.out, BB⟩
          case measure => simp [intOf]; omega
      · obtain rfl : k = tn := by omega
        have eR := HI.out.eq
        rw [List.drop_of_length_le (by rw [HN.out]; exact Nat.le_refl _)] at eR
        obtain rfl : res = (G, (k : Int), 0) := eR.symm
        have hrO := Lib.hid HI.out.row
        have E4 := Lib.hid HI.out.c4
        have BL := Lib.hid HI.out.below
        clear eR HRES HI
        obtain ⟨cc, cx, cr, ct⟩ := G
        dsimp only at *
        go_wp2
        have P4 := E4.out.put (.int .i64 cc) (.slice a' n' cap') (.int .i64 cr) (.int .i64 ct)
        exact bodyPost_ret (v := .tuple #[.agg #[.int .i64 cc, .slice a' n' cap', .int .i64 cr, .int .i64 ct], .int .i64 (k : Int), .int .i64 0]) (by simp [results, Try.results21, go_sem, P4.c0, P4.c1, P4.c2, P4.c3]) rfl ⟨⟨a', n', cap', rfl, hrO.out.put4 E4.out slice_ne _ _ _ _⟩, below_put4 BL.out (by omega) _ _ _ _⟩
end Go.Proofs.Ytnboegeljaplbaa
namespace Go.Proofs.Ytnboegeljaplbaa
open Go.RowKit Lv Go.Shelf
open Ieee (double Format Datum Toward)
attribute [local go_sem] Oper.semAt_some run_store_float drewN_alloc drewN_setCell

/-- behind the statement that calls Row -/
def AllCut (wr : World) (ge : Int) (G : FacD) (s8 s9 : Value) (W : World) : Prop :=
  ∃ (b8 : Nat) (ga : Option Addr) (gn gcp : Nat), s8 = .pointer (some ⟨b8, 0, none⟩) ∧ s9 = .int .i64 ge ∧ Cells4 W b8 (.int .i64 G.cols) (.slice ga gn gcp) (.int .i64 G.rws) (.int .i64 G.trn) ∧ Row W (.slice ga gn gcp) G.xs ∧ Below wr.heap.size wr W ∧ wr.heap.size ≤ b8

end Go.Proofs.Ytnboegeljaplbaa
