/- The statements' fits of layer 16. -/
import Derived.Test.YtnboegeljaplbaaZr
import Derived.Test.YtnboegeljaplbaaZm
namespace Go.Proofs.Ytnboegeljaplbaa
open Go.RowKit Lv Go.Shelf
attribute [local go_sem] Oper.semAt_some drewN_alloc drewN_setCell

set_option maxRecDepth 100000 in
set_option maxHeartbeats 1000000 in
theorem sexact_calls (b : Nat) (x : Option Nat) (w : World) (h : FW b x) (hx : Lv.Fn x) :
    Calls Try.prog 60 #[.float .f64 b] w fun e' w' => (∃ z, e' = .returned z ∧ Dq w' z (fv x) 1074) ∧ Below w.heap.size w w' := by
  have HB0 := Lib.hid ((Below.refl w.heap.size w).alloc (Nat.le_refl _) (.cells #[.bool false, .slice none 0 0, .int .i64 0] 70))
  have E0 := Lib.hid (Cells3.new w (.bool false) (.slice none 0 0) (.int .i64 0) 70)
  have DF := Lib.hid (fun W => dfrom_calls b x W h hx)
  clear h hx
  go_enter Try.func60, Try.ntmps60
  go_upto_region 2 with (go_at_call 40; go_must (refine (DF.out _).mono ?_; rintro e' w1 ⟨⟨z, rfl, hz⟩, hb⟩; have B1 := Lib.hid (HB0.out.trans (hb.mono HB0.out.size)); have HZ := Lib.hid hz; obtain ⟨zs, zm, ze, ⟨za, zn, zc, rfl, _⟩, _⟩ := hz; have F1 := Lib.hid ((E0.out.below hb).alloc (.cells #[.bool zs, .slice za zn zc, .int .i64 ze] 70)); clear hb))
  have B2 := Lib.hid (B1.out.alloc B1.out.size (.cells #[.bool zs, .slice za zn zc, .int .i64 ze] 70))
  have Z2 := Lib.hid (HZ.out.below ((Below.refl _ _).alloc (Nat.le_refl _) (.cells #[.bool zs, .slice za zn zc, .int .i64 ze] 70)))
  have C2 := Lib.hid (Cells3.new w1 (.bool zs) (.slice za zn zc) (.int .i64 ze) 70)
  generalize w1.alloc (.cells #[.bool zs, .slice za zn zc, .int .i64 ze] 70) = W at *
  obtain ⟨_, _, _, x3, x4, x5⟩ := F1.out
  obtain ⟨y0, y1, y2, _, _, _⟩ := C2.out
  have P := F1.out.put (.bool zs) (.slice za zn zc) (.int .i64 ze)
  go_wp2
  exact bodyPost_ret (v := .agg #[.bool zs, .slice za zn zc, .int .i64 ze]) (by simp [results, Try.results60, go_sem, P.c0, P.c1, P.c2]) rfl ⟨⟨_, rfl, Z2.out.put3 F1.out _ _ _⟩, below_put3 B2.out (Nat.le_refl _) _ _ _⟩
theorem below_putC {w W : World} {b : Nat} {u0 u1 u2 : Value} (h : Below w.heap.size w W) (_ : Cells3 W b u0 u1 u2) (hb : w.heap.size ≤ b) (v0 v1 v2 : Value) : Below w.heap.size w (((W.setCell ⟨b, 0, none⟩ v0).setCell ⟨b, 1, none⟩ v1).setCell ⟨b, 2, none⟩ v2) := below_put3 h hb v0 v1 v2
/-- a dyad in new cells of its own -/
def DCutN (wr : World) (q : Rat) (s : Value) (wx : World) : Prop :=
  ∃ (g : Nat) (s0 : Bool) (a : Option Addr) (n c : Nat) (e : Int), s = .pointer (some ⟨g, 0, none⟩) ∧ wr.heap.size ≤ g ∧ Cells3 wx g (.bool s0) (.slice a n c) (.int .i64 e) ∧ Dq wx (.agg #[.bool s0, .slice a n c, .int .i64 e]) q 2148 ∧ Below wr.heap.size wr wx
theorem sum_bd {f : Nat → Rat} {A : Nat} : ∀ n, (∀ i, i < n → Bd (f i) (p2 (A : Int))) → Bd (sumQ f n) (p2 ((A + n : Nat) : Int))
  | 0, _ => zero_bd _
  | n + 1, h => bd_add_p2 (sum_bd n (fun i hi => h i (by omega))) (bd_p2_mono (h n (by omega)) (Nat.le_add_right _ _))
/-- a dyad in cells of its own -/
def DBox (W : World) (g : Nat) (q : Rat) (B : Nat) : Prop := ∃ (s : Bool) (a : Option Addr) (n c : Nat) (e : Int), Cells3 W g (.bool s) (.slice a n c) (.int .i64 e) ∧ Dq W (.agg #[.bool s, .slice a n c, .int .i64 e]) q B
theorem DBox.below {W W' : World} {g : Nat} {q : Rat} {B : Nat} (h : DBox W g q B) (hb : Below W.heap.size W W') : DBox W' g q B := by
  obtain ⟨s, a, n, c, e, h1, h2⟩ := h
  exact ⟨s, a, n, c, e, h1.below hb, h2.below hb⟩
theorem DBox.mono {W : World} {g : Nat} {q : Rat} {B B' : Nat} (h : DBox W g q B) (hB : B ≤ B') : DBox W g q B' := by
  obtain ⟨s, a, n, c, e, h1, h2⟩ := h
  exact ⟨s, a, n, c, e, h1, h2.mono hB⟩
theorem fn_bd {x : Option Nat} (h : Lv.Fn x) : Bd (fv x) (p2 ((1024 : Nat) : Int)) := by
  obtain ⟨s, r, rfl, hr⟩ := h
  have w := pw_val (k := 1023) (by decide) (by decide)
  rw [fv_wd s hr, vz_sg]
  refine bd_sg.2 ((bd_self (rv_nonneg r)).mono ?_)
  have h1 : rv r ≤ rv 9218868437227405312 := rv_le (by omega)
  have h2 := rv_mk 2046 4503599627370496 (by omega) (.inr (by omega))
  rw [show 2046 * 4503599627370496 + 4503599627370496 = 9218868437227405312 + 0 by omega] at h2
  rw [Nat.add_zero] at h2
  rw [h2] at h1
  have h3 : ((4503599627370496 : Nat) : Rat) = p2 52 := by
    have := p2_nat 52
    rw [show ((52 : Nat) : Int) = 52 from rfl] at this
    rw [this]
  rw [h3, ← p2_add] at h1
  exact h1
theorem rv_int (q m k s : Nat) (hm : m = k * 2 ^ s) (h1 : m ≤ 9007199254740992) (h2 : 4503599627370496 ≤ m) (he : -1074 + (q : Int) = -(s : Int)) : rv (q * 4503599627370496 + m) = (k : Rat) := by
  rw [rv_mk q m h1 (.inr h2), he, hm, Rat.natCast_mul, ← p2_nat, Rat.mul_assoc, ← p2_add, Int.add_right_neg, p2_zero, Rat.mul_one]
theorem conv_of {k b q m s : Nat} (hb : floatOfInt .f64 (k : Int) = b) (e : b = q * 4503599627370496 + m) (hlt : b < 9218868437227405312) (hm : m = k * 2 ^ s) (h1 : m ≤ 9007199254740992) (h2 : 4503599627370496 ≤ m) (he : -1074 + (q : Int) = -(s : Int)) :
    ∃ X, FW (floatOfInt .f64 (k : Int)) X ∧ Lv.Fn X ∧ fv X = (k : Rat) := by
  refine ⟨some b, ?_, ⟨false, b, rfl, hlt⟩, ?_⟩
  · rw [hb]
    exact ⟨by unfold W64; omega, by unfold ab nan; simp; omega⟩
  · have := fv_wd false hlt
    rw [show wd false b = b from rfl] at this
    rw [this]
    show rv b = _
    rw [e]
    exact rv_int q m k s hm h1 h2 he
theorem conv_ok {k : Nat} (h1 : 1 ≤ k) (h6 : k ≤ 6) : ∃ X, FW (floatOfInt .f64 (k : Int)) X ∧ Lv.Fn X ∧ fv X = (k : Rat) := by
  have hk : k = 1 ∨ k = 2 ∨ k = 3 ∨ k = 4 ∨ k = 5 ∨ k = 6 := by omega
  rcases hk with rfl | rfl | rfl | rfl | rfl | rfl
  · exact conv_of (b := 4607182418800017408) (q := 1022) (m := 4503599627370496) (s := 52) (by decide +kernel) (by decide) (by decide) (by decide) (by decide) (by decide) (by decide)
  · exact conv_of (b := 4611686018427387904) (q := 1023) (m := 4503599627370496) (s := 51) (by decide +kernel) (by decide) (by decide) (by decide) (by decide) (by decide) (by decide)
  · exact conv_of (b := 4613937818241073152) (q := 1023) (m := 6755399441055744) (s := 51) (by decide +kernel) (by decide) (by decide) (by decide) (by decide) (by decide) (by decide)
  · exact conv_of (b := 4616189618054758400) (q := 1024) (m := 4503599627370496) (s := 50) (by decide +kernel) (by decide) (by decide) (by decide) (by decide) (by decide) (by decide)
  · exact conv_of (b := 4617315517961601024) (q := 1024) (m := 5629499534213120) (s := 50) (by decide +kernel) (by decide) (by decide) (by decide) (by decide) (by decide) (by decide)
  · exact conv_of (b := 4618441417868443648) (q := 1024) (m := 6755399441055744) (s := 50) (by decide +kernel) (by decide) (by decide) (by decide) (by decide) (by decide) (by decide)
set_option maxRecDepth 100000 in
set_option maxHeartbeats 8000000 in
theorem sfits_calls (a b : Option Addr) (k ca cb zb pb : Nat) (us vs : List (Option Nat)) (Z P : Option Nat) (w : World) (ha : Row w (.slice a k ca) us) (hb : Row w (.slice b k cb) vs) (hz : FW zb Z) (hp : FW pb P) (h1 : 1 ≤ k) (h6 : k ≤ 6)
    (fa : ∀ j, j < k → Lv.Fn (us.getD j none)) (fb : ∀ j, j < k → Lv.Fn (vs.getD j none)) (fZ : Lv.Fn Z) (fP : Lv.Fn P)
    (hin : absR (fv Z - sumQ (fun j => fv (us.getD j none) * fv (vs.getD j none)) k) ≤ sumQ (fun j => absR (fv (us.getD j none) * fv (vs.getD j none))) k * ((k + 2 : Nat) : Rat) * p2 (-53) + ((k : Rat) + absR (fv P)) * p2 (-1070)) :
    Calls Try.prog 26 #[.slice a k ca, .slice b k cb, .float .f64 zb, .int .i64 (k : Int), .float .f64 pb] w fun e w' => e = .returned (.bool true) ∧ Below w.heap.size w w' := by
  have EZ := Lib.hid (fun W => sexact_calls zb Z W hz fZ)
  have EP := Lib.hid (fun W => sexact_calls pb P W hp fP)
  have HA := Lib.hid ha
  have HB := Lib.hid hb
  have FA := Lib.hid fa
  have FB := Lib.hid fb
  have FZ := Lib.hid (fn_bd fZ)
  have FP := Lib.hid (fn_bd fP)
  have HI := Lib.hid hin
  obtain ⟨KX, kx1, kx2, kx3⟩ := conv_ok h1 h6
  have EK := Lib.hid (fun W => sexact_calls (floatOfInt .f64 (k : Int)) KX W kx1 kx2)
  rw [kx3] at EK
  obtain ⟨k2, hk2e⟩ : ∃ k2, k + 2 = k2 := ⟨_, rfl⟩
  have hk2 : (k : Int) + 2 = (k2 : Int) := by omega
  have hkw : IntKind.i64.wrap (k2 : Int) = (k2 : Int) := IntWalk.i64_in _ (by omega)
  have hk28 : k2 ≤ 8 := by omega
  rw [hk2e] at HI
  clear kx1 kx2 kx3
  clear ha hb hz hp fa fb fZ fP hin
  go_enter Try.func26, Try.ntmps26
  go_upto_region 2 with (go_at_call 60; go_must (refine (EZ.out _).mono ?_; rintro e' w1 ⟨⟨z, rfl, hz⟩, hb⟩; have B1 := Lib.hid hb; have HZ := Lib.hid hz; obtain ⟨zs, zm, ze, ⟨za, zn, zc, rfl, _⟩, _⟩ := hz; clear hb))
  have hg : w1.heap.size < (w1.alloc (.cells #[.bool zs, .slice za zn zc, .int .i64 ze] 70)).heap.size := by simp
  have W1 := Lib.hid (show Below w.heap.size w ((w1.alloc (.cells #[.bool zs, .slice za zn zc, .int .i64 ze] 70)).alloc (.cells #[.bool false, .slice none 0 0, .int .i64 0] 70)) from (B1.out.alloc B1.out.size _).alloc (by have := B1.out.size; simp; omega) _)
  have X11 : DBox ((w1.alloc (.cells #[.bool zs, .slice za zn zc, .int .i64 ze] 70)).alloc (.cells #[.bool false, .slice none 0 0, .int .i64 0] 70)) w1.heap.size (fv Z) 2148 := ⟨zs, za, zn, zc, ze, (Cells3.new w1 _ _ _ _).alloc _, ((HZ.out.below ((Below.refl _ _).alloc (Nat.le_refl _) _)).below ((Below.refl _ _).alloc (Nat.le_refl _) _)).mono (by omega)⟩
  have X12 : DBox ((w1.alloc (.cells #[.bool zs, .slice za zn zc, .int .i64 ze] 70)).alloc (.cells #[.bool false, .slice none 0 0, .int .i64 0] 70)) (w1.heap.size + 1) 0 2148 := ⟨false, none, 0, 0, 0, Cells3.new2 w1 _ _ _ _ _, dq_zero _ _⟩
  have hgw := B1.out.size
  have H11 := Lib.hid X11
  have H12 := Lib.hid X12
  clear X11 X12 hg
  go_wp2
  generalize (w1.alloc (.cells #[.bool zs, .slice za zn zc, .int .i64 ze] 70)).alloc (.cells #[.bool false, .slice none 0 0, .int .i64 0] 70) = W0 at *
  generalize w1.heap.size = g1 at *
  clear HZ B1
  go_loopw [13] (fun s13 wr => ∃ j : Nat, s13 = .int .i64 (j : Int) ∧ j ≤ k ∧ Hid (DBox wr g1 (fv Z - sumQ (fun j => fv (us.getD j none) * fv (vs.getD j none)) j) 2148 ∧ DBox wr (g1 + 1) (sumQ (fun j => absR (fv (us.getD j none) * fv (vs.getD j none))) j) 2148 ∧ Below w.heap.size w wr)) (fun s13 _ => k - (intOf s13).toNat)
  case atStart => exact ⟨0, rfl, Nat.zero_le _, by show DBox _ _ (fv Z - 0) _; rw [show fv Z - 0 = fv Z by grind]; exact H11.out, H12.out, W1.out⟩
  case round =>
    obtain ⟨j, rfl, hj, HL⟩ := hrel
    by_cases hlt : j < k
    · have hjj : (j : Int) < (k : Int) := by omega
      obtain ⟨ga, oa, rfl, hca⟩ := row_cell (HA.out.below HL.out.2.2) (by omega)
      obtain ⟨gb, ob, rfl, hcb⟩ := row_cell (HB.out.below HL.out.2.2) (by omega)
      obtain ⟨x, hx, hfx⟩ := hca j hlt
      obtain ⟨y, hy, hfy⟩ := hcb j hlt
      have HX := Lib.hid (fun W => sexact_calls x _ W hfx (FA.out j hlt))
      have HY := Lib.hid (fun W => sexact_calls y _ W hfy (FB.out j hlt))
      have HM := Lib.hid (fun v u W h h' => dmul_calls v u (fv (us.getD j none)) (fv (vs.getD j none)) 1024 1074 1024 1074 W h (fn_bd (FA.out j hlt)) h' (fn_bd (FB.out j hlt)) (by omega))
      have e1 : sumQ (fun j => fv (us.getD j none) * fv (vs.getD j none)) (j + 1) = sumQ (fun j => fv (us.getD j none) * fv (vs.getD j none)) j + fv (us.getD j none) * fv (vs.getD j none) := rfl
      have e2 : sumQ (fun j => absR (fv (us.getD j none) * fv (vs.getD j none))) (j + 1) = sumQ (fun j => absR (fv (us.getD j none) * fv (vs.getD j none))) j + absR (fv (us.getD j none) * fv (vs.getD j none)) := rfl
      have HE := Lib.hid (And.intro e1 e2)
      have BP := Lib.hid (bd_mul_p2 (fn_bd (FA.out j hlt)) (fn_bd (FB.out j hlt)))
      have BT := Lib.hid (show Bd (fv Z - sumQ (fun j => fv (us.getD j none) * fv (vs.getD j none)) j) (p2 ((2060 : Nat) : Int)) by
        rw [Rat.sub_eq_add_neg]
        refine bd_p2_mono (bd_add_p2 (A := 2054) (bd_p2_mono FZ.out (by omega)) (Bd.neg (bd_p2_mono (sum_bd (A := 2048) j (fun i hi => bd_mul_p2 (fn_bd (FA.out i (by omega))) (fn_bd (FB.out i (by omega))))) (by omega)))) (by omega))
      have BS := Lib.hid (show Bd (sumQ (fun j => absR (fv (us.getD j none) * fv (vs.getD j none))) j) (p2 ((2060 : Nat) : Int)) from bd_p2_mono (sum_bd (A := 2048) j (fun i hi => bd_absR'.2 (bd_mul_p2 (fn_bd (FA.out i (by omega))) (fn_bd (FB.out i (by omega)))))) (by omega))
      clear e1 e2 hca hcb hfx hfy
      have KK := Lib.hid (show ∀ W, Below wr.heap.size wr W → W.cell? ⟨ga, oa + j, none⟩ = some (.float .f64 x) ∧ W.cell? ⟨gb, ob + j, none⟩ = some (.float .f64 y) from fun W hb => ⟨(hb.cell (p := ⟨ga, oa + j, none⟩) (cell_lt hx)).trans hx, (hb.cell (p := ⟨gb, ob + j, none⟩) (cell_lt hy)).trans hy⟩)
      clear hx hy
      generalize fv (us.getD j none) = X at *
      generalize fv (vs.getD j none) = Y at *
      go_wp2
      go_cut [14] from 32 to 42 (fun s14 wx => DCutN wr (X * Y) s14 wx)
      case first =>
        rename_i J K' hJ hK'
        have bA := Lib.hid (show Below wr.heap.size wr wr.drew from (Below.refl _ _).drew)
        have bB := Lib.hid (show Below wr.heap.size wr (wr.alloc (.cells #[.bool false, .slice none 0 0, .int .i64 0] 70)).drew from ((Below.refl wr.heap.size wr).alloc (Nat.le_refl _) _).drew)
        have zB := Lib.hid (show Cells3 (wr.alloc (.cells #[.bool false, .slice none 0 0, .int .i64 0] 70)).drew wr.heap.size (.bool false) (.slice none 0 0) (.int .i64 0) from (Cells3.new wr _ _ _ 70).below ((Below.refl _ _).drew))
        have ka := Lib.hid (KK.out _ bA.out)
        have kb := Lib.hid (KK.out _ bB.out)
        go_region_held3 (fun w' => w'.cell? ⟨ga, oa + j, none⟩ = some (.float .f64 x) ∧ w'.cell? ⟨gb, ob + j, none⟩ = some (.float .f64 y))
          (first
            | with_reducible exact ka.out
            | with_reducible exact kb.out
            | with_reducible exact K5.out
            | with_reducible exact K5a.out
            | with_reducible exact K6.out
            | with_reducible exact K6a.out
            | with_reducible exact K7.out
            | with_reducible exact K7a.out
            | with_reducible exact K8.out
            | with_reducible exact K9.out)
          (first
            | (go_at_call_of 60 (Value.float .f64 x); refine (HX.out _).mono ?_; rintro e' w5 ⟨⟨z1, rfl, hz⟩, hb⟩; have B5' : Below wr.heap.size wr w5 := (by first | with_reducible exact bA.out.trans (hb.mono bA.out.size) | with_reducible exact bB.out.trans (hb.mono bB.out.size)); have B5 := Lib.hid B5'; have Z5 := Lib.hid hz; have K5 := Lib.hid (KK.out _ B5'); have B5a := Lib.hid (B5'.alloc B5'.size (.cells #[.bool false, .slice none 0 0, .int .i64 0] 70)); have K5a := Lib.hid (KK.out _ B5a.out); (first | ((with_reducible have yy := zB.out.below hb); have F5 := Lib.hid yy; clear yy) | (have YN : True := trivial)); clear B5' hz hb)
            | (go_at_call_of 60 (Value.float .f64 y); refine (HY.out _).mono ?_; rintro e' w6 ⟨⟨z2, rfl, hz⟩, hb⟩; have B6' : Below wr.heap.size wr w6 := (by first | with_reducible exact B5.out.trans (hb.mono B5.out.size) | with_reducible exact B5a.out.trans (hb.mono B5a.out.size)); have X6' : Dq w6 z1 X 1074 := (by first | with_reducible exact Z5.out.below hb | with_reducible exact (Z5.out.below ((Below.refl _ _).alloc (Nat.le_refl _) _)).below hb); have B6 := Lib.hid B6'; have X6 := Lib.hid X6'; have Z6 := Lib.hid hz; have K6 := Lib.hid (KK.out _ B6'); have B6a := Lib.hid (B6'.alloc B6'.size (.cells #[.bool false, .slice none 0 0, .int .i64 0] 70)); have K6a := Lib.hid (KK.out _ B6a.out); (first | ((with_reducible have yy := F5.out.below hb); have F6 := Lib.hid yy; clear yy) | ((with_reducible have yy := (Cells3.new w5 (.bool false) (.slice none 0 0) (.int .i64 0) 70).below hb); have F6 := Lib.hid yy; clear yy) | (have YN : True := trivial)); clear B6' X6' hz hb)
            | (go_at_call 41; refine (HM.out _ _ _ (by first | with_reducible exact X6.out | with_reducible exact X6.out.below ((Below.refl _ _).alloc (Nat.le_refl _) _)) (by first | with_reducible exact Z6.out | with_reducible exact Z6.out.below ((Below.refl _ _).alloc (Nat.le_refl _) _))).mono ?_; rintro e' w7 ⟨⟨z3, rfl, hz⟩, hb⟩; have B7' : Below wr.heap.size wr w7 := (by first | with_reducible exact B6.out.trans (hb.mono B6.out.size) | with_reducible exact B6a.out.trans (hb.mono B6a.out.size)); have B7 := Lib.hid B7'; have Z7 := Lib.hid hz; obtain ⟨zs, zm, ze, ⟨za, zn, zc, rfl, _⟩, _⟩ := hz; have K7 := Lib.hid (KK.out _ B7'); have B7a := Lib.hid (B7'.alloc B7'.size (.cells #[.bool false, .slice none 0 0, .int .i64 0] 70)); have K7a := Lib.hid (KK.out _ B7a.out); have B8 := Lib.hid (B7'.alloc B7'.size (.cells #[.bool zs, .slice za zn zc, .int .i64 ze] 70)); have K8 := Lib.hid (KK.out _ B8.out); (first | ((with_reducible have yy := F6.out.below hb); have F7 := Lib.hid yy; obtain ⟨y0, y1, y2, y3, y4, y5⟩ := yy; have B9 := Lib.hid (below_putC B7' F7.out (by first | exact Nat.le_refl _ | exact B5.out.size) (.bool zs) (.slice za zn zc) (.int .i64 ze)); have K9 := Lib.hid (KK.out _ B9.out)) | ((with_reducible have yy := (Cells3.new w6 (.bool false) (.slice none 0 0) (.int .i64 0) 70).below hb); have F7 := Lib.hid yy; obtain ⟨y0, y1, y2, y3, y4, y5⟩ := yy; have B9 := Lib.hid (below_putC B7' F7.out B6.out.size (.bool zs) (.slice za zn zc) (.int .i64 ze)); have K9 := Lib.hid (KK.out _ B9.out)) | (have YN : True := trivial)); clear B7' hb))
        all_goals
          refine hK' _ _ (Met.intro (hJ _ _ ?_))
          (repeat apply Exists.intro)
          refine ⟨?_, rfl⟩
          unfold DCutN
          (first
            | (refine ⟨w7.heap.size, zs, za, zn, zc, ze, rfl, B7.out.size, ?_⟩; with_reducible exact ⟨Cells3.new w7 _ _ _ _, Z7.out.below ((Below.refl _ _).alloc (Nat.le_refl _) _), B8.out⟩)
            | (refine ⟨_, zs, za, zn, zc, ze, rfl, (by first | exact Nat.le_refl _ | exact B5.out.size | exact B6.out.size), ?_⟩; with_reducible exact ⟨F7.out.put _ _ _, Z7.out.put3 F7.out _ _ _, B9.out⟩))
      case rest =>
        obtain ⟨g, s0, a0, n0, c0, e0, rfl, hgr, E, hq, hbc⟩ := hcut
        obtain ⟨s1, a1, n1, c1, e1, E1, Q1⟩ := HL.out.1.below hbc
        obtain ⟨s2, a2, n2, c2, e2, E2, Q2⟩ := HL.out.2.1.below hbc
        have hgl : g1 + 1 < wr.heap.size := by
          obtain ⟨_, _, _, _, _, EE2, _⟩ := HL.out.2.1
          exact EE2.lt
        have HE0 := Lib.hid E
        have HE1 := Lib.hid E1
        have HE2 := Lib.hid E2
        have HQ0 := Lib.hid hq
        have HQ1 := Lib.hid Q1
        have HQ2 := Lib.hid Q2
        have HBc := Lib.hid (HL.out.2.2.trans (hbc.mono HL.out.2.2.size))
        clear hq Q1 Q2 hbc KK HX HY HM
        obtain ⟨x0, x1, x2, _, _, _⟩ := E
        obtain ⟨y0, y1, y2, _, _, _⟩ := E1
        clear E2
        go_upto_region 8 with (go_at_call 46; go_must (refine (dsub_calls _ _ _ _ 2060 2148 wc HQ1.out BT.out HQ0.out (bd_p2_mono BP.out (by omega)) (by omega)).mono ?_; rintro e' w8 ⟨⟨z, rfl, hz⟩, hb⟩; have B8 := Lib.hid (HBc.out.trans (hb.mono HBc.out.size)); have HZ := Lib.hid hz; obtain ⟨zs, zm, ze, ⟨za, zn, zc, rfl, _⟩, _⟩ := hz; have G0 := Lib.hid (HE0.out.below hb); have G1 := Lib.hid (HE1.out.below hb); have G2 := Lib.hid (HE2.out.below hb); have P0 := Lib.hid (HQ0.out.below hb); have P2' := Lib.hid (HQ2.out.below hb); clear x0 x1 x2 y0 y1 y2 hb; obtain ⟨_, _, _, x3, x4, x5⟩ := G1.out))
        have K0 := Lib.hid (G0.out.put_other (b' := g1) (by omega) (.bool zs) (.slice za zn zc) (.int .i64 ze))
        have K1 := Lib.hid (G1.out.put (.bool zs) (.slice za zn zc) (.int .i64 ze))
        have K2 := Lib.hid (G2.out.put_other (b' := g1) (by omega) (.bool zs) (.slice za zn zc) (.int .i64 ze))
        have R0 := Lib.hid (P0.out.put3 G1.out (.bool zs) (.slice za zn zc) (.int .i64 ze))
        have R1 := Lib.hid (HZ.out.put3 G1.out (.bool zs) (.slice za zn zc) (.int .i64 ze))
        have R2 := Lib.hid (P2'.out.put3 G1.out (.bool zs) (.slice za zn zc) (.int .i64 ze))
        have BW := Lib.hid (below_put3 B8.out hgw (.bool zs) (.slice za zn zc) (.int .i64 ze))
        clear x3 x4 x5 G0 G1 G2 P0 P2' B8 HZ
        generalize ((w8.setCell ⟨g1, 0, none⟩ (.bool zs)).setCell ⟨g1, 1, none⟩ (.slice za zn zc)).setCell ⟨g1, 2, none⟩ (.int .i64 ze) = W8 at *
        have bA := Lib.hid (show Below W8.heap.size W8 W8.drew from (Below.refl _ _).drew)
        obtain ⟨x0, x1, x2, _, _, _⟩ := K0.out.below bA.out
        obtain ⟨y0, y1, y2, y3, y4, y5⟩ := K2.out.below bA.out
        go_region_with (first
          | (go_at_call 45; go_must (refine (dabs_calls _ (X * Y) 2048 2148 _ (R0.out.below bA.out) BP.out (by omega)).mono ?_; rintro e' w9 ⟨⟨z, rfl, hz⟩, hb⟩; have B9 := Lib.hid (bA.out.trans (hb.mono bA.out.size)); have A9 := Lib.hid hz; clear x0 x1 x2 y0 y1 y2 y3 y4 y5; obtain ⟨x0, x1, x2, _, _, _⟩ := K0.out.below B9.out; obtain ⟨y0, y1, y2, y3, y4, y5⟩ := K2.out.below B9.out; clear hz hb))
          | (go_at_call 42; go_must (refine (dadd_calls _ _ _ _ 2060 2148 _ (R2.out.below B9.out) BS.out A9.out (bd_absR'.2 (bd_p2_mono BP.out (by omega))) (by omega)).mono ?_; rintro e' w10 ⟨⟨z, rfl, hz⟩, hb⟩; have B10 := Lib.hid (B9.out.trans (hb.mono B9.out.size)); have HZ := Lib.hid hz; obtain ⟨zs, zm, ze, ⟨za, zn, zc, rfl, _⟩, _⟩ := hz; have L1 := Lib.hid (K1.out.below B10.out); have L2 := Lib.hid (K2.out.below B10.out); have M1 := Lib.hid (R1.out.below B10.out); clear x0 x1 x2 y0 y1 y2 y3 y4 y5 hb; obtain ⟨y0, y1, y2, y3, y4, y5⟩ := L2.out)))
        all_goals
          have N1 := Lib.hid (show DBox _ g1 (fv Z - sumQ (fun j => fv (us.getD j none) * fv (vs.getD j none)) (j + 1)) 2148 from ⟨_, _, _, _, _, L1.out.put_other (b' := g1 + 1) (by omega) (.bool zs) (.slice za zn zc) (.int .i64 ze), by rw [HE.out.1, show fv Z - (sumQ (fun j => fv (us.getD j none) * fv (vs.getD j none)) j + X * Y) = fv Z - sumQ (fun j => fv (us.getD j none) * fv (vs.getD j none)) j - X * Y by grind]; exact M1.out.put3 L2.out _ _ _⟩)
          have N2 := Lib.hid (show DBox _ (g1 + 1) (sumQ (fun j => absR (fv (us.getD j none) * fv (vs.getD j none))) (j + 1)) 2148 from ⟨_, _, _, _, _, L2.out.put (.bool zs) (.slice za zn zc) (.int .i64 ze), by rw [HE.out.2]; exact HZ.out.put3 L2.out _ _ _⟩)
          have N3 := Lib.hid (below_put3 (BW.out.trans (B10.out.mono BW.out.size)) (show w.heap.size ≤ g1 + 1 by omega) (.bool zs) (.slice za zn zc) (.int .i64 ze))
          clear L1 L2 M1 HZ y0 y1 y2 y3 y4 y5
          go_wp2
          go_roundw
          case rel => exact ⟨j + 1, by go_num, by omega, N1.out, N2.out, N3.out⟩
          case measure => simp [intOf]; omega
    · obtain rfl : j = k := by omega
      have hjj : ¬ (j : Int) < (j : Int) := by omega
      have BT := Lib.hid (show Bd (fv Z - sumQ (fun j => fv (us.getD j none) * fv (vs.getD j none)) j) (p2 ((2060 : Nat) : Int)) by
        rw [Rat.sub_eq_add_neg]
        refine bd_p2_mono (bd_add_p2 (A := 2054) (bd_p2_mono FZ.out (by omega)) (Bd.neg (bd_p2_mono (sum_bd (A := 2048) j (fun i hi => bd_mul_p2 (fn_bd (FA.out i hi)) (fn_bd (FB.out i hi)))) (by omega)))) (by omega))
      have BS := Lib.hid (show Bd (sumQ (fun j => absR (fv (us.getD j none) * fv (vs.getD j none))) j) (p2 ((2060 : Nat) : Int)) from bd_p2_mono (sum_bd (A := 2048) j (fun i hi => bd_absR'.2 (bd_mul_p2 (fn_bd (FA.out i hi)) (fn_bd (FB.out i hi))))) (by omega))
      have HI2 := Lib.hid HI.out
      clear FA FB HI
      generalize fv Z - sumQ (fun j => fv (us.getD j none) * fv (vs.getD j none)) j = T at *
      generalize sumQ (fun j => absR (fv (us.getD j none) * fv (vs.getD j none))) j = S at *
      obtain ⟨s1, a1, n1, c1, e1, E1, Q1⟩ := HL.out.1
      obtain ⟨s2, a2, n2, c2, e2, E2, Q2⟩ := HL.out.2.1
      have HE1 := Lib.hid E1
      have HE2 := Lib.hid E2
      have HQ1 := Lib.hid Q1
      have HQ2 := Lib.hid Q2
      have HBw := Lib.hid HL.out.2.2
      have KB := Lib.hid (bd_p2_mono (A' := 2059) (nat_bd (k := j) (n := 3) (Nat.lt_of_le_of_lt h6 (by decide))) (by omega))
      have PB := Lib.hid (bd_absR'.2 (bd_p2_mono (A' := 2059) FP.out (by omega)))
      have BL := Lib.hid (bd_add_p2 KB.out PB.out)
      have TB := Lib.hid (bd_mul_p2 (A' := 4) BS.out (nat_bd (k := k2) (n := 4) (Nat.lt_of_le_of_lt hk28 (by decide))))
      clear E1 Q1 Q2 HL W1 H11 H12
      go_upto_region 9 with (fail)
      go_upto_region 10 with (first
        | (go_at_call_of 60 (Value.float .f64 (floatOfInt .f64 (j : Int))); refine (EK.out _).mono ?_; rintro e' w4 ⟨⟨z4, rfl, hz⟩, hb⟩; have B4 := Lib.hid hb; have Z4 := Lib.hid hz; clear hz hb)
        | (go_at_call 60; refine (EP.out _).mono ?_; rintro e' w5 ⟨⟨z5, rfl, hz⟩, hb⟩; have B5 := Lib.hid (B4.out.trans (hb.mono B4.out.size)); have Y4 := Lib.hid (Z4.out.below hb); have Z5 := Lib.hid hz; clear hz hb)
        | (go_at_call 45; refine (dabs_calls z5 (fv P) 1024 1074 _ Z5.out FP.out (by omega)).mono ?_; rintro e' w6 ⟨⟨z6, rfl, hz⟩, hb⟩; have B6 := Lib.hid (B5.out.trans (hb.mono B5.out.size)); have Y5 := Lib.hid (Y4.out.below hb); have Z6 := Lib.hid hz; clear hz hb)
        | (go_at_call 42; go_must (refine (dadd_calls z4 z6 _ _ 2059 1074 _ Y5.out KB.out Z6.out PB.out (by omega)).mono ?_; rintro e' w7 ⟨⟨z7, rfl, hz⟩, hb⟩; have B7 := Lib.hid (B6.out.trans (hb.mono B6.out.size)); have Z7 := Lib.hid hz; obtain ⟨zs, zm, ze, ⟨za, zn, zc, rfl, _⟩, _⟩ := hz; clear hb)))
      have B8 := Lib.hid (B7.out.alloc B7.out.size (.cells #[.bool zs, .slice za zn zc, .int .i64 ze] 70))
      have E15 := Lib.hid (Cells3.new w7 (.bool zs) (.slice za zn zc) (.int .i64 ze) 70)
      have Q15 := Lib.hid (Z7.out.below ((Below.refl _ _).alloc (Nat.le_refl _) (.cells #[.bool zs, .slice za zn zc, .int .i64 ze] 70)))
      have hg15 := B7.out.size
      generalize w7.alloc (.cells #[.bool zs, .slice za zn zc, .int .i64 ze] 70) = W8 at *
      generalize w7.heap.size = g15 at *
      clear Z7 B7 B4 Z4 B5 Y4 Z5 B6 Y5 Z6
      have F2 := Lib.hid (HE2.out.below B8.out)
      have R2 := Lib.hid (HQ2.out.below B8.out)
      obtain ⟨x0, x1, x2, _, _, _⟩ := F2.out
      go_upto_region 11 with (first
        | (go_at_call 61; go_must (refine (dtimes_calls _ S k2 2060 2148 W8 R2.out BS.out (Nat.lt_of_le_of_lt hk28 (by decide)) (by omega)).mono ?_; rintro e' w9 ⟨⟨z9, rfl, hz⟩, hb⟩; have B9 := Lib.hid hb; have Z9 := Lib.hid hz; clear hz hb))
        | (go_at_call 62; go_must (refine (dpow_calls (-53) 0 53 _ (by omega) (by omega) (by omega) (by omega)).mono ?_; rintro e' w10 ⟨⟨z10, rfl, hz⟩, hb⟩; have B10 := Lib.hid (B9.out.trans (hb.mono B9.out.size)); have Y9 := Lib.hid (Z9.out.below hb); have Z10 := Lib.hid hz; clear hz hb))
        | (go_at_call 41; go_must (refine (dmul_calls z9 z10 _ _ (2060 + 4) 2148 0 53 _ Y9.out TB.out Z10.out (p2_bd (k := -53) (A := 0) (by omega)) (by omega)).mono ?_; rintro e' w11 ⟨⟨z11, rfl, hz⟩, hb⟩; have B11 := Lib.hid (B10.out.trans (hb.mono B10.out.size)); have Z11 := Lib.hid hz; obtain ⟨ys, ym, ye, ⟨ya, yn, yc, rfl, _⟩, _⟩ := hz; clear hb)))
      have B12 := Lib.hid (B11.out.alloc B11.out.size (.cells #[.bool ys, .slice ya yn yc, .int .i64 ye] 70))
      have E16 := Lib.hid (Cells3.new w11 (.bool ys) (.slice ya yn yc) (.int .i64 ye) 70)
      have Q16 := Lib.hid (Z11.out.below ((Below.refl _ _).alloc (Nat.le_refl _) (.cells #[.bool ys, .slice ya yn yc, .int .i64 ye] 70)))
      have hg16 := B11.out.size
      generalize w11.alloc (.cells #[.bool ys, .slice ya yn yc, .int .i64 ye] 70) = W12 at *
      generalize w11.heap.size = g16 at *
      have hlt15 := E15.out.lt
      have hlt1 := HE1.out.lt
      have BT12 := Lib.hid (B8.out.trans (B12.out.mono B8.out.size))
      have F15 := Lib.hid (E15.out.below B12.out)
      have R15 := Lib.hid (Q15.out.below B12.out)
      have M16 := Lib.hid (bd_mul_p2 TB.out (p2_bd (k := -53) (A := 0) (by omega)))
      have M15 := Lib.hid (bd_mul_p2 BL.out (p2_bd (k := -1070) (A := 0) (by omega)))
      clear x0 x1 x2 B9 Z9 B10 Y9 Z10 B11 Z11 F2 R2
      go_cut [16] from 63 to 67 (fun s16 wx => s16 = .pointer (some ⟨g16, 0, none⟩) ∧ DBox wx g16 (S * (k2 : Rat) * p2 (-53) + ((j : Rat) + absR (fv P)) * p2 (-1070)) 2201 ∧ Below wr.heap.size wr wx)
      case first =>
        rename_i J K' hJ hK'
        have bA := Lib.hid (show Below W12.heap.size W12 W12.drew from (Below.refl _ _).drew)
        obtain ⟨x0, x1, x2, _, _, _⟩ := F15.out.below bA.out
        obtain ⟨y0, y1, y2, y3, y4, y5⟩ := E16.out.below bA.out
        go_region_with (first
          | (go_at_call 62; go_must (refine (dpow_calls (-1070) 0 1070 _ (by omega) (by omega) (by omega) (by omega)).mono ?_; rintro e' w13 ⟨⟨z13, rfl, hz⟩, hb⟩; have B13 := Lib.hid (bA.out.trans (hb.mono bA.out.size)); have Z13 := Lib.hid hz; clear x0 x1 x2 y0 y1 y2 y3 y4 y5 hz hb; obtain ⟨x0, x1, x2, _, _, _⟩ := F15.out.below B13.out; obtain ⟨y0, y1, y2, y3, y4, y5⟩ := E16.out.below B13.out))
          | (go_at_call 41; go_must (refine (dmul_calls _ z13 _ _ 2060 1074 0 1070 _ (R15.out.below B13.out) BL.out Z13.out (p2_bd (k := -1070) (A := 0) (by omega)) (by omega)).mono ?_; rintro e' w14 ⟨⟨z14, rfl, hz⟩, hb⟩; have B14 := Lib.hid (B13.out.trans (hb.mono B13.out.size)); have Z14 := Lib.hid hz; clear x0 x1 x2 y0 y1 y2 y3 y4 y5 hz hb; obtain ⟨y0, y1, y2, y3, y4, y5⟩ := E16.out.below B14.out))
          | (go_at_call 42; go_must (refine (dadd_calls _ z14 _ _ 2064 2201 _ ((Q16.out.below B14.out).mono (by omega)) M16.out (Z14.out.mono (by omega)) (bd_p2_mono M15.out (by omega)) (by omega)).mono ?_; rintro e' w15 ⟨⟨z15, rfl, hz⟩, hb⟩; have B15 := Lib.hid (B14.out.trans (hb.mono B14.out.size)); have Z15 := Lib.hid hz; obtain ⟨ts, tm, te, ⟨ta, tn, tc, rfl, _⟩, _⟩ := hz; have L16 := Lib.hid (E16.out.below B15.out); clear y0 y1 y2 y3 y4 y5 hb; obtain ⟨y0, y1, y2, y3, y4, y5⟩ := L16.out)))
        all_goals
          refine hK' _ _ (Met.intro (hJ _ _ ?_))
          (repeat apply Exists.intro)
          refine ⟨?_, rfl⟩
          exact ⟨rfl, ⟨_, _, _, _, _, L16.out.put (.bool ts) (.slice ta tn tc) (.int .i64 te), Z15.out.put3 L16.out _ _ _⟩, below_putC (BT12.out.trans (B15.out.mono BT12.out.size)) L16.out (Nat.le_trans B8.out.size hg16) _ _ _⟩
      case rest =>
        obtain ⟨rfl, h16, hbw⟩ := hcut
        obtain ⟨s6, a6, n6, c6, e6, E6, Q6⟩ := h16
        have HE6 := Lib.hid E6
        have HQ6 := Lib.hid Q6
        have HB6 := Lib.hid hbw
        clear E6 Q6 hbw
        have bA := Lib.hid (show Below wc.heap.size wc wc.drew from (Below.refl _ _).drew)
        have KP := Lib.hid (fun W (hb : Below wc.heap.size wc W) => six_keep ((HE1.out.below HB6.out).below hb) (HE6.out.below hb))
        have ka := Lib.hid (KP.out _ bA.out)
        have MM' := Lib.hid (bd_add_p2 (A := 2064) M16.out (bd_p2_mono M15.out (by omega)))
        have hr : cmpQ (absR T) (S * (k2 : Rat) * p2 (-53) + ((j : Rat) + absR (fv P)) * p2 (-1070)) ≤ 0 := by
          have h0 := cmpQ_le (a := absR T) (b := S * (k2 : Rat) * p2 (-53) + ((j : Rat) + absR (fv P)) * p2 (-1070))
          rw [decide_eq_true HI2.out] at h0
          exact of_decide_eq_true h0
        have CM := Lib.hid (fun z u W h h' => dcmp_calls z u (absR T) (S * (k2 : Rat) * p2 (-53) + ((j : Rat) + absR (fv P)) * p2 (-1070)) 2065 2201 W h (bd_absR'.2 (bd_p2_mono BT.out (by omega))) h' MM'.out (by omega))
        generalize cmpQ (absR T) (S * (k2 : Rat) * p2 (-53) + ((j : Rat) + absR (fv P)) * p2 (-1070)) = r at *
        go_wp2
        go_region_held3 (fun w' => w'.cell? ⟨g1, 0, none⟩ = some (.bool s1) ∧ w'.cell? ⟨g1, 1, none⟩ = some (.slice a1 n1 c1) ∧ w'.cell? ⟨g1, 2, none⟩ = some (.int .i64 e1) ∧ w'.cell? ⟨g16, 0, none⟩ = some (.bool s6) ∧ w'.cell? ⟨g16, 1, none⟩ = some (.slice a6 n6 c6) ∧ w'.cell? ⟨g16, 2, none⟩ = some (.int .i64 e6))
          (first
            | with_reducible exact ka.out
            | with_reducible exact K7.out
            | with_reducible exact K8.out)
          (first
            | (go_at_call 45; go_must (refine (dabs_calls _ T 2060 2148 _ ((HQ1.out.below HB6.out).below bA.out) BT.out (by omega)).mono ?_; rintro e' w17 ⟨⟨z17, rfl, hz⟩, hb⟩; have B17 := Lib.hid (bA.out.trans (hb.mono bA.out.size)); have Z17 := Lib.hid hz; have K7 := Lib.hid (KP.out _ B17.out); clear hz hb))
            | (go_at_call 47; go_must (refine (CM.out z17 _ _ (Z17.out.mono (by omega)) (HQ6.out.below B17.out)).mono ?_; rintro e' w18 ⟨rfl, hb⟩; have B18 := Lib.hid (B17.out.trans (hb.mono B17.out.size)); have K8 := Lib.hid (KP.out _ B18.out); clear hb)))
        go_wp2
        go_ret
        exact ⟨rfl, HBw.out.trans ((HB6.out.trans (B18.out.mono HB6.out.size)).mono HBw.out.size)⟩
end Go.Proofs.Ytnboegeljaplbaa
