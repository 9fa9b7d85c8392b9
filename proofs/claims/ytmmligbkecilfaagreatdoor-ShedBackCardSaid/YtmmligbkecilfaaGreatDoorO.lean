/- The program's Of, walked. -/
import Derived.Test.YtmmligbkecilfaaGreatDoorN
import Derived.Test.YtmmligbkecilfaaGreatDoorRound
namespace Go.Proofs.YtmmligbkecilfaaGreatDoor
open Go.RowKit Lv Go.Shelf
open Ieee (double Format Datum Toward)
theorem run_eqF (a b : Nat) (w : World) : (Op.equalIn 9999 25 (.float .f64 a) (.float .f64 b)).run Tryz.prog w = .ok (FloatKind.f64.format.order a b == some Ordering.eq) w := run_equalIn_float 9998 a b w
theorem run_maxI (ts : Array TypeId) (t : TypeId) (x y : Int) (w : World) : (Builtin.max_ ts t #[.int .i64 x, .int .i64 y]).run Tryz.prog w = .ok (.int .i64 (max x y)) w := by
  rw [run_max_int2]
  congr 2
  split <;> omega
theorem run_minI (ts : Array TypeId) (t : TypeId) (x y : Int) (w : World) : (Builtin.min_ ts t #[.int .i64 x, .int .i64 y]).run Tryz.prog w = .ok (.int .i64 (min x y)) w := by
  rw [run_min_int2]
  congr 2
  split <;> omega
attribute [local go_sem high] run_maxI run_minI
attribute [local go_sem] run_store_float drewN_alloc drewN_setCell run_addF run_subF run_mulF run_quoF run_eqF

/-- the power that both are scaled by -/
def ofK (f g : Option Nat) : Int := max (-1000) (min 1000 (max (topF f) (topF g)))
def ofH (f g : Option Nat) : Option Nat :=
  fsqrt (fadd (fmul (fmul f (some (pw (-ofK f g)))) (fmul f (some (pw (-ofK f g))))) (fmul (fmul g (some (pw (-ofK f g)))) (fmul g (some (pw (-ofK f g))))))
def ofR (f g : Option Nat) : Option Nat := fmul (ofH f g) (some (pw (ofK f g)))
/-- a rotation -/
def ofF (f g : Option Nat) : Option (Option Nat × Option Nat × Option Nat) :=
  if (numF f && numF g) = false then none
  else if (zeroF f && zeroF g) = true then some (some 4607182418800017408, some 0, some 0)
  else if numF (ofR f g) = false then none
  else some (fdiv (fmul f (some (pw (-ofK f g)))) (ofH f g), fdiv (fmul g (some (pw (-ofK f g)))) (ofH f g), ofR f g)
def OfPost (o : Option (Option Nat × Option Nat × Option Nat)) (e : Ending) : Prop :=
  match o with
  | none => e = .returned (.tuple #[.float .f64 0, .float .f64 0, .float .f64 0, .bool false])
  | some (c, s, r) => ∃ u v z, e = .returned (.tuple #[.float .f64 u, .float .f64 v, .float .f64 z, .bool true]) ∧ FW u c ∧ FW v s ∧ FW z r

theorem ofK_range (f g : Option Nat) : -1000 ≤ ofK f g ∧ ofK f g ≤ 1000 := by unfold ofK; omega
theorem numF_some {x : Option Nat} (h : numF x = true) : ∃ b, x = some b ∧ b % 9223372036854775808 < 9218868437227405312 := by
  cases x with
  | none => cases h
  | some b => exact ⟨b, rfl, by simpa [numF] using h⟩
theorem ofR_up {f g : Option Nat} {x y : Nat} (hx : FW x f) (hy : FW y g) (hf : numF f = true) (hg : numF g = true) : Up (ofR f g) := by
  obtain ⟨a, rfl, ha⟩ := numF_some hf
  obtain ⟨b, rfl, hb⟩ := numF_some hg
  obtain ⟨rfl, _⟩ := ab_some hx.2
  obtain ⟨rfl, _⟩ := ab_some hy.2
  obtain ⟨h1, h2⟩ := ofK_range (some a) (some b)
  have n1 := pw_norm (-ofK (some a) (some b)) (by omega) (by omega)
  have n2 := pw_norm (ofK (some a) (some b)) (by omega) (by omega)
  obtain ⟨p, hp, hpn⟩ := num_scale ha hx.1 n1.lo n1.hi
  obtain ⟨q, hq, hqn⟩ := num_scale hb hy.1 n1.lo n1.hi
  unfold ofR ofH
  rw [hp, hq]
  exact ((Up.square hpn).add (Up.square hqn)).sqrt.scale n2.lo n2.hi
theorem up_num {x : Option Nat} {z : Nat} (h : Up x) (hz : FW z x) : decide (z % 9223372036854775808 = 9218868437227405312) = !numF x := by
  obtain ⟨b, rfl, hb⟩ := h
  obtain ⟨rfl, _⟩ := ab_some hz.2
  unfold numF
  rw [← decide_not]
  congr 1
  apply propext
  omega

theorem results_tmp4 {fn : Func} {t u v x : Tmp} (h : fn.results = #[.tmp t, .tmp u, .tmp v, .tmp x]) (tmps : Array Value) (P : Program) (w : World) :
    (results fn tmps).run P w = .ok (.tuple #[tmps.getD t undef, tmps.getD u undef, tmps.getD v undef, tmps.getD x undef]) w := by
  simp [results, h]
def OofR (O : Option (Option Nat × Option Nat × Option Nat)) (R H A B : Option Nat) : Prop := O = if numF R = false then none else some (fdiv A H, fdiv B H, R)
theorem isInf_of {z : Nat} {R : Option Nat} (h : Up R) (hz : FW z R) {t : Bool} (ht : numF R = t) (w : World) :
    Calls Tryz.prog 84 #[.float .f64 z, .int .i64 0] w fun e w' => e = .returned (.bool (!t)) ∧ w = w' := by
  have := isInf_calls z hz.1 w
  rw [up_num h hz, ht] at this
  exact this

theorem of_calls_no (x y : Nat) (w : World) {F G : Option Nat} (hx : FW x F) (hy : FW y G) (h : (numF F && numF G) = false) :
    Calls Tryz.prog 60 #[.float .f64 x, .float .f64 y] w fun e w' => e = .returned (.tuple #[.float .f64 0, .float .f64 0, .float .f64 0, .bool false]) ∧ Below w.heap.size w w' := by
  have M := Lib.hid (may_calls x y hx.1 hy.1)
  rw [numW_F hx, numW_F hy, h] at M
  clear hx hy h
  go_enter Tryz.func60, Tryz.ntmps60
  go_wp2_with (go_at_call 80; refine (M.out _).mono ?_; rintro e w1 ⟨rfl, hb⟩)
  refine bodyPost_ret (v := .tuple #[.float .f64 0, .float .f64 0, .float .f64 0, .bool false]) (by simp [results, Tryz.results60, go_sem]) rfl ⟨rfl, ((Below.refl _ _).alloc (Nat.le_refl _) _).trans (hb.mono (by simp))⟩

set_option maxRecDepth 100000 in
theorem of_calls_zero (x y : Nat) (w : World) {F G : Option Nat} (hx : FW x F) (hy : FW y G) (h : (numF F && numF G) = true) (hz : (zeroF F && zeroF G) = true) :
    Calls Tryz.prog 60 #[.float .f64 x, .float .f64 y] w fun e w' => e = .returned (.tuple #[.float .f64 4607182418800017408, .float .f64 0, .float .f64 0, .bool true]) ∧ Below w.heap.size w w' := by
  have M := Lib.hid (may_calls x y hx.1 hy.1)
  rw [numW_F hx, numW_F hy, h] at M
  have e1 : (FloatKind.f64.format.order x 0 == some Ordering.eq) = decide (x % 9223372036854775808 = 0) := is_zero x hx.1
  have e2 : (FloatKind.f64.format.order y 0 == some Ordering.eq) = decide (y % 9223372036854775808 = 0) := is_zero y hy.1
  rw [Bool.and_eq_true] at hz
  rw [zeroW_F hx, hz.1] at e1
  rw [zeroW_F hy, hz.2] at e2
  clear hx hy h hz
  go_enter Tryz.func60, Tryz.ntmps60
  go_wp2_with (go_at_call 80; refine (M.out _).mono ?_; rintro e w1 ⟨rfl, hb⟩; obtain ⟨hc, hf⟩ := bcell hb)
  refine bodyPost_ret (v := .tuple #[.float .f64 4607182418800017408, .float .f64 0, .float .f64 0, .bool true]) (by simp [results, Tryz.results60, go_sem]) rfl ⟨rfl, ((Below.refl _ _).alloc (Nat.le_refl _) _).trans (hb.mono (by simp))⟩

set_option maxRecDepth 100000 in
set_option maxHeartbeats 1000000 in
theorem of_calls_some (x y : Nat) (w : World) {F G : Option Nat} (hx : FW x F) (hy : FW y G) (h : (numF F && numF G) = true) (hz : (zeroF F && zeroF G) = false) :
    Calls Tryz.prog 60 #[.float .f64 x, .float .f64 y] w fun e w' => OfPost (ofF F G) e ∧ Below w.heap.size w w' := by
  have M := Lib.hid (may_calls x y hx.1 hy.1)
  rw [numW_F hx, numW_F hy, h] at M
  have e1 : (FloatKind.f64.format.order x 0 == some Ordering.eq) = decide (x % 9223372036854775808 = 0) := is_zero x hx.1
  have e2 : (FloatKind.f64.format.order y 0 == some Ordering.eq) = decide (y % 9223372036854775808 = 0) := is_zero y hy.1
  rw [zeroW_F hx] at e1
  rw [zeroW_F hy] at e2
  obtain ⟨k1, k2⟩ := ofK_range F G
  have hx64 := hx.1
  have hy64 := hy.1
  have hup : Hid (Up (ofR F G)) := by rw [Bool.and_eq_true] at h; exact ofR_up hx hy h.1 h.2
  have hO : OofR (ofF F G) (ofR F G) (ofH F G) (fmul F (some (pw (-ofK F G)))) (fmul G (some (pw (-ofK F G)))) := by
    unfold OofR ofF
    rw [if_neg (by rw [h]; decide), if_neg (by rw [hz]; decide)]
  have hK : Hid (max (-1000) (min 1000 (max (topW x) (topW y))) = ofK F G) := by unfold Hid ofK; rw [topW_F hx, topW_F hy]
  have hR : Hid (ofR F G = fmul (ofH F G) (some (pw (ofK F G)))) := rfl
  have hH : Hid (ofH F G = fsqrt (fadd (fmul (fmul F (some (pw (-ofK F G)))) (fmul F (some (pw (-ofK F G))))) (fmul (fmul G (some (pw (-ofK F G)))) (fmul G (some (pw (-ofK F G))))))) := rfl
  have hfw := Lib.hid (And.intro hx hy)
  clear hx hy h
  generalize ofF F G = O at *
  generalize ofR F G = R at *
  generalize ofH F G = H at *
  generalize ofK F G = k at *
  generalize zeroF F = zf at *
  generalize zeroF G = zg at *
  have P := Lib.hid (pow_calls k (by omega) (by omega))
  have kk := Lib.hid (And.intro k1 k2)
  have FK := Lib.hid (fw_pw k (by omega) (by omega))
  have hm1 : -1000 ≤ -k := by omega
  have hm2 : -k ≤ 1000 := by omega
  clear P
  have hN : ∃ t, numF R = t := ⟨_, rfl⟩
  obtain ⟨t, hN⟩ := hN
  have HN := Lib.hid hN
  clear hN
  cases zf
  · cases t
    · go_enter Tryz.func60, Tryz.ntmps60
      go_wp2_with (first | (go_at_call 80; refine (M.out _).mono ?_; rintro e w1 ⟨rfl, hb⟩; have hz := hb.size; simp at hz; have hz1 : w.heap.size < w1.heap.size := (by omega); have c10 := (hb.cell (p := ⟨w.heap.size, 0, none⟩) (by simp)).trans (show _ = some (.float .f64 x) by simp [go_sem]); have c11 := (hb.cell (p := ⟨w.heap.size, 1, none⟩) (by simp)).trans (show _ = some (.float .f64 y) by simp [go_sem]); have f10 := (hb.frozen (p := ⟨w.heap.size, 0, none⟩) (by simp)).trans (show _ = false by simp [go_sem]); have f11 := (hb.frozen (p := ⟨w.heap.size, 1, none⟩) (by simp)).trans (show _ = false by simp [go_sem])) | (go_at_call 81; refine (top_calls _ (by assumption) _).mono ?_; rintro e w' ⟨rfl, rfl⟩) | (rw [hK.out]; go_at_call 82; refine (scale_calls x y (-k) _ hfw.out.1 hfw.out.2 hm1 hm2).mono ?_; rintro e w2 ⟨u, v, rfl, hu, hv, hb2⟩; have hz2 := hb2.size; have c20 := (hb2.cell (p := ⟨w.heap.size, 0, none⟩) hz1).trans c10; have c21 := (hb2.cell (p := ⟨w.heap.size, 1, none⟩) hz1).trans c11; have f20 := (hb2.frozen (p := ⟨w.heap.size, 0, none⟩) hz1).trans f10; have f21 := (hb2.frozen (p := ⟨w.heap.size, 1, none⟩) hz1).trans f11) | (go_at_call 83; refine (size_calls u v _ hu hv).mono ?_; rintro e w3 ⟨z, rfl, hz', hb3⟩; have d0 := (hb3.cell (p := ⟨w.heap.size, 0, none⟩) (by simp; omega)).trans (cell_set_off (o := 1) (cell_set_eq c20) (by decide)); have d1 := (hb3.cell (p := ⟨w.heap.size, 1, none⟩) (by simp; omega)).trans (cell_set_eq (cell_set_off (o := 0) c21 (by decide)))) | (go_at_call 78; refine (pow_calls k (by omega) (by omega) _).mono ?_; rintro e w' ⟨rfl, rfl⟩) | (go_at_call 84; refine (isInf_of hup.out (hR.out ▸ opw_mul _ (hH.out ▸ hz') FK.out) HN.out _).mono ?_; rintro e w' ⟨rfl, rfl⟩))
      have HB := (((((Below.refl w.heap.size w).alloc (Nat.le_refl _) (.cells #[.float .f64 x, .float .f64 y] 118)).trans (hb.mono (by simp))).trans (hb2.mono (by omega))).setCell (p := ⟨w.heap.size, 0, none⟩) (Nat.le_refl _) (.float .f64 u)).setCell (p := ⟨w.heap.size, 1, none⟩) (Nat.le_refl _) (.float .f64 v)
      have HB3 := HB.trans (hb3.mono (by simp; omega))
      exact bodyPost_ret (v := .tuple #[.float .f64 0, .float .f64 0, .float .f64 0, .bool false]) (by simp [results, Tryz.results60, go_sem]) rfl ⟨by rw [show O = none by unfold OofR at hO; rw [hO, if_pos HN.out]]; rfl, below_drewN HB3 _⟩
    · go_enter Tryz.func60, Tryz.ntmps60
      go_wp2_with (first | (go_at_call 80; refine (M.out _).mono ?_; rintro e w1 ⟨rfl, hb⟩; have hz := hb.size; simp at hz; have hz1 : w.heap.size < w1.heap.size := (by omega); have c10 := (hb.cell (p := ⟨w.heap.size, 0, none⟩) (by simp)).trans (show _ = some (.float .f64 x) by simp [go_sem]); have c11 := (hb.cell (p := ⟨w.heap.size, 1, none⟩) (by simp)).trans (show _ = some (.float .f64 y) by simp [go_sem]); have f10 := (hb.frozen (p := ⟨w.heap.size, 0, none⟩) (by simp)).trans (show _ = false by simp [go_sem]); have f11 := (hb.frozen (p := ⟨w.heap.size, 1, none⟩) (by simp)).trans (show _ = false by simp [go_sem])) | (go_at_call 81; refine (top_calls _ (by assumption) _).mono ?_; rintro e w' ⟨rfl, rfl⟩) | (rw [hK.out]; go_at_call 82; refine (scale_calls x y (-k) _ hfw.out.1 hfw.out.2 hm1 hm2).mono ?_; rintro e w2 ⟨u, v, rfl, hu, hv, hb2⟩; have hz2 := hb2.size; have c20 := (hb2.cell (p := ⟨w.heap.size, 0, none⟩) hz1).trans c10; have c21 := (hb2.cell (p := ⟨w.heap.size, 1, none⟩) hz1).trans c11; have f20 := (hb2.frozen (p := ⟨w.heap.size, 0, none⟩) hz1).trans f10; have f21 := (hb2.frozen (p := ⟨w.heap.size, 1, none⟩) hz1).trans f11) | (go_at_call 83; refine (size_calls u v _ hu hv).mono ?_; rintro e w3 ⟨z, rfl, hz', hb3⟩; have d0 := (hb3.cell (p := ⟨w.heap.size, 0, none⟩) (by simp; omega)).trans (cell_set_off (o := 1) (cell_set_eq c20) (by decide)); have d1 := (hb3.cell (p := ⟨w.heap.size, 1, none⟩) (by simp; omega)).trans (cell_set_eq (cell_set_off (o := 0) c21 (by decide)))) | (go_at_call 78; refine (pow_calls k (by omega) (by omega) _).mono ?_; rintro e w' ⟨rfl, rfl⟩) | (go_at_call 84; refine (isInf_of hup.out (hR.out ▸ opw_mul _ (hH.out ▸ hz') FK.out) HN.out _).mono ?_; rintro e w' ⟨rfl, rfl⟩))
      have HB := (((((Below.refl w.heap.size w).alloc (Nat.le_refl _) (.cells #[.float .f64 x, .float .f64 y] 118)).trans (hb.mono (by simp))).trans (hb2.mono (by omega))).setCell (p := ⟨w.heap.size, 0, none⟩) (Nat.le_refl _) (.float .f64 u)).setCell (p := ⟨w.heap.size, 1, none⟩) (Nat.le_refl _) (.float .f64 v)
      have HB3 := HB.trans (hb3.mono (by simp; omega))
      have HZ := hz'
      rw [← hH.out] at HZ
      have HR := opw_mul w3 HZ FK.out
      rw [← hR.out] at HR
      have HZR := Lib.hid (And.intro HZ HR)
      clear HZ HR
      have HU := Lib.hid (And.intro hu hv)
      generalize opw (double.mul z (pw k)) z (pw k) w3 = r at *
      generalize opd (double.mul z (pw k)) = dr at *
      clear hu hv hz'
      go_region
      all_goals (try go_wp2)
      all_goals refine bodyPost_ret (results_tmp4 rfl _ _ _) rfl ?_
      all_goals exact ⟨by rw [show O = _ by unfold OofR at hO; rw [hO, if_neg (by rw [HN.out]; decide)]]; exact ⟨_, _, _, rfl, opw_div _ HU.out.1 HZR.out.1, opw_div _ HU.out.2 HZR.out.1, HZR.out.2⟩, below_drewN HB3 _⟩
  · cases zg
    · cases t
      · go_enter Tryz.func60, Tryz.ntmps60
        go_wp2_with (first | (go_at_call 80; refine (M.out _).mono ?_; rintro e w1 ⟨rfl, hb⟩; have hz := hb.size; simp at hz; have hz1 : w.heap.size < w1.heap.size := (by omega); have c10 := (hb.cell (p := ⟨w.heap.size, 0, none⟩) (by simp)).trans (show _ = some (.float .f64 x) by simp [go_sem]); have c11 := (hb.cell (p := ⟨w.heap.size, 1, none⟩) (by simp)).trans (show _ = some (.float .f64 y) by simp [go_sem]); have f10 := (hb.frozen (p := ⟨w.heap.size, 0, none⟩) (by simp)).trans (show _ = false by simp [go_sem]); have f11 := (hb.frozen (p := ⟨w.heap.size, 1, none⟩) (by simp)).trans (show _ = false by simp [go_sem])) | (go_at_call 81; refine (top_calls _ (by assumption) _).mono ?_; rintro e w' ⟨rfl, rfl⟩) | (rw [hK.out]; go_at_call 82; refine (scale_calls x y (-k) _ hfw.out.1 hfw.out.2 hm1 hm2).mono ?_; rintro e w2 ⟨u, v, rfl, hu, hv, hb2⟩; have hz2 := hb2.size; have c20 := (hb2.cell (p := ⟨w.heap.size, 0, none⟩) hz1).trans c10; have c21 := (hb2.cell (p := ⟨w.heap.size, 1, none⟩) hz1).trans c11; have f20 := (hb2.frozen (p := ⟨w.heap.size, 0, none⟩) hz1).trans f10; have f21 := (hb2.frozen (p := ⟨w.heap.size, 1, none⟩) hz1).trans f11) | (go_at_call 83; refine (size_calls u v _ hu hv).mono ?_; rintro e w3 ⟨z, rfl, hz', hb3⟩; have d0 := (hb3.cell (p := ⟨w.heap.size, 0, none⟩) (by simp; omega)).trans (cell_set_off (o := 1) (cell_set_eq c20) (by decide)); have d1 := (hb3.cell (p := ⟨w.heap.size, 1, none⟩) (by simp; omega)).trans (cell_set_eq (cell_set_off (o := 0) c21 (by decide)))) | (go_at_call 78; refine (pow_calls k (by omega) (by omega) _).mono ?_; rintro e w' ⟨rfl, rfl⟩) | (go_at_call 84; refine (isInf_of hup.out (hR.out ▸ opw_mul _ (hH.out ▸ hz') FK.out) HN.out _).mono ?_; rintro e w' ⟨rfl, rfl⟩))
        have HB := (((((Below.refl w.heap.size w).alloc (Nat.le_refl _) (.cells #[.float .f64 x, .float .f64 y] 118)).trans (hb.mono (by simp))).trans (hb2.mono (by omega))).setCell (p := ⟨w.heap.size, 0, none⟩) (Nat.le_refl _) (.float .f64 u)).setCell (p := ⟨w.heap.size, 1, none⟩) (Nat.le_refl _) (.float .f64 v)
        have HB3 := HB.trans (hb3.mono (by simp; omega))
        exact bodyPost_ret (v := .tuple #[.float .f64 0, .float .f64 0, .float .f64 0, .bool false]) (by simp [results, Tryz.results60, go_sem]) rfl ⟨by rw [show O = none by unfold OofR at hO; rw [hO, if_pos HN.out]]; rfl, below_drewN HB3 _⟩
      · go_enter Tryz.func60, Tryz.ntmps60
        go_wp2_with (first | (go_at_call 80; refine (M.out _).mono ?_; rintro e w1 ⟨rfl, hb⟩; have hz := hb.size; simp at hz; have hz1 : w.heap.size < w1.heap.size := (by omega); have c10 := (hb.cell (p := ⟨w.heap.size, 0, none⟩) (by simp)).trans (show _ = some (.float .f64 x) by simp [go_sem]); have c11 := (hb.cell (p := ⟨w.heap.size, 1, none⟩) (by simp)).trans (show _ = some (.float .f64 y) by simp [go_sem]); have f10 := (hb.frozen (p := ⟨w.heap.size, 0, none⟩) (by simp)).trans (show _ = false by simp [go_sem]); have f11 := (hb.frozen (p := ⟨w.heap.size, 1, none⟩) (by simp)).trans (show _ = false by simp [go_sem])) | (go_at_call 81; refine (top_calls _ (by assumption) _).mono ?_; rintro e w' ⟨rfl, rfl⟩) | (rw [hK.out]; go_at_call 82; refine (scale_calls x y (-k) _ hfw.out.1 hfw.out.2 hm1 hm2).mono ?_; rintro e w2 ⟨u, v, rfl, hu, hv, hb2⟩; have hz2 := hb2.size; have c20 := (hb2.cell (p := ⟨w.heap.size, 0, none⟩) hz1).trans c10; have c21 := (hb2.cell (p := ⟨w.heap.size, 1, none⟩) hz1).trans c11; have f20 := (hb2.frozen (p := ⟨w.heap.size, 0, none⟩) hz1).trans f10; have f21 := (hb2.frozen (p := ⟨w.heap.size, 1, none⟩) hz1).trans f11) | (go_at_call 83; refine (size_calls u v _ hu hv).mono ?_; rintro e w3 ⟨z, rfl, hz', hb3⟩; have d0 := (hb3.cell (p := ⟨w.heap.size, 0, none⟩) (by simp; omega)).trans (cell_set_off (o := 1) (cell_set_eq c20) (by decide)); have d1 := (hb3.cell (p := ⟨w.heap.size, 1, none⟩) (by simp; omega)).trans (cell_set_eq (cell_set_off (o := 0) c21 (by decide)))) | (go_at_call 78; refine (pow_calls k (by omega) (by omega) _).mono ?_; rintro e w' ⟨rfl, rfl⟩) | (go_at_call 84; refine (isInf_of hup.out (hR.out ▸ opw_mul _ (hH.out ▸ hz') FK.out) HN.out _).mono ?_; rintro e w' ⟨rfl, rfl⟩))
        have HB := (((((Below.refl w.heap.size w).alloc (Nat.le_refl _) (.cells #[.float .f64 x, .float .f64 y] 118)).trans (hb.mono (by simp))).trans (hb2.mono (by omega))).setCell (p := ⟨w.heap.size, 0, none⟩) (Nat.le_refl _) (.float .f64 u)).setCell (p := ⟨w.heap.size, 1, none⟩) (Nat.le_refl _) (.float .f64 v)
        have HB3 := HB.trans (hb3.mono (by simp; omega))
        have HZ := hz'
        rw [← hH.out] at HZ
        have HR := opw_mul w3 HZ FK.out
        rw [← hR.out] at HR
        have HZR := Lib.hid (And.intro HZ HR)
        clear HZ HR
        have HU := Lib.hid (And.intro hu hv)
        generalize opw (double.mul z (pw k)) z (pw k) w3 = r at *
        generalize opd (double.mul z (pw k)) = dr at *
        clear hu hv hz'
        go_region
        all_goals (try go_wp2)
        all_goals refine bodyPost_ret (results_tmp4 rfl _ _ _) rfl ?_
        all_goals exact ⟨by rw [show O = _ by unfold OofR at hO; rw [hO, if_neg (by rw [HN.out]; decide)]]; exact ⟨_, _, _, rfl, opw_div _ HU.out.1 HZR.out.1, opw_div _ HU.out.2 HZR.out.1, HZR.out.2⟩, below_drewN HB3 _⟩
    · cases hz

theorem of_calls (x y : Nat) (w : World) {F G : Option Nat} (hx : FW x F) (hy : FW y G) :
    Calls Tryz.prog 60 #[.float .f64 x, .float .f64 y] w fun e w' => OfPost (ofF F G) e ∧ Below w.heap.size w w' := by
  cases h : (numF F && numF G)
  · refine (of_calls_no x y w hx hy h).mono ?_
    rintro e w' ⟨rfl, hb⟩
    refine ⟨?_, hb⟩
    unfold ofF
    rw [if_pos h]
    rfl
  · cases hz : (zeroF F && zeroF G)
    · exact of_calls_some x y w hx hy h hz
    · refine (of_calls_zero x y w hx hy h hz).mono ?_
      rintro e w' ⟨rfl, hb⟩
      refine ⟨?_, hb⟩
      unfold ofF
      rw [if_neg (by rw [h]; decide), if_pos hz]
      exact ⟨_, _, _, rfl, ⟨by unfold W64; decide, by decide⟩, fw_zero, fw_zero⟩
end Go.Proofs.YtmmligbkecilfaaGreatDoor
