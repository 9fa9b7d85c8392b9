/- A float's parts, exactly: bits.Split. The program's Of: rotations of two numbers. -/
import Derived.Test.YtmmligbkecilfaaGreatDoorL
import Derived.Laws.StructEq
namespace Go.Proofs.YtmmligbkecilfaaGreatDoor
open Go.RowKit Lv Go.Shelf
open Ieee (double Format Datum Toward)

/-- a number's mantissa and place, of its bits without the sign -/
def mantW (c : Nat) : Nat := if c < 4503599627370496 then c else c % 4503599627370496 + 4503599627370496
def expW (c : Nat) : Int := if c < 4503599627370496 then -1074 else (c : Int) / 4503599627370496 - 1075
def negW (b : Nat) : Bool := decide (9223372036854775808 ≤ b)

theorem read_int (m : Nat) (h : m < 4503599627370496) : double.read (m + 4841369599423283200) = .number false (4503599627370496 + m) 0 := by
  unfold Format.read
  simp only [bn, ir, sw, lp]
  have h1 : (m + 4841369599423283200) % 9223372036854775808 = m + 4841369599423283200 := by omega
  have h2 : (m + 4841369599423283200) / 9223372036854775808 % 2 = 0 := by omega
  rw [h1, h2, if_neg (by omega), if_pos (by omega)]
  have h3 : (m + 4841369599423283200) % 4503599627370496 = m := by omega
  have h4 : (m + 4841369599423283200) / 4503599627370496 = 1075 := by omega
  rw [h3, h4]
  rfl
theorem cut_zero (n : Nat) : Toward.zero.cut false n 0 = n := by
  unfold Toward.cut
  simp
theorem toInt_num (M : Nat) : (Datum.number false M 0).toInt .zero = some (M : Int) := by
  unfold Datum.toInt Datum.integral
  simp [cut_zero, Ieee.signed]
theorem decode_read (X : Nat) : FloatKind.f64.decode X = double.read X := rfl
theorem val_of {X M : Nat} (h : double.read X = .number false M 0) (hM : M ≤ 18446744073709551615) : floatToIntVal .f64 X .u64 = some (M : Int) := by
  unfold floatToIntVal
  rw [decode_read, h, toInt_num]
  have b1 : IntKind.u64.min = 0 := by decide
  have b2 : IntKind.u64.max = 18446744073709551615 := by decide
  simp only [b1, b2]
  rw [if_pos (by omega)]
theorem whole (m : Nat) (h : m < 4503599627370496) : floatToIntVal .f64 (m + 4841369599423283200) .u64 = some ((4503599627370496 + m : Nat) : Int) :=
  val_of (read_int m h) (by omega)

theorem run_whole (m : Nat) (h : m < 4503599627370496) (w : World) : (convert 25 71 (.float .f64 (m + 4841369599423283200))).run Tryz.prog w = .ok (.int .u64 ((4503599627370496 + m : Nat) : Int)) w :=
  run_convert_float_int w 25 71 .f64 .u64 _ _ (by kernel_rfl) (by kernel_rfl) (whole m h)

theorem mant_sub {c : Nat} (h0 : 0 < c) (h : c < 4503599627370496) : 4503599627370496 + nw c % 4503599627370496 = c * 2 ^ (52 - c.log2) ∧ topP c - 52 = (c.log2 : Int) - 1126 ∧ c.log2 < 52 := by
  obtain ⟨h1, h2, h3⟩ := log_sub (c := c) ⟨h0, h⟩
  have hn : nw c = c.log2 * 4503599627370496 + c * 2 ^ (52 - c.log2) := by unfold nw; rw [if_pos h]
  have hx : nx c = -52 := by unfold nx; rw [if_pos h]
  refine ⟨by rw [hn]; omega, ?_, h1⟩
  unfold topP
  rw [hn, hx]
  omega

/-- how often the mantissa is halved -/
def downK (c : Nat) : Nat := (-1022 - topP c).toNat
theorem split_fin {c : Nat} (h : Pos c) : (4503599627370496 + nw c % 4503599627370496) / 2 ^ downK c = mantW c ∧ topP c - 52 + (downK c : Int) = expW c := by
  have h0 := h.lo
  have h1 := h.hi
  by_cases hs : c < 4503599627370496
  · obtain ⟨a, b, d⟩ := mant_sub h0 hs
    have hk : downK c = 52 - c.log2 := by unfold downK; omega
    rw [a, hk, Nat.mul_div_cancel _ (Nat.two_pow_pos _)]
    unfold mantW expW
    rw [if_pos hs, if_pos hs]
    exact ⟨rfl, by omega⟩
  · have hn : nw c = c := by unfold nw; rw [if_neg hs]
    have hx : nx c = 0 := by unfold nx; rw [if_neg hs]
    have ht : topP c = (c : Int) / 4503599627370496 - 1023 := by unfold topP; rw [hn, hx]; omega
    have hk : downK c = 0 := by unfold downK; rw [ht]; omega
    rw [hn, hk, ht]
    unfold mantW expW
    rw [if_neg hs, if_neg hs]
    refine ⟨by simp; omega, by omega⟩

theorem frac_norm (c : Nat) : Norm (frac c) ∧ (-1 : Int) = (frac c : Int) / 4503599627370496 - 1023 ∧ lw (frac c) 52 = nw c % 4503599627370496 + 4841369599423283200 := by
  have hm : nw c % 4503599627370496 < 4503599627370496 := Nat.mod_lt _ (by decide)
  unfold frac lw
  generalize nw c % 4503599627370496 = m at *
  exact ⟨⟨by omega, by omega⟩, by omega, by omega⟩

theorem half_step (M j : Nat) : ((M / 2 ^ j : Nat) : Int) / 2 = ((M / 2 ^ (j + 1) : Nat) : Int) := by
  rw [Nat.pow_succ, ← Nat.div_div_eq_div_mul]
  omega
theorem half_lt (M j : Nat) (h : M < 18446744073709551616) : M / 2 ^ j < 18446744073709551616 := Nat.lt_of_le_of_lt (Nat.div_le_self _ _) h

/-- what Split tells of a float -/
def splV (b : Nat) : Value := if kindW b = 1 then .tuple #[.bool (negW b), .int .u64 (mantW (b % 9223372036854775808) : Nat), .int .i64 (expW (b % 9223372036854775808)), .int .i64 1] else .tuple #[.bool (negW b && !nan b), .int .u64 0, .int .i64 0, .int .i64 (kindW b)]

set_option maxHeartbeats 1000000 in
theorem split_calls (b : Nat) (hb : W64 b) (w : World) : Calls Tryz.prog 92 #[.float .f64 b] w fun e w' => e = .returned (splV b) ∧ w = w' := by
  by_cases hk : kindW b = 1
  · have hf := kindW_fin hb hk
    have hp := hf.pos
    have e : splV b = .tuple #[.bool (negW b), .int .u64 (mantW (b % 9223372036854775808) : Nat), .int .i64 (expW (b % 9223372036854775808)), .int .i64 1] := by unfold splV; rw [if_pos hk]
    rw [e]
    have hmod : b % 9223372036854775808 % 9223372036854775808 = b % 9223372036854775808 := Nat.mod_mod _ _
    have hfc : Fin (b % 9223372036854775808) := ⟨by rw [hmod]; exact hf.lo, by rw [hmod]; exact hf.hi, by omega⟩
    have F := Frexp_calls _ hfc
    have hfr : fracs (b % 9223372036854775808) = frac (b % 9223372036854775808) := by unfold fracs sg; rw [hmod]; omega
    rw [hmod, hfr] at F
    have hw : W64 (b % 9223372036854775808) := hfc.w
    obtain ⟨n1, n2, n3⟩ := frac_norm (b % 9223372036854775808)
    have L := Ldexp_calls _ 53 n1 _ n2 (by decide) (by decide) (by decide) (by decide)
    have e53 : (53 : Int) + -1 = 52 := by decide
    rw [e53, n3] at L
    obtain ⟨s1, s2⟩ := split_fin hp
    have ht := topP_bounds hp
    have hm : nw (b % 9223372036854775808) % 4503599627370496 < 4503599627370496 := Nat.mod_lt _ (by decide)
    have hkd : downK (b % 9223372036854775808) = (-1022 - topP (b % 9223372036854775808)).toNat := rfl
    have R := run_whole _ hm
    have L' := Lib.hid L
    have F' := Lib.hid F
    have S1 := Lib.hid s1
    have S2 := Lib.hid s2
    have HN : Hid (negW b = decide (9223372036854775808 ≤ b)) := rfl
    clear L F s1 s2 e hfr hmod n1 n2 n3 e53 hfc hp hf
    have hkk : kindW b = 1 := hk
    clear hk
    generalize mantW (b % 9223372036854775808) = MW at *
    generalize expW (b % 9223372036854775808) = EW at *
    generalize downK (b % 9223372036854775808) = K at *
    generalize topP (b % 9223372036854775808) = t at *
    generalize nw (b % 9223372036854775808) % 4503599627370496 = m at *
    generalize frac (b % 9223372036854775808) = fr at *
    generalize negW b = ng at *
    have hM : 4503599627370496 + m < 18446744073709551616 := by omega
    obtain ⟨ht1, ht2⟩ := ht
    have k1 : (kindW b == 3) = false := by rw [hkk]; rfl
    have k2 : (kindW b == 2) = false := by rw [hkk]; rfl
    have k3 : (kindW b == 0) = false := by rw [hkk]; rfl
    go_enter Tryz.func92, Tryz.ntmps92
    go_wp2_with (first | (go_at_call 55; refine (signbit_calls _ hb _).mono ?_; rintro e w' ⟨rfl, rfl⟩) | (go_at_call 93; refine (kind_calls _ hb _).mono ?_; rintro e w' ⟨rfl, rfl⟩) | (go_at_call 38; refine (abs_calls _ hb _).mono ?_; rintro e w' ⟨rfl, rfl⟩) | (go_at_call 94; refine (F'.out _).mono ?_; rintro e w' ⟨rfl, rfl⟩) | (go_at_call 97; refine (L'.out _).mono ?_; rintro e w' ⟨rfl, rfl⟩))
    go_loop [9, 10] (fun s9 s10 => ∃ (j : Nat) (e q : Int), s9 = .int .i64 e ∧ s10 = .int .u64 q ∧ e = t - 52 + j ∧ Hid (q = (((4503599627370496 + m) / 2 ^ j : Nat) : Int)) ∧ j ≤ K) (fun s9 _ => (-1074 - intOf s9).toNat)
    case atStart => exact ⟨0, _, _, rfl, rfl, by omega, by unfold Hid; simp, Nat.zero_le _⟩
    case round =>
      obtain ⟨j, e, q, rfl, rfl, he, hq, hj⟩ := hrel
      by_cases hlt : e < -1074
      · have hq0 : 0 ≤ q := by rw [hq.out]; exact Int.natCast_nonneg _
        have hq1 : q < 18446744073709551616 := by rw [hq.out]; have := half_lt _ j hM; omega
        go_wp2
        go_round
        case rel => exact ⟨j + 1, _, _, rfl, rfl, by omega, by unfold Hid; rw [← half_step, ← hq.out], by omega⟩
        case measure => simp [intOf]; omega
      · have hjk : j = K := by omega
        subst hjk
        have hqq := Lib.hid (hq.out.trans (congrArg (fun n : Nat => (n : Int)) S1.out))
        have hee := Lib.hid (he.trans S2.out)
        clear hq he hkd hj S1 S2
        go_wp2
        refine bodyPost_ret (v := .tuple #[.bool (decide (9223372036854775808 ≤ b)), .int .u64 q, .int .i64 e, .int .i64 1]) (by simp [results, Tryz.results92, go_sem]) rfl ⟨?_, rfl⟩
        rw [HN.out, hqq.out, hee.out]
  · have e : splV b = .tuple #[.bool (negW b && !nan b), .int .u64 0, .int .i64 0, .int .i64 (kindW b)] := by unfold splV; rw [if_neg hk]
    rw [e]
    have HN : Hid (negW b = decide (9223372036854775808 ≤ b)) := rfl
    have hcase : kindW b = 0 ∨ kindW b = 2 ∨ kindW b = 3 := by
      unfold kindW at hk ⊢
      split
      · exact .inr (.inr rfl)
      · split
        · exact .inr (.inl rfl)
        · split
          · exact .inl rfl
          · rename_i h1 h2 h3
            rw [if_neg h1, if_neg h2, if_neg h3] at hk
            exact absurd rfl hk
    have hn : Hid (nan b = (kindW b == 3)) := by
      unfold kindW Hid
      cases nan b with
      | true => rfl
      | false =>
        simp only [Bool.false_eq_true, if_false]
        split
        · rfl
        · split <;> rfl
    clear hk e
    have hkk := Lib.hid (kind_calls b hb)
    generalize kindW b = kd at *
    rcases hcase with rfl | rfl | rfl
    all_goals
      go_enter Tryz.func92, Tryz.ntmps92
      go_wp2_with (first | (go_at_call 55; refine (signbit_calls _ hb _).mono ?_; rintro e w' ⟨rfl, rfl⟩) | (go_at_call 93; refine (hkk.out _).mono ?_; rintro e w' ⟨rfl, rfl⟩))
    · refine bodyPost_ret (v := .tuple #[.bool (decide (9223372036854775808 ≤ b)), .int .u64 0, .int .i64 0, .int .i64 0]) (by simp [results, Tryz.results92, go_sem]) rfl ⟨?_, rfl⟩
      rw [HN.out, hn.out]; simp
    · refine bodyPost_ret (v := .tuple #[.bool (decide (9223372036854775808 ≤ b)), .int .u64 0, .int .i64 0, .int .i64 2]) (by simp [results, Tryz.results92, go_sem]) rfl ⟨?_, rfl⟩
      rw [HN.out, hn.out]; simp
    · refine bodyPost_ret (v := .tuple #[.bool false, .int .u64 0, .int .i64 0, .int .i64 3]) (by simp [results, Tryz.results92, go_sem]) rfl ⟨?_, rfl⟩
      rw [hn.out]; simp
end Go.Proofs.YtmmligbkecilfaaGreatDoor
namespace Go.Proofs.YtmmligbkecilfaaGreatDoor
open Go.RowKit Lv Go.Shelf
open Ieee (double Format Datum Toward)
attribute [local go_sem] run_store_float drewN_alloc drewN_setCell run_addF run_subF run_mulF run_quoF

def numW (b : Nat) : Bool := decide (kindW b ≤ 1)
/-- is it a number? -/
def numF (x : Option Nat) : Bool := match x with | none => false | some b => decide (b % 9223372036854775808 < 9218868437227405312)
def zeroF (x : Option Nat) : Bool := match x with | none => false | some b => decide (b % 9223372036854775808 = 0)
def topF (x : Option Nat) : Int := match x with | none => -2000 | some b => topW b
theorem kindW_range (b : Nat) : kindW b = 0 ∨ kindW b = 1 ∨ kindW b = 2 ∨ kindW b = 3 := by
  unfold kindW
  split
  · exact .inr (.inr (.inr rfl))
  · split
    · exact .inr (.inr (.inl rfl))
    · split
      · exact .inl rfl
      · exact .inr (.inl rfl)
theorem numW_F {b : Nat} {x : Option Nat} (h : FW b x) : numW b = numF x := by
  obtain ⟨_, h⟩ := h
  unfold numW kindW
  cases x with
  | none => rw [ab_none h]; rfl
  | some c =>
    obtain ⟨rfl, h2⟩ := ab_some h
    rw [h2]
    have := nan_le (x := c) h2
    simp only [numF, Bool.false_eq_true, if_false]
    split
    · rw [decide_eq_false (by decide), decide_eq_false (by omega)]
    · split
      · rw [decide_eq_true (by decide), decide_eq_true (by omega)]
      · rw [decide_eq_true (by decide), decide_eq_true (by omega)]
theorem topW_F {b : Nat} {x : Option Nat} (h : FW b x) : topW b = topF x := by
  obtain ⟨_, h⟩ := h
  cases x with
  | none => unfold topW kindW; rw [ab_none h]; rfl
  | some c => obtain ⟨rfl, h2⟩ := ab_some h; rfl
theorem zeroW_F {b : Nat} {x : Option Nat} (h : FW b x) : decide (b % 9223372036854775808 = 0) = zeroF x := by
  obtain ⟨_, h⟩ := h
  cases x with
  | none => have := nan_lt (ab_none h); simp [zeroF]; omega
  | some c => obtain ⟨rfl, h2⟩ := ab_some h; rfl

/-- what Split tells, a kind at a time -/
theorem splV_kind (b : Nat) : ∃ p q r, splV b = .tuple #[.bool p, .int .u64 q, .int .i64 r, .int .i64 (kindW b)] := by
  unfold splV
  split
  · rename_i h; exact ⟨_, _, _, by rw [h]⟩
  · exact ⟨_, _, _, rfl⟩

theorem run_at0 (x y : Nat) (w : World) : (Instr.index 130 (.agg #[.float .f64 x, .float .f64 y]) (.int .i64 0)).run Tryz.prog w = .ok (.float .f64 x) w := by kernel_rfl
theorem run_at1 (x y : Nat) (w : World) : (Instr.index 130 (.agg #[.float .f64 x, .float .f64 y]) (.int .i64 1)).run Tryz.prog w = .ok (.float .f64 y) w := by kernel_rfl
attribute [local go_sem] run_at0 run_at1
set_option maxRecDepth 100000 in
theorem may_calls (x y : Nat) (hx : W64 x) (hy : W64 y) (w : World) :
    Calls Tryz.prog 80 #[.agg #[.float .f64 x, .float .f64 y]] w fun e w' => e = .returned (.bool (numW x && numW y)) ∧ Below w.heap.size w w' := by
  obtain ⟨p1, q1, r1, e1⟩ := splV_kind x
  obtain ⟨p2, q2, r2, e2⟩ := splV_kind y
  have S1 := Lib.hid (split_calls x hx)
  have S2 := Lib.hid (split_calls y hy)
  rw [e1] at S1
  rw [e2] at S2
  have HX : Hid (numW x = decide (kindW x ≤ 1)) := rfl
  have HY : Hid (numW y = decide (kindW y ≤ 1)) := rfl
  clear e1 e2 hx hy
  generalize numW x = nx' at *
  generalize numW y = ny' at *
  generalize kindW x = kx at *
  generalize kindW y = ky at *
  go_enter Tryz.func80, Tryz.ntmps80
  go_wp2
  go_loop [14] (fun i => i = .int .i64 0 ∨ (i = .int .i64 1 ∧ kx ≤ 1) ∨ (i = .int .i64 2 ∧ kx ≤ 1 ∧ ky ≤ 1)) (fun i => (2 - intOf i).toNat)
  case atStart => exact .inl rfl
  case round =>
    rcases hrel with rfl | ⟨rfl, h1⟩ | ⟨rfl, h1, h2⟩
    · by_cases hk : kx ≤ 1
      · go_wp2_with (go_at_call 92; refine (S1.out _).mono ?_; rintro e w' ⟨rfl, rfl⟩)
        go_round
        case rel => exact .inr (.inl ⟨rfl, hk⟩)
        case measure => simp [intOf]
      · go_wp2_with (go_at_call 92; refine (S1.out _).mono ?_; rintro e w' ⟨rfl, rfl⟩)
        go_ret
        exact ⟨ret_bool (by rw [HX.out]; simp; omega), (Below.refl _ _).alloc (Nat.le_refl _) _⟩
    · by_cases hk : ky ≤ 1
      · go_wp2_with (go_at_call 92; refine (S2.out _).mono ?_; rintro e w' ⟨rfl, rfl⟩)
        go_round
        case rel => exact .inr (.inr ⟨rfl, h1, hk⟩)
        case measure => simp [intOf]
      · go_wp2_with (go_at_call 92; refine (S2.out _).mono ?_; rintro e w' ⟨rfl, rfl⟩)
        go_ret
        exact ⟨ret_bool (by rw [HY.out]; simp; omega), (Below.refl _ _).alloc (Nat.le_refl _) _⟩
    · go_wp2
      go_ret
      exact ⟨ret_bool (by rw [HX.out, HY.out]; simp; omega), (Below.refl _ _).alloc (Nat.le_refl _) _⟩

theorem run_equalIn_float (d : Nat) (a b : Nat) (w : World) : (Op.equalIn (d + 1) 25 (.float .f64 a) (.float .f64 b)).run Tryz.prog w = .ok (FloatKind.f64.format.order a b == some Ordering.eq) w := by kernel_rfl
theorem eq_two (d x y u v : Nat) (w : World) (fs : List Field) (h : fs.map (fun f => (f.name, f.type, f.offset)) = [("x", 25, 0), ("y", 25, 1)]) :
    (Op.eqFields (d + 1) #[.float .f64 x, .float .f64 y] #[.float .f64 u, .float .f64 v] fs).run Tryz.prog w = .ok ((FloatKind.f64.format.order x u == some Ordering.eq) && (FloatKind.f64.format.order y v == some Ordering.eq)) w := by
  obtain ⟨f, r, rfl, h1, h2⟩ := List.map_eq_cons_iff.1 h
  obtain ⟨g, r', rfl, h3, h4⟩ := List.map_eq_cons_iff.1 h2
  obtain rfl := List.map_eq_nil_iff.1 h4
  obtain ⟨n1, t1, o1⟩ := f
  obtain ⟨n2, t2, o2⟩ := g
  simp only [Prod.mk.injEq] at h1 h3
  obtain ⟨rfl, rfl, rfl⟩ := h1
  obtain ⟨rfl, rfl, rfl⟩ := h3
  have p0 : ∀ (a b : Nat) (W : World), (part 25 #[.float .f64 a, .float .f64 b] 0).run Tryz.prog W = .ok (.float .f64 a) W := fun a b W => by kernel_rfl
  have p1 : ∀ (a b : Nat) (W : World), (part 25 #[.float .f64 a, .float .f64 b] 1).run Tryz.prog W = .ok (.float .f64 b) W := fun a b W => by kernel_rfl
  have hx : ("x" ≠ "_") := by decide
  have hy : ("y" ≠ "_") := by decide
  simp only [Op.eqFields, Sem.run_bind, Sem.run_ite, p0, p1, run_equalIn_float, Result.andThen_ok, Sem.run_pure, if_pos hx, if_pos hy]
  cases (FloatKind.f64.format.order x u == some Ordering.eq) <;> cases (FloatKind.f64.format.order y v == some Ordering.eq) <;> rfl
theorem run_eqP (x y : Nat) (w : World) : (binOp .eql 118 (.agg #[.float .f64 x, .float .f64 y]) (.agg #[.float .f64 0, .float .f64 0])).run Tryz.prog w = .ok (.bool ((FloatKind.f64.format.order x 0 == some Ordering.eq) && (FloatKind.f64.format.order y 0 == some Ordering.eq))) w := by
  rw [run_eql_struct, run_equalIn_struct w 9999 _ _ _ (by kernel_rfl) (by kernel_rfl), eq_two 9998 _ _ _ _ _ _ (by kernel_rfl)]
  rfl
end Go.Proofs.YtmmligbkecilfaaGreatDoor
