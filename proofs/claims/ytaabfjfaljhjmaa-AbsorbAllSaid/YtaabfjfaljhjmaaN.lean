/- The program's Of: rotations of two numbers. -/
import Derived.Test.YtaabfjfaljhjmaaM
import Derived.Laws.StructEq
namespace Go.Proofs.Ytaabfjfaljhjmaa
open Go.RowKit Lv Go.Shelf
open Ieee (double Format Datum Toward)
attribute [local go_sem] run_store_float drewN_alloc drewN_setCell run_addF run_subF run_mulF run_quoF

def numW (b : Nat) : Bool := decide (kindW b ≤ 1)
/-- is it a number? -/
def numF (x : Option Nat) : Bool := match x with | none => false | some b => decide (b % 9223372036854775808 < 9218868437227405312)
def zeroF (x : Option Nat) : Bool := match x with | none => false | some b => decide (b % 9223372036854775808 = 0)
def topF (x : Option Nat) : Int := match x with | none => -2000 | some b => topW b
theorem kindW_range (b : Nat) : kindW b = 0 ∨ kindW b = 1 ∨ kindW b = 2 ∨ kindW b = 3 := by
  unfold kindW
  split
  · exact .inr (.inr (.inr rfl))
  · split
    · exact .inr (.inr (.inl rfl))
    · split
      · exact .inl rfl
      · exact .inr (.inl rfl)
theorem numW_F {b : Nat} {x : Option Nat} (h : FW b x) : numW b = numF x := by
  obtain ⟨_, h⟩ := h
  unfold numW kindW
  cases x with
  | none => rw [ab_none h]; rfl
  | some c =>
    obtain ⟨rfl, h2⟩ := ab_some h
    rw [h2]
    have := nan_le (x := c) h2
    simp only [numF, Bool.false_eq_true, if_false]
    split
    · rw [decide_eq_false (by decide), decide_eq_false (by omega)]
    · split
      · rw [decide_eq_true (by decide), decide_eq_true (by omega)]
      · rw [decide_eq_true (by decide), decide_eq_true (by omega)]
theorem topW_F {b : Nat} {x : Option Nat} (h : FW b x) : topW b = topF x := by
  obtain ⟨_, h⟩ := h
  cases x with
  | none => unfold topW kindW; rw [ab_none h]; rfl
  | some c => obtain ⟨rfl, h2⟩ := ab_some h; rfl
theorem zeroW_F {b : Nat} {x : Option Nat} (h : FW b x) : decide (b % 9223372036854775808 = 0) = zeroF x := by
  obtain ⟨_, h⟩ := h
  cases x with
  | none => have := nan_lt (ab_none h); simp [zeroF]; omega
  | some c => obtain ⟨rfl, h2⟩ := ab_some h; rfl

/-- what Split tells, a kind at a time -/
theorem splV_kind (b : Nat) : ∃ p q r, splV b = .tuple #[.bool p, .int .u64 q, .int .i64 r, .int .i64 (kindW b)] := by
  unfold splV
  split
  · rename_i h; exact ⟨_, _, _, by rw [h]⟩
  · exact ⟨_, _, _, rfl⟩

theorem run_at0 (x y : Nat) (w : World) : (Instr.index 94 (.agg #[.float .f64 x, .float .f64 y]) (.int .i64 0)).run Try.prog w = .ok (.float .f64 x) w := by kernel_rfl
theorem run_at1 (x y : Nat) (w : World) : (Instr.index 94 (.agg #[.float .f64 x, .float .f64 y]) (.int .i64 1)).run Try.prog w = .ok (.float .f64 y) w := by kernel_rfl
attribute [local go_sem] run_at0 run_at1
set_option maxRecDepth 100000 in
theorem may_calls (x y : Nat) (hx : W64 x) (hy : W64 y) (w : World) :
    Calls Try.prog 73 #[.agg #[.float .f64 x, .float .f64 y]] w fun e w' => e = .returned (.bool (numW x && numW y)) ∧ Below w.heap.size w w' := by
  obtain ⟨p1, q1, r1, e1⟩ := splV_kind x
  obtain ⟨p2, q2, r2, e2⟩ := splV_kind y
  have S1 := Lib.hid (split_calls x hx)
  have S2 := Lib.hid (split_calls y hy)
  rw [e1] at S1
  rw [e2] at S2
  have HX : Hid (numW x = decide (kindW x ≤ 1)) := rfl
  have HY : Hid (numW y = decide (kindW y ≤ 1)) := rfl
  clear e1 e2 hx hy
  generalize numW x = nx' at *
  generalize numW y = ny' at *
  generalize kindW x = kx at *
  generalize kindW y = ky at *
  go_enter Try.func73, Try.ntmps73
  go_wp2
  go_loop [14] (fun i => i = .int .i64 0 ∨ (i = .int .i64 1 ∧ kx ≤ 1) ∨ (i = .int .i64 2 ∧ kx ≤ 1 ∧ ky ≤ 1)) (fun i => (2 - intOf i).toNat)
  case atStart => exact .inl rfl
  case round =>
    rcases hrel with rfl | ⟨rfl, h1⟩ | ⟨rfl, h1, h2⟩
    · by_cases hk : kx ≤ 1
      · go_wp2_with (go_at_call 84; refine (S1.out _).mono ?_; rintro e w' ⟨rfl, rfl⟩)
        go_round
        case rel => exact .inr (.inl ⟨rfl, hk⟩)
        case measure => simp [intOf]
      · go_wp2_with (go_at_call 84; refine (S1.out _).mono ?_; rintro e w' ⟨rfl, rfl⟩)
        go_ret
        exact ⟨ret_bool (by rw [HX.out]; simp; omega), (Below.refl _ _).alloc (Nat.le_refl _) _⟩
    · by_cases hk : ky ≤ 1
      · go_wp2_with (go_at_call 84; refine (S2.out _).mono ?_; rintro e w' ⟨rfl, rfl⟩)
        go_round
        case rel => exact .inr (.inr ⟨rfl, h1, hk⟩)
        case measure => simp [intOf]
      · go_wp2_with (go_at_call 84; refine (S2.out _).mono ?_; rintro e w' ⟨rfl, rfl⟩)
        go_ret
        exact ⟨ret_bool (by rw [HY.out]; simp; omega), (Below.refl _ _).alloc (Nat.le_refl _) _⟩
    · go_wp2
      go_ret
      exact ⟨ret_bool (by rw [HX.out, HY.out]; simp; omega), (Below.refl _ _).alloc (Nat.le_refl _) _⟩

theorem run_equalIn_float (d : Nat) (a b : Nat) (w : World) : (Op.equalIn (d + 1) 37 (.float .f64 a) (.float .f64 b)).run Try.prog w = .ok (FloatKind.f64.format.order a b == some Ordering.eq) w := by kernel_rfl
theorem eq_two (d x y u v : Nat) (w : World) (fs : List Field) (h : fs.map (fun f => (f.name, f.type, f.offset)) = [("x", 37, 0), ("y", 37, 1)]) :
    (Op.eqFields (d + 1) #[.float .f64 x, .float .f64 y] #[.float .f64 u, .float .f64 v] fs).run Try.prog w = .ok ((FloatKind.f64.format.order x u == some Ordering.eq) && (FloatKind.f64.format.order y v == some Ordering.eq)) w := by
  obtain ⟨f, r, rfl, h1, h2⟩ := List.map_eq_cons_iff.1 h
  obtain ⟨g, r', rfl, h3, h4⟩ := List.map_eq_cons_iff.1 h2
  obtain rfl := List.map_eq_nil_iff.1 h4
  obtain ⟨n1, t1, o1⟩ := f
  obtain ⟨n2, t2, o2⟩ := g
  simp only [Prod.mk.injEq] at h1 h3
  obtain ⟨rfl, rfl, rfl⟩ := h1
  obtain ⟨rfl, rfl, rfl⟩ := h3
  have p0 : ∀ (a b : Nat) (W : World), (part 37 #[.float .f64 a, .float .f64 b] 0).run Try.prog W = .ok (.float .f64 a) W := fun a b W => by kernel_rfl
  have p1 : ∀ (a b : Nat) (W : World), (part 37 #[.float .f64 a, .float .f64 b] 1).run Try.prog W = .ok (.float .f64 b) W := fun a b W => by kernel_rfl
  have hx : ("x" ≠ "_") := by decide
  have hy : ("y" ≠ "_") := by decide
  simp only [Op.eqFields, Sem.run_bind, Sem.run_ite, p0, p1, run_equalIn_float, Result.andThen_ok, Sem.run_pure, if_pos hx, if_pos hy]
  cases (FloatKind.f64.format.order x u == some Ordering.eq) <;> cases (FloatKind.f64.format.order y v == some Ordering.eq) <;> rfl
theorem run_eqP (x y : Nat) (w : World) : (binOp .eql 86 (.agg #[.float .f64 x, .float .f64 y]) (.agg #[.float .f64 0, .float .f64 0])).run Try.prog w = .ok (.bool ((FloatKind.f64.format.order x 0 == some Ordering.eq) && (FloatKind.f64.format.order y 0 == some Ordering.eq))) w := by
  rw [run_eql_struct, run_equalIn_struct w 9999 _ _ _ (by kernel_rfl) (by kernel_rfl), eq_two 9998 _ _ _ _ _ _ (by kernel_rfl)]
  rfl
end Go.Proofs.Ytaabfjfaljhjmaa
