/- Sums, products, quotients, roots of floats, walked: which NaN comes is the tape's. Roots, scaling, size of a pair; a float's parts. -/
import Derived.Test.YtmmligbkecilfaaGreatDoorJ
import Derived.BigRegion
import Derived.RegionTactic
namespace Go.Proofs.YtmmligbkecilfaaGreatDoor
open Go.RowKit Lv Go.Shelf
open Ieee (double Format Datum)

/-- the word that an operation leaves: its own, or a NaN that the tape picks -/
def opw (r : Option Nat) (x y : Nat) (w : World) : Nat := match r with | some r => r | none => (Question.nanBits .f64 x y).cut (w.tape w.drawn (.nanBits .f64 x y))
def opd (r : Option Nat) : Nat := match r with | some _ => 0 | none => 1

theorem run_addF (x y : Nat) (w : World) : (binOp .add 25 (.float .f64 x) (.float .f64 y)).run Tryz.prog w = .ok (.float .f64 (opw (double.add x y) x y w)) (w.drewN (opd (double.add x y))) := by
  have h0 : (binOp .add 25 (.float .f64 x) (.float .f64 y)).run Tryz.prog w = (Op.floatArith .add .f64 x y).run Tryz.prog w := by kernel_rfl
  have e : FloatKind.f64.format = double := rfl
  rw [h0]
  unfold Op.floatArith
  rw [e]
  cases h : double.add x y <;> rfl
theorem run_subF (x y : Nat) (w : World) : (binOp .sub 25 (.float .f64 x) (.float .f64 y)).run Tryz.prog w = .ok (.float .f64 (opw (double.sub x y) x y w)) (w.drewN (opd (double.sub x y))) := by
  have h0 : (binOp .sub 25 (.float .f64 x) (.float .f64 y)).run Tryz.prog w = (Op.floatArith .sub .f64 x y).run Tryz.prog w := by kernel_rfl
  have e : FloatKind.f64.format = double := rfl
  rw [h0]
  unfold Op.floatArith
  rw [e]
  cases h : double.sub x y <;> rfl
theorem run_mulF (x y : Nat) (w : World) : (binOp .mul 25 (.float .f64 x) (.float .f64 y)).run Tryz.prog w = .ok (.float .f64 (opw (double.mul x y) x y w)) (w.drewN (opd (double.mul x y))) := by
  have h0 : (binOp .mul 25 (.float .f64 x) (.float .f64 y)).run Tryz.prog w = (Op.floatArith .mul .f64 x y).run Tryz.prog w := by kernel_rfl
  have e : FloatKind.f64.format = double := rfl
  rw [h0]
  unfold Op.floatArith
  rw [e]
  cases h : double.mul x y <;> rfl
theorem run_quoF (x y : Nat) (w : World) : (binOp .quo 25 (.float .f64 x) (.float .f64 y)).run Tryz.prog w = .ok (.float .f64 (opw (double.div x y) x y w)) (w.drewN (opd (double.div x y))) := by
  have h0 : (binOp .quo 25 (.float .f64 x) (.float .f64 y)).run Tryz.prog w = (Op.floatArith .quo .f64 x y).run Tryz.prog w := by kernel_rfl
  have e : FloatKind.f64.format = double := rfl
  rw [h0]
  unfold Op.floatArith
  rw [e]
  cases h : double.div x y <;> rfl

theorem cut_nan (x y t : Nat) : nan ((Question.nanBits .f64 x y).cut t) = true ∧ W64 ((Question.nanBits .f64 x y).cut t) := by
  have h : (Question.nanBits .f64 x y).cut t = (t % 2) * 2 ^ 63 + 0x7ff0000000000000 + 1 + (t / 2) % (2 ^ 52 - 1) := rfl
  rw [h]
  unfold nan W64
  have h2 : t % 2 < 2 := Nat.mod_lt _ (by decide)
  have h3 : (t / 2) % (2 ^ 52 - 1) < 2 ^ 52 - 1 := Nat.mod_lt _ (by decide)
  generalize t % 2 = p at *
  generalize (t / 2) % (2 ^ 52 - 1) = q at *
  refine ⟨?_, by omega⟩
  simp
  omega
theorem opw_ab {r : Option Nat} {x y : Nat} {w : World} {z : Option Nat} (h : r = z) (hr : ∀ b, r = some b → ab b = some b) : ab (opw r x y w) = z := by
  subst h
  unfold opw
  cases r with
  | none => exact ab_nan (cut_nan x y _).1
  | some b => exact hr b rfl
theorem word_w64 (neg : Bool) (r : Nat) (h : r ≤ 9218868437227405312) : W64 (double.word neg r) := by
  unfold W64 Format.word
  rw [sw]
  split <;> omega
theorem write_w64 (d : Datum) (h : d.isNaN = false) : W64 (double.write d) := by
  cases d with
  | number s m e =>
    show W64 (double.nearest s m e)
    unfold Format.nearest
    split
    · exact word_w64 _ _ (by omega)
    · simp only []
      exact word_w64 _ _ (by rw [ir]; exact Nat.min_le_right _ _)
  | infinity s => simp only [Format.write, ir]; exact word_w64 _ _ (by omega)
  | nan s f => simp [Datum.isNaN] at h
theorem map_w64 {o : Option Datum} {r : Nat} (h : o.map double.write = some r) (hn : ∀ x, o = some x → x.isNaN = false) : W64 r := by
  cases o with
  | none => cases h
  | some d => simp at h; subst h; exact write_w64 _ (hn _ rfl)
theorem add_w64 {a b r : Nat} (h : double.add a b = some r) : W64 r := map_w64 h fun _ hx => (sum_nan hx).2.2
theorem sub_w64 {a b r : Nat} (h : double.sub a b = some r) : W64 r := map_w64 h fun _ hx => (sum_nan hx).2.2
theorem mul_w64 {a b r : Nat} (h : double.mul a b = some r) : W64 r := map_w64 h fun _ hx => (product_nan hx).2.2
theorem div_w64 {a b r : Nat} (h : double.div a b = some r) : W64 r := map_w64 h fun _ hx => (quotient_nan hx).2.2
theorem sqrt_w64 {a r : Nat} (h : double.sqrt a = some r) : W64 r := map_w64 h fun _ hx => (root_nan hx).2
theorem opw_fw {r : Option Nat} {x y : Nat} {w : World} {z : Option Nat} (h : r = z) (hr : ∀ b, r = some b → ab b = some b) (hw : ∀ b, r = some b → W64 b) : FW (opw r x y w) z := by
  refine ⟨?_, opw_ab h hr⟩
  unfold opw
  cases r with
  | none => exact (cut_nan x y _).2
  | some b => exact hw b rfl
theorem opw_add {x y : Nat} {a b : Option Nat} (w : World) (hx : FW x a) (hy : FW y b) : FW (opw (double.add x y) x y w) (fadd a b) :=
  opw_fw (by rw [add_ab, hx.2, hy.2]) (fun _ h => add_res h) (fun _ h => add_w64 h)
theorem opw_sub {x y : Nat} {a b : Option Nat} (w : World) (hx : FW x a) (hy : FW y b) : FW (opw (double.sub x y) x y w) (fsub a b) :=
  opw_fw (by rw [sub_ab, hx.2, hy.2]) (fun _ h => sub_res h) (fun _ h => sub_w64 h)
theorem opw_mul {x y : Nat} {a b : Option Nat} (w : World) (hx : FW x a) (hy : FW y b) : FW (opw (double.mul x y) x y w) (fmul a b) :=
  opw_fw (by rw [mul_ab, hx.2, hy.2]) (fun _ h => mul_res h) (fun _ h => mul_w64 h)
theorem opw_div {x y : Nat} {a b : Option Nat} (w : World) (hx : FW x a) (hy : FW y b) : FW (opw (double.div x y) x y w) (fdiv a b) :=
  opw_fw (by rw [div_ab, hx.2, hy.2]) (fun _ h => div_res h) (fun _ h => div_w64 h)

theorem drewN_alloc (w : World) (n : Nat) (o : Obj) : (w.drewN n).alloc o = (w.alloc o).drewN n := rfl
theorem drewN_setCell (w : World) (n : Nat) (a : Addr) (v : Value) : (w.drewN n).setCell a v = (w.setCell a v).drewN n := rfl
theorem run_store_float (a : Addr) (m : Mode) (k : FloatKind) (x : Nat) (w : World) : (store a (.float k x) m).run Tryz.prog w = stored Tryz.prog w a (.float k x) m := run_store Tryz.prog w a _ m rfl
attribute [local go_sem] run_store_float drewN_alloc drewN_setCell run_addF run_subF run_mulF run_quoF
theorem turn_calls (c s x y : Nat) (w : World) {C S X Y : Option Nat} (hc : FW c C) (hs : FW s S) (hx : FW x X) (hy : FW y Y) :
    Calls Tryz.prog 61 #[.float .f64 c, .float .f64 s, .float .f64 x, .float .f64 y] w fun e w' => ∃ u v, e = .returned (.tuple #[.float .f64 u, .float .f64 v]) ∧ FW u (fadd (fmul C X) (fmul S Y)) ∧ FW v (fsub (fmul C Y) (fmul S X)) ∧ Below w.heap.size w w' := by
  have H := Lib.hid (And.intro (And.intro hc hs) (And.intro hx hy))
  clear hc hs hx hy
  go_enter Tryz.func61, Tryz.ntmps61
  go_wp2
  go_region
  all_goals (try go_wp2)
  all_goals
    go_ret2
    refine ⟨_, _, rfl, opw_add _ (opw_mul _ H.out.1.1 H.out.2.1) (opw_mul _ H.out.1.2 H.out.2.2), opw_sub _ (opw_mul _ H.out.1.1 H.out.2.2) (opw_mul _ H.out.1.2 H.out.2.1), ?_⟩
  all_goals exact below_drewN (((Below.refl _ _).alloc (Nat.le_refl _) _).alloc (by simp) _) _
end Go.Proofs.YtmmligbkecilfaaGreatDoor
namespace Go.Proofs.YtmmligbkecilfaaGreatDoor
open Go.RowKit Lv Go.Shelf
open Ieee (double Format Datum)
attribute [local go_sem] run_store_float drewN_alloc drewN_setCell run_addF run_subF run_mulF run_quoF

def sqm (r : Option Nat) (x : Nat) : Sem Value := match r with | some r => pure (.float .f64 r) | none => do pure (.float .f64 (← choose (.nanBits .f64 x x)))
theorem run_sqrtF (x : Nat) (w : World) : (callFunc 95 #[.float .f64 x]).run Tryz.prog w = .ok (.value (.float .f64 (opw (double.sqrt x) x x w))) (w.drewN (opd (double.sqrt x))) := by
  have h0 : (callFunc 95 #[.float .f64 x]).run Tryz.prog w = ((sqm (double.sqrt x) x).bind fun v => pure (Next.value v)).run Tryz.prog w := by kernel_rfl
  rw [h0]
  generalize double.sqrt x = r
  cases r <;> rfl
attribute [local go_sem] run_sqrtF
theorem opw_sqrt {x : Nat} {a : Option Nat} (w : World) (hx : FW x a) : FW (opw (double.sqrt x) x x w) (fsqrt a) :=
  opw_fw (by rw [sqrt_ab, hx.2]) (fun _ h => sqrt_res h) (fun _ h => sqrt_w64 h)
theorem fw_pw (k : Int) (h1 : -1022 ≤ k) (h2 : k ≤ 1023) : FW (pw k) (some (pw k)) := ⟨(pw_norm k h1 h2).w64, ab_num (pw_norm k h1 h2).nan⟩

theorem sqrt_calls (x : Nat) (w : World) {X : Option Nat} (hx : FW x X) :
    Calls Tryz.prog 87 #[.float .f64 x] w fun e w' => ∃ u, e = .returned (.float .f64 u) ∧ FW u (fsqrt X) ∧ Below w.heap.size w w' := by
  have H := Lib.hid hx
  clear hx
  go_enter Tryz.func87, Tryz.ntmps87
  go_wp2
  go_ret
  exact ⟨_, rfl, opw_sqrt _ H.out, below_drewN (Below.refl _ _) _⟩

theorem scale_calls (x y : Nat) (k : Int) (w : World) {X Y : Option Nat} (hx : FW x X) (hy : FW y Y) (h1 : -1000 ≤ k) (h2 : k ≤ 1000) :
    Calls Tryz.prog 82 #[.agg #[.float .f64 x, .float .f64 y], .int .i64 k] w fun e w' => ∃ u v, e = .returned (.agg #[.float .f64 u, .float .f64 v]) ∧ FW u (fmul X (some (pw k))) ∧ FW v (fmul Y (some (pw k))) ∧ Below w.heap.size w w' := by
  have H := Lib.hid (And.intro hx (And.intro hy (fw_pw k (by omega) (by omega))))
  have L := Lib.hid (pow_calls k h1 h2)
  clear hx hy h1 h2
  go_enter Tryz.func82, Tryz.ntmps82
  go_wp2_with (go_at_call 78; refine (L.out _).mono ?_; rintro e w' ⟨rfl, rfl⟩)
  refine bodyPost_ret (v := .agg #[.float .f64 (opw (double.mul x (pw k)) x (pw k) w), .float .f64 (opw (double.mul y (pw k)) y (pw k) (w.drewN (opd (double.mul x (pw k)))))]) (by simp [results, Tryz.results82, go_sem]; exact ⟨rfl, rfl⟩) rfl ⟨_, _, rfl, opw_mul _ H.out.1 H.out.2.2, opw_mul _ H.out.2.1 H.out.2.2, ?_⟩
  exact below_drewN (((Below.refl _ _).alloc (Nat.le_refl _) _).alloc (by simp) _) _

theorem size_calls (x y : Nat) (w : World) {X Y : Option Nat} (hx : FW x X) (hy : FW y Y) :
    Calls Tryz.prog 83 #[.agg #[.float .f64 x, .float .f64 y]] w fun e w' => ∃ u, e = .returned (.float .f64 u) ∧ FW u (fsqrt (fadd (fmul X X) (fmul Y Y))) ∧ Below w.heap.size w w' := by
  have H := Lib.hid (And.intro hx hy)
  clear hx hy
  go_enter Tryz.func83, Tryz.ntmps83
  go_wp2_with (go_at_call 87; refine (sqrt_calls _ _ (opw_add _ (opw_mul _ H.out.1 H.out.1) (opw_mul _ H.out.2 H.out.2))).mono ?_; rintro e w1 ⟨u, rfl, hu, hb⟩)
  go_ret
  exact ⟨_, rfl, hu, (below_drewN (((Below.refl _ _).alloc (Nat.le_refl _) _).alloc (by simp) _) _).trans (hb.mono (by simp; omega))⟩
end Go.Proofs.YtmmligbkecilfaaGreatDoor
