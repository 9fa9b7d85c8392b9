/- Roots, scaling, size of a pair; a float's parts. -/
import Derived.Test.YtaabfjfaljhjmaaK
namespace Go.Proofs.Ytaabfjfaljhjmaa
open Go.RowKit Lv Go.Shelf
open Ieee (double Format Datum)
attribute [local go_sem] run_store_float drewN_alloc drewN_setCell run_addF run_subF run_mulF run_quoF

def sqm (r : Option Nat) (x : Nat) : Sem Value := match r with | some r => pure (.float .f64 r) | none => do pure (.float .f64 (← choose (.nanBits .f64 x x)))
theorem run_sqrtF (x : Nat) (w : World) : (callFunc 87 #[.float .f64 x]).run Try.prog w = .ok (.value (.float .f64 (opw (double.sqrt x) x x w))) (w.drewN (opd (double.sqrt x))) := by
  have h0 : (callFunc 87 #[.float .f64 x]).run Try.prog w = ((sqm (double.sqrt x) x).bind fun v => pure (Next.value v)).run Try.prog w := by kernel_rfl
  rw [h0]
  generalize double.sqrt x = r
  cases r <;> rfl
attribute [local go_sem] run_sqrtF
theorem opw_sqrt {x : Nat} {a : Option Nat} (w : World) (hx : FW x a) : FW (opw (double.sqrt x) x x w) (fsqrt a) :=
  opw_fw (by rw [sqrt_ab, hx.2]) (fun _ h => sqrt_res h) (fun _ h => sqrt_w64 h)
theorem fw_pw (k : Int) (h1 : -1022 ≤ k) (h2 : k ≤ 1023) : FW (pw k) (some (pw k)) := ⟨(pw_norm k h1 h2).w64, ab_num (pw_norm k h1 h2).nan⟩

theorem sqrt_calls (x : Nat) (w : World) {X : Option Nat} (hx : FW x X) :
    Calls Try.prog 80 #[.float .f64 x] w fun e w' => ∃ u, e = .returned (.float .f64 u) ∧ FW u (fsqrt X) ∧ Below w.heap.size w w' := by
  have H := Lib.hid hx
  clear hx
  go_enter Try.func80, Try.ntmps80
  go_wp2
  go_ret
  exact ⟨_, rfl, opw_sqrt _ H.out, below_drewN (Below.refl _ _) _⟩

theorem scale_calls (x y : Nat) (k : Int) (w : World) {X Y : Option Nat} (hx : FW x X) (hy : FW y Y) (h1 : -1000 ≤ k) (h2 : k ≤ 1000) :
    Calls Try.prog 75 #[.agg #[.float .f64 x, .float .f64 y], .int .i64 k] w fun e w' => ∃ u v, e = .returned (.agg #[.float .f64 u, .float .f64 v]) ∧ FW u (fmul X (some (pw k))) ∧ FW v (fmul Y (some (pw k))) ∧ Below w.heap.size w w' := by
  have H := Lib.hid (And.intro hx (And.intro hy (fw_pw k (by omega) (by omega))))
  have L := Lib.hid (pow_calls k h1 h2)
  clear hx hy h1 h2
  go_enter Try.func75, Try.ntmps75
  go_wp2_with (go_at_call 70; refine (L.out _).mono ?_; rintro e w' ⟨rfl, rfl⟩)
  refine bodyPost_ret (v := .agg #[.float .f64 (opw (double.mul x (pw k)) x (pw k) w), .float .f64 (opw (double.mul y (pw k)) y (pw k) (w.drewN (opd (double.mul x (pw k)))))]) (by simp [results, Try.results75, go_sem]; exact ⟨rfl, rfl⟩) rfl ⟨_, _, rfl, opw_mul _ H.out.1 H.out.2.2, opw_mul _ H.out.2.1 H.out.2.2, ?_⟩
  exact below_drewN (((Below.refl _ _).alloc (Nat.le_refl _) _).alloc (by simp) _) _

theorem size_calls (x y : Nat) (w : World) {X Y : Option Nat} (hx : FW x X) (hy : FW y Y) :
    Calls Try.prog 76 #[.agg #[.float .f64 x, .float .f64 y]] w fun e w' => ∃ u, e = .returned (.float .f64 u) ∧ FW u (fsqrt (fadd (fmul X X) (fmul Y Y))) ∧ Below w.heap.size w w' := by
  have H := Lib.hid (And.intro hx hy)
  clear hx hy
  go_enter Try.func76, Try.ntmps76
  go_wp2_with (go_at_call 80; refine (sqrt_calls _ _ (opw_add _ (opw_mul _ H.out.1 H.out.1) (opw_mul _ H.out.2 H.out.2))).mono ?_; rintro e w1 ⟨u, rfl, hu, hb⟩)
  go_ret
  exact ⟨_, rfl, hu, (below_drewN (((Below.refl _ _).alloc (Nat.le_refl _) _).alloc (by simp) _) _).trans (hb.mono (by simp; omega))⟩
end Go.Proofs.Ytaabfjfaljhjmaa
