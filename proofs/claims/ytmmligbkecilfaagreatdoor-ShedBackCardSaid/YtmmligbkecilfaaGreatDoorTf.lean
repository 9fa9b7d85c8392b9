/- The reference's Line of layer 11, walked. The three sentinels of shed, as they lie when the call begins. errors.Is, of what shed hands it; an error's number. What stands at the heads of the loops of shed.take. -/
import Derived.Test.YtmmligbkecilfaaGreatDoorTb
import Derived.Test.YtmmligbkecilfaaGreatDoorRa
import Derived.Deep.RegionWith
import Derived.LoopTactic
import Derived.Deep.CutRange
import Derived.Test.YtmmligbkecilfaaGreatDoorRows
import Derived.LaidLaws
import Derived.Stop.LaidErr
import Derived.LaidEql
import Derived.Stop.Asserts
import Derived.Stop.IfaceNil
import Derived.RowKitTokens
namespace Go.Proofs.YtmmligbkecilfaaGreatDoor
open Go.RowKit Lv Go.Shelf
open Ieee (double Format Datum Toward)
attribute [local go_sem] run_store_float drewN_alloc drewN_setCell run_addF run_subF run_mulF run_quoF

/-- what taking a line out comes to, behind the columns -/
def shedR (c : Nat) (rws trn : Int) : Option (List (Option Nat)) → FacD × Int
  | none => (fac0, 8)
  | some ys => if checkP (c : Int) ys rws trn = true then (⟨(c : Int), ys, rws, trn⟩, 0) else (fac0, 2)

end Go.Proofs.YtmmligbkecilfaaGreatDoor
namespace Go.Proofs.YtmmligbkecilfaaGreatDoor
open Go.RowKit Lv Go.Shelf Go.Extern.Stop Go.Stop Go.Extern

theorem isTypeOf (v : Value) (w : World) : (Extern.ReflectliteType.typeOf #[.iface 148 v]).run Tryz.prog w = .ok (.iface 134 (.agg #[.pointer (some ⟨4, 148, none⟩)])) w := by kernel_rfl
def cmpX (t : TypeId) : Sem Value := do Extern.Rtype.noPackHeld "Comparable" t; pure (.bool (← typeInfo t).comparable)
theorem isComparable (w : World) : ((Extern.ReflectliteType.method cmpX) #[.agg #[.pointer (some ⟨4, 148, none⟩)]]).run Tryz.prog w = .ok (.bool true) w := by kernel_rfl
theorem isMethodComparable (v : Value) (w : World) : (Go.method 285 134 v "Comparable").run Tryz.prog w = .ok (126, v) w := by kernel_rfl
theorem isComp : (Tryz.prog.info? 148).map (·.comparable) = some true := by kernel_rfl
theorem isSize : (Tryz.prog.info? 173).map (·.size) = some 1 := by kernel_rfl
theorem noIsE (v : Value) (xT : TypeId) (w : World) : (Instr.typeAssert (.iface 148 v) xT 136 true).run Tryz.prog w = .ok (.tuple #[.nilIface, .bool false]) w := run_typeAssert_lacksB Tryz.underlying136 (by kernel_rfl) (by kernel_rfl) v xT w
theorem noUnwrapE (v : Value) (xT : TypeId) (w : World) : (Instr.typeAssert (.iface 148 v) xT 139 true).run Tryz.prog w = .ok (.tuple #[.nilIface, .bool false]) w := run_typeAssert_lacksB Tryz.underlying139 (by kernel_rfl) (by kernel_rfl) v xT w
theorem noUnwrapsE (v : Value) (xT : TypeId) (w : World) : (Instr.typeAssert (.iface 148 v) xT 141 true).run Tryz.prog w = .ok (.tuple #[.nilIface, .bool false]) w := run_typeAssert_lacksB Tryz.underlying141 (by kernel_rfl) (by kernel_rfl) v xT w
theorem noIsW (v : Value) (xT : TypeId) (w : World) : (Instr.typeAssert (.iface 101 v) xT 136 true).run Tryz.prog w = .ok (.tuple #[.nilIface, .bool false]) w := run_typeAssert_lacksB Tryz.underlying136 (by kernel_rfl) (by kernel_rfl) v xT w
theorem hasUnwrapW (v : Value) (xT : TypeId) (w : World) : (Instr.typeAssert (.iface 101 v) xT 139 true).run Tryz.prog w = .ok (.tuple #[.iface 101 v, .bool true]) w := run_typeAssert_hasB Tryz.underlying139 (by kernel_rfl) v xT w
theorem methodUnwrap (v : Value) (w : World) : (Go.method 285 101 v "Unwrap").run Tryz.prog w = .ok (122, v) w := by kernel_rfl
/-- what a fault wraps -/
theorem unwrap_calls (j : Int) (t : TypeId) (v : Value) (w : World) : Calls Tryz.prog 122 #[.agg #[.int .i64 j, .iface t v]] w fun e w' => e = .returned (.iface t v) ∧ w' = w.alloc (.cells #[.int .i64 j, .iface t v] 101) := by
  go_enter Tryz.func122, Tryz.ntmps122
  go_wp2
  go_ret
  exact ⟨rfl, rfl⟩
theorem heap_alloc_old {w : World} {k : Nat} {o x : Obj} (h : w.heap[k]? = some x) : (w.alloc o).heap[k]? = some x := by
  have hlt : k < w.heap.size := by
    rcases Nat.lt_or_ge k w.heap.size with h' | h'
    · exact h'
    · simp [Array.getElem?_eq_none h'] at h
  show (w.heap.push o)[k]? = _
  simp only [Array.getElem?_push, Nat.ne_of_lt hlt, if_false]
  exact h
set_option maxRecDepth 100000 in
/-- errors.Is(x, y), two different errors of errors.New's make -/
theorem is_other (a b : Addr) (ca cb : Array Value) (ta tb : TypeId) (w : World) (hne : a ≠ b) (ha : w.heap[a.block]? = some (.cells ca ta (0, 0))) (hb : w.heap[b.block]? = some (.cells cb tb (0, 0))) :
    Calls Tryz.prog 67 #[.iface 148 (.pointer (some a)), .iface 148 (.pointer (some b))] w fun e w' => e = .returned (.bool false) ∧ Below w.heap.size w w' := by
  obtain ⟨i, hi, hcmp⟩ := Option.map_eq_some_iff.1 isComp
  obtain ⟨j, hj, hjs⟩ := Option.map_eq_some_iff.1 isSize
  have h8 := @run_callFunc_extern Tryz.prog 88 _ Extern.ReflectliteType.typeOf Tryz.func88 (by kernel_rfl) (by kernel_rfl) (by kernel_rfl) (by kernel_rfl)
  have h32 := @run_callFunc_extern Tryz.prog 126 _ (Extern.ReflectliteType.method cmpX) Tryz.func126 (by kernel_rfl) (by kernel_rfl) (by kernel_rfl) (by kernel_rfl)
  have tT := isTypeOf
  have cT := isComparable
  have mR := isMethodComparable
  have nE := noIsE
  have uE := noUnwrapE
  have vE := noUnwrapsE
  have heq := run_eql_iface_ptr_other (P := Tryz.prog) w Tryz.underlying67 Tryz.underlying148 hi hcmp hj (by rw [hjs]; decide) hne ha hb
  go_enter Tryz.func67, Tryz.ntmps67
  go_wp2
  refine wp_loop_rounds 1 ?_
  rw [rounds_succ]
  go_wp2
  go_ret
  exact ⟨rfl, Below.refl _ _⟩
set_option maxRecDepth 100000 in
/-- errors.Is(fault, x), the fault wraps x -/
theorem is_fault_same (n : Int) (b : Addr) (w : World) :
    Calls Tryz.prog 67 #[.iface 101 (.agg #[.int .i64 n, .iface 148 (.pointer (some b))]), .iface 148 (.pointer (some b))] w fun e w' => e = .returned (.bool true) ∧ Below w.heap.size w w' := by
  obtain ⟨i, hi, hcmp⟩ := Option.map_eq_some_iff.1 isComp
  obtain ⟨j, hj, hjs⟩ := Option.map_eq_some_iff.1 isSize
  have h8 := @run_callFunc_extern Tryz.prog 88 _ Extern.ReflectliteType.typeOf Tryz.func88 (by kernel_rfl) (by kernel_rfl) (by kernel_rfl) (by kernel_rfl)
  have h32 := @run_callFunc_extern Tryz.prog 126 _ (Extern.ReflectliteType.method cmpX) Tryz.func126 (by kernel_rfl) (by kernel_rfl) (by kernel_rfl) (by kernel_rfl)
  have tT := isTypeOf
  have cT := isComparable
  have mR := isMethodComparable
  have nW := noIsW
  have uW := hasUnwrapW
  have mU := methodUnwrap
  have heq := run_eql_iface_ptr_same (P := Tryz.prog) (w.alloc (.cells #[.int .i64 n, .iface 148 (.pointer (some b))] 101)) b Tryz.underlying67 Tryz.underlying148 hi hcmp hj
  have hty := run_eql_iface_types (P := Tryz.prog) 101 148 (.agg #[.int .i64 n, .iface 148 (.pointer (some b))]) (.pointer (some b)) Tryz.underlying67 (by decide) w
  go_enter Tryz.func67, Tryz.ntmps67
  go_wp2
  refine wp_loop_rounds 2 ?_
  rw [rounds_succ]
  go_wp2_with (go_at_call 122; refine (unwrap_calls _ _ _ _).mono ?_; rintro e w' ⟨rfl, rfl⟩)
  rw [rounds_succ]
  go_wp2
  go_ret
  exact ⟨rfl, (Below.refl _ _).alloc (Nat.le_refl _) _⟩
set_option maxRecDepth 100000 in
/-- errors.Is(fault, x), the fault wraps another one -/
theorem is_fault_other (n : Int) (a b : Addr) (ca cb : Array Value) (ta tb : TypeId) (w : World) (hne : a ≠ b) (ha : w.heap[a.block]? = some (.cells ca ta (0, 0))) (hb : w.heap[b.block]? = some (.cells cb tb (0, 0))) :
    Calls Tryz.prog 67 #[.iface 101 (.agg #[.int .i64 n, .iface 148 (.pointer (some a))]), .iface 148 (.pointer (some b))] w fun e w' => e = .returned (.bool false) ∧ Below w.heap.size w w' := by
  obtain ⟨i, hi, hcmp⟩ := Option.map_eq_some_iff.1 isComp
  obtain ⟨j, hj, hjs⟩ := Option.map_eq_some_iff.1 isSize
  have h8 := @run_callFunc_extern Tryz.prog 88 _ Extern.ReflectliteType.typeOf Tryz.func88 (by kernel_rfl) (by kernel_rfl) (by kernel_rfl) (by kernel_rfl)
  have h32 := @run_callFunc_extern Tryz.prog 126 _ (Extern.ReflectliteType.method cmpX) Tryz.func126 (by kernel_rfl) (by kernel_rfl) (by kernel_rfl) (by kernel_rfl)
  have tT := isTypeOf
  have cT := isComparable
  have mR := isMethodComparable
  have nE := noIsE
  have uE := noUnwrapE
  have vE := noUnwrapsE
  have nW := noIsW
  have uW := hasUnwrapW
  have mU := methodUnwrap
  have heq := run_eql_iface_ptr_other (P := Tryz.prog) (w.alloc (.cells #[.int .i64 n, .iface 148 (.pointer (some a))] 101)) Tryz.underlying67 Tryz.underlying148 hi hcmp hj (by rw [hjs]; decide) hne (heap_alloc_old ha) (heap_alloc_old hb)
  have hty := run_eql_iface_types (P := Tryz.prog) 101 148 (.agg #[.int .i64 n, .iface 148 (.pointer (some a))]) (.pointer (some b)) Tryz.underlying67 (by decide) w
  go_enter Tryz.func67, Tryz.ntmps67
  go_wp2
  refine wp_loop_rounds 2 ?_
  rw [rounds_succ]
  go_wp2_with (go_at_call 122; refine (unwrap_calls _ _ _ _).mono ?_; rintro e w' ⟨rfl, rfl⟩)
  rw [rounds_succ]
  go_wp2
  go_ret
  exact ⟨rfl, (Below.refl _ _).alloc (Nat.le_refl _) _⟩

/-- the errors of shed -/
inductive ErrD where
  | ok
  | arg
  | shed (j : Int)
  | rng (j : Int)
def ErrD.val (a0 a1 a2 : Addr) : ErrD → Value
  | .ok => .nilIface
  | .arg => .iface 148 (.pointer (some a0))
  | .shed j => .iface 101 (.agg #[.int .i64 j, .iface 148 (.pointer (some a1))])
  | .rng j => .iface 101 (.agg #[.int .i64 j, .iface 148 (.pointer (some a2))])
def ErrD.code : ErrD → Int
  | .ok => 0
  | .arg => 1
  | .shed _ => 8
  | .rng _ => 2
/-- the package's errors, as they lie from the start -/
structure Laid (W : World) (a0 a1 a2 : Addr) : Prop where
  g0 : W.cell? ⟨0, 0, none⟩ = some (.iface 148 (.pointer (some a0)))
  g1 : W.cell? ⟨1, 0, none⟩ = some (.iface 148 (.pointer (some a1)))
  g2 : W.cell? ⟨2, 0, none⟩ = some (.iface 148 (.pointer (some a2)))
  n1 : a0 ≠ a1
  n2 : a0 ≠ a2
  n3 : a1 ≠ a2
  h0 : ∃ c t, W.heap[a0.block]? = some (.cells c t (0, 0))
  h1 : ∃ c t, W.heap[a1.block]? = some (.cells c t (0, 0))
  h2 : ∃ c t, W.heap[a2.block]? = some (.cells c t (0, 0))
theorem block_below {W W' : World} {b : Nat} (h : ∃ c t, W.heap[b]? = some (.cells c t (0, 0))) (hb : Below W.heap.size W W') : ∃ c t, W'.heap[b]? = some (.cells c t (0, 0)) := by
  obtain ⟨c, t, h⟩ := h
  exact ⟨c, t, by rw [hb.block b ((Array.getElem?_eq_some_iff.1 h).1)]; exact h⟩
theorem Laid.below {W W' : World} {a0 a1 a2 : Addr} (h : Laid W a0 a1 a2) (hb : Below W.heap.size W W') : Laid W' a0 a1 a2 :=
  ⟨(hb.cell (p := ⟨0, 0, none⟩) (cell_lt h.g0)).trans h.g0, (hb.cell (p := ⟨1, 0, none⟩) (cell_lt h.g1)).trans h.g1, (hb.cell (p := ⟨2, 0, none⟩) (cell_lt h.g2)).trans h.g2, h.n1, h.n2, h.n3, block_below h.h0 hb, block_below h.h1 hb, block_below h.h2 hb⟩
set_option maxRecDepth 100000 in
theorem code_calls (E : ErrD) (a0 a1 a2 : Addr) (w : World) (L : Laid w a0 a1 a2) :
    Calls Tryz.prog 35 #[E.val a0 a1 a2] w fun e w' => e = .returned (.int .i64 E.code) ∧ Below w.heap.size w w' := by
  have hI : Tryz.prog.isIface 67 = true := by kernel_rfl
  obtain ⟨g0, g1, g2, n1, n2, n3, ⟨c0, t0, h0⟩, ⟨c1, t1, h1⟩, ⟨c2, t2, h2⟩⟩ := id L
  have HL := Lib.hid L
  cases E with
  | ok =>
    unfold ErrD.val ErrD.code
    clear h0 h1 h2
    go_enter Tryz.func35, Tryz.ntmps35
    go_wp2
    go_ret
    exact ⟨rfl, Below.refl _ _⟩
  | arg =>
    unfold ErrD.val ErrD.code
    have I1 := Lib.hid (is_other a0 a1 c0 c1 t0 t1 w n1 h0 h1)
    have I2 := Lib.hid (fun W (hW : Below w.heap.size w W) => is_other a0 a2 c0 c2 t0 t2 W n2 (by rw [hW.block a0.block ((Array.getElem?_eq_some_iff.1 h0).1)]; exact h0) (by rw [hW.block a2.block ((Array.getElem?_eq_some_iff.1 h2).1)]; exact h2))
    clear h0 h1 h2 L n1 n2 n3
    go_enter Tryz.func35, Tryz.ntmps35
    go_wp2_with (first
      | (go_at_call 67; (with_reducible refine I1.out.mono ?_); rintro e w1 ⟨rfl, hb1⟩; have B1 := Lib.hid hb1; have q2 := (hb1.cell (p := ⟨2, 0, none⟩) (cell_lt g2)).trans g2; clear hb1)
      | (go_at_call 67; go_must ((with_reducible refine (I2.out _ B1.out).mono ?_); rintro e w2 ⟨rfl, hb2⟩)))
    go_ret
    exact ⟨rfl, B1.out.trans (hb2.mono B1.out.size)⟩
  | shed j =>
    unfold ErrD.val ErrD.code
    have I1 := Lib.hid (is_fault_same j a1 w)
    clear h0 h1 h2 L n1 n2 n3
    go_enter Tryz.func35, Tryz.ntmps35
    go_wp2_with (first
      | (go_at_call 67; go_must ((with_reducible refine I1.out.mono ?_); rintro e w1 ⟨rfl, hb1⟩)))
    go_ret
    exact ⟨rfl, hb1⟩
  | rng j =>
    unfold ErrD.val ErrD.code
    have I1 := Lib.hid (is_fault_other j a2 a1 c2 c1 t2 t1 w n3.symm h2 h1)
    have I2 := Lib.hid (fun W => is_fault_same j a2 W)
    clear h0 h1 h2 L n1 n2 n3
    go_enter Tryz.func35, Tryz.ntmps35
    go_wp2_with (first
      | (go_at_call 67; (with_reducible refine I1.out.mono ?_); rintro e w1 ⟨rfl, hb1⟩; have B1 := Lib.hid hb1; have q2 := (hb1.cell (p := ⟨2, 0, none⟩) (cell_lt g2)).trans g2; clear hb1)
      | (go_at_call 67; go_must ((with_reducible refine (I2.out _).mono ?_); rintro e w2 ⟨rfl, hb2⟩)))
    go_ret
    exact ⟨rfl, B1.out.trans (hb2.mono B1.out.size)⟩
end Go.Proofs.YtmmligbkecilfaaGreatDoor
namespace Go.Proofs.YtmmligbkecilfaaGreatDoor
open Go.RowKit Lv Go.Shelf

theorem lineP_other {ys l : List (Option Nat)} {c i j : Nat} (h1 : 1 ≤ c) (h6 : c ≤ 6) (hl : ys.length = tsz c) (hi : i ≤ c) (hj : j ≤ c) (hll : l.length = c + 1) (hne : i ≠ j) : lineP (setP ys c j l) c i = lineP ys c i := by
  unfold lineP
  rw [seg_other h1 h6 hl hi hj hll hne]
theorem lineP_same {ys l : List (Option Nat)} {c j : Nat} (h1 : 1 ≤ c) (h6 : c ≤ 6) (hl : ys.length = tsz c) (hj : j ≤ c) (hll : l.length = c + 1) (hz : ∀ i, i < j → l.getD i none = some 0) : lineP (setP ys c j l) c j = l := by
  have hs := setP_len h1 h6 hl hj hll
  refine ext_getD none (by rw [lineP_len h1 h6 hs hj, hll]) fun i hi => ?_
  rw [lineP_len h1 h6 hs hj] at hi
  rw [getD_lineP hj i hi]
  by_cases c1 : i < j
  · rw [if_pos c1, hz i c1]
  · have ho := offs_le c j h1 h6 (by omega)
    rw [if_neg c1, getD_setP h1 h6 hl hj hll, if_pos (by omega)]
    congr 1
    omega
theorem lineP_agree {xs ys : List (Option Nat)} {c j : Nat} (h1 : 1 ≤ c) (h6 : c ≤ 6) (hx : xs.length = tsz c) (hy : ys.length = tsz c) (hj : j ≤ c) (h : ∀ k, offs c j ≤ k → ys.getD k none = xs.getD k none) : lineP ys c j = lineP xs c j := by
  refine ext_getD none (by rw [lineP_len h1 h6 hy hj, lineP_len h1 h6 hx hj]) fun i hi => ?_
  rw [lineP_len h1 h6 hy hj] at hi
  rw [getD_lineP hj i hi, getD_lineP hj i hi]
  split
  · rfl
  · exact h _ (by omega)
/-- what stands ahead of the turned entries is as it was -/
theorem gturnTo_head (g1 g2 : Option Nat → Option Nat → Option Nat) (j : Nat) (p : List (Option Nat) × List (Option Nat)) (i : Nat) (hi : i ≤ j) : ∀ n, (gturnTo g1 g2 j n p).1.getD i none = p.1.getD i none
  | 0 => rfl
  | n + 1 => by
    unfold gturnTo
    dsimp only
    rw [getD_set, if_neg (by omega)]
    exact gturnTo_head g1 g2 j p i hi n

/-- the rows that are computed: of the first j of them the slices stand in block qb -/
def RowsAt (W : World) (B qb c : Nat) (ys : List (Option Nat)) (j : Nat) : Prop :=
  ∀ i, i < c + 1 → (∃ u, W.cell? ⟨qb, i, none⟩ = some u ∧ ∀ x, u ≠ .float .f64 x) ∧ W.frozen? ⟨qb, i, none⟩ = false ∧
    (i < j → ∃ g cap, W.cell? ⟨qb, i, none⟩ = some (.slice (some ⟨g, 0, none⟩) (c + 1) cap) ∧ OwnV W B (.slice (some ⟨g, 0, none⟩) (c + 1) cap) (lineP ys c i) ∧ qb < g ∧ g < W.heap.size)
theorem RowsAt.below {W W' : World} {B qb c j : Nat} {ys : List (Option Nat)} (h : RowsAt W B qb c ys j) (hb : Below W.heap.size W W') : RowsAt W' B qb c ys j := by
  intro i hi
  obtain ⟨⟨u, u1, u2⟩, f, r⟩ := h i hi
  refine ⟨⟨u, (hb.cell (p := ⟨qb, i, none⟩) (cell_lt u1)).trans u1, u2⟩, (hb.frozen (p := ⟨qb, i, none⟩) (cell_lt u1)).trans f, fun hij => ?_⟩
  obtain ⟨g, cap, r1, r2, r3, r4⟩ := r hij
  exact ⟨g, cap, (hb.cell (p := ⟨qb, i, none⟩) (cell_lt r1)).trans r1, r2.below hb (Nat.le_refl _), r3, Nat.lt_of_lt_of_le r4 hb.size⟩
/-- a store elsewhere -/
theorem RowsAt.set {W : World} {B qb c j b o : Nat} {ys : List (Option Nat)} {v : Value} (h : RowsAt W B qb c ys j) (hq : b ≠ qb) (hg : ∀ i g cap, i < j → i < c + 1 → W.cell? ⟨qb, i, none⟩ = some (.slice (some ⟨g, 0, none⟩) (c + 1) cap) → b ≠ g) : RowsAt (W.setCell ⟨b, o, none⟩ v) B qb c ys j := by
  intro i hi
  obtain ⟨⟨u, u1, u2⟩, f, r⟩ := h i hi
  refine ⟨⟨u, cell_set_ne u1 hq, u2⟩, frozen_set f, fun hij => ?_⟩
  obtain ⟨g, cap, r1, r2, r3, r4⟩ := r hij
  exact ⟨g, cap, cell_set_ne r1 hq, r2.setOther (hg i g cap hij hi r1), r3, by simpa using r4⟩
theorem RowsAt.set_low {W : World} {B qb c j b o : Nat} {ys : List (Option Nat)} {v : Value} (h : RowsAt W B qb c ys j) (hq : b < qb) : RowsAt (W.setCell ⟨b, o, none⟩ v) B qb c ys j := by
  refine h.set (by omega) fun i g cap hij hi e => ?_
  obtain ⟨_, _, r⟩ := h i hi
  obtain ⟨g', cap', r1, _, r3, _⟩ := r hij
  rw [e] at r1
  simp only [Option.some.injEq, Value.slice.injEq, Addr.mk.injEq, and_true, true_and] at r1
  omega
theorem RowsAt.start {W : World} {B qb c : Nat} {ys : List (Option Nat)} (h : ∀ i, i < c + 1 → W.cell? ⟨qb, i, none⟩ = some (.slice none 0 0) ∧ W.frozen? ⟨qb, i, none⟩ = false) : RowsAt W B qb c ys 0 :=
  fun i hi => ⟨⟨_, (h i hi).1, slice_ne⟩, (h i hi).2, fun h => absurd h (Nat.not_lt_zero _)⟩
/-- the next row is laid down -/
theorem RowsAt.next {W : World} {B qb c j g cap : Nat} {ys l : List (Option Nat)} (h1 : 1 ≤ c) (h6 : c ≤ 6) (hyl : ys.length = tsz c) (hj : j ≤ c) (hll : l.length = c + 1) (hz : ∀ i, i < j → l.getD i none = some 0)
    (h : RowsAt W B qb c ys j) (ho : OwnV W B (.slice (some ⟨g, 0, none⟩) (c + 1) cap) l) (hq : qb < g) (hg : g < W.heap.size) : RowsAt (W.setCell ⟨qb, j, none⟩ (.slice (some ⟨g, 0, none⟩) (c + 1) cap)) B qb c (setP ys c j l) (j + 1) := by
  intro i hi
  obtain ⟨⟨u, u1, u2⟩, f, r⟩ := h i hi
  by_cases e : i = j
  · subst e
    have k1 := cell_set_eq (v := .slice (some ⟨g, 0, none⟩) (c + 1) cap) u1
    refine ⟨⟨_, k1, slice_ne⟩, frozen_set f, fun _ => ⟨g, cap, k1, ?_, hq, by simpa using hg⟩⟩
    rw [lineP_same h1 h6 hyl hj hll hz]
    exact ho.setOther (by omega)
  · refine ⟨⟨u, cell_set_off u1 (Ne.symm e), u2⟩, frozen_set f, fun hij => ?_⟩
    obtain ⟨g', cap', r1, r2, r3, r4⟩ := r (by omega)
    refine ⟨g', cap', cell_set_off r1 (Ne.symm e), ?_, r3, by simpa using r4⟩
    rw [lineP_other h1 h6 hyl (by omega) hj hll e]
    exact r2.setOther (by omega)

/-- what stands at the head of the first loop -/
structure TInv (w : World) (rb rcap qb c : Nat) (rws trn : Int) (xs : List (Option Nat)) (tb tf cap : Nat) (T : Option (List (Option Nat))) (W : World) (j : Nat) (ys rest : List (Option Nat)) : Prop where
  c3 : Cells4 W w.heap.size (.int .i64 c) (.slice (some ⟨tb, tf, none⟩) xs.length cap) (.int .i64 rws) (.int .i64 trn)
  c6 : Cells4 W (w.heap.size + 1) (.int .i64 0) (.slice none 0 0) (.int .i64 0) (.int .i64 0)
  row : Row W (.slice (some ⟨tb, tf, none⟩) xs.length cap) xs
  own : OwnV W w.heap.size (.slice (some ⟨rb, 0, none⟩) (c + 1) rcap) rest
  rows : RowsAt W w.heap.size qb c ys j
  hyl : ys.length = tsz c
  hrl : rest.length = c + 1
  agree : ∀ k, offs c j ≤ k → ys.getD k none = xs.getD k none
  eq : sfrom c (c + 1 - j) j (ys, rest) = T
  below : Below w.heap.size w W
/-- what stands at the head of its inner loop -/
structure UInv (w : World) (gb gcap rb rcap qb c : Nat) (rws trn : Int) (xs ys : List (Option Nat)) (j : Nat) (tb tf cap : Nat) (W : World) (p : List (Option Nat) × List (Option Nat)) : Prop where
  c3 : Cells4 W w.heap.size (.int .i64 c) (.slice (some ⟨tb, tf, none⟩) xs.length cap) (.int .i64 rws) (.int .i64 trn)
  c6 : Cells4 W (w.heap.size + 1) (.int .i64 0) (.slice none 0 0) (.int .i64 0) (.int .i64 0)
  row : Row W (.slice (some ⟨tb, tf, none⟩) xs.length cap) xs
  own1 : OwnV W w.heap.size (.slice (some ⟨gb, 0, none⟩) (c + 1) gcap) p.1
  own2 : OwnV W w.heap.size (.slice (some ⟨rb, 0, none⟩) (c + 1) rcap) p.2
  rows : RowsAt W w.heap.size qb c ys j
  old : ∀ i g cap', i < j → i < c + 1 → W.cell? ⟨qb, i, none⟩ = some (.slice (some ⟨g, 0, none⟩) (c + 1) cap') → gb ≠ g
  l1 : p.1.length = c + 1
  l2 : p.2.length = c + 1
  below : Below w.heap.size w W
theorem cell_set_back {W : World} {b o b' o' : Nat} {u v : Value} (h : (W.setCell ⟨b, o, none⟩ v).cell? ⟨b', o', none⟩ = some u) (hne : b ≠ b') : W.cell? ⟨b', o', none⟩ = some u := by
  exact (World.cell?_of_block (w := W) (a := ⟨b', o', none⟩) (Below.heap_setCell W ⟨b, o, none⟩ v b' (fun e => hne e.symm))).symm.trans h
theorem UInv.turn {w : World} {gb gcap rb rcap qb c : Nat} {rws trn : Int} {xs ys : List (Option Nat)} {j tb tf cap : Nat} {W W' : World} {g1 g2 : Option Nat → Option Nat → Option Nat} {n : Nat} {p0 : List (Option Nat) × List (Option Nat)}
    (h : UInv w gb gcap rb rcap qb c rws trn xs ys j tb tf cap W (gturnTo g1 g2 j n p0)) (hb : Below W.heap.size W W') {u v : Nat}
    (hu : FW u (g1 ((gturnTo g1 g2 j n p0).1.getD (j + 1 + n) none) ((gturnTo g1 g2 j n p0).2.getD (j + 1 + n) none)))
    (hv : FW v (g2 ((gturnTo g1 g2 j n p0).1.getD (j + 1 + n) none) ((gturnTo g1 g2 j n p0).2.getD (j + 1 + n) none)))
    (k1 : w.heap.size + 1 < rb) (k2 : rb < qb) (k3 : qb < gb) (k4 : tb < w.heap.size) :
    UInv w gb gcap rb rcap qb c rws trn xs ys j tb tf cap ((W'.setCell ⟨gb, j + 1 + n, none⟩ (.float .f64 u)).setCell ⟨rb, j + 1 + n, none⟩ (.float .f64 v)) (gturnTo g1 g2 j (n + 1) p0) := by
  have hs := h.below.size
  have hr := h.rows.below hb
  have ho : ∀ i g cap', i < j → i < c + 1 → W'.cell? ⟨qb, i, none⟩ = some (.slice (some ⟨g, 0, none⟩) (c + 1) cap') → gb ≠ g := fun i g cap' hij hi e => by
    obtain ⟨⟨u, u1, _⟩, _, _⟩ := h.rows i hi
    exact h.old i g cap' hij hi ((hb.cell (p := ⟨qb, i, none⟩) (cell_lt u1)).symm.trans e)
  refine ⟨((h.c3.below hb).set (by omega)).set (by omega), ((h.c6.below hb).set (by omega)).set (by omega), ((h.row.below hb).setOther (by omega)).setOther (by omega), ?_, ?_, ?_, ?_, ?_, ?_, ?_⟩
  · exact ((h.own1.below hb (Nat.le_refl _)).set h.l1 _ hu).setOther (by omega)
  · exact ((h.own2.below hb (Nat.le_refl _)).setOther (by omega)).set h.l2 _ hv
  · exact (hr.set (by omega) ho).set_low k2
  · intro i g cap' hij hi e
    exact ho i g cap' hij hi (cell_set_back (cell_set_back e (by omega)) (by omega))
  · simp only [gturnTo, List.length_set]; exact h.l1
  · simp only [gturnTo, List.length_set]; exact h.l2
  · exact ((h.below.trans (hb.mono hs)).setCell (p := ⟨gb, j + 1 + n, none⟩) (show w.heap.size ≤ gb by omega) _).setCell (p := ⟨rb, j + 1 + n, none⟩) (show w.heap.size ≤ rb by omega) _
/-- a factor and an error of shed; the triangle lies at B, or behind it -/
def FacErr (B : Nat) (a0 a1 a2 : Addr) (R : FacD × Int) (e : Ending) (w' : World) : Prop := ∃ (E : ErrD) (a : Option Addr) (n cap : Nat), e = .returned (.tuple #[.agg #[.int .i64 R.1.cols, .slice a n cap, .int .i64 R.1.rws, .int .i64 R.1.trn], E.val a0 a1 a2]) ∧ E.code = R.2 ∧ Row w' (.slice a n cap) R.1.xs ∧ (∀ p, a = some p → B ≤ p.block)
theorem Row.setAway {W : World} {a : Option Addr} {n cap b o : Nat} {v : Value} {xs : List (Option Nat)} (h : Row W (.slice a n cap) xs) (hne : ∀ p, a = some p → b ≠ p.block) : Row (W.setCell ⟨b, o, none⟩ v) (.slice a n cap) xs := by
  obtain ⟨a', cap', hv, h1, h2, h3⟩ := h
  refine ⟨a', cap', hv, h1, h2, ?_⟩
  rcases h3 with h3 | ⟨blk, off, ha, hc⟩
  · exact .inl h3
  · simp only [Value.slice.injEq] at hv
    obtain ⟨rfl, _⟩ := hv
    refine .inr ⟨blk, off, ha, fun i hi => ?_⟩
    obtain ⟨x, hx1, hx2⟩ := hc i hi
    exact ⟨x, cell_set_ne hx1 (hne _ ha), hx2⟩
end Go.Proofs.YtmmligbkecilfaaGreatDoor
namespace Go.Proofs.YtmmligbkecilfaaGreatDoor
open Go.ChangeShapes Go.WideShapes Go.RowKit Lv

theorem starE : "*" ++ "errors.errorString" = "*errors.errorString" := by decide
theorem rowE (u : TypeId) (h : Tryz.prog.typeName? 3 u = some "*errors.errorString") : u = 148 :=
  typeName_ptr_named (nm := "errors.errorString") (by rw [starE]; kernel_rfl) (by kernel_rfl) (by decide) u (by rw [starE]; exact h)
theorem gArg : Tryz.prog.globalNamed "levelling/shed.errArg" = some 0 := by kernel_rfl
theorem gShed : Tryz.prog.globalNamed "levelling/shed.errShed" = some 1 := by kernel_rfl
theorem gRange : Tryz.prog.globalNamed "levelling/shed.errRange" = some 2 := by kernel_rfl
theorem gTypes : (Tryz.prog.globals[0]?).map (·.type) = some 67 ∧ (Tryz.prog.globals[1]?).map (·.type) = some 67 ∧ (Tryz.prog.globals[2]?).map (·.type) = some 67 := ⟨by kernel_rfl, by kernel_rfl, by kernel_rfl⟩
theorem cellsE : Tryz.prog.cellsOf 173 = 1 ∧ Tryz.prog.cellsOf 9 = 1 := ⟨by kernel_rfl, by kernel_rfl⟩
/-- what the rows list -/
def laid3 {H : Type} : List (String × DataW H) := [("levelling/shed.errArg", Rows.laid_levelling_shed_errArg), ("levelling/shed.errShed", Rows.laid_levelling_shed_errShed), ("levelling/shed.errRange", Rows.laid_levelling_shed_errRange)]
set_option maxRecDepth 100000 in
theorem laid_of_met {W : World} (h : laidMet Tryz.prog laid3 W) : ∃ a0 a1 a2, Laid W a0 a1 a2 := by
  obtain ⟨ps, ⟨g0, t0, cs0, f0, p0, q0, hg0, ht0, hv0, hd0, ⟨g1, t1, cs1, f1, p1, q1, hg1, ht1, hv1, hd1, ⟨g2, t2, cs2, f2, p2, q2, hg2, ht2, hv2, hd2, _, e2⟩, e1⟩, e0⟩, hnd, hrows⟩ := h
  obtain rfl := Option.some.inj (gArg.symm.trans hg0)
  obtain rfl := Option.some.inj (gShed.symm.trans hg1)
  obtain rfl := Option.some.inj (gRange.symm.trans hg2)
  obtain rfl := Option.some.inj (gTypes.1.symm.trans ht0)
  obtain rfl := Option.some.inj (gTypes.2.1.symm.trans ht1)
  obtain rfl := Option.some.inj (gTypes.2.2.symm.trans ht2)
  subst e2
  subst e1
  subst e0
  obtain ⟨l0⟩ := cs0
  obtain ⟨l1⟩ := cs1
  obtain ⟨l2⟩ := cs2
  have ok0 : ∀ u v, l0 = [.iface u v] → Value.okWide Tryz.prog W .any 0 u v := fun u v e => by
    subst e
    exact (hrows 0 0 (by simp [MemPlace.row])).2 u v (by simpa using World.var?_cell gArg hv0 0)
  have ok1 : ∀ u v, l1 = [.iface u v] → Value.okWide Tryz.prog W .any 0 u v := fun u v e => by
    subst e
    exact (hrows 1 0 (by simp [MemPlace.row])).2 u v (by simpa using World.var?_cell gShed hv1 0)
  have ok2 : ∀ u v, l2 = [.iface u v] → Value.okWide Tryz.prog W .any 0 u v := fun u v e => by
    subst e
    exact (hrows 2 0 (by simp [MemPlace.row])).2 u v (by simpa using World.var?_cell gRange hv2 0)
  obtain ⟨a0, s0, rfl, hc0, hs0, hz0, rfl⟩ := errorString_of_trod Tryz.underlying67 rowE Tryz.underlying148 Tryz.underlying173 rfl rfl Tryz.underlying9 cellsE.1 cellsE.2 hd0 ok0
  obtain ⟨a1, s1, rfl, hc1, hs1, hz1, rfl⟩ := errorString_of_trod Tryz.underlying67 rowE Tryz.underlying148 Tryz.underlying173 rfl rfl Tryz.underlying9 cellsE.1 cellsE.2 hd1 ok1
  obtain ⟨a2, s2, rfl, hc2, hs2, hz2, rfl⟩ := errorString_of_trod Tryz.underlying67 rowE Tryz.underlying148 Tryz.underlying173 rfl rfl Tryz.underlying9 cellsE.1 cellsE.2 hd2 ok2
  refine ⟨a0, a1, a2, by simpa using World.var?_cell gArg hv0 0, by simpa using World.var?_cell gShed hv1 0, by simpa using World.var?_cell gRange hv2 0, ?_, ?_, ?_, (hrows a0.block a0.off (by simp [MemPlace.row])).1, (hrows a1.block a1.off (by simp [MemPlace.row])).1, (hrows a2.block a2.off (by simp [MemPlace.row])).1⟩
  · rintro rfl
    simp [MemPlace.row] at hnd
  · rintro rfl
    simp [MemPlace.row] at hnd
  · rintro rfl
    simp [MemPlace.row] at hnd

abbrev text0 : ByteArray := { data := #[97, 32, 102, 97, 99, 116, 111, 114, 44, 32, 111, 114, 32, 97, 32, 108, 105, 110, 101, 44, 32, 116, 104, 97, 116, 32, 109, 97, 121, 32, 110, 111, 116, 32, 98, 101] }
abbrev text1 : ByteArray := { data := #[109, 111, 114, 101, 32, 105, 115, 32, 116, 97, 107, 101, 110, 32, 111, 117, 116, 32, 116, 104, 97, 110, 32, 116, 104, 101, 114, 101, 32, 105, 115] }
abbrev text2 : ByteArray := { data := #[116, 111, 111, 32, 103, 114, 101, 97, 116] }
noncomputable def low : Nat := (World.holding Tryz.prog default ⟨#[], #[], []⟩).heap.size
/-- a world in which they lie so -/
noncomputable def laidWorld (os : Os) : World :=
  let w0 := World.holding Tryz.prog os ⟨#[.cells #[.string text0] 173, .cells #[.string text1] 173, .cells #[.string text2] 173], #[], []⟩
  { w0 with heap := ((w0.heap.modify 0 fun
      | .cells _ t frozen => .cells #[.iface 148 (.pointer (some ⟨low, 0, none⟩))] t frozen
      | o => o).modify 1 fun
      | .cells _ t frozen => .cells #[.iface 148 (.pointer (some ⟨low + 1, 0, none⟩))] t frozen
      | o => o).modify 2 fun
      | .cells _ t frozen => .cells #[.iface 148 (.pointer (some ⟨low + 2, 0, none⟩))] t frozen
      | o => o }
set_option maxRecDepth 100000 in
theorem laidWorld_met (os : Os) (args : Array Value) : laidMet Tryz.prog laid3 ((laidWorld os).forCall (fun _ _ => 0) ⟨#[], args, []⟩).memory :=
  laidMet_of_run (ps := [.cell 0 0, .cell low 0, .cell 1 0, .cell (low + 1) 0, .cell 2 0, .cell (low + 2) 0]) 8 (by kernel_rfl) (by kernel_rfl) (by kernel_rfl)
end Go.Proofs.YtmmligbkecilfaaGreatDoor
