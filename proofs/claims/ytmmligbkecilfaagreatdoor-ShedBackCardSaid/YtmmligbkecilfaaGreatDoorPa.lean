/- What comes in, opened: floats, factors, rows of data, lists of these. -/
import Derived.Test.YtmmligbkecilfaaGreatDoorRows
import Derived.Test.YtmmligbkecilfaaGreatDoorSm
import Derived.ProofKit
import Derived.Lib.SmallJoins
import Derived.OpenShut
import Derived.Deep.Slices
import Derived.Deep.Fields
import Derived.ChangeSame
namespace Go.Proofs.YtmmligbkecilfaaGreatDoor
open Go.ChangeShapes Go.WideShapes Go.RowKit Go.Joins Go.Deep Lv

set_option maxRecDepth 100000
theorem own : ownKnob Tryz.prog.godebug = none := by kernel_rfl
theorem laidOut : laidOutB Tryz.prog = true := by kernel_rfl
theorem cells24 : Tryz.prog.cellsOf 24 = 4 := by kernel_rfl
theorem cells45 : Tryz.prog.cellsOf 27 = 2 := by kernel_rfl
theorem cells37 : Tryz.prog.cellsOf 25 = 1 := by kernel_rfl

section
variable {H : Type} {enc : TypeId × Value → H} {w : World} {held : Bool} {fuel : Nat}

theorem trod_float {base : Nat} {spare : Nat → Bool} {cs : List Value} {x : DataW H × List MemPlace} (h : DataW.trod enc Tryz.prog w base spare held fuel 25 cs = some x) : ∃ b, cs = [.float .f64 b] ∧ W64 b := by
  cases fuel with
  | zero => simp [DataW.trod] at h
  | succ n =>
    unfold DataW.trod at h
    rw [Tryz.underlying25] at h
    split at h <;> simp_all
    rename_i b hk
    subst hk
    obtain ⟨⟨_, h1⟩, _⟩ := h
    unfold Lit.wf at h1
    simp at h1
    exact h1
theorem fw_any {b : Nat} (h : W64 b) : FW b (ab b) := ⟨h, rfl⟩

theorem open_floats {v : Value} {x : DataW H × List MemPlace} (hf : DataW.trod enc Tryz.prog w 0 (fun _ => true) held fuel 22 [v] = some x) : ∃ xs, Row w v xs := by
  rcases open_slice1 Tryz.underlying22 cells37 hf with ⟨hcs, _⟩ | ⟨a, len, cap, m, n, V, D, Pl, hcs, _, hl, hm, hmm, _, hx⟩
  · simp only [List.cons.injEq, and_true] at hcs
    subst hcs
    exact ⟨[], row_nil w⟩
  · simp only [List.cons.injEq, and_true] at hcs
    subst hcs
    rw [if_pos rfl] at hmm
    have hword : ∀ i, i < len → ∃ b, V i = .float .f64 b ∧ W64 b := fun i hi => by
      obtain ⟨b, hb, hw⟩ := trod_float (hx i (by omega)).2
      simp only [List.cons.injEq, and_true] at hb
      exact ⟨b, hb, hw⟩
    refine ⟨(List.range len).map fun i => match V i with | .float _ b => ab b | _ => none, some a, cap, by simp, by simpa using hl, hm, ?_⟩
    by_cases h0 : len = 0
    · exact .inl ⟨by simp [h0], fun h => by cases h⟩
    · obtain ⟨blk, off, spot⟩ := a
      have hc := (hx 0 (by omega)).1
      have hs : spot = none := by have := World.cell?_spot hc; simpa [Addr.add] using this
      subst hs
      refine .inr ⟨blk, off, rfl, fun i hi => ?_⟩
      have hi' : i < len := by simpa using hi
      obtain ⟨b, hb, hw⟩ := hword i hi'
      have hci := (hx i (by omega)).1
      rw [hb] at hci
      refine ⟨b, ?_, ?_⟩
      · have e : (⟨blk, off, none⟩ : Addr).add i = ⟨blk, off + i, none⟩ := by
          unfold Addr.add
          split
          · simp
          · rfl
        rw [← e]; exact hci
      · rw [List.getD_eq_getElem?_getD]
        simp [hi', hb]
        exact fw_any hw

theorem open_factor {r : Reach} {b0 : Nat} {v : Value} {d : DataW H} {p : List MemPlace} (hv : Value.okWide Tryz.prog w r b0 24 v) (h : DataW.Trod enc Tryz.prog w 0 (fun _ => true) held 24 v d p) :
    ∃ (F : FacD) (a : Option Addr) (n cap : Nat), v = .agg #[.int .i64 F.cols, .slice a n cap, .int .i64 F.rws, .int .i64 F.trn] ∧ Row w (.slice a n cap) F.xs := by
  obtain ⟨v0, v1, v2, v3, y0, y1, y2, y3, n, rfl, _, _, h0, h1, h2, h3⟩ := open_agg4 Tryz.underlying24 (by kernel_rfl) cells24 hv h
  obtain ⟨c, e0, _, _⟩ := DataW.trod_int Tryz.underlying3 h0
  obtain ⟨rw, e2, _, _⟩ := DataW.trod_int Tryz.underlying3 h2
  obtain ⟨tn, e3, _, _⟩ := DataW.trod_int Tryz.underlying3 h3
  simp only [List.cons.injEq, and_true] at e0 e2 e3
  subst e0 e2 e3
  obtain ⟨xs, hr⟩ := open_floats h1
  obtain ⟨a, nn, cap, rfl⟩ := hr.form
  exact ⟨⟨c, xs, rw, tn⟩, a, nn, cap, rfl, hr⟩
theorem open_rowD {r : Reach} {b0 : Nat} {v : Value} {d : DataW H} {p : List MemPlace} (hv : Value.okWide Tryz.prog w r b0 27 v) (h : DataW.Trod enc Tryz.prog w 0 (fun _ => true) held 27 v d p) :
    ∃ (ls : List (Option Nat)) (Y : Option Nat) (b : Option Addr) (m d y : Nat), v = .agg #[.slice b m d, .float .f64 y] ∧ Row w (.slice b m d) ls ∧ FW y Y := by
  obtain ⟨v0, v1, y0, y1, n, rfl, _, _, h0, h1⟩ := open_agg2 Tryz.underlying27 (by kernel_rfl) cells45 hv h
  obtain ⟨y, e1, hw⟩ := trod_float h1
  simp only [List.cons.injEq, and_true] at e1
  subst e1
  obtain ⟨xs, hr⟩ := open_floats h0
  obtain ⟨a, nn, cap, rfl⟩ := hr.form
  exact ⟨xs, _, a, nn, cap, y, rfl, hr, fw_any hw⟩
theorem open_float {r : Reach} {b0 : Nat} {v : Value} {d : DataW H} {p : List MemPlace} (hv : Value.okWide Tryz.prog w r b0 25 v) (h : DataW.Trod enc Tryz.prog w 0 (fun _ => true) held 25 v d p) : ∃ (y : Nat) (Y : Option Nat), v = .float .f64 y ∧ FW y Y := by
  obtain ⟨fuel, hf⟩ := h
  obtain ⟨b, hb, hw⟩ := trod_float hf
  have e : v = .float .f64 b := by
    simp only [Value.okWide, Tryz.underlying25, Cell.okWide] at hv
    cases v <;> simp_all [Value.cells, Cell.ok]
  exact ⟨b, _, e, fw_any hw⟩
theorem open_line {r : Reach} {b0 : Nat} {v : Value} {d : DataW H} {p : List MemPlace} (hv : Value.okWide Tryz.prog w r b0 22 v) (h : DataW.Trod enc Tryz.prog w 0 (fun _ => true) held 22 v d p) :
    ∃ (ls : List (Option Nat)) (b : Option Addr) (m d : Nat), v = .slice b m d ∧ Row w (.slice b m d) ls := by
  obtain ⟨a, n, cap, rfl⟩ := okWide_slice Tryz.underlying22 hv
  obtain ⟨fuel, hf⟩ := h
  obtain ⟨xs, hr⟩ := open_floats hf
  exact ⟨xs, a, n, cap, rfl, hr⟩
end
end Go.Proofs.YtmmligbkecilfaaGreatDoor
