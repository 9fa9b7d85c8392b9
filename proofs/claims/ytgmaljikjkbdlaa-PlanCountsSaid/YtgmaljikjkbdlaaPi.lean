/- Lists of ints that come in, opened; two of them. -/
import Derived.Test.YtgmaljikjkbdlaaPb
import Derived.Test.YtgmaljikjkbdlaaYd
namespace Go.Proofs.Ytgmaljikjkbdlaa
open Go.ChangeShapes Go.WideShapes Go.RowKit Go.Joins Go.Deep Lv
set_option maxRecDepth 100000

section
variable {H : Type} {enc : TypeId × Value → H} {w : World} {held : Bool} {fuel : Nat}
theorem cellsI : Try.prog.cellsOf 3 = 1 := by kernel_rfl
theorem cellsLI : Try.prog.cellsOf 22 = 1 := by kernel_rfl
theorem cellsA2 : Try.prog.cellsOf 32 = 2 := by kernel_rfl
theorem open_intsF {v : Value} {x : DataW H × List MemPlace} (hf : DataW.trod enc Try.prog w 0 (fun _ => true) held fuel 22 [v] = some x) : ∃ (zs : List Int) (a : Option Addr) (n cap : Nat), v = .slice a n cap ∧ LI w (.slice a n cap) zs := by
  rcases open_slice1 Try.underlying22 cellsI hf with ⟨hcs, _⟩ | ⟨a, len, cap, m, n, V, D, Pl, hcs, _, hl, hm, hmm, _, hx⟩
  · simp only [List.cons.injEq, and_true] at hcs
    subst hcs
    exact ⟨[], none, 0, 0, rfl, li_nil w⟩
  · simp only [List.cons.injEq, and_true] at hcs
    subst hcs
    rw [if_pos rfl] at hmm
    have hint : ∀ i, i < len → ∃ z, V i = .int .i64 z := fun i hi => by
      obtain ⟨z, hz, _, _⟩ := DataW.trod_int Try.underlying3 (hx i (by omega)).2
      simp only [List.cons.injEq, and_true] at hz
      exact ⟨z, hz⟩
    refine ⟨(List.range len).map fun i => match V i with | .int _ z => z | _ => 0, some a, len, cap, rfl, some a, cap, by simp, by simpa using hl, hm, ?_⟩
    by_cases h0 : len = 0
    · exact .inl (by simp [h0])
    · obtain ⟨blk, off, spot⟩ := a
      have hc := (hx 0 (by omega)).1
      have hs : spot = none := by have := World.cell?_spot hc; simpa [Addr.add] using this
      subst hs
      refine .inr ⟨blk, off, rfl, fun i hi => ?_⟩
      have hi' : i < len := by simpa using hi
      obtain ⟨z, hz⟩ := hint i hi'
      have hci := (hx i (by omega)).1
      have e : (⟨blk, off, none⟩ : Addr).add i = ⟨blk, off + i, none⟩ := by
        unfold Addr.add
        split
        · simp
        · rfl
      rw [e] at hci
      rw [hci, hz, List.getElem?_map, List.getElem?_map, List.getElem?_range hi']
      simp [hz]
theorem open_ints {r : Reach} {b0 : Nat} {v : Value} {d : DataW H} {p : List MemPlace} (hv : Value.okWide Try.prog w r b0 22 v) (h : DataW.Trod enc Try.prog w 0 (fun _ => true) held 22 v d p) :
    ∃ (zs : List Int) (a : Option Addr) (n cap : Nat), v = .slice a n cap ∧ LI w (.slice a n cap) zs := by
  obtain ⟨a, n, cap, rfl⟩ := okWide_slice Try.underlying22 hv
  obtain ⟨fuel, hf⟩ := h
  exact open_intsF hf
theorem open_ints2 {r : Reach} {b0 : Nat} {v : Value} {d : DataW H} {p : List MemPlace} (hv : Value.okWide Try.prog w r b0 32 v) (h : DataW.Trod enc Try.prog w 0 (fun _ => true) held 32 v d p) :
    ∃ (zs ys : List Int) (a : Option Addr) (n cap : Nat) (b : Option Addr) (m c : Nat), v = .agg #[.slice a n cap, .slice b m c] ∧ LI w (.slice a n cap) zs ∧ LI w (.slice b m c) ys := by
  have hu := Try.underlying32
  unfold Value.okWide at hv
  rw [hu] at hv
  obtain ⟨cs, rfl, hsz, _⟩ := hv
  rw [cellsA2] at hsz
  obtain ⟨c0, c1, rfl⟩ : ∃ c0 c1, cs = #[c0, c1] := by
    obtain ⟨l⟩ := cs
    match l, hsz with
    | [c0, c1], _ => exact ⟨c0, c1, rfl⟩
  obtain ⟨fuel, hf⟩ := h
  obtain ⟨xs, m, _, ex, hlen, hl, hel⟩ := DataW.trod_array hu hf
  match xs, hl with
  | [y0, y1], _ =>
    have h0 := hel 0 (by omega)
    have h1 := hel 1 (by omega)
    have h0' : DataW.trod enc Try.prog w 0 (fun _ => true) held m 22 [c0] = some y0 := by simpa [cellsLI, Value.cells] using h0
    have h1' : DataW.trod enc Try.prog w 0 (fun _ => true) held m 22 [c1] = some y1 := by simpa [cellsLI, Value.cells] using h1
    obtain ⟨zs, a, n, cap, rfl, hz⟩ := open_intsF h0'
    obtain ⟨ys, b, mm, c, rfl, hy⟩ := open_intsF h1'
    exact ⟨zs, ys, a, n, cap, b, mm, c, rfl, hz, hy⟩
end
end Go.Proofs.Ytgmaljikjkbdlaa
