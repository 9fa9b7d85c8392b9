/- ShedOne holds of every input: the given statement Rows.ShedOneSaid. -/
import Derived.Test.YtfohknalldelfaaDoorLp
import Derived.Test.YtfohknalldelfaaDoorPa
import Derived.Test.YtfohknalldelfaaDoorTf
import Derived.Test.YtfohknalldelfaaDoorTie
import Derived.Test.YtfohknalldelfaaDoorCards
import Derived.ChangeVars
import Derived.JoinedOf
import Derived.RowKitTokens
import Derived.Stop.Joined
import Derived.SevenTiedAt
import Derived.SizedLaws
namespace Go.Proofs.YtfohknalldelfaaDoor
open Go.ChangeShapes Go.WideShapes Go.ChangeAt Go.RowKit Lv

open Go.Deep Go.Joins in
set_option maxRecDepth 100000 in
/-- a row's floats are within the reach -/
theorem row_reach {H : Type} {enc : TypeId × Value → H} {w : World} {held : Bool} {r : Reach} {b0 : Nat} {dat : DataW H} {p : List MemPlace} {b : Option Addr} {m d y : Nat}
    (hv : Value.okWide Tryd.prog w r b0 33 (.agg #[.slice b m d, .float .f64 y])) (h : DataW.Trod enc Tryd.prog w 0 (fun _ => true) held 33 (.agg #[.slice b m d, .float .f64 y]) dat p)
    (hsz : (DataW.weightsEach Tryd.prog [33] [dat]).all (· ≤ reachBytes) = true) : m * 8 ≤ 140737488351232 := by
  obtain ⟨v0, v1, y0, y1, n, hv2, rfl, _, h0, _⟩ := open_agg2 Tryd.underlying33 (by kernel_rfl) cells45 hv h
  obtain ⟨rfl, rfl⟩ : Value.slice b m d = v0 ∧ Value.float .f64 y = v1 := by simpa using hv2
  have h2 : DataW.weightsEach Tryd.prog [33] [.agg [y0.1, y1.1]] = DataW.weightsEach Tryd.prog [22, 31] [y0.1, y1.1] := by
    have hu := Tryd.underlying33
    simp only [DataW.weightsEach, DataW.weights, hu, List.append_nil, List.map_cons, List.map_nil]
  rw [h2] at hsz
  rcases open_slice1 Tryd.underlying22 cells37 h0 with ⟨hcs, _⟩ | ⟨a, len, cap, m', n', V, D, Pl, hcs, _, hl, hm, hmm, hx, _⟩
  · simp only [List.cons.injEq, and_true, Value.slice.injEq] at hcs
    omega
  · simp only [List.cons.injEq, and_true, Value.slice.injEq] at hcs
    subst hx
    have hb : Tryd.prog.bytesOf 31 = 8 := by kernel_rfl
    have := sized_slice hsz (j := 0) rfl rfl Tryd.underlying22
    rw [hb] at this
    simp only [List.length_map, List.length_range, reachBytes] at this
    omega

set_option maxRecDepth 100000 in
theorem shedOne_lifted (os : Os) (started : os.Started) (H : Type) (enc : TypeId × Value → H) :
    ReturnsInHanded {} Tryd.checked os 8 .any (fun w args => (Rows.shedOneSpec.pre enc Tryd.prog Tryd.f8 Rows.shedOneRow.domain false w args ∧ laidMet Tryd.prog laid3 w) ∧ sizedMet enc Tryd.prog Tryd.f8 (OpenSpec.ofChange Rows.shedOneSpec) false w args)
      (Rows.shedOneSpec.post enc Tryd.prog Tryd.f8 false true false false) := by
  refine returnsInHanded_of_change_and (C := Tryd.checked) (X := fun w _ => laidMet Tryd.prog laid3 w) (fun _ _ _ hh h => h.of_heap hh) own started (by kernel_rfl) Tryd.func8
    (ChangeSpec.witness_at (enc := enc) (C := Tryd.checked) (os := os) (X := fun w _ => laidMet Tryd.prog laid3 w) false (laidWorld os) #[.agg #[.slice none 0 0, .float .f64 0]] 12 rfl (by kernel_rfl) (by kernel_rfl) (by kernel_rfl) (by kernel_rfl) (by kernel_rfl) (laidWorld_met os _)) ?_
  intro W base args ds gs before hval0 hW _ hsz0 hL _
  obtain ⟨la0, la1, la2, LD⟩ := laid_of_met hL
  have hval : ∀ (j : Nat) t v, Tryd.f8.params[j]? = some t → args[j]? = some v → Value.okWide Tryd.prog W .any base t v := hval0
  have hW' := hW
  obtain ⟨p, q, hA0, hV, rfl, hfz, hnd⟩ := hW
  have hA : DataW.TrodAll enc Tryd.prog W 0 (fun _ => true) true Tryd.f8.params.toList args.toList ds p := hA0
  rw [Tryd.params8] at hA hval
  have hsz : (DataW.weightsEach Tryd.prog (Tryd.f8.params.toList ++ Rows.shedOneSpec.plain.varTypes Tryd.prog) (ds ++ gs)).all (· ≤ reachBytes) = true := hsz0
  rw [Tryd.params8] at hsz
  obtain ⟨v0, vs0, d0, ds0, p0, q0, hargs, rfl, rfl, h0, r0⟩ := trodAll_cons hA
  obtain ⟨rfl, rfl, rfl⟩ := trodAll_nil r0
  obtain rfl : args = #[v0] := by cases args; simp_all
  obtain ⟨rfl, rfl⟩ := trodVars_none hV
  have k0 := h0
  have lt0 : ∀ x ∈ p0, x.block < W.heap.size := by obtain ⟨m, hm⟩ := k0; exact DataW.trod_lt m _ _ _ hm
  obtain ⟨l0, Y0, a0, n0, c0, y0, rfl, w0, u0⟩ := open_rowD (hval 0 33 v0 rfl rfl) h0
  clear hA0 hval0
  refine (shedOne_walk W la0 la1 la2 LD l0 Y0 a0 n0 c0 y0 w0 u0 (row_reach (hval 0 33 _ rfl rfl) k0 hsz)).mono fun e W' ⟨he, bel⟩ => ?_
  subst he
  exact ⟨_, rfl, _, _, _, [], _, [], hW', trodAll_mk1 (shut_bool Tryd.underlying4 _), (trodAll_cons_mk (Below.trod laidOut (by kernel_rfl) (of_decide_eq_true (by kernel_rfl)) k0 bel lt0) trodAll_mk0), rfl, bel.frame _, fun h => by cases h⟩

theorem shedOne_holds : Rows.ShedOneSaid :=
  OpenClaim.holds_of_wide 8 Tryd.f8 rfl rfl rfl rfl rfl rfl rfl ⟨rfl, rfl, rfl, rfl, rfl⟩ rfl rfl rfl rfl rfl (by kernel_rfl) Tryd.func8 (by kernel_rfl)
    (of_decide_eq_true (by kernel_rfl)) (by unfold Func.isWrapper; first | (rw [if_pos (by decide +kernel)]; kernel_rfl) | (rw [if_neg (by decide +kernel)]; exact ⟨rfl, rfl⟩))
    (fun os started H enc _ => shedOne_lifted os started H enc)

set_option maxRecDepth 100000 in
theorem shedOne_card : Rows.ShedOneCardSaid :=
  Claim7.holds_tied_plain_at .later [] [.sentinel, .sentinel, .sentinel] true (true, Rows.shedOneCard.stood.harness.2) true
    shedOne_holds (fun _ h => by cases h) (by kernel_rfl) (fun _ h => by cases h) shedOne_row_tie rfl ⟨rfl, rfl⟩ (by kernel_rfl) rfl
    (fun f fn hf hfn => by
      obtain rfl : f = 8 := Option.some.inj ((show Tryd.prog.funcNamed Rows.shedOneRow.func = some 8 by kernel_rfl).symm.trans hf) |>.symm
      obtain rfl : fn = Tryd.f8 := (Option.some.inj (Tryd.func8.symm.trans hfn)).symm
      exact ⟨by kernel_rfl, fun j t ht => by
        rw [Tryd.params8] at ht
        rcases j with _ | j
        · obtain rfl : t = 33 := by simpa using ht.symm
          exact (show Tryd.prog.wantsStandIn 33 = false by kernel_rfl)
        simp at ht⟩)
    (by kernel_rfl)
#print axioms shedOne_card
#print axioms shedOne_holds
end Go.Proofs.YtfohknalldelfaaDoor
