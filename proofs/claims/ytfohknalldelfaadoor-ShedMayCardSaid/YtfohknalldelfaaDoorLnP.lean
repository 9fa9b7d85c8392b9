/- ShedMay holds of every input: the given statement Rows.ShedMaySaid. -/
import Derived.Test.YtfohknalldelfaaDoorLn
import Derived.Test.YtfohknalldelfaaDoorPa
import Derived.Test.YtfohknalldelfaaDoorTf
import Derived.Test.YtfohknalldelfaaDoorTie
import Derived.Test.YtfohknalldelfaaDoorCards
import Derived.ChangeVars
import Derived.JoinedOf
import Derived.RowKitTokens
import Derived.Stop.Joined
import Derived.SevenTiedAt
namespace Go.Proofs.YtfohknalldelfaaDoor
open Go.ChangeShapes Go.WideShapes Go.ChangeAt Go.RowKit Lv

set_option maxRecDepth 100000 in
theorem shedMay_lifted (os : Os) (started : os.Started) (H : Type) (enc : TypeId × Value → H) :
    ReturnsInHanded {} Tryd.checked os 6 .any (fun w args => (Rows.shedMaySpec.pre enc Tryd.prog Tryd.f6 Rows.shedMayRow.domain false w args ∧ laidMet Tryd.prog laid3 w) ∧ sizedMet enc Tryd.prog Tryd.f6 (OpenSpec.ofChange Rows.shedMaySpec) false w args)
      (Rows.shedMaySpec.post enc Tryd.prog Tryd.f6 false true false false) := by
  refine returnsInHanded_of_change_and (C := Tryd.checked) (X := fun w _ => laidMet Tryd.prog laid3 w) (fun _ _ _ hh h => h.of_heap hh) own started (by kernel_rfl) Tryd.func6
    (ChangeSpec.witness_at (enc := enc) (C := Tryd.checked) (os := os) (X := fun w _ => laidMet Tryd.prog laid3 w) false (laidWorld os) #[.agg #[.int .i64 0, .slice none 0 0, .int .i64 0, .int .i64 0], .agg #[.slice none 0 0, .float .f64 0]] 12 rfl (by kernel_rfl) (by kernel_rfl) (by kernel_rfl) (by kernel_rfl) (by kernel_rfl) (laidWorld_met os _)) ?_
  intro W base args ds gs before hval0 hW _ _ hL _
  obtain ⟨la0, la1, la2, LD⟩ := laid_of_met hL
  have hval : ∀ (j : Nat) t v, Tryd.f6.params[j]? = some t → args[j]? = some v → Value.okWide Tryd.prog W .any base t v := hval0
  have hW' := hW
  obtain ⟨p, q, hA0, hV, rfl, hfz, hnd⟩ := hW
  have hA : DataW.TrodAll enc Tryd.prog W 0 (fun _ => true) true Tryd.f6.params.toList args.toList ds p := hA0
  rw [Tryd.params6] at hA hval
  obtain ⟨v0, vs0, d0, ds0, p0, q0, hargs, rfl, rfl, h0, r0⟩ := trodAll_cons hA
  obtain ⟨v1, vs1, d1, ds1, p1, q1, rfl, rfl, rfl, h1, r1⟩ := trodAll_cons r0
  obtain ⟨rfl, rfl, rfl⟩ := trodAll_nil r1
  obtain rfl : args = #[v0, v1] := by cases args; simp_all
  obtain ⟨rfl, rfl⟩ := trodVars_none hV
  have k0 := h0
  have lt0 : ∀ x ∈ p0, x.block < W.heap.size := by obtain ⟨m, hm⟩ := k0; exact DataW.trod_lt m _ _ _ hm
  obtain ⟨F0, a0, n0, c0, rfl, w0⟩ := open_factor (hval 0 24 v0 rfl rfl) h0
  have k1 := h1
  have lt1 : ∀ x ∈ p1, x.block < W.heap.size := by obtain ⟨m, hm⟩ := k1; exact DataW.trod_lt m _ _ _ hm
  obtain ⟨l1, Y1, a1, n1, c1, y1, rfl, w1, u1⟩ := open_rowD (hval 1 33 v1 rfl rfl) h1
  clear hA0 hval0
  refine (shedMay_walk W la0 la1 la2 LD F0 a0 n0 c0 w0 l1 Y1 a1 n1 c1 y1 w1 u1).mono fun e W' ⟨he, bel⟩ => ?_
  subst he
  exact ⟨_, rfl, _, _, _, [], _, [], hW', trodAll_mk1 (shut_bool Tryd.underlying4 _), (trodAll_cons_mk (Below.trod laidOut (by kernel_rfl) (of_decide_eq_true (by kernel_rfl)) k0 bel lt0) (trodAll_cons_mk (Below.trod laidOut (by kernel_rfl) (of_decide_eq_true (by kernel_rfl)) k1 bel lt1) trodAll_mk0)), rfl, bel.frame _, fun h => by cases h⟩

theorem shedMay_holds : Rows.ShedMaySaid :=
  OpenClaim.holds_of_wide 6 Tryd.f6 rfl rfl rfl rfl rfl rfl rfl ⟨rfl, rfl, rfl, rfl, rfl⟩ rfl rfl rfl rfl rfl (by kernel_rfl) Tryd.func6 (by kernel_rfl)
    (of_decide_eq_true (by kernel_rfl)) (by unfold Func.isWrapper; first | (rw [if_pos (by decide +kernel)]; kernel_rfl) | (rw [if_neg (by decide +kernel)]; exact ⟨rfl, rfl⟩))
    (fun os started H enc _ => shedMay_lifted os started H enc)

set_option maxRecDepth 100000 in
theorem shedMay_card : Rows.ShedMayCardSaid :=
  Claim7.holds_tied_plain_at .later [] [.sentinel, .sentinel, .sentinel] true (true, Rows.shedMayCard.stood.harness.2) true
    shedMay_holds (fun _ h => by cases h) (by kernel_rfl) (fun _ h => by cases h) shedMay_row_tie rfl ⟨rfl, rfl⟩ (by kernel_rfl) rfl
    (fun f fn hf hfn => by
      obtain rfl : f = 6 := Option.some.inj ((show Tryd.prog.funcNamed Rows.shedMayRow.func = some 6 by kernel_rfl).symm.trans hf) |>.symm
      obtain rfl : fn = Tryd.f6 := (Option.some.inj (Tryd.func6.symm.trans hfn)).symm
      exact ⟨by kernel_rfl, fun j t ht => by
        rw [Tryd.params6] at ht
        rcases j with _ | j
        · obtain rfl : t = 24 := by simpa using ht.symm
          exact (show Tryd.prog.wantsStandIn 24 = false by kernel_rfl)
        rcases j with _ | j
        · obtain rfl : t = 33 := by simpa using ht.symm
          exact (show Tryd.prog.wantsStandIn 33 = false by kernel_rfl)
        simp at ht⟩)
    (by kernel_rfl)
#print axioms shedMay_card
#print axioms shedMay_holds
end Go.Proofs.YtfohknalldelfaaDoor
