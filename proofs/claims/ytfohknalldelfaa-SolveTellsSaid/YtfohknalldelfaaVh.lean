/- A region that draws its order, in a round of a range over a function: by what is so behind any set of its operations. -/
import Derived.Test.YtfohknalldelfaaVd
namespace Go.Proofs.Ytfohknalldelfaa
open Go.RowKit Lv Go.Shelf

section
variable {n l : Nat} {P : Program} {ops : Array Oper} {Q : Exit → Act → World → Prop} {md : Region.Mode}
/-- an order that is right at the wide fence is right in a round, where nothing is deferred -/
theorem opsIn_round (hd : ∀ (i : Nat) (o : Oper), ops[i]? = some o → ∀ c, o.op ≠ .defer c) : ∀ (L : List Nat) (a : Act) (w : World), wpOpsIn Fence.wide n P ops Q L a w → wpOpsIn (Fence.wide.inRound l) n P ops Q L a w
  | [], _, _, h => h
  | i :: rest, a, w, h => by
    rw [wpOpsIn_cons] at h ⊢
    have h2 := wpOpIn_mono (fun a w => opsIn_round hd rest a w) h
    unfold wpOpIn at h2 ⊢
    cases hi : ops[i]? with
    | none => rw [hi] at h2; exact h2
    | some o =>
      rw [hi] at h2
      have e := Oper.semAt_some l a.eval o (hd i o hi)
      dsimp only at h2 ⊢
      by_cases hw : Region.wanted o (yielded ops a.tmps) = true
      · rw [if_pos hw] at h2 ⊢
        refine ⟨h2.1, ?_⟩
        have h3 := h2.2
        rw [show Fence.wide.round = none from rfl, Oper.semAt_none] at h3
        rw [Fence.inRound_round, e]
        exact h3
      · rw [if_neg hw] at h2 ⊢
        exact h2
/-- an operation without a guard is carried out -/
theorem opIn_do {F : Fence} {i : Nat} {o : Oper} {K : Act → World → Prop} {a : Act} {w : World} (ho : ops[i]? = some o) (hw : Region.wanted o (yielded ops a.tmps) = true) (h : o.wpIn F n P a w K Q) : wpOpIn F n P ops Q i K a w := by
  unfold wpOpIn
  rw [ho]
  dsimp only
  rw [if_pos hw]
  exact h
/-- THE LAW: a state for each set of operations -/
theorem anyIn_state (St : Array Bool → Act → World → Prop) (hsz : ∀ L a w, St L a w → L.size = ops.size)
    (hstep : ∀ L a w, St L a w → ∀ i, L.getD i true = false → i < ops.size → (∀ o, ops[i]? = some o → ∀ e ∈ o.after, Region.binds md e = true → L.getD e.on false = true) → wpOpIn Fence.wide n P ops Q i (St (L.setIfInBounds i true)) a w)
    (hend : ∀ L a w, St L a w → Region.ready md ops L = [] → Q .normal a w) : ∀ (fuel : Nat) (L : Array Bool) (a : Act) (w : World), St L a w → L.toList.count false ≤ fuel → wpAnyIn Fence.wide n P md ops Q fuel L a w
  | 0, L, a, w, h, hf => by
    have hr : Region.ready md ops L = [] := by
      rw [List.eq_nil_iff_forall_not_mem]
      intro i hi
      obtain ⟨h1, o, h2, _⟩ := mem_ready.1 hi
      have hlt : i < L.size := by rw [hsz L a w h]; exact (Array.getElem?_eq_some_iff.1 h2).1
      have : false ∈ L.toList := by
        rw [Array.mem_toList_iff]
        have e : L[i] = false := by simpa [Array.getD, hlt] using h1
        rw [← e]; exact Array.getElem_mem hlt
      have := List.count_pos_iff.2 this
      omega
    exact ⟨hr, hend L a w h hr⟩
  | fuel + 1, L, a, w, h, hf => by
    refine ⟨fun hr => hend L a w h hr, fun i hi => ?_⟩
    obtain ⟨h1, o, h2, h3⟩ := mem_ready.1 hi
    have hlo := (Array.getElem?_eq_some_iff.1 h2).1
    have hlt : i < L.size := by rw [hsz L a w h]; exact hlo
    refine wpOpIn_mono (fun a' w' hs => anyIn_state St hsz hstep hend fuel _ a' w' hs ?_) (hstep L a w h i h1 hlo (fun o' ho' => by rw [h2] at ho'; obtain rfl := Option.some.inj ho'; exact h3))
    have e : L[i] = false := by simpa [Array.getD, hlt] using h1
    have e2 : (L.setIfInBounds i true).toList = L.toList.set i true := Array.toList_setIfInBounds
    have e3 : L.toList[i]'(by simpa using hlt) = false := by simpa using e
    rw [e2, List.count_set (by simpa using hlt), e3]
    show L.toList.count false - 1 + 0 ≤ fuel
    omega
theorem all_listed {L : Array Bool} (hsz : L.size = ops.size) (hback : ((List.range ops.size).all fun j => ((ops[j]?).map (fun o => o.after.all fun e => decide (e.on < j))).getD false) = true) (hr : Region.ready md ops L = []) (j : Nat) (hj : j < ops.size) : L.getD j true = true := by
  induction j using Nat.strongRecOn with
  | ind j ih =>
    cases h : L.getD j true with
    | true => rfl
    | false =>
      exfalso
      have hb := List.all_eq_true.1 hback j (List.mem_range.2 hj)
      rw [Array.getElem?_eq_getElem hj] at hb
      simp only [Option.map_some, Option.getD_some, Array.all_eq_true'] at hb
      have hm : j ∈ Region.ready md ops L := by
        refine mem_ready.2 ⟨h, _, Array.getElem?_eq_getElem hj, fun e he _ => ?_⟩
        have hlt : e.on < j := of_decide_eq_true (hb e he)
        have := ih e.on hlt (by omega)
        rw [Array.getD_eq_getD_getElem?, Array.getElem?_eq_getElem (by omega)] at this ⊢
        exact this
      rw [hr] at hm
      cases hm
/-- a region that draws its order, in a round -/
theorem region_state (id : Nat) (hm : P.follows .mixedOrders = true) (hd : ∀ (i : Nat) (o : Oper), ops[i]? = some o → ∀ c, o.op ≠ .defer c) (St : Array Bool → Act → World → Prop) (hsz : ∀ L a w, St L a w → L.size = ops.size)
    (hstep : ∀ L a w, St L a w → ∀ i, L.getD i true = false → i < ops.size → (∀ o, ops[i]? = some o → ∀ e ∈ o.after, Region.binds .any e = true → L.getD e.on false = true) → wpOpIn Fence.wide n P ops Q i (St (L.setIfInBounds i true)) a w)
    (hend : ∀ L a w, St L a w → Region.ready .any ops L = [] → Q .normal a w) {a : Act} {w : World} (h0 : St (Array.replicate ops.size false) a w.drew) : (Code.region id ops true).wpIn (Fence.wide.inRound l) n P Q a w :=
  wpIn_region_draw fun t => by
    simp only [Region.schedule, hm, Bool.true_or, if_true]
    exact opsIn_round hd _ _ _ (wpAnyIn_sound ops.size t _ a _ (anyIn_state St hsz hstep hend ops.size _ a _ h0 (by simp)))
end
end Go.Proofs.Ytfohknalldelfaa
