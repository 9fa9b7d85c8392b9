/- Natural numbers as lists of digits of base 2 to the power of 32; how many binary digits a number has. Natural numbers in memory: their digits; the reference's at and Trim. The reference's Trim, From, Len and Cmp of layer 2. The reference's From, Len and Cmp of layer 2. The reference's Add and Sub of layer 2. -/
import Derived.Test.YtmmligbkecilfaaGreatDoorFloat
import Derived.Test.YtmmligbkecilfaaGreatDoorYc
import Derived.Laws.AppendOwnNone
import Derived.BigQuiet
namespace Go.Proofs.YtmmligbkecilfaaGreatDoor.Lv

/-- what digits are worth, the lowest first -/
def wval : List Nat → Nat
  | [] => 0
  | d :: t => d + 4294967296 * wval t
/-- each digit is one -/
def Dig (L : List Nat) : Prop := ∀ d ∈ L, d < 4294967296
/-- no 0 at the end -/
def Trm (L : List Nat) : Prop := L.getLast? ≠ some 0
theorem b32 : (4294967296 : Nat) = 2 ^ 32 := by decide
theorem wval_append : ∀ a b : List Nat, wval (a ++ b) = wval a + 2 ^ (32 * a.length) * wval b
  | [], b => by simp [wval]
  | d :: t, b => by
    show d + 4294967296 * wval (t ++ b) = d + 4294967296 * wval t + _
    rw [wval_append t b, Nat.mul_add, List.length_cons, show 32 * (t.length + 1) = 32 + 32 * t.length by omega, Nat.pow_add, ← b32, Nat.mul_assoc, Nat.add_assoc]
theorem wval_lt : ∀ {L : List Nat}, Dig L → wval L < 2 ^ (32 * L.length)
  | [], _ => by simp [wval]
  | d :: t, h => by
    have h1 := h d List.mem_cons_self
    have h2 := wval_lt (L := t) (fun x hx => h x (List.mem_cons_of_mem _ hx))
    show d + 4294967296 * wval t < _
    rw [List.length_cons, show 32 * (t.length + 1) = 32 + 32 * t.length by omega, Nat.pow_add, ← b32]
    generalize 2 ^ (32 * t.length) = P at *
    generalize wval t = v at *
    have : 4294967296 * v + 4294967296 ≤ 4294967296 * P := by
      have := Nat.mul_le_mul_left 4294967296 (show v + 1 ≤ P from h2)
      omega
    omega
theorem wval_snoc (L : List Nat) (d : Nat) : wval (L ++ [d]) = wval L + 2 ^ (32 * L.length) * d := by rw [wval_append]; simp [wval]
theorem Dig.append {a b : List Nat} (ha : Dig a) (hb : Dig b) : Dig (a ++ b) := fun d hd => (List.mem_append.1 hd).elim (ha d) (hb d)
theorem Dig.take {L : List Nat} (h : Dig L) (k : Nat) : Dig (L.take k) := fun d hd => h d (List.mem_of_mem_take hd)
theorem Dig.drop {L : List Nat} (h : Dig L) (k : Nat) : Dig (L.drop k) := fun d hd => h d (List.mem_of_mem_drop hd)
theorem Dig.one {d : Nat} (h : d < 4294967296) : Dig [d] := fun x hx => by rw [List.mem_singleton.1 hx]; exact h
theorem dig_nil : Dig [] := fun _ h => nomatch h
theorem Dig.at {L : List Nat} (h : Dig L) (i : Nat) : L.getD i 0 < 4294967296 := by
  rw [List.getD_eq_getElem?_getD]
  by_cases hi : i < L.length
  · rw [List.getElem?_eq_getElem hi]; exact h _ (List.getElem_mem hi)
  · rw [List.getElem?_eq_none (by omega)]; decide
theorem take_snocN {l : List Nat} {i : Nat} (hi : i < l.length) : l.take (i + 1) = l.take i ++ [l.getD i 0] := by
  rw [List.take_succ_eq_append_getElem hi, List.getD_eq_getElem?_getD, List.getElem?_eq_getElem hi]; rfl
/-- a trimmed list's least -/
theorem trm_ge {L : List Nat} (ht : Trm L) (h0 : L ≠ []) : 2 ^ (32 * (L.length - 1)) ≤ wval L := by
  obtain ⟨t, d, rfl⟩ : ∃ t d, L = t ++ [d] := ⟨L.dropLast, L.getLast h0, (List.dropLast_concat_getLast h0).symm⟩
  have hd : d ≠ 0 := by
    intro e
    subst e
    exact ht (by simp)
  rw [wval_snoc, List.length_append, List.length_singleton, Nat.add_sub_cancel]
  have : 2 ^ (32 * t.length) * 1 ≤ 2 ^ (32 * t.length) * d := Nat.mul_le_mul_left _ (by omega)
  omega
theorem trm_zero {L : List Nat} (ht : Trm L) (h : wval L = 0) : L = [] := by
  by_cases h0 : L = []
  · exact h0
  · have := trm_ge ht h0
    have := Nat.two_pow_pos (32 * (L.length - 1))
    omega
/-- how many binary digits a number has -/
def sz (n : Nat) : Nat := if n = 0 then 0 else n.log2 + 1
theorem sz_zero : sz 0 = 0 := rfl
theorem sz_lt (n : Nat) : n < 2 ^ sz n := by
  unfold sz
  by_cases h : n = 0
  · subst h; decide
  · rw [if_neg h]; exact Nat.lt_log2_self
theorem sz_ge {n : Nat} (h : n ≠ 0) : 2 ^ (sz n - 1) ≤ n := by
  unfold sz
  rw [if_neg h]
  exact Nat.log2_self_le h
theorem sz_le {n b : Nat} (h : n < 2 ^ b) : sz n ≤ b := by
  by_cases h0 : n = 0
  · subst h0; exact Nat.zero_le _
  · have h1 := sz_ge h0
    have h2 : 2 ^ (sz n - 1) < 2 ^ b := Nat.lt_of_le_of_lt h1 h
    have := (Nat.pow_lt_pow_iff_right (by decide : 1 < 2)).1 h2
    omega
theorem sz_mono {m n : Nat} (h : m ≤ n) : sz m ≤ sz n := sz_le (Nat.lt_of_le_of_lt h (sz_lt n))
theorem sz_add (m n : Nat) : sz (m + n) ≤ max (sz m) (sz n) + 1 := by
  refine sz_le ?_
  have h1 : 2 ^ sz m ≤ 2 ^ max (sz m) (sz n) := Nat.pow_le_pow_right (by decide) (by omega)
  have h2 : 2 ^ sz n ≤ 2 ^ max (sz m) (sz n) := Nat.pow_le_pow_right (by decide) (by omega)
  have := sz_lt m
  have := sz_lt n
  rw [Nat.pow_succ]
  omega
theorem sz_mul (m n : Nat) : sz (m * n) ≤ sz m + sz n := by
  refine sz_le ?_
  rw [Nat.pow_add]
  exact Nat.mul_lt_mul'' (sz_lt m) (sz_lt n)
theorem sz_shl (m k : Nat) : sz (m * 2 ^ k) ≤ sz m + k := by
  refine sz_le ?_
  rw [Nat.pow_add]
  exact Nat.mul_lt_mul_of_pos_right (sz_lt m) (Nat.two_pow_pos k)
/-- a trimmed list's length -/
theorem trm_len {L : List Nat} (hd : Dig L) (ht : Trm L) : L.length = (sz (wval L) + 31) / 32 := by
  by_cases h0 : L = []
  · subst h0; rfl
  · have h1 := trm_ge ht h0
    have h2 := sz_le (wval_lt hd)
    have hne : wval L ≠ 0 := fun e => h0 (trm_zero ht e)
    have h3 : 2 ^ (32 * (L.length - 1)) < 2 ^ sz (wval L) := Nat.lt_of_le_of_lt h1 (sz_lt _)
    have h4 := (Nat.pow_lt_pow_iff_right (by decide : 1 < 2)).1 h3
    have : L.length ≠ 0 := fun e => h0 (List.length_eq_zero_iff.1 e)
    omega
theorem trm_nil : Trm [] := by simp [Trm]
theorem trm_snoc {t : List Nat} {d : Nat} (h : d ≠ 0) : Trm (t ++ [d]) := by simp [Trm, h]
/-- zeros at the end are worth nothing -/
theorem wval_zero {L : List Nat} (h : ∀ d ∈ L, d = 0) : wval L = 0 := by
  induction L with
  | nil => rfl
  | cons d t ih =>
    show d + 4294967296 * wval t = 0
    rw [h d List.mem_cons_self, ih (fun x hx => h x (List.mem_cons_of_mem _ hx))]
theorem wval_split (L : List Nat) (k : Nat) (hk : k ≤ L.length) : wval L = wval (L.take k) + 2 ^ (32 * k) * wval (L.drop k) := by
  conv => lhs; rw [← List.take_append_drop k L]
  rw [wval_append, List.length_take, Nat.min_eq_left hk]
theorem sz_eq {n k : Nat} (h0 : 2 ^ k ≤ n) (h1 : n < 2 ^ (k + 1)) : sz n = k + 1 := by
  have hp := Nat.two_pow_pos k
  have h2 := sz_le h1
  have h3 : ¬ sz n ≤ k := fun h => by
    have := sz_lt n
    have := Nat.pow_le_pow_right (n := 2) (by decide) h
    omega
  omega
theorem sz_pos {n : Nat} (h : n ≠ 0) : 0 < sz n := by unfold sz; rw [if_neg h]; omega
theorem sz_half {n : Nat} (h : n ≠ 0) : sz n = sz (n / 2) + 1 := by
  by_cases h1 : n = 1
  · subst h1; rfl
  · have h2 : n / 2 ≠ 0 := by omega
    have a := sz_ge h2
    have b := sz_lt (n / 2)
    have hp := sz_pos h2
    obtain ⟨k, hk⟩ : ∃ k, sz (n / 2) = k + 1 := ⟨sz (n / 2) - 1, by omega⟩
    rw [hk] at a b ⊢
    rw [Nat.add_sub_cancel] at a
    refine sz_eq ?_ ?_
    · rw [Nat.pow_succ]; omega
    · rw [Nat.pow_succ]; omega
/-- how many digits a trimmed list's number has -/
theorem sz_top {t : List Nat} {d : Nat} (ht : Dig t) (hd : d ≠ 0) : sz (wval (t ++ [d])) = 32 * t.length + sz d := by
  have h1 := wval_lt ht
  have h2 := sz_ge hd
  have h3 := sz_lt d
  have hp := sz_pos hd
  obtain ⟨k, hk⟩ : ∃ k, sz d = k + 1 := ⟨sz d - 1, by omega⟩
  rw [hk] at h2 h3 ⊢
  rw [Nat.add_sub_cancel] at h2
  rw [wval_snoc, ← Nat.add_assoc]
  refine sz_eq ?_ ?_
  · rw [Nat.pow_add]
    have := Nat.mul_le_mul_left (2 ^ (32 * t.length)) h2
    omega
  · rw [show 32 * t.length + k + 1 = 32 * t.length + (k + 1) by omega, Nat.pow_add]
    have := Nat.mul_le_mul_left (2 ^ (32 * t.length)) (show d + 1 ≤ 2 ^ (k + 1) from h3)
    rw [Nat.mul_add, Nat.mul_one] at this
    omega
/-- how two numbers compare -/
def cmpI (a b : Nat) : Int := if a < b then -1 else if a = b then 0 else 1
theorem cmpI_lt {a b : Nat} (h : a < b) : cmpI a b = -1 := if_pos h
theorem cmpI_gt {a b : Nat} (h : b < a) : cmpI a b = 1 := by unfold cmpI; rw [if_neg (by omega), if_neg (by omega)]
theorem cmpI_eq {a b : Nat} (h : a = b) : cmpI a b = 0 := by unfold cmpI; rw [if_neg (by omega), if_pos h]
/-- a shorter trimmed list is worth less -/
theorem wval_short {X Y : List Nat} (hX : Dig X) (hY : Trm Y) (h : X.length < Y.length) : wval X < wval Y := by
  have h1 := wval_lt hX
  have h2 := trm_ge hY (fun e => by subst e; simp at h)
  have h3 := Nat.pow_le_pow_right (n := 2) (by decide) (show 32 * X.length ≤ 32 * (Y.length - 1) by omega)
  omega
theorem wval_cmp {X Y : List Nat} {i : Nat} (hX : Dig X) (hi : i < X.length) (hi2 : i < Y.length) (he : X.drop (i + 1) = Y.drop (i + 1)) (h : X.getD i 0 < Y.getD i 0) : wval X < wval Y := by
  have dX : X.drop i = X.getD i 0 :: X.drop (i + 1) := by rw [List.drop_eq_getElem_cons hi, List.getD_eq_getElem?_getD, List.getElem?_eq_getElem hi]; rfl
  have dY : Y.drop i = Y.getD i 0 :: Y.drop (i + 1) := by rw [List.drop_eq_getElem_cons hi2, List.getD_eq_getElem?_getD, List.getElem?_eq_getElem hi2]; rfl
  rw [wval_split X i (by omega), wval_split Y i (by omega), dX, dY, he]
  have h1 := wval_lt (hX.take i)
  rw [List.length_take, Nat.min_eq_left (by omega)] at h1
  show _ + 2 ^ (32 * i) * (X.getD i 0 + 4294967296 * wval (Y.drop (i + 1))) < _ + 2 ^ (32 * i) * (Y.getD i 0 + 4294967296 * wval (Y.drop (i + 1)))
  generalize 4294967296 * wval (Y.drop (i + 1)) = z
  have h2 := Nat.mul_le_mul_left (2 ^ (32 * i)) (show X.getD i 0 + z + 1 ≤ Y.getD i 0 + z by omega)
  rw [Nat.mul_add, Nat.mul_one] at h2
  omega
theorem drop_snocN {l : List Nat} {i : Nat} (hi : i < l.length) : l.drop i = l.getD i 0 :: l.drop (i + 1) := by
  rw [List.drop_eq_getElem_cons hi, List.getD_eq_getElem?_getD, List.getElem?_eq_getElem hi]; rfl
theorem pow_dbl {N i : Nat} (h : N + 1 ≤ i) : 2 ^ N * 2 ≤ 2 ^ i := by rw [← Nat.pow_succ]; exact Nat.pow_le_pow_right (by decide) h
theorem wval_take (L : List Nat) (i : Nat) : wval (L.take (i + 1)) = wval (L.take i) + 2 ^ (32 * i) * L.getD i 0 := by
  by_cases h : i < L.length
  · rw [take_snocN h, wval_snoc, List.length_take, Nat.min_eq_left (by omega)]
  · rw [List.take_of_length_le (by omega), List.take_of_length_le (by omega), List.getD_eq_getElem?_getD, List.getElem?_eq_none (by omega)]
    simp
/-- a sum's digit and what is carried -/
theorem carry_step {O L M : List Nat} {i c s : Nat} (hO : O.length = i) (h : wval O + 2 ^ (32 * i) * c = wval (L.take i) + wval (M.take i)) (hs : L.getD i 0 + M.getD i 0 + c = s) :
    wval (O ++ [s % 4294967296]) + 2 ^ (32 * (i + 1)) * (s / 4294967296) = wval (L.take (i + 1)) + wval (M.take (i + 1)) := by
  rw [wval_snoc, hO, wval_take, wval_take, show 32 * (i + 1) = 32 * i + 32 by omega, Nat.pow_add, ← b32]
  have h1 : 2 ^ (32 * i) * (L.getD i 0 + M.getD i 0 + c) = 2 ^ (32 * i) * (s % 4294967296) + 2 ^ (32 * i) * 4294967296 * (s / 4294967296) := by
    rw [hs, Nat.mul_assoc, ← Nat.mul_add]
    congr 1
    omega
  rw [Nat.mul_add, Nat.mul_add] at h1
  omega
/-- a difference's digit and what is borrowed -/
theorem borrow_step {O L M : List Nat} {i c s : Nat} (hO : O.length = i) (h : wval O + wval (M.take i) = wval (L.take i) + 2 ^ (32 * i) * c) (hs : L.getD i 0 + 4294967296 = s + M.getD i 0 + c) (hs2 : s < 2 * 4294967296) :
    wval (O ++ [s % 4294967296]) + wval (M.take (i + 1)) = wval (L.take (i + 1)) + 2 ^ (32 * (i + 1)) * (1 - s / 4294967296) := by
  rw [wval_snoc, hO, wval_take, wval_take, show 32 * (i + 1) = 32 * i + 32 by omega, Nat.pow_add, ← b32]
  generalize 2 ^ (32 * i) = P at *
  have h1 : P * (s % 4294967296) + P * M.getD i 0 + P * c = P * L.getD i 0 + P * 4294967296 * (1 - s / 4294967296) := by
    rw [Nat.mul_assoc, ← Nat.mul_add, ← Nat.mul_add, ← Nat.mul_add]
    congr 1
    omega
  omega
theorem shl_step {O L : List Nat} {i c s P : Nat} (hO : O.length = i) (h : wval O + 2 ^ (32 * i) * c = wval (L.take i) * P) (hs : L.getD i 0 * P + c = s) :
    wval (O ++ [s % 4294967296]) + 2 ^ (32 * (i + 1)) * (s / 4294967296) = wval (L.take (i + 1)) * P := by
  rw [wval_snoc, hO, wval_take, show 32 * (i + 1) = 32 * i + 32 by omega, Nat.pow_add, ← b32]
  generalize 2 ^ (32 * i) = Q at *
  have e : s = 4294967296 * (s / 4294967296) + s % 4294967296 := (Nat.div_add_mod s 4294967296).symm
  generalize s / 4294967296 = q at *
  generalize s % 4294967296 = r at *
  generalize wval (L.take i) = V at *
  generalize L.getD i 0 = d at *
  generalize wval O = Z at *
  clear hO
  grind
theorem wval_rep (m : Nat) (L : List Nat) : wval (List.replicate m 0 ++ L) = 2 ^ (32 * m) * wval L := by
  rw [wval_append, wval_zero (fun d hd => (List.mem_replicate.1 hd).2), List.length_replicate, Nat.zero_add]
theorem dig_rep (m : Nat) : Dig (List.replicate m 0) := fun d hd => by rw [(List.mem_replicate.1 hd).2]; decide
theorem shl_end {O L : List Nat} {m n c r k x : Nat} (hO : O.length = n) (hL : L.length = n) (h : wval O + 2 ^ (32 * n) * c = wval (L.take n) * 2 ^ r) (hx : wval L = x) (hm : k / 32 = m) (hr : k % 32 = r) :
    wval ((List.replicate m 0 ++ O) ++ [c]) = x * 2 ^ k := by
  rw [List.append_assoc, wval_rep, wval_snoc, hO, h, List.take_of_length_le (by omega), hx]
  have : 2 ^ k = 2 ^ (32 * m) * 2 ^ r := by rw [← Nat.pow_add]; congr 1; omega
  rw [this, ← Nat.mul_assoc, ← Nat.mul_assoc, Nat.mul_comm (2 ^ (32 * m)) x]
/-- digits, moved down -/
def shrL (P : Nat) : List Nat → List Nat
  | [] => []
  | d :: t => ((t.getD 0 0 * 4294967296 + d) / P % 4294967296) :: shrL P t
theorem shrL_len (P : Nat) : ∀ D : List Nat, (shrL P D).length = D.length
  | [] => rfl
  | _ :: t => by show (shrL P t).length + 1 = t.length + 1; rw [shrL_len P t]
theorem shrL_dig (P : Nat) : ∀ D : List Nat, Dig (shrL P D)
  | [] => dig_nil
  | _ :: t => fun x hx => by
    rcases List.mem_cons.1 hx with rfl | hx
    · exact Nat.mod_lt _ (by decide)
    · exact shrL_dig P t x hx
theorem shrL_val {P Q : Nat} (hPQ : P * Q = 4294967296) : ∀ {D : List Nat}, Dig D → wval (shrL P D) = wval D / P
  | [], _ => by simp [shrL, wval]
  | d :: t, h => by
    have hd := h d List.mem_cons_self
    have ih := shrL_val hPQ (D := t) (fun x hx => h x (List.mem_cons_of_mem _ hx))
    have hP : 0 < P := Nat.pos_of_ne_zero (fun e => by subst e; simp at hPQ)
    show (t.getD 0 0 * 4294967296 + d) / P % 4294967296 + 4294967296 * wval (shrL P t) = (d + 4294967296 * wval t) / P
    rw [ih]
    have h0 : wval t % P = t.getD 0 0 % P := by
      cases t with
      | nil => rfl
      | cons a u =>
        show (a + 4294967296 * wval u) % P = a % P
        rw [← hPQ, Nat.mul_assoc, Nat.add_mul_mod_self_left]
    have e1 : (t.getD 0 0 * 4294967296 + d) / P = d / P + Q * t.getD 0 0 := by
      rw [show t.getD 0 0 * 4294967296 + d = d + P * (Q * t.getD 0 0) by rw [← Nat.mul_assoc, hPQ, Nat.mul_comm]; omega, Nat.add_mul_div_left _ _ hP]
    have e2 : (d + 4294967296 * wval t) / P = d / P + Q * wval t := by
      rw [show d + 4294967296 * wval t = d + P * (Q * wval t) by rw [← Nat.mul_assoc, hPQ], Nat.add_mul_div_left _ _ hP]
    rw [e1, e2]
    have hdq : d / P < Q := (Nat.div_lt_iff_lt_mul hP).2 (by rw [Nat.mul_comm, hPQ]; exact hd)
    have a0 := Nat.div_add_mod (t.getD 0 0) P
    have a1 := Nat.div_add_mod (wval t) P
    have hm := Nat.mod_lt (t.getD 0 0) hP
    rw [h0] at a1
    generalize t.getD 0 0 % P = z at *
    generalize t.getD 0 0 / P = y at *
    generalize wval t / P = Y at *
    have b0 : Q * t.getD 0 0 = Q * z + 4294967296 * y := by rw [← a0, Nat.mul_add, ← Nat.mul_assoc, Nat.mul_comm Q P, hPQ]; omega
    have b1 : Q * wval t = Q * z + 4294967296 * Y := by rw [← a1, Nat.mul_add, ← Nat.mul_assoc, Nat.mul_comm Q P, hPQ]; omega
    have hz : Q * z + Q ≤ 4294967296 := by
      have := Nat.mul_le_mul_left Q (show z + 1 ≤ P from hm)
      rw [Nat.mul_comm Q P, hPQ, Nat.mul_add, Nat.mul_one] at this
      exact this
    rw [b0, b1]
    clear e1 e2 ih h0 a0 a1 b0 b1 hm hd
    generalize d / P = u at *
    generalize Q * z = q at *
    omega
theorem shrL_drop (P : Nat) {L : List Nat} {i : Nat} (hi : i < L.length) : shrL P (L.drop i) = ((L.getD (i + 1) 0 * 4294967296 + L.getD i 0) / P % 4294967296) :: shrL P (L.drop (i + 1)) := by
  rw [drop_snocN hi]
  show ((L.drop (i + 1)).getD 0 0 * 4294967296 + L.getD i 0) / P % 4294967296 :: _ = _
  rw [show (L.drop (i + 1)).getD 0 0 = L.getD (i + 1) 0 by simp [List.getD_eq_getElem?_getD]]
theorem shr_end {L : List Nat} {k m r x : Nat} (hL : Dig L) (hx : wval L = x) (hm : k / 32 = m) (hr : k % 32 = r) : wval (shrL (2 ^ r) (L.drop m)) = x / 2 ^ k := by
  have hPQ : 2 ^ r * 2 ^ (32 - r) = 4294967296 := by rw [← Nat.pow_add, show r + (32 - r) = 32 by omega]
  rw [shrL_val hPQ (hL.drop m)]
  have e : 2 ^ k = 2 ^ (32 * m) * 2 ^ r := by rw [← Nat.pow_add]; congr 1; omega
  rw [e, ← Nat.div_div_eq_div_mul]
  congr 1
  by_cases h : m ≤ L.length
  · have h1 := wval_split L m h
    have h2 := wval_lt (hL.take m)
    rw [List.length_take, Nat.min_eq_left h] at h2
    rw [← hx, h1, Nat.add_mul_div_left _ _ (Nat.two_pow_pos _), Nat.div_eq_of_lt h2, Nat.zero_add]
  · rw [List.drop_of_length_le (by omega), ← hx]
    have h2 := wval_lt hL
    have h3 := Nat.pow_le_pow_right (n := 2) (by decide) (show 32 * L.length ≤ 32 * m by omega)
    exact (Nat.div_eq_of_lt (Nat.lt_of_lt_of_le h2 h3)).symm
theorem cmpI_zero {a b : Nat} : (cmpI a b == 0) = decide (a = b) := by
  rcases Nat.lt_trichotomy a b with h | h | h
  · rw [cmpI_lt h, decide_eq_false (by omega)]; rfl
  · rw [cmpI_eq h, decide_eq_true h]; rfl
  · rw [cmpI_gt h, decide_eq_false (by omega)]; rfl
end Go.Proofs.YtmmligbkecilfaaGreatDoor.Lv
namespace Go.Proofs.YtmmligbkecilfaaGreatDoor
open Go.RowKit Lv Go.Shelf
attribute [local go_sem] Oper.semAt_some

/-- digits in memory -/
def Ws (w : World) (v : Value) (L : List Nat) : Prop := Dig L ∧ Cel w v (L.map fun (d : Nat) => Value.int .u32 (d : Int))
/-- a natural number in memory -/
def Nt (w : World) (v : Value) (n : Nat) : Prop := ∃ L, Ws w v L ∧ Trm L ∧ wval L = n
theorem Ws.below {w w' : World} {v : Value} {L : List Nat} (h : Ws w v L) (hb : Below w.heap.size w w') : Ws w' v L := ⟨h.1, h.2.below hb⟩
theorem Nt.below {w w' : World} {v : Value} {n : Nat} (h : Nt w v n) (hb : Below w.heap.size w w') : Nt w' v n := by
  obtain ⟨L, h1, h2⟩ := h
  exact ⟨L, h1.below hb, h2⟩
theorem Ws.len {w : World} {a : Option Addr} {n cap : Nat} {L : List Nat} (h : Ws w (.slice a n cap) L) : L.length = n ∧ n ≤ cap ∧ cap ≤ 9223372036854775807 := by
  have := h.2.len
  rw [List.length_map] at this
  exact this
theorem Ws.form {w : World} {v : Value} {L : List Nat} (h : Ws w v L) : ∃ a cap, v = .slice a L.length cap := by
  obtain ⟨a, cap, hv⟩ := h.2.form
  rw [List.length_map] at hv
  exact ⟨a, cap, hv⟩
theorem Ws.at {w : World} {a : Option Addr} {n cap : Nat} {L : List Nat} (h : Ws w (.slice a n cap) L) (hn : 0 < n) : ∃ blk off, a = some ⟨blk, off, none⟩ ∧ ∀ i, i < n → w.cell? ⟨blk, off + i, none⟩ = some (.int .u32 (L.getD i 0 : Nat)) := by
  obtain ⟨blk, off, e, hc⟩ := h.2.at hn
  refine ⟨blk, off, e, fun i hi => ?_⟩
  have hl := h.len.1
  rw [hc i hi, List.getElem?_map, List.getElem?_eq_getElem (by omega), List.getD_eq_getElem?_getD, List.getElem?_eq_getElem (by omega)]
  rfl
theorem Ws.take {w : World} {a : Option Addr} {n cap : Nat} {L : List Nat} (h : Ws w (.slice a n cap) L) {i : Nat} (hi : i ≤ n) : Ws w (.slice a i cap) (L.take i) := by
  have := h.2.take hi
  rw [← List.map_take] at this
  exact ⟨h.1.take i, this⟩
theorem ws_nil (w : World) : Ws w (.slice none 0 0) [] := ⟨dig_nil, none, 0, rfl, Nat.le_refl _, by unfold maxLen; omega, .inl rfl⟩
theorem nt_zero (w : World) : Nt w (.slice none 0 0) 0 := ⟨[], ws_nil w, trm_nil, rfl⟩
/-- digits of one's own -/
def OwnW (w : World) (B : Nat) (v : Value) (L : List Nat) : Prop := Dig L ∧ OwnC w B 110 v (L.map fun (d : Nat) => Value.int .u32 (d : Int))
theorem OwnW.ws {w : World} {B : Nat} {v : Value} {L : List Nat} (h : OwnW w B v L) : Ws w v L := ⟨h.1, h.2.cel⟩
theorem ownW_nil (w : World) (B : Nat) : OwnW w B (.slice none 0 0) [] := ⟨dig_nil, ownC_nil _ _ _⟩
theorem OwnW.below {w w' : World} {B C : Nat} {v : Value} {L : List Nat} (h : OwnW w B v L) (hb : Below C w w') (hC : w.heap.size ≤ C) : OwnW w' B v L := ⟨h.1, h.2.below hb hC⟩
theorem OwnW.mono {w : World} {B B' : Nat} {v : Value} {L : List Nat} (h : OwnW w B v L) (hB : B' ≤ B) : OwnW w B' v L := ⟨h.1, h.2.mono hB⟩
theorem OwnW.base {w : World} {B : Nat} {v : Value} {L : List Nat} (h : OwnW w B v L) (k : Nat) (hk : v.ownBlock = some k) : B ≤ k := h.2.base k hk
theorem infoW : (Tryz.prog.info? 110).map (fun i => (i.zero, i.size, i.bytes)) = some (some (.int .u32 0), 1, 4) := by kernel_rfl
theorem append_types {t tx ty e : TypeId} (ht : Tryz.prog.underlying t = some (.slice e)) (hx : Tryz.prog.underlying tx = some (.slice e)) (b : Option Addr) (n cap : Nat) (x : Value) (w : World) : (Builtin.append_ #[t, tx] ty #[.slice b n cap, x]).run Tryz.prog w = (Builtin.append_ #[tx, tx] ty #[.slice b n cap, x]).run Tryz.prog w := by
  simp [Builtin.append_, run_underlying ht, run_underlying hx]
theorem wpList_append_W (w : World) {ops : Array Oper} {rest : List Oper} {o : Oper} {a : Act} {Q : Exit → Act → World → Prop}
    (hg : o.guard = none) (s x : Operand) (t : TypeId) (ht : Tryz.prog.underlying t = some (.slice 110)) (hop : o.op = Op.call { callee := Callee.builtin Builtin.append, args := #[s, x], argTypes := #[t, 50] })
    (B : Nat) (v : Value) (L M : List Nat) (hs : a.eval s = v) (hown : OwnW w B v L) (ad : Addr) (m c : Nat) (hx : a.eval x = .slice (some ad) m c) (hy : Ws w (.slice (some ad) m c) M)
    (b1 : L.length + M.length ≤ 1000) (b3 : B ≤ w.heap.size)
    (hK : ∀ v' w', OwnW w' B v' (L ++ M) → w.grownBy w' v.ownBlock → wpList Tryz.prog ops Q rest (a.put o.dst v') w') :
    wpList Tryz.prog ops Q (o :: rest) a w := by
  obtain ⟨i0, hin, hz0, hz1, hz2⟩ := info_parts infoW
  have hl := hy.len.1
  have hcl : w.ownsRow B 110 1 v (L.map fun (d : Nat) => Value.int .u32 (d : Int)).length (L.map fun (d : Nat) => Value.int .u32 (d : Int)) := hown.2
  rw [List.length_map] at hcl
  refine wpList_plain hg fun K hK' => ?_
  obtain ⟨v', w', hr, h2, h3, _⟩ := run_append_own w B 50 o.type 110 i0 _ 1 4 Tryz.underlying50 hin hz0 hz1 hz2 rfl (by decide) v L.length _ hcl ad m c (M.map fun (d : Nat) => Value.int .u32 (d : Int)) (by rw [List.length_map, Nat.mul_one]; exact hl) (fun j u hu => by
      have hj : j < m := by rw [← hl]; have := (List.getElem?_eq_some_iff.1 hu).1; simpa using this
      obtain ⟨blk, off, e, hc⟩ := Cel.at hy.2 (by omega)
      cases e
      have k1 := (hc j hj).trans hu
      rw [show (⟨blk, off, none⟩ : Addr).add j = ⟨blk, off + j, none⟩ by unfold Addr.add; split <;> simp_all]
      exact k1) (fun u hu => by obtain ⟨z, _, rfl⟩ := List.mem_map.1 hu; rfl) (by unfold maxLen; omega) (by omega) b3
  unfold Oper.wp execOp
  obtain ⟨sa, sc, rfl⟩ := hown.2.cel.form
  simp only [hop, resolve, invoke, builtin, Sem.run_bind, Sem.run_pure, Result.andThen_ok, List.map_toArray, List.map_cons, List.map_nil, hs, hx, append_types ht Tryz.underlying50, hr]
  refine hK' _ _ (hK v' w' ⟨hown.1.append hy.1, ?_⟩ h3)
  show w'.ownsRow B 110 1 v' ((L ++ M).map fun (d : Nat) => Value.int .u32 (d : Int)).length ((L ++ M).map fun (d : Nat) => Value.int .u32 (d : Int))
  rw [List.length_map, List.length_append, hl, List.map_append]
  exact h2
theorem ownW_emp (w : World) (B g : Nat) (hg : g = w.heap.size) (hB : B ≤ w.heap.size) : OwnW (w.alloc (.cells #[] 110)) B (.slice (some ⟨g, 0, none⟩) 0 0) [] := by
  subst hg
  exact ⟨dig_nil, World.ownsRow_lit w #[] 0 hB (Nat.zero_le _) rfl⟩
theorem ws_lits (W : World) (L : List Nat) (g n : Nat) (hg : g = W.heap.size) (hL : Dig L) (hn : L.length = n) (hm : n ≤ 1000) : Ws (W.alloc (.cells (L.map fun (d : Nat) => Value.int .u32 (d : Int)).toArray 110)) (.slice (some ⟨g, 0, none⟩) n n) L := by
  subst hn hg
  refine ⟨hL, _, _, by rw [List.length_map], by rw [List.length_map]; exact Nat.le_refl _, by unfold maxLen; omega, .inr ⟨W.heap.size, 0, rfl, fun i hi => ?_⟩⟩
  rw [List.length_map] at hi
  rw [Nat.zero_add]
  simp [go_sem, hi]

set_option maxRecDepth 100000 in
theorem nat_calls (a : Option Addr) (n cap : Nat) (L : List Nat) (i : Nat) (w : World) (h : Ws w (.slice a n cap) L) :
    Calls Tryz.prog 86 #[.slice a n cap, .int .i64 (i : Int)] w fun e w' => e = .returned (.int .u64 (L.getD i 0 : Nat)) ∧ w = w' := by
  obtain ⟨l1, l2, l3⟩ := h.len
  by_cases hi : i < n
  · obtain ⟨blk, off, rfl, hc⟩ := h.at (by omega)
    have hx := hc i hi
    have hd := h.1.at i
    have hii : (i : Int) < (n : Int) := by omega
    clear h hc l1
    generalize L.getD i 0 = d at *
    go_enter Tryz.func86, Tryz.ntmps86
    go_wp2
    go_ret
    exact ⟨rfl, rfl⟩
  · have hii : ¬ (i : Int) < (n : Int) := by omega
    have e : L.getD i 0 = 0 := by rw [List.getD_eq_getElem?_getD, List.getElem?_eq_none (by omega)]; rfl
    rw [e]
    clear h l1
    go_enter Tryz.func86, Tryz.ntmps86
    go_wp2
    go_ret
    exact ⟨rfl, rfl⟩
end Go.Proofs.YtmmligbkecilfaaGreatDoor
namespace Go.Proofs.YtmmligbkecilfaaGreatDoor
open Go.RowKit Lv Go.Shelf
attribute [local go_sem] Oper.semAt_some

theorem wpList_append_W0 (w : World) {ops : Array Oper} {rest : List Oper} {o : Oper} {a : Act} {Q : Exit → Act → World → Prop}
    (hg : o.guard = none) (s x : Operand) (t : TypeId) (ht : Tryz.prog.underlying t = some (.slice 110)) (hop : o.op = Op.call { callee := Callee.builtin Builtin.append, args := #[s, x], argTypes := #[t, 50] })
    (B : Nat) (v : Value) (L : List Nat) (hs : a.eval s = v) (hown : OwnW w B v L) (hx : a.eval x = .slice none 0 0)
    (hK : wpList Tryz.prog ops Q rest (a.put o.dst v) w) : wpList Tryz.prog ops Q (o :: rest) a w := by
  obtain ⟨i0, hin, hz0, hz1, hz2⟩ := info_parts infoW
  have hcl : w.ownsRow B 110 1 v (L.map fun (d : Nat) => Value.int .u32 (d : Int)).length (L.map fun (d : Nat) => Value.int .u32 (d : Int)) := hown.2
  refine wpList_plain hg fun K hK' => ?_
  have hr := run_append_owned_none (P := Tryz.prog) (w := w) B 50 o.type 110 i0 1 Tryz.underlying50 hin v _ _ hcl
  unfold Oper.wp execOp
  obtain ⟨sa, sc, rfl⟩ := hown.2.cel.form
  simp only [hop, resolve, invoke, builtin, Sem.run_bind, Sem.run_pure, Result.andThen_ok, List.map_toArray, List.map_cons, List.map_nil, hs, hx, append_types ht Tryz.underlying50, hr]
  exact hK' _ _ hK
set_option maxRecDepth 100000 in
set_option maxHeartbeats 1000000 in
theorem trim_calls (a : Option Addr) (n cap : Nat) (L : List Nat) (w : World) (h : Ws w (.slice a n cap) L) (hl : L.length ≤ 900) :
    Calls Tryz.prog 72 #[.slice a n cap] w fun e w' => (∃ v, e = .returned v ∧ Nt w' v (wval L)) ∧ Below w.heap.size w w' := by
  obtain ⟨l1, l2, l3⟩ := h.len
  have H := Lib.hid h
  have HX := Lib.hid l1
  have HL := Lib.hid hl
  clear h l1 hl
  go_enter Tryz.func72, Tryz.ntmps72
  go_wp2
  go_loopw [3] (fun s wr => ∃ k : Nat, s = .int .i64 (k : Int) ∧ k ≤ n ∧ Hid ((∀ d ∈ L.drop k, d = 0) ∧ wr = w)) (fun s _ => (intOf s).toNat)
  case atStart => exact ⟨n, rfl, Nat.le_refl _, by rw [List.drop_of_length_le (by rw [HX.out]; exact Nat.le_refl _)]; exact fun d hd => (nomatch hd), rfl⟩
  case round =>
    obtain ⟨k, rfl, hk, HR⟩ := hrel
    obtain rfl := HR.out.2
    have HV := Lib.hid (show wval (L.take k) = wval L by rw [wval_split L k (by rw [HX.out]; exact hk), wval_zero HR.out.1]; simp)
    by_cases h0 : k = 0
    · subst h0
      have hc0 : decide ((0 : Int) < ((0 : Nat) : Int)) = false := by simp
      have E0 : wval L = 0 := by rw [← HV.out]; rfl
      have hz0 : (0 : Int) ≤ (cap : Int) := by omega
      cases a with
      | none =>
        go_wp2_with (first
          | (refine wpList_append_W0 _ rfl _ _ 51 Tryz.underlying51 rfl wr.heap.size _ [] rfl (ownW_emp wr wr.heap.size wr.heap.size rfl (Nat.le_refl _)) rfl ?_))
        go_ret
        exact ⟨⟨_, rfl, [], (ownW_emp wr wr.heap.size wr.heap.size rfl (Nat.le_refl _)).ws, trm_nil, rfl⟩, (Below.refl _ _).alloc (Nat.le_refl _) _⟩
      | some ad =>
        go_wp2_with (at_builtin; first
          | (refine wpList_append_W _ rfl _ _ 51 Tryz.underlying51 rfl wr.heap.size _ [] [] rfl (ownW_emp wr wr.heap.size wr.heap.size rfl (Nat.le_refl _)) _ _ _ rfl ((H.out.take (i := 0) (Nat.zero_le _)).below ((Below.refl _ _).alloc (Nat.le_refl _) _)) (by simp) (by simp) ?_; intro v1 w1 hown1 hg1))
        go_ret
        exact ⟨⟨_, rfl, [], hown1.ws, trm_nil, rfl⟩, ((Below.refl _ _).alloc (Nat.le_refl _) _).grown hg1 (by simp) (fun e he => by cases he; exact Nat.le_refl _)⟩
    · obtain ⟨j, rfl⟩ : ∃ j, k = j + 1 := ⟨k - 1, by omega⟩
      obtain ⟨blk, off, rfl, hc⟩ := H.out.at (by omega)
      have hx := hc j (by omega)
      have hii : (0 : Int) < ((j + 1 : Nat) : Int) := by omega
      have hi1 : ((j + 1 : Nat) : Int) - 1 = (j : Int) := by omega
      have hi2 : (j : Int) < (n : Int) := by omega
      have HD := Lib.hid (show L.drop j = L.getD j 0 :: L.drop (j + 1) by rw [List.drop_eq_getElem_cons (by rw [HX.out]; omega), List.getD_eq_getElem?_getD, List.getElem?_eq_getElem (by rw [HX.out]; omega)]; rfl)
      have HT := Lib.hid (take_snocN (l := L) (i := j) (by rw [HX.out]; omega))
      clear hc
      by_cases hd : L.getD j 0 = 0
      · rw [hd] at hx
        have HD0 := Lib.hid hd
        clear hd
        go_wp2
        go_roundw
        case rel => exact ⟨j, by go_num, by omega, by rw [HD.out, HD0.out]; exact fun d hd => (List.mem_cons.1 hd).elim id (HR.out.1 d), trivial⟩
        case measure => simp [intOf]
      · have HD0 := Lib.hid (And.intro HT.out hd)
        have hdg := H.out.1.at j
        have hl1 := Lib.hid (show ([] : List Nat).length + (L.take (j + 1)).length ≤ 1000 by rw [List.length_take]; have := HL.out; simp; omega)
        have hcap : ((j + 1 : Nat) : Int) ≤ (cap : Int) := by omega
        generalize L.getD j 0 = d at *
        have hne : ((d : Int) == 0) = false := by simp; omega
        clear hd HD HT
        go_wp2_with (at_builtin; go_must (refine wpList_append_W _ rfl _ _ 51 Tryz.underlying51 rfl wr.heap.size _ [] (L.take (j + 1)) rfl (ownW_emp wr wr.heap.size wr.heap.size rfl (Nat.le_refl _)) _ _ _ rfl ((H.out.take (i := j + 1) (by omega)).below ((Below.refl _ _).alloc (Nat.le_refl _) _)) hl1.out (by simp) ?_; intro v1 w1 hown1 hg1))
        go_ret
        exact ⟨⟨_, rfl, L.take (j + 1), hown1.ws, by rw [HD0.out.1]; exact trm_snoc HD0.out.2, HV.out⟩, ((Below.refl _ _).alloc (Nat.le_refl _) _).grown hg1 (by simp) (fun e he => by cases he; exact Nat.le_refl _)⟩
end Go.Proofs.YtmmligbkecilfaaGreatDoor
namespace Go.Proofs.YtmmligbkecilfaaGreatDoor
open Go.RowKit Lv Go.Shelf
attribute [local go_sem] Oper.semAt_some

theorem wval_two (x : Nat) (h : x < 18446744073709551616) : wval [x % 4294967296, x / 4294967296 % 4294967296] = x := by
  show x % 4294967296 + 4294967296 * (x / 4294967296 % 4294967296 + 4294967296 * 0) = x
  omega
theorem Nt.ws {w : World} {v : Value} {n : Nat} (h : Nt w v n) : ∃ L a cap, v = .slice a L.length cap ∧ Ws w (.slice a L.length cap) L ∧ Trm L ∧ wval L = n := by
  obtain ⟨L, h1, h2, h3⟩ := h
  obtain ⟨a, cap, rfl⟩ := h1.form
  exact ⟨L, a, cap, rfl, h1, h2, h3⟩
theorem nt_len {L : List Nat} {n : Nat} (h1 : Dig L) (h2 : Trm L) (h3 : wval L = n) (hn : sz n ≤ 9600) : L.length ≤ 300 := by
  rw [trm_len h1 h2, h3]; omega
theorem wrap32n (x d : Nat) (h : x % 4294967296 = d) : IntKind.u32.wrap (x : Int) = (d : Int) := by
  rw [IntKind.wrap_u32]; omega
set_option maxRecDepth 100000 in
theorem nfrom_calls (x : Nat) (w : World) (hx : x < 18446744073709551616) :
    Calls Tryz.prog 43 #[.int .u64 (x : Int)] w fun e w' => (∃ v, e = .returned v ∧ Nt w' v x) ∧ Below w.heap.size w w' := by
  obtain ⟨q, hq⟩ : ∃ q, x / 4294967296 = q := ⟨_, rfl⟩
  obtain ⟨d0, hd0⟩ : ∃ d, x % 4294967296 = d := ⟨_, rfl⟩
  obtain ⟨d1, hd1⟩ : ∃ d, q % 4294967296 = d := ⟨_, rfl⟩
  have h1 := wrap32n x d0 hd0
  have h2 := wrap32n q d1 hd1
  have hv : wval [d0, d1] = x := by
    have := wval_two x hx
    rw [hq, hd0, hd1] at this
    exact this
  have hdg : Dig [d0, d1] := fun d hd => by
    simp at hd
    omega
  have hqi : (x : Int) / 4294967296 = (q : Int) := by omega
  have TC := Lib.hid (fun W g h => trim_calls (some ⟨g, 0, none⟩) 2 2 [d0, d1] W h (by simp))
  rw [hv] at TC
  clear hq hd0 hd1 hv hx
  go_enter Tryz.func43, Tryz.ntmps43
  go_wp2_with (go_at_call 72; go_must (refine (TC.out _ _ (ws_lits w [d0, d1] w.heap.size 2 rfl hdg rfl (by decide))).mono ?_; rintro e w1 ⟨⟨v, rfl, hv⟩, hb⟩))
  go_ret
  exact ⟨⟨_, rfl, hv⟩, ((Below.refl _ _).alloc (Nat.le_refl _) _).trans (hb.mono (by simp))⟩
theorem top_form {L : List Nat} {n : Nat} (h2 : Trm L) (h3 : wval L = n) (h0 : n ≠ 0) : ∃ T d, L = T ++ [d] ∧ d ≠ 0 := by
  have hne : L ≠ [] := fun e => by subst e; exact h0 h3.symm
  refine ⟨L.dropLast, L.getLast hne, (List.dropLast_concat_getLast hne).symm, fun e => h2 ?_⟩
  rw [List.getLast?_eq_some_getLast hne, e]
set_option maxRecDepth 100000 in
set_option maxHeartbeats 1000000 in
theorem nlen_calls (v : Value) (n : Nat) (w : World) (h : Nt w v n) (hn : sz n ≤ 9600) :
    Calls Tryz.prog 75 #[v] w fun e w' => e = .returned (.int .i64 (sz n : Nat)) ∧ Below w.heap.size w w' := by
  obtain ⟨L, a, cap, rfl, h1, h2, h3⟩ := h.ws
  have hl := nt_len h1.1 h2 h3 hn
  have TC := Lib.hid (trim_calls a L.length cap L w h1 (by omega))
  rw [h3] at TC
  have HN := Lib.hid hn
  clear h h1 h2 h3 hl
  by_cases h0 : n = 0
  · subst h0
    go_enter Tryz.func75, Tryz.ntmps75
    go_wp2_with (go_at_call 72; go_must (refine TC.out.mono ?_; rintro e w1 ⟨⟨v, rfl, hv⟩, hb⟩; obtain ⟨M, b, cp, rfl, q1, q2, q3⟩ := hv.ws; obtain rfl := trm_zero q2 q3))
    go_ret
    exact ⟨rfl, hb⟩
  · go_enter Tryz.func75, Tryz.ntmps75
    go_upto_region 2 with (go_at_call 72; go_must (refine TC.out.mono ?_; rintro e w1 ⟨⟨v, rfl, hv⟩, hb⟩; obtain ⟨M, b, cp, rfl, q1, q2, q3⟩ := hv.ws; obtain ⟨T, d, rfl, hd⟩ := top_form q2 q3 h0))
    have hM := nt_len q1.1 q2 q3 hn
    have hlt := q1.len
    have hT := Lib.hid (show 32 * T.length + sz d = sz n by rw [← q3]; exact (sz_top (fun x hx => q1.1 x (List.mem_append_left _ hx)) hd).symm)
    obtain ⟨blk, off, rfl, hc⟩ := q1.at (by simp)
    have hx := hc T.length (by simp)
    have hdg := q1.1 d (by simp)
    rw [show (T ++ [d]).getD T.length 0 = d by simp] at hx
    rw [List.length_append, List.length_singleton] at *
    have HB := Lib.hid hb
    clear hc q1 q2 q3
    generalize T.length = k at *
    have hne : (((k + 1 : Nat) : Int) == 0) = false := by simp; omega
    have hi1 : ((k + 1 : Nat) : Int) - 1 = (k : Int) := by omega
    have hi2 : (k : Int) < ((k + 1 : Nat) : Int) := by omega
    clear hv hb hn h0
    go_wp2
    go_loopw [4, 5] (fun s4 s5 wr => ∃ (j t : Nat), s4 = .int .i64 (j : Int) ∧ s5 = .int .u32 (t : Int) ∧ t < 4294967296 ∧ Hid (j + sz t = sz n ∧ wr = w1) ∧ j ≤ 20000) (fun _ s5 _ => (intOf s5).toNat)
    case atStart => exact ⟨32 * k, d, by go_num, rfl, hdg, ⟨hT.out, rfl⟩, by omega⟩
    case round =>
      obtain ⟨j, t, rfl, rfl, ht, HR, hj⟩ := hrel
      obtain rfl := HR.out.2
      by_cases ht0 : t = 0
      · subst ht0
        have hR := HR.out.1
        rw [sz_zero, Nat.add_zero] at hR
        subst hR
        go_wp2
        go_ret
        exact ⟨rfl, HB.out⟩
      · have hp : (0 : Int) < (t : Int) := by omega
        have hs := Lib.hid (show j + 1 + sz (t / 2) = sz n by have := HR.out.1; rw [sz_half ht0] at this; omega)
        have hsj : j + 1 ≤ 20000 := by have := HR.out.1; have := sz_pos ht0; have := HN.out; omega
        obtain ⟨t2, ht2⟩ : ∃ t2, t / 2 = t2 := ⟨_, rfl⟩
        have hti : (t : Int) / 2 = (t2 : Int) := by omega
        rw [ht2] at hs
        go_wp2
        go_roundw
        case rel => exact ⟨j + 1, t2, by go_num, rfl, by omega, ⟨hs.out, trivial⟩, hsj⟩
        case measure => simp [intOf]; omega
set_option maxRecDepth 100000 in
set_option maxHeartbeats 2000000 in
theorem ncmp_calls (v u : Value) (x y : Nat) (w : World) (h : Nt w v x) (h' : Nt w u y) (hx : sz x ≤ 9600) (hy : sz y ≤ 9600) :
    Calls Tryz.prog 49 #[v, u] w fun e w' => e = .returned (.int .i64 (cmpI x y)) ∧ Below w.heap.size w w' := by
  obtain ⟨L, a, cap, rfl, h1, h2, h3⟩ := h.ws
  obtain ⟨M, b, cp, rfl, g1, g2, g3⟩ := h'.ws
  have TC := Lib.hid (trim_calls a L.length cap L w h1 (by have := nt_len h1.1 h2 h3 hx; omega))
  have TD := Lib.hid (fun W (hb : Below w.heap.size w W) => trim_calls b M.length cp M W (g1.below hb) (by have := nt_len g1.1 g2 g3 hy; omega))
  rw [h3] at TC
  rw [g3] at TD
  obtain ⟨R, hR⟩ : ∃ R, R = cmpI x y := ⟨_, rfl⟩
  rw [← hR]
  have HR := Lib.hid hR
  have HN := Lib.hid (And.intro hx hy)
  clear h h' h1 h2 h3 g1 g2 g3 hx hy hR
  go_enter Tryz.func49, Tryz.ntmps49
  go_upto_region 3 with (first
    | (go_at_call 72; refine (TD.out _ HB.out).mono ?_; rintro e w2 ⟨⟨v2, rfl, hv2⟩, hb2⟩; obtain ⟨Y, b', cp', rfl, q1, q2, q3⟩ := hv2.ws; have QY := Lib.hid (And.intro q1 (And.intro q2 q3)); have QX := Lib.hid (And.intro (PX.out.1.below hb2) PX.out.2); have HB2 := Lib.hid (HB.out.trans (hb2.mono HB.out.size)); clear hb2 q1 q2 q3 hv2)
    | (go_at_call 72; go_must (refine TC.out.mono ?_; rintro e w1 ⟨⟨v1, rfl, hv1⟩, hb1⟩; obtain ⟨X, a', cap', rfl, p1, p2, p3⟩ := hv1.ws; have PX := Lib.hid (And.intro p1 (And.intro p2 p3)); have HB := Lib.hid hb1; clear hb1 p1 p2 p3 hv1)))
  have hlX := QX.out.1.len
  have hlY := QY.out.1.len
  by_cases hl : X.length = Y.length
  · have hn300 := nt_len QX.out.1.1 QX.out.2.1 QX.out.2.2 HN.out.1
    obtain ⟨n, hXn⟩ : ∃ n, X.length = n := ⟨_, rfl⟩
    have hYn : Y.length = n := by omega
    have HXL := Lib.hid hXn
    have HYL := Lib.hid hYn
    rw [hXn] at QX hlX hn300
    rw [hYn] at QY hlY
    rw [hXn, hYn]
    have hne : ((n : Int) != (n : Int)) = false := by simp
    clear hl hXn hYn hlX hlY
    go_wp2
    go_loopw [7] (fun s wr => ∃ i : Nat, s = .int .i64 ((i : Int) - 1) ∧ i ≤ n ∧ Hid (X.drop i = Y.drop i ∧ Below w2.heap.size w2 wr)) (fun s _ => (intOf s + 1).toNat)
    case atStart => exact ⟨n, by go_num, Nat.le_refl _, by rw [List.drop_of_length_le (by rw [HXL.out]; exact Nat.le_refl _), List.drop_of_length_le (by rw [HYL.out]; exact Nat.le_refl _)], Below.refl _ _⟩
    case round =>
      obtain ⟨i, rfl, hi, HK⟩ := hrel
      by_cases h0 : i = 0
      · subst h0
        have hlt : ¬ (0 : Int) ≤ ((0 : Nat) : Int) - 1 := by omega
        obtain rfl : R = 0 := by
          have hd := HK.out.1
          rw [List.drop_zero, List.drop_zero] at hd
          rw [HR.out]
          exact cmpI_eq (by rw [← QX.out.2.2, ← QY.out.2.2, hd])
        go_wp2
        go_ret
        exact ⟨rfl, HB2.out.trans (HK.out.2.mono HB2.out.size)⟩
      · obtain ⟨j, rfl⟩ : ∃ j, i = j + 1 := ⟨i - 1, by omega⟩
        have hi1 : ((j + 1 : Nat) : Int) - 1 = (j : Int) := by omega
        have hj0 : (0 : Int) ≤ (j : Int) := by omega
        have hjn : (j : Int) < (n : Int) := by omega
        obtain ⟨blk, off, rfl, hc⟩ := (QX.out.1.below HK.out.2).at (by omega)
        obtain ⟨blk', off', rfl, hc'⟩ := (QY.out.1.below HK.out.2).at (by omega)
        have x1 := hc j (by omega)
        have y1 := hc' j (by omega)
        have HLT := Lib.hid (fun h => wval_cmp (X := X) (Y := Y) (i := j) QX.out.1.1 (by rw [HXL.out]; omega) (by rw [HYL.out]; omega) HK.out.1 h)
        have HGT := Lib.hid (fun h => wval_cmp (X := Y) (Y := X) (i := j) QY.out.1.1 (by rw [HYL.out]; omega) (by rw [HXL.out]; omega) HK.out.1.symm h)
        rw [QX.out.2.2, QY.out.2.2] at HLT HGT
        have HDX := Lib.hid (drop_snocN (l := X) (i := j) (by rw [HXL.out]; omega))
        have HDY := Lib.hid (drop_snocN (l := Y) (i := j) (by rw [HYL.out]; omega))
        clear hc hc'
        generalize X.getD j 0 = d at *
        generalize Y.getD j 0 = f at *
        by_cases c1 : d < f
        · have c1i : (d : Int) < (f : Int) := by omega
          obtain rfl : R = -1 := by rw [HR.out]; exact cmpI_lt (HLT.out c1)
          go_wp2
          go_quiet (fail)
          go_wp2
          go_ret
          exact ⟨rfl, below_drewN (HB2.out.trans (HK.out.2.mono HB2.out.size)) _⟩
        · have c1i : ¬ (d : Int) < (f : Int) := by omega
          by_cases c2 : f < d
          · have c2i : (f : Int) < (d : Int) := by omega
            obtain rfl : R = 1 := by rw [HR.out]; exact cmpI_gt (HGT.out c2)
            have x1' := x1
            go_wp2
            go_quiet (fail)
            go_wp2
            go_quiet (fail)
            go_wp2
            go_ret
            exact ⟨rfl, below_drewN (below_drewN (HB2.out.trans (HK.out.2.mono HB2.out.size)) _) _⟩
          · have c2i : ¬ (f : Int) < (d : Int) := by omega
            have HE := Lib.hid (show X.drop j = Y.drop j by rw [HDX.out, HDY.out, HK.out.1, show d = f by omega])
            go_wp2
            go_quiet (fail)
            go_wp2
            go_quiet (fail)
            go_wp2
            go_roundw
            case rel => exact ⟨j, by go_num, by omega, HE.out, below_drewN HK.out.2 _⟩
            case measure => simp [intOf]
  · have hne : ((X.length : Int) != (Y.length : Int)) = true := by simp; omega
    by_cases c : X.length < Y.length
    · have ci : (X.length : Int) < (Y.length : Int) := by omega
      obtain rfl : R = -1 := by
        rw [HR.out]
        refine cmpI_lt ?_
        rw [← QX.out.2.2, ← QY.out.2.2]
        exact wval_short QX.out.1.1 QY.out.2.1 c
      go_wp2
      go_ret
      exact ⟨rfl, HB2.out⟩
    · have ci : ¬ (X.length : Int) < (Y.length : Int) := by omega
      obtain rfl : R = 1 := by
        rw [HR.out]
        refine cmpI_gt ?_
        rw [← QX.out.2.2, ← QY.out.2.2]
        exact wval_short QY.out.1.1 QX.out.2.1 (by omega)
      go_wp2
      go_ret
      exact ⟨rfl, HB2.out⟩
end Go.Proofs.YtmmligbkecilfaaGreatDoor
namespace Go.Proofs.YtmmligbkecilfaaGreatDoor
open Go.RowKit Lv Go.Shelf
attribute [local go_sem] Oper.semAt_some

theorem wval_all {L : List Nat} {i : Nat} (h : L.length ≤ i) : wval (L.take i) = wval L := by rw [List.take_of_length_le h]
set_option maxRecDepth 100000 in
set_option maxHeartbeats 2000000 in
theorem nadd_calls (v u : Value) (x y : Nat) (w : World) (h : Nt w v x) (h' : Nt w u y) (hx : sz x ≤ 9600) (hy : sz y ≤ 9600) :
    Calls Tryz.prog 63 #[v, u] w fun e w' => (∃ z, e = .returned z ∧ Nt w' z (x + y)) ∧ Below w.heap.size w w' := by
  obtain ⟨L, a, cap, rfl, h1, h2, h3⟩ := h.ws
  obtain ⟨M, b, cp, rfl, g1, g2, g3⟩ := h'.ws
  obtain ⟨n, hn⟩ : ∃ n, L.length = n := ⟨_, rfl⟩
  obtain ⟨m, hm⟩ : ∃ m, M.length = m := ⟨_, rfl⟩
  have hn3 := nt_len h1.1 h2 h3 hx
  have hm3 := nt_len g1.1 g2 g3 hy
  rw [hn] at h1 hn3
  rw [hm] at g1 hm3
  rw [hn, hm]
  have HX := Lib.hid (And.intro hn h3)
  have HY := Lib.hid (And.intro hm g3)
  have H1 := Lib.hid h1
  have G1 := Lib.hid g1
  have TC := Lib.hid (fun (a : Option Addr) (n c : Nat) O W h hl => trim_calls a n c O W h hl)
  clear h h' h1 h2 h3 g1 g2 g3 hx hy hn hm
  go_enter Tryz.func63, Tryz.ntmps63
  go_wp2
  go_loopw [5, 6, 7] (fun s5 s6 s7 wr => ∃ (i c : Nat) (O : List Nat), s7 = .int .i64 (i : Int) ∧ s6 = .int .u64 (c : Int) ∧ c ≤ 1 ∧ i ≤ 302 ∧ Hid (OwnW wr w.heap.size s5 O ∧ O.length = i ∧ wval O + 2 ^ (32 * i) * c = wval (L.take i) + wval (M.take i) ∧ Below w.heap.size w wr)) (fun _ _ s7 _ => 302 - (intOf s7).toNat)
  case atStart => exact ⟨0, 0, [], rfl, rfl, by omega, by omega, ownW_nil _ _, rfl, by simp [wval], Below.refl _ _⟩
  case round =>
    obtain ⟨i, c, O, rfl, rfl, hc, hi, HK⟩ := hrel
    have hc1 : c = 0 ∨ c = 1 := by omega
    by_cases hgo : i < n ∨ i < m ∨ 0 < c
    · have hi2 : i + 1 ≤ 302 := by
        rcases hgo with h | h | h
        · omega
        · omega
        · by_cases h3 : 301 ≤ i
          · exfalso
            have e := HK.out.2.2.1
            rw [wval_all (by rw [HX.out.1]; omega), wval_all (by rw [HY.out.1]; omega)] at e
            have e1 := wval_lt H1.out.1
            have e2 := wval_lt G1.out.1
            rw [HX.out.1] at e1
            rw [HY.out.1] at e2
            have p1 := Nat.pow_le_pow_right (n := 2) (by decide) (show 32 * n ≤ 9600 by omega)
            have p2 := Nat.pow_le_pow_right (n := 2) (by decide) (show 32 * m ≤ 9600 by omega)
            have p3 := pow_dbl (show 9600 + 1 ≤ 32 * i by omega)
            have p4 : 2 ^ (32 * i) * 1 ≤ 2 ^ (32 * i) * c := Nat.mul_le_mul_left _ (by omega)
            generalize (2 : Nat) ^ 9600 = P at *
            omega
          · omega
      have N1 := Lib.hid (nat_calls a n cap L i wr (H1.out.below HK.out.2.2.2))
      have N2 := Lib.hid (nat_calls b m cp M i wr (G1.out.below HK.out.2.2.2))
      obtain ⟨s, hs⟩ : ∃ s, L.getD i 0 + M.getD i 0 + c = s := ⟨_, rfl⟩
      have HST := Lib.hid (carry_step HK.out.2.1 HK.out.2.2.1 hs)
      have hd1 := H1.out.1.at i
      have hf1 := G1.out.1.at i
      have HSZ := Lib.hid HK.out.2.2.2.size
      have HLN := Lib.hid (show O.length + [s % 4294967296].length ≤ 1000 by rw [HK.out.2.1]; simp; omega)
      have HB := Lib.hid (fun e (he : u5.ownBlock = some e) => HK.out.1.base e he)
      generalize L.getD i 0 = d at *
      generalize M.getD i 0 = f at *
      obtain ⟨q, hq⟩ : ∃ q, s / 4294967296 = q := ⟨_, rfl⟩
      obtain ⟨r, hr⟩ : ∃ r, s % 4294967296 = r := ⟨_, rfl⟩
      rw [hq, hr] at HST
      rw [hr] at HLN
      have hr32 : r < 4294967296 := by omega
      have hq1 : q ≤ 1 := by omega
      have hsi : (d : Int) + (f : Int) + (c : Int) = (s : Int) := by omega
      have hqi : (s : Int) / 4294967296 = (q : Int) := by omega
      have hwr := wrap32n s r hr
      have hsl : s < 18446744073709551616 := by omega
      clear hq hr hs
      have hgo1 : i < n ∨ (¬ i < n ∧ i < m) ∨ (¬ i < n ∧ ¬ i < m ∧ 0 < c) := by omega
      rcases hgo1 with g | ⟨g, g'⟩ | ⟨g, g', g''⟩
      · have gi : (i : Int) < (n : Int) := by omega
        clear g hgo
        go_wp2_with (first
          | (go_at_call_of 86 (Value.slice a n cap); go_must (refine N1.out.mono ?_; rintro e w1 ⟨rfl, rfl⟩))
          | (go_at_call 86; go_must (refine N2.out.mono ?_; rintro e w1 ⟨rfl, rfl⟩))
          | (at_builtin; go_must (refine wpList_append_W _ rfl _ _ 50 Tryz.underlying50 rfl w.heap.size _ O [r] rfl (HK.out.1.below ((Below.refl _ _).alloc (Nat.le_refl _) _) (Nat.le_refl _)) _ _ _ rfl (ws_lits _ [r] _ 1 (by simp) (Dig.one hr32) rfl (by decide)) HLN.out (by have := HSZ.out; simp; omega) ?_; intro v9 w3 hown9 hg9)))
        have hBf : Below w.heap.size w w3 := (HK.out.2.2.2.alloc HSZ.out _).grown hg9 (by have := HSZ.out; simp; omega) HB.out
        go_roundw
        case rel => exact ⟨i + 1, q, O ++ [r], by go_num, rfl, hq1, hi2, hown9, by rw [List.length_append, HK.out.2.1]; rfl, HST.out, hBf⟩
        case measure => simp [intOf]; omega
      · have gi : ¬ (i : Int) < (n : Int) := by omega
        have gi' : (i : Int) < (m : Int) := by omega
        clear g g' hgo
        go_wp2_with (first
          | (go_at_call_of 86 (Value.slice a n cap); go_must (refine N1.out.mono ?_; rintro e w1 ⟨rfl, rfl⟩))
          | (go_at_call 86; go_must (refine N2.out.mono ?_; rintro e w1 ⟨rfl, rfl⟩))
          | (at_builtin; go_must (refine wpList_append_W _ rfl _ _ 50 Tryz.underlying50 rfl w.heap.size _ O [r] rfl (HK.out.1.below ((Below.refl _ _).alloc (Nat.le_refl _) _) (Nat.le_refl _)) _ _ _ rfl (ws_lits _ [r] _ 1 (by simp) (Dig.one hr32) rfl (by decide)) HLN.out (by have := HSZ.out; simp; omega) ?_; intro v9 w3 hown9 hg9)))
        have hBf : Below w.heap.size w w3 := (HK.out.2.2.2.alloc HSZ.out _).grown hg9 (by have := HSZ.out; simp; omega) HB.out
        go_roundw
        case rel => exact ⟨i + 1, q, O ++ [r], by go_num, rfl, hq1, hi2, hown9, by rw [List.length_append, HK.out.2.1]; rfl, HST.out, hBf⟩
        case measure => simp [intOf]; omega
      · have gi : ¬ (i : Int) < (n : Int) := by omega
        have gi' : ¬ (i : Int) < (m : Int) := by omega
        have gc : (0 : Int) < (c : Int) := by omega
        clear g g' g'' hgo
        go_wp2_with (first
          | (go_at_call_of 86 (Value.slice a n cap); go_must (refine N1.out.mono ?_; rintro e w1 ⟨rfl, rfl⟩))
          | (go_at_call 86; go_must (refine N2.out.mono ?_; rintro e w1 ⟨rfl, rfl⟩))
          | (at_builtin; go_must (refine wpList_append_W _ rfl _ _ 50 Tryz.underlying50 rfl w.heap.size _ O [r] rfl (HK.out.1.below ((Below.refl _ _).alloc (Nat.le_refl _) _) (Nat.le_refl _)) _ _ _ rfl (ws_lits _ [r] _ 1 (by simp) (Dig.one hr32) rfl (by decide)) HLN.out (by have := HSZ.out; simp; omega) ?_; intro v9 w3 hown9 hg9)))
        have hBf : Below w.heap.size w w3 := (HK.out.2.2.2.alloc HSZ.out _).grown hg9 (by have := HSZ.out; simp; omega) HB.out
        go_roundw
        case rel => exact ⟨i + 1, q, O ++ [r], by go_num, rfl, hq1, hi2, hown9, by rw [List.length_append, HK.out.2.1]; rfl, HST.out, hBf⟩
        case measure => simp [intOf]; omega
    · have hc0 : c = 0 := by omega
      subst hc0
      have gi : ¬ (i : Int) < (n : Int) := by omega
      have gi' : ¬ (i : Int) < (m : Int) := by omega
      have HV := Lib.hid (show wval O = x + y by
        have e := HK.out.2.2.1
        rw [wval_all (by rw [HX.out.1]; omega), wval_all (by rw [HY.out.1]; omega), HX.out.2, HY.out.2] at e
        simpa using e)
      obtain ⟨oa, ocp, hu5⟩ := HK.out.1.ws.form
      rw [HK.out.2.1] at hu5
      subst hu5
      go_wp2_with (go_at_call 72; go_must (refine (TC.out _ _ _ O _ HK.out.1.ws (by rw [HK.out.2.1]; omega)).mono ?_; rintro e w1 ⟨⟨v, rfl, hv⟩, hb⟩))
      go_ret
      exact ⟨⟨_, rfl, by rw [← HV.out]; exact hv⟩, HK.out.2.2.2.trans (hb.mono HK.out.2.2.2.size)⟩
set_option maxRecDepth 100000 in
set_option maxHeartbeats 2000000 in
theorem nsub_calls (v u : Value) (x y : Nat) (w : World) (h : Nt w v x) (h' : Nt w u y) (hx : sz x ≤ 9600) (hy : sz y ≤ 9600) :
    Calls Tryz.prog 64 #[v, u] w fun e w' => (∃ z, e = .returned (.tuple #[z, .bool (decide (y ≤ x))]) ∧ Nt w' z (x - y)) ∧ Below w.heap.size w w' := by
  have CM := Lib.hid (ncmp_calls v u x y w h h' hx hy)
  obtain ⟨L, a, cap, rfl, h1, h2, h3⟩ := h.ws
  obtain ⟨M, b, cp, rfl, g1, g2, g3⟩ := h'.ws
  by_cases hxy : y ≤ x
  · rw [decide_eq_true hxy]
    have hc0 : ¬ cmpI x y < 0 := by
      rcases Nat.lt_or_ge y x with h | h
      · rw [cmpI_gt h]; decide
      · rw [cmpI_eq (by omega)]; decide
    generalize cmpI x y = ci at *
    obtain ⟨n, hn⟩ : ∃ n, L.length = n := ⟨_, rfl⟩
    obtain ⟨m, hm⟩ : ∃ m, M.length = m := ⟨_, rfl⟩
    have hn3 := nt_len h1.1 h2 h3 hx
    have hm3 := nt_len g1.1 g2 g3 hy
    rw [hn] at h1 hn3 CM
    rw [hm] at g1 hm3 CM
    rw [hn, hm]
    have HX := Lib.hid (And.intro hn h3)
    have HY := Lib.hid (And.intro hm g3)
    have H1 := Lib.hid h1
    have G1 := Lib.hid g1
    have HXY := Lib.hid hxy
    have TC := Lib.hid (fun (a : Option Addr) (n c : Nat) O W h hl => trim_calls a n c O W h hl)
    clear h h' h1 h2 h3 g1 g2 g3 hx hy hn hm hxy
    go_enter Tryz.func64, Tryz.ntmps64
    go_wp2_with (go_at_call 49; go_must (refine CM.out.mono ?_; rintro e w0 ⟨rfl, hb0⟩; have HB0 := Lib.hid hb0; clear hb0))
    go_loopw [6, 7, 8] (fun s5 s6 s7 wr => ∃ (i c : Nat) (O : List Nat), s7 = .int .i64 (i : Int) ∧ s6 = .int .u64 (c : Int) ∧ c ≤ 1 ∧ i ≤ 302 ∧ Hid (OwnW wr w.heap.size s5 O ∧ O.length = i ∧ wval O + wval (M.take i) = wval (L.take i) + 2 ^ (32 * i) * c ∧ Below w.heap.size w wr)) (fun _ _ s7 _ => 302 - (intOf s7).toNat)
    case atStart => exact ⟨0, 0, [], rfl, rfl, by omega, by omega, ownW_nil _ _, rfl, by simp [wval], HB0.out⟩
    case round =>
      obtain ⟨i, c, O, rfl, rfl, hc, hi, HK⟩ := hrel
      have hc1 : c = 0 ∨ c = 1 := by omega
      by_cases hgo : i < n ∨ i < m
      · have hi2 : i + 1 ≤ 302 := by omega
        have N1 := Lib.hid (nat_calls a n cap L i wr (H1.out.below HK.out.2.2.2))
        have N2 := Lib.hid (nat_calls b m cp M i wr (G1.out.below HK.out.2.2.2))
        have hd1 := H1.out.1.at i
        have hf1 := G1.out.1.at i
        obtain ⟨s, hs⟩ : ∃ s, L.getD i 0 + 4294967296 = s + M.getD i 0 + c := ⟨L.getD i 0 + 4294967296 - M.getD i 0 - c, by omega⟩
        have HST := Lib.hid (borrow_step HK.out.2.1 HK.out.2.2.1 hs (by omega))
        have HSZ := Lib.hid HK.out.2.2.2.size
        have HLN := Lib.hid (show O.length + [s % 4294967296].length ≤ 1000 by rw [HK.out.2.1]; simp; omega)
        have HB := Lib.hid (fun e (he : u6.ownBlock = some e) => HK.out.1.base e he)
        generalize L.getD i 0 = d at *
        generalize M.getD i 0 = f at *
        obtain ⟨q, hq⟩ : ∃ q, s / 4294967296 = q := ⟨_, rfl⟩
        obtain ⟨r, hr⟩ : ∃ r, s % 4294967296 = r := ⟨_, rfl⟩
        rw [hq, hr] at HST
        rw [hr] at HLN
        have hr32 : r < 4294967296 := by omega
        have hq1 : q ≤ 1 := by omega
        obtain ⟨q', hq'⟩ : ∃ q', 1 - q = q' := ⟨_, rfl⟩
        rw [hq'] at HST
        have hsi : (d : Int) + 4294967296 - (f : Int) - (c : Int) = (s : Int) := by omega
        have hqi : (s : Int) / 4294967296 = (q : Int) := by omega
        have hqj : (1 : Int) - (q : Int) = (q' : Int) := by omega
        have hwr := wrap32n s r hr
        have hsl : s < 18446744073709551616 := by omega
        clear hq hr hs hq'
        have hgo1 : i < n ∨ (¬ i < n ∧ i < m) := by omega
        rcases hgo1 with g | ⟨g, g'⟩
        · have gi : (i : Int) < (n : Int) := by omega
          clear g hgo
          go_wp2_with (first
            | (go_at_call_of 86 (Value.slice a n cap); go_must (refine N1.out.mono ?_; rintro e w1 ⟨rfl, rfl⟩))
            | (go_at_call 86; go_must (refine N2.out.mono ?_; rintro e w1 ⟨rfl, rfl⟩))
            | (at_builtin; go_must (refine wpList_append_W _ rfl _ _ 50 Tryz.underlying50 rfl w.heap.size _ O [r] rfl (HK.out.1.below ((Below.refl _ _).alloc (Nat.le_refl _) _) (Nat.le_refl _)) _ _ _ rfl (ws_lits _ [r] _ 1 (by simp) (Dig.one hr32) rfl (by decide)) HLN.out (by have := HSZ.out; simp; omega) ?_; intro v9 w3 hown9 hg9)))
          have hBf : Below w.heap.size w w3 := (HK.out.2.2.2.alloc HSZ.out _).grown hg9 (by have := HSZ.out; simp; omega) HB.out
          go_roundw
          case rel => exact ⟨i + 1, q', O ++ [r], by go_num, rfl, by omega, hi2, hown9, by rw [List.length_append, HK.out.2.1]; rfl, HST.out, hBf⟩
          case measure => simp [intOf]; omega
        · have gi : ¬ (i : Int) < (n : Int) := by omega
          have gi' : (i : Int) < (m : Int) := by omega
          clear g g' hgo
          go_wp2_with (first
            | (go_at_call_of 86 (Value.slice a n cap); go_must (refine N1.out.mono ?_; rintro e w1 ⟨rfl, rfl⟩))
            | (go_at_call 86; go_must (refine N2.out.mono ?_; rintro e w1 ⟨rfl, rfl⟩))
            | (at_builtin; go_must (refine wpList_append_W _ rfl _ _ 50 Tryz.underlying50 rfl w.heap.size _ O [r] rfl (HK.out.1.below ((Below.refl _ _).alloc (Nat.le_refl _) _) (Nat.le_refl _)) _ _ _ rfl (ws_lits _ [r] _ 1 (by simp) (Dig.one hr32) rfl (by decide)) HLN.out (by have := HSZ.out; simp; omega) ?_; intro v9 w3 hown9 hg9)))
          have hBf : Below w.heap.size w w3 := (HK.out.2.2.2.alloc HSZ.out _).grown hg9 (by have := HSZ.out; simp; omega) HB.out
          go_roundw
          case rel => exact ⟨i + 1, q', O ++ [r], by go_num, rfl, by omega, hi2, hown9, by rw [List.length_append, HK.out.2.1]; rfl, HST.out, hBf⟩
          case measure => simp [intOf]; omega
      · have gi : ¬ (i : Int) < (n : Int) := by omega
        have gi' : ¬ (i : Int) < (m : Int) := by omega
        have HV := Lib.hid (show wval O = x - y by
          have e := HK.out.2.2.1
          rw [wval_all (L := M) (by rw [HY.out.1]; omega), wval_all (L := L) (by rw [HX.out.1]; omega), HX.out.2, HY.out.2] at e
          have e1 := wval_lt HK.out.1.1
          rw [HK.out.2.1] at e1
          have hle := HXY.out
          rcases hc1 with rfl | rfl
          · omega
          · generalize 2 ^ (32 * i) = P at *
            omega)
        obtain ⟨oa, ocp, hu5⟩ := HK.out.1.ws.form
        rw [HK.out.2.1] at hu5
        subst hu5
        go_wp2_with (go_at_call 72; go_must (refine (TC.out _ _ _ O _ HK.out.1.ws (by rw [HK.out.2.1]; omega)).mono ?_; rintro e w1 ⟨⟨v, rfl, hv⟩, hb⟩))
        exact bodyPost_ret (v := .tuple #[v, .bool true]) (by simp [results, Tryz.results64, go_sem]) rfl ⟨⟨_, rfl, by rw [← HV.out]; exact hv⟩, HK.out.2.2.2.trans (hb.mono HK.out.2.2.2.size)⟩
  · rw [decide_eq_false hxy, show x - y = 0 by omega]
    rw [cmpI_lt (by omega)] at CM
    clear h h' h1 h2 h3 g1 g2 g3 hx hy hxy
    go_enter Tryz.func64, Tryz.ntmps64
    go_wp2_with (go_at_call 49; go_must (refine CM.out.mono ?_; rintro e w0 ⟨rfl, hb0⟩))
    exact bodyPost_ret (v := .tuple #[.slice none 0 0, .bool false]) (by simp [results, Tryz.results64, go_sem]) rfl ⟨⟨_, rfl, nt_zero _⟩, hb0⟩
end Go.Proofs.YtmmligbkecilfaaGreatDoor
