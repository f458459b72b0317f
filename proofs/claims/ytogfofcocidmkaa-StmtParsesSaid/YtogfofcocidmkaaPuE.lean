/- The plain functions, read: the parser of expressions always answers, as the relation says. -/
import Derived.Test.YtogfofcocidmkaaPuD
set_option linter.unusedVariables false
set_option linter.unusedSimpArgs false
namespace Go.Proofs.Ytogfofcocidmkaa.Pu
open Go.RowKit Go.Proofs Ev
section
variable {b : List Int} {l : List S51}
theorem wn (i : Nat) (h : i ≤ 1000000) : w64 ((i : Int) + 1) = ((i + 1 : Nat) : Int) := by rw [w64_id (by omega) (by omega)]; rfl
theorem wp (i : Nat) (h : i ≤ 1000000) (h0 : 1 ≤ i) : w64 ((i : Int) - 1) = ((i - 1 : Nat) : Int) := by rw [w64_id (by omega) (by omega)]; omega
theorem c29 (i d : Nat) : s29 (cur b l i d) = some (decide (l.length ≤ i)) := t29 i d
theorem c26 (i d : Nat) : s26 (cur b l i d) = some (ps b l i) := t26 i d
theorem c25 (g : Good b l) (i d : Nat) : s25 (cur b l i d) = some (tx b l i) := t25 g i d
theorem c28 (i d : Nat) : s28 (cur b l i d) = some (kd b l i) := t28 i d
theorem nx (i d : Nat) (h : i ≤ 1000000) : (⟨(cur b l i d).c0, (cur b l i d).c1, w64 ((cur b l i d).c2 + 1), (cur b l i d).c3⟩ : S98) = cur b l (i + 1) d := by
  unfold cur
  simp only [wn i h]
theorem c30 (g : Good b l) {w : ByteArray} (hw : eqs w ⟨#[]⟩ = false) (i d : Nat) (h : i ≤ 1000000) : s30 w (cur b l i d) = some (if eqs (tx b l i) w = true then (true, cur b l (i + 1) d) else (false, cur b l i d)) := by
  unfold s30 b30
  have hw' : (w.toList == (⟨#[]⟩ : ByteArray).toList) = false := hw
  rw [hw', cond_false, c25 g, Option.bind_some, nx i d h]
  show cond (!(eqs (tx b l i) w)) _ _ = _
  cases eqs (tx b l i) w <;> rfl
theorem c31 (g : Good b l) (i d : Nat) (h : i ≤ 1000000) : s31 (cur b l i d) = some (if idn (tx b l i) = true then (tx b l i, true, cur b l (i + 1) d) else (⟨#[]⟩, false, cur b l i d)) := by
  unfold s31 b31
  rw [c25 g, Option.bind_some, t59, Option.bind_some, nx i d h]
  cases idn (tx b l i) <;> rfl
theorem c99 (i d : Nat) (h : i ≤ 1000000) (hd : d ≤ 1000000) : s99 (cur b l i d) = some (if 32 ≤ d then (12, cur b l i d) else (0, cur b l (i + 1) (d + 1))) := by
  unfold s99 b99
  show cond (decide ((d : Int) ≥ 32)) (some (12, cur b l i d)) (some (0, (⟨b, l, w64 ((i : Int) + 1), w64 ((d : Int) + 1)⟩ : S98))) = _
  rw [wn i h, wn d hd]
  by_cases h' : 32 ≤ d
  · rw [dec_t (by omega), cond_true, if_pos h']
  · rw [dec_f (by omega), cond_false, if_neg h']
    rfl
theorem c113 (g : Good b l) (i d : Nat) (h : i ≤ 1000000) (hd : 1 ≤ d) (hd2 : d ≤ 1000000) : s113 (cur b l i d) = some (if eqs (tx b l i) ⟨#[41]⟩ = true then (0, cur b l (i + 1) (d - 1)) else (11, cur b l i d)) := by
  unfold s113 b113
  rw [c30 g (by decide +kernel) i d h, Option.bind_some]
  cases eqs (tx b l i) ⟨#[41]⟩ with
  | true =>
    show some ((0 : Int), (⟨b, l, ((i + 1 : Nat) : Int), w64 ((d : Int) - 1)⟩ : S98)) = _
    rw [wp d hd2 hd]
    rfl
  | false => rfl
theorem c85 (e : S27) (told j d : Nat) (h : nds e ≤ 100000) : s85 e (told : Int) (cur b l j d) = some ((heldR e told j).1, (heldR e told j).2.1, cur b l (heldR e told j).2.2 d) := by
  rw [t85 e told _ h]
  unfold heldR
  by_cases hh : 32 < hgt e
  · rw [if_pos hh, if_pos hh]; rfl
  · rw [if_neg hh, if_neg hh]
theorem lp108 (q : List Int) (hq : q.length ≤ 1000000) : ∀ (n i : Nat) (v : Int), i ≤ q.length → q.length - i < n →
    ∃ r, lp108_3 s25 s26 n (q.length : Int) q v (i : Int) = some r ∧ (match r with | .inl o => numR (q.drop i) v = none ∧ o.2.2 = ((18 : Int), (0 : Int), (0 : Int), (0 : Int), (⟨#[]⟩ : ByteArray), (⟨#[]⟩ : ByteArray)) | .inr o => numR (q.drop i) v = some o.1) := by
  intro n
  induction n with
  | zero => intro i v h1 h2; omega
  | succ n ih =>
    intro i v h1 h2
    unfold lp108_3 lb108_3
    dsimp only
    by_cases hi : i < q.length
    · have e1 : q.getD (i : Int).toNat 0 = q[i] := by simp [List.getD_eq_getElem?_getD, hi]
      rw [cond_t _ _ (dec_t (by omega)), when_t _ (by simp; omega), e1, wn i (by omega), List.drop_eq_getElem_cons hi]
      by_cases hv : v > w64 ((w64 (9223372036854775807 - w64 (w8 (q[i] - 48)))).tdiv 10)
      · rw [cond_t _ _ (dec_t hv)]
        exact ⟨_, rfl, by simp only [numR]; rw [if_pos hv], rfl⟩
      · rw [cond_f _ _ (dec_f hv)]
        obtain ⟨r, h3, h4⟩ := ih (i + 1) (w64 (w64 (10 * v) + w64 (w8 (q[i] - 48)))) hi (by omega)
        refine ⟨r, h3, ?_⟩
        cases r with
        | inl o => exact ⟨by simp only [numR]; rw [if_neg hv]; exact h4.1, h4.2⟩
        | inr o => simp only [numR]; rw [if_neg hv]; exact h4
    · rw [cond_f _ _ (dec_f (by omega))]
      refine ⟨_, rfl, ?_⟩
      have : q.drop i = [] := List.drop_eq_nil_of_le (by omega)
      rw [this]
      rfl
theorem strOf_size (l : List Int) : (strOf l).size = l.length := by
  unfold strOf
  have : ∀ (l : List Int) (r : ByteArray), (l.foldl (fun r n => r.push (UInt8.ofNat n.toNat)) r).size = r.size + l.length := by
    intro l
    induction l with
    | nil => intro r; simp
    | cons x xs ih => intro r; rw [List.foldl_cons, ih]; simp [ByteArray.size_push]; omega
  rw [this]
  simp
theorem tx_size (g : Good b l) (i : Nat) : (tx b l i).size ≤ 100000 := by
  unfold tx
  split
  · rw [strOf_size]
    simp only [List.length_drop, List.length_take]
    have := g.len
    omega
  · exact Nat.zero_le _
theorem c108 (g : Good b l) (i d : Nat) (h : i ≤ 1000000) : s108 (cur b l i d) = some (match numR (bytesOf (tx b l i)) 0 with | some v => (⟨0, ps b l i, v, ⟨#[]⟩, ⟨#[]⟩, []⟩, 0, cur b l (i + 1) d) | none => (z27, 18, cur b l i d)) := by
  unfold s108 b108
  rw [c25 g, Option.bind_some, c26, nx i d h]
  have hs := tx_size g i
  obtain ⟨r, h1, h2⟩ := lp108 (bytesOf (tx b l i)) (by rw [bytesOf_len]; omega) big 0 0 (by omega) (big_lt (by rw [bytesOf_len]; omega))
  rw [show ((0 : Nat) : Int) = 0 from rfl] at h1
  rw [h1, Option.bind_some]
  rw [List.drop_zero] at h2
  cases r with
  | inl o =>
    obtain ⟨h2, h3⟩ := h2
    rw [h2]
    simp only [Sum.elim_inl, h3]
    rfl
  | inr o =>
    rw [h2]
    simp only [Sum.elim_inr, Option.bind_some]
/-- An answer of the plain function, as the relation has it. -/
def Res (b : List Int) (l : List S51) (nt : NT) (i d : Nat) (o : Option (S27 × Int × S98)) : Prop :=
  ∃ e err j d', o = some (e, err, cur b l j d') ∧ Bs b l nt i d (e, err, j) ∧ (err = 0 → d' = d) ∧ d' ≤ 32
theorem b0 {x : Int} (h : x ≠ 0) : (x == 0) = false := by simpa using h
theorem b0' {x : Int} (h : x ≠ 0) : (x != 0) = true := by simpa using h
end
end Go.Proofs.Ytogfofcocidmkaa.Pu
