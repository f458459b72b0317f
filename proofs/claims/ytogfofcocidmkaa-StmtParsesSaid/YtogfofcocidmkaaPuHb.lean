/- The plain functions, read: Bad. -/
import Derived.Test.YtogfofcocidmkaaPuG
set_option linter.unusedVariables false
set_option linter.unusedSimpArgs false
namespace Go.Proofs.Ytogfofcocidmkaa.Pu
open Go.RowKit Go.Proofs Ev
def bad (l : List S51) : Option S51 := l.find? fun t => t.c0 == 5
theorem lp74 (l : List S51) (hl : l.length ≤ 100000) : ∀ (n i : Nat), i ≤ l.length → l.length - i < n →
    ∃ r, lp74_75_2 s75 n (l.length : Int) l (i : Int) = some r ∧ (match r with | .inl o => ∃ j : Nat, o.2 = (j : Int) ∧ j < l.length ∧ bad (l.drop i) = some (l.getD j z51) | .inr _ => bad (l.drop i) = none) := by
  intro n
  induction n with
  | zero => intro i h1 h2; omega
  | succ n ih =>
    intro i h1 h2
    unfold lp74_75_2 lb74_75_2
    dsimp only
    by_cases hi : i < l.length
    · have e1 : l.getD (i : Int).toNat z51 = l[i] := by simp [List.getD_eq_getElem?_getD, hi]
      rw [cond_t _ _ (dec_t (by omega)), when_t _ (by simp; omega), e1, show s75 l[i] = some (l[i].c0 == 5) from rfl, Option.bind_some, wn i (by omega), List.drop_eq_getElem_cons hi]
      cases hb : (l[i].c0 == 5) with
      | true =>
        refine ⟨_, rfl, i, rfl, hi, ?_⟩
        unfold bad
        rw [List.find?_cons, hb]
        simp [List.getD_eq_getElem?_getD, hi]
      | false =>
        obtain ⟨r, h3, h4⟩ := ih (i + 1) hi (by omega)
        refine ⟨r, h3, ?_⟩
        unfold bad at h4 ⊢
        rw [List.find?_cons, hb]
        exact h4
    · rw [cond_f _ _ (dec_f (by omega))]
      refine ⟨_, rfl, ?_⟩
      have : l.drop i = [] := List.drop_eq_nil_of_le (by omega)
      rw [this]
      rfl
theorem t49 (l : List S51) (hl : l.length ≤ 100000) : s49 l = some (match bad l with | some t => (t, true) | none => (⟨0, 0, 0⟩, false)) := by
  unfold s49 b49 s74_75 b74_75
  obtain ⟨r, h1, h2⟩ := lp74 l hl big 0 (by omega) (big_lt (by omega))
  rw [show ((0 : Nat) : Int) = 0 from rfl] at h1
  rw [h1]
  cases r with
  | inl o =>
    obtain ⟨j, h3, h4, h5⟩ := h2
    rw [List.drop_zero] at h5
    rw [h5]
    simp only [Option.bind_some, Sum.elim_inl, h3]
    rw [cond_f _ _ (dec_f (by omega)), when_t _ (by simp; omega)]
    simp
  | inr o =>
    rw [List.drop_zero] at h2
    simp only at h2
    rw [h2]
    rfl
end Go.Proofs.Ytogfofcocidmkaa.Pu
