/- The plain functions, read: Same of an expression and itself. -/
import Derived.Test.YtogfofcocidmkaaPuE
set_option linter.unusedVariables false
set_option linter.unusedSimpArgs false
namespace Go.Proofs.Ytogfofcocidmkaa.Pu
open Go.RowKit Go.Proofs Ev
theorem lp52 {f : S27 → S27 → Option Bool} {l : List S27} (hl : l.length ≤ 100000) (hf : ∀ x ∈ l, f x x = some true) : ∀ (n i : Nat), i ≤ l.length → l.length - i < n → ∃ v, lp52_4 f n l l (i : Int) = some (Sum.inr v) := by
  intro n
  induction n with
  | zero => intro i h1 h2; omega
  | succ n ih =>
    intro i h1 h2
    unfold lp52_4 lb52_4
    dsimp only
    by_cases hi : i < l.length
    · have e1 : l.getD (i : Int).toNat z27 = l[i] := by simp [List.getD_eq_getElem?_getD, hi]
      have hw : (decide (0 ≤ (i : Int)) && decide ((i : Int) < (l.length : Int))) = true := by simp; omega
      rw [cond_t _ _ (dec_t (by omega)), when_t _ hw, when_t _ hw, e1, eta27, hf _ (List.getElem_mem hi), Option.bind_some, Bool.not_true, cond_false, wn i (by omega)]
      exact ih (i + 1) hi (by omega)
    · rw [cond_f _ _ (dec_f (by omega))]
      exact ⟨_, rfl⟩
theorem g16_ok : ∀ (n : Nat), (∀ e : S27, 2 * nds e ≤ n → nds e ≤ 100000 → (g16 n).f16 e e = some true) ∧ (∀ l : List S27, 2 * ndss l + 1 ≤ n → ndss l ≤ 100000 → (g16 n).f52 l l = some true) := by
  intro n
  induction n with
  | zero => exact ⟨fun e h => (by have := nds_pos e; omega), fun l h => (by omega)⟩
  | succ n ih =>
    refine ⟨fun e h hs => ?_, fun l h hs => ?_⟩
    · show b16 (g16 n).f52 e e some = _
      unfold b16
      have h1 := nds_c5 e
      have e3 : (!(e.c3.toList == e.c3.toList)) = false := by simp
      have e4 : (!(e.c4.toList == e.c4.toList)) = false := by simp
      rw [show (e.c0 != e.c0) = false from by simp, cond_false, show (e.c1 != e.c1) = false from by simp, cond_false, show (e.c2 != e.c2) = false from by simp, cond_false, e3, cond_false, e4, cond_false, ih.2 e.c5 (by omega) (by omega)]
      rfl
    · show b52 (g16 n).f16 (lp52_4 (g16 n).f16 big) l l some = _
      unfold b52
      have h2 := ndss_len l
      obtain ⟨v, hv⟩ := lp52 (f := (g16 n).f16) (l := l) (by omega) (fun x hx => ih.1 x (by have := ndss_mem _ _ hx; omega) (by have := ndss_mem _ _ hx; omega)) big 0 (by omega) (big_lt (by omega))
      rw [show ((0 : Nat) : Int) = 0 from rfl] at hv
      rw [show ((l.length : Int) != (l.length : Int)) = false from by simp, cond_false, hv]
      rfl
theorem t16 (e : S27) (h : nds e ≤ 100000) : s16 e e = some true := (g16_ok big).1 e (by have : 2 * nds e < big := big_lt (by omega); omega) h
end Go.Proofs.Ytogfofcocidmkaa.Pu
