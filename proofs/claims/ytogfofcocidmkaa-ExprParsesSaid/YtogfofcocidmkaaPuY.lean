/- The plain functions, read: Expr of a cursor. -/
import Derived.Test.YtogfofcocidmkaaPuG
set_option linter.unusedVariables false
set_option linter.unusedSimpArgs false
namespace Go.Proofs.Ytogfofcocidmkaa.Pu
open Go.RowKit Go.Proofs Ev
theorem t34 {b : List Int} {l : List S51} (g : Good b l) (i d : Nat) (hi : i ≤ l.length) (hd : d ≤ 32) : ∃ e err j, s34 (cur b l i d) = some (e, err, cur b l j d) ∧ Bs b l (.bin 1) i d (e, err, j) := by
  unfold s34 b34
  obtain ⟨e, err, j, d', h1, h2, _, _⟩ := t63 g i d hi hd
  rw [h1, Option.bind_some, eta27]
  exact ⟨e, err, j, rfl, h2⟩
end Go.Proofs.Ytogfofcocidmkaa.Pu
