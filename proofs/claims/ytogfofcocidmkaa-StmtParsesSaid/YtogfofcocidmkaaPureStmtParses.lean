/- StmtParses: its plain function says true of all bytes. No condition. -/
import Derived.Test.YtogfofcocidmkaaPuX
import Derived.Test.YtogfofcocidmkaaPuLk
import Derived.KernelRfl
set_option linter.unusedVariables false
set_option linter.unusedSimpArgs false
namespace Go.Proofs.Ytogfofcocidmkaa.stmtParses
open Go.RowKit Go.Proofs Ev Pu
theorem aw : s37 = some true := by kernel_rfl
/-- Both parsers say the same. -/
theorem both {b : List Int} (hB : Byt b) (hb : b.length ≤ 2000) : ∃ L pos err, s38 b = some (L, pos, err) ∧ s39 (strOf b) = some (L, pos, err) ∧ nstl L ≤ 100000 := by
  have hch := (toks_chain b).le
  obtain ⟨h51, hnn⟩ := t51 hB (by omega)
  unfold s38 b38 s39 b39
  rw [t50 b (by omega), Option.bind_some, t49 _ (by omega), Option.bind_some, h51, Option.bind_some]
  have hz : nstl [] ≤ 100000 := by simp [nstl]
  cases hbad : bad (toks b) with
  | some t =>
    have := hnn t hbad
    dsimp only
    rw [cond_true, cond_t _ _ (dec_t this)]
    exact ⟨_, _, _, rfl, rfl, hz⟩
  | none =>
    dsimp only
    rw [cond_false, cond_f _ _ (dec_f (by omega)), t22 b (by omega), Option.bind_some, t21 hB (by omega), Option.bind_some]
    have g := good b (by omega)
    have hD : DigL b (live (toks b)) := digL hB
    generalize live (toks b) = l at g hD
    have hlen := g.llen
    have key := t48 g hD 0 (by omega) 0 ⟨by omega, by omega⟩
    rcases key with ⟨L, j, p1, p2, p3, p4, p5⟩ | ⟨err, j, p0, p1, p2, p3⟩
    · have p1' : s48 0 (⟨b, l, 0, 0⟩ : S98) = some (L, 0, cur b l j 0) := p1
      have p2' : s67 (row b l) 0 0 = some (okL L j) := p2
      rw [p1', Option.bind_some, p2', Option.bind_some]
      dsimp only [okL]
      rw [show ((0 : Int) == 0) = true from rfl, cond_true, show ((0 : Int) != 0) = false from rfl, cond_false, show s29 (cur b l j 0) = some (decide (l.length ≤ j)) from t29 j 0, Option.bind_some]
      by_cases hj : l.length ≤ j
      · rw [dec_t hj, Bool.not_true, cond_false, cond_false]
        erw [cond_f _ _ (dec_f (show ¬ ((j : Int) < ((row b l).c1.length : Int)) by show ¬ ((j : Int) < (l.length : Int)); omega))]
        rw [strOf_size]
        exact ⟨_, _, _, rfl, rfl, by omega⟩
      · rw [dec_f hj, Bool.not_false, cond_true, c26, Option.bind_some, cond_false]
        erw [cond_t _ _ (dec_t (show ((j : Int) < ((row b l).c1.length : Int)) by show ((j : Int) < (l.length : Int)); omega))]
        rw [t27, Option.bind_some]
        exact ⟨_, _, _, rfl, rfl, hz⟩
    · have p1' : s48 0 (⟨b, l, 0, 0⟩ : S98) = some ([], err, cur b l j 0) := p1
      have p2' : s67 (row b l) 0 0 = some (er j err) := p2
      rw [p1', Option.bind_some, p2', Option.bind_some]
      dsimp only [er]
      rw [b0 p0, cond_false, b0' p0, cond_true, cond_true, c26, Option.bind_some, t27, Option.bind_some]
      exact ⟨_, _, _, rfl, rfl, hz⟩
theorem pure_holds (a0 : List Int) (h : ∀ n ∈ a0, (Lit.int .u8 n).wf = true) : s8 a0 = some true := by
  unfold s8 b8
  by_cases hl : a0.length ≤ 1500
  · obtain ⟨L, pos, err, e38, e39, he⟩ := both (byt_of h) (by omega)
    rw [cond_f _ _ (dec_f (by omega)), t13 a0 (by omega), Option.bind_some, e38, Option.bind_some, e39, Option.bind_some]
    dsimp only
    rw [t40 L he, Option.bind_some, cond_true, show (pos == pos) = true from by simp, cond_true, show (err == err) = true from by simp, cond_true, t19 a0 (by omega), Option.bind_some, cond_true, aw]
    rfl
  · rw [cond_t _ _ (dec_t (by omega)), aw]
    rfl
end Go.Proofs.Ytogfofcocidmkaa.stmtParses
