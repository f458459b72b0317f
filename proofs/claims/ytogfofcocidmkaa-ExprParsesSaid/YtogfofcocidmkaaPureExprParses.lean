/- ExprParses: its plain function says true of all bytes. No condition. -/
import Derived.Test.YtogfofcocidmkaaPuR
import Derived.Test.YtogfofcocidmkaaPuS
import Derived.Test.YtogfofcocidmkaaPuLk
import Derived.KernelRfl
set_option linter.unusedVariables false
set_option linter.unusedSimpArgs false
namespace Go.Proofs.Ytogfofcocidmkaa.exprParses
open Go.RowKit Go.Proofs Ev Pu
theorem aw : s12 = some true := by kernel_rfl
/-- Both parsers say the same. -/
theorem both {b : List Int} (hB : Byt b) (hb : b.length ≤ 2000) : ∃ e pos err, s14 b = some (e, pos, err) ∧ s15 (strOf b) = some (e, pos, err) ∧ nds e ≤ 100000 := by
  have hch := (toks_chain b).le
  obtain ⟨h51, hnn⟩ := t51 hB (by omega)
  unfold s14 b14 s15 b15
  rw [t50 b (by omega), Option.bind_some, t49 _ (by omega), Option.bind_some, h51, Option.bind_some]
  have hz : nds (⟨0, 0, 0, (⟨#[]⟩ : ByteArray), (⟨#[]⟩ : ByteArray), []⟩ : S27) ≤ 100000 := by simp [nds, ndss]
  cases hbad : bad (toks b) with
  | some t =>
    have := hnn t hbad
    dsimp only
    rw [cond_true, cond_t _ _ (dec_t this)]
    exact ⟨_, _, _, rfl, rfl, hz⟩
  | none =>
    dsimp only
    rw [cond_false, cond_f _ _ (dec_f (by omega)), t22 b (by omega), Option.bind_some, t21 hB (by omega), Option.bind_some]
    have g := good b (by omega)
    have hD : DigL b (live (toks b)) := digL hB
    generalize live (toks b) = l at g hD
    have hlen := g.llen
    obtain ⟨e, err, j, e34, hBs⟩ := t34 g 0 0 (by omega) (by omega)
    have e35 := t35 g hD hBs (by omega) (by omega)
    obtain ⟨i1, i2, i3, i4⟩ := hBs.inv (by simp [ntOk]) (by omega)
    simp only at i1 i2 i3 i4
    have e34' : s34 (⟨b, l, 0, 0⟩ : S98) = some (e, err, cur b l j 0) := e34
    have e35' : s35 (row b l) 0 1 0 = some (gt (e, err, j)) := e35
    rw [e34', Option.bind_some, e35', Option.bind_some]
    dsimp only [gt]
    by_cases he : err = 0
    · subst he
      obtain ⟨_, k2, _⟩ := i3 rfl
      simp only [resN, ntE] at k2
      rw [show ((0 : Int) == 0) = true from rfl, cond_true, show ((0 : Int) != 0) = false from rfl, cond_false, show s29 (cur b l j 0) = some (decide (l.length ≤ j)) from t29 j 0, Option.bind_some]
      by_cases hj : l.length ≤ j
      · rw [dec_t hj, Bool.not_true, cond_false, cond_false]
        erw [cond_f _ _ (dec_f (show ¬ ((j : Int) < ((row b l).c1.length : Int)) by show ¬ ((j : Int) < (l.length : Int)); omega))]
        rw [strOf_size]
        exact ⟨_, _, _, rfl, rfl, by rw [eta27]; omega⟩
      · rw [dec_f hj, Bool.not_false, cond_true, c26, Option.bind_some, cond_false]
        erw [cond_t _ _ (dec_t (show ((j : Int) < ((row b l).c1.length : Int)) by show ((j : Int) < (l.length : Int)); omega))]
        rw [t27, Option.bind_some]
        exact ⟨_, _, _, rfl, rfl, hz⟩
    · rw [b0 he, cond_false, b0' he, cond_true, cond_true, c26, Option.bind_some, t27, Option.bind_some]
      exact ⟨_, _, _, rfl, rfl, hz⟩
theorem pure_holds (a0 : List Int) (h : ∀ n ∈ a0, (Lit.int .u8 n).wf = true) : s3 a0 = some true := by
  unfold s3 b3
  by_cases hl : a0.length ≤ 1000
  · obtain ⟨e, pos, err, e14, e15, he⟩ := both (byt_of h) (by omega)
    rw [cond_f _ _ (dec_f (by omega)), t13 a0 (by omega), Option.bind_some, e14, Option.bind_some, e15, Option.bind_some]
    dsimp only
    rw [eta27, t16 e he, Option.bind_some, cond_true, show (pos == pos) = true from by simp, cond_true, show (err == err) = true from by simp, cond_true, t17 e he, Option.bind_some, t18 e he, Option.bind_some, show (((hgt e : Nat) : Int) == ((hgt e : Nat) : Int)) = true from by simp, cond_true, t19 a0 (by omega), Option.bind_some, cond_true, aw]
    rfl
  · rw [cond_t _ _ (dec_t (by omega)), aw]
    rfl
end Go.Proofs.Ytogfofcocidmkaa.exprParses
