/- The plain functions, read: statements: types, annotations, what is set; the program's and the reference's answers agree. -/
import Derived.Test.YtogfofcocidmkaaPuR
set_option linter.unusedVariables false
set_option linter.unusedSimpArgs false
namespace Go.Proofs.Ytogfofcocidmkaa.Pu
open Go.RowKit Go.Proofs Ev
mutual
def nst : S79 → Nat
  | ⟨_, _, _, _, _, _, _, _, _, _, _, _, _, _, l, L, M⟩ => ndss l + nstl L + nstl M + 2
def nstl : List S79 → Nat
  | [] => 0
  | x :: xs => nst x + nstl xs
end
theorem nst_c (s : S79) : nst s = ndss s.c14 + nstl s.c15 + nstl s.c16 + 2 := by cases s; rfl
theorem eta79 (p1 : S79) : (⟨p1.c0, p1.c1, p1.c2, p1.c3, p1.c4, p1.c5, p1.c6, p1.c7, p1.c8, p1.c9, p1.c10, p1.c11, p1.c12, p1.c13, p1.c14, p1.c15, p1.c16⟩ : S79) = p1 := by cases p1; rfl
def er (j : Nat) (e : Int) : S83 := ⟨0, 0, (⟨#[]⟩ : ByteArray), 0, false, false, (⟨#[]⟩ : ByteArray), 0, 0, 0, 0, 0, (⟨#[]⟩ : ByteArray), (⟨#[]⟩ : ByteArray), [], [], [], [], (j : Int), e⟩
def okS (p1 : S79) (j : Nat) : S83 := ⟨p1.c0, p1.c1, p1.c2, p1.c3, p1.c4, p1.c5, p1.c6, p1.c7, p1.c8, p1.c9, p1.c10, p1.c11, p1.c12, p1.c13, p1.c14, p1.c15, p1.c16, [], (j : Int), 0⟩
def okL (L : List S79) (j : Nat) : S83 := ⟨0, 0, (⟨#[]⟩ : ByteArray), 0, false, false, (⟨#[]⟩ : ByteArray), 0, 0, 0, 0, 0, (⟨#[]⟩ : ByteArray), (⟨#[]⟩ : ByteArray), [], [], [], L, (j : Int), 0⟩
def setE (p1 : S79) (e : S27) : S79 := ⟨p1.c0, p1.c1, p1.c2, p1.c3, p1.c4, p1.c5, p1.c6, p1.c7, p1.c8, e.c0, e.c1, e.c2, e.c3, e.c4, e.c5, p1.c15, p1.c16⟩
section
variable {b : List Int} {l : List S51}
/-- The program's answer, and the reference's, of a statement from token i on: the same. -/
def AgS (b : List Int) (l : List S51) (i : Nat) (P : Option (Int × S98 × S79)) (R : Option S83) : Prop :=
  (∃ s j, P = some (0, cur b l j 0, s) ∧ R = some (okS s j) ∧ i < j ∧ j ≤ l.length ∧ nst s ≤ j - i) ∨
  (∃ err s j, err ≠ 0 ∧ P = some (err, cur b l j 0, s) ∧ R = some (er j err) ∧ j ≤ l.length)
theorem ex (g : Good b l) (hD : DigL b l) (i : Nat) (hi : i ≤ l.length) : ∃ e err j, s34 (cur b l i 0) = some (e, err, cur b l j 0) ∧ s35 (row b l) (i : Int) 1 0 = some (gt (e, err, j)) ∧ i ≤ j ∧ j ≤ l.length ∧ (err = 0 → i < j ∧ nds e ≤ j - i) ∧ (err ≠ 0 → e = z27) := by
  obtain ⟨e, err, j, e34, hB⟩ := t34 g i 0 hi (by omega)
  have e35 := t35 g hD hB hi (by omega)
  obtain ⟨i1, i2, i3, i4⟩ := hB.inv (by simp [ntOk]) hi
  simp only at i1 i2 i3 i4
  refine ⟨e, err, j, e34, e35, i1, i2, fun he => ?_, i4⟩
  obtain ⟨k1, k2, _⟩ := i3 he
  simp only [resN, ntE] at k2
  exact ⟨k1 rfl, by omega⟩
theorem c90 (g : Good b l) (w : ByteArray) (hw : eqs w ⟨#[]⟩ = false) (i : Nat) (h : i ≤ 1000000) : s90 [w] (cur b l i 0) = some (if eqs (tx b l i) w = true then (0, cur b l (i + 1) 0) else (11, cur b l i 0)) := by
  unfold s90 b90
  obtain ⟨k, hk⟩ : ∃ k, big = k + 1 + 1 := ⟨9223372036854775805, rfl⟩
  rw [hk]
  unfold lp90_2 lb90_2
  dsimp only
  rw [show decide ((0 : Int) < (([w] : List ByteArray).length : Int)) = true from rfl, cond_true, show (decide ((0 : Int) ≤ 0) && true) = true from rfl, when_t _ rfl, show ([w].getD (0 : Int).toNat (⟨#[]⟩ : ByteArray)) = w from rfl, show (⟨(cur b l i 0).c0, (cur b l i 0).c1, (cur b l i 0).c2, (cur b l i 0).c3⟩ : S98) = cur b l i 0 from rfl, c30 g hw i 0 h, Option.bind_some]
  cases eqs (tx b l i) w with
  | true => rfl
  | false => rfl
theorem ag_fin (g : Good b l) (s : S79) (i : Nat) (hi : i ≤ l.length) : (eqs (tx b l i) ⟨#[59]⟩ = true ∧ i < l.length ∧ s90 [(⟨#[59]⟩ : ByteArray)] (cur b l i 0) = some (0, cur b l (i + 1) 0) ∧ s72 (row b l) s (i : Int) = some (okS s (i + 1))) ∨
    (s90 [(⟨#[59]⟩ : ByteArray)] (cur b l i 0) = some (11, cur b l i 0) ∧ s72 (row b l) s (i : Int) = some (er i 11)) := by
  have hlen := g.llen
  have hb := g.len
  unfold s72 b72
  rw [c90 g _ (by decide +kernel) i (by omega), t24 g, Option.bind_some]
  cases h : eqs (tx b l i) ⟨#[59]⟩ with
  | true =>
    refine .inl ⟨rfl, tx_lt h (by decide +kernel), rfl, ?_⟩
    unfold eqs at h
    rw [h, Bool.not_true, cond_false, wn i (by omega)]
    rfl
  | false =>
    refine .inr ⟨rfl, ?_⟩
    unfold eqs at h
    rw [h]
    rfl
theorem ag_set (g : Good b l) (hD : DigL b l) (s : S79) (hs : s.c15 = [] ∧ s.c16 = []) (i : Nat) (hi : i ≤ l.length) : AgS b l i (s105 (cur b l i 0) s) (s73 (row b l) s (i : Int)) := by
  have hlen := g.llen
  have hb := g.len
  unfold s105 b105 s73 b73
  rw [c90 g _ (by decide +kernel) i (by omega), Option.bind_some, t24 g, Option.bind_some]
  cases h : eqs (tx b l i) ⟨#[61]⟩ with
  | false =>
    unfold eqs at h
    rw [h]
    exact .inr ⟨11, _, i, by decide, rfl, rfl, hi⟩
  | true =>
    have hlt := tx_lt h (by decide +kernel)
    unfold eqs at h
    rw [h, if_pos rfl, Bool.not_true, cond_false]
    dsimp only
    rw [show ((0 : Int) != 0) = false from rfl, cond_false, wn i (by omega)]
    obtain ⟨e, err, j, e34, e35, i1, i2, i3, i4⟩ := ex g hD (i + 1) hlt
    rw [e34, Option.bind_some, e35, Option.bind_some]
    dsimp only [gt]
    by_cases he : err = 0
    · subst he
      rw [show ((0 : Int) != 0) = false from rfl, cond_false, cond_false]
      rcases ag_fin g (setE s e) j i2 with ⟨f1, f2, f3, f4⟩ | ⟨f3, f4⟩
      · rw [f3, Option.bind_some]
        unfold setE at f4
        rw [f4, Option.bind_some]
        refine .inl ⟨setE s e, j + 1, rfl, rfl, by omega, f2, ?_⟩
        rw [nst_c]
        have := nds_c5 e
        simp only [setE, hs.1, hs.2, nstl]
        have := (i3 rfl).2
        omega
      · rw [f3, Option.bind_some]
        unfold setE at f4
        rw [f4, Option.bind_some]
        exact .inr ⟨11, _, j, by decide, rfl, rfl, i2⟩
    · rw [b0' he, cond_true, cond_true]
      exact .inr ⟨err, _, j, he, rfl, rfl, i2⟩
theorem ag_type (g : Good b l) (i : Nat) (hi : i ≤ l.length) : (∃ t : Int, 0 ≤ t ∧ s41 (cur b l i 0) = some (t, 0, cur b l (i + 1) 0) ∧ s42 (row b l) (i : Int) = some t ∧ i < l.length) ∨ (s41 (cur b l i 0) = some (0, 11, cur b l i 0) ∧ s42 (row b l) (i : Int) = some (-1)) := by
  have hlen := g.llen
  have hb := g.len
  unfold s41 b41 s42 b42
  rw [c30 g (by decide +kernel) i 0 (by omega), Option.bind_some, t24 g, Option.bind_some]
  cases h : eqs (tx b l i) ⟨#[105, 110, 116]⟩ with
  | true =>
    have hlt := tx_lt h (by decide +kernel)
    unfold eqs at h
    rw [h]
    exact .inl ⟨0, by decide, rfl, rfl, hlt⟩
  | false =>
    unfold eqs at h
    rw [h, if_neg (by decide), cond_false, Option.bind_some]
    dsimp only
    rw [cond_false, c30 g (by decide +kernel) i 0 (by omega), Option.bind_some]
    cases h2 : eqs (tx b l i) ⟨#[98, 111, 111, 108]⟩ with
    | true =>
      have hlt := tx_lt h2 (by decide +kernel)
      unfold eqs at h2
      rw [h2]
      exact .inl ⟨1, by decide, rfl, rfl, hlt⟩
    | false =>
      unfold eqs at h2
      rw [h2]
      exact .inr ⟨rfl, rfl⟩
def eo (l : List S51) (i : Nat) : Int := if i = 0 then 0 else en l (i - 1)
theorem c33 (i d : Nat) (hi : i ≤ l.length) (h : i ≤ 1000000) : s33 (cur b l i d) = some (eo l i) := by
  unfold s33 b33 cur
  dsimp only
  by_cases h0 : i = 0
  · subst h0; rfl
  · have e1 : w64 ((i : Int) - 1) = ((i - 1 : Nat) : Int) := wp i h (by omega)
    rw [e1, show ((i : Int) == 0) = false from by simp; omega, cond_false, when_t _ (by simp; omega)]
    unfold eo
    rw [if_neg h0]
    rfl
theorem c68 (g : Good b l) (i : Nat) (s : ByteArray) (h : i ≤ 1000000) : s68 (cur b l i 0) s = some (if idn (tx b l i) = true then (0, cur b l (i + 1) 0, tx b l i) else (11, cur b l i 0, ⟨#[]⟩)) := by
  unfold s68 b68
  rw [c31 g i 0 h, Option.bind_some]
  cases idn (tx b l i) <;> rfl
end
end Go.Proofs.Ytogfofcocidmkaa.Pu
