/- The plain functions, read: statements in two texts side by side, the second one having the first one's tokens further on: leaves. -/
import Derived.Test.YtogfofcocidmkaaPuOff
import Derived.Test.YtogfofcocidmkaaPuI
import Derived.Test.YtogfofcocidmkaaPuY
set_option linter.unusedVariables false
set_option linter.unusedSimpArgs false
namespace Go.Proofs.Ytogfofcocidmkaa.Pu
open Go.RowKit Go.Proofs Ev
mutual
def nst : S79 → Nat
  | ⟨_, _, _, _, _, _, _, _, _, _, _, _, _, _, l, L, M⟩ => ndss l + nstl L + nstl M + 2
def nstl : List S79 → Nat
  | [] => 0
  | x :: xs => nst x + nstl xs
end
theorem nst_c (s : S79) : nst s = ndss s.c14 + nstl s.c15 + nstl s.c16 + 2 := by cases s; rfl
mutual
def dp1 : S79 → Nat
  | ⟨k, _, _, _, _, _, _, _, _, _, _, _, _, _, _, L, M⟩ => if k = 2 ∨ k = 3 then 1 + max (dpl L) (dpl M) else 0
def dpl : List S79 → Nat
  | [] => 0
  | x :: xs => max (dp1 x) (dpl xs)
end
theorem dp1_c (s : S79) : dp1 s = if s.c0 = 2 ∨ s.c0 = 3 then 1 + max (dpl s.c15) (dpl s.c16) else 0 := by cases s; rfl
theorem eta79 (p1 : S79) : (⟨p1.c0, p1.c1, p1.c2, p1.c3, p1.c4, p1.c5, p1.c6, p1.c7, p1.c8, p1.c9, p1.c10, p1.c11, p1.c12, p1.c13, p1.c14, p1.c15, p1.c16⟩ : S79) = p1 := by cases p1; rfl
def setE (p1 : S79) (e : S27) : S79 := ⟨p1.c0, p1.c1, p1.c2, p1.c3, p1.c4, p1.c5, p1.c6, p1.c7, p1.c8, e.c0, e.c1, e.c2, e.c3, e.c4, e.c5, p1.c15, p1.c16⟩
def eo (l : List S51) (i : Nat) : Int := if i = 0 then 0 else en l (i - 1)
theorem eqs_both {x s t : ByteArray} (h1 : eqs x s = true) (h2 : eqs x t = true) : s = t := ((eqs_iff _ _).1 h1).symm.trans ((eqs_iff _ _).1 h2)
theorem bindE (P : Option (Int × S98 × S79)) : (P.bind fun r5 => some (r5.1, r5.2.1, (⟨r5.2.2.c0, r5.2.2.c1, r5.2.2.c2, r5.2.2.c3, r5.2.2.c4, r5.2.2.c5, r5.2.2.c6, r5.2.2.c7, r5.2.2.c8, r5.2.2.c9, r5.2.2.c10, r5.2.2.c11, r5.2.2.c12, r5.2.2.c13, r5.2.2.c14, r5.2.2.c15, r5.2.2.c16⟩ : S79))) = P := by
  cases P with
  | none => rfl
  | some r => obtain ⟨a, c, s⟩ := r; cases s; rfl
section
variable {b : List Int} {l : List S51}
theorem c90 (g : Good b l) (w : ByteArray) (hw : eqs w ⟨#[]⟩ = false) (i : Nat) (h : i ≤ 1000000) : s90 [w] (cur b l i 0) = some (if eqs (tx b l i) w = true then (0, cur b l (i + 1) 0) else (11, cur b l i 0)) := by
  unfold s90 b90
  obtain ⟨k, hk⟩ : ∃ k, big = k + 1 + 1 := ⟨9223372036854775805, rfl⟩
  rw [hk]
  unfold lp90_2 lb90_2
  dsimp only
  rw [show decide ((0 : Int) < (([w] : List ByteArray).length : Int)) = true from rfl, cond_true, show (decide ((0 : Int) ≤ 0) && true) = true from rfl, when_t _ rfl, show ([w].getD (0 : Int).toNat (⟨#[]⟩ : ByteArray)) = w from rfl, show (⟨(cur b l i 0).c0, (cur b l i 0).c1, (cur b l i 0).c2, (cur b l i 0).c3⟩ : S98) = cur b l i 0 from rfl, c30 g hw i 0 h, Option.bind_some]
  cases eqs (tx b l i) w with
  | true => rfl
  | false => rfl
theorem c68 (g : Good b l) (i : Nat) (s : ByteArray) (h : i ≤ 1000000) : s68 (cur b l i 0) s = some (if idn (tx b l i) = true then (0, cur b l (i + 1) 0, tx b l i) else (11, cur b l i 0, ⟨#[]⟩)) := by
  unfold s68 b68
  rw [c31 g i 0 h, Option.bind_some]
  cases idn (tx b l i) <;> rfl
theorem c33 (i d : Nat) (hi : i ≤ l.length) (h : i ≤ 1000000) : s33 (cur b l i d) = some (eo l i) := by
  unfold s33 b33 cur
  dsimp only
  by_cases h0 : i = 0
  · subst h0; rfl
  · have e1 : w64 ((i : Int) - 1) = ((i - 1 : Nat) : Int) := wp i h (by omega)
    rw [e1, show ((i : Int) == 0) = false from by simp; omega, cond_false, when_t _ (by simp; omega)]
    unfold eo
    rw [if_neg h0]
    rfl
end
/-- The second text has the first one's tokens, o further on, s bytes further on; behind them there is no else. -/
structure Agr (b : List Int) (l : List S51) (b' : List Int) (l' : List S51) (o : Nat) (s : Int) : Prop where
  g : Good b l
  g' : Good b' l'
  le : o + l.length ≤ l'.length
  tx : ∀ i k, i + k < l.length → tx b' l' (i + o + k) = tx b l (i + k)
  ps : ∀ i, i < l.length → ps b' l' (i + o) = ps b l i + s
  kd : ∀ i, i < l.length → kd b' l' (i + o) = kd b l i
  en : ∀ i, i < l.length → en l' (i + o) = en l i + s
  els : eqs (Pu.tx b' l' (l.length + o)) ⟨#[101, 108, 115, 101]⟩ = false
section
variable {b b' : List Int} {l l' : List S51} {o : Nat} {sh : Int}
/-- A statement in both texts: read in the first one, it is read in the second one; or it is not read in the first one. -/
def TwS (b : List Int) (l : List S51) (b' : List Int) (l' : List S51) (o : Nat) (sh : Int) (D i : Nat) (P P' : Option (Int × S98 × S79)) : Prop :=
  (∃ s s' j, P = some (0, cur b l j 0, s) ∧ P' = some (0, cur b' l' (j + o) 0, s') ∧ i < j ∧ j ≤ l.length ∧ (o = 0 ∧ sh = 0 → s' = s) ∧ nst s ≤ j - i ∧ dp1 s + D ≤ 32) ∨
  (∃ err k s, err ≠ 0 ∧ P = some (err, cur b l k 0, s))
theorem TwS.weak {D i j : Nat} {P P' : Option (Int × S98 × S79)} (h : TwS b l b' l' o sh D j P P') (hi : i ≤ j) : TwS b l b' l' o sh D i P P' := by
  rcases h with ⟨s, s', k, h1, h2, h3, h4, h5, h6, h7⟩ | h
  · exact .inl ⟨s, s', k, h1, h2, by omega, h4, h5, by omega, h7⟩
  · exact .inr h
theorem Agr.tx0 (A : Agr b l b' l' o sh) {i : Nat} (h : i < l.length) : Pu.tx b' l' (i + o) = Pu.tx b l i := A.tx i 0 h
theorem ex2 (A : Agr b l b' l' o sh) (i : Nat) (hi : i ≤ l.length) : (∃ e j, s34 (cur b l i 0) = some (e, 0, cur b l j 0) ∧ (j < l.length → s34 (cur b' l' (i + o) 0) = some (shE sh e, 0, cur b' l' (j + o) 0)) ∧ i < j ∧ j ≤ l.length ∧ nds e ≤ j - i) ∨
    (∃ e err j, err ≠ 0 ∧ s34 (cur b l i 0) = some (e, err, cur b l j 0)) := by
  obtain ⟨e, err, j, e34, hB⟩ := t34 A.g i 0 hi (by omega)
  by_cases he : err = 0
  · subst he
    obtain ⟨i1, i2, i3, i4⟩ := hB.inv (by simp [ntOk]) hi
    simp only at i1 i2 i3 i4
    obtain ⟨k1, k2, _⟩ := i3 (by first | rfl | trivial)
    simp only [resN, ntE] at k2
    refine .inl ⟨e, j, e34, fun hj => ?_, k1 rfl, i2, by omega⟩
    have h2 := hB.off (b' := b') (l' := l') (J := j) (o := o) (s := sh) (fun i k h => A.tx i k (by omega)) (fun i h => A.ps i (by omega)) (fun i h => A.kd i (by omega)) (by simp [ntOk]) hi rfl (Nat.le_refl _)
    have hle := A.le
    obtain ⟨e', err', j', f34, hB'⟩ := t34 A.g' (i + o) 0 (by omega) (by omega)
    have := hB'.det h2
    cases this
    exact f34
  · exact .inr ⟨e, err, j, he, e34⟩
theorem nz {p q : Prop} {x : Int} (h : x ≠ 0) (hp : p) : (x ≠ 0 ∧ p) := ⟨h, hp⟩
theorem tw_set (A : Agr b l b' l' o sh) (D : Nat) (hD : D ≤ 32) (s s' : S79) (hz : o = 0 ∧ sh = 0 → s' = s) (hs : s.c15 = [] ∧ s.c16 = [] ∧ s.c0 ≠ 2 ∧ s.c0 ≠ 3) (i : Nat) (hi : i ≤ l.length) :
    TwS b l b' l' o sh D i (s105 (cur b l i 0) s) (s105 (cur b' l' (i + o) 0) s') := by
  have hle := A.le
  have hlen := A.g.llen
  have hb := A.g.len
  have hlen' := A.g'.llen
  have hb' := A.g'.len
  unfold s105 b105
  rw [c90 A.g _ (by decide +kernel) i (by omega), Option.bind_some]
  cases h : eqs (tx b l i) ⟨#[61]⟩ with
  | false => exact .inr ⟨11, _, _, by decide, rfl⟩
  | true =>
    have hlt := tx_lt h (by decide +kernel)
    rw [c90 A.g' _ (by decide +kernel) (i + o) (by omega), Option.bind_some, A.tx0 hlt, h, if_pos rfl, if_pos rfl]
    dsimp only
    rw [show ((0 : Int) != 0) = false from rfl, cond_false, cond_false]
    rcases ex2 A (i + 1) hlt with ⟨e, j, e1, e2, e3, e4, e5⟩ | ⟨e, err, j, e0, e1⟩
    · rw [e1, Option.bind_some]
      dsimp only
      rw [show ((0 : Int) != 0) = false from rfl, cond_false, c90 A.g _ (by decide +kernel) j (by omega), Option.bind_some]
      cases h2 : eqs (tx b l j) ⟨#[59]⟩ with
      | false => exact .inr ⟨11, _, _, by decide, rfl⟩
      | true =>
        have hj := tx_lt h2 (by decide +kernel)
        have e2' := e2 hj
        rw [show i + 1 + o = i + o + 1 from by omega] at e2'
        rw [e2', Option.bind_some]
        dsimp only
        rw [show ((0 : Int) != 0) = false from rfl, cond_false, c90 A.g' _ (by decide +kernel) (j + o) (by omega), Option.bind_some, A.tx0 hj, h2, if_pos rfl, if_pos rfl]
        refine .inl ⟨setE s e, setE s' (shE sh e), j + 1, rfl, by rw [show j + 1 + o = j + o + 1 from by omega]; rfl, by omega, hj, fun h0 => ?_, ?_, ?_⟩
        · rw [hz h0, h0.2, shE_zero]
        · rw [nst_c]
          have := nds_c5 e
          simp only [setE, hs.1, hs.2.1, nstl]
          omega
        · rw [dp1_c, if_neg (by simp only [setE]; have := hs.2.2; omega)]
          omega
    · rw [e1, Option.bind_some]
      dsimp only
      rw [b0' e0, cond_true]
      exact .inr ⟨err, _, _, e0, rfl⟩
theorem tw_type (A : Agr b l b' l' o sh) (i : Nat) (hi : i ≤ l.length) : (∃ t : Int, s41 (cur b l i 0) = some (t, 0, cur b l (i + 1) 0) ∧ s41 (cur b' l' (i + o) 0) = some (t, 0, cur b' l' (i + o + 1) 0) ∧ i < l.length) ∨ (s41 (cur b l i 0) = some (0, 11, cur b l i 0)) := by
  have hle := A.le
  have hlen := A.g.llen
  have hb := A.g.len
  have hlen' := A.g'.llen
  have hb' := A.g'.len
  unfold s41 b41
  rw [c30 A.g (by decide +kernel) i 0 (by omega), Option.bind_some]
  cases h : eqs (tx b l i) ⟨#[105, 110, 116]⟩ with
  | true =>
    have hlt := tx_lt h (by decide +kernel)
    rw [c30 A.g' (by decide +kernel) (i + o) 0 (by omega), Option.bind_some, A.tx0 hlt, h]
    exact .inl ⟨0, rfl, rfl, hlt⟩
  | false =>
    rw [if_neg (by decide)]
    dsimp only
    rw [cond_false, c30 A.g (by decide +kernel) i 0 (by omega), Option.bind_some]
    cases h2 : eqs (tx b l i) ⟨#[98, 111, 111, 108]⟩ with
    | true =>
      have hlt := tx_lt h2 (by decide +kernel)
      rw [if_pos rfl, c30 A.g' (by decide +kernel) (i + o) 0 (by omega), Option.bind_some, A.tx0 hlt, h, if_neg (by decide)]
      dsimp only
      rw [cond_true, cond_false, c30 A.g' (by decide +kernel) (i + o) 0 (by omega), Option.bind_some, A.tx0 hlt, h2]
      exact .inl ⟨1, rfl, rfl, hlt⟩
    | false => exact .inr rfl
end
end Go.Proofs.Ytogfofcocidmkaa.Pu
