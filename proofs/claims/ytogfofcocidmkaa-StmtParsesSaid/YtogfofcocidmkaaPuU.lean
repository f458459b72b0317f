/- The plain functions, read: annotations, let, other, rows, blocks: the program's and the reference's answers agree. -/
import Derived.Test.YtogfofcocidmkaaPuT
set_option linter.unusedVariables false
set_option linter.unusedSimpArgs false
namespace Go.Proofs.Ytogfofcocidmkaa.Pu
open Go.RowKit Go.Proofs Ev
section
variable {b : List Int} {l : List S51}
theorem bindE (P : Option (Int × S98 × S79)) : (P.bind fun r5 => some (r5.1, r5.2.1, (⟨r5.2.2.c0, r5.2.2.c1, r5.2.2.c2, r5.2.2.c3, r5.2.2.c4, r5.2.2.c5, r5.2.2.c6, r5.2.2.c7, r5.2.2.c8, r5.2.2.c9, r5.2.2.c10, r5.2.2.c11, r5.2.2.c12, r5.2.2.c13, r5.2.2.c14, r5.2.2.c15, r5.2.2.c16⟩ : S79))) = P := by
  cases P with
  | none => rfl
  | some r => obtain ⟨a, c, s⟩ := r; cases s; rfl
theorem bindR (R : Option S83) : (R.bind fun r => some r) = R := by cases R <;> rfl
theorem AgS.weak {i j : Nat} {P : Option (Int × S98 × S79)} {R : Option S83} (h : AgS b l j P R) (hi : i ≤ j) : AgS b l i P R := by
  rcases h with ⟨s, k, h1, h2, h3, h4, h5⟩ | h
  · exact .inl ⟨s, k, h1, h2, by omega, h4, by omega⟩
  · exact .inr h
theorem w3 (i : Nat) (h : i ≤ 1000000) : w64 ((i : Int) + 3) = ((i + 3 : Nat) : Int) := by rw [w64_id (by omega) (by omega)]; rfl
theorem mkP (g : Good b l) (i : Nat) (hi : i < l.length) (lock : Bool) : ((s26 (cur b l (i + 1) 0)).bind fun r8 => (s68 (cur b l (i + 1) 0) (⟨#[]⟩ : ByteArray)).bind fun r9 => cond (r9.1 != 0) (some ((⟨false, false, (⟨#[]⟩ : ByteArray), 0, 0⟩ : S72), r9.1, r9.2.1)) ((s33 r9.2.1).bind fun r10 => some ((⟨true, lock, r9.2.2, r8, r10⟩ : S72), (0 : Int), r9.2.1))) =
    some (if idn (tx b l (i + 1)) = true then ((⟨true, lock, tx b l (i + 1), ps b l (i + 1), en l (i + 1)⟩ : S72), (0 : Int), cur b l (i + 2) 0) else ((⟨false, false, (⟨#[]⟩ : ByteArray), 0, 0⟩ : S72), (11 : Int), cur b l (i + 1) 0)) := by
  have hlen := g.llen
  have hb := g.len
  rw [c26, Option.bind_some, c68 g _ _ (by omega), Option.bind_some]
  cases h : idn (tx b l (i + 1)) with
  | false => rfl
  | true =>
    have := idn_lt h
    rw [if_pos rfl, if_pos rfl]
    dsimp only
    rw [show ((0 : Int) != 0) = false from rfl, cond_false, c33 (i + 1 + 1) 0 (by omega) (by omega)]
    rfl
theorem mkQ (g : Good b l) (i : Nat) (hi : i < l.length) (lock : Bool) : ((s24 (row b l) (w64 ((i : Int) + 1))).bind fun r2 => (s32 r2).bind fun r3 => cond (!r3) (some (⟨false, false, (⟨#[]⟩ : ByteArray), 0, 0, w64 ((i : Int) + 1), 11⟩ : S76)) ((s24 (row b l) (w64 ((i : Int) + 1))).bind fun r4 =>
      when_ (decide (0 ≤ (w64 ((i : Int) + 1))) && decide ((w64 ((i : Int) + 1)) < ((row b l).c1.length : Int))) (when_ (decide (0 ≤ (w64 ((i : Int) + 1))) && decide ((w64 ((i : Int) + 1)) < ((row b l).c1.length : Int))) (
        some (⟨true, lock, r4, ((row b l).c1.getD (w64 ((i : Int) + 1)).toNat z51).c1, ((row b l).c1.getD (w64 ((i : Int) + 1)).toNat z51).c2, w64 ((i : Int) + 2), 0⟩ : S76))))) =
    some (if idn (tx b l (i + 1)) = true then (⟨true, lock, tx b l (i + 1), ps b l (i + 1), en l (i + 1), ((i + 2 : Nat) : Int), 0⟩ : S76) else (⟨false, false, (⟨#[]⟩ : ByteArray), 0, 0, ((i + 1 : Nat) : Int), 11⟩ : S76)) := by
  have hlen := g.llen
  have hb := g.len
  rw [wn i (by omega), t24 g, Option.bind_some, t32 _ (tx_size g _), Option.bind_some]
  cases h : idn (tx b l (i + 1)) with
  | false => rfl
  | true =>
    have := idn_lt h
    have hw : (decide (0 ≤ ((i + 1 : Nat) : Int)) && decide (((i + 1 : Nat) : Int) < ((row b l).c1.length : Int))) = true := by
      rw [dec_t (show 0 ≤ ((i + 1 : Nat) : Int) by omega), dec_t (show ((i + 1 : Nat) : Int) < ((row b l).c1.length : Int) by show ((i + 1 : Nat) : Int) < (l.length : Int); omega)]; rfl
    rw [Bool.not_true, cond_false, Option.bind_some, when_t _ hw, when_t _ hw, w2 i (by omega), if_pos rfl]
    unfold ps
    rw [if_pos this]
    rfl
theorem ag_mark (g : Good b l) (i : Nat) (hi : i ≤ l.length) : ∃ a err j, s43 (cur b l i 0) = some (a, err, cur b l j 0) ∧ s44 (row b l) (i : Int) = some (⟨a.c0, a.c1, a.c2, a.c3, a.c4, (j : Int), err⟩ : S76) ∧ i ≤ j ∧ j ≤ l.length := by
  have hlen := g.llen
  have hb := g.len
  unfold s43 b43
  rw [c33 i 0 hi (by omega), Option.bind_some, Option.bind_some, c30 g (by decide +kernel) i 0 (by omega), Option.bind_some]
  cases h : eqs (tx b l i) ⟨#[64, 61]⟩ with
  | true =>
    have hlt := tx_lt h (by decide +kernel)
    have h2 : eqs (tx b l i) ⟨#[64]⟩ = false := by
      cases h2 : eqs (tx b l i) ⟨#[64]⟩ with
      | false => rfl
      | true => exact absurd (eqs_both h h2) (by decide +kernel)
    rw [if_pos rfl]
    dsimp only
    rw [Bool.not_true, cond_false, mkP g i hlt true]
    have hR : s44 (row b l) (i : Int) = some (if idn (tx b l (i + 1)) = true then (⟨true, true, tx b l (i + 1), ps b l (i + 1), en l (i + 1), ((i + 2 : Nat) : Int), 0⟩ : S76) else (⟨false, false, (⟨#[]⟩ : ByteArray), 0, 0, ((i + 1 : Nat) : Int), 11⟩ : S76)) := by
      unfold s44 b44
      unfold eqs at h h2
      rw [t24 g, Option.bind_some, Option.bind_some, h, h2, Bool.not_true, Bool.not_false, cond_true, cond_true, cond_false, cond_false, mkQ g i hlt true]
      by_cases h0 : i = 0
      · rw [cond_f _ _ (dec_f (by omega))]
      · rw [cond_t _ _ (dec_t (by omega)), wp i (by omega) (by omega), when_t _ (by rw [dec_t (show 0 ≤ ((i - 1 : Nat) : Int) by omega), dec_t (show ((i - 1 : Nat) : Int) < ((row b l).c1.length : Int) by show ((i - 1 : Nat) : Int) < (l.length : Int); omega)]; rfl)]
    rw [hR]
    cases h3 : idn (tx b l (i + 1)) with
    | true => have := idn_lt h3; exact ⟨_, _, i + 2, rfl, rfl, by omega, by omega⟩
    | false => exact ⟨_, _, i + 1, rfl, rfl, by omega, by omega⟩
  | false =>
    rw [if_neg (by decide)]
    dsimp only
    rw [Bool.not_false, cond_true, c30 g (by decide +kernel) i 0 (by omega), Option.bind_some]
    cases h2 : eqs (tx b l i) ⟨#[64]⟩ with
    | true =>
      have hlt := tx_lt h2 (by decide +kernel)
      rw [if_pos rfl]
      dsimp only
      rw [Bool.not_true, cond_false, mkP g i hlt false]
      have hR : s44 (row b l) (i : Int) = some (if idn (tx b l (i + 1)) = true then (⟨true, false, tx b l (i + 1), ps b l (i + 1), en l (i + 1), ((i + 2 : Nat) : Int), 0⟩ : S76) else (⟨false, false, (⟨#[]⟩ : ByteArray), 0, 0, ((i + 1 : Nat) : Int), 11⟩ : S76)) := by
        unfold s44 b44
        unfold eqs at h h2
        rw [t24 g, Option.bind_some, Option.bind_some, h, h2, Bool.not_true, cond_false, cond_false, mkQ g i hlt false]
        by_cases h0 : i = 0
        · rw [cond_f _ _ (dec_f (by omega))]
        · rw [cond_t _ _ (dec_t (by omega)), wp i (by omega) (by omega), when_t _ (by rw [dec_t (show 0 ≤ ((i - 1 : Nat) : Int) by omega), dec_t (show ((i - 1 : Nat) : Int) < ((row b l).c1.length : Int) by show ((i - 1 : Nat) : Int) < (l.length : Int); omega)]; rfl)]
      rw [hR]
      cases h3 : idn (tx b l (i + 1)) with
      | true => have := idn_lt h3; exact ⟨_, _, i + 2, rfl, rfl, by omega, by omega⟩
      | false => exact ⟨_, _, i + 1, rfl, rfl, by omega, by omega⟩
    | false =>
      refine ⟨⟨false, false, ⟨#[]⟩, eo l i, eo l i⟩, 0, i, rfl, ?_, Nat.le_refl _, hi⟩
      unfold s44 b44
      unfold eqs at h h2
      rw [t24 g, Option.bind_some, Option.bind_some, h, h2, Bool.not_false, cond_true, cond_true, cond_true, cond_true]
      by_cases h0 : i = 0
      · subst h0
        rw [cond_f _ _ (dec_f (by omega))]
        rfl
      · rw [cond_t _ _ (dec_t (by omega)), wp i (by omega) (by omega), when_t _ (by rw [dec_t (show 0 ≤ ((i - 1 : Nat) : Int) by omega), dec_t (show ((i - 1 : Nat) : Int) < ((row b l).c1.length : Int) by show ((i - 1 : Nat) : Int) < (l.length : Int); omega)]; rfl)]
        unfold eo
        rw [if_neg h0]
        rfl
theorem ag_let (g : Good b l) (hD : DigL b l) (s : S79) (hs : s.c15 = [] ∧ s.c16 = []) (i : Nat) (hi : i ≤ l.length) : AgS b l i (s87 (cur b l i 0) s) (s70 (row b l) s (i : Int)) := by
  have hlen := g.llen
  have hb := g.len
  unfold s87 b87 s70 b70
  rw [c68 g i _ (by omega), Option.bind_some, t24 g, Option.bind_some, t32 _ (tx_size g _), Option.bind_some]
  cases h : idn (tx b l i) with
  | false => exact .inr ⟨11, _, i, by decide, rfl, rfl, hi⟩
  | true =>
    have hlt := idn_lt h
    rw [if_pos rfl, Bool.not_true, cond_false]
    dsimp only
    rw [show ((0 : Int) != 0) = false from rfl, cond_false, c90 g _ (by decide +kernel) (i + 1) (by omega), Option.bind_some, wn i (by omega), t24 g, Option.bind_some]
    cases h2 : eqs (tx b l (i + 1)) ⟨#[58]⟩ with
    | false =>
      unfold eqs at h2
      rw [h2]
      exact .inr ⟨11, _, i + 1, by decide, rfl, rfl, hlt⟩
    | true =>
      have hl2 := tx_lt h2 (by decide +kernel)
      unfold eqs at h2
      rw [h2, if_pos rfl, Bool.not_true, cond_false]
      dsimp only
      rw [show ((0 : Int) != 0) = false from rfl, cond_false, w2 i (by omega)]
      rcases ag_type g (i + 1 + 1) hl2 with ⟨t, t1, t2, t3, t4⟩ | ⟨t2, t3⟩
      · rw [t2, Option.bind_some]
        have t3' : s42 (row b l) ((i + 2 : Nat) : Int) = some t := t3
        rw [t3', Option.bind_some, cond_f _ _ (dec_f (by omega))]
        dsimp only
        rw [show ((0 : Int) != 0) = false from rfl, cond_false, w3 i (by omega)]
        obtain ⟨a, err, j, m1, m2, m3, m4⟩ := ag_mark g (i + 3) t4
        have m1' : s43 (cur b l (i + 1 + 1 + 1) 0) = some (a, err, cur b l j 0) := m1
        rw [m1', Option.bind_some, m2, Option.bind_some]
        dsimp only
        by_cases he : err = 0
        · subst he
          rw [show ((0 : Int) != 0) = false from rfl, cond_false, cond_false, bindE, bindR]
          refine AgS.weak (j := j) (ag_set g hD _ ?_ j m4) (by omega)
          exact hs
        · rw [b0' he, cond_true, cond_true]
          exact .inr ⟨err, _, j, he, rfl, rfl, m4⟩
      · rw [t2, Option.bind_some]
        have t3' : s42 (row b l) ((i + 2 : Nat) : Int) = some (-1) := t3
        rw [t3', Option.bind_some]
        exact .inr ⟨11, _, i + 2, by decide, rfl, rfl, hl2⟩
end
end Go.Proofs.Ytogfofcocidmkaa.Pu
