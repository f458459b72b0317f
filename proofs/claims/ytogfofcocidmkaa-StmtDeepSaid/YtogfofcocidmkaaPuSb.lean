/- The plain functions, read: annotations, let, other statements in two texts side by side. -/
import Derived.Test.YtogfofcocidmkaaPuSa
set_option linter.unusedVariables false
set_option linter.unusedSimpArgs false
namespace Go.Proofs.Ytogfofcocidmkaa.Pu
open Go.RowKit Go.Proofs Ev
section
variable {b b' : List Int} {l l' : List S51} {o : Nat} {sh : Int}
theorem Agr.eo (A : Agr b l b' l' o sh) {i : Nat} (h1 : 1 ≤ i) (h : i ≤ l.length) : Pu.eo l' (i + o) = Pu.eo l i + sh := by
  unfold Pu.eo
  rw [if_neg (by omega), if_neg (by omega), show i + o - 1 = i - 1 + o from by omega, A.en _ (by omega)]
theorem z72 {a0 a1 : Int} {sh : Int} (h : sh = 0) {c0 c1 : Bool} {c2 : ByteArray} : (⟨c0, c1, c2, a0 + sh, a1 + sh⟩ : S72) = ⟨c0, c1, c2, a0, a1⟩ := by rw [h, Int.add_zero, Int.add_zero]
theorem mkM {b : List Int} {l : List S51} (g : Good b l) (i : Nat) (hi : i < l.length) (lock : Bool) : ((s26 (cur b l (i + 1) 0)).bind fun r8 => (s68 (cur b l (i + 1) 0) (⟨#[]⟩ : ByteArray)).bind fun r9 => cond (r9.1 != 0) (some ((⟨false, false, (⟨#[]⟩ : ByteArray), 0, 0⟩ : S72), r9.1, r9.2.1)) ((s33 r9.2.1).bind fun r10 => some ((⟨true, lock, r9.2.2, r8, r10⟩ : S72), (0 : Int), r9.2.1))) =
    some (if idn (tx b l (i + 1)) = true then ((⟨true, lock, tx b l (i + 1), ps b l (i + 1), en l (i + 1)⟩ : S72), (0 : Int), cur b l (i + 2) 0) else ((⟨false, false, (⟨#[]⟩ : ByteArray), 0, 0⟩ : S72), (11 : Int), cur b l (i + 1) 0)) := by
  have hlen := g.llen
  have hb := g.len
  rw [c26, Option.bind_some, c68 g _ _ (by omega), Option.bind_some]
  cases h : idn (tx b l (i + 1)) with
  | false => rfl
  | true =>
    have := idn_lt h
    rw [if_pos rfl, if_pos rfl]
    dsimp only
    rw [show ((0 : Int) != 0) = false from rfl, cond_false, c33 (i + 1 + 1) 0 (by omega) (by omega)]
    rfl
theorem md {b : List Int} {l : List S51} (g : Good b l) (i : Nat) (hi : i ≤ l.length) : s43 (cur b l i 0) = some (
    if eqs (tx b l i) ⟨#[64, 61]⟩ = true then (if idn (tx b l (i + 1)) = true then ((⟨true, true, tx b l (i + 1), ps b l (i + 1), en l (i + 1)⟩ : S72), (0 : Int), cur b l (i + 2) 0) else ((⟨false, false, (⟨#[]⟩ : ByteArray), 0, 0⟩ : S72), (11 : Int), cur b l (i + 1) 0))
    else if eqs (tx b l i) ⟨#[64]⟩ = true then (if idn (tx b l (i + 1)) = true then ((⟨true, false, tx b l (i + 1), ps b l (i + 1), en l (i + 1)⟩ : S72), (0 : Int), cur b l (i + 2) 0) else ((⟨false, false, (⟨#[]⟩ : ByteArray), 0, 0⟩ : S72), (11 : Int), cur b l (i + 1) 0))
    else ((⟨false, false, (⟨#[]⟩ : ByteArray), eo l i, eo l i⟩ : S72), (0 : Int), cur b l i 0)) := by
  have hlen := g.llen
  have hb := g.len
  unfold s43 b43
  rw [c33 i 0 hi (by omega), Option.bind_some, Option.bind_some, c30 g (by decide +kernel) i 0 (by omega), Option.bind_some]
  cases h : eqs (tx b l i) ⟨#[64, 61]⟩ with
  | true =>
    have hlt := tx_lt h (by decide +kernel)
    rw [if_pos rfl, if_pos rfl]
    dsimp only
    rw [Bool.not_true, cond_false, mkM g i hlt true]
  | false =>
    rw [if_neg (by decide), if_neg (by decide)]
    dsimp only
    rw [Bool.not_false, cond_true, c30 g (by decide +kernel) i 0 (by omega), Option.bind_some]
    cases h2 : eqs (tx b l i) ⟨#[64]⟩ with
    | true =>
      have hlt := tx_lt h2 (by decide +kernel)
      rw [if_pos rfl, if_pos rfl]
      dsimp only
      rw [Bool.not_true, cond_false, mkM g i hlt false]
    | false => rfl
theorem tw_mark (A : Agr b l b' l' o sh) (i : Nat) (h1 : 1 ≤ i) (hi : i ≤ l.length) :
    (∃ a a' j, s43 (cur b l i 0) = some (a, 0, cur b l j 0) ∧ (i < l.length → s43 (cur b' l' (i + o) 0) = some (a', 0, cur b' l' (j + o) 0)) ∧ i ≤ j ∧ j ≤ l.length ∧ (sh = 0 → a' = a) ∧ (i = l.length → j = i)) ∨ (∃ a j, s43 (cur b l i 0) = some (a, 11, cur b l j 0)) := by
  have hle := A.le
  rw [md A.g i hi, md A.g' (i + o) (by omega)]
  cases h : eqs (tx b l i) ⟨#[64, 61]⟩ with
  | true =>
    have hlt := tx_lt h (by decide +kernel)
    rw [if_pos rfl]
    cases h3 : idn (tx b l (i + 1)) with
    | true =>
      have hl2 := idn_lt h3
      rw [if_pos rfl]
      refine .inl ⟨_, ⟨true, true, tx b l (i + 1), ps b l (i + 1) + sh, en l (i + 1) + sh⟩, i + 2, rfl, fun _ => ?_, by omega, by omega, ?_, by omega⟩
      · rw [A.tx0 hlt, h, if_pos rfl, A.tx i 1 (by omega), h3, if_pos rfl, show i + o + 1 = i + 1 + o from by omega, A.ps _ hl2, A.en _ hl2, show i + 2 + o = i + o + 2 from by omega]
      · intro hz; exact z72 hz
    | false => exact .inr ⟨_, _, rfl⟩
  | false =>
    rw [if_neg (by decide)]
    cases h2 : eqs (tx b l i) ⟨#[64]⟩ with
    | true =>
      have hlt := tx_lt h2 (by decide +kernel)
      rw [if_pos rfl]
      cases h3 : idn (tx b l (i + 1)) with
      | true =>
        have hl2 := idn_lt h3
        rw [if_pos rfl]
        refine .inl ⟨_, ⟨true, false, tx b l (i + 1), ps b l (i + 1) + sh, en l (i + 1) + sh⟩, i + 2, rfl, fun _ => ?_, by omega, by omega, ?_, by omega⟩
        · rw [A.tx0 hlt, h, if_neg (by decide), h2, if_pos rfl, A.tx i 1 (by omega), h3, if_pos rfl, show i + o + 1 = i + 1 + o from by omega, A.ps _ hl2, A.en _ hl2, show i + 2 + o = i + o + 2 from by omega]
        · intro hz; exact z72 hz
      | false => exact .inr ⟨_, _, rfl⟩
    | false =>
      refine .inl ⟨_, ⟨false, false, (⟨#[]⟩ : ByteArray), eo l i + sh, eo l i + sh⟩, i, rfl, fun hlt => ?_, by omega, hi, ?_, by omega⟩
      · rw [A.tx0 hlt, h, if_neg (by decide), h2, if_neg (by decide), A.eo h1 hi]
      · intro hz; exact z72 hz
theorem set_end (g : Good b l) (s : S79) : s105 (cur b l l.length 0) s = some (11, cur b l l.length 0, s) := by
  have hlen := g.llen
  have hb := g.len
  unfold s105 b105
  rw [c90 g _ (by decide +kernel) _ (by omega), Option.bind_some, tx_end (by omega), if_neg (by decide +kernel)]
  cases s
  rfl
theorem tw_let (A : Agr b l b' l' o sh) (D : Nat) (hD : D ≤ 32) (s s' : S79) (hz : o = 0 ∧ sh = 0 → s' = s) (hs : s.c15 = [] ∧ s.c16 = [] ∧ s.c0 ≠ 2 ∧ s.c0 ≠ 3) (i : Nat) (hi : i ≤ l.length) :
    TwS b l b' l' o sh D i (s87 (cur b l i 0) s) (s87 (cur b' l' (i + o) 0) s') := by
  have hle := A.le
  have hlen := A.g.llen
  have hb := A.g.len
  have hlen' := A.g'.llen
  have hb' := A.g'.len
  unfold s87 b87
  rw [c68 A.g i _ (by omega), Option.bind_some]
  cases h : idn (tx b l i) with
  | false => exact .inr ⟨11, _, _, by decide, rfl⟩
  | true =>
    have hlt := idn_lt h
    rw [if_pos rfl]
    dsimp only
    rw [show ((0 : Int) != 0) = false from rfl, cond_false, c90 A.g _ (by decide +kernel) (i + 1) (by omega), Option.bind_some]
    cases h2 : eqs (tx b l (i + 1)) ⟨#[58]⟩ with
    | false => exact .inr ⟨11, _, _, by decide, rfl⟩
    | true =>
      have hl2 := tx_lt h2 (by decide +kernel)
      rw [if_pos rfl]
      dsimp only
      rw [show ((0 : Int) != 0) = false from rfl, cond_false]
      rcases tw_type A (i + 1 + 1) hl2 with ⟨t, t1, t2, t3⟩ | t1
      · rw [t1, Option.bind_some]
        dsimp only
        rw [show ((0 : Int) != 0) = false from rfl, cond_false]
        rcases tw_mark A (i + 1 + 1 + 1) (by omega) t3 with ⟨a, a', j, m1, m2, m3, m4, m5, m6⟩ | ⟨a, j, m1⟩
        · rw [m1, Option.bind_some]
          dsimp only
          rw [show ((0 : Int) != 0) = false from rfl, cond_false, bindE]
          by_cases hj : i + 1 + 1 + 1 < l.length
          · have m2' := m2 hj
            rw [c68 A.g' (i + o) _ (by omega), Option.bind_some, A.tx0 hlt, h, if_pos rfl]
            dsimp only
            rw [show ((0 : Int) != 0) = false from rfl, cond_false, c90 A.g' _ (by decide +kernel) (i + o + 1) (by omega), Option.bind_some, A.tx i 1 hl2, h2, if_pos rfl]
            dsimp only
            rw [show ((0 : Int) != 0) = false from rfl, cond_false]
            rw [show i + 1 + 1 + o = i + o + 1 + 1 from by omega] at t2
            rw [t2, Option.bind_some]
            dsimp only
            rw [show ((0 : Int) != 0) = false from rfl, cond_false]
            rw [show i + 1 + 1 + 1 + o = i + o + 1 + 1 + 1 from by omega] at m2'
            rw [m2', Option.bind_some]
            dsimp only
            rw [show ((0 : Int) != 0) = false from rfl, cond_false, bindE]
            refine TwS.weak (j := j) (tw_set A D hD _ _ (fun h0 => ?_) ?_ j m4) (by omega)
            · rw [hz h0, m5 h0.2]
            · exact hs
          · have hj2 := m6 (by omega)
            have : j = l.length := by omega
            subst this
            rw [set_end A.g]
            exact .inr ⟨11, _, _, by decide, rfl⟩
        · rw [m1, Option.bind_some]
          exact .inr ⟨11, _, _, by decide, rfl⟩
      · rw [t1, Option.bind_some]
        exact .inr ⟨11, _, _, by decide, rfl⟩
def stK (k p : Int) : S79 := ⟨k, p, (⟨#[]⟩ : ByteArray), 0, false, false, (⟨#[]⟩ : ByteArray), 0, 0, 0, 0, 0, (⟨#[]⟩ : ByteArray), (⟨#[]⟩ : ByteArray), [], [], []⟩
theorem sh_c0 (s : Int) (e : S27) : (shE s e).c0 = e.c0 := by cases e; rfl
theorem sh_c3 (s : Int) (e : S27) : (shE s e).c3 = e.c3 := by cases e; rfl
theorem tw_other (A : Agr b l b' l' o sh) (D : Nat) (hD : D ≤ 32) (p p' : Int) (hp : sh = 0 → p' = p) (i : Nat) (hi : i ≤ l.length) : TwS b l b' l' o sh D i (s91 (cur b l i 0) (stK 0 p)) (s91 (cur b' l' (i + o) 0) (stK 0 p')) := by
  have hle := A.le
  have hlen := A.g.llen
  have hb := A.g.len
  have hlen' := A.g'.llen
  have hb' := A.g'.len
  unfold s91 b91
  rcases ex2 A i hi with ⟨e, j, e1, e2, e3, e4, e5⟩ | ⟨e, err, j, e0, e1⟩
  · rw [e1, Option.bind_some]
    dsimp only
    rw [show ((0 : Int) != 0) = false from rfl, cond_false]
    by_cases hj : j < l.length
    · rw [e2 hj, Option.bind_some]
      dsimp only
      rw [show ((0 : Int) != 0) = false from rfl, cond_false, sh_c0, sh_c3]
      cases h2 : (e.c0 == 2) with
      | true =>
        rw [cond_true, cond_true, bindE, bindE]
        refine TwS.weak (j := j) (tw_set A D hD _ _ (fun h0 => ?_) ⟨rfl, rfl, (by simp), (by simp)⟩ j e4) (by omega)
        rw [hp h0.2]
      | false =>
        rw [cond_false, cond_false]
        cases h3 : (e.c0 == 3) with
        | true =>
          rw [cond_true, cond_true, c90 A.g _ (by decide +kernel) j (by omega), Option.bind_some]
          cases h4 : eqs (tx b l j) ⟨#[59]⟩ with
          | false => exact .inr ⟨11, _, _, by decide, rfl⟩
          | true =>
            rw [c90 A.g' _ (by decide +kernel) (j + o) (by omega), Option.bind_some, A.tx0 hj, h4, if_pos rfl, if_pos rfl]
            refine .inl ⟨setE (stK 5 p) e, setE (stK 5 p') (shE sh e), j + 1, rfl, ?_, by omega, hj, fun h0 => by rw [hp h0.2, h0.2, shE_zero], ?_, ?_⟩
            · rw [show j + 1 + o = j + o + 1 from by omega]
              simp only [setE, stK, sh_c0, sh_c3]
            · rw [nst_c]
              have := nds_c5 e
              simp only [setE, stK, nstl]
              omega
            · rw [dp1_c, if_neg (by simp only [setE, stK]; omega)]
              omega
        | false => exact .inr ⟨11, _, _, by decide, rfl⟩
    · have hj2 : j = l.length := by omega
      subst hj2
      cases h2 : (e.c0 == 2) with
      | true =>
        rw [cond_true, bindE, set_end A.g]
        exact .inr ⟨11, _, _, by decide, rfl⟩
      | false =>
        rw [cond_false]
        cases h3 : (e.c0 == 3) with
        | true =>
          rw [cond_true, c90 A.g _ (by decide +kernel) _ (by omega), Option.bind_some, tx_end (by omega), if_neg (by decide +kernel)]
          exact .inr ⟨11, _, _, by decide, rfl⟩
        | false => exact .inr ⟨11, _, _, by decide, rfl⟩
  · rw [e1, Option.bind_some]
    dsimp only
    rw [b0' e0, cond_true]
    exact .inr ⟨err, _, _, e0, rfl⟩
end
end Go.Proofs.Ytogfofcocidmkaa.Pu
