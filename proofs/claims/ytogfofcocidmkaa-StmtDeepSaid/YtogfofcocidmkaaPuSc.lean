/- The plain functions, read: blocks, questions, rows of statements in two texts side by side. -/
import Derived.Test.YtogfofcocidmkaaPuSb
set_option linter.unusedVariables false
set_option linter.unusedSimpArgs false
namespace Go.Proofs.Ytogfofcocidmkaa.Pu
open Go.RowKit Go.Proofs Ev
section
variable {b b' : List Int} {l l' : List S51} {o : Nat} {sh : Int}
/-- As TwS, of Stmt itself. -/
def TwT (b : List Int) (l : List S51) (b' : List Int) (l' : List S51) (o : Nat) (sh : Int) (D i : Nat) (P P' : Option (S79 × Int × S98)) : Prop :=
  (∃ s s' j, P = some (s, 0, cur b l j 0) ∧ P' = some (s', 0, cur b' l' (j + o) 0) ∧ i < j ∧ j ≤ l.length ∧ (o = 0 ∧ sh = 0 → s' = s) ∧ nst s ≤ j - i ∧ dp1 s + D ≤ 32) ∨
  (∃ err k s, err ≠ 0 ∧ P = some (s, err, cur b l k 0))
/-- As TwS, of a block. -/
def TwB (b : List Int) (l : List S51) (b' : List Int) (l' : List S51) (o : Nat) (sh : Int) (D i : Nat) (P P' : Option (List S79 × Int × S98)) : Prop :=
  (∃ L L' j, P = some (L, 0, cur b l j 0) ∧ P' = some (L', 0, cur b' l' (j + o) 0) ∧ i < j ∧ j ≤ l.length ∧ (o = 0 ∧ sh = 0 → L' = L) ∧ nstl L ≤ j - i ∧ dpl L + D + 1 ≤ 32) ∨
  (∃ err k s, err ≠ 0 ∧ P = some (s, err, cur b l k 0))
/-- As TwS, of a row, which may end with the first text. -/
def TwR (b : List Int) (l : List S51) (b' : List Int) (l' : List S51) (o : Nat) (sh : Int) (D i : Nat) (P P' : Option (List S79 × Int × S98)) : Prop :=
  (∃ L L' j, P = some (L, 0, cur b l j 0) ∧ (j < l.length → P' = some (L', 0, cur b' l' (j + o) 0)) ∧ i ≤ j ∧ j ≤ l.length ∧ (o = 0 ∧ sh = 0 → L' = L) ∧ nstl L ≤ j - i ∧ dpl L + D ≤ 32) ∨
  (∃ err k s, err ≠ 0 ∧ P = some (s, err, cur b l k 0))
theorem tw_block (A : Agr b l b' l' o sh) {f48 f48' : Y48} {D i : Nat} (hi : i ≤ l.length)
    (hR : i < l.length → D < 32 → TwR b l b' l' o sh (D + 1) (i + 1) (f48 ((D + 1 : Nat) : Int) (cur b l (i + 1) 0)) (f48' ((D + 1 : Nat) : Int) (cur b' l' (i + 1 + o) 0))) :
    TwB b l b' l' o sh D i (b89 s25 f48 s90 (D : Int) (cur b l i 0) some) (b89 s25 f48' s90 (D : Int) (cur b' l' (i + o) 0) some) := by
  have hle := A.le
  have hlen := A.g.llen
  have hb := A.g.len
  have hlen' := A.g'.llen
  have hb' := A.g'.len
  unfold b89
  rw [c25 A.g, Option.bind_some, c90 A.g _ (by decide +kernel) i (by omega)]
  cases h : eqs (tx b l i) ⟨#[123]⟩ with
  | false =>
    unfold eqs at h
    rw [h]
    exact .inr ⟨11, _, _, by decide, rfl⟩
  | true =>
    have hlt := tx_lt h (by decide +kernel)
    have h' := h
    unfold eqs at h'
    rw [h', cond_true]
    by_cases h32 : D < 32
    · rw [cond_f _ _ (dec_f (show ¬ ((D : Int) ≥ 32) by omega)), if_pos rfl, Option.bind_some]
      dsimp only
      rw [show ((0 : Int) != 0) = false from rfl, cond_false, wn D (by omega)]
      rcases hR hlt h32 with ⟨L, L', j, p1, p2, p3, p4, p5, p6, p7⟩ | ⟨err, c, s, p0, p1⟩
      · rw [p1, Option.bind_some]
        dsimp only
        rw [show ((0 : Int) == 0) = true from rfl, cond_true, c90 A.g _ (by decide +kernel) j (by omega), Option.bind_some]
        cases h2 : eqs (tx b l j) ⟨#[125]⟩ with
        | false => exact .inr ⟨11, _, _, by decide, rfl⟩
        | true =>
          have hj := tx_lt h2 (by decide +kernel)
          have p2' := p2 hj
          rw [c25 A.g', Option.bind_some, c90 A.g' _ (by decide +kernel) (i + o) (by omega), A.tx0 hlt, h', cond_true, cond_f _ _ (dec_f (show ¬ ((D : Int) ≥ 32) by omega)), h, if_pos rfl, if_pos rfl, Option.bind_some]
          dsimp only
          rw [show ((0 : Int) != 0) = false from rfl, cond_false]
          rw [show i + 1 + o = i + o + 1 from by omega] at p2'
          rw [p2', Option.bind_some]
          dsimp only
          rw [show ((0 : Int) == 0) = true from rfl, cond_true, c90 A.g' _ (by decide +kernel) (j + o) (by omega), Option.bind_some, A.tx0 hj, h2, if_pos rfl]
          refine .inl ⟨L, L', j + 1, rfl, ?_, by omega, hj, p5, by omega, by omega⟩
          rw [show j + 1 + o = j + o + 1 from by omega]
          rfl
      · rw [p1, Option.bind_some]
        dsimp only
        rw [b0 p0, b0' p0]
        exact .inr ⟨err, _, _, p0, rfl⟩
    · rw [cond_t _ _ (dec_t (show (D : Int) ≥ 32 by omega))]
      exact .inr ⟨12, _, _, by decide, rfl⟩
def setL (s : S79) (e : S27) (L M : List S79) : S79 := ⟨s.c0, s.c1, s.c2, s.c3, s.c4, s.c5, s.c6, s.c7, s.c8, e.c0, e.c1, e.c2, e.c3, e.c4, e.c5, L, M⟩
theorem tw_asked (A : Agr b l b' l' o sh) {f89 f89' : Y89} {D : Nat} (s s' : S79) (i : Nat) (hi : i ≤ l.length)
    (hB : ∀ j, i < j → j ≤ l.length → TwB b l b' l' o sh D j (f89 (D : Int) (cur b l j 0)) (f89' (D : Int) (cur b' l' (j + o) 0))) :
    (∃ err k s2, err ≠ 0 ∧ b88 s34 f89 s90 (D : Int) (cur b l i 0) s some = some (err, cur b l k 0, s2)) ∨
    (∃ e L L' j, b88 s34 f89 s90 (D : Int) (cur b l i 0) s some = some (0, cur b l j 0, setL s e L s.c16) ∧ b88 s34 f89' s90 (D : Int) (cur b' l' (i + o) 0) s' some = some (0, cur b' l' (j + o) 0, setL s' (shE sh e) L' s'.c16) ∧ (o = 0 ∧ sh = 0 → L' = L) ∧ i < j ∧ j ≤ l.length ∧ nds e + nstl L + 2 ≤ j - i ∧ dpl L + D + 1 ≤ 32) := by
  have hle := A.le
  have hlen := A.g.llen
  have hb := A.g.len
  have hlen' := A.g'.llen
  have hb' := A.g'.len
  unfold b88
  rw [c90 A.g _ (by decide +kernel) i (by omega), Option.bind_some]
  cases h : eqs (tx b l i) ⟨#[40]⟩ with
  | false => exact .inl ⟨11, _, _, by decide, rfl⟩
  | true =>
    have hlt := tx_lt h (by decide +kernel)
    rw [if_pos rfl]
    dsimp only
    rw [show ((0 : Int) != 0) = false from rfl, cond_false]
    rcases ex2 A (i + 1) hlt with ⟨e, j, e1, e2, e3, e4, e5⟩ | ⟨e, err, j, e0, e1⟩
    · rw [e1, Option.bind_some]
      dsimp only
      rw [show ((0 : Int) != 0) = false from rfl, cond_false, c90 A.g _ (by decide +kernel) j (by omega), Option.bind_some]
      cases h2 : eqs (tx b l j) ⟨#[41]⟩ with
      | false => exact .inl ⟨11, _, _, by decide, rfl⟩
      | true =>
        have hj := tx_lt h2 (by decide +kernel)
        rw [if_pos rfl]
        dsimp only
        rw [show ((0 : Int) != 0) = false from rfl, cond_false]
        rcases hB (j + 1) (by omega) hj with ⟨L, L', k, p1, p2, p3, p4, p5, p6, p7⟩ | ⟨err, c, s, p0, p1⟩
        · have e2' := e2 hj
          rw [show i + 1 + o = i + o + 1 from by omega] at e2'
          rw [show j + 1 + o = j + o + 1 from by omega] at p2
          rw [p1, Option.bind_some, c90 A.g' _ (by decide +kernel) (i + o) (by omega), Option.bind_some, A.tx0 hlt, h, if_pos rfl]
          dsimp only
          rw [show ((0 : Int) != 0) = false from rfl, cond_false, e2', Option.bind_some]
          dsimp only
          rw [show ((0 : Int) != 0) = false from rfl, cond_false, c90 A.g' _ (by decide +kernel) (j + o) (by omega), Option.bind_some, A.tx0 hj, h2, if_pos rfl]
          dsimp only
          rw [show ((0 : Int) != 0) = false from rfl, cond_false, p2, Option.bind_some]
          exact .inr ⟨e, L, L', k, rfl, rfl, p5, by omega, p4, by omega, p7⟩
        · rw [p1, Option.bind_some]
          exact .inl ⟨err, _, _, p0, rfl⟩
    · rw [e1, Option.bind_some]
      dsimp only
      rw [b0' e0, cond_true]
      exact .inl ⟨err, _, _, e0, rfl⟩
theorem tw_read (A : Agr b l b' l' o sh) {f89 f89a f89' f89a' : Y89} {D : Nat} (hD : D ≤ 32) (i : Nat) (hi : i < l.length)
    (hB : ∀ j, i < j → j ≤ l.length → TwB b l b' l' o sh D j (f89 (D : Int) (cur b l j 0)) (f89' (D : Int) (cur b' l' (j + o) 0)))
    (hB' : ∀ j, i < j → j ≤ l.length → TwB b l b' l' o sh D j (f89a (D : Int) (cur b l j 0)) (f89a' (D : Int) (cur b' l' (j + o) 0))) :
    TwS b l b' l' o sh D i (b69 s30 s68 s87 (fun p2 p0 p1 => b88 s34 f89a s90 p2 p0 p1 some) f89 s90 s91 (D : Int) (cur b l i 0) (stK 0 (ps b l i)) some)
      (b69 s30 s68 s87 (fun p2 p0 p1 => b88 s34 f89a' s90 p2 p0 p1 some) f89' s90 s91 (D : Int) (cur b' l' (i + o) 0) (stK 0 (ps b' l' (i + o))) some) := by
  have hle := A.le
  have hlen := A.g.llen
  have hb := A.g.len
  have hlen' := A.g'.llen
  have hb' := A.g'.len
  have hp : sh = 0 → ps b' l' (i + o) = ps b l i := fun h => by rw [A.ps i hi, h, Int.add_zero]
  generalize ps b' l' (i + o) = p' at hp ⊢
  generalize ps b l i = p at hp ⊢
  unfold b69
  rw [c30 A.g (by decide +kernel) i 0 (by omega), Option.bind_some, c30 A.g' (by decide +kernel) (i + o) 0 (by omega), Option.bind_some, A.tx0 hi]
  dsimp only [stK]
  cases k1 : eqs (tx b l i) ⟨#[108, 101, 116]⟩ with
  | true =>
    rw [if_pos rfl, if_pos rfl]
    dsimp only
    rw [cond_true, cond_true, bindE, bindE]
    have key := tw_let A D hD (stK 0 p) (stK 0 p') (fun h0 => by rw [hp h0.2]) ⟨rfl, rfl, (by simp [stK]), (by simp [stK])⟩ (i + 1) hi
    rw [show i + 1 + o = i + o + 1 from by omega] at key
    exact TwS.weak (j := i + 1) key (by omega)
  | false =>
    rw [if_neg (by decide), if_neg (by decide)]
    dsimp only
    rw [cond_false, cond_false, c30 A.g (by decide +kernel) i 0 (by omega), Option.bind_some, c30 A.g' (by decide +kernel) (i + o) 0 (by omega), Option.bind_some, A.tx0 hi]
    cases k2 : eqs (tx b l i) ⟨#[105, 102]⟩ with
    | true =>
      rw [if_pos rfl, if_pos rfl]
      dsimp only
      rw [cond_true, cond_true]
      rcases tw_asked A (stK 2 p) (stK 2 p') (i + 1) hi (fun j h1 h2 => hB' j (by omega) h2) with ⟨err, c, s', q0, q1⟩ | ⟨e, L, L', j, q1, q2, q3, q4, q5, q6, q7⟩
      · unfold stK at q1
        rw [q1, Option.bind_some]
        dsimp only
        rw [b0 q0, cond_false]
        exact .inr ⟨err, _, _, q0, rfl⟩
      · rw [show i + 1 + o = i + o + 1 from by omega] at q2
        unfold stK at q1 q2
        rw [q1, Option.bind_some, q2, Option.bind_some]
        dsimp only [setL]
        rw [show ((0 : Int) == 0) = true from rfl, cond_true, cond_true, c30 A.g (by decide +kernel) j 0 (by omega), Option.bind_some, c30 A.g' (by decide +kernel) (j + o) 0 (by omega), Option.bind_some]
        cases k5 : eqs (tx b l j) ⟨#[101, 108, 115, 101]⟩ with
        | true =>
          have hl2 := tx_lt k5 (by decide +kernel)
          rw [A.tx0 hl2, k5, if_pos rfl, if_pos rfl]
          dsimp only
          rw [cond_true, cond_true]
          rcases hB (j + 1) (by omega) hl2 with ⟨M, M', k, p1, p2, p3, p4, p5, p6, p7⟩ | ⟨err, c, s, p0, p1⟩
          · rw [show j + 1 + o = j + o + 1 from by omega] at p2
            rw [p1, Option.bind_some, p2, Option.bind_some]
            refine .inl ⟨setL (stK 2 p) e L M, setL (stK 2 p') (shE sh e) L' M', k, rfl, rfl, by omega, p4, fun h0 => ?_, ?_, ?_⟩
            · rw [hp h0.2, q3 h0, p5 h0, h0.2, shE_zero]
            · rw [nst_c]
              have := nds_c5 e
              simp only [setL]
              omega
            · rw [dp1_c]
              simp only [setL, stK]
              rw [if_pos (by simp)]
              omega
          · rw [p1, Option.bind_some]
            exact .inr ⟨err, _, _, p0, rfl⟩
        | false =>
          have k6 : eqs (tx b' l' (j + o)) ⟨#[101, 108, 115, 101]⟩ = false := by
            by_cases hj : j < l.length
            · rw [A.tx0 hj]; exact k5
            · have : j = l.length := by omega
              subst this
              exact A.els
          rw [k6, if_neg (by decide), if_neg (by decide)]
          dsimp only
          rw [cond_false, cond_false]
          refine .inl ⟨setL (stK 2 p) e L [], setL (stK 2 p') (shE sh e) L' [], j, rfl, rfl, by omega, q5, fun h0 => ?_, ?_, ?_⟩
          · rw [hp h0.2, q3 h0, h0.2, shE_zero]
          · rw [nst_c]
            have := nds_c5 e
            simp only [setL, nstl]
            omega
          · rw [dp1_c]
            simp only [setL, stK, dpl]
            rw [if_pos (by simp)]
            omega
    | false =>
      rw [if_neg (by decide), if_neg (by decide)]
      dsimp only
      rw [cond_false, cond_false, c30 A.g (by decide +kernel) i 0 (by omega), Option.bind_some, c30 A.g' (by decide +kernel) (i + o) 0 (by omega), Option.bind_some, A.tx0 hi]
      cases k3 : eqs (tx b l i) ⟨#[119, 104, 105, 108, 101]⟩ with
      | true =>
        rw [if_pos rfl, if_pos rfl]
        dsimp only
        rw [cond_true, cond_true, bindE, bindE]
        rcases tw_asked A (stK 3 p) (stK 3 p') (i + 1) hi (fun j h1 h2 => hB' j (by omega) h2) with ⟨err, c, s', q0, q1⟩ | ⟨e, L, L', j, q1, q2, q3, q4, q5, q6, q7⟩
        · exact .inr ⟨err, c, s', q0, q1⟩
        · rw [show i + 1 + o = i + o + 1 from by omega] at q2
          refine .inl ⟨setL (stK 3 p) e L [], setL (stK 3 p') (shE sh e) L' [], j, q1, q2, by omega, q5, fun h0 => ?_, ?_, ?_⟩
          · rw [hp h0.2, q3 h0, h0.2, shE_zero]
          · rw [nst_c]
            have := nds_c5 e
            simp only [setL, nstl]
            omega
          · rw [dp1_c]
            simp only [setL, stK, dpl]
            rw [if_pos (by simp)]
            omega
      | false =>
        rw [if_neg (by decide), if_neg (by decide)]
        dsimp only
        rw [cond_false, cond_false, c30 A.g (by decide +kernel) i 0 (by omega), Option.bind_some, c30 A.g' (by decide +kernel) (i + o) 0 (by omega), Option.bind_some, A.tx0 hi]
        cases k4 : eqs (tx b l i) ⟨#[100, 111]⟩ with
        | true =>
          rw [if_pos rfl, if_pos rfl]
          dsimp only
          rw [cond_true, cond_true, c68 A.g _ _ (by omega), Option.bind_some]
          cases h5 : idn (tx b l (i + 1)) with
          | false => exact .inr ⟨11, _, _, by decide, rfl⟩
          | true =>
            have hl2 := idn_lt h5
            rw [c68 A.g' _ _ (by omega), Option.bind_some, A.tx i 1 hl2, h5, if_pos rfl, if_pos rfl]
            dsimp only
            rw [show ((0 : Int) != 0) = false from rfl, cond_false, cond_false, c90 A.g _ (by decide +kernel) _ (by omega), Option.bind_some]
            cases h6 : eqs (tx b l (i + 1 + 1)) ⟨#[59]⟩ with
            | false => exact .inr ⟨11, _, _, by decide, rfl⟩
            | true =>
              have hl3 := tx_lt h6 (by decide +kernel)
              rw [c90 A.g' _ (by decide +kernel) _ (by omega), Option.bind_some, show i + o + 1 + 1 = i + o + 2 from rfl, A.tx i 2 hl3, h6, if_pos rfl, if_pos rfl]
              refine .inl ⟨_, (⟨4, p', tx b l (i + 1), 0, false, false, (⟨#[]⟩ : ByteArray), 0, 0, 0, 0, 0, (⟨#[]⟩ : ByteArray), (⟨#[]⟩ : ByteArray), [], [], []⟩ : S79), i + 3, rfl, ?_, by omega, hl3, fun h0 => ?_, ?_, ?_⟩
              · rw [show i + 3 + o = i + o + 2 + 1 from by omega]
              · rw [hp h0.2]
              · rw [nst_c]
                simp only [nstl, ndss]
                omega
              · rw [dp1_c, if_neg (by simp)]
                omega
        | false =>
          rw [if_neg (by decide), if_neg (by decide)]
          dsimp only
          rw [cond_false, cond_false, bindE, bindE]
          exact tw_other A D hD p p' hp i (by omega)
end
end Go.Proofs.Ytogfofcocidmkaa.Pu
