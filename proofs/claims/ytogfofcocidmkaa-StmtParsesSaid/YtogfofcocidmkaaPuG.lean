/- The plain functions, read: the parser of expressions always answers (all of it). -/
import Derived.Test.YtogfofcocidmkaaPuF
set_option linter.unusedVariables false
set_option linter.unusedSimpArgs false
namespace Go.Proofs.Ytogfofcocidmkaa.Pu
open Go.RowKit Go.Proofs Ev
section
variable {b : List Int} {l : List S51} {f63 : Y63} {f83 : Y83} {f98 : Y98} {f109 : Y109} {f110 : Y110} {f111 : Y111}
theorem st98 (g : Good b l) {i d : Nat} (hi : i ≤ l.length) (hd : d ≤ 32) (h109 : eqs (tx b l i) ⟨#[40]⟩ = true → Res b l .grp i d (f109 (cur b l i d)))
    (h110 : eqs (tx b l i) ⟨#[100, 101, 99, 108, 97, 115, 115, 105, 102, 121]⟩ = true → Res b l .opn i d (f110 (cur b l i d))) (h111 : Res b l .nam i d (f111 (cur b l i d))) :
    Res b l .pri i d (b98 s25 s26 s28 s108 f109 f110 f111 (cur b l i d) some) := by
  unfold b98
  have hlen := g.llen
  have hb := g.len
  rw [c26, Option.bind_some, c25 g, Option.bind_some, c28, Option.bind_some, nx i d (by omega)]
  by_cases hk : kd b l i = 3
  · rw [hk, show ((3 : Int) == 3) = true from rfl, cond_true, c108 g i d (by omega), Option.bind_some]
    cases hn : numR (bytesOf (tx b l i)) 0 with
    | none => exact ⟨z27, 18, i, d, rfl, .numE hk hn, fun h => (by cases h), hd⟩
    | some v => exact ⟨_, 0, i + 1, d, rfl, .num hk hn, fun _ => rfl, hd⟩
  · rw [show (kd b l i == 3) = false from by simpa using hk, cond_false]
    have rest : eqs (tx b l i) ⟨#[116, 114, 117, 101]⟩ = false → eqs (tx b l i) ⟨#[102, 97, 108, 115, 101]⟩ = false → Res b l .pri i d (cond (eqs (tx b l i) ⟨#[40]⟩) ((f109 (cur b l i d)).bind fun r5 => some ((⟨r5.1.c0, r5.1.c1, r5.1.c2, r5.1.c3, r5.1.c4, r5.1.c5⟩ : S27), r5.2.1, r5.2.2))
        (cond (eqs (tx b l i) ⟨#[100, 101, 99, 108, 97, 115, 115, 105, 102, 121]⟩) ((f110 (cur b l i d)).bind fun r6 => some ((⟨r6.1.c0, r6.1.c1, r6.1.c2, r6.1.c3, r6.1.c4, r6.1.c5⟩ : S27), r6.2.1, r6.2.2))
          ((f111 (cur b l i d)).bind fun r7 => some ((⟨r7.1.c0, r7.1.c1, r7.1.c2, r7.1.c3, r7.1.c4, r7.1.c5⟩ : S27), r7.2.1, r7.2.2)))) := by
      intro h1 h2
      cases h3 : eqs (tx b l i) ⟨#[40]⟩ with
      | true =>
        obtain ⟨e, err, j, d', ho, hbs, hd1, hd2⟩ := h109 h3
        rw [cond_true, ho, Option.bind_some, eta27]
        exact ⟨e, err, j, d', rfl, .pgr hk h3 hbs, hd1, hd2⟩
      | false =>
        rw [cond_false]
        cases h4 : eqs (tx b l i) ⟨#[100, 101, 99, 108, 97, 115, 115, 105, 102, 121]⟩ with
        | true =>
          obtain ⟨e, err, j, d', ho, hbs, hd1, hd2⟩ := h110 h4
          rw [cond_true, ho, Option.bind_some, eta27]
          exact ⟨e, err, j, d', rfl, .pop hk h4 hbs, hd1, hd2⟩
        | false =>
          obtain ⟨e, err, j, d', ho, hbs, hd1, hd2⟩ := h111
          rw [cond_false, ho, Option.bind_some, eta27]
          exact ⟨e, err, j, d', rfl, .pnm hk h1 h2 h3 h4 hbs, hd1, hd2⟩
    show Res b l .pri i d (cond (eqs (tx b l i) ⟨#[116, 114, 117, 101]⟩) (cond (eqs (tx b l i) ⟨#[116, 114, 117, 101]⟩) (cond (eqs (tx b l i) ⟨#[116, 114, 117, 101]⟩) _ _) _) (cond (eqs (tx b l i) ⟨#[102, 97, 108, 115, 101]⟩) (cond (eqs (tx b l i) ⟨#[116, 114, 117, 101]⟩) _ _) _))
    cases h1 : eqs (tx b l i) ⟨#[116, 114, 117, 101]⟩ with
    | true =>
      simp only [cond_true]
      exact ⟨_, 0, i + 1, d, rfl, .tru hk h1, fun _ => rfl, hd⟩
    | false =>
      rw [cond_false]
      cases h2 : eqs (tx b l i) ⟨#[102, 97, 108, 115, 101]⟩ with
      | true =>
        simp only [cond_true, cond_false]
        exact ⟨_, 0, i + 1, d, rfl, .fls hk h2, fun _ => rfl, hd⟩
      | false =>
        rw [cond_false]
        exact rest h1 h2
theorem st109 (g : Good b l) {i d : Nat} (hi : i ≤ l.length) (hd : d ≤ 32) (ht : eqs (tx b l i) ⟨#[40]⟩ = true)
    (h63 : ¬ 32 ≤ d → Res b l (.bin 1) (i + 1) (d + 1) (f63 1 (cur b l (i + 1) (d + 1)))) : Res b l .grp i d (b109 f63 s99 s113 (cur b l i d) some) := by
  unfold b109
  have hlen := g.llen
  have hb := g.len
  have hil := tx_lt ht (by decide +kernel)
  rw [c99 i d (by omega) (by omega), Option.bind_some]
  by_cases h32 : 32 ≤ d
  · rw [if_pos h32]
    exact ⟨z27, 12, i, d, rfl, .grD ht h32, fun h => (by cases h), hd⟩
  · rw [if_neg h32]
    dsimp only
    rw [show ((0 : Int) != 0) = false from rfl, cond_false]
    obtain ⟨e, err, j, d', ho, hbs, hd1, hd2⟩ := h63 h32
    rw [ho, Option.bind_some]
    dsimp only
    have hinv := hbs.inv (by simp [ntOk]) hil
    simp only at hinv
    by_cases he : err = 0
    · subst he
      obtain rfl := hd1 rfl
      rw [show ((0 : Int) == 0) = true from rfl, cond_true, c113 g j (d + 1) (by omega) (by omega) (by omega), Option.bind_some]
      cases hj : eqs (tx b l j) ⟨#[41]⟩ with
      | true =>
        rw [if_pos rfl]
        dsimp only
        rw [show ((0 : Int) != 0) = false from rfl, cond_false, eta27]
        exact ⟨e, 0, j + 1, d, rfl, .grp ht h32 hbs hj, fun _ => rfl, hd⟩
      | false =>
        rw [if_neg (by simp)]
        dsimp only
        rw [show ((11 : Int) != 0) = true from rfl, cond_true]
        exact ⟨z27, 11, j, d + 1, rfl, .grP ht h32 hbs hj, fun h => (by cases h), hd2⟩
    · rw [b0 he, cond_false, b0' he, cond_true]
      exact ⟨z27, err, j, d', rfl, .grE ht h32 hbs he, fun h => absurd h he, hd2⟩
theorem st110 (g : Good b l) {i d : Nat} (hi : i ≤ l.length) (hd : d ≤ 32) (ht : eqs (tx b l i) ⟨#[100, 101, 99, 108, 97, 115, 115, 105, 102, 121]⟩ = true)
    (h63 : i + 2 ≤ l.length → ¬ 32 ≤ d → Res b l (.bin 1) (i + 2) (d + 1) (f63 1 (cur b l (i + 2) (d + 1)))) : Res b l .opn i d (b110 s25 s26 s30 s31 f63 s85 s99 s113 (cur b l i d) some) := by
  unfold b110
  have hlen := g.llen
  have hb := g.len
  have hil := tx_lt ht (by decide +kernel)
  rw [c26, Option.bind_some, nx i d (by omega), c25 g, Option.bind_some]
  show Res b l .opn i d (cond (!(eqs (tx b l (i + 1)) ⟨#[40]⟩)) _ _)
  cases h1 : eqs (tx b l (i + 1)) ⟨#[40]⟩ with
  | false => exact ⟨z27, 11, i + 1, d, rfl, .op1 ht h1, fun h => (by cases h), hd⟩
  | true =>
    have hil2 := tx_lt h1 (by decide +kernel)
    rw [Bool.not_true, cond_false, c99 (i + 1) d (by omega) (by omega), Option.bind_some]
    by_cases h32 : 32 ≤ d
    · rw [if_pos h32]
      exact ⟨z27, 12, i + 1, d, rfl, .opD ht h1 h32, fun h => (by cases h), hd⟩
    · rw [if_neg h32]
      dsimp only
      rw [show ((0 : Int) != 0) = false from rfl, cond_false]
      obtain ⟨e, err, j, d', ho, hbs, hd1, hd2⟩ := h63 (by omega) h32
      rw [show i + 1 + 1 = i + 2 from rfl, ho, Option.bind_some]
      dsimp only
      have hinv := hbs.inv (by simp [ntOk]) (by omega)
      simp only at hinv
      by_cases he : err = 0
      · subst he
        obtain rfl := hd1 rfl
        obtain ⟨i1, i2, i3, _⟩ := hinv
        obtain ⟨i4, i5, i6, _⟩ := i3 rfl
        simp only [resN, ntE] at i5
        rw [show ((0 : Int) != 0) = false from rfl, cond_false, c30 g (by decide +kernel) j (d + 1) (by omega), Option.bind_some]
        cases hj : eqs (tx b l j) ⟨#[44]⟩ with
        | false =>
          rw [if_neg (by simp)]
          exact ⟨z27, 11, j, d + 1, rfl, .op2 ht h1 h32 hbs hj, fun h => (by cases h), hd2⟩
        | true =>
          rw [if_pos rfl]
          dsimp only
          rw [cond_true, c30 g (by decide +kernel) (j + 1) (d + 1) (by omega), Option.bind_some]
          cases hj2 : eqs (tx b l (j + 1)) ⟨#[64]⟩ with
          | false =>
            rw [if_neg (by simp)]
            exact ⟨z27, 11, j + 1, d + 1, rfl, .op3 ht h1 h32 hbs hj hj2, fun h => (by cases h), hd2⟩
          | true =>
            rw [if_pos rfl]
            dsimp only
            rw [cond_true, c31 g (j + 1 + 1) (d + 1) (by omega), Option.bind_some]
            cases hj3 : idn (tx b l (j + 1 + 1)) with
            | false =>
              rw [if_neg (by simp)]
              exact ⟨z27, 11, j + 2, d + 1, rfl, .op4 ht h1 h32 hbs hj hj2 hj3, fun h => (by cases h), hd2⟩
            | true =>
              rw [if_pos rfl]
              dsimp only
              have := idn_lt hj3
              rw [Bool.not_true, cond_false, c113 g (j + 1 + 1 + 1) (d + 1) (by omega) (by omega) (by omega), Option.bind_some]
              cases hj4 : eqs (tx b l (j + 1 + 1 + 1)) ⟨#[41]⟩ with
              | false =>
                rw [if_neg (by simp)]
                exact ⟨z27, 11, j + 3, d + 1, rfl, .op5 ht h1 h32 hbs hj hj2 hj3 hj4, fun h => (by cases h), hd2⟩
              | true =>
                rw [if_pos rfl]
                dsimp only
                have h4 := tx_lt hj4 (by decide +kernel)
                rw [show ((0 : Int) != 0) = false from rfl, cond_false, eta27, show (cur b l i d).c2 = (i : Int) from rfl, show d + 1 - 1 = d from rfl, c85 _ i (j + 1 + 1 + 1 + 1) d (by simp only [nds, ndss]; omega), Option.bind_some, eta27]
                have := Bs.opn ht h1 h32 hbs hj hj2 hj3 hj4
                exact ⟨_, _, _, d, rfl, this, fun _ => rfl, hd⟩
      · rw [b0' he, cond_true]
        exact ⟨z27, err, j, d', rfl, .opE ht h1 h32 hbs he, fun h => absurd h he, hd2⟩
theorem lp111 (g : Good b l) {k0 d : Nat} (hd : d ≤ 32) (hop : ∀ j, k0 ≤ j → j ≤ l.length → Res b l (.bin 1) j d (f63 1 (cur b l j d))) :
    ∀ (n j : Nat) (acc : List S27), k0 ≤ j → j ≤ l.length → l.length - j + 2 ≤ n → ndss acc ≤ j →
    ∃ r, lp111_17 s25 s26 s30 s31 f63 s85 s99 s113 n b l (j : Int) (d : Int) acc = some r ∧ (match r with
      | .inl o => ∃ (err : Int) (k d' : Nat) (acc' : List S27), o = (b, l, (k : Int), (d' : Int), acc', err, 0, 0, 0, ⟨#[]⟩, ⟨#[]⟩) ∧ err ≠ 0 ∧ Bs b l (.al acc) j d (z27, err, k) ∧ d' ≤ 32
      | .inr o => ∃ (k : Nat) (acc' : List S27), o = (b, l, (k : Int), (d : Int), acc') ∧ Bs b l (.al acc) j d (mkL acc', 0, k)) := by
  have hlen := g.llen
  have hb := g.len
  intro n
  induction n with
  | zero => intro j acc h1 h2 h3; omega
  | succ n ih =>
    intro j acc h1 h2 h3 hn
    have hal := ndss_len acc
    unfold lp111_17 lb111_17
    dsimp only
    rw [curI, c25 g, Option.bind_some]
    have arg : ∀ (k : Nat), k0 ≤ k → k ≤ l.length → j ≤ k → ((acc = [] ∧ k = j) ∨ (acc ≠ [] ∧ eqs (tx b l j) ⟨#[44]⟩ = true ∧ k = j + 1)) → eqs (tx b l j) ⟨#[41]⟩ = false → 
        ∃ r, ((f63 1 (cur b l k d)).bind fun r59 => cond (r59.2.1 != 0) (some (Sum.inl (r59.2.2.c0, r59.2.2.c1, r59.2.2.c2, r59.2.2.c3, acc, r59.2.1, (0 : Int), (0 : Int), (0 : Int), (⟨#[]⟩ : ByteArray), (⟨#[]⟩ : ByteArray))))
          (when_ (decide (acc.length + [(⟨r59.1.c0, r59.1.c1, r59.1.c2, r59.1.c3, r59.1.c4, r59.1.c5⟩ : S27)].length ≤ 1759218604441)) (lp111_17 s25 s26 s30 s31 f63 s85 s99 s113 n r59.2.2.c0 r59.2.2.c1 r59.2.2.c2 r59.2.2.c3 (acc ++ [(⟨r59.1.c0, r59.1.c1, r59.1.c2, r59.1.c3, r59.1.c4, r59.1.c5⟩ : S27)])))) = some r ∧ (match r with
          | .inl o => ∃ (err : Int) (k d' : Nat) (acc' : List S27), o = (b, l, (k : Int), (d' : Int), acc', err, 0, 0, 0, ⟨#[]⟩, ⟨#[]⟩) ∧ err ≠ 0 ∧ Bs b l (.al acc) j d (z27, err, k) ∧ d' ≤ 32
          | .inr o => ∃ (k : Nat) (acc' : List S27), o = (b, l, (k : Int), (d : Int), acc') ∧ Bs b l (.al acc) j d (mkL acc', 0, k)) := by
      intro k hk1 hk2 hjk hk3 h41
      obtain ⟨e, err, j', d', ho, hbs, hd1, hd2⟩ := hop k hk1 hk2
      rw [ho, Option.bind_some]
      dsimp only
      have hinv := hbs.inv (by simp [ntOk]) hk2
      simp only at hinv
      by_cases he : err = 0
      · subst he
        obtain rfl := hd1 rfl
        obtain ⟨i1, i2, i3, _⟩ := hinv
        obtain ⟨i4, i5, i6, _⟩ := i3 rfl
        simp only [resN, ntE] at i5
        have i4 := i4 rfl
        rw [show ((0 : Int) != 0) = false from rfl, cond_false, when_t _ (dec_t (by simp; omega)), eta27]
        obtain ⟨r, r1, r2⟩ := ih j' (acc ++ [e]) (by omega) i2 (by omega) (by rw [ndss_app]; simp only [ndss]; omega)
        refine ⟨r, r1, ?_⟩
        cases r with
        | inl o => obtain ⟨err, k', d'', acc', e1, e2, e3, e4⟩ := r2; exact ⟨err, k', d'', acc', e1, e2, .al h41 hk3 hbs e3, e4⟩
        | inr o => obtain ⟨k', acc', e1, e2⟩ := r2; exact ⟨k', acc', e1, .al h41 hk3 hbs e2⟩
      · rw [b0' he, cond_true]
        exact ⟨_, rfl, err, j', d', acc, rfl, he, .alE h41 hk3 hbs he, hd2⟩
    show ∃ r, cond (!(eqs (tx b l j) ⟨#[41]⟩)) _ _ = some r ∧ _
    cases h41 : eqs (tx b l j) ⟨#[41]⟩ with
    | true =>
      rw [Bool.not_true, cond_false]
      exact ⟨_, rfl, j, acc, rfl, .alN h41⟩
    | false =>
      rw [Bool.not_false, cond_true]
      by_cases ha : acc = []
      · subst ha
        rw [show decide (((([] : List S27).length : Nat) : Int) > 0) = false from rfl, cond_false]
        exact arg j h1 h2 (Nat.le_refl _) (.inl ⟨rfl, rfl⟩) h41
      · have : 0 < acc.length := List.length_pos_iff.2 ha
        rw [cond_t _ _ (dec_t (by omega)), c30 g (by decide +kernel) j d (by omega), Option.bind_some]
        cases h44 : eqs (tx b l j) ⟨#[44]⟩ with
        | false =>
          rw [if_neg (by simp)]
          exact ⟨_, rfl, 11, j, d, acc, rfl, by decide, .alC h41 ha h44, hd⟩
        | true =>
          have := tx_lt h44 (by decide +kernel)
          rw [if_pos rfl]
          dsimp only
          rw [Bool.not_true, cond_false]
          exact arg (j + 1) (by omega) (by omega) (by omega) (.inr ⟨ha, h44, rfl⟩) h41
theorem st111 (g : Good b l) {i d : Nat} (hi : i ≤ l.length) (hd : d ≤ 32)
    (h63 : ¬ 32 ≤ d → ∀ j, i + 2 ≤ j → j ≤ l.length → Res b l (.bin 1) j (d + 1) (f63 1 (cur b l j (d + 1)))) :
    Res b l .nam i d (b111 s25 s26 s30 s31 f63 s85 s99 s113 (lp111_17 s25 s26 s30 s31 f63 s85 s99 s113 big) (cur b l i d) some) := by
  unfold b111
  have hlen := g.llen
  have hb := g.len
  rw [c26, Option.bind_some, c31 g i d (by omega), Option.bind_some]
  cases h1 : idn (tx b l i) with
  | false =>
    rw [if_neg (by simp)]
    exact ⟨z27, 11, i, d, rfl, .nm0 h1, fun h => (by cases h), hd⟩
  | true =>
    have hil := idn_lt h1
    rw [if_pos rfl]
    dsimp only
    rw [Bool.not_true, cond_false, c30 g (by decide +kernel) (i + 1) d (by omega), Option.bind_some]
    have call : ∀ (k : Nat) (x : ByteArray), i + 1 ≤ k → k ≤ l.length → ((eqs (tx b l (i + 1)) ⟨#[46]⟩ = true ∧ idn (tx b l (i + 2)) = true ∧ k = i + 3 ∧ x = tx b l i ++ ((⟨#[46]⟩ : ByteArray) ++ tx b l (i + 2))) ∨ (eqs (tx b l (i + 1)) ⟨#[46]⟩ = false ∧ k = i + 1 ∧ x = tx b l i)) →
        Res b l .nam i d ((s25 (cur b l k d)).bind fun r5 => cond (!(r5.toList == (⟨#[40]⟩ : ByteArray).toList)) (some ((⟨2, ps b l i, 0, x, (⟨#[]⟩ : ByteArray), []⟩ : S27), 0, cur b l k d))
          ((s99 (cur b l k d)).bind fun r6 => cond (r6.1 != 0) (some ((⟨0, 0, 0, (⟨#[]⟩ : ByteArray), (⟨#[]⟩ : ByteArray), []⟩ : S27), r6.1, r6.2))
            ((lp111_17 s25 s26 s30 s31 f63 s85 s99 s113 big r6.2.c0 r6.2.c1 r6.2.c2 r6.2.c3 []).bind (Sum.elim (fun r61_0 =>
              some ((⟨r61_0.2.2.2.2.2.2.1, r61_0.2.2.2.2.2.2.2.1, r61_0.2.2.2.2.2.2.2.2.1, r61_0.2.2.2.2.2.2.2.2.2.1, r61_0.2.2.2.2.2.2.2.2.2.2, []⟩ : S27), r61_0.2.2.2.2.2.1, (⟨r61_0.1, r61_0.2.1, r61_0.2.2.1, r61_0.2.2.2.1⟩ : S98))) (fun r61_1 =>
              (s113 (⟨r61_1.1, r61_1.2.1, r61_1.2.2.1, r61_1.2.2.2.1⟩ : S98)).bind fun r62 =>
              cond (r62.1 != 0) (some ((⟨0, 0, 0, (⟨#[]⟩ : ByteArray), (⟨#[]⟩ : ByteArray), []⟩ : S27), r62.1, r62.2))
                ((s85 (⟨3, ps b l i, 0, x, (⟨#[]⟩ : ByteArray), r61_1.2.2.2.2⟩ : S27) (cur b l i d).c2 r62.2).bind fun r63 =>
                  some ((⟨r63.1.c0, r63.1.c1, r63.1.c2, r63.1.c3, r63.1.c4, r63.1.c5⟩ : S27), r63.2.1, r63.2.2))))))) := by
      intro k x hk1 hk2 hx
      rw [c25 g, Option.bind_some]
      show Res b l .nam i d (cond (!(eqs (tx b l k) ⟨#[40]⟩)) _ _)
      cases h40 : eqs (tx b l k) ⟨#[40]⟩ with
      | false => exact ⟨_, 0, k, d, rfl, .nmV h1 hx h40, fun _ => rfl, hd⟩
      | true =>
        have hkl := tx_lt h40 (by decide +kernel)
        rw [Bool.not_true, cond_false, c99 k d (by omega) (by omega), Option.bind_some]
        by_cases h32 : 32 ≤ d
        · rw [if_pos h32]
          exact ⟨z27, 12, k, d, rfl, .nmD h1 hx h40 h32, fun h => (by cases h), hd⟩
        · rw [if_neg h32]
          dsimp only
          rw [show ((0 : Int) != 0) = false from rfl, cond_false]
          obtain ⟨r, r1, r2⟩ := lp111 (f63 := f63) (k0 := k + 1) (d := d + 1) g (by omega) (fun j hj hj2 => h63 h32 j (by omega) hj2) big (k + 1) [] (Nat.le_refl _) (by omega) (by have : l.length - (k + 1) + 2 < big := big_lt (by omega); omega) (by simp [ndss])
          rw [show (cur b l (k + 1) (d + 1)).c0 = b from rfl, show (cur b l (k + 1) (d + 1)).c1 = l from rfl, show (cur b l (k + 1) (d + 1)).c2 = ((k + 1 : Nat) : Int) from rfl, show (cur b l (k + 1) (d + 1)).c3 = ((d + 1 : Nat) : Int) from rfl, r1, Option.bind_some]
          cases r with
          | inl o =>
            obtain ⟨err, k', d'', acc', rfl, e2, e3, e4⟩ := r2
            simp only [Sum.elim_inl]
            exact ⟨z27, err, k', d'', rfl, .nmE h1 hx h40 h32 e3 e2, fun h => absurd h e2, e4⟩
          | inr o =>
            obtain ⟨k', acc', rfl, e2⟩ := r2
            have hinv := e2.inv (by simp [ntOk]) (by omega)
            simp only at hinv
            obtain ⟨i1, i2, i3, _⟩ := hinv
            obtain ⟨i4, i5, i6, i7⟩ := i3 (by first | rfl | trivial)
            have hk' := i7 _ rfl
            have hk'' := tx_lt hk' (by decide +kernel)
            simp only [resN, ntE, ndss, mkL] at i5
            simp only [Sum.elim_inr]
            rw [curI, c113 g k' (d + 1) (by omega) (by omega) (by omega), Option.bind_some, if_pos hk']
            dsimp only
            rw [show ((0 : Int) != 0) = false from rfl, cond_false, show (cur b l i d).c2 = (i : Int) from rfl, show d + 1 - 1 = d from rfl, c85 _ i (k' + 1) d (by simp only [nds]; omega), Option.bind_some, eta27]
            have := Bs.nam h1 hx h40 h32 e2
            exact ⟨_, _, _, d, rfl, this, fun _ => rfl, hd⟩
    cases h2 : eqs (tx b l (i + 1)) ⟨#[46]⟩ with
    | true =>
      have hil2 := tx_lt h2 (by decide +kernel)
      rw [if_pos rfl]
      dsimp only
      rw [cond_true, c31 g (i + 1 + 1) d (by omega), Option.bind_some]
      cases h3 : idn (tx b l (i + 1 + 1)) with
      | false =>
        rw [if_neg (by simp)]
        exact ⟨z27, 11, i + 2, d, rfl, .nm1 h1 h2 h3, fun h => (by cases h), hd⟩
      | true =>
        have hil3 := idn_lt h3
        rw [if_pos rfl]
        dsimp only
        have s1 := tx_size g i
        have s2 := tx_size g (i + 1 + 1)
        rw [Bool.not_true, cond_false, when_t _ (dec_t (by rw [show (⟨#[46]⟩ : ByteArray).size = 1 from rfl]; omega)), when_t _ (dec_t (by rw [ByteArray.size_append, show (⟨#[46]⟩ : ByteArray).size = 1 from rfl]; omega))]
        exact call (i + 3) _ (by omega) (by omega) (.inl ⟨h2, h3, rfl, rfl⟩)
    | false =>
      rw [if_neg (by simp)]
      dsimp only
      rw [cond_false]
      exact call (i + 1) _ (by omega) (by omega) (.inr ⟨h2, rfl, rfl⟩)
/-- All of the parser, by how many rounds it may take. -/
theorem all63 (g : Good b l) : ∀ n : Nat,
    (∀ lv i d, 1 ≤ lv → lv ≤ 6 → i ≤ l.length → d ≤ 32 → 10 * (l.length - i) + (10 - lv) ≤ n → Res b l (.bin lv) i d ((g63 n).f63 (lv : Int) (cur b l i d))) ∧
    (∀ i d, i ≤ l.length → d ≤ 32 → 10 * (l.length - i) + 3 ≤ n → Res b l .sig i d ((g63 n).f83 (cur b l i d))) ∧
    (∀ i d, i ≤ l.length → d ≤ 32 → 10 * (l.length - i) + 2 ≤ n → Res b l .pri i d ((g63 n).f98 (cur b l i d))) ∧
    (∀ i d, i ≤ l.length → d ≤ 32 → 10 * (l.length - i) + 1 ≤ n → eqs (tx b l i) ⟨#[40]⟩ = true → Res b l .grp i d ((g63 n).f109 (cur b l i d))) ∧
    (∀ i d, i ≤ l.length → d ≤ 32 → 10 * (l.length - i) + 1 ≤ n → eqs (tx b l i) ⟨#[100, 101, 99, 108, 97, 115, 115, 105, 102, 121]⟩ = true → Res b l .opn i d ((g63 n).f110 (cur b l i d))) ∧
    (∀ i d, i ≤ l.length → d ≤ 32 → 10 * (l.length - i) + 1 ≤ n → Res b l .nam i d ((g63 n).f111 (cur b l i d))) := by
  intro n
  induction n with
  | zero => exact ⟨fun _ _ _ _ _ _ _ h => by omega, fun _ _ _ _ h => by omega, fun _ _ _ _ h => by omega, fun _ _ _ _ h => by omega, fun _ _ _ _ h => by omega, fun _ _ _ _ h => by omega⟩
  | succ n ih =>
    obtain ⟨a63, a83, a98, a109, a110, a111⟩ := ih
    refine ⟨fun lv i d h1 h6 hi hd hn => ?_, fun i d hi hd hn => ?_, fun i d hi hd hn => ?_, fun i d hi hd hn ht => ?_, fun i d hi hd hn ht => ?_, fun i d hi hd hn => ?_⟩
    · refine st63 g h1 h6 hi hd (fun e => a83 i d hi hd (by omega)) (fun e => a63 _ _ _ (by omega) (by omega) hi hd (by omega)) (fun e j hj hj2 => a63 _ _ _ (by omega) (by omega) (by omega) hd (by omega))
    · exact st83 g hi hd (a98 i d hi hd (by omega)) (fun h h32 => a83 _ _ (by omega) (by omega) (by omega))
    · exact st98 g hi hd (fun h => a109 i d hi hd (by omega) h) (fun h => a110 i d hi hd (by omega) h) (a111 i d hi hd (by omega))
    · have := tx_lt ht (by decide +kernel)
      exact st109 g hi hd ht (fun h32 => a63 1 _ _ (by omega) (by omega) (by omega) (by omega) (by omega))
    · have := tx_lt ht (by decide +kernel)
      exact st110 g hi hd ht (fun h h32 => a63 1 _ _ (by omega) (by omega) (by omega) (by omega) (by omega))
    · exact st111 g hi hd (fun h32 j hj hj2 => a63 1 _ _ (by omega) (by omega) (by omega) (by omega) (by omega))
theorem t63 (g : Good b l) (i d : Nat) (hi : i ≤ l.length) (hd : d ≤ 32) : Res b l (.bin 1) i d (s63 1 (cur b l i d)) := by
  have hlen := g.llen
  have hb := g.len
  exact (all63 g big).1 1 i d (by omega) (by omega) hi hd (by have : 10 * (l.length - i) + 9 < big := big_lt (by omega); omega)
end
theorem t34 {b : List Int} {l : List S51} (g : Good b l) (i d : Nat) (hi : i ≤ l.length) (hd : d ≤ 32) : ∃ e err j, s34 (cur b l i d) = some (e, err, cur b l j d) ∧ Bs b l (.bin 1) i d (e, err, j) := by
  unfold s34 b34
  obtain ⟨e, err, j, d', h1, h2, _, _⟩ := t63 g i d hi hd
  rw [h1, Option.bind_some, eta27]
  exact ⟨e, err, j, rfl, h2⟩
end Go.Proofs.Ytogfofcocidmkaa.Pu
