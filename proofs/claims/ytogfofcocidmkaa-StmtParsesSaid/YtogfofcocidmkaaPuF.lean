/- The plain functions, read: the parser of expressions always answers (the steps). -/
import Derived.Test.YtogfofcocidmkaaPuE
set_option linter.unusedVariables false
set_option linter.unusedSimpArgs false
namespace Go.Proofs.Ytogfofcocidmkaa.Pu
open Go.RowKit Go.Proofs Ev
section
variable {b : List Int} {l : List S51} {f63 : Y63} {f83 : Y83} {f98 : Y98} {f109 : Y109} {f110 : Y110} {f111 : Y111}
theorem curI (i d : Nat) : (⟨b, l, (i : Int), (d : Int)⟩ : S98) = cur b l i d := rfl
theorem lp63 (g : Good b l) {lv i d : Nat} (hl1 : 1 ≤ lv) (hl6 : lv < 6) (hd : d ≤ 32) (hop : ∀ j, i ≤ j → j < l.length → Res b l (.bin (lv + 1)) (j + 1) d (f63 ((lv + 1 : Nat) : Int) (cur b l (j + 1) d))) :
    ∀ (n j : Nat) (e : S27), i ≤ j → j ≤ l.length → l.length - j + 2 ≤ n → hgt e ≤ 32 → nds e ≤ j →
    ∃ (e' : S27) (err : Int) (k d' : Nat) (e'' : S27), lp63_4 s25 f63 f83 s84 s85 n (lv : Int) 0 b l (j : Int) (d : Int) e.c0 e.c1 e.c2 e.c3 e.c4 e.c5 = some (err, b, l, (k : Int), (d' : Int), e'.c0, e'.c1, e'.c2, e'.c3, e'.c4, e'.c5) ∧
      Bs b l (.bl lv e) j d (e'', err, k) ∧ (err = 0 → e' = e'' ∧ d' = d) ∧ d' ≤ 32 := by
  have hlen := g.llen
  have hb := g.len
  intro n
  induction n with
  | zero => intro j e h1 h2 h3; omega
  | succ n ih =>
    intro j e h1 h2 h3 hh hn
    unfold lp63_4 lb63_4
    dsimp only
    rw [show ((0 : Int) == 0) = true from rfl, cond_true, curI, c25 g, Option.bind_some, t84, Option.bind_some]
    by_cases hlev : lev (tx b l j) = lv
    · have hj := lev_lt hlev hl1
      rw [hlev, show ((lv : Int) == lv) = true from by simp, cond_true, Option.bind_some, wn lv (by omega), wn j (by omega)]
      obtain ⟨m, err, k, d', ho, hbs, hd1, hd2⟩ := hop j h1 hj
      rw [curI, ho, Option.bind_some]
      have hinv := hbs.inv (by simp [ntOk]) hj
      simp only at hinv
      by_cases he : err = 0
      · subst he
        obtain rfl := hd1 rfl
        obtain ⟨i1, i2, i3, _⟩ := hinv
        obtain ⟨i4, i5, i6, _⟩ := i3 rfl
        simp only [resN, ntE] at i5
        have i4 := i4 rfl
        dsimp only
        rw [show ((0 : Int) == 0) = true from rfl, cond_true, eta27, eta27, c85 _ j k d' (by simp only [nds, ndss]; omega), Option.bind_some]
        dsimp only
        by_cases hhh : 32 < hgt ⟨5, e.c1, 0, tx b l j, ⟨#[]⟩, [e, m]⟩
        · have e1 : heldR (⟨5, e.c1, 0, tx b l j, ⟨#[]⟩, [e, m]⟩ : S27) j k = (z27, 12, j) := if_pos hhh
          rw [e1]
          obtain ⟨n, rfl⟩ : ∃ n', n = n' + 1 := ⟨n - 1, by omega⟩
          refine ⟨z27, 12, j, d', z27, ?_, .blH hlev hbs hhh, fun h => (by cases h), hd⟩
          unfold lp63_4 lb63_4
          rfl
        · have e1 : heldR (⟨5, e.c1, 0, tx b l j, ⟨#[]⟩, [e, m]⟩ : S27) j k = (⟨5, e.c1, 0, tx b l j, ⟨#[]⟩, [e, m]⟩, 0, k) := if_neg hhh
          rw [e1]
          obtain ⟨e', err', k', d'', e'', r1, r2, r3, r4⟩ := ih k ⟨5, e.c1, 0, tx b l j, ⟨#[]⟩, [e, m]⟩ (by omega) i2 (by omega) (by omega) (by simp only [nds, ndss]; omega)
          exact ⟨e', err', k', d'', e'', r1, .bl hlev hbs hhh r2, r3, r4⟩
      · dsimp only
        rw [b0 he, cond_false]
        obtain ⟨n, rfl⟩ : ∃ n', n = n' + 1 := ⟨n - 1, by omega⟩
        refine ⟨e, err, k, d', z27, ?_, .blE hlev hbs he, fun h => absurd h he, hd2⟩
        unfold lp63_4 lb63_4
        dsimp only
        rw [b0 he, cond_false]
        rfl
    · rw [show (lev (tx b l j) == (lv : Int)) = false from by simpa using hlev, cond_false]
      exact ⟨e, 0, j, d, e, rfl, .blN hlev, fun _ => ⟨rfl, rfl⟩, hd⟩
theorem st63 (g : Good b l) {lv i d : Nat} (hl1 : 1 ≤ lv) (hl6 : lv ≤ 6) (hi : i ≤ l.length) (hd : d ≤ 32) (h83 : lv = 6 → Res b l .sig i d (f83 (cur b l i d)))
    (h63 : lv < 6 → Res b l (.bin (lv + 1)) i d (f63 ((lv + 1 : Nat) : Int) (cur b l i d)))
    (hop : lv < 6 → ∀ j, i ≤ j → j < l.length → Res b l (.bin (lv + 1)) (j + 1) d (f63 ((lv + 1 : Nat) : Int) (cur b l (j + 1) d))) :
    Res b l (.bin lv) i d (b63 s25 f63 f83 s84 s85 (lp63_4 s25 f63 f83 s84 s85 big) (lv : Int) (cur b l i d) some) := by
  unfold b63
  have hlen := g.llen
  have hb := g.len
  by_cases h6 : lv = 6
  · subst h6
    obtain ⟨e, err, j, d', ho, hbs, hd1, hd2⟩ := h83 rfl
    rw [show (((6 : Nat) : Int) == 6) = true from rfl, cond_true, ho, Option.bind_some, eta27]
    exact ⟨e, err, j, d', rfl, .bin6 hbs, hd1, hd2⟩
  · have hlt : lv < 6 := by omega
    rw [show ((lv : Int) == 6) = false from by simp; omega, cond_false, wn lv (by omega)]
    obtain ⟨e, err, j, d', ho, hbs, hd1, hd2⟩ := h63 hlt
    rw [ho, Option.bind_some]
    dsimp only
    have hinv := hbs.inv (by simp [ntOk]) hi
    simp only at hinv
    by_cases he : err = 0
    · subst he
      obtain rfl := hd1 rfl
      obtain ⟨i1, i2, i3, _⟩ := hinv
      obtain ⟨i4, i5, i6, _⟩ := i3 rfl
      simp only [resN, ntE] at i5
      obtain ⟨e', err', k', d'', e'', r1, r2, r3, r4⟩ := lp63 (f83 := f83) g hl1 hlt hd (fun j hj => hop hlt j hj) big j e i1 i2 (by have : l.length - j + 2 < big := big_lt (by omega); omega) (i6 (fun acc => by simp)) (by omega)
      rw [show (cur b l j d').c0 = b from rfl, show (cur b l j d').c1 = l from rfl, show (cur b l j d').c2 = (j : Int) from rfl, show (cur b l j d').c3 = (d' : Int) from rfl, r1, Option.bind_some]
      dsimp only
      have hfin := Bs.bin hlt hbs r2
      by_cases he' : err' = 0
      · subst he'
        obtain ⟨rfl, rfl⟩ := r3 rfl
        rw [show ((0 : Int) != 0) = false from rfl, cond_false, eta27, curI]
        exact ⟨e', 0, k', d'', rfl, hfin, fun _ => rfl, r4⟩
      · rw [b0' he', cond_true, curI]
        rw [if_neg he'] at hfin
        exact ⟨z27, err', k', d'', rfl, hfin, fun h => absurd h he', r4⟩
    · have hz := hinv.2.2.2 he
      have : (lp63_4 s25 f63 f83 s84 s85 big (lv : Int) err b l (j : Int) (d' : Int) e.c0 e.c1 e.c2 e.c3 e.c4 e.c5) = some (err, b, l, (j : Int), (d' : Int), e.c0, e.c1, e.c2, e.c3, e.c4, e.c5) := by
        obtain ⟨n, hn⟩ : ∃ n, big = n + 1 := ⟨9223372036854775806, rfl⟩
        rw [hn]
        unfold lp63_4 lb63_4
        dsimp only
        rw [b0 he, cond_false]
      rw [show (cur b l j d').c0 = b from rfl, show (cur b l j d').c1 = l from rfl, show (cur b l j d').c2 = (j : Int) from rfl, show (cur b l j d').c3 = (d' : Int) from rfl, this, Option.bind_some]
      dsimp only
      rw [b0' he, cond_true, curI]
      exact ⟨z27, err, j, d', rfl, .binE hlt hbs he, fun h => absurd h he, hd2⟩
theorem st83 (g : Good b l) {i d : Nat} (hi : i ≤ l.length) (hd : d ≤ 32) (h98 : Res b l .pri i d (f98 (cur b l i d))) (h83 : i < l.length → ¬ 32 ≤ d → Res b l .sig (i + 1) (d + 1) (f83 (cur b l (i + 1) (d + 1)))) :
    Res b l .sig i d (b83 s25 s26 f83 s85 f98 s99 (cur b l i d) some) := by
  unfold b83
  have hlen := g.llen
  have hb := g.len
  rw [c25 g, Option.bind_some, c26, Option.bind_some]
  have body : (eqs (tx b l i) ⟨#[33]⟩ || eqs (tx b l i) ⟨#[45]⟩) = true → Res b l .sig i d ((s99 (cur b l i d)).bind fun r4 =>
      cond (r4.1 != 0) (some ((⟨0, 0, 0, (⟨#[]⟩ : ByteArray), (⟨#[]⟩ : ByteArray), []⟩ : S27), r4.1, r4.2)) ((f83 r4.2).bind fun r5 =>
        cond (r5.2.1 != 0) (some ((⟨0, 0, 0, (⟨#[]⟩ : ByteArray), (⟨#[]⟩ : ByteArray), []⟩ : S27), r5.2.1, r5.2.2))
          ((s85 (⟨4, ps b l i, 0, tx b l i, (⟨#[]⟩ : ByteArray), [(⟨r5.1.c0, r5.1.c1, r5.1.c2, r5.1.c3, r5.1.c4, r5.1.c5⟩ : S27)]⟩ : S27) (cur b l i d).c2 (⟨r5.2.2.c0, r5.2.2.c1, r5.2.2.c2, w64 (r5.2.2.c3 - 1)⟩ : S98)).bind fun r6 =>
            some ((⟨r6.1.c0, r6.1.c1, r6.1.c2, r6.1.c3, r6.1.c4, r6.1.c5⟩ : S27), r6.2.1, r6.2.2)))) := by
    intro h1
    have hil : i < l.length := by
      cases h0 : eqs (tx b l i) ⟨#[33]⟩ with
      | true => exact tx_lt h0 (by decide +kernel)
      | false => rw [h0] at h1; exact tx_lt h1 (by decide +kernel)
    rw [c99 i d (by omega) (by omega), Option.bind_some]
    by_cases h32 : 32 ≤ d
    · rw [if_pos h32]
      exact ⟨z27, 12, i, d, rfl, .sigD h1 h32, fun h => (by cases h), hd⟩
    · rw [if_neg h32]
      dsimp only
      rw [show ((0 : Int) != 0) = false from rfl, cond_false]
      obtain ⟨e, err, j, d', ho, hbs, hd1, hd2⟩ := h83 hil h32
      rw [ho, Option.bind_some]
      dsimp only
      by_cases he : err = 0
      · subst he
        obtain rfl := hd1 rfl
        have hinv := hbs.inv (by simp [ntOk]) hil
        obtain ⟨i1, i2, i3, _⟩ := hinv
        obtain ⟨i4, i5, i6, _⟩ := i3 rfl
        simp only [resN, ntE] at i2 i5
        have e3 : (⟨(cur b l j (d + 1)).c0, (cur b l j (d + 1)).c1, (cur b l j (d + 1)).c2, w64 ((cur b l j (d + 1)).c3 - 1)⟩ : S98) = cur b l j d := by
          show (⟨b, l, (j : Int), w64 (((d + 1 : Nat) : Int) - 1)⟩ : S98) = _
          rw [wp (d + 1) (by omega) (by omega)]
          rfl
        rw [show ((0 : Int) != 0) = false from rfl, cond_false, eta27, e3, show (cur b l i d).c2 = (i : Int) from rfl, c85 _ i j d (by simp only [nds, ndss]; omega), Option.bind_some, eta27]
        have := Bs.sig h1 h32 hbs
        exact ⟨_, _, _, d, rfl, this, fun _ => rfl, hd⟩
      · rw [b0' he, cond_true]
        exact ⟨z27, err, j, d', rfl, .sigE h1 h32 hbs he, fun h => absurd h he, hd2⟩
  show Res b l .sig i d (cond (!(eqs (tx b l i) ⟨#[33]⟩)) _ _)
  cases h1 : eqs (tx b l i) ⟨#[33]⟩ with
  | false =>
    rw [Bool.not_false, cond_true]
    show Res b l .sig i d (cond (!(eqs (tx b l i) ⟨#[45]⟩)) _ _)
    cases h2 : eqs (tx b l i) ⟨#[45]⟩ with
    | false =>
      rw [Bool.not_false, cond_true]
      obtain ⟨e, err, j, d', ho, hbs, hd1, hd2⟩ := h98
      rw [ho, Option.bind_some, eta27]
      exact ⟨e, err, j, d', rfl, .sigN h1 h2 hbs, hd1, hd2⟩
    | true =>
      rw [Bool.not_true, cond_false]
      exact body (by rw [h1, h2]; rfl)
  | true =>
    rw [Bool.not_true, cond_false]
    exact body (by rw [h1]; rfl)
end
end Go.Proofs.Ytogfofcocidmkaa.Pu
