/- The plain functions, read: statements, rows, blocks: the program's and the reference's answers agree. -/
import Derived.Test.YtogfofcocidmkaaPuU
set_option linter.unusedVariables false
set_option linter.unusedSimpArgs false
namespace Go.Proofs.Ytogfofcocidmkaa.Pu
open Go.RowKit Go.Proofs Ev
section
variable {b : List Int} {l : List S51}
/-- As AgS, of Stmt itself. -/
def AgT (b : List Int) (l : List S51) (i : Nat) (P : Option (S79 × Int × S98)) (R : Option S83) : Prop :=
  (∃ s j, P = some (s, 0, cur b l j 0) ∧ R = some (okS s j) ∧ i < j ∧ j ≤ l.length ∧ nst s ≤ j - i) ∨
  (∃ err j, err ≠ 0 ∧ P = some (z79, err, cur b l j 0) ∧ R = some (er j err) ∧ j ≤ l.length)
/-- As AgS, of a row, or a block. -/
def AgL (b : List Int) (l : List S51) (i : Nat) (P : Option (List S79 × Int × S98)) (R : Option S83) : Prop :=
  (∃ L j, P = some (L, 0, cur b l j 0) ∧ R = some (okL L j) ∧ i ≤ j ∧ j ≤ l.length ∧ nstl L ≤ j - i) ∨
  (∃ err j, err ≠ 0 ∧ P = some ([], err, cur b l j 0) ∧ R = some (er j err) ∧ j ≤ l.length)
theorem lpRow (g : Good b l) {f45 : Y45} {f46 : Y46} {d : Int} {i0 : Nat} (hS : ∀ k, i0 ≤ k → k < l.length → AgT b l k (f45 d (cur b l k 0)) (f46 (row b l) (k : Int) d)) :
    ∀ (n i m : Nat) (acc : List S79), i0 ≤ i → i ≤ l.length → l.length - i < n → l.length - i < m → acc.length ≤ i →
    (∃ (L : List S79) (j : Nat), lp48_4 s25 s29 f45 n d b l (i : Int) 0 acc = some (.inr (b, l, (j : Int), 0, acc ++ L)) ∧ lp67_2 s24 f46 m (row b l) d (i : Int) acc = some (.inr ((j : Int), acc ++ L)) ∧ i ≤ j ∧ j ≤ l.length ∧ nstl L ≤ j - i) ∨
    (∃ (err : Int) (j : Nat) (L : List S79) (x : Int) (L' : List S79), err ≠ 0 ∧ lp48_4 s25 s29 f45 n d b l (i : Int) 0 acc = some (.inl (b, l, (j : Int), 0, L, err)) ∧ lp67_2 s24 f46 m (row b l) d (i : Int) acc = some (.inl (x, L', 0, 0, ⟨#[]⟩, 0, false, false, ⟨#[]⟩, 0, 0, 0, 0, 0, ⟨#[]⟩, ⟨#[]⟩, (j : Int), err)) ∧ j ≤ l.length) := by
  have hlen := g.llen
  have hb := g.len
  intro n
  induction n with
  | zero => intro i m acc h0 h1 h2; omega
  | succ n ih =>
    intro i m acc h0 h1 h2 h3 h4
    obtain ⟨m, rfl⟩ : ∃ m', m = m' + 1 := ⟨m - 1, by omega⟩
    rw [show lp48_4 s25 s29 f45 (n + 1) d b l (i : Int) 0 acc = lb48_4 s25 s29 f45 d (fun v15 v16 v17 v18 v19 => lp48_4 s25 s29 f45 n d v15 v16 v17 v18 v19) (fun o => some (Sum.inl o)) (fun o => some (Sum.inr (o))) b l (i : Int) 0 acc from rfl,
      show lp67_2 s24 f46 (m + 1) (row b l) d (i : Int) acc = lb67_2 s24 f46 (row b l) d (fun v46 v65 => lp67_2 s24 f46 m (row b l) d v46 v65) (fun o => some (Sum.inl o)) (fun o => some (Sum.inr (o))) (i : Int) acc from rfl]
    unfold lb48_4 lb67_2
    rw [t29, Option.bind_some]
    have stop : (∃ (L : List S79) (j : Nat), (some (Sum.inr (b, l, (i : Int), (0 : Int), acc)) : Option ((List Int × List S51 × Int × Int × List S79 × Int) ⊕ (List Int × List S51 × Int × Int × List S79))) = some (.inr (b, l, (j : Int), 0, acc ++ L)) ∧ (some (Sum.inr ((i : Int), acc)) : Option ((Int × List S79 × Int × Int × ByteArray × Int × Bool × Bool × ByteArray × Int × Int × Int × Int × Int × ByteArray × ByteArray × Int × Int) ⊕ (Int × List S79))) = some (.inr ((j : Int), acc ++ L)) ∧ i ≤ j ∧ j ≤ l.length ∧ nstl L ≤ j - i) :=
      ⟨[], i, by rw [List.append_nil], by rw [List.append_nil], Nat.le_refl _, h1, by simp [nstl]⟩
    by_cases hi : i < l.length
    · rw [dec_f (show ¬ l.length ≤ i by omega), Bool.not_false, cond_true, t25 g, Option.bind_some, cond_t _ _ (dec_t (show (i : Int) < ((row b l).c1.length : Int) by show (i : Int) < (l.length : Int); omega)), t24 g, Option.bind_some, Option.bind_some]
      cases e1 : ((tx b l i).toList == (⟨#[125]⟩ : ByteArray).toList) with
      | true => exact .inl stop
      | false =>
        rw [Bool.not_false, cond_true, cond_true, Option.bind_some]
        cases e2 : ((tx b l i).toList == (⟨#[114, 101, 116, 117, 114, 110]⟩ : ByteArray).toList) with
        | true => exact .inl stop
        | false =>
          rw [Bool.not_false, cond_true, cond_true]
          rcases hS i h0 hi with ⟨s, j, p1, p2, p3, p4, p5⟩ | ⟨err, j, p0, p1, p2, p3⟩
          · have p1' : f45 d ⟨b, l, (i : Int), 0⟩ = some (s, 0, cur b l j 0) := p1
            rw [p1', Option.bind_some, p2, Option.bind_some]
            dsimp only [okS]
            rw [show ((0 : Int) != 0) = false from rfl, cond_false, cond_false, when_t _ (dec_t (by simp; omega)), when_t _ (dec_t (by simp; omega)), eta79]
            have key := ih j m (acc ++ [s]) (by omega) p4 (by omega) (by omega) (by simp; omega)
            rcases key with ⟨L, k, k1, k2, k3, k4, k5⟩ | ⟨err, k, L, x, L', k0, k1, k2, k3⟩
            · refine .inl ⟨s :: L, k, ?_, ?_, by omega, k4, by simp only [nstl]; omega⟩
              · rw [show acc ++ s :: L = acc ++ [s] ++ L from by simp]; exact k1
              · rw [show acc ++ s :: L = acc ++ [s] ++ L from by simp]; exact k2
            · exact .inr ⟨err, k, L, x, L', k0, k1, k2, k3⟩
          · have p1' : f45 d ⟨b, l, (i : Int), 0⟩ = some (z79, err, cur b l j 0) := p1
            rw [p1', Option.bind_some, p2, Option.bind_some]
            dsimp only [er]
            rw [b0' p0, cond_true, cond_true]
            exact .inr ⟨err, j, _, _, _, p0, rfl, rfl, p3⟩
    · rw [dec_t (show l.length ≤ i by omega), Bool.not_true, cond_false, cond_f _ _ (dec_f (show ¬ (i : Int) < ((row b l).c1.length : Int) by show ¬ (i : Int) < (l.length : Int); omega))]
      exact .inl stop
theorem ag_row (g : Good b l) {f45 : Y45} {f46 : Y46} {d : Int} {i : Nat} (hi : i ≤ l.length) (hS : ∀ k, i ≤ k → k < l.length → AgT b l k (f45 d (cur b l k 0)) (f46 (row b l) (k : Int) d)) :
    AgL b l i (b48 s25 s29 f45 (lp48_4 s25 s29 f45 big) d (cur b l i 0) some) (b67 s24 f46 (lp67_2 s24 f46 big) (row b l) (i : Int) d some) := by
  have hlen := g.llen
  have hb := g.len
  have hB : l.length - i < big := big_lt (by omega)
  unfold b48 b67
  rcases lpRow g hS big i big [] (Nat.le_refl _) hi hB hB (by simp) with ⟨L, k, k1, k2, k3, k4, k5⟩ | ⟨err, k, L, x, L', k0, k1, k2, k3⟩
  · have k1' : lp48_4 s25 s29 f45 big d (cur b l i 0).c0 (cur b l i 0).c1 (cur b l i 0).c2 (cur b l i 0).c3 [] = _ := k1
    rw [k1', k2]
    exact .inl ⟨L, k, rfl, rfl, k3, k4, k5⟩
  · have k1' : lp48_4 s25 s29 f45 big d (cur b l i 0).c0 (cur b l i 0).c1 (cur b l i 0).c2 (cur b l i 0).c3 [] = _ := k1
    rw [k1', k2]
    exact .inr ⟨err, k, k0, rfl, rfl, k3⟩
theorem ag_block (g : Good b l) {f48 : Y48} {f67 : Y67} {d : Int} (hd : -9223372036854775808 ≤ d ∧ d < 9223372036854775808) {i : Nat} (hi : i ≤ l.length)
    (hR : i < l.length → d < 32 → AgL b l (i + 1) (f48 (d + 1) (cur b l (i + 1) 0)) (f67 (row b l) ((i + 1 : Nat) : Int) (d + 1))) :
    AgL b l i (b89 s25 f48 s90 d (cur b l i 0) some) (b92 s24 f67 (row b l) (i : Int) d some) := by
  have hlen := g.llen
  have hb := g.len
  unfold b89 b92
  rw [c25 g, Option.bind_some, t24 g, Option.bind_some, c90 g _ (by decide +kernel) i (by omega)]
  cases h : eqs (tx b l i) ⟨#[123]⟩ with
  | false =>
    unfold eqs at h
    rw [h]
    exact .inr ⟨11, i, by decide, rfl, rfl, hi⟩
  | true =>
    have hlt := tx_lt h (by decide +kernel)
    unfold eqs at h
    rw [h, cond_true, Bool.not_true, cond_false]
    by_cases h32 : d ≥ 32
    · rw [cond_t _ _ (dec_t h32), cond_t _ _ (dec_t h32)]
      exact .inr ⟨12, i, by decide, rfl, rfl, hi⟩
    · rw [cond_f _ _ (dec_f h32), cond_f _ _ (dec_f h32), if_pos rfl, Option.bind_some]
      dsimp only
      rw [show ((0 : Int) != 0) = false from rfl, cond_false, wn i (by omega), w64_id (x := d + 1) (by omega) (by omega)]
      rcases hR hlt (by omega) with ⟨L, j, p1, p2, p3, p4, p5⟩ | ⟨err, j, p0, p1, p2, p3⟩
      · rw [p1, Option.bind_some, p2, Option.bind_some]
        dsimp only [okL]
        rw [show ((0 : Int) == 0) = true from rfl, show ((0 : Int) != 0) = false from rfl, cond_true, cond_false, c90 g _ (by decide +kernel) j (by omega), Option.bind_some, t24 g, Option.bind_some]
        cases h2 : eqs (tx b l j) ⟨#[125]⟩ with
        | true =>
          have hj := tx_lt h2 (by decide +kernel)
          unfold eqs at h2
          rw [h2, Bool.not_true, cond_false, wn j (by omega)]
          exact .inl ⟨L, j + 1, rfl, rfl, by omega, hj, by omega⟩
        | false =>
          unfold eqs at h2
          rw [h2]
          exact .inr ⟨11, j, by decide, rfl, rfl, p4⟩
      · rw [p1, Option.bind_some, p2, Option.bind_some]
        dsimp only [er]
        rw [b0 p0, b0' p0]
        exact .inr ⟨err, j, p0, rfl, rfl, p3⟩
end
end Go.Proofs.Ytogfofcocidmkaa.Pu
