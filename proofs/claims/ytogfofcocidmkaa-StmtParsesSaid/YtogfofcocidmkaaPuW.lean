/- The plain functions, read: a statement: the program's and the reference's answers agree. -/
import Derived.Test.YtogfofcocidmkaaPuV
set_option linter.unusedVariables false
set_option linter.unusedSimpArgs false
namespace Go.Proofs.Ytogfofcocidmkaa.Pu
open Go.RowKit Go.Proofs Ev
section
variable {b : List Int} {l : List S51}
def stK (k p : Int) : S79 := ⟨k, p, (⟨#[]⟩ : ByteArray), 0, false, false, (⟨#[]⟩ : ByteArray), 0, 0, 0, 0, 0, (⟨#[]⟩ : ByteArray), (⟨#[]⟩ : ByteArray), [], [], []⟩
def setL (s : S79) (e : S27) (L M : List S79) : S79 := ⟨s.c0, s.c1, s.c2, s.c3, s.c4, s.c5, s.c6, s.c7, s.c8, e.c0, e.c1, e.c2, e.c3, e.c4, e.c5, L, M⟩
def elseR (f92 : Y92) (b : List Int) (l : List S51) (s : S79) (e : S27) (L : List S79) (d : Int) (j : Nat) : Option S83 :=
  cond (s.c0 == 2) ((s24 (row b l) (j : Int)).bind fun r5 => cond (r5.toList == (⟨#[101, 108, 115, 101]⟩ : ByteArray).toList)
    ((f92 (row b l) (w64 ((j : Int) + 1)) d).bind fun r6 => cond (r6.c19 != 0) (some r6) (some (⟨s.c0, s.c1, s.c2, s.c3, s.c4, s.c5, s.c6, s.c7, s.c8, e.c0, e.c1, e.c2, e.c3, e.c4, e.c5, L, r6.c17, [], r6.c18, 0⟩ : S83)))
    (some (okS (setL s e L s.c16) j))) (some (okS (setL s e L s.c16) j))
theorem ag_asked (g : Good b l) (hD : DigL b l) {f89 : Y89} {f92 : Y92} {d : Int} (s : S79) (i : Nat) (hi : i ≤ l.length)
    (hB : ∀ j, i < j → j ≤ l.length → AgL b l j (f89 d (cur b l j 0)) (f92 (row b l) (j : Int) d)) :
    (∃ err s' j, err ≠ 0 ∧ b88 s34 f89 s90 d (cur b l i 0) s some = some (err, cur b l j 0, s') ∧ b71 s24 s35 f92 (row b l) s (i : Int) d some = some (er j err) ∧ j ≤ l.length) ∨
    (∃ e L j, b88 s34 f89 s90 d (cur b l i 0) s some = some (0, cur b l j 0, setL s e L s.c16) ∧ b71 s24 s35 f92 (row b l) s (i : Int) d some = elseR f92 b l s e L d j ∧ j ≤ l.length ∧ nds e + nstl L + 2 ≤ j - i) := by
  have hlen := g.llen
  have hb := g.len
  unfold b88 b71
  rw [c90 g _ (by decide +kernel) i (by omega), Option.bind_some, t24 g, Option.bind_some]
  cases h : eqs (tx b l i) ⟨#[40]⟩ with
  | false =>
    unfold eqs at h
    rw [h]
    exact .inl ⟨11, _, i, by decide, rfl, rfl, hi⟩
  | true =>
    have hlt := tx_lt h (by decide +kernel)
    unfold eqs at h
    rw [h, if_pos rfl, Bool.not_true, cond_false]
    dsimp only
    rw [show ((0 : Int) != 0) = false from rfl, cond_false, wn i (by omega)]
    obtain ⟨e, err, j, e34, e35, i1, i2, i3, i4⟩ := ex g hD (i + 1) hlt
    rw [e34, Option.bind_some, e35, Option.bind_some]
    dsimp only [gt]
    by_cases he : err = 0
    · subst he
      have i5 := i3 rfl
      rw [show ((0 : Int) != 0) = false from rfl, cond_false, cond_false, c90 g _ (by decide +kernel) j (by omega), Option.bind_some, t24 g, Option.bind_some]
      cases h2 : eqs (tx b l j) ⟨#[41]⟩ with
      | false =>
        unfold eqs at h2
        rw [h2]
        exact .inl ⟨11, _, j, by decide, rfl, rfl, i2⟩
      | true =>
        have hl2 := tx_lt h2 (by decide +kernel)
        unfold eqs at h2
        rw [h2, if_pos rfl, Bool.not_true, cond_false]
        dsimp only
        rw [show ((0 : Int) != 0) = false from rfl, cond_false, wn j (by omega)]
        rcases hB (j + 1) (by omega) hl2 with ⟨L, k, p1, p2, p3, p4, p5⟩ | ⟨err, k, p0, p1, p2, p3⟩
        · rw [p1, Option.bind_some, p2, Option.bind_some]
          dsimp only [okL]
          rw [show ((0 : Int) != 0) = false from rfl, cond_false]
          exact .inr ⟨e, L, k, rfl, rfl, p4, by omega⟩
        · rw [p1, Option.bind_some, p2, Option.bind_some]
          dsimp only [er]
          rw [b0' p0, cond_true]
          exact .inl ⟨err, _, k, p0, rfl, rfl, p3⟩
    · rw [b0' he, cond_true, cond_true]
      exact .inl ⟨err, _, j, he, rfl, rfl, i2⟩
/-- What the reference reads that begins with an expression. -/
def othR (b : List Int) (l : List S51) (p i : Int) : Option S83 :=
  (s35 (row b l) i 1 0).bind fun r9 => cond (r9.c7 != 0) (some (⟨0, 0, (⟨#[]⟩ : ByteArray), 0, false, false, (⟨#[]⟩ : ByteArray), 0, 0, 0, 0, 0, (⟨#[]⟩ : ByteArray), (⟨#[]⟩ : ByteArray), [], [], [], [], r9.c6, r9.c7⟩ : S83))
    (cond (r9.c0 == 2) ((s73 (row b l) (⟨1, p, r9.c3, 0, false, false, (⟨#[]⟩ : ByteArray), 0, 0, 0, 0, 0, (⟨#[]⟩ : ByteArray), (⟨#[]⟩ : ByteArray), [], [], []⟩ : S79) r9.c6).bind fun r10 => some r10)
      (cond (r9.c0 == 3) ((s72 (row b l) (⟨5, p, (⟨#[]⟩ : ByteArray), 0, false, false, (⟨#[]⟩ : ByteArray), 0, 0, r9.c0, r9.c1, r9.c2, r9.c3, r9.c4, r9.c5, [], []⟩ : S79) r9.c6).bind fun r11 => some r11)
        (some (⟨0, 0, (⟨#[]⟩ : ByteArray), 0, false, false, (⟨#[]⟩ : ByteArray), 0, 0, 0, 0, 0, (⟨#[]⟩ : ByteArray), (⟨#[]⟩ : ByteArray), [], [], [], [], r9.c6, 11⟩ : S83))))
theorem ag_other (g : Good b l) (hD : DigL b l) (p : Int) (i : Nat) (hi : i ≤ l.length) : AgS b l i (s91 (cur b l i 0) (stK 0 p)) (othR b l p (i : Int)) := by
  have hlen := g.llen
  have hb := g.len
  unfold s91 b91 othR
  obtain ⟨e, err, j, e34, e35, i1, i2, i3, i4⟩ := ex g hD i hi
  rw [e34, Option.bind_some, e35, Option.bind_some]
  dsimp only [gt]
  by_cases he : err = 0
  · subst he
    have i5 := i3 rfl
    rw [show ((0 : Int) != 0) = false from rfl, cond_false, cond_false]
    cases h2 : (e.c0 == 2) with
    | true =>
      rw [cond_true, cond_true, bindE, bindR]
      refine AgS.weak (j := j) (ag_set g hD _ ?_ j i2) (by omega)
      exact ⟨rfl, rfl⟩
    | false =>
      rw [cond_false, cond_false]
      cases h3 : (e.c0 == 3) with
      | true =>
        rw [cond_true, cond_true, bindR]
        rcases ag_fin g (setE (stK 5 p) e) j i2 with ⟨f1, f2, f3, f4⟩ | ⟨f3, f4⟩
        · rw [f3, Option.bind_some]
          refine .inl ⟨setE (stK 5 p) e, j + 1, rfl, f4, by omega, f2, ?_⟩
          rw [nst_c]
          have := nds_c5 e
          simp only [setE, stK, nstl]
          omega
        · rw [f3, Option.bind_some]
          exact .inr ⟨11, _, j, by decide, rfl, f4, i2⟩
      | false => exact .inr ⟨11, _, j, by decide, rfl, rfl, i2⟩
  · rw [b0' he, cond_true, cond_true]
    exact .inr ⟨err, _, j, he, rfl, rfl, i2⟩
theorem ag_read (g : Good b l) (hD : DigL b l) {f89 f89' : Y89} {f92 : Y92} {d : Int} (i : Nat) (hi : i ≤ l.length)
    (hB : ∀ j, i < j → j ≤ l.length → AgL b l j (f89 d (cur b l j 0)) (f92 (row b l) (j : Int) d))
    (hB' : ∀ j, i < j → j ≤ l.length → AgL b l j (f89' d (cur b l j 0)) (f92 (row b l) (j : Int) d)) :
    AgS b l i (b69 s30 s68 s87 (fun p2 p0 p1 => b88 s34 f89' s90 p2 p0 p1 some) f89 s90 s91 d (cur b l i 0) (stK 0 (ps b l i)) some) (b46 s24 s27 s32 s35 s70 (fun p0 p1 p2 p3 => b71 s24 s35 f92 p0 p1 p2 p3 some) s72 s73 (row b l) (i : Int) d some) := by
  have hlen := g.llen
  have hb := g.len
  unfold b69 b46
  rw [t27, Option.bind_some, t24 g, Option.bind_some, c30 g (by decide +kernel) i 0 (by omega), Option.bind_some]
  dsimp only [stK]
  cases k1 : eqs (tx b l i) ⟨#[108, 101, 116]⟩ with
  | true =>
    have hlt := tx_lt k1 (by decide +kernel)
    unfold eqs at k1
    rw [k1, if_pos rfl, cond_true]
    dsimp only
    rw [cond_true, bindE, bindR, wn i (by omega)]
    refine AgS.weak (j := i + 1) (ag_let g hD _ ?_ (i + 1) hlt) (by omega)
    exact ⟨rfl, rfl⟩
  | false =>
    unfold eqs at k1
    rw [k1, if_neg (by decide), cond_false]
    dsimp only
    rw [cond_false, c30 g (by decide +kernel) i 0 (by omega), Option.bind_some]
    cases k2 : eqs (tx b l i) ⟨#[105, 102]⟩ with
    | true =>
      have hlt := tx_lt k2 (by decide +kernel)
      unfold eqs at k2
      rw [k2, if_pos rfl, cond_true]
      dsimp only
      rw [cond_true, bindR, wn i (by omega)]
      rcases ag_asked g hD (stK 2 (ps b l i)) (i + 1) hlt (fun j h1 h2 => hB' j (by omega) h2) with ⟨err, s', j, q0, q1, q2, q3⟩ | ⟨e, L, j, q1, q2, q3, q4⟩
      · unfold stK at q1 q2
        rw [q1, Option.bind_some, q2]
        dsimp only
        rw [b0 q0, cond_false]
        exact .inr ⟨err, _, j, q0, rfl, rfl, q3⟩
      · unfold stK at q1 q2
        rw [q1, Option.bind_some, q2]
        unfold elseR
        dsimp only [setL]
        rw [show ((0 : Int) == 0) = true from rfl, show ((2 : Int) == 2) = true from rfl, cond_true, cond_true, c30 g (by decide +kernel) j 0 (by omega), Option.bind_some, t24 g, Option.bind_some]
        cases k5 : eqs (tx b l j) ⟨#[101, 108, 115, 101]⟩ with
        | true =>
          have hl2 := tx_lt k5 (by decide +kernel)
          unfold eqs at k5
          rw [k5, if_pos rfl, cond_true]
          dsimp only
          rw [cond_true, wn j (by omega)]
          rcases hB (j + 1) (by omega) hl2 with ⟨M, k, p1, p2, p3, p4, p5⟩ | ⟨err, k, p0, p1, p2, p3⟩
          · rw [p1, Option.bind_some, p2, Option.bind_some]
            dsimp only [okL]
            rw [show ((0 : Int) != 0) = false from rfl, cond_false]
            refine .inl ⟨setL (stK 2 (ps b l i)) e L M, k, rfl, rfl, by omega, p4, ?_⟩
            rw [nst_c]
            have := nds_c5 e
            simp only [setL]
            omega
          · rw [p1, Option.bind_some, p2, Option.bind_some]
            dsimp only [er]
            rw [b0' p0, cond_true]
            exact .inr ⟨err, _, k, p0, rfl, rfl, p3⟩
        | false =>
          unfold eqs at k5
          rw [k5, if_neg (by decide), cond_false]
          dsimp only
          rw [cond_false]
          refine .inl ⟨setL (stK 2 (ps b l i)) e L [], j, rfl, rfl, by omega, q3, ?_⟩
          rw [nst_c]
          have := nds_c5 e
          simp only [setL, nstl]
          omega
    | false =>
      unfold eqs at k2
      rw [k2, if_neg (by decide), cond_false]
      dsimp only
      rw [cond_false, c30 g (by decide +kernel) i 0 (by omega), Option.bind_some]
      cases k3 : eqs (tx b l i) ⟨#[119, 104, 105, 108, 101]⟩ with
      | true =>
        have hlt := tx_lt k3 (by decide +kernel)
        unfold eqs at k3
        rw [k3, if_pos rfl, cond_true]
        dsimp only
        rw [cond_true, bindE, bindR, wn i (by omega)]
        rcases ag_asked g hD (stK 3 (ps b l i)) (i + 1) hlt (fun j h1 h2 => hB' j (by omega) h2) with ⟨err, s', j, q0, q1, q2, q3⟩ | ⟨e, L, j, q1, q2, q3, q4⟩
        · exact .inr ⟨err, s', j, q0, q1, q2, q3⟩
        · refine .inl ⟨setL (stK 3 (ps b l i)) e L [], j, q1, q2, by omega, q3, ?_⟩
          rw [nst_c]
          have := nds_c5 e
          simp only [setL, nstl]
          omega
      | false =>
        unfold eqs at k3
        rw [k3, if_neg (by decide), cond_false]
        dsimp only
        rw [cond_false, c30 g (by decide +kernel) i 0 (by omega), Option.bind_some]
        cases k4 : eqs (tx b l i) ⟨#[100, 111]⟩ with
        | true =>
          have hlt := tx_lt k4 (by decide +kernel)
          unfold eqs at k4
          rw [k4, if_pos rfl, cond_true]
          dsimp only
          rw [cond_true, wn i (by omega), w2 i (by omega), t24 g, Option.bind_some, t32 _ (tx_size g _), Option.bind_some, c68 g _ _ (by omega), Option.bind_some]
          cases h5 : idn (tx b l (i + 1)) with
          | false => exact .inr ⟨11, _, i + 1, by decide, rfl, rfl, hlt⟩
          | true =>
            have hl2 := idn_lt h5
            rw [if_pos rfl, Bool.not_true, cond_false, bindR]
            dsimp only
            rw [show ((0 : Int) != 0) = false from rfl, cond_false]
            rcases ag_fin g (⟨4, ps b l i, tx b l (i + 1), 0, false, false, (⟨#[]⟩ : ByteArray), 0, 0, 0, 0, 0, (⟨#[]⟩ : ByteArray), (⟨#[]⟩ : ByteArray), [], [], []⟩ : S79) (i + 2) hl2 with ⟨f1, f2, f3, f4⟩ | ⟨f3, f4⟩
            · have f3' : s90 [(⟨#[59]⟩ : ByteArray)] (cur b l (i + 1 + 1) 0) = some (0, cur b l (i + 3) 0) := f3
              rw [f3', Option.bind_some]
              refine .inl ⟨_, i + 3, rfl, f4, by omega, f2, ?_⟩
              rw [nst_c]
              simp only [nstl, ndss]
              omega
            · have f3' : s90 [(⟨#[59]⟩ : ByteArray)] (cur b l (i + 1 + 1) 0) = some (11, cur b l (i + 2) 0) := f3
              rw [f3', Option.bind_some]
              exact .inr ⟨11, _, i + 2, by decide, rfl, f4, hl2⟩
        | false =>
          unfold eqs at k4
          rw [k4, if_neg (by decide), cond_false]
          dsimp only
          rw [cond_false, bindE]
          exact ag_other g hD (ps b l i) i hi
end
end Go.Proofs.Ytogfofcocidmkaa.Pu
