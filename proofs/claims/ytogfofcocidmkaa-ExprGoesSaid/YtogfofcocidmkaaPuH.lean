/- The plain functions, read: a text's expression; no part begins ahead of it, or behind the text. -/
import Derived.Test.YtogfofcocidmkaaPuG
set_option linter.unusedVariables false
set_option linter.unusedSimpArgs false
namespace Go.Proofs.Ytogfofcocidmkaa.Pu
open Go.RowKit Go.Proofs Ev
def bad (l : List S51) : Option S51 := l.find? fun t => t.c0 == 5
theorem lp74 (l : List S51) (hl : l.length ≤ 100000) : ∀ (n i : Nat), i ≤ l.length → l.length - i < n →
    ∃ r, lp74_75_2 s75 n (l.length : Int) l (i : Int) = some r ∧ (match r with | .inl o => ∃ j : Nat, o.2 = (j : Int) ∧ j < l.length ∧ bad (l.drop i) = some (l.getD j z51) | .inr _ => bad (l.drop i) = none) := by
  intro n
  induction n with
  | zero => intro i h1 h2; omega
  | succ n ih =>
    intro i h1 h2
    unfold lp74_75_2 lb74_75_2
    dsimp only
    by_cases hi : i < l.length
    · have e1 : l.getD (i : Int).toNat z51 = l[i] := by simp [List.getD_eq_getElem?_getD, hi]
      rw [cond_t _ _ (dec_t (by omega)), when_t _ (by simp; omega), e1, show s75 l[i] = some (l[i].c0 == 5) from rfl, Option.bind_some, wn i (by omega), List.drop_eq_getElem_cons hi]
      cases hb : (l[i].c0 == 5) with
      | true =>
        refine ⟨_, rfl, i, rfl, hi, ?_⟩
        unfold bad
        rw [List.find?_cons, hb]
        simp [List.getD_eq_getElem?_getD, hi]
      | false =>
        obtain ⟨r, h3, h4⟩ := ih (i + 1) hi (by omega)
        refine ⟨r, h3, ?_⟩
        unfold bad at h4 ⊢
        rw [List.find?_cons, hb]
        exact h4
    · rw [cond_f _ _ (dec_f (by omega))]
      refine ⟨_, rfl, ?_⟩
      have : l.drop i = [] := List.drop_eq_nil_of_le (by omega)
      rw [this]
      rfl
theorem t49 (l : List S51) (hl : l.length ≤ 100000) : s49 l = some (match bad l with | some t => (t, true) | none => (⟨0, 0, 0⟩, false)) := by
  unfold s49 b49 s74_75 b74_75
  obtain ⟨r, h1, h2⟩ := lp74 l hl big 0 (by omega) (big_lt (by omega))
  rw [show ((0 : Nat) : Int) = 0 from rfl] at h1
  rw [h1]
  cases r with
  | inl o =>
    obtain ⟨j, h3, h4, h5⟩ := h2
    rw [List.drop_zero] at h5
    rw [h5]
    simp only [Option.bind_some, Sum.elim_inl, h3]
    rw [cond_f _ _ (dec_f (by omega)), when_t _ (by simp; omega)]
    simp
  | inr o =>
    rw [List.drop_zero] at h2
    simp only at h2
    rw [h2]
    rfl
/-- What a text is read as. -/
def PE (b : List Int) (e : S27) (pos err : Int) : Prop :=
  (∃ t, bad (toks b) = some t ∧ e = z27 ∧ pos = t.c1 ∧ err = 10) ∨
  (bad (toks b) = none ∧ ∃ e' err' j, Bs b (live (toks b)) (.bin 1) 0 0 (e', err', j) ∧
    ((err' ≠ 0 ∧ e = z27 ∧ pos = ps b (live (toks b)) j ∧ err = err') ∨ (err' = 0 ∧ j < (live (toks b)).length ∧ e = z27 ∧ pos = ps b (live (toks b)) j ∧ err = 11) ∨
      (err' = 0 ∧ j = (live (toks b)).length ∧ e = e' ∧ pos = b.length ∧ err = 0)))
theorem t34 {b : List Int} {l : List S51} (g : Good b l) (i d : Nat) (hi : i ≤ l.length) (hd : d ≤ 32) : ∃ e err j, s34 (cur b l i d) = some (e, err, cur b l j d) ∧ Bs b l (.bin 1) i d (e, err, j) := by
  unfold s34 b34
  obtain ⟨e, err, j, d', h1, h2, _, _⟩ := t63 g i d hi hd
  rw [h1, Option.bind_some, eta27]
  exact ⟨e, err, j, rfl, h2⟩
theorem t14 (b : List Int) (hb : b.length ≤ 100000) : ∃ e pos err, s14 b = some (e, pos, err) ∧ PE b e pos err := by
  have hl : (toks b).length ≤ 100000 := by have := (toks_chain b).le; omega
  have g := good b hb
  unfold s14 b14
  rw [t50 b hb, Option.bind_some, t49 _ hl, Option.bind_some]
  cases hbad : bad (toks b) with
  | some t =>
    simp only [cond_true]
    exact ⟨_, _, _, rfl, .inl ⟨t, hbad, rfl, rfl, rfl⟩⟩
  | none =>
    simp only [cond_false]
    rw [t22 b hb, Option.bind_some]
    obtain ⟨e, err, j, h1, h2⟩ := t34 g 0 0 (by omega) (by omega)
    rw [show (⟨b, live (toks b), 0, 0⟩ : S98) = cur b (live (toks b)) 0 0 from rfl, h1, Option.bind_some]
    dsimp only
    have hinv := h2.inv (by simp [ntOk]) (by omega)
    by_cases he : err = 0
    · subst he
      rw [show ((0 : Int) == 0) = true from rfl, cond_true, c29, Option.bind_some]
      by_cases hj : (live (toks b)).length ≤ j
      · rw [dec_t hj, Bool.not_true, cond_false, show ((0 : Int) != 0) = false from rfl, cond_false, eta27]
        exact ⟨_, _, _, rfl, .inr ⟨hbad, e, 0, j, h2, .inr (.inr ⟨rfl, by have := hinv.2.1; simp only at this; omega, rfl, rfl, rfl⟩)⟩⟩
      · rw [dec_f hj, Bool.not_false, cond_true, c26, Option.bind_some]
        exact ⟨_, _, _, rfl, .inr ⟨hbad, e, 0, j, h2, .inr (.inl ⟨rfl, by omega, rfl, rfl, rfl⟩)⟩⟩
    · rw [b0 he, cond_false, b0' he, cond_true, c26, Option.bind_some]
      exact ⟨_, _, _, rfl, .inr ⟨hbad, e, err, j, h2, .inl ⟨he, rfl, rfl, rfl⟩⟩⟩
mutual
def insE (z : Int) : S27 → Prop
  | ⟨_, a, _, _, _, l⟩ => insL z a l
def insL (z a : Int) : List S27 → Prop
  | [] => True
  | x :: xs => (a ≤ x.c1 ∧ x.c1 < z ∧ insE z x) ∧ insL z a xs
end
theorem insE_c5 (z : Int) (x : S27) : insE z x ↔ insL z x.c1 x.c5 := by cases x; exact Iff.rfl
theorem insL_all (z a : Int) : ∀ l : List S27, (∀ x ∈ l, a ≤ x.c1 ∧ x.c1 < z ∧ insE z x) ↔ insL z a l
  | [] => by simp [insL]
  | x :: xs => by
    have := insL_all z a xs
    simp only [List.mem_cons, forall_eq_or_imp, insL, this]
section
variable {b : List Int} {l : List S51}
def PI (b : List Int) (l : List S51) (nt : NT) (i j : Nat) (e : S27) : Prop := match nt with
  | .bl _ e0 => ∀ k, k < i → e0.c1 = ps b l k → insE b.length e0 → e.c1 = e0.c1 ∧ insE b.length e
  | .al acc => ∀ p0, p0 ≤ ps b l i → (∀ x ∈ acc, p0 ≤ x.c1 ∧ x.c1 < (b.length : Int) ∧ insE b.length x) → ∀ x ∈ e.c5, p0 ≤ x.c1 ∧ x.c1 < (b.length : Int) ∧ insE b.length x
  | _ => ∃ k, i ≤ k ∧ k < j ∧ e.c1 = ps b l k ∧ insE b.length e
theorem Good.ps_le (g : Good b l) {i j : Nat} (h : i ≤ j) (hj : j ≤ l.length) : ps b l i ≤ ps b l j := by
  by_cases e : i = j
  · subst e; exact Int.le_refl _
  · exact Int.le_of_lt (g.ps_lt (by omega) (by omega) hj)
theorem one {z : Int} {k a n : Int} {s t : ByteArray} {e : S27} (h1 : a ≤ e.c1) (h2 : e.c1 < z) (h3 : insE z e) : insE z ⟨k, a, n, s, t, [e]⟩ := by
  simp only [insE, insL]; exact ⟨⟨h1, h2, h3⟩, trivial⟩
theorem Bs.pos (g : Good b l) {nt : NT} {i d : Nat} {r : S27 × Int × Nat} (h : Bs b l nt i d r) : ntOk nt → i ≤ l.length → r.2.1 = 0 → PI b l nt i r.2.2 r.1 := by
  induction h with
  | bin6 h ih => intro _ hi he; exact ih trivial hi he
  | binE hl h he ih => intro _ _ e; exact absurd e he
  | bin hl h h2 ih ih2 =>
    rename_i lv i d e j e' err k
    intro ho hi he
    simp only at he
    subst he
    simp only [ntOk] at ho
    have hv := h.inv (by simp only [ntOk]; omega) hi
    obtain ⟨a1, a2, a3, _⟩ := hv
    have a7 := (a3 rfl).2.2.1 (fun acc => by simp)
    simp only at a1 a2 a7
    have hv2 := h2.inv (by simp only [ntOk]; exact ⟨ho, a7⟩) a2
    obtain ⟨k0, k1, k2, k3, k4⟩ := ih (by simp only [ntOk]; omega) hi rfl
    have := ih2 (by simp only [ntOk]; exact ⟨ho, a7⟩) a2 rfl k0 k2 k3 k4
    simp only [if_true]
    refine ⟨k0, k1, ?_, ?_, this.2⟩
    · have := hv2.1; simp only at this k2; omega
    · rw [this.1]; exact k3
  | blN h => intro _ _ _ k hk h1 h2; exact ⟨rfl, h2⟩
  | blE h h2 he ih => intro _ _ e; exact absurd e he
  | blH h h2 hh ih => intro _ _ e; cases e
  | bl h h2 hh h3 ih ih2 =>
    rename_i lv e i d0 m j r
    intro ho hi he k hk h1 hins
    simp only [ntOk] at ho
    have hlt := lev_lt h ho.1
    have hv := h2.inv (by simp only [ntOk]; omega) hlt
    obtain ⟨a1, a2, a3, _⟩ := hv
    simp only at a1 a2
    obtain ⟨k0, k1, k2, k3, k4⟩ := ih (by simp only [ntOk]; omega) hlt rfl
    simp only at k2 k3 k4
    have hm1 : e.c1 < m.c1 := by rw [h1, k3]; exact g.ps_lt (by omega) (by omega) (by omega)
    have hm2 : m.c1 < b.length := by rw [k3]; exact g.ps_len (by omega)
    have hnew : insE b.length ⟨5, e.c1, 0, tx b l i, ⟨#[]⟩, [e, m]⟩ := by
      simp only [insE, insL]
      exact ⟨⟨Int.le_refl _, by omega, hins⟩, ⟨by omega, hm2, k4⟩, trivial⟩
    exact ih2 (by simp only [ntOk]; exact ⟨ho.1, by omega⟩) a2 he k (by omega) h1 hnew
  | sigN h1 h2 h ih => intro _ hi he; exact ih trivial hi he
  | sigD h1 hd => intro _ _ e; cases e
  | sigE h1 hd h he ih => intro _ _ e; exact absurd e he
  | sig h1 hd h ih =>
    rename_i i d e j
    intro _ hi he
    have hil : i < l.length := by
      cases h0 : eqs (tx b l i) ⟨#[33]⟩ with
      | true => exact tx_lt h0 (by decide +kernel)
      | false => rw [h0] at h1; exact tx_lt h1 (by decide +kernel)
    have hv := h.inv trivial hil
    obtain ⟨a1, a2, _, _⟩ := hv
    simp only at a1 a2
    obtain ⟨k0, k1, k2, k3, k4⟩ := ih trivial hil rfl
    simp only at k2 k3 k4
    generalize hr : heldR _ i j = r at he ⊢
    obtain ⟨e', err, k⟩ := r
    rcases held_inv hr with ⟨rfl, rfl, rfl⟩ | ⟨rfl, rfl, rfl, hh⟩
    · cases he
    · exact ⟨i, Nat.le_refl _, by simp only; omega, rfl, one (by rw [k3]; exact g.ps_le (by omega) (by omega)) (by rw [k3]; exact g.ps_len (by omega)) k4⟩
  | num hk h => intro _ _ _; exact ⟨_, Nat.le_refl _, by simp, rfl, by simp [insE, insL]⟩
  | numE hk h => intro _ _ e; cases e
  | tru hk h => intro _ _ _; exact ⟨_, Nat.le_refl _, by simp, rfl, by simp [insE, insL]⟩
  | fls hk h => intro _ _ _; exact ⟨_, Nat.le_refl _, by simp, rfl, by simp [insE, insL]⟩
  | pgr hk h h2 ih => intro _ hi he; exact ih trivial hi he
  | pop hk h h2 ih => intro _ hi he; exact ih trivial hi he
  | pnm hk h1 h2 h3 h4 h ih => intro _ hi he; exact ih trivial hi he
  | grD ht hd => intro _ _ e; cases e
  | grE ht hd h he ih => intro _ _ e; exact absurd e he
  | grP ht hd h h2 ih => intro _ _ e; cases e
  | grp ht hd h h2 ih =>
    intro _ hi he
    have := tx_lt ht (by decide +kernel)
    obtain ⟨k0, k1, k2, k3, k4⟩ := ih (by simp [ntOk]) (by omega) rfl
    simp only at k2 k3 k4
    exact ⟨k0, by omega, by simp only; omega, k3, k4⟩
  | op1 ht h => intro _ _ e; cases e
  | opD ht h hd => intro _ _ e; cases e
  | opE ht h hd h2 he ih => intro _ _ e; exact absurd e he
  | op2 ht h hd h2 h3 ih => intro _ _ e; cases e
  | op3 ht h hd h2 h3 h4 ih => intro _ _ e; cases e
  | op4 ht h hd h2 h3 h4 h5 ih => intro _ _ e; cases e
  | op5 ht h hd h2 h3 h4 h5 h6 ih => intro _ _ e; cases e
  | opn ht h hd h2 h3 h4 h5 h6 ih =>
    rename_i i d e j
    intro _ hi he
    have hil := tx_lt h (by decide +kernel)
    have hj := tx_lt h6 (by decide +kernel)
    obtain ⟨k0, k1, k2, k3, k4⟩ := ih (by simp [ntOk]) (by omega) rfl
    simp only at k2 k3 k4
    generalize hr : heldR _ i (j + 4) = r at he ⊢
    obtain ⟨e', err, k⟩ := r
    rcases held_inv hr with ⟨rfl, rfl, rfl⟩ | ⟨rfl, rfl, rfl, hh⟩
    · cases he
    · exact ⟨i, Nat.le_refl _, by simp only; omega, rfl, one (by rw [k3]; exact g.ps_le (by omega) (by omega)) (by rw [k3]; exact g.ps_len (by omega)) k4⟩
  | nm0 h => intro _ _ e; cases e
  | nm1 h h2 h3 => intro _ _ e; cases e
  | nmV h hx h2 =>
    intro _ _ _
    exact ⟨_, Nat.le_refl _, by rcases hx with ⟨k1, k2, k3, _⟩ | ⟨k1, k3, _⟩ <;> (simp only; omega), rfl, by simp [insE, insL]⟩
  | nmD h hx h2 hd => intro _ _ e; cases e
  | nmE h hx h2 hd h3 he ih => intro _ _ e; exact absurd e he
  | nam h hx h2 hd h3 ih =>
    rename_i i d k x e j
    intro _ hi he
    have hkl := tx_lt h2 (by decide +kernel)
    have hk : i < k := by rcases hx with ⟨k1, k2, k3, _⟩ | ⟨k1, k3, _⟩ <;> omega
    have hv := h3.inv (by simp [ntOk]) (by omega)
    have h4 := ih (by simp [ntOk]) (by omega) rfl (ps b l i) (g.ps_le (by omega) (by omega)) (by simp)
    simp only at h4
    generalize hr : heldR _ i (j + 1) = r at he ⊢
    obtain ⟨e', err, k'⟩ := r
    rcases held_inv hr with ⟨rfl, rfl, rfl⟩ | ⟨rfl, rfl, rfl, hh⟩
    · cases he
    · refine ⟨i, Nat.le_refl _, ?_, rfl, (insE_c5 _ _).2 ((insL_all _ _ _).1 h4)⟩
      have := hv.1
      simp only at this ⊢
      omega
  | alN h => intro _ _ _ p0 _ h; exact h
  | alC h ha h2 => intro _ _ e; cases e
  | alE h hk h3 he ih => intro _ _ e; exact absurd e he
  | al h hk h3 h4 ih ih2 =>
    rename_i acc i d k e j r
    intro _ hi he p0 hp0 hacc
    have hk' : i ≤ k ∧ k ≤ l.length := by
      rcases hk with ⟨_, rfl⟩ | ⟨_, k2, rfl⟩
      · exact ⟨Nat.le_refl _, hi⟩
      · have := tx_lt k2 (by decide +kernel); omega
    obtain ⟨a1, a2, _, _⟩ := h3.inv (by simp [ntOk]) hk'.2
    simp only at a1 a2
    obtain ⟨k0, k1, k2, k3, k4⟩ := ih (by simp [ntOk]) hk'.2 rfl
    simp only at k2 k3 k4
    have e1 : ps b l i ≤ ps b l k0 := g.ps_le (by omega) (by omega)
    have e2 : ps b l i ≤ ps b l j := g.ps_le (by omega) a2
    refine ih2 trivial a2 he p0 (by omega) (fun x hx => ?_)
    rcases List.mem_append.1 hx with hx | hx
    · exact hacc x hx
    · simp only [List.mem_singleton] at hx
      subst hx
      exact ⟨by omega, by rw [k3]; exact g.ps_len (by omega), k4⟩
end
end Go.Proofs.Ytogfofcocidmkaa.Pu
