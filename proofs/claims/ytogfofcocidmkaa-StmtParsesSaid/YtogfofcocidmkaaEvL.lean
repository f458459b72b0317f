/- EV (ours), part L: behind a call. -/
import Derived.Test.YtogfofcocidmkaaEvK
set_option linter.unusedVariables false
set_option linter.unusedSimpArgs false
namespace Go.Proofs.Ytogfofcocidmkaa.Ev
open Go.RowKit
section
variable {U : Uni} {X : Beg U} {σ : St U} {a : Act} {w w' : World} {G : Gh} {P : Program}

/-- What was lent is back: bx holds its cells now. -/
structure Bk (σ : St U) (ls : List Lent) (bx : List (List U.C)) (σ1 : St U) : Prop where
  slots : σ1.slots = σ.slots
  rows : σ1.rows = σ.rows
  lk : σ1.lk = σ.lk
  len : σ1.boxes.length = σ.boxes.length
  other : ∀ b, (∀ l ∈ ls, l.b ≠ b) → σ1.boxes[b]? = σ.boxes[b]?
  lent : ∀ (q : Nat) l, ls[q]? = some l → ∃ cs ds, bx[q]? = some cs ∧ cs.length = l.n ∧ cs.all plain = true ∧ σ.boxes[l.b]? = some ds ∧ l.o + l.n ≤ ds.length ∧ σ1.boxes[l.b]? = some (splice ds l.o cs)
theorem back_ok : ∀ (ls : List Lent) (bx rest : List (List U.C)) (σ σ1 : St U), distinct ls = true → (∀ l ∈ ls, 0 < l.n ∧ l.o + l.n ≤ (σ.boxes.getD l.b []).length) → back σ ls bx = some (σ1, rest) →
    Bk σ ls bx σ1 ∧ rest = bx.drop ls.length
  | [], bx, rest, σ, σ1, hd, hn, h => by
    simp only [back, Option.some.injEq, Prod.mk.injEq] at h
    obtain ⟨rfl, rfl⟩ := h
    exact ⟨⟨rfl, rfl, rfl, rfl, fun _ _ => rfl, fun q l hq => by simp at hq⟩, rfl⟩
  | l :: ls, [], rest, σ, σ1, hd, hn, h => by simp [back] at h
  | l :: ls, cs :: bx, rest, σ, σ1, hd, hn, h => by
    simp only [back] at h
    obtain ⟨e, h⟩ := bif_some h
    simp only [Bool.and_eq_true] at e
    have hcl := Nat.eq_of_beq_eq_true e.1
    simp only [distinct, Bool.and_eq_true] at hd
    have hne : ∀ l' ∈ ls, l'.b ≠ l.b := fun l' hl' => by have := List.all_eq_true.1 hd.1 l' hl'; simpa using this
    obtain ⟨hn1, hn2⟩ := hn l (by simp)
    cases hb : σ.boxes[l.b]? with
    | none => rw [List.getD_eq_getElem?_getD, hb] at hn2; simp at hn2; omega
    | some ds =>
      have hds : σ.boxes.getD l.b [] = ds := by rw [List.getD_eq_getElem?_getD, hb]; rfl
      rw [hds] at hn2 h
      have hlt : l.b < σ.boxes.length := (List.getElem?_eq_some_iff.1 hb).1
      obtain ⟨k, hr⟩ := back_ok ls bx rest _ σ1 hd.2 (fun l' hl' => by
        have := hn l' (by simp [hl'])
        refine ⟨this.1, ?_⟩
        have e := hne l' hl'
        simp only [List.getD_eq_getElem?_getD, List.getElem?_set]
        rw [if_neg (fun z => e z.symm)]
        have := this.2
        rwa [List.getD_eq_getElem?_getD] at this) h
      refine ⟨⟨k.slots, k.rows, k.lk, by rw [k.len]; simp, fun b hbn => ?_, fun q l' hq => ?_⟩, by simpa using hr⟩
      · rw [k.other b (fun l' hl' => hbn l' (by simp [hl']))]
        simp only [List.getElem?_set]
        rw [if_neg (hbn l (by simp))]
      · cases q with
        | zero =>
          simp only [List.getElem?_cons_zero, Option.some.injEq] at hq
          subst hq
          refine ⟨cs, ds, rfl, hcl, e.2, hb, hn2, ?_⟩
          rw [k.other l.b hne]
          simp [hlt]
        | succ q =>
          simp only [List.getElem?_cons_succ] at hq
          obtain ⟨cs', ds', h1, h2, h3, h4, h5, h6⟩ := k.lent q l' hq
          refine ⟨cs', ds', by simpa using h1, h2, h3, ?_, h5, h6⟩
          simp only [List.getElem?_set] at h4
          rwa [if_neg (fun z => hne l' (List.mem_of_getElem? hq) z.symm)] at h4
theorem splice_self {ds cs : List U.C} {o n : Nat} (h : sub ds o n = some cs) : splice ds o cs = ds := by
  obtain ⟨h1, h2, h3, h4⟩ := sub_some h
  apply List.ext_getElem?
  intro i
  rw [splice_get (by omega)]
  split
  · rename_i hc
    rw [sub_get h (by omega)]
    congr 1; omega
  · rfl
/-- Nothing was written. -/
theorem back_ro {ls : List Lent} {bx : List (List U.C)} (hn : ∀ l ∈ ls, 0 < l.n) (hl : ∀ (q : Nat) l, ls[q]? = some l → ∃ cs, bx[q]? = some cs ∧ cs.all plain = true ∧ sub (σ.boxes.getD l.b []) l.o l.n = some cs) : Bk σ ls bx σ :=
  ⟨rfl, rfl, rfl, rfl, fun _ _ => rfl, fun q l hq => by
    obtain ⟨cs, h1, h2, h3⟩ := hl q l hq
    obtain ⟨g1, g2, g3, g4⟩ := sub_some h3
    have hpos := hn l (List.mem_of_getElem? hq)
    cases hb : σ.boxes[l.b]? with
    | none => rw [List.getD_eq_getElem?_getD, hb] at g1; simp at g1; omega
    | some ds =>
      have hds : σ.boxes.getD l.b [] = ds := by rw [List.getD_eq_getElem?_getD, hb]; rfl
      rw [hds] at h3 g1
      exact ⟨cs, ds, h1, g3, h2, rfl, g1, by rw [splice_self h3]⟩⟩
theorem Rel.after (h : Rel X σ a w G) {ls : List Lent} {bx bx' : List (List U.C)} {ro : Bool} {σr : St U} {ar : Act} {Gr : Gh} {σ1 : St U} (hlen : bx.length = ls.length)
    (hbl : ∀ (q : Nat) l, ls[q]? = some l → (bx.getD q []).length = l.n) (hn : ∀ l ∈ ls, 0 < l.n)
    (hx : Rel (begOf w G.fz (lentBs G ls) bx ro) σr ar w' Gr) (hb : σr.boxes = bx') (hk : Bk σ ls bx' σ1) (hlk : ∀ b, b < X.lk → σ1.boxes[b]? = σ.boxes[b]?) :
    Rel X σ1 a w' ⟨Gr.fz, G.bs, G.rs⟩ ∧ G.le w w' ⟨Gr.fz, G.bs, G.rs⟩ := by
  have F := hx.fr
  have hlb : ∀ (q : Nat) l g p, ls[q]? = some l → G.bs l.b = some (g, p) → lentBs G ls q = some (g, p + l.o) := fun q l g p hq hg => by simp [lentBs, hq, hg]
  have hlb' : ∀ (q : Nat) g p, lentBs G ls q = some (g, p) → ∃ l p0, ls[q]? = some l ∧ G.bs l.b = some (g, p0) ∧ p = p0 + l.o := by
    intro q g p hq
    unfold lentBs at hq
    split at hq
    · rename_i l hql
      cases hbl : G.bs l.b with
      | none => rw [hbl] at hq; cases hq
      | some z =>
        rw [hbl] at hq
        simp only [Option.map_some, Option.some.injEq, Prod.mk.injEq] at hq
        exact ⟨l, z.2, hql, by rw [hbl, ← hq.1], hq.2.symm⟩
    · cases hq
  have hsame : ∀ g, g < w.heap.size → (∀ (q : Nat) l p, ls[q]? = some l → G.bs l.b ≠ some (g, p)) → w'.heap[g]? = w.heap[g]? := by
    intro g hg hno
    refine F.blk g hg (fun b q hq e => ?_)
    obtain ⟨l, p0, h1, h2, h3⟩ := hlb' b q.1 q.2 hq
    rw [e] at h2
    exact hno b l p0 h1 h2
  have hz : ∀ g, G.fz g → w'.heap[g]? = w.heap[g]? := fun g hg => hsame g (h.fzlt g hg) (fun q l p _ hq => (h.bfz l.b g p hq).1 hg)
  have hle : G.le w w' ⟨Gr.fz, G.bs, G.rs⟩ := ⟨F.fz, fun _ _ h => h, fun _ _ h => h, hz⟩
  have hfznew : ∀ g, Gr.fz g → G.fz g ∨ w.heap.size ≤ g := F.fznew
  have hrowno : ∀ r v, G.rs r = some v → ∀ g, v.ownBlock = some g → ∀ (q : Nat) l p, ls[q]? = some l → G.bs l.b ≠ some (g, p) := fun r v hr g hg q l p _ hq => (h.rfz r v g hr hg).2 l.b _ hq rfl
  refine ⟨?_, hle⟩
  exact {
    n := by rw [hk.slots]; exact h.n
    slot := fun i d hd => by
      rw [hk.slots] at hd
      obtain ⟨v, h1, h2⟩ := h.slot i d hd
      exact ⟨v, h1, h2.mono hle⟩
    dfr := h.dfr
    box := fun b cs1 hb1 hne => by
      by_cases hl : ∃ (q : Nat) (l : Lent), ls[q]? = some l ∧ l.b = b
      · obtain ⟨q, l, hq, rfl⟩ := hl
        obtain ⟨cs, ds, k1, k2, k3, k4, k5, k6⟩ := hk.lent q l hq
        rw [hb1] at k6
        cases k6
        have hpos := hn l (List.mem_of_getElem? hq)
        obtain ⟨g, p, hg, hbox⟩ := h.box l.b ds k4 (fun e => by rw [e] at k5; simp at k5; omega)
        refine ⟨g, p, hg, fun j x hx' => ?_⟩
        rw [splice_get (by omega)] at hx'
        have hXb := hlb q l g p hq hg
        have hGr : Gr.bs q = some (g, p + l.o) := F.bs q _ hXb
        split at hx'
        · rename_i hc
          obtain ⟨g', p', e1, e2⟩ := hx.box q cs (by rw [hb]; exact k1) (fun e => by rw [e] at k2; simp at k2; omega)
          rw [hGr] at e1
          cases e1
          obtain ⟨u, m1, m2, m3, m4⟩ := e2 _ x hx'
          have hpx := List.all_eq_true.1 k3 x (List.mem_of_getElem? hx')
          have m5 : RepP w' Gr.fz x u := m3.toP hpx
          rw [show p + l.o + (j - l.o) = p + j by omega] at m1 m2
          exact ⟨u, m1, m2, RepC.ofP m5, m4⟩
        · rename_i hc
          obtain ⟨u, m1, m2, m3, m4⟩ := hbox j x hx'
          have ho := F.out q g (p + l.o) hXb (p + j) (by
            show p + j < p + l.o ∨ p + l.o + (bx.getD q []).length ≤ p + j
            rw [hbl q l hq]
            omega)
          exact ⟨u, ho.1.trans m1, ho.2.trans m2, m3.mono hle, m4⟩
      · have hno : ∀ l ∈ ls, l.b ≠ b := fun l hl' e => by
          obtain ⟨q, hq, e'⟩ := List.getElem_of_mem hl'
          exact hl ⟨q, l, by rw [List.getElem?_eq_getElem hq, e'], e⟩
        rw [hk.other b hno] at hb1
        obtain ⟨g, p, hg, hbox⟩ := h.box b cs1 hb1 hne
        refine ⟨g, p, hg, hbox.move hle (hsame g (h.bfz b g p hg).2 (fun q l p' hq hg' => ?_))⟩
        exact hno l (List.mem_of_getElem? hq) (h.bb l.b b g p' p hg' hg)
    bdom := fun b q hq => by
      obtain ⟨cs, h1, h2⟩ := h.bdom b q hq
      by_cases hl : ∃ (q : Nat) (l : Lent), ls[q]? = some l ∧ l.b = b
      · obtain ⟨q, l, hql, rfl⟩ := hl
        obtain ⟨cs', ds, k1, k2, k3, k4, k5, k6⟩ := hk.lent q l hql
        refine ⟨_, k6, fun e => ?_⟩
        have hpos := hn l (List.mem_of_getElem? hql)
        have := splice_len (cs := ds) (ys := cs') (o := l.o) (by omega)
        rw [e] at this
        simp at this
        omega
      · have hno : ∀ l ∈ ls, l.b ≠ b := fun l hl' e => by
          obtain ⟨q, hq, e'⟩ := List.getElem_of_mem hl'
          exact hl ⟨q, l, by rw [List.getElem?_eq_getElem hq, e'], e⟩
        exact ⟨cs, by rw [hk.other b hno]; exact h1, h2⟩
    row := fun r R hR => by
      rw [hk.rows] at hR
      obtain ⟨v, h1, h2⟩ := h.row r R hR
      exact ⟨v, h1, h2.move F.fz hz (fun g hg => hsame g (h2.lt g hg).2 (hrowno r v h1 g hg))⟩
    rdom := fun r v hr => by rw [hk.rows]; exact h.rdom r v hr
    fzlt := hx.fzlt
    bfz := fun b g p hq => by
      obtain ⟨h1, h2⟩ := h.bfz b g p hq
      refine ⟨fun hg => ?_, Nat.lt_of_lt_of_le h2 F.size⟩
      rcases hfznew g hg with hg | hg
      · exact h1 hg
      · omega
    bb := h.bb
    rfz := fun r v g hr hg => by
      obtain ⟨h1, h2⟩ := h.rfz r v g hr hg
      refine ⟨fun hz' => ?_, h2⟩
      rcases hfznew g hz' with hz' | hz'
      · exact h1 hz'
      · obtain ⟨R, hR⟩ := h.rdom r v hr
        obtain ⟨v', e1, e2⟩ := h.row r R hR
        rw [hr] at e1; cases e1
        have := (e2.lt g hg).2
        omega
    rr := h.rr
    fr := {
      blt := h.fr.blt
      os := F.os.trans h.fr.os
      tape := F.tape.trans h.fr.tape
      output := F.output.trans h.fr.output
      size := Nat.le_trans h.fr.size F.size
      blk := fun g hg hno => by
        refine (hsame g (Nat.lt_of_lt_of_le hg h.fr.size) (fun q l p hq hg' => ?_)).trans (h.fr.blk g hg hno)
        rcases h.fr.bsnew l.b _ hg' with e | e
        · exact hno l.b _ e rfl
        · simp only at e; omega
      out := fun b g p hq j hj => by
        obtain ⟨m1, m2⟩ := h.fr.out b g p hq j hj
        have hg := h.fr.bs b _ hq
        by_cases hl : ∃ (q : Nat) (l : Lent), ls[q]? = some l ∧ l.b = b
        · obtain ⟨q, l, hql, rfl⟩ := hl
          obtain ⟨cs', ds, k1, k2, k3, k4, k5, k6⟩ := hk.lent q l hql
          have hlen' := h.lent l.b _ hq ds k4
          have ho := F.out q g (p + l.o) (hlb q l g p hql hg) j (by
            show j < p + l.o ∨ p + l.o + (bx.getD q []).length ≤ j
            rw [hbl q l hql]
            omega)
          exact ⟨ho.1.trans m1, ho.2.trans m2⟩
        · have hs := hsame g (h.bfz b g p hg).2 (fun q l p' hql hg' => hl ⟨q, l, hql, h.bb l.b b g p' p hg' hg⟩)
          exact ⟨(cell_same (by exact hs)).trans m1, (frozen_same (by exact hs)).trans m2⟩
      bs := h.fr.bs
      fz := fun g hg => F.fz g (h.fr.fz g hg)
      fznew := fun g hg => by
        rcases hfznew g hg with hg | hg
        · exact h.fr.fznew g hg
        · exact .inr (Nat.le_trans h.fr.size hg)
      bsnew := h.fr.bsnew }
    lent := fun b q hq cs hcs => by
      by_cases hl : ∃ (q : Nat) (l : Lent), ls[q]? = some l ∧ l.b = b
      · obtain ⟨q', l, hql, rfl⟩ := hl
        obtain ⟨cs', ds, k1, k2, k3, k4, k5, k6⟩ := hk.lent q' l hql
        rw [hcs] at k6
        cases k6
        rw [splice_len (by omega)]
        exact h.lent l.b q hq ds k4
      · have hno : ∀ l ∈ ls, l.b ≠ b := fun l hl' e => by
          obtain ⟨q, hq, e'⟩ := List.getElem_of_mem hl'
          exact hl ⟨q, l, by rw [List.getElem?_eq_getElem hq, e'], e⟩
        rw [hk.other b hno] at hcs
        exact h.lent b q hq cs hcs
    lk := by rw [hk.lk]; exact h.lk
    lock := fun b hb' => by
      obtain ⟨h1, h2⟩ := h.lock b hb'
      exact ⟨by rw [hlk b hb']; exact h1, h2⟩
    lockne := h.lockne }
/-- A variable that another call made. -/
theorem Rel.adopt (h : Rel X σ a w G) {g p : Nat} {cs : List U.C} (hX : X.w.heap.size ≤ g) (hlt : g < w.heap.size) (hz : ¬ G.fz g) (hb : ∀ b q, G.bs b = some q → q.1 ≠ g) (hr : ∀ r v, G.rs r = some v → v.ownBlock ≠ some g) (hne : cs ≠ []) (hbox : BoxAt w G g p cs) :
    ∃ G', Rel X (σ.newBox cs) a w G' ∧ G'.fz = G.fz ∧ G'.rs = G.rs ∧ G'.bs σ.boxes.length = some (g, p) ∧ G.le w w G' := by
  have hnone : G.bs σ.boxes.length = none := by
    cases hq : G.bs σ.boxes.length with
    | none => rfl
    | some q => obtain ⟨ds, h1, _⟩ := h.bdom _ _ hq; have := (List.getElem?_eq_some_iff.1 h1).1; omega
  have hle : G.le w w ⟨G.fz, fun b => if b = σ.boxes.length then some (g, p) else G.bs b, G.rs⟩ :=
    ⟨fun _ h => h, fun b q hq => by simp only; rw [if_neg (fun e => by rw [e, hnone] at hq; cases hq)]; exact hq, fun _ _ h => h, fun _ _ => rfl⟩
  refine ⟨⟨G.fz, fun b => if b = σ.boxes.length then some (g, p) else G.bs b, G.rs⟩, ?_, rfl, rfl, by simp, hle⟩
  exact {
    n := h.n
    slot := fun i d hd => by obtain ⟨u, k1, k2⟩ := h.slot i d hd; exact ⟨u, k1, k2.mono hle⟩
    dfr := h.dfr
    box := fun b ds hb' hds => by
      simp only [St.newBox, List.getElem?_append] at hb'
      split at hb'
      · obtain ⟨g', p', k1, k2⟩ := h.box b ds hb' hds
        exact ⟨g', p', hle.bs _ _ k1, k2.move hle rfl⟩
      · rw [List.getElem?_singleton] at hb'
        split at hb'
        · have hb2 : b = σ.boxes.length := by omega
          subst hb2
          cases hb'
          exact ⟨g, p, by simp, hbox.move hle rfl⟩
        · cases hb'
    bdom := fun b q hq => by
      by_cases e : b = σ.boxes.length
      · subst e
        exact ⟨cs, by simp [St.newBox], hne⟩
      · simp only [if_neg e] at hq
        obtain ⟨ds, h1, h2⟩ := h.bdom b q hq
        refine ⟨ds, ?_, h2⟩
        simp only [St.newBox]
        rw [List.getElem?_append_left (List.getElem?_eq_some_iff.1 h1).1]
        exact h1
    row := fun r R hR => by
      obtain ⟨v, k1, k2⟩ := h.row r R hR
      exact ⟨v, k1, k2⟩
    rdom := h.rdom
    fzlt := h.fzlt
    bfz := fun b g' p' hq => by
      by_cases e : b = σ.boxes.length
      · simp only [e, if_true, Option.some.injEq, Prod.mk.injEq] at hq
        obtain ⟨rfl, rfl⟩ := hq
        exact ⟨hz, hlt⟩
      · simp only [if_neg e] at hq
        exact h.bfz b g' p' hq
    bb := fun b b' g1 p1 p1' hq hq' => by
      by_cases e : b = σ.boxes.length
      · by_cases e' : b' = σ.boxes.length
        · rw [e, e']
        · simp only [e, if_true, Option.some.injEq, Prod.mk.injEq] at hq
          simp only [if_neg e'] at hq'
          exact absurd hq.1.symm (hb b' _ hq')
      · by_cases e' : b' = σ.boxes.length
        · simp only [e', if_true, Option.some.injEq, Prod.mk.injEq] at hq'
          simp only [if_neg e] at hq
          exact absurd hq'.1.symm (hb b _ hq)
        · simp only [if_neg e] at hq
          simp only [if_neg e'] at hq'
          exact h.bb b b' g1 p1 p1' hq hq'
    rfz := fun r v g1 hv hg => by
      refine ⟨(h.rfz r v g1 hv hg).1, fun b q hq => ?_⟩
      by_cases e : b = σ.boxes.length
      · simp only [e, if_true, Option.some.injEq] at hq
        subst hq
        exact fun e2 => hr r v hv (by rw [hg, ← e2])
      · simp only [if_neg e] at hq
        exact (h.rfz r v g1 hv hg).2 b q hq
    rr := h.rr
    fr := { h.fr with
      bs := fun b q hq => hle.bs b q (h.fr.bs b q hq)
      bsnew := fun b q hq => by
        by_cases e : b = σ.boxes.length
        · simp only [e, if_true, Option.some.injEq] at hq
          subst hq
          exact .inr hX
        · simp only [if_neg e] at hq
          exact h.fr.bsnew b q hq }
    lent := fun b q hq ds hds => by
      obtain ⟨ds', h1, h2⟩ := h.bdom b q (h.fr.bs b q hq)
      have hlt' := (List.getElem?_eq_some_iff.1 h1).1
      simp only [St.newBox] at hds
      rw [List.getElem?_append_left hlt'] at hds
      exact h.lent b q hq ds hds
    lk := h.lk
    lock := fun b hb' => by
      obtain ⟨h1, h2⟩ := h.lock b hb'
      refine ⟨?_, h2⟩
      simp only [St.newBox]
      rw [List.getElem?_append_left (List.getElem?_eq_some_iff.1 h1).1]
      exact h1
    lockne := h.lockne }
theorem RepV.map2 {w w' : World} {G G' : Gh} {f1 f2 : U.C → U.C} (hf : ∀ x v, RepC w G (f1 x) v → RepC w' G' (f2 x) v) (hu : ∀ x, f1 x = .undef → f2 x = .undef) {x : U.V} {v : Value} (h : RepV w G (mapV f1 x) v) : RepV w' G' (mapV f2 x) v := by
  cases x with
  | c x => exact ⟨hf x v h.1, fun hn => h.2 (fun he => hn (by
      have : f1 x = .undef := by
        cases hq : f1 x <;> rw [hq] at he <;> first | rfl | simp [Ev.vl] at he
      rw [hu x this]
      rfl))⟩
  | agg cs =>
    obtain ⟨vs, rfl, hn, hr⟩ := h
    refine ⟨vs, rfl, by simpa using hn, fun j x hx => ?_⟩
    rw [List.getElem?_map] at hx
    cases hj : cs[j]? with
    | none => rw [hj] at hx; cases hx
    | some y =>
      rw [hj] at hx
      obtain ⟨u, h1, h2, h3⟩ := hr j (f1 y) (by simp [hj])
      simp only [Option.map_some, Option.some.injEq] at hx
      subst hx
      exact ⟨u, h1, hf _ _ h2, h3⟩
theorem RepD.map2 {w w' : World} {G G' : Gh} {f1 f2 : U.C → U.C} (hf : ∀ x v, RepC w G (f1 x) v → RepC w' G' (f2 x) v) (hu : ∀ x, f1 x = .undef → f2 x = .undef) {x : U.D} {v : Value} (h : RepD w G (mapD f1 x) v) : RepD w' G' (mapD f2 x) v := by
  cases x with
  | v x => exact RepV.map2 hf hu h
  | tup l =>
    obtain ⟨vs, rfl, hn, hr⟩ := h
    refine ⟨vs, rfl, by simpa using hn, fun j x hx => ?_⟩
    rw [List.getElem?_map] at hx
    cases hj : l[j]? with
    | none => rw [hj] at hx; cases hx
    | some y =>
      rw [hj] at hx
      obtain ⟨u, h1, h2⟩ := hr j (mapV f1 y) (by simp [hj])
      simp only [Option.map_some, Option.some.injEq] at hx
      subst hx
      exact ⟨u, h1, RepV.map2 hf hu h2⟩
end
end Go.Proofs.Ytogfofcocidmkaa.Ev
