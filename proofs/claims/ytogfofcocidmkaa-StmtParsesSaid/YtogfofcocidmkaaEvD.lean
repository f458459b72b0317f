/- EV (ours), part D: steps, one by one. -/
import Derived.Test.YtogfofcocidmkaaEvC
set_option linter.unusedVariables false
set_option linter.unusedSimpArgs false
namespace Go.Proofs.Ytogfofcocidmkaa.Ev
open Go.RowKit
section
variable {U : Uni} {X : Beg U} {σ : St U} {a : Act} {w w' : World} {G : Gh}

theorem Rel.put (h : Rel X σ a w G) (d : Option Nat) (x : U.D) (v : Value) (hr : RepD w G x v) : Rel X (σ.put d x) (a.put d v) w G := by
  cases d with
  | none => exact h
  | some d =>
    refine { h with n := by simpa [St.put, Act.put] using h.n, slot := fun i y hy => ?_ }
    simp only [St.put, List.getElem?_set] at hy
    simp only [Act.put]
    rw [Array.getElem?_setIfInBounds]
    by_cases e : d = i
    · subst e
      simp only [if_true] at hy ⊢
      split at hy
      · rename_i hlt
        cases hy
        rw [if_pos (by rw [h.n]; exact hlt)]
        exact ⟨v, rfl, hr⟩
      · cases hy
    · rw [if_neg e] at hy ⊢
      exact h.slot i y hy
theorem Rel.slotUndef (h : Rel X σ a w G) (t : Nat) (x : U.D) (hx : ∀ v, a.tmps[t]? = some v → RepD w G x v) : Rel X { σ with slots := σ.slots.set t x } a w G := by
  refine { h with n := by simpa using h.n, slot := fun i y hy => ?_ }
  simp only [List.getElem?_set] at hy
  by_cases e : t = i
  · subst e
    simp only [if_true] at hy
    split at hy
    · rename_i hlt
      cases hy
      have hn : t < a.tmps.size := by rw [h.n]; exact hlt
      exact ⟨a.tmps[t], by simp [hn], hx _ (by simp [hn])⟩
    · cases hy
  · rw [if_neg e] at hy
    exact h.slot i y hy

/-- A row's block may turn, that no one else names. -/
theorem Fr.worldBut (h : Fr X w G) {row : Option Nat} (hk : w.grownBy w' row) (hn : ∀ g, row = some g → X.w.heap.size ≤ g) : Fr X w' G where
  blt := h.blt
  os := hk.os.trans h.os
  tape := hk.tape.trans h.tape
  output := hk.output.trans h.output
  size := Nat.le_trans h.size hk.size
  blk := fun g hg hb => (hk.block g (Nat.lt_of_lt_of_le hg h.size) (fun e => by have := hn g e.symm; omega)).trans (h.blk g hg hb)
  out := fun b g p hq j hj => by
    obtain ⟨h1, h2⟩ := h.out b g p hq j hj
    have hlt := h.blt b _ hq
    have hg : g < w.heap.size := Nat.lt_of_lt_of_le hlt h.size
    have hne : some g ≠ row := fun e => by have := hn g e.symm; simp only at hlt; omega
    exact ⟨(cell_same (hk.block g hg hne)).trans h1, (frozen_same (hk.block g hg hne)).trans h2⟩
  bs := h.bs
  fz := h.fz
  fznew := h.fznew
  bsnew := h.bsnew
theorem Rel.worldBut (h : Rel X σ a w G) {row : Option Nat} (hk : w.grownBy w' row) (hn : ∀ g, row = some g → X.w.heap.size ≤ g ∧ ¬ G.fz g ∧ (∀ b q, G.bs b = some q → q.1 ≠ g) ∧ ∀ r v, G.rs r = some v → v.ownBlock ≠ some g) :
    Rel X σ a w' G := by
  have hz : ∀ g, G.fz g → w'.heap[g]? = w.heap[g]? := fun g hg => hk.block g (h.fzlt g hg) (fun e => (hn g e.symm).2.1 hg)
  have hle : G.le w w' G := ⟨fun _ h => h, fun _ _ h => h, fun _ _ h => h, hz⟩
  exact {
    n := h.n
    slot := fun i d hd => by obtain ⟨v, h1, h2⟩ := h.slot i d hd; exact ⟨v, h1, h2.mono hle⟩
    dfr := h.dfr
    box := fun b cs hb hne => by
      obtain ⟨g, p, h1, h2⟩ := h.box b cs hb hne
      exact ⟨g, p, h1, h2.move hle (hk.block g (h.bfz b g p h1).2 (fun e => (hn g e.symm).2.2.1 b _ h1 rfl))⟩
    bdom := h.bdom
    row := fun r R hr => by
      obtain ⟨v, h1, h2⟩ := h.row r R hr
      exact ⟨v, h1, h2.move (fun _ h => h) hz (fun g hg => hk.block g (h2.lt g hg).2 (fun e => (hn g e.symm).2.2.2 r v h1 hg))⟩
    rdom := h.rdom
    fzlt := fun g hg => Nat.lt_of_lt_of_le (h.fzlt g hg) hk.size
    bfz := fun b g p hq => ⟨(h.bfz b g p hq).1, Nat.lt_of_lt_of_le (h.bfz b g p hq).2 hk.size⟩
    bb := h.bb
    rfz := h.rfz
    rr := h.rr
    fr := h.fr.worldBut hk (fun g e => (hn g e).1)
    lent := h.lent
    lk := h.lk
    lock := h.lock
    lockne := h.lockne }
theorem Rel.leBut (h : Rel X σ a w G) {row : Option Nat} (hk : w.grownBy w' row) (hn : ∀ g, row = some g → ¬ G.fz g) : G.le w w' G :=
  ⟨fun _ h => h, fun _ _ h => h, fun _ _ h => h, fun g hg => hk.block g (h.fzlt g hg) (fun e => hn g e.symm hg)⟩

/-- A new row, or one in the place of one that is gone. -/
theorem Rel.setRow (h : Rel X σ a w G) (r : Nat) (rows' : List (Option (Row U))) (R : Row U) (v : Value) (hr : G.rs r = none) (h1 : rows'[r]? = some (some R)) (h2 : ∀ q, q ≠ r → ∀ S, rows'[q]? = some (some S) ↔ σ.rows[q]? = some (some S))
    (ho : OwnRep w G.fz X.w.heap.size R.T R.l v) (hb : ∀ g, v.ownBlock = some g → ¬ G.fz g ∧ (∀ b q, G.bs b = some q → q.1 ≠ g) ∧ ∀ q u, G.rs q = some u → u.ownBlock ≠ some g) :
    Rel X { σ with rows := rows' } a w ⟨G.fz, G.bs, fun q => if q = r then some v else G.rs q⟩ := by
  have hle : G.le w w ⟨G.fz, G.bs, fun q => if q = r then some v else G.rs q⟩ := ⟨fun _ h => h, fun _ _ h => h, fun q u hq => by simp only; rw [if_neg (fun e => by rw [e, hr] at hq; cases hq)]; exact hq, fun _ _ => rfl⟩
  exact {
    n := h.n
    slot := fun i d hd => by obtain ⟨u, k1, k2⟩ := h.slot i d hd; exact ⟨u, k1, k2.mono hle⟩
    dfr := h.dfr
    box := fun b cs hb hne => by
      obtain ⟨g, p, k1, k2⟩ := h.box b cs hb hne
      exact ⟨g, p, k1, k2.move hle rfl⟩
    bdom := h.bdom
    row := fun q S hq => by
      by_cases e : q = r
      · subst e
        rw [h1] at hq
        cases hq
        exact ⟨v, by simp, ho⟩
      · obtain ⟨u, k1, k2⟩ := h.row q S ((h2 q e S).1 hq)
        exact ⟨u, by simp only; rw [if_neg e]; exact k1, k2⟩
    rdom := fun q u hq => by
      by_cases e : q = r
      · subst e; exact ⟨R, h1⟩
      · simp only [if_neg e] at hq
        obtain ⟨S, hS⟩ := h.rdom q u hq
        exact ⟨S, (h2 q e S).2 hS⟩
    fzlt := h.fzlt
    bfz := h.bfz
    bb := h.bb
    rfz := fun q u g hq hg => by
      by_cases e : q = r
      · subst e
        simp only [if_true, Option.some.injEq] at hq
        subst hq
        exact ⟨(hb g hg).1, (hb g hg).2.1⟩
      · simp only [if_neg e] at hq
        exact h.rfz q u g hq hg
    rr := fun q q' u u' g hq hq' hu hu' => by
      by_cases e : q = r
      · by_cases e' : q' = r
        · rw [e, e']
        · simp only [e, if_true, Option.some.injEq] at hq
          simp only [if_neg e'] at hq'
          subst hq
          exact absurd hu' ((hb g hu).2.2 q' u' hq')
      · by_cases e' : q' = r
        · simp only [e', if_true, Option.some.injEq] at hq'
          simp only [if_neg e] at hq
          subst hq'
          exact absurd hu ((hb g hu').2.2 q u hq)
        · simp only [if_neg e] at hq
          simp only [if_neg e'] at hq'
          exact h.rr q q' u u' g hq hq' hu hu'
    fr := { h.fr with }
    lent := h.lent
    lk := h.lk
    lock := h.lock
    lockne := h.lockne }
theorem Rel.rs_none (h : Rel X σ a w G) : G.rs σ.rows.length = none := by
  cases hq : G.rs σ.rows.length with
  | none => rfl
  | some v =>
    obtain ⟨R, hR⟩ := h.rdom _ _ hq
    have := (List.getElem?_eq_some_iff.1 hR).1
    omega
theorem Rel.newRow (h : Rel X σ a w G) (T : Nat) (l : List (U.Ty T)) (v : Value) (ho : OwnRep w G.fz X.w.heap.size T l v) (hb : ∀ g, v.ownBlock = some g → ¬ G.fz g ∧ (∀ b q, G.bs b = some q → q.1 ≠ g) ∧ ∀ q u, G.rs q = some u → u.ownBlock ≠ some g) :
    ∃ G', Rel X (σ.newRow T l) a w G' ∧ G'.fz = G.fz ∧ G'.bs = G.bs ∧ G'.rs σ.rows.length = some v ∧ G.le w w G' := by
  refine ⟨_, h.setRow σ.rows.length _ ⟨T, l⟩ v h.rs_none (by simp) (fun q hq S => ?_) ho hb, rfl, rfl, by simp, ?_⟩
  · rw [List.getElem?_append]
    split
    · exact Iff.rfl
    · rename_i hlt
      have h1 : q - σ.rows.length ≠ 0 := by omega
      constructor
      · intro hh
        rw [List.getElem?_singleton, if_neg h1] at hh
        cases hh
      · intro hh
        have := (List.getElem?_eq_some_iff.1 hh).1
        omega
  · exact ⟨fun _ h => h, fun _ _ h => h, fun q u hq => by simp only; rw [if_neg (fun e => by rw [e, h.rs_none] at hq; cases hq)]; exact hq, fun _ _ => rfl⟩
/-- A place for a variable to come. -/
theorem Rel.holes (h : Rel X σ a w G) (n : Nat) : Rel X { σ with boxes := σ.boxes ++ List.replicate n [] } a w G := by
  have hold : ∀ (b : Nat) cs, cs ≠ [] → ((σ.boxes ++ List.replicate n [])[b]? = some cs ↔ σ.boxes[b]? = some cs) := by
    intro b cs hne
    rw [List.getElem?_append]
    split
    · exact Iff.rfl
    · rename_i hlt
      constructor
      · intro e
        rw [List.getElem?_replicate] at e
        split at e
        · cases e; exact absurd rfl hne
        · cases e
      · intro e
        have := (List.getElem?_eq_some_iff.1 e).1
        omega
  exact { h with
    box := fun b cs hb hne => h.box b cs ((hold b cs hne).1 hb) hne
    bdom := fun b q hq => by obtain ⟨cs, h1, h2⟩ := h.bdom b q hq; exact ⟨cs, (hold b cs h2).2 h1, h2⟩
    lent := fun b q hq cs hcs => by
      obtain ⟨ds, h1, h2⟩ := h.bdom b q (h.fr.bs b q hq)
      have := (hold b ds h2).2 h1
      simp only at hcs
      rw [this] at hcs
      cases hcs
      exact h.lent b q hq _ h1
    lock := fun b hb => by
      obtain ⟨h1, h2⟩ := h.lock b hb
      refine ⟨?_, h2⟩
      simp only
      rw [List.getElem?_append_left (List.getElem?_eq_some_iff.1 h1).1]
      exact h1 }
/-- A new variable in memory, at a place that was kept for it. -/
theorem Rel.fillBox (h : Rel X σ a w G) (T : Nat) (b0 : Nat) (cs : List U.C) (vs : Array Value) (h0 : σ.boxes[b0]? = some []) (hne : cs ≠ []) (hr : RepL w G cs vs.toList) :
    ∃ G', Rel X { σ with boxes := σ.boxes.set b0 cs } a (w.alloc (.cells vs T)) G' ∧ G'.fz = G.fz ∧ G'.rs = G.rs ∧ G'.bs b0 = some (w.heap.size, 0) ∧ G.le w (w.alloc (.cells vs T)) G' := by
  have hk : w.grownBy (w.alloc (.cells vs T)) none := World.grownBy_alloc w _ none
  have h' := h.world hk
  have hnone : G.bs b0 = none := by
    cases hq : G.bs b0 with
    | none => rfl
    | some q =>
      obtain ⟨ds, h1, h2⟩ := h.bdom _ _ hq
      rw [h0] at h1; cases h1; exact absurd rfl h2
  have hlt0 : b0 < σ.boxes.length := (List.getElem?_eq_some_iff.1 h0).1
  have hle : G.le w (w.alloc (.cells vs T)) ⟨G.fz, fun b => if b = b0 then some (w.heap.size, 0) else G.bs b, G.rs⟩ :=
    ⟨fun _ h => h, fun b q hq => by simp only; rw [if_neg (fun e => by rw [e, hnone] at hq; cases hq)]; exact hq, fun _ _ h => h, fun g hg => hk.block g (h.fzlt g hg) (by simp)⟩
  have hle' : G.le (w.alloc (.cells vs T)) (w.alloc (.cells vs T)) ⟨G.fz, fun b => if b = b0 then some (w.heap.size, 0) else G.bs b, G.rs⟩ :=
    ⟨hle.fz, hle.bs, hle.rs, fun _ _ => rfl⟩
  refine ⟨⟨G.fz, fun b => if b = b0 then some (w.heap.size, 0) else G.bs b, G.rs⟩, ?_, rfl, rfl, by simp, hle⟩
  exact {
    n := h'.n
    slot := fun i d hd => by obtain ⟨u, k1, k2⟩ := h'.slot i d hd; exact ⟨u, k1, k2.mono hle'⟩
    dfr := h'.dfr
    box := fun b ds hb hds => by
      simp only [List.getElem?_set] at hb
      by_cases e : b0 = b
      · subst e
        simp only [if_true, if_pos hlt0, Option.some.injEq] at hb
        subst hb
        refine ⟨w.heap.size, 0, by simp, fun j x hx => ?_⟩
        obtain ⟨u, k1, k2, k3⟩ := hr.2 j x hx
        refine ⟨u, ?_, ?_, k2.mono hle, k3⟩
        · rw [Nat.zero_add, World.cell?_alloc_new]; simpa using k1
        · rw [World.frozen?_alloc_new]
      · rw [if_neg e] at hb
        obtain ⟨g, p, k1, k2⟩ := h'.box b ds hb hds
        exact ⟨g, p, hle.bs _ _ k1, k2.move hle' rfl⟩
    bdom := fun b q hq => by
      simp only [List.getElem?_set]
      by_cases e : b0 = b
      · subst e
        exact ⟨cs, by simp [hlt0], hne⟩
      · have e' : ¬ b = b0 := fun z => e z.symm
        simp only [if_neg e'] at hq
        simp only [if_neg e]
        exact h.bdom b q hq
    row := fun r R hR => by
      obtain ⟨v, k1, k2⟩ := h'.row r R hR
      exact ⟨v, k1, k2⟩
    rdom := h'.rdom
    fzlt := h'.fzlt
    bfz := fun b g p hq => by
      by_cases e : b = b0
      · simp only [e, if_true, Option.some.injEq, Prod.mk.injEq] at hq
        obtain ⟨rfl, rfl⟩ := hq
        exact ⟨fun hg => by have := h.fzlt _ hg; omega, by simp⟩
      · simp only [if_neg e] at hq
        exact h'.bfz b g p hq
    bb := fun b b' g p p' hq hq' => by
      by_cases e : b = b0
      · by_cases e' : b' = b0
        · rw [e, e']
        · simp only [e, if_true, Option.some.injEq, Prod.mk.injEq] at hq
          simp only [if_neg e'] at hq'
          obtain ⟨rfl, rfl⟩ := hq
          have := (h.bfz b' _ _ hq').2
          omega
      · by_cases e' : b' = b0
        · simp only [e', if_true, Option.some.injEq, Prod.mk.injEq] at hq'
          simp only [if_neg e] at hq
          obtain ⟨rfl, rfl⟩ := hq'
          have := (h.bfz b _ _ hq).2
          omega
        · simp only [if_neg e] at hq
          simp only [if_neg e'] at hq'
          exact h.bb b b' g p p' hq hq'
    rfz := fun r v g hv hg => by
      refine ⟨(h.rfz r v g hv hg).1, fun b q hq => ?_⟩
      by_cases e : b = b0
      · simp only [e, if_true, Option.some.injEq] at hq
        subst hq
        obtain ⟨R, hR⟩ := h.rdom r v hv
        obtain ⟨v', k1, k2⟩ := h.row r R hR
        rw [hv] at k1; cases k1
        have := (k2.lt g hg).2
        simp only
        omega
      · simp only [if_neg e] at hq
        exact (h.rfz r v g hv hg).2 b q hq
    rr := h'.rr
    fr := { h'.fr with
      bs := fun b q hq => hle.bs b q (h.fr.bs b q hq)
      bsnew := fun b q hq => by
        by_cases e : b = b0
        · simp only [e, if_true, Option.some.injEq] at hq
          subst hq
          exact .inr h.fr.size
        · simp only [if_neg e] at hq
          exact h.fr.bsnew b q hq }
    lent := fun b q hq ds hds => by
      by_cases e : b0 = b
      · subst e
        rw [h.fr.bs _ q hq] at hnone
        cases hnone
      · simp only [List.getElem?_set, if_neg e] at hds
        exact h.lent b q hq ds hds
    lk := h.lk
    lock := fun b hb => by
      obtain ⟨h1, h2⟩ := h.lock b hb
      refine ⟨?_, h2⟩
      by_cases e : b0 = b
      · subst e
        rw [h0] at h1
        have h3 : X.cs b0 = [] := (Option.some.inj h1).symm
        exfalso
        -- a locked variable has cells
        exact h.lockne b0 hb h3
      · simp only [List.getElem?_set, if_neg e]
        exact h1
    lockne := h.lockne }
/-- A new variable in memory. -/
theorem Rel.newBox (h : Rel X σ a w G) (T : Nat) (cs : List U.C) (vs : Array Value) (hne : cs ≠ []) (hr : RepL w G cs vs.toList) :
    ∃ G', Rel X (σ.newBox cs) a (w.alloc (.cells vs T)) G' ∧ G'.fz = G.fz ∧ G'.rs = G.rs ∧ G'.bs σ.boxes.length = some (w.heap.size, 0) ∧ G.le w (w.alloc (.cells vs T)) G' := by
  have h1 := h.holes 1
  obtain ⟨G', k1, k2⟩ := h1.fillBox T σ.boxes.length cs vs (by simp) hne hr
  refine ⟨G', ?_, k2⟩
  have : ({ σ with boxes := (σ.boxes ++ List.replicate 1 []).set σ.boxes.length cs } : St U) = σ.newBox cs := by
    simp [St.newBox]
  rw [← this]
  exact k1
/-! ### what is only read from now on -/
def PL (w : World) (fz : Nat → Prop) (cs : List U.C) (vs : List Value) : Prop := vs.length = cs.length ∧ ∀ (j : Nat) x, cs[j]? = some x → plain x = true → ∃ u, vs[j]? = some u ∧ u.oneCell' = true ∧ RepP w fz x u
def FL (w : World) (G : Gh) (cs : List U.C) (vs : List Value) : Prop :=
  vs.length = cs.length ∧ ∀ (j : Nat) x, cs[j]? = some x → ∃ u, vs[j]? = some u ∧ u.oneCell' = true ∧ (plain x = true → RepP w G.fz x u) ∧ ∀ T r v, x = .own T r → G.rs r = some v → u = v
structure Gh.ge (G G' : Gh) : Prop where
  fz : ∀ g, G.fz g → G'.fz g
  bs : G'.bs = G.bs
  rs : ∀ r v, G'.rs r = some v → G.rs r = some v
theorem Gh.ge.refl (G : Gh) : G.ge G := ⟨fun _ h => h, rfl, fun _ _ h => h⟩
theorem Gh.ge.trans {G G' G'' : Gh} (h : G.ge G') (k : G'.ge G'') : G.ge G'' := ⟨fun g hg => k.fz g (h.fz g hg), k.bs.trans h.bs, fun r v hr => h.rs r v (k.rs r v hr)⟩
theorem RepL.fl {cs : List U.C} {vs : List Value} (h : RepL w G cs vs) : FL w G cs vs :=
  ⟨h.1, fun j x hx => by
    obtain ⟨u, h1, h2, h3⟩ := h.2 j x hx
    refine ⟨u, h1, h3, fun hp => h2.toP hp, fun T r v e hv => ?_⟩
    subst e
    have := h2.1
    rw [hv] at this
    exact (Option.some.inj this).symm⟩
theorem FL.ge {G' : Gh} (hg : G.ge G') {cs : List U.C} {vs : List Value} (h : FL w G cs vs) : FL w G' cs vs :=
  ⟨h.1, fun j x hx => by
    obtain ⟨u, h1, h2, h3, h4⟩ := h.2 j x hx
    exact ⟨u, h1, h2, fun hp => (h3 hp).mono hg.fz (fun _ _ => rfl), fun T r v e hv => h4 T r v e (hg.rs r v hv)⟩⟩
theorem FL.tail {x : U.C} {cs : List U.C} {vs : List Value} (h : FL w G (x :: cs) vs) : ∃ u us, vs = u :: us ∧ FL w G cs us := by
  cases vs with
  | nil => have := h.1; simp at this
  | cons u us => exact ⟨u, us, rfl, by simpa using h.1, fun j y hy => h.2 (j + 1) y hy⟩
/-- What freezing leaves as it was. -/
structure Same (σ σ' : St U) : Prop where
  ns : σ'.slots.length = σ.slots.length
  nb : σ'.boxes.length = σ.boxes.length
  nr : σ'.rows.length = σ.rows.length
  bl : ∀ b, (σ'.boxes.getD b []).length = (σ.boxes.getD b []).length
theorem Same.refl (σ : St U) : Same σ σ := ⟨rfl, rfl, rfl, fun _ => rfl⟩
theorem Same.trans {σ σ' σ'' : St U} (h : Same σ σ') (k : Same σ' σ'') : Same σ σ'' := ⟨k.ns.trans h.ns, k.nb.trans h.nb, k.nr.trans h.nr, fun b => (k.bl b).trans (h.bl b)⟩
theorem freeze_same {σ σ' : St U} {r : Nat} (h : σ.freeze r = some σ') : Same σ σ' := by
  unfold St.freeze at h
  split at h
  · cases h
    refine ⟨by simp [St.mapC], by simp [St.mapC], by simp [St.mapC], fun b => ?_⟩
    simp only [St.mapC, List.getD_eq_getElem?_getD, List.getElem?_map]
    cases σ.boxes[b]? <;> simp
  · cases h
theorem Rel.freeze' (h : Rel X σ a w G) {r : Nat} {σ' : St U} (hf : σ.freeze r = some σ') :
    ∃ G' R v, Rel X σ' a w G' ∧ G.ge G' ∧ σ.rows.getD r none = some R ∧ G.rs r = some v ∧ G'.rs r = none ∧ σ'.rows = σ.rows.set r none ∧ RepP w G'.fz (.sl R.T R.l : U.C) v ∧ (∀ q u, q ≠ r → G.rs q = some u → G'.rs q = some u) ∧ ∀ x u, RepC w G x u → RepC w G' (frzC r R.T R.l x) u := by
  unfold St.freeze at hf
  split at hf
  · rename_i R hR
    cases hf
    obtain ⟨G', v, h1, h2, h3, h4, h5, h6, h7, h8⟩ := h.freeze hR
    refine ⟨G', R, v, h1, ⟨h4, h5, fun q u hq => (h6 q u hq).2⟩, hR, h3, ?_, rfl, h8, h7, h2⟩
    cases hq : G'.rs r with
    | none => rfl
    | some u => exact absurd rfl (h6 r u hq).1
  · cases hf
theorem frz_ok {cs : List U.C} : ∀ {σ : St U} {G : Gh} {vs : List Value} {cs' : List U.C} {σ' : St U}, Rel X σ a w G → FL w G cs vs → σ.frz cs = some (cs', σ') →
    ∃ G', Rel X σ' a w G' ∧ G.ge G' ∧ Same σ σ' ∧ PL w G'.fz cs' vs ∧ cs'.length = cs.length := by
  induction cs with
  | nil =>
    intro σ G vs cs' σ' h hf he
    simp only [St.frz, Option.some.injEq, Prod.mk.injEq] at he
    obtain ⟨rfl, rfl⟩ := he
    exact ⟨G, h, .refl G, .refl σ, ⟨hf.1, fun j x hx => by simp at hx⟩, rfl⟩
  | cons x cs ih =>
    intro σ G vs cs' σ' h hf he
    obtain ⟨u, us, rfl, ht⟩ := hf.tail
    have h0 := hf.2 0 x rfl
    simp only [List.getElem?_cons_zero, Option.some.injEq] at h0
    obtain ⟨u0, rfl, ho, hp, hw⟩ := h0
    have other : ∀ (y : U.C), y = x → (match σ.frz cs with | some (cs', σ2) => some (y :: cs', σ2) | none => none) = some (cs', σ') →
        ∃ G', Rel X σ' a w G' ∧ G.ge G' ∧ Same σ σ' ∧ PL w G'.fz cs' (u :: us) ∧ cs'.length = (x :: cs).length := by
      intro y hy he
      split at he
      · rename_i c2 σ2 hc
        simp only [Option.some.injEq, Prod.mk.injEq] at he
        obtain ⟨rfl, rfl⟩ := he
        obtain ⟨G', k1, k2, k3, k4, k5⟩ := ih h ht hc
        refine ⟨G', k1, k2, k3, ⟨by simp [k4.1, k5], fun j z hz hpz => ?_⟩, by simp [k5]⟩
        cases j with
        | zero =>
          simp only [List.getElem?_cons_zero, Option.some.injEq] at hz
          subst hz; subst hy
          exact ⟨u, rfl, ho, (hp hpz).mono k2.fz (fun _ _ => rfl)⟩
        | succ j => exact k4.2 j z hz hpz
      · cases he
    cases x with
    | own T r =>
      simp only [St.frz] at he
      split at he
      · rename_i R hR
        split at he
        · rename_i σ1 hf1
          split at he
          · rename_i c2 σ2 hc
            simp only [Option.some.injEq, Prod.mk.injEq] at he
            obtain ⟨rfl, rfl⟩ := he
            obtain ⟨G1, R', v, m1, m2, m3, m4, m5, m6, m7, m8, m9⟩ := h.freeze' hf1
            rw [hR] at m3; cases m3
            obtain ⟨G', k1, k2, k3, k4, k5⟩ := ih m1 (ht.ge m2) hc
            have hv := hw T r v rfl m4
            subst hv
            refine ⟨G', k1, m2.trans k2, (freeze_same hf1).trans k3, ⟨by simp [k4.1, k5], fun j z hz hpz => ?_⟩, by simp [k5]⟩
            cases j with
            | zero =>
              simp only [List.getElem?_cons_zero, Option.some.injEq] at hz
              subst hz
              exact ⟨u, rfl, ho, m7.mono k2.fz (fun _ _ => rfl)⟩
            | succ j => exact k4.2 j z hz hpz
          · cases he
        · cases he
      · cases he
    | _ => exact other _ rfl he
theorem list_ok (h : Rel X σ a w G) {T : Nat} {x : U.D} {v : Value} (hr : RepD w G x v) {l : List (U.Ty T)} {σ' : St U} (he : σ.list T x = some (l, σ')) :
    ∃ G', Rel X σ' a w G' ∧ G.ge G' ∧ Same σ σ' ∧ RepP w G'.fz (.sl T l : U.C) v ∧ (∀ q u, (∀ T', x ≠ .v (.c (.own T' q))) → G.rs q = some u → G'.rs q = some u) ∧ (∀ q, (∀ T', x ≠ .v (.c (.own T' q))) → σ'.rows.getD q none = σ.rows.getD q none) := by
  unfold St.list at he
  split at he
  · rename_i T' r
    split at he
    · rename_i l0 σ1 hl hf
      simp only [Option.some.injEq, Prod.mk.injEq] at he
      obtain ⟨rfl, rfl⟩ := he
      obtain ⟨G', R, u, m1, m2, m3, m4, m5, m6, m7, m8, m9⟩ := h.freeze' hf
      have hu : G.rs r = some v := hr.1.1
      rw [hu] at m4; cases m4
      unfold rowAt at hl
      rw [m3] at hl
      simp only at hl
      split at hl
      · rename_i e
        cases hl
        subst e
        refine ⟨G', m1, m2, freeze_same hf, m7, fun q z hq hz => m8 q z (fun e => hq T' (by rw [e])) hz, fun q hq => ?_⟩
        rw [m6]
        simp only [List.getD_eq_getElem?_getD, List.getElem?_set]
        rw [if_neg (fun e => hq T' (by rw [e]))]
      · cases hl
    · cases he
  · rename_i y hy
    split at he
    · rename_i l0 hl
      simp only [Option.some.injEq, Prod.mk.injEq] at he
      obtain ⟨rfl, rfl⟩ := he
      refine ⟨G, h, .refl G, .refl σ, ?_, fun q u _ hu => hu, fun _ _ => rfl⟩
      unfold sliceT at hl
      split at hl
      · split at hl
        · rename_i e
          cases hl
          subst e
          exact hr.1
        · cases hl
      · cases hl
        have hn : RepP w G.fz (.nils : U.C) v := hr.1
        cases hn
        exact .sl T [] none 0 (fun _ _ => undef) (Nat.le_refl _) (fun h => absurd h (by simp)) (fun i j x hi => absurd hi (by simp))
      · cases hl
    · cases he
  · cases he
end
end Go.Proofs.Ytogfofcocidmkaa.Ev
