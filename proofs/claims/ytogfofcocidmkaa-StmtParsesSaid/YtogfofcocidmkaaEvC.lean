/- EV (ours), part C: the relation between the evaluator's state and a running function; how each kind of step carries it on. -/
import Derived.Test.YtogfofcocidmkaaEvB
set_option linter.unusedVariables false
set_option linter.unusedSimpArgs false
namespace Go.Proofs.Ytogfofcocidmkaa.Ev
open Go.RowKit
section
variable {U : Uni}

/-- Where the function began: the world, what was known of it, how many cells of each variable were lent. -/
structure Beg (U : Uni) where
  w : World
  G : Gh
  ln : Nat → Nat
  lk : Nat
  cs : Nat → List U.C
/-- What has changed since: nothing that was there, but for the cells that were lent. -/
structure Fr (X : Beg U) (w : World) (G : Gh) : Prop where
  blt : ∀ b q, X.G.bs b = some q → q.1 < X.w.heap.size
  os : w.os = X.w.os
  tape : w.tape = X.w.tape
  output : w.output = X.w.output
  size : X.w.heap.size ≤ w.heap.size
  blk : ∀ g, g < X.w.heap.size → (∀ b q, X.G.bs b = some q → q.1 ≠ g) → w.heap[g]? = X.w.heap[g]?
  out : ∀ b g p, X.G.bs b = some (g, p) → ∀ j, (j < p ∨ p + X.ln b ≤ j) → w.cell? ⟨g, j, none⟩ = X.w.cell? ⟨g, j, none⟩ ∧ w.frozen? ⟨g, j, none⟩ = X.w.frozen? ⟨g, j, none⟩
  bs : ∀ b q, X.G.bs b = some q → G.bs b = some q
  fz : ∀ g, X.G.fz g → G.fz g
  fznew : ∀ g, G.fz g → X.G.fz g ∨ X.w.heap.size ≤ g
  bsnew : ∀ b q, G.bs b = some q → X.G.bs b = some q ∨ X.w.heap.size ≤ q.1
structure Rel (X : Beg U) (σ : St U) (a : Act) (w : World) (G : Gh) : Prop where
  n : a.tmps.size = σ.slots.length
  slot : ∀ (i : Nat) d, σ.slots[i]? = some d → ∃ v, a.tmps[i]? = some v ∧ RepD w G d v
  dfr : a.defers = []
  box : ∀ (b : Nat) cs, σ.boxes[b]? = some cs → cs ≠ [] → ∃ g p, G.bs b = some (g, p) ∧ BoxAt w G g p cs
  bdom : ∀ b q, G.bs b = some q → ∃ cs, σ.boxes[b]? = some cs ∧ cs ≠ []
  row : ∀ (r : Nat) R, σ.rows[r]? = some (some R) → ∃ v, G.rs r = some v ∧ OwnRep w G.fz X.w.heap.size R.T R.l v
  rdom : ∀ r v, G.rs r = some v → ∃ R, σ.rows[r]? = some (some R)
  fzlt : ∀ g, G.fz g → g < w.heap.size
  bfz : ∀ b g p, G.bs b = some (g, p) → ¬ G.fz g ∧ g < w.heap.size
  bb : ∀ b b' g p p', G.bs b = some (g, p) → G.bs b' = some (g, p') → b = b'
  rfz : ∀ r v g, G.rs r = some v → v.ownBlock = some g → ¬ G.fz g ∧ ∀ b q, G.bs b = some q → q.1 ≠ g
  rr : ∀ r r' v v' g, G.rs r = some v → G.rs r' = some v' → v.ownBlock = some g → v'.ownBlock = some g → r = r'
  fr : Fr X w G
  lent : ∀ b q, X.G.bs b = some q → ∀ cs, σ.boxes[b]? = some cs → cs.length = X.ln b
  lk : σ.lk = X.lk
  lock : ∀ b, b < X.lk → σ.boxes[b]? = some (X.cs b) ∧ (X.cs b).all plain = true
  lockne : ∀ b, b < X.lk → X.cs b ≠ []

theorem OwnRep.lt {w : World} {fz : Nat → Prop} {B T : Nat} {l : List (U.Ty T)} {v : Value} (h : OwnRep w fz B T l v) : ∀ g, v.ownBlock = some g → B ≤ g ∧ g < w.heap.size := by
  obtain ⟨xs, ho, _⟩ := h
  exact ho.lt
theorem OwnRep.move {w w' : World} {fz fz' : Nat → Prop} {B T : Nat} {l : List (U.Ty T)} {v : Value} (h : OwnRep w fz B T l v) (hz : ∀ g, fz g → fz' g) (hw : ∀ g, fz g → w'.heap[g]? = w.heap[g]?)
    (hv : ∀ g, v.ownBlock = some g → w'.heap[g]? = w.heap[g]?) : OwnRep w' fz' B T l v := by
  obtain ⟨xs, ho, hr, h1⟩ := h
  refine ⟨xs, ?_, fun i j x hi hx => ?_, h1⟩
  · refine ⟨ho.1, ?_⟩
    rcases ho.2 with hn | ⟨g, cap, cur, rfl, hb, hg, rest⟩
    · exact .inl hn
    · exact .inr ⟨g, cap, cur, rfl, hb, (hv g rfl).trans hg, rest⟩
  · obtain ⟨u, hu, hp⟩ := hr i j x hi hx
    exact ⟨u, hu, hp.mono hz hw⟩
theorem frozen_same {w w' : World} {a : Addr} (h : w'.heap[a.block]? = w.heap[a.block]?) : w'.frozen? a = w.frozen? a := World.frozen?_of_block h
theorem BoxAt.move {w w' : World} {G G' : Gh} (hG : G.le w w' G') {g p : Nat} {cs : List U.C} (h : BoxAt w G g p cs) (hg : w'.heap[g]? = w.heap[g]?) : BoxAt w' G' g p cs := by
  intro j x hx
  obtain ⟨u, h1, h2, h3, h4⟩ := h j x hx
  exact ⟨u, (cell_same (by exact hg)).trans h1, (frozen_same (by exact hg)).trans h2, h3.mono hG, h4⟩


/-- New blocks, or a draw. -/
theorem Fr.world {X : Beg U} {w w' : World} {G : Gh} (h : Fr X w G) (hk : w.grownBy w' none) : Fr X w' G where
  blt := h.blt
  os := hk.os.trans h.os
  tape := hk.tape.trans h.tape
  output := hk.output.trans h.output
  size := Nat.le_trans h.size hk.size
  blk := fun g hg hb => (hk.block g (Nat.lt_of_lt_of_le hg h.size) (by simp)).trans (h.blk g hg hb)
  out := fun b g p hq j hj => by
    obtain ⟨h1, h2⟩ := h.out b g p hq j hj
    have hg : g < w.heap.size := Nat.lt_of_lt_of_le (h.blt b _ hq) h.size
    exact ⟨(cell_same (hk.block g hg (by simp))).trans h1, (frozen_same (hk.block g hg (by simp))).trans h2⟩
  bs := h.bs
  fz := h.fz
  fznew := h.fznew
  bsnew := h.bsnew
theorem Rel.le_world {X : Beg U} {σ : St U} {a : Act} {w w' : World} {G : Gh} (h : Rel X σ a w G) (hk : w.grownBy w' none) : G.le w w' G :=
  ⟨fun _ h => h, fun _ _ h => h, fun _ _ h => h, fun g hg => hk.block g (h.fzlt g hg) (by simp)⟩
theorem Rel.world {X : Beg U} {σ : St U} {a : Act} {w w' : World} {G : Gh} (h : Rel X σ a w G) (hk : w.grownBy w' none) : Rel X σ a w' G where
  n := h.n
  slot := fun i d hd => by obtain ⟨v, h1, h2⟩ := h.slot i d hd; exact ⟨v, h1, h2.mono (h.le_world hk)⟩
  dfr := h.dfr
  box := fun b cs hb hne => by
    obtain ⟨g, p, h1, h2⟩ := h.box b cs hb hne
    exact ⟨g, p, h1, h2.move (h.le_world hk) (hk.block g (h.bfz b g p h1).2 (by simp))⟩
  bdom := h.bdom
  row := fun r R hr => by
    obtain ⟨v, h1, h2⟩ := h.row r R hr
    exact ⟨v, h1, h2.move (fun _ h => h) (fun g hg => hk.block g (h.fzlt g hg) (by simp)) (fun g hg => hk.block g (h2.lt g hg).2 (by simp))⟩
  rdom := h.rdom
  fzlt := fun g hg => Nat.lt_of_lt_of_le (h.fzlt g hg) hk.size
  bfz := fun b g p hq => ⟨(h.bfz b g p hq).1, Nat.lt_of_lt_of_le (h.bfz b g p hq).2 hk.size⟩
  bb := h.bb
  rfz := h.rfz
  rr := h.rr
  fr := h.fr.world hk
  lent := h.lent
  lk := h.lk
  lock := h.lock
  lockne := h.lockne

theorem List.map_id_of_all {cs : List U.C} (h : cs.all plain = true) {f : U.C → U.C} (hp : ∀ x, plain x = true → f x = x) : cs.map f = cs := by
  induction cs with
  | nil => rfl
  | cons x cs ih =>
    simp only [List.all_cons, Bool.and_eq_true] at h
    simp [hp x h.1, ih h.2]
/-- All cells told otherwise, each rightly; the rest as it was. -/
theorem RepV.map {w w' : World} {G G' : Gh} {f : U.C → U.C} (hf : ∀ x v, RepC w G x v → RepC w' G' (f x) v) (hu : f .undef = .undef) {x : U.V} {v : Value} (h : RepV w G x v) : RepV w' G' (mapV f x) v := by
  cases x with
  | c x => exact ⟨hf x v h.1, fun hn => h.2 (fun he => hn (by cases x <;> simp_all [Ev.vl, mapV]))⟩
  | agg cs =>
    obtain ⟨vs, rfl, hn, hr⟩ := h
    refine ⟨vs, rfl, by simpa using hn, fun j x hx => ?_⟩
    rw [List.getElem?_map] at hx
    cases hj : cs[j]? with
    | none => rw [hj] at hx; cases hx
    | some y =>
      rw [hj] at hx
      obtain ⟨u, h1, h2, h3⟩ := hr j y hj
      simp only [Option.map_some, Option.some.injEq] at hx
      subst hx
      exact ⟨u, h1, hf _ _ h2, h3⟩
theorem RepD.map {w w' : World} {G G' : Gh} {f : U.C → U.C} (hf : ∀ x v, RepC w G x v → RepC w' G' (f x) v) (hu : f .undef = .undef) {x : U.D} {v : Value} (h : RepD w G x v) : RepD w' G' (mapD f x) v := by
  cases x with
  | v x => exact RepV.map hf hu h
  | tup l =>
    obtain ⟨vs, rfl, hn, hr⟩ := h
    refine ⟨vs, rfl, by simpa using hn, fun j x hx => ?_⟩
    rw [List.getElem?_map] at hx
    cases hj : l[j]? with
    | none => rw [hj] at hx; cases hx
    | some y =>
      rw [hj] at hx
      obtain ⟨u, h1, h2⟩ := hr j y hj
      simp only [Option.map_some, Option.some.injEq] at hx
      subst hx
      exact ⟨u, h1, h2.map hf hu⟩
theorem RepL.map {w w' : World} {G G' : Gh} {f : U.C → U.C} (hf : ∀ x v, RepC w G x v → RepC w' G' (f x) v) {cs : List U.C} {vs : List Value} (h : RepL w G cs vs) : RepL w' G' (cs.map f) vs := by
  refine ⟨by simpa using h.1, fun j x hx => ?_⟩
  rw [List.getElem?_map] at hx
  cases hj : cs[j]? with
  | none => rw [hj] at hx; cases hx
  | some y =>
    rw [hj] at hx
    obtain ⟨u, h1, h2, h3⟩ := h.2 j y hj
    simp only [Option.map_some, Option.some.injEq] at hx
    subst hx
    exact ⟨u, h1, hf _ _ h2, h3⟩
/-- The cells of row r are forgotten, or its block is one of those that nobody writes: G' has no row r. -/
theorem Rel.mapRow {X : Beg U} {σ : St U} {a : Act} {w : World} {G : Gh} (h : Rel X σ a w G) (r : Nat) (fz' : Nat → Prop) (f : U.C → U.C) (hu : f .undef = .undef) (hp : ∀ x, plain x = true → f x = x)
    (hz : ∀ g, G.fz g → fz' g) (hz' : ∀ g, fz' g → G.fz g ∨ ∃ v, G.rs r = some v ∧ v.ownBlock = some g)
    (hf : ∀ x v, RepC w G x v → RepC w ⟨fz', G.bs, fun q => if q = r then none else G.rs q⟩ (f x) v) :
    Rel X { σ.mapC f with rows := σ.rows.set r none } a w ⟨fz', G.bs, fun q => if q = r then none else G.rs q⟩ where
  n := by simpa [St.mapC] using h.n
  slot := fun i d hd => by
    simp only [St.mapC, List.getElem?_map] at hd
    cases hi : σ.slots[i]? with
    | none => rw [hi] at hd; cases hd
    | some d0 =>
      rw [hi] at hd
      simp only [Option.map_some, Option.some.injEq] at hd
      subst hd
      obtain ⟨v, h1, h2⟩ := h.slot i d0 hi
      exact ⟨v, h1, h2.map hf hu⟩
  dfr := h.dfr
  box := fun b cs hb hne => by
    simp only [St.mapC, List.getElem?_map] at hb
    cases hi : σ.boxes[b]? with
    | none => rw [hi] at hb; cases hb
    | some c0 =>
      rw [hi] at hb
      simp only [Option.map_some, Option.some.injEq] at hb
      subst hb
      obtain ⟨g, p, h1, h2⟩ := h.box b c0 hi (fun e => hne (by simp [e]))
      refine ⟨g, p, h1, fun j x hx => ?_⟩
      rw [List.getElem?_map] at hx
      cases hj : c0[j]? with
      | none => rw [hj] at hx; cases hx
      | some y =>
        rw [hj] at hx
        simp only [Option.map_some, Option.some.injEq] at hx
        subst hx
        obtain ⟨u, k1, k2, k3, k4⟩ := h2 j y hj
        exact ⟨u, k1, k2, hf _ _ k3, k4⟩
  bdom := fun b q hq => by
    obtain ⟨cs, h1, h2⟩ := h.bdom b q hq
    exact ⟨cs.map f, by simp [St.mapC, h1], by simpa using h2⟩
  row := fun q R hq => by
    simp only [List.getElem?_set] at hq
    by_cases e : r = q
    · subst e
      simp only [if_true] at hq
      split at hq <;> cases hq
    · rw [if_neg e] at hq
      obtain ⟨v, h1, h2⟩ := h.row q R hq
      exact ⟨v, by simp only; rw [if_neg (fun z => e z.symm)]; exact h1, h2.move hz (fun _ _ => rfl) (fun _ _ => rfl)⟩
  rdom := fun q v hq => by
    by_cases e : q = r
    · simp only [e, if_true] at hq; cases hq
    · simp only [if_neg e] at hq
      obtain ⟨R, hR⟩ := h.rdom q v hq
      exact ⟨R, by rw [List.getElem?_set, if_neg (fun z => e z.symm)]; exact hR⟩
  fzlt := fun g hg => by
    rcases hz' g hg with hg | ⟨v, h1, h2⟩
    · exact h.fzlt g hg
    · obtain ⟨R, hR⟩ := h.rdom r v h1
      obtain ⟨v', k1, k2⟩ := h.row r R hR
      rw [h1] at k1; cases k1
      exact (k2.lt g h2).2
  bfz := fun b g p hq => by
    refine ⟨fun hg => ?_, (h.bfz b g p hq).2⟩
    rcases hz' g hg with hg | ⟨v, h1, h2⟩
    · exact (h.bfz b g p hq).1 hg
    · exact (h.rfz r v g h1 h2).2 b _ hq rfl
  bb := h.bb
  rfz := fun q v g hq hv => by
    by_cases e : q = r
    · simp only [e, if_true] at hq; cases hq
    · simp only [if_neg e] at hq
      refine ⟨fun hg => ?_, (h.rfz q v g hq hv).2⟩
      rcases hz' g hg with hg | ⟨v', h1, h2⟩
      · exact (h.rfz q v g hq hv).1 hg
      · exact e (h.rr q r v v' g hq h1 hv h2)
  rr := fun q q' v v' g hq hq' hv hv' => by
    by_cases e : q = r
    · simp only [e, if_true] at hq; cases hq
    · by_cases e' : q' = r
      · simp only [e', if_true] at hq'; cases hq'
      · simp only [if_neg e] at hq; simp only [if_neg e'] at hq'
        exact h.rr q q' v v' g hq hq' hv hv'
  fr := { h.fr with
    fz := fun g hg => hz g (h.fr.fz g hg)
    fznew := fun g hg => by
      rcases hz' g hg with hg | ⟨v, h1, h2⟩
      · exact h.fr.fznew g hg
      · obtain ⟨R, hR⟩ := h.rdom r v h1
        obtain ⟨v', k1, k2⟩ := h.row r R hR
        rw [h1] at k1; cases k1
        exact .inr (k2.lt g h2).1 }
  lent := fun b q hq cs hcs => by
    simp only [St.mapC, List.getElem?_map] at hcs
    cases hi : σ.boxes[b]? with
    | none => rw [hi] at hcs; cases hcs
    | some c0 =>
      rw [hi] at hcs
      simp only [Option.map_some, Option.some.injEq] at hcs
      subst hcs
      simpa using h.lent b q hq c0 hi
  lk := h.lk
  lock := fun b hb => by
    obtain ⟨h1, h2⟩ := h.lock b hb
    refine ⟨?_, h2⟩
    have : (X.cs b).map f = X.cs b := List.map_id_of_all h2 hp
    simp [St.mapC, h1, this]
  lockne := h.lockne
/-- A row's slice, read. -/
theorem OwnRep.read {w : World} {fz fz' : Nat → Prop} {B T : Nat} {l : List (U.Ty T)} {v : Value} (h : OwnRep w fz B T l v) (hz : ∀ g, fz g → fz' g) (hv : ∀ g, v.ownBlock = some g → fz' g) :
    RepP w fz' (.sl T l : U.C) v := by
  obtain ⟨xs, ho, hr, h1⟩ := h
  have hlen := ho.1
  rcases ho.2 with ⟨rfl, hn⟩ | ⟨g, cap, cur, rfl, hb, hg, hnc, hcm, hcs, htake⟩
  · have : l = [] := List.eq_nil_of_length_eq_zero hn
    subst this
    exact .sl T [] none 0 (fun _ _ => undef) (Nat.le_refl _) (fun h => absurd h (by simp)) (fun i j x hi => absurd hi (by simp))
  · refine .sl T l _ cap (fun i j => xs.getD (i * U.sz T + j) undef) hnc (fun _ => ⟨_, rfl, hv g rfl, fun i j hi hj => ?_⟩) (fun i j x hi hx => ?_)
    · have hk : i * U.sz T + j < xs.length := by
        rw [hlen]
        calc i * U.sz T + j < i * U.sz T + U.sz T := by omega
          _ = (i + 1) * U.sz T := by rw [Nat.succ_mul]
          _ ≤ l.length * U.sz T := Nat.mul_le_mul_right _ hi
      refine ho.cells (g := g) rfl _ _ ?_
      rw [List.getD_eq_getElem?_getD, List.getElem?_eq_getElem hk, Option.getD_some]
    · obtain ⟨u, hu, hp⟩ := hr i j x hi hx
      rw [List.getD_eq_getElem?_getD, hu, Option.getD_some]
      exact hp.mono hz (fun _ _ => rfl)
theorem rowD {X : Beg U} {σ : St U} {a : Act} {w : World} {G : Gh} (h : Rel X σ a w G) {r : Nat} {R : Row U} (hr : σ.rows.getD r none = some R) : ∃ v, G.rs r = some v ∧ OwnRep w G.fz X.w.heap.size R.T R.l v := by
  refine h.row r R ?_
  rw [List.getD_eq_getElem?_getD] at hr
  cases hq : σ.rows[r]? with
  | none => rw [hq] at hr; cases hr
  | some z => rw [hq] at hr; simp only [Option.getD_some] at hr; rw [hr]
/-- The row is only read from now on. -/
theorem Rel.freeze {X : Beg U} {σ : St U} {a : Act} {w : World} {G : Gh} (h : Rel X σ a w G) {r : Nat} {R : Row U} (hr : σ.rows.getD r none = some R) :
    ∃ G' v, Rel X { σ.mapC (frzC r R.T R.l) with rows := σ.rows.set r none } a w G' ∧ (∀ x v, RepC w G x v → RepC w G' (frzC r R.T R.l x) v) ∧ G.rs r = some v ∧ (∀ g, G.fz g → G'.fz g) ∧ G'.bs = G.bs ∧
      (∀ q u, G'.rs q = some u → q ≠ r ∧ G.rs q = some u) ∧ (∀ q u, q ≠ r → G.rs q = some u → G'.rs q = some u) ∧ RepP w G'.fz (.sl R.T R.l : U.C) v := by
  obtain ⟨v, hv, ho⟩ := rowD h hr
  have hsl : ∀ fz' : Nat → Prop, (∀ g, G.fz g → fz' g) → (∀ g, v.ownBlock = some g → fz' g) → RepP w fz' (.sl R.T R.l : U.C) v := fun fz' hz hb => ho.read hz hb
  have hmap : ∀ (x : U.C) u, RepC w G x u → RepC w ⟨fun g => G.fz g ∨ v.ownBlock = some g, G.bs, fun q => if q = r then none else G.rs q⟩ (frzC r R.T R.l x) u := by
    intro x u hx
    have hz : ∀ g, G.fz g → (G.fz g ∨ v.ownBlock = some g) := fun g hg => .inl hg
    cases x with
    | own T q =>
      simp only [frzC]
      by_cases e : q = r
      · subst e
        simp only [BEq.rfl, cond_true]
        have := hx.1
        rw [hv] at this; cases this
        exact RepC.ofP (hsl _ hz (fun g hg => .inr hg))
      · have e' : (q == r) = false := by simpa using e
        simp only [e', cond_false]
        exact ⟨by simp only; rw [if_neg e]; exact hx.1, hx.2⟩
    | oat T q i o =>
      simp only [frzC]
      by_cases e : q = r
      · subst e
        simp only [BEq.rfl, cond_true]
        trivial
      · have e' : (q == r) = false := by simpa using e
        simp only [e', cond_false]
        obtain ⟨g, n, c, h1, h2, h3⟩ := hx
        exact ⟨g, n, c, by simp only; rw [if_neg e]; exact h1, h2, h3⟩
    | undef => trivial
    | new T l => exact hx
    | ptr b o => exact hx
    | fat T l i o => exact AtEl.mono hz (fun _ _ => rfl) hx
    | int k n => exact RepP.mono hz (fun _ _ => rfl) hx
    | bool b => exact RepP.mono hz (fun _ _ => rfl) hx
    | str s => exact RepP.mono hz (fun _ _ => rfl) hx
    | nilp => exact RepP.mono hz (fun _ _ => rfl) hx
    | nils => exact RepP.mono hz (fun _ _ => rfl) hx
    | sl T l => exact RepP.mono hz (fun _ _ => rfl) hx
    | sp T l m => exact RepP.mono hz (fun _ _ => rfl) hx
    | fn f => exact RepP.mono hz (fun _ _ => rfl) hx
  refine ⟨⟨fun g => G.fz g ∨ v.ownBlock = some g, G.bs, fun q => if q = r then none else G.rs q⟩, v, ?_, hmap, hv, fun g hg => .inl hg, rfl, fun q u hq => ?_, fun q u hq hu => by simp only; rw [if_neg hq]; exact hu, hsl _ (fun g hg => .inl hg) (fun g hg => .inr hg)⟩
  · exact h.mapRow r _ _ rfl (fun x hx => by cases x <;> first | rfl | cases hx) (fun g hg => .inl hg) (fun g hg => hg.imp id (fun e => ⟨v, hv, e⟩)) hmap
  · by_cases e : q = r
    · simp only [e, if_true] at hq; cases hq
    · simp only [if_neg e] at hq; exact ⟨e, hq⟩
end
end Go.Proofs.Ytogfofcocidmkaa.Ev
