/- EV (ours), part K: what a call asks and what it leaves. -/
import Derived.Test.YtogfofcocidmkaaEvJ
set_option linter.unusedVariables false
set_option linter.unusedSimpArgs false
namespace Go.Proofs.Ytogfofcocidmkaa.Ev
open Go.RowKit
section
variable {U : Uni} {X : Beg U} {σ : St U} {a : Act} {w w' : World} {G : Gh} {P : Program}

/-- What is known ahead of a call: the arguments, the variables that are lent. -/
structure Entry (U : Uni) (w : World) (fz : Nat → Prop) (bs : Nat → Option (Nat × Nat)) (ds : List U.D) (bx : List (List U.C)) (vs : List Value) : Prop where
  len : vs.length = ds.length
  arg : ∀ (i : Nat) d, ds[i]? = some d → ∃ v, vs[i]? = some v ∧ RepD w ⟨fz, bs, fun _ => none⟩ d v
  box : ∀ (b : Nat) cs, bx[b]? = some cs → cs ≠ [] ∧ cs.all plain = true ∧ ∃ g p, bs b = some (g, p) ∧ BoxAt w ⟨fz, bs, fun _ => none⟩ g p cs
  bdom : ∀ b q, bs b = some q → b < bx.length
  fzlt : ∀ g, fz g → g < w.heap.size
  bfz : ∀ b g p, bs b = some (g, p) → ¬ fz g ∧ g < w.heap.size
  bb : ∀ b b' g p p', bs b = some (g, p) → bs b' = some (g, p') → b = b'
def begOf (w : World) (fz : Nat → Prop) (bs : Nat → Option (Nat × Nat)) (bx : List (List U.C)) (ro : Bool) : Beg U :=
  ⟨w, ⟨fz, bs, fun _ => none⟩, fun b => (bx.getD b []).length, bif ro then bx.length else 0, fun b => bx.getD b []⟩
def unC : U.C → U.C
  | .new T _ => .own T 0
  | x => x
/-- What a call leaves, told as a state. -/
def retSt (lk : Nat) (d : U.D) (bx : List (List U.C)) : St U :=
  { slots := [mapD unC d], boxes := bx, rows := (newsD d).map some, lk := lk }
def Exits (X : Beg U) (d : U.D) (bx : List (List U.C)) (v : Value) (w : World) : Prop :=
  (∀ cs ∈ bx, cs ≠ [] ∧ cs.all plain = true) ∧ ∃ G, Rel X (retSt X.lk d bx) ⟨#[v], []⟩ w G
def Sound {R : Type} (P : Program) (F : Nat → Fn U R) (g : Nat) : Prop :=
  ∀ ds bx κ r, F g ds bx κ = some r → (∃ fn, P.funcs[g]? = some fn ∧ fn.body.isNone = false ∧ (fn.name == "runtime.NumGoroutine") = false) ∧ ∃ d bx', κ d bx' = some r ∧ (U.ro g = true → bx' = bx) ∧ (newsD d).length ≤ 1 ∧ bx.length ≤ bx'.length ∧
    ∀ (w : World) fz bs vs, Entry U w fz bs ds bx vs → Calls P g vs.toArray w fun e w' => ∃ v, e = .returned v ∧ Exits (begOf w fz bs bx (U.ro g)) d bx' v w'

/-! ### freezing leaves what is plain -/
theorem frzC_plain {r T : Nat} {l : List (U.Ty T)} {x : U.C} (h : plain x = true) : frzC r T l x = x := by cases x <;> first | rfl | cases h
theorem freeze_plain {σ' : St U} {r : Nat} (h : σ.freeze r = some σ') {b j : Nat} {x : U.C} (hx : (σ.boxes.getD b [])[j]? = some x) (hp : plain x = true) : (σ'.boxes.getD b [])[j]? = some x := by
  unfold St.freeze at h
  split at h
  · cases h
    simp only [St.mapC, List.getD_eq_getElem?_getD, List.getElem?_map] at hx ⊢
    cases hb : σ.boxes[b]? with
    | none => rw [hb] at hx; simp at hx
    | some cs =>
      rw [hb] at hx
      simp only [Option.getD_some] at hx
      simp [hx, frzC_plain hp]
  · cases h
theorem frz_plain : ∀ {cs : List U.C} {σ σ' : St U} {cs' : List U.C}, σ.frz cs = some (cs', σ') → ∀ {b j : Nat} {x : U.C}, (σ.boxes.getD b [])[j]? = some x → plain x = true → (σ'.boxes.getD b [])[j]? = some x := by
  intro cs
  induction cs with
  | nil => intro σ σ' cs' h b j x hx hp; simp only [St.frz, Option.some.injEq, Prod.mk.injEq] at h; rw [← h.2]; exact hx
  | cons y cs ih =>
    intro σ σ' cs' h b j x hx hp
    have other : ∀ z : U.C, (match σ.frz cs with | some (cs', σ2) => some (z :: cs', σ2) | none => none) = some (cs', σ') → (σ'.boxes.getD b [])[j]? = some x := by
      intro z h
      split at h
      · rename_i c2 σ2 hc
        simp only [Option.some.injEq, Prod.mk.injEq] at h
        rw [← h.2]
        exact ih hc hx hp
      · cases h
    cases y with
    | own T r =>
      simp only [St.frz] at h
      split at h
      · split at h
        · rename_i σ1 hf1
          split at h
          · rename_i c2 σ2 hc
            simp only [Option.some.injEq, Prod.mk.injEq] at h
            rw [← h.2]
            exact ih hc (freeze_plain hf1 hx hp) hp
          · cases h
        · cases h
      · cases h
    | _ => exact other _ h
theorem freeze_lk {σ' : St U} {r : Nat} (h : σ.freeze r = some σ') : σ'.lk = σ.lk := by
  unfold St.freeze at h
  split at h
  · cases h; rfl
  · cases h
theorem sub_get {cs r : List U.C} {o n : Nat} (h : sub cs o n = some r) {j : Nat} (hj : j < n) : r[j]? = cs[o + j]? := by
  obtain ⟨h1, h2, h3, h4⟩ := sub_some h
  rw [h2, List.getElem?_take, if_pos hj, List.getElem?_drop]
/-- Plain cells of a variable stay. -/
theorem sub_keep {σ' : St U} {cs cs' : List U.C} (hf : σ.frz cs = some (cs', σ')) (hs : Same σ σ') {b o n : Nat} {r : List U.C} (h : sub (σ.boxes.getD b []) o n = some r) (hp : r.all plain = true) : sub (σ'.boxes.getD b []) o n = some r := by
  obtain ⟨h1, h2, h3, h4⟩ := sub_some h
  have hl := hs.bl b
  have h1' : o + n ≤ (σ'.boxes.getD b []).length := by rw [hl]; exact h1
  have : sub (σ'.boxes.getD b []) o n = some (((σ'.boxes.getD b []).drop o).take n) := by
    unfold sub
    have hb : (o + n).ble (σ'.boxes.getD b []).length = true := by simpa using h1'
    rw [hb]
    rfl
  rw [this]
  congr 1
  apply List.ext_getElem?
  intro j
  by_cases hj : j < n
  · rw [List.getElem?_take, if_pos hj, List.getElem?_drop]
    have hjr : j < r.length := by omega
    have hr : r[j]? = some r[j] := List.getElem?_eq_getElem hjr
    rw [hr]
    refine frz_plain hf ?_ (List.all_eq_true.1 hp _ (List.getElem_mem hjr))
    rw [← sub_get h hj, hr]
  · rw [List.getElem?_eq_none (by rw [List.length_take]; omega), List.getElem?_eq_none (by omega)]

/-! ### the arguments -/
/-- An argument, as it is known while rows are frozen. -/
def ADat (w : World) (G : Gh) : U.D → Value → Prop
  | .v (.c (.ptr b o)), v => ∃ g p, G.bs b = some (g, p) ∧ v = .pointer (some ⟨g, p + o, none⟩)
  | .v (.c x), v => x = .undef ∨ FL w G [x] [v]
  | .v (.agg cs), v => ∃ us : Array Value, v = .agg us ∧ FL w G cs us.toList
  | .tup _, v => True
theorem ADat.of {d : U.D} {v : Value} (h : RepD w G d v) : ADat w G d v := by
  cases d with
  | tup l => trivial
  | v x =>
    cases x with
    | agg cs =>
      obtain ⟨us, rfl, hn, hr⟩ := h
      exact ⟨us, rfl, RepL.fl ⟨by simpa using hn, fun j x hx => by obtain ⟨u, h1, h2⟩ := hr j x hx; exact ⟨u, by simpa using h1, h2⟩⟩⟩
    | c x =>
      have key : ∀ x : U.C, vl (U := U) (.c x) ≠ none → RepV w G (.c x) v → FL w G [x] [v] := fun x hx h => RepL.fl ⟨rfl, fun j y hy => by
        cases j with
        | zero => simp at hy; subst hy; exact ⟨v, rfl, h.1, h.2 hx⟩
        | succ j => simp at hy⟩
      cases x with
      | ptr b o => exact h.1
      | undef => exact .inl rfl
      | _ => exact .inr (key _ (by simp [vl]) h)
theorem ADat.ge {G' : Gh} (hg : G.ge G') {d : U.D} {v : Value} (h : ADat w G d v) : ADat w G' d v := by
  cases d with
  | tup l => trivial
  | v x =>
    cases x with
    | agg cs => obtain ⟨us, rfl, h2⟩ := h; exact ⟨us, rfl, h2.ge hg⟩
    | c x =>
      cases x with
      | ptr b o => obtain ⟨g, p, h1, h2⟩ := h; exact ⟨g, p, by rw [hg.bs]; exact h1, h2⟩
      | _ => exact h.imp id (fun h => h.ge hg)
/-- An argument, as the callee has it. -/
def PDat (w : World) (fz : Nat → Prop) (bs : Nat → Option (Nat × Nat)) (ls : List Lent) (j : Nat) : U.D → Value → Prop
  | .v (.c (.ptr q o)), v => o = 0 ∧ j ≤ q ∧ ∃ l g p, ls[q - j]? = some l ∧ bs l.b = some (g, p) ∧ v = .pointer (some ⟨g, p + l.o, none⟩)
  | d, v => plainD d = true ∧ ∀ G : Gh, G.fz = fz → RepD w G d v
theorem plain_rep {fz : Nat → Prop} {x : U.V} {v : Value} {us : List Value} (hx : (x = .agg (vcells x) ∧ v = .agg us.toArray) ∨ (∃ y, x = .c y ∧ us = [v])) (hp : (vcells x).all plain = true) (h : PL w fz (vcells x) us) : ∀ G : Gh, G.fz = fz → RepV w G x v := by
  intro G hG
  subst hG
  rcases hx with ⟨hx, rfl⟩ | ⟨y, rfl, rfl⟩
  · rw [hx]
    refine ⟨us.toArray, rfl, by simpa using h.1, fun j y hy => ?_⟩
    obtain ⟨u, h1, h2, h3⟩ := h.2 j y hy (List.all_eq_true.1 hp y (List.mem_of_getElem? hy))
    exact ⟨u, by simpa using h1, RepC.ofP h3, h2⟩
  · obtain ⟨u, h1, h2, h3⟩ := h.2 0 y rfl (by simpa [vcells] using hp)
    simp only [List.getElem?_cons_zero, Option.some.injEq] at h1
    subst h1
    exact RepV.ofC (RepC.ofP h3)
theorem frzV_ok (h : Rel X σ a w G) {x x' : U.V} {v : Value} {σ' : St U} (hx : ADat w G (.v x) v) (hnp : ∀ b o, x ≠ .c (.ptr b o)) (hf : σ.frzV x = some (x', σ')) (hp : (vcells x').all plain = true) :
    ∃ G', Rel X σ' a w G' ∧ G.ge G' ∧ Same σ σ' ∧ ∀ G2 : Gh, G2.fz = G'.fz → RepV w G2 x' v := by
  cases x with
  | agg cs =>
    obtain ⟨us, rfl, hfl⟩ := hx
    simp only [St.frzV] at hf
    split at hf
    · rename_i cs' σ1 hc
      cases hf
      obtain ⟨G', k1, k2, k3, k4, k5⟩ := frz_ok h hfl hc
      exact ⟨G', k1, k2, k3, plain_rep (us := us.toList) (.inl ⟨rfl, by simp⟩) hp k4⟩
    · cases hf
  | c x =>
    simp only [St.frzV] at hf
    split at hf
    · rename_i y σ1 hc
      cases hf
      have hfl : FL w G [x] [v] := by
        cases x with
        | ptr b o => exact absurd rfl (hnp b o)
        | undef =>
          simp [St.frz] at hc
          obtain ⟨rfl, rfl⟩ := hc
          simp [vcells, plain] at hp
        | _ => exact hx.resolve_left (by simp)
      obtain ⟨G', k1, k2, k3, k4, k5⟩ := frz_ok h hfl hc
      exact ⟨G', k1, k2, k3, plain_rep (us := [v]) (.inr ⟨y, rfl, rfl⟩) hp k4⟩
    · cases hf
theorem PDat.mono {fz fz' : Nat → Prop} {bs : Nat → Option (Nat × Nat)} {ls ls' : List Lent} {j : Nat} {d : U.D} {v : Value} (hz : ∀ g, fz g → fz' g) (h : PDat w fz bs ls j d v) (hl : ∀ (q : Nat) (l : Lent), ls[q]? = some l → ls'[q]? = some l) : PDat w fz' bs ls' j d v := by
  have key : (plainD d = true ∧ ∀ G : Gh, G.fz = fz → RepD w G d v) → (plainD d = true ∧ ∀ G : Gh, G.fz = fz' → RepD w G d v) := by
    rintro ⟨h1, h2⟩
    refine ⟨h1, fun G hG => ?_⟩
    have := h2 ⟨fz, G.bs, G.rs⟩ rfl
    exact RepD.mono (G := ⟨fz, G.bs, G.rs⟩) (G' := G) (w := w) (w' := w) ⟨fun g hg => by rw [hG]; exact hz g hg, fun _ _ h => h, fun _ _ h => h, fun _ _ => rfl⟩ this
  cases d with
  | tup l => exact key h
  | v x =>
    cases x with
    | agg cs => exact key h
    | c x =>
      cases x with
      | ptr q o =>
        obtain ⟨h1, h2, l, g, p, h3, h4, h5⟩ := h
        exact ⟨h1, h2, l, g, p, hl _ _ h3, h4, h5⟩
      | _ => exact key h
theorem PDat.shift {fz : Nat → Prop} {bs : Nat → Option (Nat × Nat)} {ls : List Lent} {l0 : Lent} {j : Nat} {d : U.D} {v : Value} (h : PDat w fz bs ls (j + 1) d v) : PDat w fz bs (l0 :: ls) j d v := by
  cases d with
  | tup l => exact h
  | v x =>
    cases x with
    | agg cs => exact h
    | c x =>
      cases x with
      | ptr q o =>
        obtain ⟨h1, h2, l, g, p, h3, h4, h5⟩ := h
        refine ⟨h1, by omega, l, g, p, ?_, h4, h5⟩
        rw [show q - j = (q - (j + 1)) + 1 by omega, List.getElem?_cons_succ]
        exact h3
      | _ => exact h
/-- The one way of telling tells the same. -/
theorem canon_rep (hU : UOk P U) {t : Nat} {v : U.V} {fz : Nat → Prop} {u : Value} (hp : (vcells v).all plain = true) (h : ∀ G : Gh, G.fz = fz → RepV w G v u) : (vcells (canonV U t v)).all plain = true ∧ ∀ G : Gh, G.fz = fz → RepV w G (canonV U t v) u := by
  cases v with
  | c x =>
    have other : (vcells (Val.c x : U.V)).all plain = true ∧ ∀ G : Gh, G.fz = fz → RepV w G (.c x) u := ⟨hp, h⟩
    cases x with
    | nils =>
      simp only [canonV]
      split
      · refine ⟨rfl, fun G hG => RepV.ofC (RepC.ofP (nils_sl ?_))⟩
        have := (h G hG).1
        exact this
      · exact other
    | _ => exact other
  | agg cs =>
    simp only [canonV]
    split
    · rename_i x hx
      obtain ⟨d1, d2⟩ := hU.dec t cs x hx
      refine ⟨List.all_eq_true.2 fun c hc => hU.encp t x c hc, fun G hG => ?_⟩
      obtain ⟨us, rfl, hn, hr⟩ := h G hG
      refine ⟨us, rfl, by rw [hn, d1], fun j d hd => ?_⟩
      have hjl : j < cs.length := by rw [d1]; exact (List.getElem?_eq_some_iff.1 hd).1
      have hcj : cs[j]? = some cs[j] := List.getElem?_eq_getElem hjl
      obtain ⟨d', e1, e2⟩ := d2 j _ hcj
      rw [hd] at e1; cases e1
      obtain ⟨u, k1, k2, k3⟩ := hr j _ hcj
      refine ⟨u, k1, ?_, k3⟩
      rcases e2 with e2 | ⟨e2, T', rfl⟩
      · rw [← e2]; exact k2
      · rw [e2] at k2
        exact RepC.ofP (nils_sl k2)
    · exact ⟨hp, h⟩
theorem prep_ok (hU : UOk P U) : ∀ (ds : List U.D) (ts : List Nat) (j : Nat) (σ : St U) (G : Gh) (vs : List Value) (ds' : List U.D) (ls : List Lent) (σ1 : St U), Rel X σ a w G → vs.length = ds.length → (∀ (i : Nat) d, ds[i]? = some d → ∃ v, vs[i]? = some v ∧ ADat w G d v) → prep U σ ts j ds = some (ds', ls, σ1) →
    ∃ G1, Rel X σ1 a w G1 ∧ G.ge G1 ∧ Same σ σ1 ∧ ds'.length = ds.length ∧ ∀ (i : Nat) d, ds'[i]? = some d → ∃ v, vs[i]? = some v ∧ PDat w G1.fz G1.bs ls j d v
  | [], ts, j, σ, G, vs, ds', ls, σ1, h, hl, hv, hp => by
    simp only [prep, Option.some.injEq, Prod.mk.injEq] at hp
    obtain ⟨rfl, rfl, rfl⟩ := hp
    exact ⟨G, h, .refl G, .refl σ, rfl, fun i d hd => by simp at hd⟩
  | d :: ds, ts, j, σ, G, vs, ds', ls, σ1, h, hl, hv, hp => by
    cases vs with
    | nil => simp at hl
    | cons v vs =>
      have hv0 := hv 0 d rfl
      simp only [List.getElem?_cons_zero, Option.some.injEq, exists_eq_left'] at hv0
      have hvt : ∀ (i : Nat) d, ds[i]? = some d → ∃ v, vs[i]? = some v ∧ ADat w G d v := fun i d hd => by simpa using hv (i + 1) d (by simpa using hd)
      have hl' : vs.length = ds.length := by simpa using hl
      have other : ∀ x : U.V, d = .v x → (∀ b o, x ≠ .c (.ptr b o)) → (match σ.frzV x with
          | some (v', σ1) => bif (vcells v').all plain then (match prep U σ1 ts.tail j ds with
            | some (ds', ls, σ2) => some (.v (canonV U (ts.headD 0) v') :: ds', ls, σ2)
            | none => none) else none
          | none => none) = some (ds', ls, σ1) → ∃ G1, Rel X σ1 a w G1 ∧ G.ge G1 ∧ Same σ σ1 ∧ ds'.length = (d :: ds).length ∧ ∀ (i : Nat) d, ds'[i]? = some d → ∃ u, (v :: vs)[i]? = some u ∧ PDat w G1.fz G1.bs ls j d u := by
        intro x hdx hnp hp2
        subst hdx
        clear hp
        have hp := hp2
        clear hp2
        split at hp
        · rename_i x' σa hf
          obtain ⟨hpl, hp⟩ := bif_some hp
          split at hp
          · rename_i ds2 ls2 σ2 hp2
            simp only [Option.some.injEq, Prod.mk.injEq] at hp
            obtain ⟨rfl, rfl, rfl⟩ := hp
            obtain ⟨Ga, k1, k2, k3, k4⟩ := frzV_ok h hv0 hnp hf hpl
            obtain ⟨G1, m1, m2, m3, m4, m5⟩ := prep_ok hU ds ts.tail j σa Ga vs ds2 ls2 σ2 k1 hl' (fun i d hd => by obtain ⟨u, h1, h2⟩ := hvt i d hd; exact ⟨u, h1, h2.ge k2⟩) hp2
            refine ⟨G1, m1, k2.trans m2, k3.trans m3, by simp [m4], fun i d hd => ?_⟩
            cases i with
            | zero =>
              simp only [List.getElem?_cons_zero, Option.some.injEq] at hd
              subst hd
              refine ⟨v, rfl, ?_⟩
              obtain ⟨hpl2, k5⟩ := canon_rep (t := ts.headD 0) hU hpl k4
              generalize canonV U (ts.headD 0) x' = y' at hpl2 k5
              have hP : PDat w Ga.fz Ga.bs ls2 j (.v y') v := by
                have hh : plainD (.v y' : U.D) = true ∧ ∀ G : Gh, G.fz = Ga.fz → RepD w G (.v y') v := ⟨hpl2, k5⟩
                cases y' with
                | agg cs => exact hh
                | c y => cases y with
                  | ptr q o => simp [vcells, plain] at hpl2
                  | _ => exact hh
              have := hP.mono (fz' := G1.fz) m2.fz (fun _ _ h => h)
              rw [← m2.bs] at this
              exact this
            | succ i => simpa using m5 i d (by simpa using hd)
          · cases hp
        · cases hp
      cases d with
      | tup l => simp [prep] at hp
      | v x =>
        cases x with
        | agg cs => exact other _ rfl (by simp) hp
        | c x =>
          cases x with
          | ptr b o =>
            simp only [prep] at hp
            split at hp
            · rename_i T hT
              split at hp
              · rename_i t ht
                split at hp
                · rename_i ds2 ls2 σ2 hp2
                  simp only [Option.some.injEq, Prod.mk.injEq] at hp
                  obtain ⟨rfl, rfl, rfl⟩ := hp
                  obtain ⟨G1, m1, m2, m3, m4, m5⟩ := prep_ok hU ds ts.tail (j + 1) σ G vs ds2 ls2 σ2 h hl' hvt hp2
                  refine ⟨G1, m1, m2, m3, by simp [m4], fun i d hd => ?_⟩
                  cases i with
                  | zero =>
                    simp only [List.getElem?_cons_zero, Option.some.injEq] at hd
                    subst hd
                    obtain ⟨g, p, h1, h2⟩ := hv0
                    refine ⟨v, rfl, rfl, Nat.le_refl _, ⟨b, o, t.sz⟩, g, p, by simp, by rw [m2.bs]; exact h1, h2⟩
                  | succ i =>
                    obtain ⟨u, h1, h2⟩ := m5 i d (by simpa using hd)
                    exact ⟨u, by simpa using h1, h2.shift⟩
                · cases hp
              · cases hp
            · cases hp
          | _ => exact other _ rfl (by simp) hp
theorem sub_rep (h : Rel X σ a w G) {b o n : Nat} {cs : List U.C} (hs : sub (σ.boxes.getD b []) o n = some cs) : ∃ vs, RepL w G cs vs := by
  obtain ⟨h1, h2, h3, h4⟩ := sub_some hs
  cases n with
  | zero => exact ⟨[], by simp [h3], fun j x hx => by have := (List.getElem?_eq_some_iff.1 hx).1; omega⟩
  | succ n =>
    cases hb : σ.boxes[b]? with
    | none => rw [List.getD_eq_getElem?_getD, hb] at h1; simp at h1
    | some ds =>
      have hd : σ.boxes.getD b [] = ds := by rw [List.getD_eq_getElem?_getD, hb]; rfl
      rw [hd] at h1 h4
      obtain ⟨g, p, hg, hbox⟩ := h.box b ds hb (fun e => by rw [e] at h1; simp at h1)
      refine ⟨readL w ⟨g, p + o, none⟩ (n + 1), by rw [readL_len, h3], fun j x hx => ?_⟩
      obtain ⟨hj, hx'⟩ := h4 j x hx
      obtain ⟨u, k1, k2, k3, k4⟩ := hbox (o + j) x hx'
      exact ⟨u, readL_get hj (by rw [plain_add, Nat.add_assoc]; exact k1), k3, k4⟩
def KeepB (σ σ' : St U) : Prop := ∀ b o n r, sub (σ.boxes.getD b []) o n = some r → r.all plain = true → sub (σ'.boxes.getD b []) o n = some r
theorem KeepB.refl (σ : St U) : KeepB σ σ := fun _ _ _ _ h _ => h
theorem KeepB.trans {σ σ' σ'' : St U} (h : KeepB σ σ') (k : KeepB σ' σ'') : KeepB σ σ'' := fun b o n r hs hp => k b o n r (h b o n r hs hp) hp
theorem lend_ok : ∀ (ls : List Lent) (σ : St U) (G : Gh) (bx : List (List U.C)) (σ2 : St U), Rel X σ a w G → lend σ ls = some (bx, σ2) →
    ∃ G2, Rel X σ2 a w G2 ∧ G.ge G2 ∧ Same σ σ2 ∧ KeepB σ σ2 ∧ bx.length = ls.length ∧ ∀ (q : Nat) l, ls[q]? = some l → ∃ cs, bx[q]? = some cs ∧ cs.all plain = true ∧ sub (σ2.boxes.getD l.b []) l.o l.n = some cs
  | [], σ, G, bx, σ2, h, hl => by
    simp only [lend, Option.some.injEq, Prod.mk.injEq] at hl
    obtain ⟨rfl, rfl⟩ := hl
    exact ⟨G, h, .refl G, .refl σ, .refl σ, rfl, fun q l hq => by simp at hq⟩
  | l :: ls, σ, G, bx, σ2, h, hl => by
    simp only [lend] at hl
    split at hl
    · rename_i cs hs
      split at hl
      · rename_i c2 σ1 hf
        split at hl
        · rename_i cs1 hs1
          obtain ⟨hp, hl⟩ := bif_some hl
          split at hl
          · rename_i r σ3 hl2
            simp only [Option.some.injEq, Prod.mk.injEq] at hl
            obtain ⟨rfl, rfl⟩ := hl
            obtain ⟨vs, hr⟩ := sub_rep h hs
            obtain ⟨G1, k1, k2, k3, k4, k5⟩ := frz_ok h hr.fl hf
            have hk : KeepB σ σ1 := fun b o n r hs hp => sub_keep hf k3 hs hp
            obtain ⟨G2, m1, m2, m3, m4, m5, m6⟩ := lend_ok ls σ1 G1 r σ3 k1 hl2
            refine ⟨G2, m1, k2.trans m2, k3.trans m3, hk.trans m4, by simp [m5], fun q l' hq => ?_⟩
            cases q with
            | zero =>
              simp only [List.getElem?_cons_zero, Option.some.injEq] at hq
              subst hq
              exact ⟨cs1, rfl, hp, m4 _ _ _ _ hs1 hp⟩
            | succ q => simpa using m6 q l' (by simpa using hq)
          · cases hl
        · cases hl
      · cases hl
    · cases hl
theorem distinct_ne : ∀ {ls : List Lent}, distinct ls = true → ∀ (q q' : Nat) l l', ls[q]? = some l → ls[q']? = some l' → l.b = l'.b → q = q' := by
  intro ls
  induction ls with
  | nil => intro _ q q' l l' h; simp at h
  | cons m ls ih =>
    intro hd q q' l l' h h' e
    simp only [distinct, Bool.and_eq_true] at hd
    have hall : ∀ (k : Nat) x, ls[k]? = some x → x.b ≠ m.b := fun k x hx => by
      have := List.all_eq_true.1 hd.1 x (List.mem_of_getElem? hx)
      simpa using this
    cases q with
    | zero =>
      cases q' with
      | zero => rfl
      | succ q' =>
        simp only [List.getElem?_cons_zero, Option.some.injEq, List.getElem?_cons_succ] at h h'
        subst h
        exact absurd e.symm (hall q' l' h')
    | succ q =>
      cases q' with
      | zero =>
        simp only [List.getElem?_cons_zero, Option.some.injEq, List.getElem?_cons_succ] at h h'
        subst h'
        exact absurd e (hall q l h)
      | succ q' =>
        simp only [List.getElem?_cons_succ] at h h'
        rw [ih hd.2 q q' l l' h h' e]
/-- Where a callee's variables lie. -/
def lentBs (G : Gh) (ls : List Lent) (j : Nat) : Option (Nat × Nat) :=
  match ls[j]? with
  | some l => (G.bs l.b).map fun q => (q.1, q.2 + l.o)
  | none => none
/-- What the callee is told. -/
theorem entry_ok (h : Rel X σ a w G) {ls : List Lent} {bx : List (List U.C)} {ds' : List U.D} {vs : List Value} (hd : distinct ls = true) (hlen : bx.length = ls.length) (hn : ∀ l ∈ ls, 0 < l.n)
    (hl : ∀ (q : Nat) l, ls[q]? = some l → ∃ cs, bx[q]? = some cs ∧ cs.all plain = true ∧ sub (σ.boxes.getD l.b []) l.o l.n = some cs) (hvl : vs.length = ds'.length)
    (ha : ∀ (i : Nat) d, ds'[i]? = some d → ∃ v, vs[i]? = some v ∧ PDat w G.fz G.bs ls 0 d v) : Entry U w G.fz (lentBs G ls) ds' bx vs where
  len := hvl
  arg := fun i d hdi => by
    obtain ⟨v, h1, h2⟩ := ha i d hdi
    refine ⟨v, h1, ?_⟩
    cases d with
    | tup l => exact h2.2 _ rfl
    | v x =>
      cases x with
      | agg cs => exact h2.2 _ rfl
      | c x =>
        cases x with
        | ptr q o =>
          obtain ⟨h1, h2, l, g, p, h3, h4, h5⟩ := h2
          subst h1
          refine rep_cell ⟨g, p + l.o, ?_, by rw [h5]; rfl⟩
          simp only [lentBs]
          rw [Nat.sub_zero] at h3
          rw [h3]
          simp [h4]
        | _ => exact h2.2 _ rfl
  box := fun b cs hb => by
    have hlt : b < ls.length := by rw [← hlen]; exact (List.getElem?_eq_some_iff.1 hb).1
    have hlb : ls[b]? = some ls[b] := List.getElem?_eq_getElem hlt
    obtain ⟨cs', h1, h2, h3⟩ := hl b _ hlb
    rw [hb] at h1; cases h1
    obtain ⟨g1, g2, g3, g4⟩ := sub_some h3
    have hpos := hn _ (List.getElem_mem hlt)
    have hne : cs ≠ [] := fun e => by rw [e] at g3; simp at g3; omega
    refine ⟨hne, h2, ?_⟩
    cases hbx : σ.boxes[(ls[b]).b]? with
    | none => rw [List.getD_eq_getElem?_getD, hbx] at g1; simp at g1; omega
    | some ds =>
      have hdd : σ.boxes.getD (ls[b]).b [] = ds := by rw [List.getD_eq_getElem?_getD, hbx]; rfl
      rw [hdd] at g1 g4
      obtain ⟨g, p, hg, hbox⟩ := h.box _ ds hbx (fun e => by rw [e] at g1; simp at g1; omega)
      refine ⟨g, p + (ls[b]).o, by simp [lentBs, hlb, hg], fun j x hx => ?_⟩
      obtain ⟨hj, hx'⟩ := g4 j x hx
      obtain ⟨u, k1, k2, k3, k4⟩ := hbox _ x hx'
      have hpx := List.all_eq_true.1 h2 x (List.mem_of_getElem? hx)
      rw [Nat.add_assoc]
      have k5 : RepP w G.fz x u := k3.toP hpx
      exact ⟨u, k1, k2, RepC.ofP k5, k4⟩
  bdom := fun b q hq => by
    unfold lentBs at hq
    split at hq
    · rename_i l hlb
      rw [hlen]; exact (List.getElem?_eq_some_iff.1 hlb).1
    · cases hq
  fzlt := h.fzlt
  bfz := fun b g p hq => by
    unfold lentBs at hq
    split at hq
    · rename_i l hlb
      cases hbl : G.bs l.b with
      | none => rw [hbl] at hq; cases hq
      | some q =>
        rw [hbl] at hq
        simp only [Option.map_some, Option.some.injEq, Prod.mk.injEq] at hq
        rw [← hq.1]
        exact h.bfz l.b q.1 q.2 hbl
    · cases hq
  bb := fun b b' g p p' hq hq' => by
    unfold lentBs at hq hq'
    split at hq
    · rename_i l hlb
      split at hq'
      · rename_i l' hlb'
        cases hbl : G.bs l.b with
        | none => rw [hbl] at hq; cases hq
        | some q =>
          cases hbl' : G.bs l'.b with
          | none => rw [hbl'] at hq'; cases hq'
          | some q' =>
            rw [hbl] at hq; rw [hbl'] at hq'
            simp only [Option.map_some, Option.some.injEq, Prod.mk.injEq] at hq hq'
            have e : q.1 = q'.1 := hq.1.trans hq'.1.symm
            have := h.bb l.b l'.b q.1 q.2 q'.2 hbl (by rw [hbl', e])
            exact distinct_ne hd b b' l l' hlb hlb' this
      · cases hq'
    · cases hq
end
end Go.Proofs.Ytogfofcocidmkaa.Ev
