/- EV (ours), part R: a function's end; a function is sound. -/
import Derived.Test.YtogfofcocidmkaaEvQ
set_option linter.unusedVariables false
set_option linter.unusedSimpArgs false
namespace Go.Proofs.Ytogfofcocidmkaa.Ev
open Go.RowKit
section
variable {U : Uni} {X : Beg U} {σ : St U} {a : Act} {w w' : World} {G : Gh} {P : Program}

theorem outC_ptr {m : Nat} {mb : Option Nat} {b o : Nat} {z : U.C} (h : outC σ m mb (.ptr b o) = some z) : (b < m ∧ z = .ptr b o) ∨ (mb = some b ∧ z = .ptr m o) := by
  simp only [outC] at h
  cases hb : Nat.blt b m with
  | true =>
    rw [hb] at h
    simp only [cond_true, Option.some.injEq] at h
    exact .inl ⟨Nat.le_of_ble_eq_true hb, h.symm⟩
  | false =>
    rw [hb] at h
    simp only [cond_false] at h
    split at h
    · rename_i b' 
      obtain ⟨e, h2⟩ := bif_some h
      clear h
      have e := Nat.eq_of_beq_eq_true e
      subst e
      cases h2
      exact .inr ⟨rfl, rfl⟩
    · cases h
/-- The rows of ours among results. -/
def rowsOf : List U.V → List (Nat × Nat)
  | [] => []
  | .c (.own T r) :: vs => (T, r) :: rowsOf vs
  | _ :: vs => rowsOf vs
theorem newsD_one (vs : List U.V) : newsD (oneD vs) = vs.flatMap newsV := by
  match vs with
  | [] => rfl
  | [v] => simp [oneD, newsD]
  | v :: v' :: vs => rfl
theorem outL_get {m : Nat} {mb : Option Nat} : ∀ (vs vs' : List U.V), outL σ m mb vs = some vs' → vs'.length = vs.length ∧ (∀ (i : Nat) x, vs[i]? = some x → ∃ y, vs'[i]? = some y ∧ outV σ m mb x = some y) ∧
    ∃ ls : List (Row U), vs'.flatMap newsV = ls ∧ ls.length = (rowsOf vs).length ∧ ∀ (i : Nat) T r, (rowsOf vs)[i]? = some (T, r) → ∃ l, rowAt σ T r = some l ∧ ls[i]? = some ⟨T, l⟩
  | [], vs', h => by
    simp only [outL, Option.some.injEq] at h
    subst h
    exact ⟨rfl, fun i x hx => by simp at hx, [], rfl, rfl, fun i T r h => by simp [rowsOf] at h⟩
  | v :: vs, vs', h => by
    simp only [outL] at h
    split at h
    · rename_i y ys h1 h2
      cases h
      obtain ⟨k1, k2, ls, k3, k4, k5⟩ := outL_get vs ys h2
      refine ⟨by simp [k1], fun i x hx => ?_, newsV y ++ ls, by simp [k3], ?_⟩
      · cases i with
        | zero => simp only [List.getElem?_cons_zero, Option.some.injEq] at hx; subst hx; exact ⟨y, rfl, h1⟩
        | succ i => simpa using k2 i x (by simpa using hx)
      · have plainCase : newsV y = [] → rowsOf (v :: vs) = rowsOf vs → (newsV y ++ ls).length = (rowsOf (v :: vs)).length ∧ ∀ (i : Nat) T r, (rowsOf (v :: vs))[i]? = some (T, r) → ∃ l, rowAt σ T r = some l ∧ (newsV y ++ ls)[i]? = some ⟨T, l⟩ := by
          intro e1 e2
          rw [e1, e2]
          exact ⟨by simpa using k4, fun i T r h => by simpa using k5 i T r h⟩
        cases v with
        | agg cs =>
          simp only [outV] at h1
          obtain ⟨_, h1⟩ := bif_some h1
          cases h1
          exact plainCase rfl rfl
        | c x =>
          simp only [outV] at h1
          split at h1
          · rename_i z hz
            cases h1
            cases x with
            | own T r =>
              simp only [outC] at hz
              split at hz
              · rename_i l hl
                cases hz
                refine ⟨by simp [newsV, newsC, rowsOf, k4], fun i T' r' h => ?_⟩
                cases i with
                | zero =>
                  simp only [rowsOf, List.getElem?_cons_zero, Option.some.injEq, Prod.mk.injEq] at h
                  obtain ⟨rfl, rfl⟩ := h
                  exact ⟨l, hl, rfl⟩
                | succ i => simpa [newsV, newsC] using k5 i T' r' (by simpa [rowsOf] using h)
              · cases hz
            | ptr b o =>
              rcases outC_ptr hz with ⟨_, rfl⟩ | ⟨_, rfl⟩ <;> exact plainCase rfl rfl
            | undef => cases hz
            | new _ _ => cases hz
            | fat _ _ _ _ => cases hz
            | oat _ _ _ _ => cases hz
            | _ => cases hz; exact plainCase rfl rfl
          · cases h1
    · cases h
theorem rowsOf_mem : ∀ (vs : List U.V) (i T r : Nat), vs[i]? = some (.c (.own T r)) → (T, r) ∈ rowsOf vs
  | [], i, T, r, h => by simp at h
  | v :: vs, 0, T, r, h => by
    simp only [List.getElem?_cons_zero, Option.some.injEq] at h
    subst h
    simp [rowsOf]
  | v :: vs, i + 1, T, r, h => by
    have := rowsOf_mem vs i T r (by simpa using h)
    unfold rowsOf
    split
    · rename_i e; cases e
    · rename_i e; cases e; simp [this]
    · rename_i e; cases e; exact this
theorem plain_un {cs : List U.C} (h : cs.all plain = true) : cs.map unC = cs := List.map_id_of_all h (fun x hx => by cases x <;> first | rfl | cases hx)

/-- The end: the last state, told as what the call leaves. -/
theorem ret_ok (h : Rel X σ a w G) {m : Nat} {mb : Option Nat} {vs vs' : List U.V} {us : List Value} {bx mbx : List (List U.C)} (hlen : us.length = vs.length) (hv : ∀ (i : Nat) x, vs[i]? = some x → ∃ u, us[i]? = some u ∧ BDat w G x u)
    (hout : outL σ m mb vs = some vs') (hnews : (newsD (oneD vs')).length ≤ 1) (hX : ∀ b q, X.G.bs b = some q → b < m) (hm : bx.length = m) (hbx : ∀ b, b < m → ∃ cs, bx[b]? = some cs ∧ σ.boxes[b]? = some cs ∧ cs ≠ [] ∧ cs.all plain = true)
    (hmb : (mb = none ∧ mbx = []) ∨ ∃ b cs, mb = some b ∧ mbx = [cs] ∧ ¬ b < m ∧ σ.boxes[b]? = some cs ∧ cs ≠ [] ∧ cs.all plain = true) (hlk : X.lk ≤ m) :
    Exits X (oneD vs') (bx ++ mbx) (oneU us) w := by
  obtain ⟨o1, o2, ls, o3, o4, o5⟩ := outL_get vs vs' hout
  have hnd : newsD (oneD vs') = ls := by rw [newsD_one, o3]
  rw [hnd] at hnews
  -- the one row
  have hrow : ∃ r0 : Option Nat, (∀ (i T r : Nat), vs[i]? = some (.c (.own T r)) → r0 = some r) ∧ (∀ r, r0 = some r → ∃ T l, ls = [⟨T, l⟩] ∧ rowAt σ T r = some l) ∧ (r0 = none → ls = []) := by
    cases hro : rowsOf vs with
    | nil =>
      refine ⟨none, fun i T r hi => ?_, fun r hr => (by cases hr), fun _ => ?_⟩
      · have := rowsOf_mem vs i T r hi
        rw [hro] at this; simp at this
      · rw [hro] at o4; exact List.eq_nil_of_length_eq_zero o4
    | cons p ps =>
      obtain ⟨T0, r0⟩ := p
      have hps : ps = [] := by
        rw [hro] at o4
        simp at o4
        exact List.eq_nil_of_length_eq_zero (by omega)
      subst hps
      obtain ⟨l, k1, k2⟩ := o5 0 T0 r0 (by rw [hro]; rfl)
      refine ⟨some r0, fun i T r hi => ?_, fun r hr => ?_, fun e => by cases e⟩
      · have := rowsOf_mem vs i T r hi
        rw [hro] at this
        simp only [List.mem_singleton, Prod.mk.injEq] at this
        rw [this.2]
      · cases hr
        rw [hro] at o4
        refine ⟨T0, l, ?_, k1⟩
        match ls, o4, k2 with
        | [x], _, k2 => simp at k2; rw [k2]
  obtain ⟨r0, r1, r2, r3⟩ := hrow
  let G' : Gh := ⟨G.fz, fun b => if b < m then G.bs b else if b = m then mb.bind G.bs else none, fun r => if r = 0 then r0.bind G.rs else none⟩
  have hrs : ∀ r v, G'.rs r = some v → r = 0 ∧ ∃ q, r0 = some q ∧ G.rs q = some v := fun r v hr => by
    simp only [G'] at hr
    split at hr
    · rename_i e
      cases hq : r0 with
      | none => rw [hq] at hr; cases hr
      | some q => rw [hq] at hr; exact ⟨e, q, rfl, hr⟩
    · cases hr
  have hbs : ∀ b q, G'.bs b = some q → (b < m ∧ G.bs b = some q) ∨ (b = m ∧ ∃ b', mb = some b' ∧ ¬ b' < m ∧ G.bs b' = some q) := fun b q hq => by
    simp only [G'] at hq
    split at hq
    · exact .inl ⟨‹_›, hq⟩
    · split at hq
      · rename_i e
        rcases hmb with ⟨rfl, _⟩ | ⟨b', cs, rfl, _, hn, _⟩
        · cases hq
        · exact .inr ⟨e, b', rfl, hn, hq⟩
      · cases hq
  have hpl : ∀ {x : U.C} {v : Value}, plain x = true → RepC w G x v → RepC w G' x v := fun {x v} hp hr => by
    cases x <;> first | exact hr | cases hp
  have hBox : ∀ {g p : Nat} {cs : List U.C}, cs.all plain = true → BoxAt w G g p cs → BoxAt w G' g p cs := fun hp hb j x hx => by
    obtain ⟨u, k1, k2, k3, k4⟩ := hb j x hx
    exact ⟨u, k1, k2, hpl (List.all_eq_true.1 hp x (List.mem_of_getElem? hx)) k3, k4⟩
  have hget : ∀ (b : Nat) cs, (bx ++ mbx)[b]? = some cs → cs ≠ [] ∧ cs.all plain = true ∧ ∃ b', σ.boxes[b']? = some cs ∧ ∀ q, G.bs b' = some q → G'.bs b = some q := by
    intro b cs hb
    rw [List.getElem?_append] at hb
    split at hb
    · rename_i hlt
      rw [hm] at hlt
      obtain ⟨cs', k1, k2, k3, k4⟩ := hbx b hlt
      rw [hb] at k1; cases k1
      exact ⟨k3, k4, b, k2, fun q hq => by simp only [G']; rw [if_pos hlt]; exact hq⟩
    · rename_i hlt
      rcases hmb with ⟨_, rfl⟩ | ⟨b', cs', e1, rfl, hn, k2, k3, k4⟩
      · simp at hb
      · rw [List.getElem?_singleton] at hb
        split at hb
        · cases hb
          rename_i e
          have e : b = m := by omega
          refine ⟨k3, k4, b', k2, fun q hq => ?_⟩
          simp only [G']
          rw [if_neg (by omega), if_pos e, e1]
          exact hq
        · cases hb
  refine ⟨fun cs hcs => ?_, G', ?_⟩
  · obtain ⟨b, hb, e⟩ := List.getElem_of_mem hcs
    obtain ⟨k1, k2, _⟩ := hget b cs (by rw [List.getElem?_eq_getElem hb, e])
    exact ⟨k1, k2⟩
  have hcell : ∀ (i : Nat) (x y : U.V) (u : Value), vs[i]? = some x → outV σ m mb x = some y → BDat w G x u → RepV w G' (mapV unC y) u := by
    intro i x y u hi hy hb
    cases x with
    | agg cs =>
      simp only [outV] at hy
      obtain ⟨hp, hy⟩ := bif_some hy
      cases hy
      obtain ⟨us', rfl, k1, k2⟩ := hb
      simp only [mapV]
      rw [plain_un hp]
      refine ⟨us', rfl, by simpa using k1, fun j x hx => ?_⟩
      obtain ⟨u, m1, m2, m3⟩ := k2 j x hx (List.all_eq_true.1 hp x (List.mem_of_getElem? hx))
      exact ⟨u, by simpa using m1, RepC.ofP m3, m2⟩
    | c x =>
      simp only [outV] at hy
      split at hy
      · rename_i z hz
        cases hy
        have pl : ∀ x : U.C, plain x = true → (x = .undef ∨ FL w G [x] [u]) → RepV w G' (mapV unC (.c x)) u := by
          intro x hp hfl
          rcases hfl with rfl | hfl
          · cases hp
          · obtain ⟨u', e1, e2, e3, e4⟩ := hfl.2 0 x rfl
            simp only [List.getElem?_cons_zero, Option.some.injEq] at e1
            subst e1
            have := e3 hp
            have hu : unC x = x := by cases x <;> first | rfl | cases hp
            simp only [mapV, hu]
            exact RepV.ofC (RepC.ofP this)
        cases x with
        | own T r =>
          simp only [outC] at hz
          split at hz
          · rename_i l hl
            cases hz
            obtain ⟨v, hv1, hown⟩ := own_row h hl
            rcases hb with hb | hfl
            · cases hb
            · obtain ⟨u', e1, e2, e3, e4⟩ := hfl.2 0 _ rfl
              simp only [List.getElem?_cons_zero, Option.some.injEq] at e1
              subst e1
              have := e4 T r v rfl hv1
              subst this
              refine RepV.ofC ⟨?_, e2⟩
              simp only [G', if_true, r1 i T r hi, Option.bind_some]
              exact hv1
          · cases hz
        | ptr b o =>
          obtain ⟨g, p, k1, k2⟩ := hb
          rcases outC_ptr hz with ⟨hlt, rfl⟩ | ⟨e, rfl⟩
          · exact RepV.ofC ⟨g, p, by simp only [G']; rw [if_pos hlt]; exact k1, k2⟩
          · exact RepV.ofC ⟨g, p, by simp only [G', if_true, e, Option.bind_some]; rw [if_neg (by omega)]; exact k1, k2⟩
        | undef => cases hz
        | new _ _ => cases hz
        | fat _ _ _ _ => cases hz
        | oat _ _ _ _ => cases hz
        | int _ _ => cases hz; exact pl _ rfl hb
        | bool _ => cases hz; exact pl _ rfl hb
        | sp _ _ _ => cases hz; exact pl _ rfl hb
        | str _ => cases hz; exact pl _ rfl hb
        | nilp => cases hz; exact pl _ rfl hb
        | nils => cases hz; exact pl _ rfl hb
        | sl _ _ => cases hz; exact pl _ rfl hb
        | fn _ => cases hz; exact pl _ rfl hb
      · cases hy
  have hval : RepD w G' (mapD unC (oneD vs')) (oneU us) := by
    have hall : ∀ (i : Nat) y, vs'[i]? = some y → ∃ u, us[i]? = some u ∧ RepV w G' (mapV unC y) u := by
      intro i y hy
      have hlt : i < vs.length := by rw [← o1]; exact (List.getElem?_eq_some_iff.1 hy).1
      have hi : vs[i]? = some vs[i] := List.getElem?_eq_getElem hlt
      obtain ⟨y', k1, k2⟩ := o2 i _ hi
      rw [hy] at k1; cases k1
      obtain ⟨u, m1, m2⟩ := hv i _ hi
      exact ⟨u, m1, hcell i _ _ u hi k2 m2⟩
    have hul : us.length = vs'.length := by rw [hlen, o1]
    match vs', us, hul, hall with
    | [y], [u], _, hall =>
      obtain ⟨u', k1, k2⟩ := hall 0 y rfl
      simp only [List.getElem?_cons_zero, Option.some.injEq] at k1
      subst k1
      exact k2
    | [], [], _, hall => exact ⟨#[], rfl, rfl, fun j x hx => by simp at hx⟩
    | y :: y' :: ys, u :: u' :: us, hul, hall =>
      refine ⟨(u :: u' :: us).toArray, rfl, by simpa using hul, fun j x hx => ?_⟩
      rw [List.getElem?_map] at hx
      cases hj : (y :: y' :: ys)[j]? with
      | none => rw [hj] at hx; cases hx
      | some z =>
        rw [hj] at hx
        simp only [Option.map_some, Option.some.injEq] at hx
        subst hx
        obtain ⟨u2, k1, k2⟩ := hall j z hj
        exact ⟨u2, by simpa using k1, k2⟩
  exact {
    n := rfl
    slot := fun i d hd => by
      cases i with
      | zero => simp only [retSt, List.getElem?_cons_zero, Option.some.injEq] at hd; subst hd; exact ⟨_, rfl, hval⟩
      | succ i => simp [retSt] at hd
    dfr := rfl
    box := fun b cs hb hne => by
      obtain ⟨k1, k2, b', k3, k4⟩ := hget b cs hb
      obtain ⟨g, p, m1, m2⟩ := h.box b' cs k3 hne
      exact ⟨g, p, k4 _ m1, hBox k2 m2⟩
    bdom := fun b q hq => by
      rcases hbs b q hq with ⟨hlt, hg⟩ | ⟨rfl, b', e1, hn, hg⟩
      · obtain ⟨cs, k1, k2, k3, k4⟩ := hbx b hlt
        exact ⟨cs, by simp only [retSt]; rw [List.getElem?_append_left (by omega)]; exact k1, k3⟩
      · rcases hmb with ⟨e, _⟩ | ⟨b2, cs, e, rfl, _, k2, k3, k4⟩
        · rw [e] at e1; cases e1
        · refine ⟨cs, ?_, k3⟩
          simp only [retSt]
          rw [List.getElem?_append_right (by omega)]
          simp [hm]
    row := fun r R hr => by
      simp only [retSt, hnd, List.getElem?_map] at hr
      cases hq : ls[r]? with
      | none => rw [hq] at hr; cases hr
      | some R' =>
        rw [hq] at hr
        simp only [Option.map_some, Option.some.injEq] at hr
        subst hr
        cases hr0 : r0 with
        | none => rw [r3 hr0] at hq; simp at hq
        | some q =>
          obtain ⟨T, l, e1, e2⟩ := r2 q hr0
          rw [e1] at hq
          cases r with
          | zero =>
            simp only [List.getElem?_cons_zero, Option.some.injEq] at hq
            subst hq
            obtain ⟨v, k1, k2⟩ := own_row h e2
            exact ⟨v, by simp only [G', if_true, hr0, Option.bind_some]; exact k1, k2⟩
          | succ r => simp at hq
    rdom := fun r v hr => by
      obtain ⟨rfl, q, e1, e2⟩ := hrs r v hr
      obtain ⟨T, l, k1, k2⟩ := r2 q e1
      exact ⟨⟨T, l⟩, by simp [retSt, hnd, k1]⟩
    fzlt := h.fzlt
    bfz := fun b g p hq => by
      rcases hbs b _ hq with ⟨_, hg⟩ | ⟨_, b', _, _, hg⟩
      · exact h.bfz b g p hg
      · exact h.bfz b' g p hg
    bb := fun b b' g p p' hq hq' => by
      rcases hbs b _ hq with ⟨h1, hg⟩ | ⟨h1, b1, e1, n1, hg⟩ <;> rcases hbs b' _ hq' with ⟨h2, hg'⟩ | ⟨h2, b2, e2, n2, hg'⟩
      · exact h.bb b b' g p p' hg hg'
      · have := h.bb b b2 g p p' hg hg'; omega
      · have := h.bb b1 b' g p p' hg hg'; omega
      · rw [h1, h2]
    rfz := fun r v g hr hg => by
      obtain ⟨rfl, q, e1, e2⟩ := hrs r v hr
      obtain ⟨f1, f2⟩ := h.rfz q v g e2 hg
      refine ⟨f1, fun b z hz => ?_⟩
      rcases hbs b _ hz with ⟨_, hg⟩ | ⟨_, b', _, _, hg⟩
      · exact f2 b z hg
      · exact f2 b' z hg
    rr := fun r r' v v' g hr hr' _ _ => by
      rw [(hrs r v hr).1, (hrs r' v' hr').1]
    fr := { h.fr with
      bs := fun b q hq => by
        simp only [G']
        rw [if_pos (hX b q hq)]
        exact h.fr.bs b q hq
      bsnew := fun b q hq => by
        rcases hbs b _ hq with ⟨_, hg⟩ | ⟨_, b', _, hn, hg⟩
        · exact h.fr.bsnew b q hg
        · rcases h.fr.bsnew b' q hg with e | e
          · exact absurd (hX b' q e) hn
          · exact .inr e }
    lent := fun b q hq cs hcs => by
      have hlt := hX b q hq
      obtain ⟨cs', k1, k2, k3, k4⟩ := hbx b hlt
      simp only [retSt] at hcs
      rw [List.getElem?_append_left (by omega), k1] at hcs
      cases hcs
      exact h.lent b q hq cs k2
    lk := rfl
    lock := fun b hb => by
      obtain ⟨h1, h2⟩ := h.lock b hb
      have hlt : b < m := by omega
      obtain ⟨cs', k1, k2, k3, k4⟩ := hbx b hlt
      rw [h1] at k2; cases k2
      refine ⟨?_, h2⟩
      simp only [retSt]
      rw [List.getElem?_append_left (by omega), k1]
    lockne := h.lockne }
theorem outM_ok (h : Rel X σ a w G) {mb : Option Nat} {r : List (List U.C)} {σ' : St U} (hm : outM σ mb = some (r, σ')) :
    ∃ G', Rel X σ' a w G' ∧ G.ge G' ∧ Same σ σ' ∧ KeepB σ σ' ∧ ((mb = none ∧ r = []) ∨ ∃ b cs, mb = some b ∧ r = [cs] ∧ σ'.boxes[b]? = some cs ∧ cs ≠ [] ∧ cs.all plain = true) := by
  cases mb with
  | none =>
    simp only [outM, Option.some.injEq, Prod.mk.injEq] at hm
    obtain ⟨rfl, rfl⟩ := hm
    exact ⟨G, h, .refl G, .refl σ, .refl σ, .inl ⟨rfl, rfl⟩⟩
  | some b =>
    simp only [outM] at hm
    split at hm
    · rename_i c2 σ1 hf
      obtain ⟨hp, hm⟩ := bif_some hm
      cases hm
      obtain ⟨G1, k1, k2, k3, k4⟩ := box_frz h hf
      simp only [Bool.and_eq_true, Bool.not_eq_true', List.isEmpty_eq_false_iff] at hp
      refine ⟨G1, k1, k2, k3, k4, .inr ⟨b, _, rfl, rfl, ?_, hp.2, hp.1⟩⟩
      have hne := hp.2
      rw [List.getD_eq_getElem?_getD] at hne ⊢
      cases hq : σ'.boxes[b]? with
      | none => rw [hq] at hne; exact absurd rfl hne
      | some cs => rfl
    · cases hm
theorem BDat.ges {G' : Gh} (hg : G.ge G') {vs : List U.V} {us : List Value} (h : ∀ (i : Nat) x, vs[i]? = some x → ∃ u, us[i]? = some u ∧ BDat w G x u) : ∀ (i : Nat) x, vs[i]? = some x → ∃ u, us[i]? = some u ∧ BDat w G' x u := fun i x hx => by
  obtain ⟨u, h1, h2⟩ := h i x hx
  exact ⟨u, h1, h2.ge hg⟩
/-- A function is sound, if what it calls is. -/
theorem fin_sound (hU : UOk P U) {R : Type} {g : Nat} {fn : Func} {c : Code} (hfn : P.funcs[g]? = some fn) (hb : fn.body = some c) {ds : List U.D} {bx : List (List U.C)} {κ : U.D → List (List U.C) → Option R} {r : R} {e : Out} {σ : St U}
    (h2 : ∀ (X : Beg U) a w G, Rel X (start (U.ro g) fn ds bx) a w G → ∀ Q : Exit → Act → World → Prop, (∀ a' w' G', Rel X σ a' w' G' → Q (exitOf e) a' w') → c.wp P Q a w)
    (hfin : finish (U.ro g) (U.rnew g) fn bx σ κ = some r) (hex : exitOf e = .normal ∨ exitOf e = .ret) : ∃ d bx', κ d bx' = some r ∧ (U.ro g = true → bx' = bx) ∧ (newsD d).length ≤ 1 ∧ bx.length ≤ bx'.length ∧
        ∀ (w : World) fz bs vs, Entry U w fz bs ds bx vs → Calls P g vs.toArray w fun e w' => ∃ v, e = .returned v ∧ Exits (begOf w fz bs bx (U.ro g)) d bx' v w' := by
  unfold finish at hfin
  split at hfin
  · rename_i vs0 hres
    split at hfin
    · rename_i vs1 σ1 hagg
      split at hfin
      · rename_i bxr σ2 hbx
        split at hfin
        · rename_i mbx σ3 hmbx
          cases hro : U.ro g && !mbx.isEmpty with
          | true => rw [hro] at hfin; cases hfin
          | false =>
            rw [hro] at hfin
            simp only [cond_false] at hfin
            split at hfin
            · rename_i vs' hout
              obtain ⟨hnews, hfin⟩ := bif_some hfin
              have hnews := Nat.le_of_ble_eq_true hnews
              refine ⟨_, _, hfin, fun hroT => ?_, hnews, ?_, fun w fz bs vs hent => ?_⟩
              · rw [hroT] at hbx hro
                simp only [cond_true, Option.some.injEq, Prod.mk.injEq] at hbx
                have : mbx = [] := by cases mbx with
                  | nil => rfl
                  | cons x xs => simp at hro
                rw [this, ← hbx.1]; simp
              · cases hroT : U.ro g with
                | true =>
                  rw [hroT] at hbx
                  simp only [cond_true, Option.some.injEq, Prod.mk.injEq] at hbx
                  rw [← hbx.1]; simp
                | false =>
                  rw [hroT] at hbx
                  simp only [cond_false] at hbx
                  have : ∀ (m j : Nat) (σ : St U) r σ', outB σ j m = some (r, σ') → r.length = m := by
                    intro m
                    induction m with
                    | zero => intro j σ r σ' h; simp only [outB, Option.some.injEq, Prod.mk.injEq] at h; rw [← h.1]; rfl
                    | succ m ih =>
                      intro j σ r σ' h
                      simp only [outB] at h
                      split at h
                      · obtain ⟨_, h⟩ := bif_some h
                        split at h
                        · rename_i r2 σ2 h2
                          simp only [Option.some.injEq, Prod.mk.injEq] at h
                          rw [← h.1]
                          simp [ih _ _ _ _ h2]
                        · cases h
                      · cases h
                  have := this _ _ _ _ _ hbx
                  simp [this]
              · refine calls_of_wp hfn hb ?_
                refine h2 _ _ _ _ (start_ok (U.ro g) fn hent) _ (fun a' w' G' hR => ?_)
                have hpost : a'.defers = [] ∧ ∃ v, (results fn a'.tmps).run P w' = .ok v w' ∧ ∃ u, Ending.returned v = .returned u ∧ Exits (begOf w fz bs bx (U.ro g)) (oneD vs') (bxr ++ mbx) u w' := by
                  refine ⟨hR.dfr, ?_⟩
                  obtain ⟨us, r1, r2, r3⟩ := res_ok hU hR _ _ hres
                  refine ⟨oneU us, results_run r1, _, rfl, ?_⟩
                  obtain ⟨G1, k1, k2, k5, k6, _⟩ := frzRes_ok hU (U.rnew g) vs0 fn.resultTypes.toList us σ G' vs1 σ1 hR r2 (fun i x hx => by
                    obtain ⟨u, e1, e2⟩ := r3 i x hx
                    refine ⟨fun c hc T q e => ?_, u, e1, ADat.of (d := .v x) e2⟩
                    subst e
                    have : ∃ u, G'.rs q = some u := by
                      cases x with
                      | c y => simp only [vcells, List.mem_singleton] at hc; subst hc; exact ⟨_, e2.1.1⟩
                      | agg cs =>
                        obtain ⟨us', rfl, _, hh⟩ := e2
                        obtain ⟨jj, hj, ej⟩ := List.getElem_of_mem hc
                        obtain ⟨z, _, z2, _⟩ := hh jj (.own T q) (by rw [List.getElem?_eq_getElem (by exact hj)]; exact congrArg some ej)
                        exact ⟨_, z2.1⟩
                    obtain ⟨z, hz⟩ := this
                    obtain ⟨R', hR'⟩ := hR.rdom q z hz
                    exact (List.getElem?_eq_some_iff.1 hR').1) hagg
                  have hXm : ∀ b q, (begOf w fz bs bx (U.ro g)).G.bs b = some q → b < bx.length := fun b q hq => hent.bdom b q hq
                  cases hroT : U.ro g with
                  | true =>
                    rw [hroT] at hbx
                    simp only [cond_true, Option.some.injEq, Prod.mk.injEq] at hbx
                    obtain ⟨e1, e2⟩ := hbx
                    subst e1; subst e2
                    obtain ⟨G3, m1, m2, m3, m4, m5⟩ := outM_ok k1 hmbx
                    rw [hroT] at m1
                    refine ret_ok m1 (m := bx.length) (by rw [r2, k5]) (BDat.ges m2 k6) hout hnews (by rw [hroT] at hXm; exact hXm) rfl (fun b hb => ?_) ?_ (by simp [begOf])
                    · obtain ⟨l1, l2⟩ := m1.lock b (by simpa [begOf] using hb)
                      have e : (begOf (U := U) w fz bs bx true).cs b = bx[b] := by simp [begOf, List.getD_eq_getElem?_getD, hb]
                      refine ⟨bx[b], List.getElem?_eq_getElem hb, by rw [l1, e], ?_, by rw [← e]; exact l2⟩
                      rw [← e]
                      exact m1.lockne b (by simpa [begOf] using hb)
                    · rcases m5 with m5 | ⟨b, cs, e1, e2, e3, e4, e5⟩
                      · exact .inl m5
                      · exact .inr ⟨b, cs, e1, e2, madeBox_ge _ e1, e3, e4, e5⟩
                  | false =>
                    rw [hroT] at hbx
                    simp only [cond_false] at hbx
                    obtain ⟨G2, n1, n2, n3, n4, n5, n6⟩ := outB_ok bx.length 0 σ1 G1 bxr σ2 k1 hbx
                    obtain ⟨G3, m1, m2, m3, m4, m5⟩ := outM_ok n1 hmbx
                    rw [hroT] at m1
                    refine ret_ok m1 (m := bx.length) (by rw [r2, k5]) (BDat.ges (n2.trans m2) k6) hout hnews (by rw [hroT] at hXm; exact hXm) n5 (fun b hb => ?_) ?_ (by simp [begOf])
                    · obtain ⟨l1, l2⟩ := n6 b hb
                      rw [Nat.zero_add] at l1 l2
                      have hkeep := keep_whole m4 m3 l2
                      obtain ⟨_, _, g0, p0, z1, _⟩ := hent.box b bx[b] (List.getElem?_eq_getElem hb)
                      have z2 := m1.fr.bs b (g0, p0) z1
                      obtain ⟨cs, z3, z4⟩ := m1.bdom b _ z2
                      have z5 : σ3.boxes.getD b [] = cs := by rw [List.getD_eq_getElem?_getD, z3]; rfl
                      rw [hkeep] at z5
                      rw [z5] at l1 l2
                      exact ⟨cs, l1, z3, z4, l2⟩
                    · rcases m5 with m5 | ⟨b, cs, e1, e2, e3, e4, e5⟩
                      · exact .inl m5
                      · exact .inr ⟨b, cs, e1, e2, madeBox_ge _ e1, e3, e4, e5⟩
                rcases hex with e | e <;> rw [e] <;> exact hpost
            · cases hfin
        · cases hfin
      · cases hfin
    · cases hfin
  · cases hfin
theorem fn_sound (hU : UOk P U) {R : Type} {F : Nat → Fn U R} (hF : ∀ g, Sound P F g) (hD : DrawOk P F) {L : Hn U R} {g : Nat} {fn : Func} (hL : ∀ c, fn.body = some c → ∀ c' ∈ loopsOf c, LoopOk P L c') (hfn : P.funcs[g]? = some fn) (hname : (fn.name == "runtime.NumGoroutine") = false)
    {ds : List U.D} {bx : List (List U.C)} {κ : U.D → List (List U.C) → Option R} {r : R} (h : evFn F L (U.ro g) (U.rnew g) fn ds bx κ = some r) :
    (∃ fn, P.funcs[g]? = some fn ∧ fn.body.isNone = false ∧ (fn.name == "runtime.NumGoroutine") = false) ∧ ∃ d bx', κ d bx' = some r ∧ (U.ro g = true → bx' = bx) ∧ (newsD d).length ≤ 1 ∧ bx.length ≤ bx'.length ∧
    ∀ (w : World) fz bs vs, Entry U w fz bs ds bx vs → Calls P g vs.toArray w fun e w' => ∃ v, e = .returned v ∧ Exits (begOf w fz bs bx (U.ro g)) d bx' v w' := by
  unfold evFn at h
  split at h
  · rename_i c hb
    refine ⟨⟨fn, hfn, by rw [hb]; rfl, hname⟩, ?_⟩
    obtain ⟨e, σ, h1, h2⟩ := code_ok hU hF hD L c (hL c hb) _ _ r h
    have key := fun hfin hex => fin_sound (e := e) (σ := σ) (κ := κ) (r := r) hU hfn hb h2 hfin hex
    cases e with
    | normal => exact key h1 (.inl rfl)
    | ret => exact key h1 (.inr rfl)
    | exit id => cases h1
  · cases h
end
end Go.Proofs.Ytogfofcocidmkaa.Ev
