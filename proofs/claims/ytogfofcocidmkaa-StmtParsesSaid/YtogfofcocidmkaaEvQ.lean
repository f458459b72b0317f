/- EV (ours), part Q: a function. -/
import Derived.Test.YtogfofcocidmkaaEvP
set_option linter.unusedVariables false
set_option linter.unusedSimpArgs false
namespace Go.Proofs.Ytogfofcocidmkaa.Ev
open Go.RowKit
section
variable {U : Uni} {X : Beg U} {σ : St U} {a : Act} {w w' : World} {G : Gh} {P : Program}

theorem start_ok {fz : Nat → Prop} {bs : Nat → Option (Nat × Nat)} {ds : List U.D} {bx : List (List U.C)} {vs : List Value} (ro : Bool) (fn : Func) (h : Entry U w fz bs ds bx vs) :
    Rel (begOf w fz bs bx ro) (start ro fn ds bx) ⟨vs.toArray ++ Array.replicate (fn.ntmps - vs.toArray.size) undef, []⟩ w ⟨fz, bs, fun _ => none⟩ where
  n := by simp [start, h.len]
  slot := fun i d hd => by
    simp only [start, List.getElem?_append] at hd
    split at hd
    · rename_i hlt
      obtain ⟨v, h1, h2⟩ := h.arg i d hd
      refine ⟨v, ?_, h2⟩
      rw [Array.getElem?_append_left (by simp [h.len]; exact hlt)]
      simpa using h1
    · rename_i hlt
      rw [List.getElem?_replicate] at hd
      split at hd
      · rename_i h2
        cases hd
        refine ⟨undef, ?_, rep_undef _⟩
        rw [Array.getElem?_append_right (by simp [h.len]; omega)]
        rw [Array.getElem?_replicate, if_pos (by simp [h.len]; omega)]
      · cases hd
  dfr := rfl
  box := fun b cs hb hne => (h.box b cs hb).2.2
  bdom := fun b q hq => by
    have hlt := h.bdom b q hq
    have hb : bx[b]? = some bx[b] := List.getElem?_eq_getElem hlt
    exact ⟨bx[b], hb, (h.box b _ hb).1⟩
  row := fun r R hr => by simp [start] at hr
  rdom := fun r v hr => by cases hr
  fzlt := h.fzlt
  bfz := h.bfz
  bb := h.bb
  rfz := fun r v g hr => by cases hr
  rr := fun r r' v v' g hr => by cases hr
  fr := {
    blt := fun b q hq => (h.bfz b q.1 q.2 hq).2
    os := rfl
    tape := rfl
    output := rfl
    size := Nat.le_refl _
    blk := fun _ _ _ => rfl
    out := fun _ _ _ _ _ _ => ⟨rfl, rfl⟩
    bs := fun _ _ h => h
    fz := fun _ h => h
    fznew := fun _ h => .inl h
    bsnew := fun _ _ h => .inl h }
  lent := fun b q hq cs hcs => by
    simp only [start] at hcs
    simp [begOf, List.getD_eq_getElem?_getD, hcs]
  lk := rfl
  lock := fun b hb => by
    cases ro with
    | false => simp [begOf] at hb
    | true =>
      have hlt : b < bx.length := by simpa [begOf] using hb
      have hbb : bx[b]? = some bx[b] := List.getElem?_eq_getElem hlt
      have e : bx.getD b [] = bx[b] := by rw [List.getD_eq_getElem?_getD, hbb]; rfl
      refine ⟨?_, ?_⟩
      · simp only [start, begOf, e]; exact hbb
      · simp only [begOf, e]; exact (h.box b _ hbb).2.1
  lockne := fun b hb => by
    cases ro with
    | false => simp [begOf] at hb
    | true =>
      have hlt : b < bx.length := by simpa [begOf] using hb
      have hbb : bx[b]? = some bx[b] := List.getElem?_eq_getElem hlt
      have e : bx.getD b [] = bx[b] := by rw [List.getD_eq_getElem?_getD, hbb]; rfl
      simp only [begOf, e]; exact (h.box b _ hbb).1
def resOne (tmps : Array Value) : ResultVar → Sem Value
  | .tmp t => pure (tmps.getD t undef)
  | .cell p t => do loadVar t (← asAddr (tmps.getD p undef))
theorem res_ok (hU : UOk P U) (h : Rel X σ a w G) : ∀ (rs : List ResultVar) (vs : List U.V), resV σ rs = some vs →
    ∃ us : List Value, (rs.mapM (resOne a.tmps)).run P w = .ok us w ∧ us.length = vs.length ∧ ∀ (i : Nat) x, vs[i]? = some x → ∃ u, us[i]? = some u ∧ RepV w G x u
  | [], vs, hr => by
    simp only [resV, Option.some.injEq] at hr
    subst hr
    exact ⟨[], by simp, rfl, fun i x hx => by simp at hx⟩
  | .tmp t :: rs, vs, hr => by
    simp only [resV] at hr
    split at hr
    · rename_i v r h1 h2
      cases hr
      obtain ⟨us, k1, k2, k3⟩ := res_ok hU h rs r h2
      have hA := ev_ok h (.tmp t)
      simp only [St.ev, h1, Act.eval] at hA
      have h0 : (resOne a.tmps (.tmp t)).run P w = .ok (a.tmps.getD t undef) w := by simp only [resOne, Sem.run_pure]
      refine ⟨a.tmps.getD t undef :: us, by simp only [List.mapM_cons, Sem.run_bind, h0, Result.andThen_ok, k1, Sem.run_pure], by simp [k2], fun i x hx => ?_⟩
      cases i with
      | zero => simp only [List.getElem?_cons_zero, Option.some.injEq] at hx; subst hx; exact ⟨_, rfl, hA⟩
      | succ i => simpa using k3 i x (by simpa using hx)
    · cases hr
  | .cell p T :: rs, vs, hr => by
    simp only [resV] at hr
    split at hr
    · rename_i t r ht h2
      split at hr
      · rename_i cs hc
        split at hr
        · rename_i v hv
          cases hr
          obtain ⟨us, k1, k2, k3⟩ := res_ok hU h rs r h2
          have hA := ev_ok h (.tmp p)
          simp only [St.ev, Act.eval] at hA
          obtain ⟨ad, e, hrep, hl, hex⟩ := cells_ok hU h hA (sz_pos hU ht) hc
          obtain ⟨z, hz, hrun⟩ := run_loadVar_ (P := P) hU ht hv hrep hex
          have h0 : (resOne a.tmps (.cell p T)).run P w = .ok z w := by simp only [resOne, e, asAddr, Sem.run_bind, Sem.run_pure, Result.andThen_ok, hrun]
          refine ⟨z :: us, by simp only [List.mapM_cons, Sem.run_bind, h0, Result.andThen_ok, k1, Sem.run_pure], by simp [k2], fun i x hx => ?_⟩
          cases i with
          | zero => simp only [List.getElem?_cons_zero, Option.some.injEq] at hx; subst hx; exact ⟨_, rfl, hz⟩
          | succ i => simpa using k3 i x (by simpa using hx)
        · cases hr
      · cases hr
    · cases hr
def oneU : List Value → Value
  | [u] => u
  | us => .tuple us.toArray
theorem results_run {fn : Func} {us : List Value} (h : (fn.results.toList.mapM (resOne a.tmps)).run P w = .ok us w) : (results fn a.tmps).run P w = .ok (oneU us) w := by
  have e : results fn a.tmps = (do let vs ← fn.results.mapM (resOne a.tmps); pure (if h : vs.size = 1 then vs[0] else .tuple vs)) := by
    unfold results
    congr 2
  rw [e, Array.mapM_eq_mapM_toList]
  simp only [Sem.run_bind, Sem.run_map, h, Result.andThen_ok, Sem.run_pure]
  congr 1
  match us with
  | [] => rfl
  | [u] => rfl
  | u :: v :: us => simp [oneU]

/-! ### the end of a function -/
/-- A result, while rows are frozen. -/
def BDat (w : World) (G : Gh) : U.V → Value → Prop
  | .c x, v => ADat w G (.v (.c x)) v
  | .agg cs, v => ∃ us : Array Value, v = .agg us ∧ PL w G.fz cs us.toList
theorem BDat.ge {G' : Gh} (hg : G.ge G') {x : U.V} {v : Value} (h : BDat w G x v) : BDat w G' x v := by
  cases x with
  | c x => exact ADat.ge hg h
  | agg cs =>
    obtain ⟨us, rfl, h1, h2⟩ := h
    refine ⟨us, rfl, h1, fun j x hx hp => ?_⟩
    obtain ⟨u, k1, k2, k3⟩ := h2 j x hx hp
    exact ⟨u, k1, k2, k3.mono hg.fz (fun _ _ => rfl)⟩
theorem frz_keep {cs cs' : List U.C} {σ' : St U} (hf : σ.frz cs = some (cs', σ')) (hs : Same σ σ') : KeepB σ σ' := fun b o n r h hp => sub_keep hf hs h hp
theorem frz_noown : ∀ {cs cs' : List U.C} {σ σ' : St U}, σ.frz cs = some (cs', σ') → ∀ {x : U.C}, x ∈ cs' → ∀ {T q : Nat}, x = .own T q → False := by
  intro cs
  induction cs with
  | nil => intro cs' σ σ' h x hx; simp only [St.frz, Option.some.injEq, Prod.mk.injEq] at h; rw [← h.1] at hx; simp at hx
  | cons y cs ih =>
    intro cs' σ σ' h x hx T q e
    have other : ∀ z : U.C, (∀ T q, z ≠ .own T q) → (match σ.frz cs with | some (cs', σ2) => some (z :: cs', σ2) | none => none) = some (cs', σ') → False := by
      intro z hz h
      split at h
      · rename_i c2 σ2 hc
        simp only [Option.some.injEq, Prod.mk.injEq] at h
        rw [← h.1] at hx
        rcases List.mem_cons.1 hx with rfl | hx
        · exact hz T q e
        · exact ih hc hx e
      · cases h
    cases y with
    | own T' r =>
      simp only [St.frz] at h
      split at h
      · split at h
        · split at h
          · rename_i c2 σ2 hc
            simp only [Option.some.injEq, Prod.mk.injEq] at h
            rw [← h.1] at hx
            rcases List.mem_cons.1 hx with rfl | hx
            · cases e
            · exact ih hc hx e
          · cases h
        · cases h
      · cases h
    | _ => exact other _ (by simp) h
/-- Rows that are named are there. -/
def Named (n : Nat) (x : U.V) : Prop := ∀ c ∈ vcells x, ∀ T r, c = .own T r → r < n
theorem ADat.row {n : Nat} {v0 : Value} {x : U.V} {u : Value} (hn : Named n x) (h : ADat w G (.v x) u) : ADat w ⟨G.fz, G.bs, fun q => if q = n then some v0 else G.rs q⟩ (.v x) u := by
  have key : ∀ (cs : List U.C) us, (∀ c ∈ cs, ∀ T r, c = .own T r → r < n) → FL w G cs us → FL w ⟨G.fz, G.bs, fun q => if q = n then some v0 else G.rs q⟩ cs us := fun cs us hc hf =>
    ⟨hf.1, fun j x hx => by
      obtain ⟨u, h1, h2, h3, h4⟩ := hf.2 j x hx
      refine ⟨u, h1, h2, h3, fun T r v e hv => ?_⟩
      have hlt := hc x (List.mem_of_getElem? hx) T r e
      simp only at hv
      rw [if_neg (by omega)] at hv
      exact h4 T r v e hv⟩
  cases x with
  | agg cs => obtain ⟨us, rfl, hf⟩ := h; exact ⟨us, rfl, key cs _ hn hf⟩
  | c x =>
    cases x with
    | ptr b o => exact h
    | _ => exact h.imp id (fun hf => key _ _ hn hf)
theorem BDat.row {n : Nat} {v0 : Value} {x : U.V} {u : Value} (hn : Named n x) (h : BDat w G x u) : BDat w ⟨G.fz, G.bs, fun q => if q = n then some v0 else G.rs q⟩ x u := by
  cases x with
  | agg cs => exact h
  | c x => exact ADat.row hn h
theorem freeze_rows {σ' : St U} {r : Nat} (h : σ.freeze r = some σ') : σ'.rows.length = σ.rows.length := (freeze_same h).nr
structure GeB (σ σ' : St U) (G G' : Gh) : Prop where
  fz : ∀ g, G.fz g → G'.fz g
  bs : G'.bs = G.bs
  nb : σ'.boxes.length = σ.boxes.length
  bl : ∀ b, (σ'.boxes.getD b []).length = (σ.boxes.getD b []).length
  keep : KeepB σ σ'
  nr : σ.rows.length ≤ σ'.rows.length
theorem frzRes_ok (hU : UOk P U) (rn : Bool) : ∀ (vs : List U.V) (ts : List Nat) (us : List Value) (σ : St U) (G : Gh) (vs' : List U.V) (σ' : St U), Rel X σ a w G → us.length = vs.length → (∀ (i : Nat) x, vs[i]? = some x → Named σ.rows.length x ∧ ∃ u, us[i]? = some u ∧ ADat w G (.v x) u) → frzRes rn σ ts vs = some (vs', σ') →
    ∃ G', Rel X σ' a w G' ∧ GeB σ σ' G G' ∧ vs'.length = vs.length ∧ (∀ (i : Nat) x, vs'[i]? = some x → ∃ u, us[i]? = some u ∧ BDat w G' x u) ∧
      ∀ (x : U.V) u, Named σ.rows.length x → BDat w G x u → BDat w G' x u
  | [], ts, us, σ, G, vs', σ', h, hl, hv, hf => by
    simp only [frzRes, Option.some.injEq, Prod.mk.injEq] at hf
    obtain ⟨rfl, rfl⟩ := hf
    exact ⟨G, h, ⟨fun _ h => h, rfl, rfl, fun _ => rfl, .refl σ, Nat.le_refl _⟩, rfl, fun i x hx => by simp at hx, fun x u _ h => h⟩
  | v :: vs, ts, [], σ, G, vs', σ', h, hl, hv, hf => by simp at hl
  | v :: vs, ts, u :: us, σ, G, vs', σ', h, hl, hv, hf => by
    obtain ⟨hn0, hv0⟩ := hv 0 v rfl
    simp only [List.getElem?_cons_zero, Option.some.injEq, exists_eq_left'] at hv0
    have hvt : ∀ (i : Nat) x, vs[i]? = some x → Named σ.rows.length x ∧ ∃ u, us[i]? = some u ∧ ADat w G (.v x) u := fun i x hx => by simpa using hv (i + 1) x (by simpa using hx)
    have hl' : us.length = vs.length := by simpa using hl
    -- what stays: the value goes on as y in a state that can tell no less
    have go : ∀ (y : U.V) (σ1 : St U) (G1 : Gh) (r : List U.V) (σ2 : St U), Rel X σ1 a w G1 → GeB σ σ1 G G1 → (∀ (x : U.V) u, Named σ.rows.length x → ADat w G (.v x) u → ADat w G1 (.v x) u) → (∀ (x : U.V) u, Named σ.rows.length x → BDat w G x u → BDat w G1 x u) → Named σ1.rows.length y → BDat w G1 y u →
        frzRes rn σ1 ts.tail vs = some (r, σ2) → ∃ G', Rel X σ2 a w G' ∧ GeB σ σ2 G G' ∧ (y :: r).length = (v :: vs).length ∧ (∀ (i : Nat) x, (y :: r)[i]? = some x → ∃ u', (u :: us)[i]? = some u' ∧ BDat w G' x u') ∧ ∀ (x : U.V) u, Named σ.rows.length x → BDat w G x u → BDat w G' x u := by
      intro y σ1 G1 r σ2 h1 hg hA hB hny hy hr
      obtain ⟨G', k1, k2, k3, k4, k5⟩ := frzRes_ok hU rn vs ts.tail us σ1 G1 r σ2 h1 hl' (fun i x hx => by
        obtain ⟨m1, u, m2, m3⟩ := hvt i x hx
        exact ⟨fun c hc T q e => Nat.lt_of_lt_of_le (m1 c hc T q e) hg.nr, u, m2, hA x u m1 m3⟩) hr
      refine ⟨G', k1, ⟨fun g h => k2.fz g (hg.fz g h), k2.bs.trans hg.bs, k2.nb.trans hg.nb, fun b => (k2.bl b).trans (hg.bl b), hg.keep.trans k2.keep, Nat.le_trans hg.nr k2.nr⟩, by simp [k3], fun i x hx => ?_, fun x u hx hb => ?_⟩
      · cases i with
        | zero => simp only [List.getElem?_cons_zero, Option.some.injEq] at hx; subst hx; exact ⟨u, rfl, k5 y u hny hy⟩
        | succ i => simpa using k4 i x (by simpa using hx)
      · exact k5 x u (fun c hc T q e => Nat.lt_of_lt_of_le (hx c hc T q e) hg.nr) (hB x u hx hb)
    have same : GeB σ σ G G := ⟨fun _ h => h, rfl, rfl, fun _ => rfl, .refl σ, Nat.le_refl _⟩
    have fr : ∀ {σ1 : St U} {G1 : Gh}, G.ge G1 → Same σ σ1 → KeepB σ σ1 → GeB σ σ1 G G1 := fun hg hs hk => ⟨hg.fz, hg.bs, hs.nb, hs.bl, hk, Nat.le_of_eq hs.nr.symm⟩
    have kept : ∀ x : U.C, v = .c x → (match frzRes rn σ ts.tail vs with | some (r, σ1) => some (.c x :: r, σ1) | none => none) = some (vs', σ') →
        ∃ G', Rel X σ' a w G' ∧ GeB σ σ' G G' ∧ vs'.length = (v :: vs).length ∧ (∀ (i : Nat) x, vs'[i]? = some x → ∃ u', (u :: us)[i]? = some u' ∧ BDat w G' x u') ∧ ∀ (x : U.V) u, Named σ.rows.length x → BDat w G x u → BDat w G' x u := by
      intro x hx hf2
      clear hf
      subst hx
      split at hf2
      · rename_i r σ1 hr
        cases hf2
        exact go _ σ G r _ h same (fun _ _ _ h => h) (fun _ _ _ h => h) hn0 hv0 hr
      · cases hf2
    cases v with
    | agg cs =>
      simp only [frzRes] at hf
      split at hf
      · rename_i cs' σ1 hc
        split at hf
        · rename_i r σ2 hr
          cases hf
          obtain ⟨us', rfl, hfl⟩ := hv0
          obtain ⟨G1, k1, k2, k3, k4, k5⟩ := frz_ok h hfl hc
          refine go _ σ1 G1 r _ k1 (fr k2 k3 (frz_keep hc k3)) (fun x u _ hx => hx.ge k2) (fun x u _ hx => hx.ge k2) ?_ ?_ hr
          · intro c hc' T q e
            subst e
            simp only [canonV] at hc'
            split at hc'
            · have := hU.encp _ _ _ hc'
              cases this
            · rename_i hdec
              -- a row in a struct has been frozen
              exact (frz_noown hc hc' rfl).elim
          · simp only [canonV]
            split
            · rename_i x hx
              obtain ⟨d1, d2⟩ := hU.dec _ cs' x hx
              refine ⟨us', rfl, by rw [k4.1, d1], fun j d hd _ => ?_⟩
              have hjl : j < cs'.length := by rw [d1]; exact (List.getElem?_eq_some_iff.1 hd).1
              have hcj : cs'[j]? = some cs'[j] := List.getElem?_eq_getElem hjl
              obtain ⟨d', e1, e2⟩ := d2 j _ hcj
              rw [hd] at e1; cases e1
              rcases e2 with e2 | ⟨e2, T', rfl⟩
              · obtain ⟨z, m1, m2, m3⟩ := k4.2 j _ hcj (by rw [e2]; exact hU.encp _ x d (List.mem_of_getElem? hd))
                exact ⟨z, m1, m2, by rw [← e2]; exact m3⟩
              · obtain ⟨z, m1, m2, m3⟩ := k4.2 j _ hcj (by rw [e2]; rfl)
                rw [e2] at m3
                exact ⟨z, m1, m2, nils_sl m3⟩
            · exact ⟨us', rfl, k4⟩
        · cases hf
      · cases hf
    | c x =>
      cases x with
      | nils =>
        simp only [frzRes] at hf
        split at hf
        · rename_i T hT
          have hp : RepP w G.fz (.nils : U.C) u := by
            rcases hv0 with e | hfl
            · cases e
            · obtain ⟨u', e1, _, e3, _⟩ := hfl.2 0 _ rfl
              simp only [List.getElem?_cons_zero, Option.some.injEq] at e1
              subst e1
              exact e3 rfl
          cases rn with
          | true =>
            simp only [cond_true] at hf
            split at hf
            · rename_i r σ1 hr
              cases hf
              refine go _ _ _ r _ (h.newRowG T) ⟨fun _ h => h, rfl, rfl, fun _ => rfl, fun b o n r h _ => h, by simp [St.newRow]⟩ (fun x u hx hA => ADat.row hx hA) (fun x u hx hB => BDat.row hx hB) (fun c hc T' q e => ?_) ?_ hr
              · simp only [vcells, List.mem_singleton] at hc
                rw [hc] at e; cases e
                simp [St.newRow]
              · refine .inr ⟨rfl, fun j y hy => ?_⟩
                cases j with
                | zero =>
                  simp only [List.getElem?_cons_zero, Option.some.injEq] at hy
                  subst hy
                  have hu : u = .slice none 0 0 := by cases hp; rfl
                  subst hu
                  refine ⟨_, rfl, rfl, fun hp => (by cases hp), fun T' q v e hv => ?_⟩
                  cases e
                  simp only [if_true, Option.some.injEq] at hv
                  exact hv
                | succ j => simp at hy
            · cases hf
          | false =>
            simp only [cond_false] at hf
            split at hf
            · rename_i r σ1 hr
              cases hf
              refine go _ σ G r _ h same (fun _ _ _ h => h) (fun _ _ _ h => h) (fun c hc T' q e => by simp only [vcells, List.mem_singleton] at hc; rw [hc] at e; cases e) (.inr ⟨rfl, fun j y hy => ?_⟩) hr
              cases j with
              | zero =>
                simp only [List.getElem?_cons_zero, Option.some.injEq] at hy
                subst hy
                exact ⟨u, rfl, hp.one, fun _ => nils_sl hp, fun T' q v e => by cases e⟩
              | succ j => simp at hy
            · cases hf
        · exact kept _ rfl hf
      | own T q =>
        simp only [frzRes] at hf
        cases rn with
        | true => exact kept _ rfl hf
        | false =>
          simp only [cond_false] at hf
          split at hf
          · rename_i l σ1 hl2 hfz
            split at hf
            · rename_i r σ2 hr
              cases hf
              obtain ⟨G1, R, v, m1, m2, m3, m4, m5, m6, m7, m8, m9⟩ := h.freeze' hfz
              have hR := rowAt_some hl2
              rw [m3] at hR
              cases hR
              have hu : u = v ∧ u.oneCell' = true := by
                rcases hv0 with e | hfl
                · cases e
                · obtain ⟨u', e1, e2, e3, e4⟩ := hfl.2 0 _ rfl
                  simp only [List.getElem?_cons_zero, Option.some.injEq] at e1
                  subst e1
                  exact ⟨e4 T q v rfl m4, e2⟩
              obtain ⟨rfl, hone⟩ := hu
              refine go _ σ1 G1 r _ m1 (fr m2 (freeze_same hfz) (fun b o n r' hs hp => ?_)) (fun x u _ hx => hx.ge m2) (fun x u _ hx => hx.ge m2) (fun c hc T' q e => by simp only [vcells, List.mem_singleton] at hc; rw [hc] at e; cases e) (.inr ⟨rfl, fun j y hy => ?_⟩) hr
              · obtain ⟨s1, s2, s3, s4⟩ := sub_some hs
                have hl3 := (freeze_same hfz).bl b
                have hb : (o + n).ble (σ1.boxes.getD b []).length = true := Nat.ble_eq_true_of_le (by rw [hl3]; exact s1)
                unfold sub
                rw [hb, cond_true]
                congr 1
                apply List.ext_getElem?
                intro jj
                by_cases hj : jj < n
                · rw [List.getElem?_take, if_pos hj, List.getElem?_drop]
                  have hjr : jj < r'.length := by omega
                  have hrr : r'[jj]? = some r'[jj] := List.getElem?_eq_getElem hjr
                  rw [hrr]
                  refine freeze_plain hfz ?_ (List.all_eq_true.1 hp _ (List.getElem_mem hjr))
                  rw [← sub_get hs hj, hrr]
                · rw [List.getElem?_eq_none (by rw [List.length_take]; omega), List.getElem?_eq_none (by omega)]
              · cases j with
                | zero =>
                  simp only [List.getElem?_cons_zero, Option.some.injEq] at hy
                  subst hy
                  exact ⟨u, rfl, hone, fun _ => m7, fun T' q v e => by cases e⟩
                | succ j => simp at hy
            · cases hf
          · cases hf
      | _ => exact kept _ rfl hf
theorem whole {cs : List U.C} : sub cs 0 cs.length = some cs := by
  unfold sub
  have : (0 + cs.length).ble cs.length = true := by simp
  rw [this]
  simp
theorem box_frz (h : Rel X σ a w G) {b : Nat} {c2 : List U.C} {σ1 : St U} (hf : σ.frz (σ.boxes.getD b []) = some (c2, σ1)) : ∃ G1, Rel X σ1 a w G1 ∧ G.ge G1 ∧ Same σ σ1 ∧ KeepB σ σ1 := by
  obtain ⟨vs, hr⟩ := sub_rep h (whole (cs := σ.boxes.getD b []))
  obtain ⟨G1, k1, k2, k3, k4, k5⟩ := frz_ok h hr.fl hf
  exact ⟨G1, k1, k2, k3, frz_keep hf k3⟩
theorem keep_whole {σ' : St U} (hk : KeepB σ σ') (hs : Same σ σ') {b : Nat} (hp : (σ.boxes.getD b []).all plain = true) : σ'.boxes.getD b [] = σ.boxes.getD b [] := by
  have := hk b 0 _ _ whole hp
  rw [← hs.bl b, whole] at this
  exact Option.some.inj this
theorem outB_ok : ∀ (m j : Nat) (σ : St U) (G : Gh) (r : List (List U.C)) (σ' : St U), Rel X σ a w G → outB σ j m = some (r, σ') →
    ∃ G', Rel X σ' a w G' ∧ G.ge G' ∧ Same σ σ' ∧ KeepB σ σ' ∧ r.length = m ∧ ∀ i, i < m → r[i]? = some (σ'.boxes.getD (j + i) []) ∧ (σ'.boxes.getD (j + i) []).all plain = true
  | 0, j, σ, G, r, σ', h, hb => by
    simp only [outB, Option.some.injEq, Prod.mk.injEq] at hb
    obtain ⟨rfl, rfl⟩ := hb
    exact ⟨G, h, .refl G, .refl σ, .refl σ, rfl, fun i hi => absurd hi (by omega)⟩
  | m + 1, j, σ, G, r, σ', h, hb => by
    simp only [outB] at hb
    split at hb
    · rename_i c2 σ1 hf
      obtain ⟨hp, hb⟩ := bif_some hb
      split at hb
      · rename_i r2 σ2 hr
        simp only [Option.some.injEq, Prod.mk.injEq] at hb
        obtain ⟨rfl, rfl⟩ := hb
        obtain ⟨G1, k1, k2, k3, k4⟩ := box_frz h hf
        obtain ⟨G', m1, m2, m3, m4, m5, m6⟩ := outB_ok m (j + 1) σ1 G1 r2 σ2 k1 hr
        refine ⟨G', m1, k2.trans m2, k3.trans m3, k4.trans m4, by simp [m5], fun i hi => ?_⟩
        cases i with
        | zero =>
          have := keep_whole m4 m3 hp
          rw [Nat.add_zero, this]
          exact ⟨rfl, hp⟩
        | succ i =>
          have := m6 i (by omega)
          rw [show j + (i + 1) = j + 1 + i by omega]
          simpa using this
      · cases hb
    · cases hb
theorem madeBox_ge {m : Nat} : ∀ (vs : List U.V) {b : Nat}, madeBox m vs = some b → ¬ b < m
  | [], b, h => by simp [madeBox] at h
  | v :: vs, b, h => by
    unfold madeBox at h
    split at h
    · cases h
    · rename_i b' o vs' e
      cases e
      cases hb : Nat.blt b' m with
      | true => rw [hb] at h; exact madeBox_ge vs h
      | false =>
        rw [hb] at h
        simp only [cond_false, Option.some.injEq] at h
        subst h
        intro hlt
        have : Nat.blt b' m = true := Nat.ble_eq_true_of_le hlt
        rw [hb] at this; cases this
    · rename_i e
      cases e
      exact madeBox_ge vs h
end
end Go.Proofs.Ytogfofcocidmkaa.Ev
