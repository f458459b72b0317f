/- EV (ours), part O: regions that draw their order. -/
import Derived.Test.YtogfofcocidmkaaEvP
set_option linter.unusedVariables false
set_option linter.unusedSimpArgs false
namespace Go.Proofs.Ytogfofcocidmkaa.Ev
open Go.RowKit
section
variable {U : Uni} {X : Beg U} {σ σ' : St U} {a : Act} {w w' : World} {G : Gh} {P : Program}

/-- Two states that an operation cannot tell apart. -/
structure Agree (sr br : List Nat) (σ σ' : St U) : Prop where
  rows : σ'.rows = σ.rows
  lk : σ'.lk = σ.lk
  ns : σ'.slots.length = σ.slots.length
  nb : σ'.boxes.length = σ.boxes.length
  slot : ∀ t ∈ sr, σ'.slots[t]? = σ.slots[t]?
  box : ∀ b ∈ br, σ'.boxes[b]? = σ.boxes[b]?
theorem mem_tmps {x : Nat} : ∀ {l : List Operand}, .tmp x ∈ l → x ∈ tmpsOf l
  | .tmp t :: l, h => by
    rcases List.mem_cons.1 h with e | h
    · cases e; simp [tmpsOf]
    · simp [tmpsOf, mem_tmps h]
  | .const _ :: l, h => by
    rcases List.mem_cons.1 h with e | h
    · cases e
    · simpa [tmpsOf] using mem_tmps h
  | .func _ :: l, h => by
    rcases List.mem_cons.1 h with e | h
    · cases e
    · simpa [tmpsOf] using mem_tmps h
  | .global _ :: l, h => by
    rcases List.mem_cons.1 h with e | h
    · cases e
    · simpa [tmpsOf] using mem_tmps h
theorem Agree.ev {sr br : List Nat} (h : Agree sr br σ σ') {l : List Operand} (hl : ∀ t ∈ tmpsOf l, t ∈ sr) {x : Operand} (hx : x ∈ l) : σ'.ev x = σ.ev x := by
  cases x with
  | tmp t =>
    have := h.slot t (hl t (mem_tmps hx))
    simp only [St.ev, List.getD_eq_getElem?_getD, this]
  | _ => rfl
theorem Agree.getD {sr br : List Nat} (h : Agree sr br σ σ') {b : Nat} (hb : b ∈ br) : σ'.boxes.getD b [] = σ.boxes.getD b [] := by
  rw [List.getD_eq_getElem?_getD, List.getD_eq_getElem?_getD, h.box b hb]
theorem map_ev {sr br : List Nat} (h : Agree sr br σ σ') {l : List Operand} (hl : ∀ t ∈ tmpsOf l, t ∈ sr) : ∀ m : List Operand, (∀ x ∈ m, x ∈ l) → m.map σ'.ev = m.map σ.ev := fun m hm => List.map_congr_left fun x hx => h.ev hl (hm x hx)
theorem parts_ev {place : Nat → Option (Nat × Nat)} {sr br : List Nat} (h : Agree sr br σ σ') : ∀ ps : List (Nat × Operand), (∀ t ∈ tmpsOf (ps.map (·.2)), t ∈ sr) → partsOf place σ' ps = partsOf place σ ps
  | [], _ => rfl
  | (i, x) :: ps, hl => by
    have hx : σ'.ev x = σ.ev x := h.ev hl (List.mem_cons_self ..)
    have ht : ∀ t ∈ tmpsOf (ps.map (·.2)), t ∈ sr := fun t ht => hl t (by
      simp only [List.map_cons]
      cases x <;> simp [tmpsOf, ht])
    simp only [partsOf, hx, parts_ev h ps ht]
theorem rowAt_eq {sr br : List Nat} (h : Agree sr br σ σ') (T r : Nat) : rowAt σ' T r = rowAt σ T r := by
  unfold rowAt
  rw [h.rows]
/-- A value hangs on what is read, no more. -/
theorem evV_congr {sr br : List Nat} (h : Agree sr br σ σ') {op : Op} {l : List Operand} (hs : srcOps op = some l) (hl : ∀ t ∈ tmpsOf l, t ∈ sr) (hb : ∀ T x, op = .load T x → ∀ b ∈ boxOf (σ.ev x), b ∈ br) : evV op σ' = evV op σ := by
  have hev : ∀ x ∈ l, σ'.ev x = σ.ev x := fun x hx => h.ev hl hx
  cases op with
  | move x => simp only [srcOps, Option.some.injEq] at hs; subst hs; simp only [evV, hev x (by simp)]
  | assign x => simp only [srcOps, Option.some.injEq] at hs; subst hs; simp only [evV, hev x (by simp)]
  | nilCheck x => simp only [srcOps, Option.some.injEq] at hs; subst hs; simp only [evV, hev x (by simp)]
  | unOp _ _ x => simp only [srcOps, Option.some.injEq] at hs; subst hs; simp only [evV, hev x (by simp)]
  | convert _ _ x => simp only [srcOps, Option.some.injEq] at hs; subst hs; simp only [evV, hev x (by simp)]
  | fieldAddr _ x _ => simp only [srcOps, Option.some.injEq] at hs; subst hs; simp only [evV, hev x (by simp)]
  | extract x _ => simp only [srcOps, Option.some.injEq] at hs; subst hs; simp only [evV, hev x (by simp)]
  | binOp _ _ x y _ => simp only [srcOps, Option.some.injEq] at hs; subst hs; simp only [evV, hev x (by simp), hev y (by simp)]
  | index _ x y => simp only [srcOps, Option.some.injEq] at hs; subst hs; simp only [evV, hev x (by simp), hev y (by simp)]
  | indexAddr _ x y => simp only [srcOps, Option.some.injEq] at hs; subst hs; simp only [evV, hev x (by simp), hev y (by simp), rowAt_eq h]
  | slice _ x lo hi mx =>
    cases mx with
    | some m => rfl
    | none =>
      simp only [srcOps, Option.some.injEq] at hs
      subst hs
      have h1 : lo.map σ'.ev = lo.map σ.ev := by cases lo with
        | none => rfl
        | some y => simp only [Option.map_some]; rw [hev y (by simp)]
      have h2 : hi.map σ'.ev = hi.map σ.ev := by cases hi with
        | none => rfl
        | some y => simp only [Option.map_some]; rw [hev y (by simp)]
      simp only [evV, hev x (by simp), h1, h2]
  | build T ps =>
    simp only [srcOps, Option.some.injEq] at hs
    subst hs
    simp only [evV]
    split
    · rw [parts_ev h _ hl]
    · rfl
  | load T x =>
    simp only [srcOps, Option.some.injEq] at hs
    subst hs
    have hx := hev x (by simp)
    simp only [evV, hx]
    split
    · rename_i t ht
      have : cellsAt σ' t.sz (σ.ev x) = cellsAt σ t.sz (σ.ev x) := by
        unfold cellsAt
        split
        · rename_i b o e
          rw [h.getD (hb T x rfl b (by rw [e]; simp [boxOf]))]
        · rfl
        · rw [rowAt_eq h]
        · rfl
      rw [this]
    · rfl
  | call r =>
    obtain ⟨cal, args, tys⟩ := r
    cases cal with
    | builtin b =>
      simp only [srcOps, Option.some.injEq] at hs
      subst hs
      have hm := map_ev h hl args.toList (fun x hx => hx)
      have hln : ∀ t x, lenOf σ' t x = lenOf σ t x := fun t x => by
        unfold lenOf
        split <;> first | rfl | rw [rowAt_eq h]
      simp only [evV, hm, hln]
    | value f => rfl
    | invoke _ _ => rfl
  | _ => first | rfl | simp [srcOps] at hs
theorem evVal_congr {sr br : List Nat} (h : Agree sr br σ σ') {op : Op} {l : List Operand} (hs : srcOps op = some l) (hl : ∀ t ∈ tmpsOf l, t ∈ sr) (hb : ∀ T x, op = .load T x → ∀ b ∈ boxOf (σ.ev x), b ∈ br) {R : Type} (k : U.D → Option R) : evVal op σ' k = evVal op σ k := by
  have other : (match evV op σ' with | some (b, d) => when_ b (k d) | none => none) = (match evV op σ with | some (b, d) => when_ b (k d) | none => none) := by rw [evV_congr h hs hl hb]
  cases op with
  | pick x p q =>
    simp only [srcOps, Option.some.injEq] at hs
    subst hs
    simp only [evVal, evPick, h.ev hl (x := x) (by simp), h.ev hl (x := p) (by simp), h.ev hl (x := q) (by simp)]
  | _ => exact other
theorem litL_congr {sr br : List Nat} (h : Agree sr br σ σ') {T n : Nat} {ps : List (Nat × Operand)} (hl : ∀ t ∈ tmpsOf (ps.map (·.2)), t ∈ sr) : litL σ' T n ps = litL σ T n ps := by
  unfold litL
  split
  · rw [parts_ev h _ hl]
  · rfl

/-- An operation in a region that draws: its effect, wherever it stands. -/
def GoodOp (P : Program) (op : Op) (sr : List Nat) (σ : St U) (e : Eff U) : Prop :=
  ∀ σ' : St U, Agree sr (e.r ++ e.bx.map (·.1)) σ σ' → ∀ (X : Beg U) a w G, Rel X σ' a w G → ∀ o : Oper, o.op = op → Step P X o a w e.d { σ' with boxes := setAll σ'.boxes e.bx }
theorem fill_ok_alloc (hU : UOk P U) (h : Rel X σ a w G) {o : Oper} {T b : Nat} (ho : o.op = .alloc T) {cs : List U.C} (hne : cs ≠ []) (hz : U.zero T = some cs) (hb : σ.boxes[b]? = some []) :
    Step P X o a w (.v (.c (.ptr b 0))) { σ with boxes := σ.boxes.set b cs } := by
  intro K Q hK
  obtain ⟨i, z, h1, h2, hr⟩ := zero_rep (w := w) (G := G) hU hz
  obtain ⟨G', k1, k2, k3, k4, k5⟩ := h.fillBox T b cs z.cells hb hne hr
  refine wp_value (v := .pointer (some ⟨w.heap.size, 0, none⟩)) (w' := w.alloc (.cells z.cells T)) ?_ (hK _ _ G' k1 (rep_cell ⟨_, 0, k4, rfl⟩))
  simp [execOp, ho, Instr.alloc, zeroValue, typeInfo, h1, h2, newVar, newRow]
theorem frz_id (σ : St U) : ∀ (cs : List U.C), cs.all plain = true → σ.frz cs = some (cs, σ)
  | [], _ => rfl
  | x :: cs, h => by
    simp only [List.all_cons, Bool.and_eq_true] at h
    have ih := frz_id σ cs h.2
    cases x <;> first | (simp only [St.frz, ih]; done) | cases h.1
theorem frzV_id {v : U.V} (h : (vcells v).all plain = true) : σ.frzV v = some (v, σ) := by
  cases v with
  | c x => simp only [St.frzV, frz_id σ [x] h]
  | agg cs => simp only [St.frzV, frz_id σ cs h]
theorem prep_plain : ∀ (ds : List U.D) (ts : List Nat) (j : Nat) (σ : St U) (ds' : List U.D) (ls : List Lent) (σ1 : St U), (∀ d ∈ ds, (plainD d || (ptrOf d).isSome) = true) → prep U σ ts j ds = some (ds', ls, σ1) →
    σ1 = σ ∧ (∀ σ' : St U, prep U σ' ts j ds = some (ds', ls, σ')) ∧ ∀ l ∈ ls, l.b ∈ ds.filterMap ptrOf
  | [], ts, j, σ, ds', ls, σ1, hd, h => by
    simp only [prep, Option.some.injEq, Prod.mk.injEq] at h
    obtain ⟨rfl, rfl, rfl⟩ := h
    exact ⟨rfl, fun σ' => rfl, fun l hl => by simp at hl⟩
  | d :: ds, ts, j, σ, ds', ls, σ1, hd, h => by
    have hdt : ∀ d ∈ ds, (plainD d || (ptrOf d).isSome) = true := fun d hd' => hd d (by simp [hd'])
    have hd0 := hd d (by simp)
    have other : ∀ v : U.V, d = .v v → (vcells v).all plain = true → (∀ σ : St U, prep U σ ts j (d :: ds) = match σ.frzV v with
          | some (v', σ1) => bif (vcells v').all plain then (match prep U σ1 ts.tail j ds with
            | some (ds', ls, σ2) => some (.v (canonV U (ts.headD 0) v') :: ds', ls, σ2)
            | none => none) else none
          | none => none) → σ1 = σ ∧ (∀ σ' : St U, prep U σ' ts j (d :: ds) = some (ds', ls, σ')) ∧ ∀ l ∈ ls, l.b ∈ (d :: ds).filterMap ptrOf := by
      intro v hv hp he
      have he2 : ∀ σ : St U, prep U σ ts j (d :: ds) = match prep U σ ts.tail j ds with
            | some (ds', ls, σ2) => some (.v (canonV U (ts.headD 0) v) :: ds', ls, σ2)
            | none => none := fun σ => by
        rw [he σ, frzV_id hp]
        simp only [hp, cond_true]
      rw [he2 σ] at h
      split at h
      · rename_i ds2 ls2 σ2 hp2
        cases h
        obtain ⟨k1, k2, k3⟩ := prep_plain ds ts.tail j σ ds2 ls σ1 hdt hp2
        refine ⟨k1, fun σ' => by rw [he2 σ', k2 σ'], fun l hl => ?_⟩
        have := k3 l hl
        rw [List.filterMap_cons]
        split
        · exact this
        · exact List.mem_cons_of_mem _ this
      · cases h
    cases d with
    | tup l => simp [prep] at h
    | v v =>
      cases v with
      | agg cs => exact other _ rfl (by simpa [plainD, ptrOf] using hd0) (fun σ => rfl)
      | c x =>
        cases x with
        | ptr b o =>
          have he : ∀ σ : St U, prep U σ ts j (.v (.c (.ptr b o)) :: ds) = match U.ptee (ts.headD 0) with
            | some T => match U.inf T with
              | some t => match prep U σ ts.tail (j + 1) ds with
                | some (ds', ls, σ1) => some (.v (.c (.ptr j 0)) :: ds', ⟨b, o, t.sz⟩ :: ls, σ1)
                | none => none
              | none => none
            | none => none := fun σ => rfl
          rw [he σ] at h
          split at h
          · rename_i T hT
            split at h
            · rename_i t ht
              split at h
              · rename_i ds2 ls2 σ2 hp2
                cases h
                obtain ⟨k1, k2, k3⟩ := prep_plain ds ts.tail (j + 1) σ ds2 ls2 σ1 hdt hp2
                refine ⟨k1, fun σ' => by rw [he σ', hT]; simp only [ht, k2 σ'], fun l hl => ?_⟩
                rcases List.mem_cons.1 hl with rfl | hl
                · simp [ptrOf]
                · have := k3 l hl
                  rw [List.filterMap_cons]
                  exact List.mem_cons_of_mem _ this
              · cases h
            · cases h
          · cases h
        | _ => exact other _ rfl (by simpa [plainD, ptrOf] using hd0) (fun σ => rfl)
theorem sub_all {cs r : List U.C} {o n : Nat} (h : sub cs o n = some r) (hp : cs.all plain = true) : r.all plain = true := by
  obtain ⟨h1, h2, h3, h4⟩ := sub_some h
  refine List.all_eq_true.2 fun x hx => ?_
  obtain ⟨j, hj, e⟩ := List.getElem_of_mem hx
  obtain ⟨_, h5⟩ := h4 j x (by rw [List.getElem?_eq_getElem hj, e])
  exact List.all_eq_true.1 hp x (List.mem_of_getElem? h5)
theorem lend_plain : ∀ (ls : List Lent) (σ : St U) (bx : List (List U.C)) (σ2 : St U), (∀ l ∈ ls, (σ.boxes.getD l.b []).all plain = true) → lend σ ls = some (bx, σ2) →
    σ2 = σ ∧ ∀ σ' : St U, (∀ l ∈ ls, σ'.boxes.getD l.b [] = σ.boxes.getD l.b []) → lend σ' ls = some (bx, σ')
  | [], σ, bx, σ2, hp, h => by
    simp only [lend, Option.some.injEq, Prod.mk.injEq] at h
    obtain ⟨rfl, rfl⟩ := h
    exact ⟨rfl, fun σ' _ => rfl⟩
  | l :: ls, σ, bx, σ2, hp, h => by
    have hp0 := hp l (by simp)
    have hpt : ∀ l ∈ ls, (σ.boxes.getD l.b []).all plain = true := fun l' hl' => hp l' (by simp [hl'])
    have he : ∀ σ' : St U, σ'.boxes.getD l.b [] = σ.boxes.getD l.b [] → ∀ cs, sub (σ.boxes.getD l.b []) l.o l.n = some cs → lend σ' (l :: ls) = match lend σ' ls with
          | some (r, σ2) => some (cs :: r, σ2)
          | none => none := by
      intro σ' e cs hs
      simp only [lend, e, hs, frz_id σ' cs (sub_all hs hp0), sub_all hs hp0, cond_true]
      rfl
    cases hs : sub (σ.boxes.getD l.b []) l.o l.n with
    | none => simp only [lend, hs] at h; cases h
    | some cs =>
      rw [he σ rfl cs hs] at h
      split at h
      · rename_i r σ3 hr
        simp only [Option.some.injEq, Prod.mk.injEq] at h
        obtain ⟨rfl, rfl⟩ := h
        obtain ⟨k1, k2⟩ := lend_plain ls σ r σ3 hpt hr
        refine ⟨k1, fun σ' hσ => ?_⟩
        rw [he σ' (hσ l (by simp)) cs hs, k2 σ' (fun l' hl' => hσ l' (by simp [hl']))]
      · cases h
theorem back_free : ∀ (ls : List Lent) (bx rest : List (List U.C)) (σ σ4 σ' : St U), back σ ls bx = some (σ4, rest) → ∃ σ4', back σ' ls bx = some (σ4', rest)
  | [], bx, rest, σ, σ4, σ', h => by
    simp only [back, Option.some.injEq, Prod.mk.injEq] at h
    obtain ⟨rfl, rfl⟩ := h
    exact ⟨σ', rfl⟩
  | l :: ls, [], rest, σ, σ4, σ', h => by simp [back] at h
  | l :: ls, cs :: bx, rest, σ, σ4, σ', h => by
    simp only [back] at h ⊢
    obtain ⟨e, h⟩ := bif_some h
    obtain ⟨σ4', h'⟩ := back_free ls bx rest _ σ4 { σ' with boxes := σ'.boxes.set l.b (splice (σ'.boxes.getD l.b []) l.o cs) } h
    exact ⟨σ4', by rw [e]; exact h'⟩
theorem setAll_get (f : Nat → List U.C) (b : Nat) : ∀ (ps : List Nat) (bs : List (List U.C)), (setAll bs (ps.map fun b => (b, f b))).length = bs.length ∧ (setAll bs (ps.map fun b => (b, f b)))[b]? = if b ∈ ps then (if b < bs.length then some (f b) else none) else bs[b]?
  | [], bs => by simp [setAll]
  | p :: ps, bs => by
    simp only [List.map_cons, setAll]
    obtain ⟨h1, h2⟩ := setAll_get f b ps (bs.set p (f p))
    refine ⟨by rw [h1]; simp, ?_⟩
    rw [h2]
    by_cases hm : b ∈ ps
    · simp [hm]
    · by_cases e : b = p
      · subst e
        simp [hm, List.getElem?_set]
      · simp only [hm, if_false, List.mem_cons, e, or_self, List.getElem?_set]
        rw [if_neg (fun z => e z.symm)]
theorem recvD_plain {ls : List Lent} {d d' : U.D} {σ3 : St U} (h : recvD ls σ d = some (d', σ3)) (hp : plainD d' = true) : newsD d = [] ∧ σ3 = σ ∧ d' = mapD (recvC ls σ.rows.length) d := by
  unfold recvD at h
  split at h
  · rename_i hn; cases h; exact ⟨hn, rfl, rfl⟩
  · rename_i R hn
    exfalso
    cases h
    have one : ∀ v : U.V, newsV v ≠ [] → (vcells (mapV (recvC ls σ.rows.length) v)).all plain = false := by
      intro v hv
      cases v with
      | agg cs => exact absurd rfl hv
      | c x => cases x <;> first | exact absurd rfl hv | rfl
    cases d with
    | v v =>
      have := one v (by simp only [newsD] at hn; rw [hn]; simp)
      simp only [mapD, plainD] at hp
      rw [this] at hp; cases hp
    | tup l =>
      have : ∃ v ∈ l, newsV v ≠ [] := by
        simp only [newsD] at hn
        have hR : R ∈ l.flatMap newsV := by rw [hn]; simp
        obtain ⟨v, hv, hR⟩ := List.mem_flatMap.1 hR
        exact ⟨v, hv, fun e => by rw [e] at hR; simp at hR⟩
      obtain ⟨v, hv, hne⟩ := this
      simp only [mapD, plainD] at hp
      have := List.all_eq_true.1 hp _ (List.mem_map.2 ⟨v, hv, rfl⟩)
      rw [one v hne] at this; cases this
  · cases h

theorem good_val (hU : UOk P U) {R : Type} {op : Op} {sr : List Nat} {l : List Operand} (hs : srcOps op = some l) (hl : ∀ t ∈ tmpsOf l, t ∈ sr) {br : List Nat} (hb : ∀ T x, op = .load T x → ∀ b ∈ boxOf (σ.ev x), b ∈ br) {k : Eff U → Option R} {r : R}
    (h : evVal op σ (fun d => k ⟨d, [], br⟩) = some r) : ∃ e, k e = some r ∧ GoodOp P op sr σ e := by
  obtain ⟨d, h1, h2⟩ := val_det h
  refine ⟨_, h1, fun σ' hA X a w G hR o ho => ?_⟩
  have h3 : evVal op σ' some = some d := by rw [evVal_congr hA hs hl (fun T x e b hb' => by simp [hb T x e b hb'])]; exact h2
  exact (val_ok hU h3).step hR ho
theorem bk_eq {ls : List Lent} {bx : List (List U.C)} {σ4 σ4' : St U} {ps : List Nat} (hk : Bk σ ls bx σ4) (hk' : Bk σ' ls bx σ4') (hps : ∀ l ∈ ls, l.b ∈ ps) (hb : ∀ b ∈ ps, σ'.boxes[b]? = σ.boxes[b]?) :
    σ4' = { σ' with boxes := setAll σ'.boxes (ps.map fun b => (b, σ4.boxes.getD b [])) } := by
  have hbx : σ4'.boxes = setAll σ'.boxes (ps.map fun b => (b, σ4.boxes.getD b [])) := by
    apply List.ext_getElem?
    intro b
    obtain ⟨g1, g2⟩ := setAll_get (fun b => σ4.boxes.getD b []) b ps σ'.boxes
    rw [g2]
    by_cases hp : b ∈ ps
    · rw [if_pos hp]
      by_cases hl : ∃ (q : Nat) (l : Lent), ls[q]? = some l ∧ l.b = b
      · obtain ⟨q, l, hq, rfl⟩ := hl
        obtain ⟨cs, dd, k1, k2, k3, k4, k5, k6⟩ := hk.lent q l hq
        obtain ⟨cs', dd', m1, m2, m3, m4, m5, m6⟩ := hk'.lent q l hq
        rw [k1] at m1; cases m1
        rw [hb _ hp, k4] at m4; cases m4
        have hlt : l.b < σ'.boxes.length := by
          have := (List.getElem?_eq_some_iff.1 m6).1
          rwa [hk'.len] at this
        rw [if_pos hlt, m6, List.getD_eq_getElem?_getD, k6]; rfl
      · have hno : ∀ l ∈ ls, l.b ≠ b := fun l hl' e => by
          obtain ⟨q, hq, e'⟩ := List.getElem_of_mem hl'
          exact hl ⟨q, l, by rw [List.getElem?_eq_getElem hq, e'], e⟩
        rw [hk'.other b hno]
        by_cases hlt : b < σ'.boxes.length
        · rw [if_pos hlt, List.getD_eq_getElem?_getD, hk.other b hno, ← hb b hp]
          simp [hlt]
        · rw [if_neg hlt, List.getElem?_eq_none (by omega)]
    · rw [if_neg hp]
      exact hk'.other b (fun l hl e => hp (by rw [← e]; exact hps l hl))
  have h1 := hk'.slots
  have h2 := hk'.rows
  have h3 := hk'.lk
  cases σ4'
  simp only at h1 h2 h3 hbx
  simp [h1, h2, h3, hbx]
theorem opD_ok (hU : UOk P U) {R : Type} {F : Nat → Fn U R} (hF : ∀ g, Sound P F g) {op : Op} {pos : Nat} {sr : List Nat} {l : List Operand} (hs : srcOps op = some l) (hl : ∀ t ∈ tmpsOf l, t ∈ sr) {k : Eff U → Option R} {r : R} (h : evOpD F op pos σ k = some r) :
    ∃ e, k e = some r ∧ GoodOp P op sr σ e := by
  have hev : ∀ {br : List Nat} {σ' : St U}, Agree sr br σ σ' → ∀ x ∈ l, σ'.ev x = σ.ev x := fun hA x hx => hA.ev hl hx
  cases op with
  | alloc T =>
    simp only [evOpD] at h
    split at h
    · rename_i x cs hz hb
      refine ⟨_, h, fun σ' hA X a w G hR o ho => ?_⟩
      have hb' : σ'.boxes[pos]? = some [] := by rw [hA.box pos (by simp)]; exact hb
      exact fill_ok_alloc hU hR ho (by simp) hz hb'
    · cases h
  | buildSlice S n ps =>
    simp only [srcOps, Option.some.injEq] at hs
    subst hs
    simp only [evOpD] at h
    split at h
    · rename_i T hS
      split at h
      · rename_i cs hlit
        obtain ⟨hp, h2⟩ := bif_some h
        clear h
        split at h2
        · rename_i m hd
          refine ⟨_, h2, fun σ' hA X a w G hR o ho => ?_⟩
          exact lit_okD hU hS (by rw [litL_congr hA hl]; exact hlit) hp hd hR ho
        · cases h2
      · cases h
    · cases h
  | store T A x =>
    simp only [srcOps, Option.some.injEq] at hs
    subst hs
    simp only [evOpD] at h
    split at h
    · rename_i t v ht hx
      split at h
      · cases h
      · rename_i vs hv
        split at h
        · rename_i b q hA
          split at h
          · rename_i cs hst
            refine ⟨_, h, fun σ' hAg X a w G hR o ho => ?_⟩
            have hst' : stoC σ' t.sz b q vs = some cs := by
              unfold stoC at hst ⊢
              rw [hAg.lk, hAg.getD (b := b) (by simp)]
              exact hst
            exact store_ok hU hR ho ht (by rw [hev hAg x (by simp)]; exact hx) hv (by rw [hev hAg A (by simp)]; exact hA) hst'
          · cases h
        · cases h
    · cases h
  | load T x =>
    simp only [evOpD] at h
    exact good_val hU hs hl (fun T' x' e b hb => by cases e; exact hb) h
  | call rr =>
    obtain ⟨cal, args, tys⟩ := rr
    cases cal with
    | builtin b =>
      simp only [evOpD] at h
      exact good_val hU hs hl (fun T x e => by cases e) h
    | invoke _ _ => simp [srcOps] at hs
    | value f =>
      simp only [srcOps, Option.some.injEq] at hs
      subst hs
      simp only [evOpD] at h
      split at h
      · rename_i g hf
        obtain ⟨hc, h2⟩ := bif_some h
        clear h
        simp only [Bool.and_eq_true] at hc
        obtain ⟨hc1, hc2⟩ := hc
        have hc1' : ∀ d ∈ args.toList.map σ.ev, (plainD d || (ptrOf d).isSome) = true := fun d hd => List.all_eq_true.1 hc1 d hd
        unfold evCall at h2
        split at h2
        · rename_i ds' ls σ1 hp
          obtain ⟨hcc, h2⟩ := bif_some h2
          simp only [Bool.and_eq_true, Bool.or_eq_true] at hcc
          obtain ⟨hdis, hlock⟩ := hcc
          split at h2
          · rename_i bx σ2 hle
            obtain ⟨⟨fn, hfn, hbody, hname⟩, d, bx', hk, hro, hnews, hlen, hcalls⟩ := hF g ds' bx _ r h2
            obtain ⟨e1, p2, p3⟩ := prep_plain _ _ _ _ _ _ _ hc1' hp
            subst e1
            have hlp : ∀ l ∈ ls, (σ1.boxes.getD l.b []).all plain = true := fun l hl' => List.all_eq_true.1 hc2 l.b (p3 l hl')
            obtain ⟨e2, l2⟩ := lend_plain ls _ _ _ hlp hle
            subst e2
            split at hk
            · rename_i d' σ3 hrecv
              obtain ⟨hcc2, hk⟩ := bif_some hk
              simp only [Bool.and_eq_true] at hcc2
              obtain ⟨hpd, hlb⟩ := hcc2
              have hlb := Nat.eq_of_beq_eq_true hlb
              refine ⟨_, hk, fun σ' hAg X a w G hR o ho => ?_⟩
              have hmap : args.toList.map σ'.ev = args.toList.map σ2.ev := List.map_congr_left fun x hx => hev hAg x (by simp only [List.mem_cons]; exact .inr hx)
              have hf' : σ'.ev f = .v (.c (.fn g)) := by rw [hev hAg f (by simp)]; exact hf
              have hp' : prep U σ' tys.toList 0 (args.toList.map σ'.ev) = some (ds', ls, σ') := by rw [hmap]; exact p2 σ'
              have hbox : ∀ b ∈ (args.toList.map σ2.ev).filterMap ptrOf, σ'.boxes[b]? = σ2.boxes[b]? := fun b hb => hAg.box b (List.mem_append_left _ hb)
              have hle' : lend σ' ls = some (bx, σ') := l2 σ' (fun l hl' => by
                rw [List.getD_eq_getElem?_getD, List.getD_eq_getElem?_getD, hbox _ (p3 l hl')])
              have hlock' : U.ro g = true ∨ (ls.all fun l => σ'.lk.ble l.b) = true := by rw [hAg.lk]; exact hlock
              have hlens : ∀ l ∈ ls, 0 < l.n ∧ l.o + l.n ≤ (σ2.boxes.getD l.b []).length := fun l hl' => by
                refine ⟨prep_n hU _ _ _ _ _ _ _ hp l hl', ?_⟩
                have key : ∀ (ls : List Lent) (bx : List (List U.C)) (τ : St U), lend σ2 ls = some (bx, τ) → (∀ l ∈ ls, (σ2.boxes.getD l.b []).all plain = true) → ∀ l ∈ ls, l.o + l.n ≤ (σ2.boxes.getD l.b []).length := by
                  intro ls
                  induction ls with
                  | nil => intro _ _ _ _ l hl; simp at hl
                  | cons m ls ih =>
                    intro bx τ hh hpp l hl
                    cases hsb : sub (σ2.boxes.getD m.b []) m.o m.n with
                    | none => simp only [lend, hsb] at hh; cases hh
                    | some cs =>
                      rcases List.mem_cons.1 hl with rfl | hl
                      · exact (sub_some hsb).1
                      · have hpc := sub_all hsb (hpp m (by simp))
                        simp only [lend, hsb, frz_id σ2 cs hpc, hpc, cond_true] at hh
                        split at hh
                        · rename_i r τ' hr
                          exact ih r τ' hr (fun l hl => hpp l (by simp [hl])) l hl
                        · cases hh
                exact key ls bx σ2 hle hlp l hl'
              cases hroT : U.ro g with
              | true =>
                rw [hroT] at hrecv
                simp only [cond_true] at hrecv
                have hrecv0 := hrecv
                unfold recvR at hrecv
                obtain ⟨hbl, hrecv⟩ := bif_some hrecv
                obtain ⟨q1, q2, q3⟩ := recvD_plain hrecv hpd
                have hrecv' : (bif U.ro g then recvR ls σ' d bx' else recv ls σ' d bx') = some (d', σ') := by
                  rw [hroT]
                  simp only [cond_true, recvR, hbl, recvD, q1]
                  rw [q3, hAg.rows]
                simp only [cond_true, setAll]
                exact call_step hU hf' hp' hdis hlock' hle' hfn hbody hname hro hlen hcalls hrecv' hR ho
              | false =>
                rw [hroT] at hrecv
                simp only [cond_false] at hrecv
                unfold recv at hrecv
                split at hrecv
                · rename_i σ4 hback
                  obtain ⟨q1, q2, q3⟩ := recvD_plain hrecv hpd
                  subst q2
                  obtain ⟨σ4', hback'⟩ := back_free ls bx' [] σ2 σ3 σ' hback
                  obtain ⟨hB, _⟩ := back_ok ls bx' [] σ2 σ3 hdis hlens hback
                  obtain ⟨hB', _⟩ := back_ok ls bx' [] σ' σ4' hdis (fun l hl' => by
                    have := hlens l hl'
                    rw [List.getD_eq_getElem?_getD, hbox _ (p3 l hl'), ← List.getD_eq_getElem?_getD]
                    exact this) hback'
                  have heq := bk_eq hB hB' p3 hbox
                  have hrecv' : (bif U.ro g then recvR ls σ' d bx' else recv ls σ' d bx') = some (d', σ4') := by
                    rw [hroT]
                    simp only [cond_false, recv, hback', recvD, q1]
                    rw [q3, hB'.rows, hB.rows, hAg.rows]
                  simp only [cond_false]
                  rw [← heq]
                  exact call_step hU hf' hp' hdis hlock' hle' hfn hbody hname hro hlen hcalls hrecv' hR ho
                · rename_i σ4 cs hback
                  exfalso
                  obtain ⟨_, hrecv⟩ := bif_some hrecv
                  obtain ⟨q1, q2, q3⟩ := recvD_plain hrecv hpd
                  obtain ⟨hB, _⟩ := back_ok ls bx' [cs] σ2 σ4 hdis hlens hback
                  have := hB.len
                  rw [q2] at hlb
                  simp [St.newBox] at hlb
                  omega
                · cases hrecv
            · cases hk
          · cases h2
        · cases h2
      · cases h
  | box _ _ => simp [srcOps] at hs
  | pick _ _ _ => exact good_val hU hs hl (fun T x e => by cases e) h
  | _ => first | (simp [srcOps] at hs; done) | exact good_val hU hs hl (fun T x e => by cases e) h
end
end Go.Proofs.Ytogfofcocidmkaa.Ev
