/- EV (ours), part F: operations on memory. -/
import Derived.Test.YtogfofcocidmkaaEvE
import Derived.Laws.Tables
import Derived.Laws.IdiomCopy
set_option linter.unusedVariables false
set_option linter.unusedSimpArgs false
namespace Go.Proofs.Ytogfofcocidmkaa.Ev
open Go.RowKit
section
variable {U : Uni} {X : Beg U} {σ : St U} {a : Act} {w w' : World} {G : Gh} {P : Program}

def readL (w : World) (ad : Addr) (n : Nat) : List Value := (List.range n).map fun j => (w.cell? (ad.add j)).getD undef
theorem readL_len (ad : Addr) (n : Nat) : (readL w ad n).length = n := by simp [readL]
theorem readL_get {ad : Addr} {n j : Nat} {u : Value} (hj : j < n) (hu : w.cell? (ad.add j) = some u) : (readL w ad n)[j]? = some u := by
  simp [readL, List.getElem?_map, List.getElem?_range hj, hu]
theorem readL_cell {ad : Addr} {n : Nat} (h : ∀ j, j < n → ∃ u, w.cell? (ad.add j) = some u) : ∀ (j : Nat) u, (readL w ad n)[j]? = some u → w.cell? (ad.add j) = some u := by
  intro j u hu
  have hj : j < n := by have := (List.getElem?_eq_some_iff.1 hu).1; rwa [readL_len] at this
  obtain ⟨u', hu'⟩ := h j hj
  rw [readL_get hj hu'] at hu
  cases hu; exact hu'
theorem sub_some {cs : List U.C} {o n : Nat} {r : List U.C} (h : sub cs o n = some r) : o + n ≤ cs.length ∧ r = (cs.drop o).take n ∧ r.length = n ∧ ∀ (j : Nat) x, r[j]? = some x → j < n ∧ cs[o + j]? = some x := by
  unfold sub at h
  obtain ⟨h1, h2⟩ := bif_some h
  cases h2
  have h1' : o + n ≤ cs.length := by simpa using h1
  refine ⟨h1', rfl, by simp; omega, fun j x hx => ?_⟩
  rw [List.getElem?_take] at hx
  split at hx
  · rename_i hj
    rw [List.getElem?_drop] at hx
    exact ⟨hj, hx⟩
  · cases hx
theorem rowAt_some {T r : Nat} {l : List (U.Ty T)} (h : rowAt σ T r = some l) : σ.rows.getD r none = some ⟨T, l⟩ := by
  unfold rowAt at h
  split at h
  · rename_i R hR
    split at h
    · rename_i e
      subst e
      cases h
      exact hR
    · cases h
  · cases h
theorem own_row (h : Rel X σ a w G) {T r : Nat} {l : List (U.Ty T)} (hl : rowAt σ T r = some l) : ∃ v, G.rs r = some v ∧ OwnRep w G.fz X.w.heap.size T l v := rowD h (rowAt_some hl)

/-- The cells at an address, and what they are told to be. -/
theorem cells_ok (hU : UOk P U) (h : Rel X σ a w G) {da : U.D} {va : Value} (hr : RepD w G da va) {n : Nat} {cs : List U.C} (hn : 0 < n) (hc : cellsAt σ n da = some cs) :
    ∃ ad : Addr, va = .pointer (some ad) ∧ RepL w G cs (readL w ad n) ∧ cs.length = n ∧ ∀ j, j < n → ∃ u, w.cell? (ad.add j) = some u := by
  have fin : ∀ (ad : Addr), cs.length = n → (∀ (j : Nat) x, cs[j]? = some x → ∃ u, w.cell? (ad.add j) = some u ∧ RepC w G x u ∧ u.oneCell' = true) →
      RepL w G cs (readL w ad n) ∧ cs.length = n ∧ ∀ j, j < n → ∃ u, w.cell? (ad.add j) = some u := by
    intro ad hl hh
    refine ⟨⟨by rw [readL_len, hl], fun j x hx => ?_⟩, hl, fun j hj => ?_⟩
    · obtain ⟨u, h1, h2⟩ := hh j x hx
      have hj : j < n := by have := (List.getElem?_eq_some_iff.1 hx).1; omega
      exact ⟨u, readL_get hj h1, h2⟩
    · obtain ⟨u, h1, _⟩ := hh j cs[j] (by simp)
      exact ⟨u, h1⟩
  unfold cellsAt at hc
  split at hc
  · rename_i b o
    obtain ⟨g, p, hb, rfl⟩ := hr.1
    obtain ⟨h1, h2, h3, h4⟩ := sub_some hc
    refine ⟨⟨g, p + o, none⟩, rfl, fin _ h3 fun j x hx => ?_⟩
    obtain ⟨hj, hx'⟩ := h4 j x hx
    have hex : ∃ ds, σ.boxes[b]? = some ds ∧ σ.boxes.getD b [] = ds := by
      rw [List.getD_eq_getElem?_getD] at h1 hx' ⊢
      cases hq : σ.boxes[b]? with
      | none => rw [hq] at h1; simp at h1; omega
      | some ds => exact ⟨ds, rfl, rfl⟩
    obtain ⟨ds, hds, hde⟩ := hex
    rw [hde] at hx'
    obtain ⟨g', p', hb', hbox⟩ := h.box b ds hds (fun e => by rw [hde, e] at h1; simp at h1; omega)
    rw [hb] at hb'; cases hb'
    obtain ⟨u, k1, k2, k3, k4⟩ := hbox (o + j) x hx'
    exact ⟨u, by rw [plain_add, Nat.add_assoc]; exact k1, k3, k4⟩
  · rename_i T l i o
    obtain ⟨hi, ad, f, hf, hcell, hrep, rfl⟩ := hr.1
    obtain ⟨h1, h2, h3, h4⟩ := sub_some hc
    refine ⟨_, rfl, fin _ h3 fun j x hx => ?_⟩
    obtain ⟨hj, hx'⟩ := h4 j x hx
    have hp := hrep (o + j) x hx'
    have hlt : o + j < U.sz T := by
      have := (List.getElem?_eq_some_iff.1 hx').1
      have henc := hU.enc T (l.getD i (U.dflt T))
      omega
    exact ⟨f (o + j), by rw [add_add, Nat.add_assoc]; exact hcell _ hlt, RepC.ofP hp, hp.one⟩
  · rename_i T r i o
    obtain ⟨g, m, c, hrs, hi, rfl⟩ := hr.1
    split at hc
    · rename_i l hl
      obtain ⟨h1, h2, h3, h4⟩ := sub_some hc
      obtain ⟨v, hv, ho⟩ := own_row h hl
      rw [hrs] at hv; cases hv
      obtain ⟨xs, hown, hrep, hone⟩ := ho
      have hm : m = l.length := by
        rcases hown.2 with ⟨e, _⟩ | ⟨g', cap, cur, e, _⟩
        · cases e
        · cases e; rfl
      refine ⟨_, rfl, fin _ h3 fun j x hx => ?_⟩
      obtain ⟨hj, hx'⟩ := h4 j x hx
      obtain ⟨u, hu, hp⟩ := hrep i (o + j) x (by omega) hx'
      refine ⟨u, ?_, RepC.ofP hp, hp.one⟩
      have := hown.cells (g := g) rfl _ _ hu
      rw [zero_add_] at this
      rw [plain_add, Nat.add_assoc]
      exact this
    · cases hc
  · cases hc

theorem run_isAgg_ {T : Nat} {t : TI} (hU : UOk P U) (ht : U.inf T = some t) (w : World) : (isAgg T).run P w = .ok t.ag w := by
  obtain ⟨i, d, h1, h2, h3, h4, h5, h6⟩ := hU.inf T t ht
  rw [← h5]
  cases d <;> simp [isAgg, run_underlying h4, agD]
theorem run_sizeOf_ {T : Nat} {t : TI} (hU : UOk P U) (ht : U.inf T = some t) (w : World) : (sizeOf T).run P w = .ok t.sz w := by
  obtain ⟨i, d, h1, h2, h3, h4, h5, h6⟩ := hU.inf T t ht
  simp [sizeOf, typeInfo, h1, h2]
theorem sz_pos (hU : UOk P U) {T : Nat} {t : TI} (ht : U.inf T = some t) : 0 < t.sz := by
  obtain ⟨i, d, h1, h2, h3, h4, h5, h6, h7⟩ := hU.inf T t ht
  exact h6
theorem mkV_rep {t : TI} {cs : List U.C} {v : U.V} {us : List Value} (hv : mkV t cs = some v) (hr : RepL w G cs us) (hl : us.length = t.sz) :
    ∃ z, RepV w G v z ∧ z.cells.toList = us ∧ ((t.ag = true ∧ z = .agg us.toArray) ∨ (t.ag = false ∧ us = [z])) := by
  unfold mkV at hv
  split at hv
  · rename_i hag
    cases hv
    exact ⟨.agg us.toArray, ⟨us.toArray, rfl, by simpa using hr.1, fun j x hx => by simpa using hr.2 j x hx⟩, by simp [Value.cells], .inl ⟨hag, rfl⟩⟩
  · rename_i hag
    split at hv
    · rename_i x
      cases hv
      obtain ⟨u, h1, h2, h3⟩ := hr.2 0 x rfl
      have hus : us = [u] := by
        have := hr.1
        match us, this, h1 with
        | [z], _, h1 => simp at h1; rw [h1]
      refine ⟨u, RepV.ofC h2, ?_, .inr ⟨by simpa using hag, hus⟩⟩
      rw [hus]
      cases u <;> first | rfl | cases h3
    · cases hv
theorem run_loadVar_ (hU : UOk P U) {T : Nat} {t : TI} (ht : U.inf T = some t) {ad : Addr} {cs : List U.C} {v : U.V} (hv : mkV t cs = some v) (hr : RepL w G cs (readL w ad t.sz)) (hc : ∀ j, j < t.sz → ∃ u, w.cell? (ad.add j) = some u) :
    ∃ z, RepV w G v z ∧ (loadVar T ad).run P w = .ok z w := by
  obtain ⟨z, h1, h2, h3⟩ := mkV_rep hv hr (readL_len _ _)
  refine ⟨z, h1, ?_⟩
  unfold loadVar
  simp only [Sem.run_bind, run_isAgg_ hU ht, Result.andThen_ok]
  rcases h3 with ⟨hag, rfl⟩ | ⟨hag, hus⟩
  · have hl := run_loadCells_list (P := P) w ad (readL w ad t.sz) (fun j u hu => readL_cell hc j u hu)
    rw [readL_len] at hl
    simp [hag, run_sizeOf_ hU ht, hl]
  · have h1' : t.sz = 1 := by have := congrArg List.length hus; simpa [readL_len] using this
    obtain ⟨u, hu⟩ := hc 0 (by omega)
    have hu' : w.cell? ad = some u := by simpa [Addr.add] using hu
    have hz : u = z := by
      have := readL_get (w := w) (ad := ad) (n := t.sz) (j := 0) (by omega) hu
      rw [hus] at this
      simpa using this.symm
    subst hz
    simp [hag, hu']
/-- An operation that leaves world and state as they are: its value. -/
def VO (P : Program) (σ : St U) (op : Op) (d : U.D) : Prop :=
  ∀ (X : Beg U) (a : Act) (w : World) (G : Gh), Rel X σ a w G → ∀ o : Oper, o.op = op → ∃ v, (execOp a.eval o).run P w = .ok (.value v) w ∧ RepD w G d v
theorem load_ok (hU : UOk P U) {T : Nat} {A : Operand} {t : TI} {cs : List U.C} {v : U.V} (ht : U.inf T = some t) (hc : cellsAt σ t.sz (σ.ev A) = some cs) (hv : mkV t cs = some v) :
    VO P σ (.load T A) (.v v) := by
  intro X a w G h o ho
  obtain ⟨ad, hA, hr, hl, hex⟩ := cells_ok hU h (ev_ok h A) (sz_pos hU ht) hc
  obtain ⟨z, hz, hrun⟩ := run_loadVar_ hU ht hv hr hex
  refine ⟨z, ?_, hz⟩
  simp [execOp, ho, Instr.loadAt, hA, Instr.sureAddr, hrun]
theorem alloc_ok (hU : UOk P U) (h : Rel X σ a w G) {o : Oper} {T : Nat} (ho : o.op = .alloc T) {cs : List U.C} (hne : cs ≠ []) (hz : U.zero T = some cs) :
    Step P X o a w (.v (.c (.ptr σ.boxes.length 0))) (σ.newBox cs) := by
  intro K Q hK
  obtain ⟨i, z, h1, h2, h3⟩ := hU.zero T cs hz
  have hr : RepL w G cs z.cells.toList := by
    refine ⟨by simpa using (congrArg List.length h3).symm, fun j x hx => ?_⟩
    have hj := congrArg (fun l : List (Option Value) => l[j]?) h3
    simp only [List.getElem?_map, hx, Option.map_some] at hj
    cases hu : z.cells.toList[j]? with
    | none => rw [hu] at hj; cases hj
    | some u =>
      rw [hu] at hj
      simp only [Option.map_some, Option.some.injEq] at hj
      refine ⟨u, rfl, ?_⟩
      cases x <;> simp only [cval, Option.some.injEq, reduceCtorEq] at hj <;> subst hj <;> exact ⟨by first | exact RepP.int _ _ | exact RepP.bool _ | exact RepP.str _ | exact RepP.nilp | exact RepP.nils, rfl⟩
  obtain ⟨G', k1, k2, k3, k4, k5⟩ := h.newBox T cs z.cells hne hr
  refine wp_value (v := .pointer (some ⟨w.heap.size, 0, none⟩)) (w' := w.alloc (.cells z.cells T)) ?_ (hK _ _ G' k1 (rep_cell ⟨_, 0, k4, rfl⟩))
  simp [execOp, ho, Instr.alloc, zeroValue, typeInfo, h1, h2, newVar, newRow]
theorem box_ok (hU : UOk P U) (h : Rel X σ a w G) {o : Oper} {T : Nat} {A : Operand} (ho : o.op = .box T A) {v : U.V} {cs : List U.C} (hv : σ.ev A = .v v) (hc : vl v = some cs) (hne : cs ≠ []) :
    Step P X o a w (.v (.c (.ptr σ.boxes.length 0))) (σ.newBox cs) := by
  intro K Q hK
  have hA := ev_ok h A
  rw [hv] at hA
  have hr := RepV.vl (w := w) (G := G) hA hc
  obtain ⟨G', k1, k2, k3, k4, k5⟩ := h.newBox T cs (a.eval A).cells hne hr
  refine wp_value (v := .pointer (some ⟨w.heap.size, 0, none⟩)) (w' := w.alloc (.cells (a.eval A).cells T)) ?_ (hK _ _ G' k1 (rep_cell ⟨_, 0, k4, rfl⟩))
  simp [execOp, ho, Instr.box, newVar, newRow]
theorem nil_ok {A : Operand} {c : U.C} (hv : σ.ev A = .v (.c c)) (hc : (∃ b p, c = .ptr b p) ∨ (∃ T l i p, c = .fat T l i p) ∨ (∃ T r i p, c = .oat T r i p) ∨ ∃ f, c = .fn f) :
    VO P σ (.nilCheck A) (.v (.c c)) := by
  intro X a w G h o ho
  have hA := ev_ok h A
  rw [hv] at hA
  refine ⟨a.eval A, ?_, hA⟩
  have hx := hA.1
  rcases hc with ⟨b, p, rfl⟩ | ⟨T, l, i, p, rfl⟩ | ⟨T, r, i, p, rfl⟩ | ⟨f, rfl⟩
  · obtain ⟨g, q, _, he⟩ := hx
    simp [execOp, ho, he]
  · obtain ⟨_, ad, f, _, _, _, he⟩ := hx
    simp [execOp, ho, he]
  · obtain ⟨g, n, c, _, _, he⟩ := hx
    simp [execOp, ho, he]
  · have he := rep_fn hA
    simp [execOp, ho, he]
theorem places_get (hU : UOk P U) {S f o n : Nat} (hf : U.field S f = some (o, n)) (ad : Addr) : (Instr.fieldAt S (.pointer (some ad)) f).run P w = .ok (.pointer (some (ad.add o))) w := by
  unfold Uni.field at hf
  split at hf
  · rename_i ps hps
    obtain ⟨fs, h1, h2, h3⟩ := hU.places S ps hps
    have key : ∀ (l : List Field) (ps : List (Nat × Nat)) (f : Nat), l.mapM (fun f => (P.info? f.type).map fun i => (f.offset, i.size)) = some ps → ps[f]? = some (o, n) → ∃ fd i, l[f]? = some fd ∧ fd.offset = o ∧ P.info? fd.type = some i ∧ i.size = n := by
      intro l
      induction l with
      | nil => intro ps f hm hp; simp at hm; subst hm; simp at hp
      | cons x l ih =>
        intro ps f hm hp
        simp only [List.mapM_cons, Option.bind_eq_bind, Option.pure_def] at hm
        cases hi : P.info? x.type with
        | none => simp [hi] at hm
        | some i =>
          cases hr : l.mapM (fun f => (P.info? f.type).map fun i => (f.offset, i.size)) with
          | none => simp [hi, hr] at hm
          | some rest =>
            simp [hi, hr] at hm
            subst hm
            cases f with
            | zero =>
              simp at hp
              exact ⟨x, i, rfl, hp.1, hi, hp.2⟩
            | succ f => exact ih rest f hr (by simpa using hp)
    obtain ⟨fd, i, k1, k2, k3, k4⟩ := key _ _ f h2 hf
    have hpos := h3 (o, n) (List.mem_of_getElem? hf)
    have hne : n ≠ 0 := by simp at hpos; omega
    have k1' : fs[f]? = some fd := by simpa using k1
    simp [Instr.fieldAt, run_underlying h1, k1', Instr.sureAddr, fieldPlace, sizeOf, typeInfo, k3, k4, hne, k2]
  · cases hf
theorem field_ok (hU : UOk P U) {S f : Nat} {A : Operand} {q n : Nat} (hf : U.field S f = some (q, n)) {c c' : U.C} (hv : σ.ev A = .v (.c c))
    (hc : (∃ b p, c = .ptr b p ∧ c' = .ptr b (p + q)) ∨ (∃ T l i p, c = .fat T l i p ∧ c' = .fat T l i (p + q)) ∨ (∃ T r i p, c = .oat T r i p ∧ c' = .oat T r i (p + q))) :
    VO P σ (.fieldAddr S A f) (.v (.c c')) := by
  intro X a w G h o ho
  have hA := ev_ok h A
  rw [hv] at hA
  have hx := hA.1
  rcases hc with ⟨b, p, rfl, rfl⟩ | ⟨T, l, i, p, rfl, rfl⟩ | ⟨T, r, i, p, rfl, rfl⟩
  · obtain ⟨g, m, hb, he⟩ := hx
    refine ⟨.pointer (some ⟨g, m + (p + q), none⟩), ?_, rep_cell ⟨g, m, hb, rfl⟩⟩
    simp [execOp, ho, he, places_get hU hf, plain_add, Nat.add_assoc]
  · obtain ⟨hi, ad, f', hf', hc', hr', he⟩ := hx
    refine ⟨.pointer (some (ad.add (i * U.sz T + (p + q)))), ?_, rep_cell ⟨hi, ad, f', hf', hc', hr', rfl⟩⟩
    simp [execOp, ho, he, places_get hU hf, add_add, Nat.add_assoc]
  · obtain ⟨g, m, c, hb, hi, he⟩ := hx
    refine ⟨.pointer (some ⟨g, i * U.sz T + (p + q), none⟩), ?_, rep_cell ⟨g, m, c, hb, hi, rfl⟩⟩
    simp [execOp, ho, he, places_get hU hf, plain_add, Nat.add_assoc]
theorem elem_of (hU : UOk P U) {S T : Nat} (hS : U.elem S = some T) : P.underlying S = some (.slice (P.elem S)) ∧ P.elem S = T := by
  have := hU.elem S T hS
  simp [Program.elem, this]
end
end Go.Proofs.Ytogfofcocidmkaa.Ev
