/- EV (ours), part J: literals of slices, bytes. -/
import Derived.Test.YtogfofcocidmkaaEvI
import Derived.Laws.IdiomStrings
set_option linter.unusedVariables false
set_option linter.unusedSimpArgs false
namespace Go.Proofs.Ytogfofcocidmkaa.Ev
open Go.RowKit
section
variable {U : Uni} {X : Beg U} {σ : St U} {a : Act} {w w' : World} {G : Gh} {P : Program}

theorem Rel.addFz (h : Rel X σ a w G) (g : Nat) (h1 : X.w.heap.size ≤ g) (h2 : g < w.heap.size) (h3 : ∀ b q, G.bs b = some q → q.1 ≠ g) (h4 : ∀ r v, G.rs r = some v → v.ownBlock ≠ some g) :
    Rel X σ a w ⟨fun k => G.fz k ∨ k = g, G.bs, G.rs⟩ := by
  have hle : G.le w w ⟨fun k => G.fz k ∨ k = g, G.bs, G.rs⟩ := ⟨fun _ h => .inl h, fun _ _ h => h, fun _ _ h => h, fun _ _ => rfl⟩
  exact {
    n := h.n
    slot := fun i d hd => by obtain ⟨v, k1, k2⟩ := h.slot i d hd; exact ⟨v, k1, k2.mono hle⟩
    dfr := h.dfr
    box := fun b cs hb hne => by obtain ⟨g', p, k1, k2⟩ := h.box b cs hb hne; exact ⟨g', p, k1, k2.move hle rfl⟩
    bdom := h.bdom
    row := fun r R hR => by obtain ⟨v, k1, k2⟩ := h.row r R hR; exact ⟨v, k1, k2.move hle.fz (fun _ _ => rfl) (fun _ _ => rfl)⟩
    rdom := h.rdom
    fzlt := fun k hk => by rcases hk with hk | rfl; exact h.fzlt k hk; exact h2
    bfz := fun b g' p hq => ⟨fun hk => by rcases hk with hk | rfl; exact (h.bfz b g' p hq).1 hk; exact h3 b _ hq rfl, (h.bfz b g' p hq).2⟩
    bb := h.bb
    rfz := fun r v g' hv hg => ⟨fun hk => by rcases hk with hk | rfl; exact (h.rfz r v g' hv hg).1 hk; exact h4 r v hv hg, (h.rfz r v g' hv hg).2⟩
    rr := h.rr
    fr := { h.fr with
      fz := fun k hk => .inl (h.fr.fz k hk)
      fznew := fun k hk => by rcases hk with hk | rfl; exact h.fr.fznew k hk; exact .inr h1 }
    lent := h.lent
    lk := h.lk
    lock := h.lock
    lockne := h.lockne }
/-- What is not there yet is no one's. -/
theorem Rel.fresh (h : Rel X σ a w G) : ¬ G.fz w.heap.size ∧ (∀ b q, G.bs b = some q → q.1 ≠ w.heap.size) ∧ ∀ r v, G.rs r = some v → v.ownBlock ≠ some w.heap.size := by
  refine ⟨fun hz => ?_, fun b q hq e => ?_, fun q u hq e => ?_⟩
  · have := h.fzlt _ hz; omega
  · have := (h.bfz b q.1 q.2 hq).2; omega
  · obtain ⟨R', hR'⟩ := h.rdom q u hq
    obtain ⟨u', m1, m2⟩ := h.row q R' hR'
    rw [hq] at m1; cases m1
    have := (m2.lt _ e).2
    omega
theorem dec_all (hU : UOk P U) {T n : Nat} (hn : U.sz T = n) : ∀ (m : Nat) (cs : List U.C) (l : List (U.Ty T)), decAll T n m cs = some l →
    l.length = m ∧ ∀ i j (x : U.C), i < m → (U.enc T (l.getD i (U.dflt T)))[j]? = some x → ∃ c, cs[i * n + j]? = some c ∧ (c = x ∨ c = .nils ∧ ∃ T', x = .sl T' [])
  | 0, cs, l, h => by simp [decAll] at h; subst h; exact ⟨rfl, fun i j x hi => absurd hi (by omega)⟩
  | m + 1, cs, l, h => by
    simp only [decAll] at h
    split at h
    · rename_i y l' hy hl
      cases h
      obtain ⟨i1, i2⟩ := dec_all hU hn m _ l' hl
      obtain ⟨d1, d2⟩ := hU.dec T _ y hy
      refine ⟨by simp [i1], fun i j x hi hx => ?_⟩
      cases i with
      | zero =>
        simp only [List.getD_cons_zero] at hx
        have hj : j < (cs.take n).length := by rw [d1]; exact (List.getElem?_eq_some_iff.1 hx).1
        have hc : (cs.take n)[j]? = some ((cs.take n)[j]'hj) := List.getElem?_eq_getElem hj
        obtain ⟨d, e1, e2⟩ := d2 j _ hc
        rw [hx] at e1
        cases e1
        refine ⟨(cs.take n)[j]'hj, ?_, e2⟩
        have hj2 : j < n := by simp at hj; omega
        rw [List.getElem?_take, if_pos hj2] at hc
        rw [Nat.zero_mul, Nat.zero_add]
        exact hc
      | succ i =>
        simp only [List.getD_cons_succ] at hx
        obtain ⟨c, e1, e2⟩ := i2 i j x (by omega) hx
        refine ⟨c, ?_, e2⟩
        rw [List.getElem?_drop] at e1
        rw [show (i + 1) * n + j = n + (i * n + j) by rw [Nat.succ_mul]; omega]
        exact e1
    · cases h
theorem flat_get {α : Type} (z : List α) : ∀ (n j : Nat), (List.replicate n z).flatten[j]? = if j < n * z.length then z[j % z.length]? else none
  | 0, j => by simp
  | n + 1, j => by
    rw [List.replicate_succ, List.flatten_cons, List.getElem?_append]
    by_cases h : j < z.length
    · rw [if_pos h, if_pos (by rw [Nat.succ_mul]; omega), Nat.mod_eq_of_lt h]
    · rw [if_neg h, flat_get z n (j - z.length)]
      by_cases h2 : j < (n + 1) * z.length
      · rw [if_pos h2, if_pos (by rw [Nat.succ_mul] at h2; omega), ← Nat.mod_eq_sub_mod (Nat.le_of_not_lt h)]
      · rw [if_neg h2, if_neg (by rw [Nat.succ_mul] at h2; omega)]
theorem lit_run (hU : UOk P U) {S T n : Nat} (hS : U.elem S = some T) {ps : Array (Nat × Operand)} {cs : List U.C} (hl : litL σ T n ps.toList = some cs) (h : Rel X σ a w G) :
    ∃ arr : Array Value, (Instr.buildSlice S n (ps.map fun p => (p.1, a.eval p.2))).run P w = .ok (.slice (some ⟨w.heap.size, 0, none⟩) n n) (w.alloc (.cells arr T)) ∧ RepL w G cs arr.toList ∧ arr.size = n * U.sz T ∧ n ≤ maxLen := by
  unfold litL at hl
  split at hl
  · rename_i t z ht hz
    split at hl
    · rename_i ps' hp
      obtain ⟨hb, hf⟩ := bif_some hl
      have hb := Nat.le_of_ble_eq_true hb
      obtain ⟨i, z', h1, h2, h3⟩ := zero_rep (w := w) (G := G) hU hz
      obtain ⟨i', d, g1, g2, g3, g4, g5, g6, g7, z'', g8, g9⟩ := hU.inf T t ht
      rw [h1] at g1; cases g1
      rw [h2] at g8; cases g8
      have hzl : z.length = t.sz := by rw [← h3.1, Array.length_toList, g9]
      have hsz : U.sz T = t.sz := by simp [Uni.sz, ht]
      have hzero : RepL w G (List.replicate n z).flatten ((Array.range (n * t.sz)).map (fun q => z'.cells[q % z'.cells.size]!)).toList := by
        refine ⟨by simp [hzl], fun j x hx => ?_⟩
        rw [flat_get] at hx
        split at hx
        · rename_i hj
          obtain ⟨u, k1, k2⟩ := h3.2 _ x hx
          refine ⟨u, ?_, k2⟩
          rw [hzl] at hj k1
          have hlt : j % t.sz < z'.cells.size := by rw [g9]; exact Nat.mod_lt _ g6
          rw [Array.getElem?_toList, Array.getElem?_eq_getElem hlt, Option.some.injEq] at k1
          have k3 : z'.cells[j % t.sz]! = u := by rw [getElem!_pos z'.cells _ hlt]; exact k1
          simp [hj, g9, k3]
        · cases hx
      obtain ⟨arr, k1, k2⟩ := fill_ok h ps.toList _ cs ps' _ hp hf hzero
      have hcl : cs.length = n * t.sz := by
        have : ∀ (ps' : List (Nat × List U.C)) (cs cs' : List U.C), fillAt cs ps' = some cs' → cs'.length = cs.length := by
          intro ps'
          induction ps' with
          | nil => intro cs cs' h; simp [fillAt] at h; rw [h]
          | cons p ps' ih =>
            intro cs cs' h
            obtain ⟨o, ys⟩ := p
            simp only [fillAt] at h
            obtain ⟨hb, h⟩ := bif_some h
            rw [ih _ _ h, splice_len (Nat.le_of_ble_eq_true hb)]
        rw [this _ _ _ hf]
        simp [hzl]
      refine ⟨arr, ?_, k2, by rw [← Array.length_toList, k2.1, hcl, hsz], ?_⟩
      · have hu := hU.elem S T hS
        by_cases h0 : n * t.sz = 0
        · have hn0 : n = 0 := by rcases Nat.mul_eq_zero.1 h0 with e | e; exact e; omega
          subst hn0
          have e3 : ∀ f : Nat → Value, (Array.range 0).map f = #[] := fun f => Array.eq_empty_of_size_eq_zero (by simp)
          rw [Nat.zero_mul, e3] at k1
          have e1 : Instr.fill (fun i => some (i * t.sz, t.sz)) #[] (ps.map fun p => (p.1, a.eval p.2)).toList = some arr := by simpa using k1
          rw [← g2] at e1
          simp only [Instr.buildSlice, Sem.run_bind, run_underlying hu, Result.andThen_ok, sizeOf, typeInfo]
          rw [Array.toList_map] at e1
          simp [h1, newRow, e3, e1]
        · have e2 : ¬ n * i.size > 2 ^ 24 := by rw [g2]; omega
          exact run_buildSlice w S T n _ arr i z' hu h1 h2 e2 (by rw [g2]; exact h0) (by rw [g2]; simpa using k1)
      · simp only [maxLen]
        have : n ≤ n * t.sz := Nat.le_mul_of_pos_right n g6
        omega
    · cases hl
  · cases hl

theorem nils_sl {fz : Nat → Prop} {T : Nat} {v : Value} (h : RepP w fz (.nils : U.C) v) : RepP w fz (.sl T [] : U.C) v := by
  cases h
  exact .sl T [] none 0 (fun _ _ => undef) (Nat.le_refl _) (fun h => absurd h (by simp)) (fun i j x hi => absurd hi (by simp))
/-- A literal's new row. -/
theorem lit_row (hU : UOk P U) {T n : Nat} {cs : List U.C} {l : List (U.Ty T)} {arr : Array Value} {fz : Nat → Prop} {B : Nat} (hB : B ≤ w.heap.size) (hz : ∀ g, fz g → g < w.heap.size) (hp : PL w fz cs arr.toList) (h1 : ∀ u ∈ arr.toList, u.oneCell' = true) (hd : decAll T (U.sz T) n cs = some l)
    (ha : arr.size = n * U.sz T) (hn : n ≤ maxLen) : OwnRep (w.alloc (.cells arr T)) fz B T l (.slice (some ⟨w.heap.size, 0, none⟩) n n) := by
  obtain ⟨d1, d2⟩ := dec_all hU rfl n cs l hd
  refine ⟨arr.toList, ?_, fun i j x hi hx => ?_, h1⟩
  · rw [d1]; exact World.ownsRow_lit w arr n hB hn ha
  · obtain ⟨c, e1, e2⟩ := d2 i j x (by omega) hx
    have hpl : plain x = true := hU.encp T _ x (List.mem_of_getElem? hx)
    have hw : ∀ g, fz g → (w.alloc (.cells arr T)).heap[g]? = w.heap[g]? := fun g hg => World.grownBy_alloc w (.cells arr T) none |>.block g (hz g hg) (by simp)
    rcases e2 with rfl | ⟨rfl, T', rfl⟩
    · obtain ⟨u, m1, m2, m3⟩ := hp.2 _ _ e1 hpl
      exact ⟨u, m1, m3.mono (fun _ h => h) hw⟩
    · obtain ⟨u, m1, m2, m3⟩ := hp.2 _ _ e1 rfl
      exact ⟨u, m1, nils_sl (m3.mono (fun _ h => h) hw)⟩
theorem lit_ok (hU : UOk P U) {S T n : Nat} (hS : U.elem S = some T) {ps : Array (Nat × Operand)} {cs cs' : List U.C} {σ1 : St U} {l : List (U.Ty T)} (hl : litL σ T n ps.toList = some cs) (hf : σ.frz cs = some (cs', σ1)) (hd : decAll T (U.sz T) n cs' = some l)
    (h : Rel X σ a w G) {o : Oper} (ho : o.op = .buildSlice S n ps) : Step P X o a w (.v (.c (.own T σ1.rows.length))) (σ1.newRow T l) := by
  intro K Q hK
  obtain ⟨arr, r1, r2, r3, r4⟩ := lit_run (P := P) hU hS hl h
  obtain ⟨G1, k1, k2, k3, k4, k5⟩ := frz_ok h r2.fl hf
  have hone : ∀ u ∈ arr.toList, u.oneCell' = true := by
    intro u hu
    obtain ⟨j, hj, e⟩ := List.getElem_of_mem hu
    have hjc : j < cs.length := by rw [← r2.1]; exact hj
    obtain ⟨u', m1, m2, m3⟩ := r2.2 j cs[j] (by simp [hjc])
    rw [List.getElem?_eq_getElem hj, Option.some.injEq] at m1
    rw [← e, m1]; exact m3
  have hrow := lit_row (P := P) hU h.fr.size k1.fzlt k4 hone hd r3 r4
  have k1' := k1.world (World.grownBy_alloc w (.cells arr T) none)
  obtain ⟨f1, f2, f3⟩ := k1.fresh
  obtain ⟨G', g1, g2, g3, g4, g5⟩ := k1'.newRow T l _ hrow (fun g hg => by cases hg; exact ⟨f1, f2, f3⟩)
  refine wp_value ?_ (hK _ _ G' g1 (rep_cell ⟨g4, rfl⟩))
  simp only [execOp, ho, Sem.run_bind, r1, Result.andThen_ok, Sem.run_pure]
/-- The same, where the row is only read from then on. -/
theorem lit_okD (hU : UOk P U) {S T n : Nat} (hS : U.elem S = some T) {ps : Array (Nat × Operand)} {cs : List U.C} {l : List (U.Ty T)} (hl : litL σ T n ps.toList = some cs) (hp : cs.all plain = true) (hd : decAll T (U.sz T) n cs = some l)
    (h : Rel X σ a w G) {o : Oper} (ho : o.op = .buildSlice S n ps) : Step P X o a w (.v (.c (.sl T l))) σ := by
  intro K Q hK
  obtain ⟨arr, r1, r2, r3, r4⟩ := lit_run (P := P) hU hS hl h
  have hpl : PL w G.fz cs arr.toList := ⟨r2.1, fun j x hx hpx => by
    obtain ⟨u, m1, m2, m3⟩ := r2.2 j x hx
    exact ⟨u, m1, m3, m2.toP hpx⟩⟩
  have hone : ∀ u ∈ arr.toList, u.oneCell' = true := by
    intro u hu
    obtain ⟨j, hj, e⟩ := List.getElem_of_mem hu
    have hjc : j < cs.length := by rw [← r2.1]; exact hj
    obtain ⟨u', m1, m2, m3⟩ := r2.2 j cs[j] (by simp [hjc])
    rw [List.getElem?_eq_getElem hj, Option.some.injEq] at m1
    rw [← e, m1]; exact m3
  have hrow := lit_row (P := P) hU h.fr.size h.fzlt hpl hone hd r3 r4
  have k1' := h.world (World.grownBy_alloc w (.cells arr T) none)
  obtain ⟨f1, f2, f3⟩ := h.fresh
  have k2 := k1'.addFz w.heap.size h.fr.size (by simp) f2 f3
  have hsl := hrow.read (fz' := fun k => G.fz k ∨ k = w.heap.size) (fun g hg => .inl hg) (fun g hg => by cases hg; exact .inr rfl)
  refine wp_value ?_ (hK _ _ _ k2 (rep_cell hsl))
  simp only [execOp, ho, Sem.run_bind, r1, Result.andThen_ok, Sem.run_pure]
theorem toBytes_ok (hU : UOk P U) {s d T : Nat} {x : Operand} {b : ByteArray} {l : List (U.Ty T)} (hc : U.conv s d = some (.toBytes T)) (hx : σ.ev x = .v (.c (.str b))) (hl : U.ofBytes T (bytesOf b) = some l)
    (h : Rel X σ a w G) {o : Oper} (ho : o.op = .convert s d x) : Step P X o a w (.v (.c (.sl T l))) σ := by
  intro K Q hK
  obtain ⟨h1, h2, h3⟩ := hU.convB s d T hc
  obtain ⟨b1, b2, b3⟩ := hU.ofBytes T _ l hl
  have hA := ev_ok h x
  rw [hx] at hA
  have hv := rep_str hA
  have hrun := run_bytes_of_string (P := P) w s d T b h3 h1 h2
  have hlen : l.length = b.size := by rw [b2]; simp [bytesOf]
  generalize hC : bytesRow b (grownCap w b.size 0 T) = C at hrun
  have hk : w.grownBy (w.drew.alloc (.cells C T (C.size, C.size + 1))) none := ⟨rfl, rfl, rfl, by simp, fun k hk _ => (World.grownBy_alloc w.drew (.cells C T (C.size, C.size + 1)) none).block k hk (by simp)⟩
  have k1 := h.world hk
  obtain ⟨f1, f2, f3⟩ := h.fresh
  have k2 := k1.addFz w.heap.size h.fr.size (by simp) f2 f3
  have hcell : ∀ i n, (bytesOf b)[i]? = some n → (w.drew.alloc (.cells C T (C.size, C.size + 1))).cell? ⟨w.heap.size, i, none⟩ = some (.int .u8 n) := by
    intro i n hi
    have e1 : (w.drew.alloc (.cells C T (C.size, C.size + 1))).heap[w.heap.size]? = some (.cells C T (C.size, C.size + 1)) := heap_alloc_new w.drew _
    rw [cell_of_row _ _ i C T _ e1, ← hC]
    unfold bytesRow
    simp only [bytesOf, List.getElem?_map] at hi
    cases hj : b.data.toList[i]? with
    | none => rw [hj] at hi; cases hi
    | some y =>
      rw [hj] at hi
      simp only [Option.map_some, Option.some.injEq] at hi
      have hlt : i < b.data.size := by have := (List.getElem?_eq_some_iff.1 hj).1; simpa using this
      rw [Array.getElem?_append_left (by simpa using hlt)]
      rw [Array.getElem?_toList] at hj
      simp [hj, hi]
  have hsl : RepP (w.drew.alloc (.cells C T (C.size, C.size + 1))) (fun k => G.fz k ∨ k = w.heap.size) (.sl T l : U.C) (.slice (some ⟨w.heap.size, 0, none⟩) l.length (grownCap w b.size 0 T)) := by
    refine .sl T l _ _ (fun i j => .int .u8 ((bytesOf b).getD i 0)) (by rw [hlen]; exact grownCap_ge w _ _ _) (fun h0 => ⟨_, rfl, .inr rfl, fun i j hi hj => ?_⟩) (fun i j x hi hx => ?_)
    · have hj0 : j = 0 := by omega
      subst hj0
      rw [b1, zero_add_, Nat.mul_one, Nat.add_zero]
      refine hcell i _ ?_
      rw [List.getD_eq_getElem?_getD]
      rw [b2] at hi
      simp [hi]
    · have hj : j < U.sz T := by rw [← hU.enc T (l.getD i (U.dflt T))]; exact (List.getElem?_eq_some_iff.1 hx).1
      have hj0 : j = 0 := by omega
      subst hj0
      have hi' : i < (bytesOf b).length := by rw [← b2]; exact hi
      have := b3 i ((bytesOf b).getD i 0) (by rw [List.getD_eq_getElem?_getD]; simp [hi'])
      rw [hx] at this
      cases this
      exact .int _ _
  rw [hlen] at hsl
  refine wp_value (v := .slice (some ⟨w.heap.size, 0, none⟩) b.size (grownCap w b.size 0 T)) ?_ (hK _ _ _ k2 (rep_cell hsl))
  simp only [execOp, ho, hv, Sem.run_bind, hrun, Result.andThen_ok, Sem.run_pure]
end
end Go.Proofs.Ytogfofcocidmkaa.Ev
