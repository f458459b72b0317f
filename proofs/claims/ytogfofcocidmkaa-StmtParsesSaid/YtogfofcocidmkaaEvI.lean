/- EV (ours), part I: operations that change the state: stores, literals, appends. -/
import Derived.Test.YtogfofcocidmkaaEvH
set_option linter.unusedVariables false
set_option linter.unusedSimpArgs false
namespace Go.Proofs.Ytogfofcocidmkaa.Ev
open Go.RowKit
section
variable {U : Uni} {X : Beg U} {σ : St U} {a : Act} {w w' : World} {G : Gh} {P : Program}

theorem VO.step {op : Op} {d : U.D} (h : VO P σ op d) (hR : Rel X σ a w G) {o : Oper} (ho : o.op = op) : Step P X o a w d σ := by
  intro K Q hK
  obtain ⟨v, h1, h2⟩ := h X a w G hR o ho
  exact wp_value h1 (hK v w G hR h2)

theorem setCells_grown (g : Nat) : ∀ (us : List Value) (o : Nat) (w : World), w.grownBy (w.setCells g o us) (some g)
  | [], _, w => ⟨rfl, rfl, rfl, Nat.le_refl _, fun _ _ _ => rfl⟩
  | v :: us, o, w => by
    have h := setCells_grown g us (o + 1) (w.setCell ⟨g, o, none⟩ v)
    refine ⟨h.os, h.tape, h.output, ?_, fun k hk hne => ?_⟩
    · have := h.size
      simpa [World.setCells] using this
    · have := h.block k (by simpa using hk) hne
      rw [World.setCells, this]
      exact heap_setCell_other w ⟨g, o, none⟩ k v (fun e => hne (by simpa using e))
theorem setCells_size (g : Nat) : ∀ (us : List Value) (o : Nat) (w : World), (w.setCells g o us).heap.size = w.heap.size
  | [], _, w => rfl
  | v :: us, o, w => by rw [World.setCells, setCells_size g us]; simp
/-- A variable's cells, written. -/
theorem Rel.setBox (h : Rel X σ a w G) {b g p o : Nat} {cs vs : List U.C} {us : List Value} (hb : σ.boxes[b]? = some cs) (hg : G.bs b = some (g, p)) (hlk : X.lk ≤ b) (hle : o + vs.length ≤ cs.length) (hcs : cs ≠ []) (hr : RepL w G vs us) :
    Rel X { σ with boxes := σ.boxes.set b (splice cs o vs) } a (w.setCells g (p + o) us) G ∧ G.le w (w.setCells g (p + o) us) G := by
  have hk := setCells_grown g us (p + o) w
  obtain ⟨hng, hlt⟩ := h.bfz b g p hg
  have hz : ∀ k, G.fz k → (w.setCells g (p + o) us).heap[k]? = w.heap[k]? := fun k hk' => hk.block k (h.fzlt k hk') (fun e => by cases e; exact hng hk')
  have hleG : G.le w (w.setCells g (p + o) us) G := ⟨fun _ h => h, fun _ _ h => h, fun _ _ h => h, hz⟩
  have hblt : b < σ.boxes.length := (List.getElem?_eq_some_iff.1 hb).1
  obtain ⟨g', p', hg', hbox⟩ := h.box b cs hb hcs
  rw [hg] at hg'; cases hg'
  have hus : us.length = vs.length := hr.1
  have hsome : ∀ j, j < us.length → (w.cell? ⟨g, p + o + j, none⟩).isSome = true := by
    intro j hj
    obtain ⟨u, h1, _⟩ := hbox (o + j) cs[o + j] (by simp)
    rw [Nat.add_assoc, h1]; rfl
  have hin := World.cell?_setCells_in g us (p + o) w hsome
  refine ⟨?_, hleG⟩
  exact {
    n := h.n
    slot := fun i d hd => by obtain ⟨v, h1, h2⟩ := h.slot i d hd; exact ⟨v, h1, h2.mono hleG⟩
    dfr := h.dfr
    box := fun b' cs' hb' hne => by
      simp only [List.getElem?_set] at hb'
      by_cases e : b = b'
      · subst e
        simp only [if_true, if_pos hblt, Option.some.injEq] at hb'
        subst hb'
        refine ⟨g, p, hg, fun j x hx => ?_⟩
        rw [splice_get hle] at hx
        have hfr : (w.setCells g (p + o) us).frozen? ⟨g, p + j, none⟩ = w.frozen? ⟨g, p + j, none⟩ := World.frozen?_setCells g us _ w _
        have hjl : j < cs.length := by
          split at hx
          · omega
          · exact (List.getElem?_eq_some_iff.1 hx).1
        obtain ⟨u0, k1, k2, k3, k4⟩ := hbox j cs[j] (by simp [hjl])
        rw [hfr]
        split at hx
        · rename_i hc
          obtain ⟨u, m1, m2, m3⟩ := hr.2 (j - o) x hx
          have hj' : j - o < us.length := by omega
          refine ⟨u, ?_, k2, m2.mono hleG, m3⟩
          have := hin (j - o) hj'
          rw [show p + o + (j - o) = p + j by omega] at this
          rw [this]
          rw [List.getElem?_eq_getElem hj'] at m1
          exact m1
        · rename_i hc
          rw [List.getElem?_eq_getElem hjl, Option.some.injEq] at hx
          subst hx
          refine ⟨u0, ?_, k2, k3.mono hleG, k4⟩
          rw [World.cell?_setCells_out g us (p + o) w _ (fun _ _ => by simp only; omega)]
          exact k1
      · rw [if_neg e] at hb'
        obtain ⟨g', p', k1, k2⟩ := h.box b' cs' hb' hne
        exact ⟨g', p', k1, k2.move hleG (hk.block g' (h.bfz b' g' p' k1).2 (fun z => by cases z; exact e (h.bb b b' _ _ _ hg k1)))⟩
    bdom := fun b' q hq => by
      obtain ⟨cs', h1, h2⟩ := h.bdom b' q hq
      simp only [List.getElem?_set]
      by_cases e : b = b'
      · subst e
        refine ⟨splice cs o vs, by simp [hblt], fun e => hcs ?_⟩
        have := splice_len hle
        rw [e] at this
        exact List.eq_nil_of_length_eq_zero this.symm
      · exact ⟨cs', by rw [if_neg e]; exact h1, h2⟩
    row := fun r R hR => by
      obtain ⟨v, h1, h2⟩ := h.row r R hR
      exact ⟨v, h1, h2.move (fun _ h => h) hz (fun k hk' => hk.block k (h2.lt k hk').2 (fun z => by cases z; exact (h.rfz r v _ h1 hk').2 b _ hg rfl))⟩
    rdom := h.rdom
    fzlt := fun k hk' => by rw [setCells_size]; exact h.fzlt k hk'
    bfz := fun b' g' p' hq => by rw [setCells_size]; exact h.bfz b' g' p' hq
    bb := h.bb
    rfz := h.rfz
    rr := h.rr
    fr := {
      blt := h.fr.blt
      os := hk.os.trans h.fr.os
      tape := hk.tape.trans h.fr.tape
      output := hk.output.trans h.fr.output
      size := Nat.le_trans h.fr.size hk.size
      blk := fun k hk1 hk2 => by
        refine (hk.block k (Nat.lt_of_lt_of_le hk1 h.fr.size) (fun z => ?_)).trans (h.fr.blk k hk1 hk2)
        cases z
        rcases h.fr.bsnew b _ hg with hX | hX
        · exact hk2 b _ hX rfl
        · simp only at hX; omega
      out := fun b' g' p' hq j hj => by
        obtain ⟨m1, m2⟩ := h.fr.out b' g' p' hq j hj
        refine ⟨Eq.trans ?_ m1, (World.frozen?_setCells g us _ w _).trans m2⟩
        refine World.cell?_setCells_out g us (p + o) w _ (fun e _ => ?_)
        simp only at e ⊢
        have hq' := h.fr.bs b' _ hq
        rw [e] at hq'
        have e' := h.bb b' b g p' p hq' hg
        subst e'
        rw [hg] at hq'; cases hq'
        have := h.lent b' _ hq cs hb
        omega
      bs := h.fr.bs
      fz := h.fr.fz
      fznew := h.fr.fznew
      bsnew := h.fr.bsnew }
    lent := fun b' q hq cs' hcs' => by
      simp only [List.getElem?_set] at hcs'
      by_cases e : b = b'
      · subst e
        simp only [if_true, if_pos hblt, Option.some.injEq] at hcs'
        subst hcs'
        rw [splice_len hle]
        exact h.lent b q hq cs hb
      · rw [if_neg e] at hcs'
        exact h.lent b' q hq cs' hcs'
    lk := h.lk
    lock := fun b' hb' => by
      obtain ⟨h1, h2⟩ := h.lock b' hb'
      refine ⟨?_, h2⟩
      simp only [List.getElem?_set]
      rw [if_neg (by omega)]
      exact h1
    lockne := h.lockne }
theorem store_ok (hU : UOk P U) (h : Rel X σ a w G) {o : Oper} {T : Nat} {A x : Operand} (ho : o.op = .store T A x) {t : TI} {v : U.V} {vs cs' : List U.C} {b q : Nat} (ht : U.inf T = some t) (hx : σ.ev x = .v v) (hv : vl v = some vs) (hA : σ.ev A = .v (.c (.ptr b q)))
    (hs : stoC σ t.sz b q vs = some cs') : Step P X o a w (.v (.c .undef)) { σ with boxes := σ.boxes.set b cs' } := by
  intro K Q hK
  unfold stoC at hs
  obtain ⟨e, hs⟩ := bif_some hs
  cases hs
  simp only [Bool.and_eq_true] at e
  obtain ⟨⟨e1, e2⟩, e3⟩ := e
  have e1 := Nat.eq_of_beq_eq_true e1
  have e2 := Nat.le_of_ble_eq_true e2
  have e3 := Nat.le_of_ble_eq_true e3
  have hpos := sz_pos hU ht
  have hX := ev_ok h x
  rw [hx] at hX
  have hr := RepV.vl (w := w) (G := G) hX hv
  have hB := ev_ok h A
  rw [hA] at hB
  obtain ⟨g, p, hg, hval⟩ := hB.1
  obtain ⟨cs, h1, h2⟩ := h.bdom b _ hg
  have hcs : σ.boxes.getD b [] = cs := by rw [List.getD_eq_getElem?_getD, h1]; rfl
  rw [hcs] at e3 hK
  obtain ⟨g', p', hg', hbox⟩ := h.box b cs h1 h2
  rw [hg] at hg'; cases hg'
  have hlk : X.lk ≤ b := by rw [← h.lk]; exact e2
  obtain ⟨k1, k2⟩ := h.setBox h1 hg hlk (by omega : q + vs.length ≤ cs.length) h2 hr
  have hus : (a.eval x).cells.toList.length = vs.length := hr.1
  have hst := run_storeCells_cells (P := P) g (p + q) (a.eval x).cells.toList 0 w (fun j hj => by
      obtain ⟨u, m1, _⟩ := hbox (q + j) cs[q + j] (by simp)
      rw [Nat.add_zero, Nat.add_assoc, m1]; rfl) (fun j hj => by
      obtain ⟨u, m1, m2, _⟩ := hbox (q + j) cs[q + j] (by simp)
      rw [Nat.add_zero, Nat.add_assoc, m2]) (fun u hu => by
      obtain ⟨j, hj, e⟩ := List.getElem_of_mem hu
      obtain ⟨u', m1, m2, m3⟩ := hr.2 j vs[j] (by simp)
      rw [List.getElem?_eq_getElem hj, Option.some.injEq] at m1
      rw [← e, m1]; exact m3)
  rw [Nat.add_zero] at hst
  refine wp_skip_ (w' := w.setCells g (p + q) (a.eval x).cells.toList) ?_ (hK undef _ G k1 (rep_undef _))
  have hsz : (a.eval x).cells.size = t.sz := by rw [← Array.length_toList, hus]; omega
  simp [execOp, ho, hval, Instr.storeAt, Instr.sureAddr, storeVar, run_sizeOf_ hU ht, hsz, hst]

/-! ### append -/
/-- As the kit's law of append, and: the row stays in its block or goes to a new one. -/
theorem run_append_mine (w : World) (base : Nat) (t ty e : TypeId) (i : TypeInfo) (z : Value) (ht : P.underlying t = some (.slice e)) (hi : P.info? e = some i) (hz : i.zero = some z)
    (hzs : z.cells.size = i.size) (hsz : 0 < i.size) (v : Value) (n : Nat) (xs : List Value) (hown : w.ownsRow base e i.size v n xs)
    (ad : Addr) (m c : Nat) (news : List Value) (hl : news.length = m * i.size) (hnews : ∀ j u, news[j]? = some u → w.cell? (ad.add j) = some u) (h1 : ∀ u ∈ news, u.oneCell' = true)
    (h63 : n + m ≤ maxLen) (hbytes : (n + m) * i.bytes ≤ 140737488355328) (hbase : base ≤ w.heap.size) :
    ∃ v' w', (Builtin.append_ #[t, t] ty #[v, .slice (some ad) m c]).run P w = .ok v' w' ∧ w'.ownsRow base e i.size v' (n + m) (xs ++ news) ∧ w.grownBy w' v.ownBlock ∧ (v'.ownBlock = v.ownBlock ∨ v'.ownBlock = some w.heap.size) := by
  rcases hown.2 with ⟨rfl, rfl⟩ | ⟨g, cap, cur, rfl, hbg, hg, hnc, hcm, hcs, htake⟩
  · have hx : xs = [] := List.eq_nil_of_length_eq_zero (by simpa using hown.1)
    subst hx
    obtain ⟨v', w', k1, k2, k3, k4⟩ := run_append_own (P := P) w w.heap.size t ty e i z i.size i.bytes ht hi hz rfl rfl hzs hsz (.slice none 0 0) 0 [] (World.ownsRow_nil _ _ _ _) ad m c news hl hnews h1 h63 hbytes (Nat.le_refl _)
    refine ⟨v', w', k1, ⟨k2.1, ?_⟩, k3, ?_⟩
    · rcases k2.2 with hn | ⟨g, cap, cur, e1, e2, rest⟩
      · exact .inl hn
      · exact .inr ⟨g, cap, cur, e1, Nat.le_trans hbase e2, rest⟩
    · by_cases hm : m = 0
      · left
        rw [k4.2 ⟨rfl, hm⟩]
      · right
        have hr := run_append_nil (P := P) w t ty e i z ht hi hz ad m c news hl hnews (by omega) (by simp only [maxLen] at h63; omega) (by have hb := hbytes; simp only [Nat.zero_add] at hb; omega)
        rw [k1] at hr
        cases hr
        rfl
  · by_cases hroom : n + m ≤ cap
    · obtain ⟨w', k1, k2, k3⟩ := run_append_fits (P := P) w base t ty e i i.size ht hi rfl g n cap xs hown ad m c news hl hnews h1 hroom
      exact ⟨_, w', k1, k2, k3, .inl rfl⟩
    · have holds : ∀ j u, xs[j]? = some u → w.cell? ((⟨g, 0, none⟩ : Addr).add j) = some u := hown.cells (g := g) rfl
      have hr := run_append_grow (P := P) w t ty e i z ht hi hz ⟨g, 0, none⟩ n cap xs hown.1 holds ad m c news hl hnews (by omega) (by simp only [maxLen] at h63; omega) (growslice_fits (by omega) hbytes)
      obtain ⟨v', w', k1, k2, k3, k4⟩ := run_append_own (P := P) w base t ty e i z i.size i.bytes ht hi hz rfl rfl hzs hsz _ n xs hown ad m c news hl hnews h1 h63 hbytes hbase
      refine ⟨v', w', k1, k2, k3, .inr ?_⟩
      rw [k1] at hr
      cases hr
      rfl
theorem run_append_none (w : World) (base : Nat) (t ty e : TypeId) (i : TypeInfo) (ht : P.underlying t = some (.slice e)) (hi : P.info? e = some i)
    (v : Value) (n c : Nat) (xs : List Value) (hown : w.ownsRow base e i.size v n xs) :
    (Builtin.append_ #[t, t] ty #[v, .slice none 0 c]).run P w = .ok v w := by
  rcases hown.2 with ⟨rfl, rfl⟩ | ⟨g, cap, cur, rfl, _, _, hnc, _⟩
  · simp [Builtin.append_, run_underlying ht, sizeOf, typeInfo, hi, Builtin.lenOf, Builtin.firstCells]
  · simp [Builtin.append_, run_underlying ht, sizeOf, typeInfo, hi, Builtin.lenOf, Builtin.firstCells, hnc, storeCells]
/-- A slice's cells in memory, one behind the other. -/
theorem sl_cells (hU : UOk P U) {fz : Nat → Prop} {T : Nat} {m : List (U.Ty T)} {ad : Addr} {k c : Nat} (h : RepP w fz (.sl T m : U.C) (.slice (some ad) k c)) :
    k = m.length ∧ (readL w ad (m.length * U.sz T)).length = m.length * U.sz T ∧ (∀ (j : Nat) u, (readL w ad (m.length * U.sz T))[j]? = some u → w.cell? (ad.add j) = some u) ∧ (∀ u ∈ readL w ad (m.length * U.sz T), u.oneCell' = true) ∧
      ∀ i j (x : U.C), i < m.length → (U.enc T (m.getD i (U.dflt T)))[j]? = some x → ∃ u, (readL w ad (m.length * U.sz T))[i * U.sz T + j]? = some u ∧ RepP w fz x u := by
  cases h with
  | sl _ _ _ _ f hc ha hf =>
    have key : ∀ q, q < m.length * U.sz T → ∃ i j, i < m.length ∧ j < U.sz T ∧ q = i * U.sz T + j := by
      intro q hq
      have hs : 0 < U.sz T := by
        rcases Nat.eq_zero_or_pos (U.sz T) with e | e
        · rw [e] at hq; simp at hq
        · exact e
      exact ⟨q / U.sz T, q % U.sz T, by rwa [Nat.div_lt_iff_lt_mul hs], Nat.mod_lt _ hs, by rw [Nat.mul_comm]; exact (Nat.div_add_mod q (U.sz T)).symm⟩
    have hcell : ∀ i j, i < m.length → j < U.sz T → w.cell? (ad.add (i * U.sz T + j)) = some (f i j) := by
      intro i j hi hj
      obtain ⟨ad', e, _, h2⟩ := ha (by omega)
      cases e
      exact h2 i j hi hj
    have hlt : ∀ i j, i < m.length → j < U.sz T → i * U.sz T + j < m.length * U.sz T := by
      intro i j hi hj
      calc i * U.sz T + j < i * U.sz T + U.sz T := by omega
        _ = (i + 1) * U.sz T := by rw [Nat.succ_mul]
        _ ≤ m.length * U.sz T := Nat.mul_le_mul_right _ hi
    have hj' : ∀ i j (x : U.C), i < m.length → (U.enc T (m.getD i (U.dflt T)))[j]? = some x → j < U.sz T := by
      intro i j x hi hx
      have := (List.getElem?_eq_some_iff.1 hx).1
      rwa [hU.enc] at this
    refine ⟨rfl, readL_len _ _, readL_cell (fun q hq => ?_), fun u hu => ?_, fun i j x hi hx => ?_⟩
    · obtain ⟨i, j, hi, hj, rfl⟩ := key q hq
      exact ⟨_, hcell i j hi hj⟩
    · obtain ⟨q, hq, e⟩ := List.getElem_of_mem hu
      rw [readL_len] at hq
      obtain ⟨i, j, hi, hj, rfl⟩ := key q hq
      have h1 := readL_get hq (hcell i j hi hj)
      rw [List.getElem?_eq_getElem (by rw [readL_len]; exact hq), Option.some.injEq] at h1
      rw [← e, h1]
      have hx : (U.enc T (m.getD i (U.dflt T)))[j]? = some ((U.enc T (m.getD i (U.dflt T)))[j]'(by rw [hU.enc]; exact hj)) := by simp
      exact (hf i j _ hi hx).one
    · have hj := hj' i j x hi hx
      exact ⟨f i j, readL_get (hlt i j hi hj) (hcell i j hi hj), hf i j x hi hx⟩
theorem room_ok (hU : UOk P U) {T : Nat} {t : TI} (ht : U.inf T = some t) {n : Nat} (h : n ≤ roomOf t) : n ≤ maxLen ∧ n * t.bytes ≤ 140737488355328 := by
  obtain ⟨i, d, h1, h2, h3, h4, h5, h6, h7⟩ := hU.inf T t ht
  have h8 : n * t.bytes ≤ 140737488355328 := (Nat.le_div_iff_mul_le h7.1).1 h
  have h9 : n ≤ n * t.bytes := Nat.le_mul_of_pos_right n h7.1
  exact ⟨by simp only [maxLen]; omega, h8⟩

theorem Rel.regrow (h : Rel X σ a w G) {r T : Nat} {v v' : Value} {l' : List (U.Ty T)} (hr : G.rs r = some v) (hk : w.grownBy w' v.ownBlock) (ho : OwnRep w' G.fz X.w.heap.size T l' v') (hb : v'.ownBlock = v.ownBlock ∨ v'.ownBlock = some w.heap.size) :
    ∃ G', Rel X ((σ.kill r).setRow r T l') a w' G' ∧ G'.rs r = some v' ∧ G'.fz = G.fz ∧ G'.bs = G.bs := by
  have h2 := h.mapRow r G.fz (killC r) rfl (fun x hx => by cases x <;> first | rfl | cases hx) (fun _ hg => hg) (fun _ hg => .inl hg) (fun x u hx => by
    cases x with
    | own T q =>
      simp only [killC]
      by_cases e : q = r
      · subst e; simp only [BEq.rfl, cond_true]; trivial
      · have e' : (q == r) = false := by simpa using e
        simp only [e', cond_false]
        exact ⟨by simp only; rw [if_neg e]; exact hx.1, hx.2⟩
    | oat T q i o =>
      simp only [killC]
      by_cases e : q = r
      · subst e; simp only [BEq.rfl, cond_true]; trivial
      · have e' : (q == r) = false := by simpa using e
        simp only [e', cond_false]
        obtain ⟨g, n, c, h1, h2, h3⟩ := hx
        exact ⟨g, n, c, by simp only; rw [if_neg e]; exact h1, h2, h3⟩
    | _ => exact hx)
  obtain ⟨R, hR⟩ := h.rdom r v hr
  obtain ⟨v0, e0, hown⟩ := h.row r R hR
  rw [hr] at e0; cases e0
  have hold : ∀ g, v.ownBlock = some g → X.w.heap.size ≤ g ∧ ¬ G.fz g ∧ (∀ b q, G.bs b = some q → q.1 ≠ g) ∧ ∀ r' v', (if r' = r then none else G.rs r') = some v' → v'.ownBlock ≠ some g := by
    intro g hg
    refine ⟨(hown.lt g hg).1, (h.rfz r v g hr hg).1, (h.rfz r v g hr hg).2, fun r' v' hv' e => ?_⟩
    by_cases er : r' = r
    · rw [if_pos er] at hv'; cases hv'
    · rw [if_neg er] at hv'
      exact er (h.rr r' r v' v g hv' hr e hg)
  have h3 := h2.worldBut hk hold
  have hlt : r < σ.rows.length := (List.getElem?_eq_some_iff.1 hR).1
  have h4 := h3.setRow r (σ.rows.set r (some ⟨T, l'⟩)) ⟨T, l'⟩ v' (by simp) (by simp [hlt]) (fun q hq S => by simp [List.getElem?_set, Ne.symm hq]) ho (fun g hg => by
    rcases hb with e | e
    · rw [e] at hg
      exact (hold g hg).2
    · rw [e] at hg
      cases hg
      refine ⟨fun hz => ?_, fun b q hq e => ?_, fun q u hq e => ?_⟩
      · have := h.fzlt _ hz; omega
      · have := (h.bfz b q.1 q.2 hq).2; omega
      · simp only at hq
        split at hq
        · cases hq
        · obtain ⟨R', hR'⟩ := h.rdom q u hq
          obtain ⟨u', k1, k2⟩ := h.row q R' hR'
          rw [hq] at k1; cases k1
          have := (k2.lt _ e).2
          omega)
  refine ⟨_, h4, by simp, rfl, rfl⟩
/-- What append does to a row of ours: the world behind it. -/
theorem append_run (hU : UOk P U) {fz : Nat → Prop} {B S T ty : Nat} {t : TI} (hS : U.elem S = some T) (ht : U.inf T = some t) {l m : List (U.Ty T)} {v vx : Value} (ho : OwnRep w fz B T l v) (hx : RepP w fz (.sl T m : U.C) vx) (hn : l.length + m.length ≤ roomOf t) (hB : B ≤ w.heap.size)
    (hz : ∀ g, fz g → g < w.heap.size) (hf : ∀ g, v.ownBlock = some g → ¬ fz g) :
    ∃ v' w', (Builtin.append_ #[S, S] ty #[v, vx]).run P w = .ok v' w' ∧ w.grownBy w' v.ownBlock ∧ OwnRep w' fz B T (l ++ m) v' ∧ (v'.ownBlock = v.ownBlock ∨ v'.ownBlock = some w.heap.size) := by
  obtain ⟨xs, hown, hrep, hone⟩ := ho
  obtain ⟨i, d, h1, h2, h3, h4, h5, h6, h7, z, h8, h9⟩ := hU.inf T t ht
  have hsz : U.sz T = i.size := by simp [Uni.sz, ht, h2]
  have hes := hU.elem S T hS
  rw [hsz] at hown
  have hx' := hx
  cases hx with
  | sl _ _ ado c f hc ha hff =>
    cases ado with
    | none =>
      have h0 : m = [] := by
        cases m with
        | nil => rfl
        | cons y m => obtain ⟨ad, e, _⟩ := ha (by simp); cases e
      subst h0
      refine ⟨v, w, run_append_none w B S ty T i hes h1 v l.length c xs hown, ⟨rfl, rfl, rfl, Nat.le_refl _, fun _ _ _ => rfl⟩, ?_, .inl rfl⟩
      rw [List.append_nil]
      exact ⟨xs, by rw [hsz]; exact hown, hrep, hone⟩
    | some ad =>
      obtain ⟨_, k2, k3, k4, k5⟩ := sl_cells hU hx'
      obtain ⟨g1, g2⟩ := room_ok hU ht hn
      obtain ⟨v', w', r1, r2, r3, r4⟩ := run_append_mine (P := P) w B S ty T i z hes h1 h8 (by rw [h9, h2]) (by omega) v l.length xs hown ad m.length c (readL w ad (m.length * U.sz T)) (by rw [k2, hsz]) k3 k4 g1 (by rw [h3]; exact g2) hB
      refine ⟨v', w', r1, r3, ⟨xs ++ readL w ad (m.length * U.sz T), ?_, ?_, ?_⟩, r4⟩
      · rw [hsz, List.length_append, ← hsz]
        rw [← hsz] at r2
        exact r2
      · have hw : ∀ g, fz g → w'.heap[g]? = w.heap[g]? := fun g hg => r3.block g (hz g hg) (fun e => hf g e.symm hg)
        have hxl : xs.length = l.length * U.sz T := by rw [hsz]; exact hown.1
        intro q j x hq hx
        rw [List.length_append] at hq
        by_cases hql : q < l.length
        · have e : (l ++ m).getD q (U.dflt T) = l.getD q (U.dflt T) := by simp [List.getD_eq_getElem?_getD, List.getElem?_append_left hql]
          rw [e] at hx
          obtain ⟨u, m1, m2⟩ := hrep q j x hql hx
          refine ⟨u, ?_, m2.mono (fun _ h => h) hw⟩
          rw [List.getElem?_append_left (List.getElem?_eq_some_iff.1 m1).1]
          exact m1
        · have e : (l ++ m).getD q (U.dflt T) = m.getD (q - l.length) (U.dflt T) := by simp [List.getD_eq_getElem?_getD, List.getElem?_append_right (Nat.le_of_not_lt hql)]
          rw [e] at hx
          obtain ⟨u, m1, m2⟩ := k5 (q - l.length) j x (by omega) hx
          refine ⟨u, ?_, m2.mono (fun _ h => h) hw⟩
          have e2 : q * U.sz T + j = xs.length + ((q - l.length) * U.sz T + j) := by
            rw [hxl, ← Nat.add_assoc, ← Nat.add_mul]
            congr 2; omega
          rw [e2, List.getElem?_append_right (by omega), Nat.add_sub_cancel_left]
          exact m1
      · intro u hu
        rcases List.mem_append.1 hu with hu | hu
        · exact hone u hu
        · exact k4 u hu
theorem append_ok (hU : UOk P U) {R : Type} {S T : Nat} {t : TI} (hS : U.elem S = some T) (ht : U.inf T = some t) {s x : Operand} {k : U.D → St U → Option R} {r : R} (he : evAppend σ T t (σ.ev s) (σ.ev x) k = some r) :
    ∃ d σ', k d σ' = some r ∧ ∀ (X : Beg U) a w G, Rel X σ a w G → ∀ o : Oper, o.op = .call ⟨.builtin .append, #[s, x], #[S, S]⟩ → Step P X o a w d σ' := by
  unfold evAppend at he
  split at he
  · rename_i T' q hs
    split at he
    · rename_i m σ1 hl
      split at he
      · rename_i l hrow
        obtain ⟨e, he⟩ := when_some he
        refine ⟨_, _, he, fun X a w G h o ho K Q hK => ?_⟩
        have hn : l.length + m.length ≤ roomOf t := by simpa using e
        have hA := ev_ok h s
        rw [hs] at hA
        obtain ⟨G1, k1, k2, k3, k4, k5, k6⟩ := list_ok h (ev_ok h x) hl
        obtain ⟨v, hv, hown⟩ := own_row k1 hrow
        have e1 := hA.1.1
        rw [k2.rs _ _ hv] at e1
        have e1 : a.eval s = v := (Option.some.inj e1).symm
        obtain ⟨v', w', r1, r2, r3, r4⟩ := append_run (P := P) (ty := o.type) hU hS ht hown k4 hn h.fr.size k1.fzlt (fun g hg => (k1.rfz q v g hv hg).1)
        obtain ⟨G', g1, g2, g3, g4⟩ := k1.regrow hv r2 r3 r4
        refine wp_value (v := v') (w' := w') ?_ (hK v' w' G' g1 (rep_cell ⟨g2, ?_⟩))
        · simp [execOp, ho, resolve, invoke, builtin, e1, r1]
        · obtain ⟨xs, ho', _⟩ := r3
          rcases ho'.2 with ⟨e, _⟩ | ⟨g, cap, cur, e, _⟩ <;> rw [e] <;> rfl
      · cases he
    · cases he
  · rename_i hs
    split at he
    · rename_i m σ1 hl
      obtain ⟨e, he⟩ := when_some he
      refine ⟨_, _, he, fun X a w G h o ho K Q hK => ?_⟩
      have hn : ([] : List (U.Ty T)).length + m.length ≤ roomOf t := by simpa using e
      have hA := ev_ok h s
      rw [hs] at hA
      have e1 := rep_nils hA
      obtain ⟨G1, k1, k2, k3, k4, k5, k6⟩ := list_ok h (ev_ok h x) hl
      have hown : OwnRep w G1.fz X.w.heap.size T ([] : List (U.Ty T)) (.slice none 0 0) := ⟨[], World.ownsRow_nil _ _ _ _, fun i j x hi => absurd hi (by simp), fun u hu => by simp at hu⟩
      obtain ⟨v', w', r1, r2, r3, r4⟩ := append_run (P := P) (ty := o.type) hU hS ht hown k4 hn h.fr.size k1.fzlt (fun g hg => by cases hg)
      have r2' : w.grownBy w' none := r2
      have k1' := k1.world r2'
      obtain ⟨G', g1, g2, g3, g4, g5⟩ := k1'.newRow T m v' (by simpa using r3) (fun g hg => by
        have hg' : g = w.heap.size := by
          rcases r4 with e | e
          · rw [e] at hg; cases hg
          · rw [e] at hg; cases hg; rfl
        subst hg'
        refine ⟨fun hz => ?_, fun b q hq e => ?_, fun q u hq e => ?_⟩
        · have := k1.fzlt _ hz; omega
        · have := (k1.bfz b q.1 q.2 hq).2; omega
        · obtain ⟨R', hR'⟩ := k1.rdom q u hq
          obtain ⟨u', m1, m2⟩ := k1.row q R' hR'
          rw [hq] at m1; cases m1
          have := (m2.lt _ e).2
          omega)
      refine wp_value (v := v') (w' := w') ?_ (hK v' w' G' g1 (rep_cell ⟨g4, ?_⟩))
      · simp [execOp, ho, resolve, invoke, builtin, e1, r1]
      · obtain ⟨xs, ho', _⟩ := r3
        rcases ho'.2 with ⟨e, _⟩ | ⟨g, cap, cur, e, _⟩ <;> rw [e] <;> rfl
    · cases he
  · cases he
end
end Go.Proofs.Ytogfofcocidmkaa.Ev
