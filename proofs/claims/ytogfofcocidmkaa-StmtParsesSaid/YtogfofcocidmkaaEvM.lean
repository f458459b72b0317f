/- EV (ours), part M: calls. -/
import Derived.Test.YtogfofcocidmkaaEvL
set_option linter.unusedVariables false
set_option linter.unusedSimpArgs false
namespace Go.Proofs.Ytogfofcocidmkaa.Ev
open Go.RowKit
section
variable {U : Uni} {X : Beg U} {σ : St U} {a : Act} {w w' : World} {G : Gh} {P : Program}

theorem OwnRep.base {fz : Nat → Prop} {B B' T : Nat} {l : List (U.Ty T)} {v : Value} (h : OwnRep w fz B T l v) (hB : B' ≤ B) : OwnRep w fz B' T l v := by
  obtain ⟨xs, ho, rest⟩ := h
  refine ⟨xs, ⟨ho.1, ?_⟩, rest⟩
  rcases ho.2 with hn | ⟨g, cap, cur, e, hb, r⟩
  · exact .inl hn
  · exact .inr ⟨g, cap, cur, e, Nat.le_trans hB hb, r⟩
theorem recvD_ok (h : Rel X σ a w G) {X' : Beg U} {lk : Nat} {d d' : U.D} {bx : List (List U.C)} {v : Value} {Gr : Gh} {ls : List Lent} {σ' : St U} (hfz : G.fz = Gr.fz) (hX : X.w.heap.size ≤ X'.w.heap.size)
    (hx : Rel X' (retSt lk d bx) ⟨#[v], []⟩ w Gr) (hptr : ∀ (j : Nat) l g p, ls[j]? = some l → Gr.bs j = some (g, p) → ∃ p0, G.bs l.b = some (g, p0) ∧ p0 + l.o = p)
    (hnb : ∀ g, X'.w.heap.size ≤ g → (∀ b q, Gr.bs b = some q → q.1 ≠ g) → ∀ b q, G.bs b = some q → q.1 ≠ g) (hnr : ∀ g, X'.w.heap.size ≤ g → ∀ r u, G.rs r = some u → u.ownBlock ≠ some g)
    (hd : recvD ls σ d = some (d', σ')) : ∃ G', Rel X σ' a w G' ∧ RepD w G' d' v := by
  obtain ⟨v0, e0, hv⟩ := hx.slot 0 (mapD unC d) rfl
  simp only [List.getElem?_toArray, List.getElem?_cons_zero, Option.some.injEq] at e0
  subst e0
  have key : ∀ (G' : Gh), G'.fz = G.fz → (∀ b q, G.bs b = some q → G'.bs b = some q) → (∀ T u, RepC w Gr (.own T 0 : U.C) u → G'.rs σ.rows.length = some u) → RepD w G' (mapD (recvC ls σ.rows.length) d) v := by
    intro G' h1 h2 h3
    refine RepD.map2 (w := w) (G := Gr) (w' := w) (G' := G') (fun x u hxu => ?_) (fun x hx0 => by cases x <;> first | rfl | simp [unC] at hx0) hv
    have hp : ∀ y : U.C, RepP w Gr.fz y u → RepC w G' y u := fun y hy => RepC.ofP (by rw [h1, hfz]; exact hy)
    cases x with
    | new T l => exact ⟨h3 T u hxu, hxu.2⟩
    | ptr j o =>
      obtain ⟨g, p, k1, k2⟩ := hxu
      simp only [recvC]
      cases hl : ls[j]? with
      | none => trivial
      | some l =>
        obtain ⟨p0, m1, m2⟩ := hptr j l g p hl k1
        exact ⟨g, p0, h2 _ _ m1, by rw [k2, ← m2, Nat.add_assoc]⟩
    | own _ _ => trivial
    | fat _ _ _ _ => trivial
    | oat _ _ _ _ => trivial
    | undef => trivial
    | int _ _ => exact hp _ hxu
    | bool _ => exact hp _ hxu
    | str _ => exact hp _ hxu
    | nilp => exact hp _ hxu
    | nils => exact hp _ hxu
    | sl _ _ => exact hp _ hxu
    | sp _ _ _ => exact hp _ hxu
    | fn _ => exact hp _ hxu
  unfold recvD at hd
  split at hd
  · rename_i hn
    cases hd
    refine ⟨G, h, key G rfl (fun _ _ h => h) (fun T u hu => ?_)⟩
    obtain ⟨R, hR⟩ := hx.rdom 0 u hu.1
    simp [retSt, hn] at hR
  · rename_i R hn
    cases hd
    obtain ⟨v1, e1, ho⟩ := hx.row 0 R (by simp [retSt, hn])
    have hB := ho.base hX
    obtain ⟨G', k1, k2, k3, k4, k5⟩ := h.newRow R.T R.l v1 (by rw [hfz]; exact hB) (fun g hg => by
      have hlt := (ho.lt g hg).1
      obtain ⟨f1, f2⟩ := hx.rfz 0 v1 g e1 hg
      exact ⟨by rw [hfz]; exact f1, hnb g hlt f2, fun q u hq => hnr g hlt q u hq⟩)
    refine ⟨G', k1, key G' k2 (fun b q hq => by rw [k3]; exact hq) (fun T u hu => ?_)⟩
    have := hu.1
    rw [e1] at this
    rw [k4, this]
  · cases hd
theorem prep_n (hU : UOk P U) : ∀ (ds : List U.D) (ts : List Nat) (j : Nat) (σ : St U) (ds' : List U.D) (ls : List Lent) (σ1 : St U), prep U σ ts j ds = some (ds', ls, σ1) → ∀ l ∈ ls, 0 < l.n
  | [], ts, j, σ, ds', ls, σ1, hp => by
    simp only [prep, Option.some.injEq, Prod.mk.injEq] at hp
    obtain ⟨rfl, rfl, rfl⟩ := hp
    intro l hl; simp at hl
  | d :: ds, ts, j, σ, ds', ls, σ1, hp => by
    have other : ∀ x : U.V, d = .v x → (match σ.frzV x with
          | some (v', σ1) => bif (vcells v').all plain then (match prep U σ1 ts.tail j ds with
            | some (ds', ls, σ2) => some (.v (canonV U (ts.headD 0) v') :: ds', ls, σ2)
            | none => none) else none
          | none => none) = some (ds', ls, σ1) → ∀ l ∈ ls, 0 < l.n := by
      intro x _ hp
      split at hp
      · obtain ⟨_, hp⟩ := bif_some hp
        split at hp
        · rename_i ds2 ls2 σ2 hp2
          simp only [Option.some.injEq, Prod.mk.injEq] at hp
          obtain ⟨rfl, rfl, rfl⟩ := hp
          exact prep_n hU ds _ _ _ _ _ _ hp2
        · cases hp
      · cases hp
    cases d with
    | tup l => simp [prep] at hp
    | v x =>
      cases x with
      | agg cs => exact other _ rfl hp
      | c x =>
        cases x with
        | ptr b o =>
          simp only [prep] at hp
          split at hp
          · split at hp
            · rename_i t ht
              split at hp
              · rename_i ds2 ls2 σ2 hp2
                simp only [Option.some.injEq, Prod.mk.injEq] at hp
                obtain ⟨rfl, rfl, rfl⟩ := hp
                intro l hl
                rcases List.mem_cons.1 hl with rfl | hl
                · exact sz_pos hU ht
                · exact prep_n hU ds _ _ _ _ _ _ hp2 l hl
              · cases hp
            · cases hp
          · cases hp
        | _ => exact other _ rfl hp
theorem run_enter {g : Nat} {fn : Func} {args : Array Value} (hf : P.funcs[g]? = some fn) (hb : fn.body.isNone = false) (hn : (fn.name == "runtime.NumGoroutine") = false) : (callFunc g args).run P w = .ok (.enter g args) w := by
  have hn' : ¬ fn.name = "runtime.NumGoroutine" := by simpa using hn
  have hb' : ¬ fn.body = none := by intro e; rw [e] at hb; cases hb
  simp [callFunc, run_program, hf, hb', hn']
theorem lkBoxes {ls : List Lent} {bx : List (List U.C)} {σ1 : St U} {n : Nat} (hk : Bk σ ls bx σ1) (hl : ∀ l ∈ ls, n ≤ l.b) : ∀ b, b < n → σ1.boxes[b]? = σ.boxes[b]? := fun b hb => hk.other b (fun l hl' e => by have := hl l hl'; omega)
theorem call_step (hU : UOk P U) {g : Nat} {args : Array Operand} {f : Operand} {ts : List Nat} (hf : σ.ev f = .v (.c (.fn g))) {ds' : List U.D} {ls : List Lent} {σ1 σ2 σ3 : St U} {bx bx' : List (List U.C)} {d d' : U.D} {fn : Func}
    (hp : prep U σ ts 0 (args.toList.map σ.ev) = some (ds', ls, σ1)) (hdis : distinct ls = true) (hlock : U.ro g = true ∨ (ls.all fun l => σ1.lk.ble l.b) = true) (hl : lend σ1 ls = some (bx, σ2))
    (hfn : P.funcs[g]? = some fn) (hbody : fn.body.isNone = false) (hname : (fn.name == "runtime.NumGoroutine") = false) (hro : U.ro g = true → bx' = bx) (hlen : bx.length ≤ bx'.length)
    (hcalls : ∀ (w : World) fz bs vs, Entry U w fz bs ds' bx vs → Calls P g vs.toArray w fun e w' => ∃ v, e = .returned v ∧ Exits (begOf w fz bs bx (U.ro g)) d bx' v w')
    (hrecv : (bif U.ro g then recvR ls σ2 d bx' else recv ls σ2 d bx') = some (d', σ3)) (h : Rel X σ a w G) {o : Oper} {tys : Array Nat} (ho : o.op = .call ⟨.value f, args, tys⟩) : Step P X o a w d' σ3 := by
  intro K Q hK
  have hn := prep_n hU _ _ _ _ _ _ _ hp
  have hfv := ev_ok h f
  rw [hf] at hfv
  have hfv := rep_fn hfv
  obtain ⟨G1, k1, k2, k3, k4, k5⟩ := prep_ok hU (args.toList.map σ.ev) ts 0 σ G (args.toList.map a.eval) ds' ls σ1 h (by simp) (fun i dd hdd => by
    rw [List.getElem?_map] at hdd ⊢
    cases hx : args.toList[i]? with
    | none => rw [hx] at hdd; cases hdd
    | some x =>
      rw [hx] at hdd
      simp only [Option.map_some, Option.some.injEq] at hdd
      subst hdd
      exact ⟨a.eval x, rfl, ADat.of (ev_ok h x)⟩) hp
  obtain ⟨G2, m1, m2, m3, m4, m5, m6⟩ := lend_ok ls σ1 G1 bx σ2 k1 hl
  have hent := entry_ok (ds' := ds') (vs := args.toList.map a.eval) m1 hdis m5 hn m6 (by simp [k4]) (fun i dd hdd => by
    obtain ⟨v, e1, e2⟩ := k5 i dd hdd
    refine ⟨v, e1, ?_⟩
    have := e2.mono (fz' := G2.fz) m2.fz (fun _ _ h => h)
    rw [← m2.bs] at this
    exact this)
  have hC := hcalls w G2.fz (lentBs G2 ls) (args.toList.map a.eval) hent
  have hargs : (args.toList.map a.eval).toArray = args.map a.eval := by
    apply Array.toList_inj.1
    rw [Array.toList_map]
  rw [hargs] at hC
  have hrun : (execOp a.eval o).run P w = .ok (.enter g (args.map a.eval)) w := by
    simp [execOp, ho, resolve, hfv, Deferred.ofValue, invoke, run_enter hfn hbody hname]
  unfold Oper.wp
  rw [hrun, Oper.upon_enter]
  refine Calls.mono hC (fun e w' hew => ?_)
  obtain ⟨v, rfl, hpl, Gr, hx⟩ := hew
  generalize hroe : U.ro g = ro at hx
  have hlenl : bx.length = ls.length := m5
  have hbl : ∀ (q : Nat) l, ls[q]? = some l → (bx.getD q []).length = l.n := fun q l hq => by
    obtain ⟨cs, e1, e2, e3⟩ := m6 q l hq
    rw [List.getD_eq_getElem?_getD, e1]
    exact (sub_some e3).2.2.1
  have hX : X.w.heap.size ≤ w.heap.size := h.fr.size
  -- the state once what was lent is back
  have fin : ∀ (σ4 : St U), Bk σ2 ls bx' σ4 → (∀ b, b < X.lk → σ4.boxes[b]? = σ2.boxes[b]?) →
      (bx'.length = ls.length ∧ recvD ls σ4 d = some (d', σ3) ∨ ∃ cs, bx'.drop ls.length = [cs] ∧ recvD (ls ++ [⟨σ4.boxes.length, 0, cs.length⟩]) (σ4.newBox cs) d = some (d', σ3)) → K (a.put o.dst v) w' := by
    intro σ4 hB hL hR
    obtain ⟨r1, r2⟩ := m1.after hlenl hbl hn hx rfl hB hL
    have hptr : ∀ (j : Nat) l g p, ls[j]? = some l → Gr.bs j = some (g, p) → ∃ p0, G2.bs l.b = some (g, p0) ∧ p0 + l.o = p := by
      intro j l g p hj hg
      obtain ⟨cs, ds, q1, q2, q3, q4, q5, q6⟩ := hB.lent j l hj
      have hpos := hn l (List.mem_of_getElem? hj)
      obtain ⟨g0, p0, e1, _⟩ := m1.box l.b ds q4 (fun e => by rw [e] at q5; simp at q5; omega)
      have : Gr.bs j = some (g0, p0 + l.o) := hx.fr.bs j _ (by simp [begOf, lentBs, hj, e1])
      rw [hg] at this
      cases this
      exact ⟨p0, e1, rfl⟩
    have hnb : ∀ g, w.heap.size ≤ g → ∀ b q, G2.bs b = some q → q.1 ≠ g := fun g hg b q hq e => by have := (m1.bfz b q.1 q.2 hq).2; omega
    have hnr : ∀ g, w.heap.size ≤ g → ∀ r u, G2.rs r = some u → u.ownBlock ≠ some g := fun g hg r u hr e => by
      obtain ⟨R, hR⟩ := m1.rdom r u hr
      obtain ⟨u', e1, e2⟩ := m1.row r R hR
      rw [hr] at e1; cases e1
      have := (e2.lt g e).2
      omega
    rcases hR with ⟨hl1, hR⟩ | ⟨cs, hdrop, hR⟩
    · obtain ⟨G', g1, g2⟩ := recvD_ok (X' := begOf w G2.fz (lentBs G2 ls) bx ro) (Gr := Gr) r1 rfl hX hx hptr (fun g (hg : w.heap.size ≤ g) _ b q hq => hnb g hg b q hq) (fun g (hg : w.heap.size ≤ g) => hnr g hg) hR
      exact hK v w' G' g1 g2
    · have hcs : bx'[ls.length]? = some cs := by
        have := congrArg (fun l : List (List U.C) => l[0]?) hdrop
        simpa [List.getElem?_drop] using this
      obtain ⟨hne, hplain⟩ := hpl cs (List.mem_of_getElem? hcs)
      obtain ⟨g, p, e1, e2⟩ := hx.box ls.length cs hcs hne
      have hnew : w.heap.size ≤ g := by
        rcases hx.fr.bsnew _ _ e1 with e | e
        · have := hent.bdom _ _ e; omega
        · exact e
      obtain ⟨f1, f2⟩ := hx.bfz _ _ _ e1
      have hbox : BoxAt w' ⟨Gr.fz, G2.bs, G2.rs⟩ g p cs := fun j x hxj => by
        obtain ⟨u, q1, q2, q3, q4⟩ := e2 j x hxj
        have q5 : RepP w' Gr.fz x u := q3.toP (List.all_eq_true.1 hplain x (List.mem_of_getElem? hxj))
        exact ⟨u, q1, q2, RepC.ofP q5, q4⟩
      obtain ⟨G', g1, g2, g3, g4, g5⟩ := r1.adopt (Nat.le_trans hX hnew) f2 f1 (hnb g hnew) (hnr g hnew) hne hbox
      obtain ⟨G'', i1, i2⟩ := recvD_ok (X' := begOf w G2.fz (lentBs G2 ls) bx ro) (Gr := Gr) g1 (by rw [g2]) hX hx (fun j l g0 p0 hj hg0 => by
        rw [List.getElem?_append] at hj
        split at hj
        · obtain ⟨p1, z1, z2⟩ := hptr j l g0 p0 hj hg0
          exact ⟨p1, g5.bs _ _ z1, z2⟩
        · rw [List.getElem?_singleton] at hj
          split at hj
          · cases hj
            have : j = ls.length := by omega
            subst this
            rw [e1] at hg0
            cases hg0
            exact ⟨p, g4, rfl⟩
          · cases hj) (fun g0 (hg0 : w.heap.size ≤ g0) hno b q hq => by
        by_cases eb : b = σ4.boxes.length
        · subst eb
          rw [g4] at hq
          cases hq
          exact fun e => hno _ _ e1 e
        · obtain ⟨ds, z1, z2⟩ := g1.bdom b q hq
          have hlt : b < σ4.boxes.length := by
            have := (List.getElem?_eq_some_iff.1 z1).1
            simp [St.newBox] at this
            omega
          cases hb0 : G2.bs b with
          | some q0 =>
            have := g5.bs b q0 hb0
            rw [hq] at this; cases this
            exact hnb g0 hg0 b q hb0
          | none =>
            exfalso
            have z3 : σ4.boxes[b]? = some ds := by
              simp only [St.newBox] at z1
              rwa [List.getElem?_append_left hlt] at z1
            obtain ⟨gg, pp, z4, _⟩ := r1.box b ds z3 z2
            rw [hb0] at z4; cases z4) (fun g0 (hg0 : w.heap.size ≤ g0) r u hr => by rw [g3] at hr; exact hnr g0 hg0 r u hr) hR
      exact hK v w' G'' i1 i2
  by_cases hroB : ro = true
  · rw [hroe, hroB] at hrecv
    simp only [cond_true] at hrecv
    unfold recvR at hrecv
    obtain ⟨hb, hrecv⟩ := bif_some hrecv
    have hbb := hro (hroe.trans hroB)
    subst hbb
    exact fin σ2 (back_ro hn m6) (fun _ _ => rfl) (.inl ⟨m5, hrecv⟩)
  · have hroF : U.ro g = false := by rw [hroe]; simpa using hroB
    rw [hroF] at hrecv hlock
    simp only [cond_false] at hrecv
    have hlk' : ∀ l ∈ ls, X.lk ≤ l.b := fun l hl' => by
      rcases hlock with e | e
      · cases e
      · have := Nat.le_of_ble_eq_true (List.all_eq_true.1 e l hl')
        rw [k1.lk] at this
        exact this
    have hcond : ∀ l ∈ ls, 0 < l.n ∧ l.o + l.n ≤ (σ2.boxes.getD l.b []).length := fun l hl' => by
      refine ⟨hn l hl', ?_⟩
      obtain ⟨q, hq, e⟩ := List.getElem_of_mem hl'
      obtain ⟨cs, _, _, e3⟩ := m6 q l (by rw [List.getElem?_eq_getElem hq, e])
      exact (sub_some e3).1
    unfold recv at hrecv
    split at hrecv
    · rename_i σ4 hback
      obtain ⟨hB, hrest⟩ := back_ok ls bx' [] σ2 σ4 hdis hcond hback
      have hl1 : bx'.length = ls.length := by
        have := congrArg List.length hrest
        simp at this
        omega
      exact fin σ4 hB (lkBoxes hB hlk') (.inl ⟨hl1, hrecv⟩)
    · rename_i σ4 cs hback
      obtain ⟨_, hrecv⟩ := bif_some hrecv
      obtain ⟨hB, hrest⟩ := back_ok ls bx' [cs] σ2 σ4 hdis hcond hback
      exact fin σ4 hB (lkBoxes hB hlk') (.inr ⟨cs, hrest.symm, hrecv⟩)
    · cases hrecv
theorem call_ok (hU : UOk P U) {R : Type} {F : Nat → Fn U R} {g : Nat} (hS : Sound P F g) {args : Array Operand} {f : Operand} {ts : List Nat} {k : U.D → St U → Option R} {r : R} (hf : σ.ev f = .v (.c (.fn g)))
    (he : evCall F σ g ts (args.toList.map σ.ev) k = some r) :
    ∃ d σ', k d σ' = some r ∧ ∀ (X : Beg U) a w G, Rel X σ a w G → ∀ (o : Oper) tys, o.op = .call ⟨.value f, args, tys⟩ → Step P X o a w d σ' := by
  unfold evCall at he
  split at he
  · rename_i ds' ls σ1 hp
    obtain ⟨hc, he⟩ := bif_some he
    simp only [Bool.and_eq_true, Bool.or_eq_true] at hc
    obtain ⟨hdis, hlock⟩ := hc
    split at he
    · rename_i bx σ2 hl
      obtain ⟨⟨fn, hfn, hbody, hname⟩, d, bx', hk, hro, hnews, hlen, hcalls⟩ := hS ds' bx _ r he
      split at hk
      · rename_i d' σ3 hrecv
        exact ⟨d', σ3, hk, fun X a w G h o tys ho => call_step hU hf hp hdis hlock hl hfn hbody hname hro hlen hcalls hrecv h ho⟩
      · cases hk
    · cases he
  · cases he
end
end Go.Proofs.Ytogfofcocidmkaa.Ev
