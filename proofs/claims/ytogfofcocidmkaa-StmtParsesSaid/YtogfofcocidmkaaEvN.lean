/- EV (ours), part N: every operation; a region; code. -/
import Derived.Test.YtogfofcocidmkaaEvM
set_option linter.unusedVariables false
set_option linter.unusedSimpArgs false
namespace Go.Proofs.Ytogfofcocidmkaa.Ev
open Go.RowKit
section
variable {U : Uni} {X : Beg U} {σ : St U} {a : Act} {w w' : World} {G : Gh} {P : Program}

/-- What is shown of an operation. -/
def OpOk {R : Type} (P : Program) (op : Op) (σ : St U) (k : U.D → St U → Option R) (r : R) : Prop :=
  ∃ d σ', k d σ' = some r ∧ ∀ (X : Beg U) a w G, Rel X σ a w G → ∀ o : Oper, o.op = op → Step P X o a w d σ'
theorem vo_op (hU : UOk P U) {R : Type} {op : Op} {k : U.D → St U → Option R} {r : R} (h : evVal op σ (fun d => k d σ) = some r) : OpOk P op σ k r := by
  obtain ⟨d, h1, h2⟩ := val_det h
  exact ⟨d, σ, h1, fun X a w G hR o ho => (val_ok hU h2).step hR ho⟩
theorem vo_frz (hU : UOk P U) {R : Type} {op : Op} {k : U.D → St U → Option R} {r : R} {q : Nat} {σ1 : St U} (hf : σ.freeze q = some σ1) (h : evVal op σ1 (fun d => k d σ1) = some r) : OpOk P op σ k r := by
  obtain ⟨d, h1, h2⟩ := val_det h
  refine ⟨d, σ1, h1, fun X a w G hR o ho => ?_⟩
  obtain ⟨G', R', v, m1, _⟩ := hR.freeze' hf
  exact (val_ok hU h2).step m1 ho
theorem killRow (h : Rel X σ a w G) (r : Nat) : Rel X { σ.kill r with rows := σ.rows.set r none } a w ⟨G.fz, G.bs, fun q => if q = r then none else G.rs q⟩ :=
  h.mapRow r G.fz (killC r) rfl (fun x hx => by cases x <;> first | rfl | cases hx) (fun _ hg => hg) (fun _ hg => .inl hg) (fun x u hx => by
    cases x with
    | own T q =>
      simp only [killC]
      by_cases e : q = r
      · subst e; simp only [BEq.rfl, cond_true]; trivial
      · have e' : (q == r) = false := by simpa using e
        simp only [e', cond_false]
        exact ⟨by simp only; rw [if_neg e]; exact hx.1, hx.2⟩
    | oat T q i o =>
      simp only [killC]
      by_cases e : q = r
      · subst e; simp only [BEq.rfl, cond_true]; trivial
      · have e' : (q == r) = false := by simpa using e
        simp only [e', cond_false]
        obtain ⟨g, n, c, h1, h2, h3⟩ := hx
        exact ⟨g, n, c, by simp only; rw [if_neg e]; exact h1, h2, h3⟩
    | _ => exact hx)
theorem mark_ok (hU : UOk P U) {s d T T' q : Nat} {x : Operand} {y : U.Ty T} {l : List (U.Ty T)} (hc : U.conv s d = some (.mark T)) (hx : σ.ev x = .v (.c (.own T' q))) (hl : rowAt σ T q = some (y :: l))
    (h : Rel X σ a w G) {o : Oper} (ho : o.op = .convert s d x) : Step P X o a w (.v (.c (.sl T (y :: l)))) { σ.kill q with rows := σ.rows.set q none } := by
  intro K Q hK
  obtain ⟨rfl, h1, h2⟩ := hU.convM s d T hc
  have hA := ev_ok h x
  rw [hx] at hA
  obtain ⟨v, hv, hown⟩ := own_row h hl
  have e1 : a.eval x = v := by have := hA.1.1; rw [hv] at this; exact (Option.some.inj this).symm
  obtain ⟨g, c, hg⟩ := own_shape hown (by simp)
  have k1 := killRow h q
  have hrd := hown
  obtain ⟨xs, hown2, hrep, hone⟩ := hown
  have hlt := (hown2.lt g (by rw [hg]; rfl))
  obtain ⟨r1, r2⟩ := h.rfz q v g hv (by rw [hg]; rfl)
  rcases hown2.2 with ⟨e, _⟩ | ⟨g', cap, cur, e, hb, hheap, hrest⟩
  · rw [hg] at e; cases e
  · rw [hg] at e
    cases e
    have hrs : ∀ r u, (if r = q then none else G.rs r) = some u → u.ownBlock ≠ some g := by
      intro r u hr e
      split at hr
      · cases hr
      · rename_i hne
        exact hne (h.rr r q u v g hr hv e (by rw [hg]; rfl))
    let w1 := w.freeze ⟨g, cur.size, none⟩ 1
    have hw1 : w1 = { w with heap := w.heap.modify g fun
      | .cells c elem (lo, hi) => .cells c elem (if lo == hi then (cur.size, cur.size + 1) else (min lo cur.size, max hi (cur.size + 1)))
      | o => o } := by
      show w.freeze _ 1 = _
      unfold World.freeze
      rw [if_neg (by decide)]
      rfl
    have hk : w.grownBy w1 (some g) := by
      rw [hw1]
      refine ⟨rfl, rfl, rfl, by simp, fun k hk hne => ?_⟩
      have : ¬ g = k := fun e => hne (by rw [e])
      simp [Array.getElem?_modify, this]
    have k2 := k1.worldBut hk (fun g0 e => by
      cases e
      exact ⟨hlt.1, r1, r2, hrs⟩)
    have hsz : w1.heap.size = w.heap.size := by rw [hw1]; simp
    have k3 := k2.addFz g hlt.1 (by rw [hsz]; exact hlt.2) r2 hrs
    have hheap1 : w1.heap[g]? = some (.cells cur T (cur.size, cur.size + 1)) := by
      rw [hw1]
      simp [Array.getElem?_modify, hheap]
    have hcell : ∀ j, w1.cell? ⟨g, j, none⟩ = w.cell? ⟨g, j, none⟩ := fun j => by
      rw [cell_of_row w1 g j cur T _ hheap1, cell_of_row w g j cur T _ hheap]
    have hsl : RepP w1 (fun k => G.fz k ∨ k = g) (.sl T (y :: l) : U.C) v := by
      have h0 := hrd.read (fz' := fun k => G.fz k ∨ k = g) (fun _ hg => .inl hg) (fun g0 e => by rw [hg] at e; cases e; exact .inr rfl)
      rw [hg] at h0 ⊢
      cases h0 with
      | sl _ _ ad c f hc ha hf =>
        refine .sl T (y :: l) _ c f hc (fun h0 => ?_) (fun i j x hi hx => ?_)
        · obtain ⟨ad', e, z1, z2⟩ := ha h0
          cases e
          refine ⟨_, rfl, z1, fun i j hi hj => ?_⟩
          have := z2 i j hi hj
          rw [zero_add_] at this ⊢
          rw [hcell]; exact this
        · have h5 := hf i j x hi hx
          have hpl : plain x = true := hU.encp T _ x (List.mem_of_getElem? hx)
          have hr5 := hrep i j x hi hx
          obtain ⟨u, m1, m2⟩ := hr5
          obtain ⟨ad', e, z1, z2⟩ := ha (by simp)
          cases e
          have hj : j < U.sz T := by rw [← hU.enc T ((y :: l).getD i (U.dflt T))]; exact (List.getElem?_eq_some_iff.1 hx).1
          have h6 := z2 i j hi hj
          have h7 := hown2.cells (g := g) (by rw [hg]; rfl) _ _ m1
          rw [h6] at h7
          cases h7
          exact m2.mono (fun _ hg => .inl hg) (fun g0 hg0 => hk.block g0 (h.fzlt g0 hg0) (fun e => by cases e; exact r1 hg0))
    have hsh : w.shape? g = some (T, cur.size) := by unfold World.shape?; rw [hheap]
    refine wp_value (v := v) (w' := w1) ?_ (hK v w1 _ k3 (rep_cell hsl))
    rw [hg] at e1
    simp [execOp, ho, e1, convert, run_underlying h1, run_underlying h2, markStringish, hsh, hg]
    rfl
theorem op_ok (hU : UOk P U) {R : Type} {F : Nat → Fn U R} (hF : ∀ g, Sound P F g) {op : Op} {k : U.D → St U → Option R} {r : R} (h : evOp F op σ k = some r) : OpOk P op σ k r := by
  cases op with
  | alloc T =>
    simp only [evOp] at h
    split at h
    · rename_i x cs hz
      exact ⟨_, _, h, fun X a w G hR o ho => alloc_ok hU hR ho (by simp) hz⟩
    · cases h
  | box T x =>
    simp only [evOp] at h
    split at h
    · rename_i t v ht hx
      split at h
      · rename_i y cs hc
        obtain ⟨_, h⟩ := bif_some h
        exact ⟨_, _, h, fun X a w G hR o ho => box_ok hU hR ho hx hc (by simp)⟩
      · cases h
    · cases h
  | buildSlice S n ps =>
    simp only [evOp] at h
    split at h
    · rename_i T hS
      split at h
      · rename_i cs hl
        split at h
        · rename_i cs' σ1 hf
          split at h
          · rename_i l hd
            exact ⟨_, _, h, fun X a w G hR o ho => lit_ok hU hS hl hf hd hR ho⟩
          · cases h
        · cases h
      · cases h
    · cases h
  | store T A x =>
    simp only [evOp] at h
    split at h
    · rename_i t v ht hx
      split at h
      · cases h
      · rename_i vs hv
        split at h
        · rename_i b q hA
          split at h
          · rename_i cs hs
            exact ⟨_, _, h, fun X a w G hR o ho => store_ok hU hR ho ht hx hv hA hs⟩
          · cases h
        · cases h
    · cases h
  | slice S x lo hi mx =>
    simp only [evOp] at h
    split at h
    · split at h
      · rename_i σ1 hf
        exact vo_frz hU hf h
      · cases h
    · exact vo_op hU h
  | convert s d x =>
    simp only [evOp] at h
    split at h
    · rename_i T b hc hx
      split at h
      · rename_i l hl
        exact ⟨_, _, h, fun X a w G hR o ho => toBytes_ok hU hc hx hl hR ho⟩
      · cases h
    · rename_i T T' q hc hx
      split at h
      · rename_i y l hl
        exact ⟨_, _, h, fun X a w G hR o ho => mark_ok hU hc hx hl hR ho⟩
      · cases h
    · split at h
      · rename_i σ1 hf
        exact vo_frz hU hf h
      · cases h
    · exact vo_op hU h
  | call rr =>
    obtain ⟨cal, args, tys⟩ := rr
    simp only [evOp] at h
    split at h
    · split at h
      · rename_i s x S S' hxs hts
        obtain ⟨e, h2⟩ := bif_some h
        have e := Nat.eq_of_beq_eq_true e
        subst e
        clear h
        split at h2
        · rename_i T hS
          split at h2
          · rename_i t ht
            obtain ⟨y, z, hy, e1, e2⟩ : ∃ y z, args.toList = [y, z] ∧ σ.ev y = s ∧ σ.ev z = x := by
              match hq : args.toList, hxs with
              | [y, z], hxs => simp at hxs; exact ⟨y, z, rfl, hxs.1, hxs.2⟩
            have ha : args = #[y, z] := by apply Array.toList_inj.1; simpa using hy
            have hb : tys = #[S, S] := by apply Array.toList_inj.1; simpa using hts
            subst ha; subst hb; subst e1; subst e2
            obtain ⟨d, σ', h1, h3⟩ := append_ok (P := P) hU hS ht h2
            exact ⟨d, σ', h1, h3⟩
          · cases h2
        · cases h2
      · cases h
    · rename_i f
      split at h
      · rename_i g hf
        obtain ⟨d, σ', h1, h2⟩ := call_ok hU (hF g) hf h
        exact ⟨d, σ', h1, fun X a w G hR o ho => h2 X a w G hR o tys ho⟩
      · cases h
    · exact vo_op hU h
  | _ => exact vo_op hU h
end
end Go.Proofs.Ytogfofcocidmkaa.Ev
