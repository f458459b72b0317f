/- EV (ours), part P: code. -/
import Derived.Test.YtogfofcocidmkaaEvN
import Derived.LoopN
set_option linter.unusedVariables false
set_option linter.unusedSimpArgs false
namespace Go.Proofs.Ytogfofcocidmkaa.Ev
open Go.RowKit
section
variable {U : Uni} {X : Beg U} {σ : St U} {a : Act} {w w' : World} {G : Gh} {P : Program}

theorem yielded_ok (h : Rel X σ a w G) {ops : Array Oper} {j t : Nat} {b : Bool} (ht : (ops[j]?).bind (·.dst) = some t) (hs : σ.slots.getD t (.v (.c .undef)) = .v (.c (.bool b))) : yielded ops a.tmps j = some b := by
  rw [List.getD_eq_getElem?_getD] at hs
  cases hq : σ.slots[t]? with
  | none => rw [hq] at hs; cases hs
  | some d =>
    rw [hq] at hs
    simp only [Option.getD_some] at hs
    subst hs
    obtain ⟨v, h1, h2⟩ := h.slot t _ hq
    have := rep_bool h2
    subst this
    unfold yielded
    rw [ht]
    simp [h1]
theorem yielded_no (h : Rel X σ a w G) {ops : Array Oper} {j t : Nat} (ht : (ops[j]?).bind (·.dst) = some t) (hs : σ.slots.getD t (.v (.c .undef)) = .tup []) : yielded ops a.tmps j = none := by
  rw [List.getD_eq_getElem?_getD] at hs
  cases hq : σ.slots[t]? with
  | none => rw [hq] at hs; cases hs
  | some d =>
    rw [hq] at hs
    simp only [Option.getD_some] at hs
    subst hs
    obtain ⟨v, h1, vs, rfl, h3⟩ := h.slot t _ hq
    unfold yielded
    rw [ht]
    simp [h1]
theorem rep_skip : RepD w G (.tup [] : U.D) undef := ⟨#[], rfl, rfl, fun j x hx => by simp at hx⟩
theorem set_same {t : Nat} {d : U.D} {l : List U.D} (h : l.getD t (.v (.c .undef)) = d) (hd : d ≠ .v (.c .undef)) : l.set t d = l := by
  rw [List.getD_eq_getElem?_getD] at h
  cases hq : l[t]? with
  | none => rw [hq] at h; exact absurd h.symm hd
  | some x =>
    rw [hq] at h
    simp only [Option.getD_some] at h
    subst h
    have hlt := (List.getElem?_eq_some_iff.1 hq).1
    have e := (List.getElem?_eq_some_iff.1 hq).2
    rw [← e]
    exact List.set_getElem_self hlt
theorem ops_ok (hU : UOk P U) {R : Type} {F : Nat → Fn U R} (hF : ∀ g, Sound P F g) {ops : Array Oper} {k : St U → Option R} {r : R} : ∀ (os : List Oper) (i : Nat) (σ : St U), os = ops.toList.drop i → evOps F ops σ k os = some r →
    ∃ σ', k σ' = some r ∧ ∀ (X : Beg U) a w G, Rel X σ a w G → ∀ Q : Exit → Act → World → Prop, (∀ a' w' G', Rel X σ' a' w' G' → Q .normal a' w') → wpOps P ops Q (List.range' i os.length) a w
  | [], i, σ, hos, h => ⟨σ, h, fun X a w G hR Q hQ => by simpa [wpOps] using hQ a w G hR⟩
  | o :: os, i, σ, hos, h => by
    have hoi : ops[i]? = some o := by
      have := congrArg (fun l : List Oper => l[0]?) hos
      simp only [List.getElem?_cons_zero, List.getElem?_drop, Nat.add_zero] at this
      rw [Array.getElem?_toList] at this
      exact this.symm
    have hos' : os = ops.toList.drop (i + 1) := by
      have := congrArg List.tail hos
      simpa using this
    have run : ∀ (σ0 : St U) , evOp F o.op σ0 (fun d σ1 => evOps F ops (σ1.put o.dst d) k os) = some r →
        ∃ σ', k σ' = some r ∧ ∀ (X : Beg U) a w G, Rel X σ0 a w G → Region.wanted o (yielded ops a.tmps) = true → ∀ Q : Exit → Act → World → Prop, (∀ a' w' G', Rel X σ' a' w' G' → Q .normal a' w') → wpOps P ops Q (List.range' i (o :: os).length) a w := by
      intro σ0 h0
      obtain ⟨d, σ1, h1, h2⟩ := op_ok hU hF h0
      obtain ⟨σ', h3, h4⟩ := ops_ok hU hF os (i + 1) _ hos' h1
      refine ⟨σ', h3, fun X a w G hR hw Q hQ => ?_⟩
      simp only [List.length_cons, List.range'_succ, wpOps, hoi, hw, if_true]
      left
      refine h2 X a w G hR o rfl _ _ (fun v w' G' g1 g2 => ?_)
      exact h4 X _ w' G' (g1.put o.dst d v g2) Q hQ
    simp only [evOps, frcS_eq] at h
    split at h
    · rename_i hg
      obtain ⟨σ', h1, h2⟩ := run σ h
      exact ⟨σ', h1, fun X a w G hR Q hQ => h2 X a w G hR (by simp [Region.wanted, hg]) Q hQ⟩
    · rename_i j want hg
      split at h
      · rename_i t ht
        split at h
        · rename_i b hs
          rw [sel_eq] at h
          cases hbw : (b == want) with
          | true =>
            rw [hbw] at h
            simp only [cond_true] at h
            have e : b = want := by simpa using hbw
            subst e
            have hset : ({ σ with slots := σ.slots.set t (.v (.c (.bool b))) } : St U) = σ := by rw [set_same hs (by simp)]
            rw [hset] at h
            obtain ⟨σ', h1, h2⟩ := run σ h
            refine ⟨σ', h1, fun X a w G hR Q hQ => h2 X a w G hR ?_ Q hQ⟩
            simp [Region.wanted, hg, yielded_ok hR ht hs]
          | false =>
            rw [hbw] at h
            simp only [cond_false] at h
            have e : b = !want := by revert hbw; cases b <;> cases want <;> simp
            rw [← e] at h
            have hset : ({ σ with slots := σ.slots.set t (.v (.c (.bool b))) } : St U) = σ := by rw [set_same hs (by simp)]
            rw [hset] at h
            obtain ⟨σ', h3, h4⟩ := ops_ok hU hF os (i + 1) _ hos' h
            refine ⟨σ', h3, fun X a w G hR Q hQ => ?_⟩
            have hy := yielded_ok hR ht hs
            have hw : Region.wanted o (yielded ops a.tmps) = false := by
              rw [e] at hy
              simp [Region.wanted, hg, hy]
            simp only [List.length_cons, List.range'_succ, wpOps, hoi, hw, if_false]
            exact h4 X _ w G (hR.put o.dst _ undef rep_skip) Q hQ
        · rename_i hs
          obtain ⟨σ', h3, h4⟩ := ops_ok hU hF os (i + 1) _ hos' h
          refine ⟨σ', h3, fun X a w G hR Q hQ => ?_⟩
          have hy := yielded_no hR ht hs
          have hw : Region.wanted o (yielded ops a.tmps) = false := by simp [Region.wanted, hg, hy]
          simp only [List.length_cons, List.range'_succ, wpOps, hoi, hw, if_false]
          exact h4 X _ w G (hR.put o.dst _ undef rep_skip) Q hQ
        · cases h
      · cases h
def exitOf : Out → Exit
  | .normal => .normal
  | .exit id => .exit id
  | .ret => .ret
def CodeOk {R : Type} (P : Program) (c : Code) (σ : St U) (k : Out → St U → Option R) (r : R) : Prop :=
  ∃ e σ', k e σ' = some r ∧ ∀ (X : Beg U) a w G, Rel X σ a w G → ∀ Q : Exit → Act → World → Prop, (∀ a' w' G', Rel X σ' a' w' G' → Q (exitOf e) a' w') → c.wp P Q a w
theorem Rel.newRowG (h : Rel X σ a w G) (T : Nat) : Rel X (σ.newRow T []) a w ⟨G.fz, G.bs, fun q => if q = σ.rows.length then some (.slice none 0 0) else G.rs q⟩ := by
  refine h.setRow σ.rows.length _ ⟨T, []⟩ (.slice none 0 0) h.rs_none (by simp) (fun q hq S => ?_) ⟨[], World.ownsRow_nil _ _ _ _, fun i j x hi => absurd hi (by simp), fun u hu => by simp at hu⟩ (fun g hg => by cases hg)
  rw [List.getElem?_append]
  split
  · exact Iff.rfl
  · rename_i hlt
    have h1 : q - σ.rows.length ≠ 0 := by omega
    constructor
    · intro hh
      rw [List.getElem?_singleton, if_neg h1] at hh
      cases hh
    · intro hh
      have := (List.getElem?_eq_some_iff.1 hh).1
      omega
theorem setP_ok (h : Rel X σ a w G) {p : Pl} {x : U.C} (hok : okP σ p = true) (hne : σ.cellP p = .nils) (hx : ∀ v, RepC w G (.nils : U.C) v → RepC w G x v) : Rel X (σ.setP p x) a w G := by
  cases p with
  | s i =>
    simp only [St.cellP] at hne
    refine h.slotUndef i _ (fun v hv => ?_)
    cases hq : σ.slots[i]? with
    | none => rw [List.getD_eq_getElem?_getD, hq] at hne; cases hne
    | some d =>
      rw [List.getD_eq_getElem?_getD, hq] at hne
      simp only [Option.getD_some] at hne
      obtain ⟨v', h1, h2⟩ := h.slot i d hq
      rw [hv] at h1; cases h1
      split at hne
      · subst hne
        exact RepV.ofC (hx v h2.1)
      · cases hne
  | a i j =>
    simp only [St.cellP] at hne
    simp only [St.setP]
    split
    · rename_i cs hcs
      rw [hcs] at hne
      simp only at hne
      refine h.slotUndef i _ (fun v hv => ?_)
      cases hq : σ.slots[i]? with
      | none => rw [List.getD_eq_getElem?_getD, hq] at hcs; cases hcs
      | some d =>
        rw [List.getD_eq_getElem?_getD, hq] at hcs
        simp only [Option.getD_some] at hcs
        subst hcs
        obtain ⟨v', h1, us, rfl, hn, hr⟩ := h.slot i _ hq
        rw [hv] at h1; cases h1
        refine ⟨us, rfl, by simpa using hn, fun j' y hy => ?_⟩
        rw [List.getElem?_set] at hy
        by_cases e : j = j'
        · subst e
          simp only [if_true] at hy
          split at hy
          · rename_i hlt
            cases hy
            obtain ⟨u, k1, k2, k3⟩ := hr j cs[j] (by simp [hlt])
            have : cs[j] = .nils := by
              rw [List.getD_eq_getElem?_getD, List.getElem?_eq_getElem hlt] at hne
              exact hne
            rw [this] at k2
            exact ⟨u, k1, hx u k2, k3⟩
          · cases hy
        · rw [if_neg e] at hy
          exact hr j' y hy
    · exact h
  | b b j =>
    simp only [St.cellP] at hne
    have hlk : X.lk ≤ b := by rw [← h.lk]; exact Nat.le_of_ble_eq_true hok
    cases hq : σ.boxes[b]? with
    | none => rw [List.getD_eq_getElem?_getD, List.getD_eq_getElem?_getD, hq] at hne; simp at hne
    | some cs =>
      have hcs : σ.boxes.getD b [] = cs := by rw [List.getD_eq_getElem?_getD, hq]; rfl
      rw [hcs] at hne
      simp only [St.setP, hcs]
      have hlt : b < σ.boxes.length := (List.getElem?_eq_some_iff.1 hq).1
      exact { h with
        box := fun b' cs' hb' hne' => by
          simp only [List.getElem?_set] at hb'
          by_cases e : b = b'
          · subst e
            simp only [if_true, if_pos hlt, Option.some.injEq] at hb'
            subst hb'
            obtain ⟨g, p, k1, k2⟩ := h.box b cs hq (fun e => hne' (by rw [e]; rfl))
            refine ⟨g, p, k1, fun j' y hy => ?_⟩
            rw [List.getElem?_set] at hy
            by_cases e2 : j = j'
            · subst e2
              simp only [if_true] at hy
              split at hy
              · rename_i hjl
                cases hy
                obtain ⟨u, m1, m2, m3, m4⟩ := k2 j cs[j] (by simp [hjl])
                have : cs[j] = .nils := by
                  rw [List.getD_eq_getElem?_getD, List.getElem?_eq_getElem hjl] at hne
                  exact hne
                rw [this] at m3
                exact ⟨u, m1, m2, hx u m3, m4⟩
              · cases hy
            · rw [if_neg e2] at hy
              exact k2 j' y hy
          · rw [if_neg e] at hb'
            exact h.box b' cs' hb' hne'
        bdom := fun b' q hq' => by
          obtain ⟨cs', h1, h2⟩ := h.bdom b' q hq'
          simp only [List.getElem?_set]
          by_cases e : b = b'
          · subst e
            rw [hq] at h1; cases h1
            refine ⟨cs.set j x, by simp [hlt], fun e => h2 ?_⟩
            have := congrArg List.length e
            simp at this
            exact this
          · exact ⟨cs', by rw [if_neg e]; exact h1, h2⟩
        lent := fun b' q hq' cs' hcs' => by
          simp only [List.getElem?_set] at hcs'
          by_cases e : b = b'
          · subst e
            simp only [if_true, if_pos hlt, Option.some.injEq] at hcs'
            subst hcs'
            rw [List.length_set]
            exact h.lent b q hq' cs hq
          · rw [if_neg e] at hcs'
            exact h.lent b' q hq' cs' hcs'
        lock := fun b' hb' => by
          obtain ⟨h1, h2⟩ := h.lock b' hb'
          refine ⟨?_, h2⟩
          simp only [List.getElem?_set]
          rw [if_neg (by omega)]
          exact h1 }
theorem wd_ok (h : Rel X σ a w G) {d : Wd} {σ' : St U} (hd : σ.wd d = some σ') : ∃ G', Rel X σ' a w G' := by
  cases d with
  | sl p T =>
    simp only [St.wd] at hd
    split at hd
    · rename_i hc
      obtain ⟨hok, hd⟩ := bif_some hd
      cases hd
      exact ⟨G, setP_ok h hok hc (fun v hv => nils_sl hv)⟩
    · cases hd; exact ⟨G, h⟩
    · cases hd
  | own p T =>
    simp only [St.wd] at hd
    split at hd
    · rename_i hc
      obtain ⟨hok, hd⟩ := bif_some hd
      cases hd
      refine ⟨_, setP_ok (h.newRowG T) (by cases p <;> exact hok) (by cases p <;> exact hc) (fun v hv => ?_)⟩
      have hv : RepP w G.fz (.nils : U.C) v := hv
      cases hv
      exact ⟨by simp, rfl⟩
    · cases hd; exact ⟨G, h⟩
    · cases hd
  | frz r =>
    simp only [St.wd] at hd
    split at hd
    · obtain ⟨G', R, v, k1, _⟩ := h.freeze' hd
      exact ⟨G', k1⟩
    · cases hd; exact ⟨G, h⟩
  | drop i =>
    cases hd
    exact ⟨G, h.slotUndef i _ (fun v _ => rep_undef v)⟩
theorem wds_ok : ∀ (ws : List Wd) (σ : St U) (G : Gh) (σ' : St U), Rel X σ a w G → σ.wds ws = some σ' → ∃ G', Rel X σ' a w G'
  | [], σ, G, σ', h, hw => by cases hw; exact ⟨G, h⟩
  | d :: ws, σ, G, σ', h, hw => by
    simp only [St.wds] at hw
    split at hw
    · rename_i σ1 h1
      obtain ⟨G1, k1⟩ := wd_ok h h1
      exact wds_ok ws σ1 G1 σ' k1 hw
    · cases hw
theorem trimS_get (keep : List Nat) : ∀ (l0 l : List U.D) (k i : Nat) (d : U.D), (trimS keep k l0 l)[i]? = some d → ∃ d1, l[i]? = some d1 ∧ (d = .v (.c .undef) ∨ d = d1)
  | [], l, k, i, d, h => by simp [trimS] at h
  | d0 :: l0, [], k, i, d, h => by simp [trimS] at h
  | d0 :: l0, d1 :: l, k, i, d, h => by
    simp only [trimS] at h
    cases i with
    | zero =>
      simp only [List.getElem?_cons_zero, Option.some.injEq] at h
      refine ⟨d1, rfl, ?_⟩
      cases hc : isUndef d0 && !hasN k keep <;> rw [hc] at h
      · exact .inr h.symm
      · exact .inl h.symm
    | succ i => simpa using trimS_get keep l0 l (k + 1) i d (by simpa using h)
theorem trimS_len (keep : List Nat) : ∀ (l0 l : List U.D) (k : Nat), l.length = l0.length → (trimS keep k l0 l).length = l0.length
  | [], [], k, h => rfl
  | [], _ :: _, k, h => by simp at h
  | _ :: _, [], k, h => by simp at h
  | d0 :: l0, d1 :: l, k, h => by simp [trimS, trimS_len keep l0 l (k + 1) (by simpa using h)]
/-- What is dropped at a loop's head may go. -/
theorem trim_ok {keep : List Nat} {σ0 s : St U} (h : Rel X σ a w G) (hX : ∀ b q, X.G.bs b = some q → b < σ0.boxes.length) (hL : ∀ b, b < X.lk → b < σ0.boxes.length) (hlk : σ0.lk = X.lk) (ht : trim keep σ0 σ = some s) : ∃ G', Rel X s a w G' := by
  unfold trim at ht
  obtain ⟨hc, ht⟩ := bif_some ht
  cases ht
  simp only [Bool.and_eq_true] at hc
  obtain ⟨⟨⟨⟨c1, c2⟩, c3⟩, c4⟩, c5⟩ := hc
  have c3 := Nat.eq_of_beq_eq_true c3
  have c4 := Nat.eq_of_beq_eq_true c4
  have c5 := Nat.eq_of_beq_eq_true c5
  simp only [List.length_take] at c4 c5
  let G' : Gh := ⟨G.fz, fun b => if b < σ0.boxes.length then G.bs b else none, fun r => if r < σ0.rows.length then G.rs r else none⟩
  have hbs : ∀ b q, G'.bs b = some q → b < σ0.boxes.length ∧ G.bs b = some q := fun b q hq => by
    simp only [G'] at hq
    split at hq
    · exact ⟨‹_›, hq⟩
    · cases hq
  have hrs : ∀ r v, G'.rs r = some v → r < σ0.rows.length ∧ G.rs r = some v := fun r v hq => by
    simp only [G'] at hq
    split at hq
    · exact ⟨‹_›, hq⟩
    · cases hq
  have hC : ∀ (x : U.C) v, okC σ0.boxes.length σ0.rows.length x = true → RepC w G x v → RepC w G' x v := by
    intro x v hx hr
    cases x with
    | ptr b o =>
      obtain ⟨g, p, h1, h2⟩ := hr
      have hlt : b < σ0.boxes.length := Nat.le_of_ble_eq_true hx
      exact ⟨g, p, by simp only [G']; rw [if_pos hlt]; exact h1, h2⟩
    | own T q =>
      have hlt : q < σ0.rows.length := Nat.le_of_ble_eq_true hx
      exact ⟨by simp only [G']; rw [if_pos hlt]; exact hr.1, hr.2⟩
    | oat T q i o =>
      have hlt : q < σ0.rows.length := Nat.le_of_ble_eq_true hx
      obtain ⟨g, n, c, h1, h2, h3⟩ := hr
      exact ⟨g, n, c, by simp only [G']; rw [if_pos hlt]; exact h1, h2, h3⟩
    | _ => exact hr
  have hV : ∀ (x : U.V) v, (vcells x).all (okC σ0.boxes.length σ0.rows.length) = true → RepV w G x v → RepV w G' x v := by
    intro x v hx hr
    cases x with
    | c x => exact ⟨hC x v (by simpa [vcells] using hx) hr.1, hr.2⟩
    | agg cs =>
      obtain ⟨vs, rfl, hn, hh⟩ := hr
      refine ⟨vs, rfl, hn, fun j x hj => ?_⟩
      obtain ⟨u, h1, h2, h3⟩ := hh j x hj
      exact ⟨u, h1, hC x u (List.all_eq_true.1 hx x (List.mem_of_getElem? hj)) h2, h3⟩
  have hD : ∀ (x : U.D) v, okD σ0.boxes.length σ0.rows.length x = true → RepD w G x v → RepD w G' x v := by
    intro x v hx hr
    cases x with
    | v x => exact hV x v hx hr
    | tup l =>
      obtain ⟨vs, rfl, hn, hh⟩ := hr
      refine ⟨vs, rfl, hn, fun j x hj => ?_⟩
      obtain ⟨u, h1, h2⟩ := hh j x hj
      exact ⟨u, h1, hV x u (List.all_eq_true.1 hx x (List.mem_of_getElem? hj)) h2⟩
  have htake : ∀ (b : Nat) cs, (σ.boxes.take σ0.boxes.length)[b]? = some cs → b < σ0.boxes.length ∧ σ.boxes[b]? = some cs := fun b cs hb => by
    rw [List.getElem?_take] at hb
    split at hb
    · exact ⟨‹_›, hb⟩
    · cases hb
  have htaker : ∀ (b : Nat) cs, (σ.rows.take σ0.rows.length)[b]? = some cs → b < σ0.rows.length ∧ σ.rows[b]? = some cs := fun b cs hb => by
    rw [List.getElem?_take] at hb
    split at hb
    · exact ⟨‹_›, hb⟩
    · cases hb
  have hle : ∀ {x : U.C} {v : Value}, plain x = true → RepC w G x v → RepC w G' x v := fun hp hr => by
    cases ‹U.C› <;> first | exact hr | cases hp
  refine ⟨G', ?_⟩
  exact {
    n := by
      show a.tmps.size = (trimS keep 0 σ0.slots σ.slots).length
      rw [trimS_len keep _ _ 0 c3, h.n, c3]
    slot := fun i d hd => by
      obtain ⟨d1, k0, k1⟩ := trimS_get keep _ _ 0 i d hd
      obtain ⟨v, m1, m2⟩ := h.slot i d1 k0
      have hok := List.all_eq_true.1 c1 d (List.mem_of_getElem? hd)
      refine ⟨v, m1, ?_⟩
      rcases k1 with rfl | rfl
      · exact rep_undef v
      · exact hD _ v hok m2
    dfr := h.dfr
    box := fun b cs hb hne => by
      obtain ⟨hlt, hb'⟩ := htake b cs hb
      obtain ⟨g, p, k1, k2⟩ := h.box b cs hb' hne
      have hok := List.all_eq_true.1 c2 cs (List.mem_of_getElem? hb)
      refine ⟨g, p, by simp only [G']; rw [if_pos hlt]; exact k1, fun j x hx => ?_⟩
      obtain ⟨u, m1, m2, m3, m4⟩ := k2 j x hx
      exact ⟨u, m1, m2, hC x u (List.all_eq_true.1 hok x (List.mem_of_getElem? hx)) m3, m4⟩
    bdom := fun b q hq => by
      obtain ⟨hlt, hq'⟩ := hbs b q hq
      obtain ⟨cs, k1, k2⟩ := h.bdom b q hq'
      exact ⟨cs, by rw [List.getElem?_take, if_pos hlt]; exact k1, k2⟩
    row := fun r R hr => by
      obtain ⟨hlt, hr'⟩ := htaker r _ hr
      obtain ⟨v, k1, k2⟩ := h.row r R hr'
      exact ⟨v, by simp only [G']; rw [if_pos hlt]; exact k1, k2⟩
    rdom := fun r v hr => by
      obtain ⟨hlt, hr'⟩ := hrs r v hr
      obtain ⟨R, k1⟩ := h.rdom r v hr'
      exact ⟨R, by rw [List.getElem?_take, if_pos hlt]; exact k1⟩
    fzlt := h.fzlt
    bfz := fun b g p hq => h.bfz b g p (hbs b _ hq).2
    bb := fun b b' g p p' hq hq' => h.bb b b' g p p' (hbs b _ hq).2 (hbs b' _ hq').2
    rfz := fun r v g hr hg => ⟨(h.rfz r v g (hrs r v hr).2 hg).1, fun b q hq => (h.rfz r v g (hrs r v hr).2 hg).2 b q (hbs b q hq).2⟩
    rr := fun r r' v v' g hr hr' hg hg' => h.rr r r' v v' g (hrs r v hr).2 (hrs r' v' hr').2 hg hg'
    fr := { h.fr with
      bs := fun b q hq => by
        simp only [G']
        rw [if_pos (hX b q hq)]
        exact h.fr.bs b q hq
      bsnew := fun b q hq => h.fr.bsnew b q (hbs b q hq).2 }
    lent := fun b q hq cs hcs => h.lent b q hq cs (htake b cs hcs).2
    lk := hlk
    lock := fun b hb => by
      obtain ⟨k1, k2⟩ := h.lock b hb
      exact ⟨by rw [List.getElem?_take, if_pos (hL b hb)]; exact k1, k2⟩
    lockne := h.lockne }
theorem loop_ok {R : Type} {c : Code} {f : St U → (Out → St U → Option R) → Option R} (hf : ∀ σ k (r : R), f σ k = some r → CodeOk P c σ k r) {keep : List Nat} {ws : List Wd} {σ0 : St U} {k : Out → St U → Option R} {r : R} : ∀ (n : Nat) (σ : St U), loopN keep ws f σ0 k n σ = some r →
    ∃ e σ', k e σ' = some r ∧ ∀ (X : Beg U) a w G, Rel X σ a w G → (∀ b q, X.G.bs b = some q → b < σ0.boxes.length) → (∀ b, b < X.lk → b < σ0.boxes.length) → σ0.lk = X.lk → ∀ Q : Exit → Act → World → Prop, (∀ a' w' G', Rel X σ' a' w' G' → Q (exitOf e) a' w') → Code.rounds P c Q n a w
  | 0, σ, h => by simp [loopN] at h
  | n + 1, σ, h => by
    simp only [loopN] at h
    obtain ⟨e, σ1, h1, h2⟩ := hf σ _ r h
    simp only at h1
    split at h1
    · rename_i σ2 hw
      split at h1
      · rename_i σ3 ht
        have step : ∀ (X : Beg U) a' w' G', Rel X σ1 a' w' G' → (∀ b q, X.G.bs b = some q → b < σ0.boxes.length) → (∀ b, b < X.lk → b < σ0.boxes.length) → σ0.lk = X.lk → ∃ G'', Rel X σ3 a' w' G'' := by
          intro X a' w' G' hR' hX hL hlk
          obtain ⟨G2, hR2⟩ := wds_ok ws σ1 G' σ2 hR' hw
          exact trim_ok hR2 hX hL hlk ht
        cases e with
        | normal =>
          simp only at h1
          obtain ⟨e', σ', h3, h4⟩ := loop_ok hf n σ3 h1
          refine ⟨e', σ', h3, fun X a w G hR hX hL hlk Q hQ => ?_⟩
          refine h2 X a w G hR (Exit.then (Code.rounds P c Q n) Q) (fun a' w' G' hR' => ?_)
          obtain ⟨G'', hR''⟩ := step X a' w' G' hR' hX hL hlk
          exact h4 X a' w' G'' hR'' hX hL hlk Q hQ
        | exit id =>
          refine ⟨.exit id, σ3, h1, fun X a w G hR hX hL hlk Q hQ => h2 X a w G hR (Exit.then (Code.rounds P c Q n) Q) (fun a' w' G' hR' => ?_)⟩
          obtain ⟨G'', hR''⟩ := step X a' w' G' hR' hX hL hlk
          exact hQ a' w' G'' hR''
        | ret =>
          refine ⟨.ret, σ3, h1, fun X a w G hR hX hL hlk Q hQ => h2 X a w G hR (Exit.then (Code.rounds P c Q n) Q) (fun a' w' G' hR' => ?_)⟩
          obtain ⟨G'', hR''⟩ := step X a' w' G' hR' hX hL hlk
          exact hQ a' w' G'' hR''
      · cases h1
    · cases h1
/-- A loop's handler serves it rightly. -/
def LoopOk {R : Type} (P : Program) (L : Hn U R) (c : Code) : Prop := ∀ key, firstReg c = some key → ∀ σ k (r : R), L key σ k = some r → CodeOk P (.loop c) σ k r
/-- What is to be shown of a region that draws its order. -/
def DrawOk {R : Type} (P : Program) (F : Nat → Fn U R) : Prop :=
  ∀ (id : Nat) (ops : Array Oper) (σ : St U) (k : St U → Option R) (r : R), evDraw F ops σ k = some r →
    ∃ σ', k σ' = some r ∧ ∀ (X : Beg U) a w G, Rel X σ a w G → ∀ Q : Exit → Act → World → Prop, (∀ a' w' G', Rel X σ' a' w' G' → Q .normal a' w') → (Code.region id ops true).wp P Q a w
theorem code_ok (hU : UOk P U) {R : Type} {F : Nat → Fn U R} (hF : ∀ g, Sound P F g) (hD : DrawOk P F) (L : Hn U R) : ∀ (c : Code) (hL : ∀ c' ∈ loopsOf c, LoopOk P L c') (σ : St U) (k : Out → St U → Option R) (r : R), ev F L c σ k = some r → CodeOk P c σ k r
  | .skip, hL, σ, k, r, h => ⟨.normal, σ, h, fun X a w G hR Q hQ => wp_skip (hQ a w G hR)⟩
  | .region id ops draw, hL, σ, k, r, h => by
    simp only [ev] at h
    cases draw with
    | false =>
      simp only [cond_false] at h
      obtain ⟨σ', h1, h2⟩ := ops_ok hU hF ops.toList 0 σ (by simp) h
      refine ⟨.normal, σ', h1, fun X a w G hR Q hQ => wp_region ?_⟩
      have := h2 X a w G hR Q hQ
      rwa [Array.length_toList, ← List.range_eq_range'] at this
    | true =>
      simp only [cond_true] at h
      obtain ⟨σ', h1, h2⟩ := hD id ops σ _ r h
      exact ⟨.normal, σ', h1, h2⟩
  | .seq x y, hL, σ, k, r, h => by
    simp only [ev] at h
    obtain ⟨e, σ1, h1, h2⟩ := code_ok hU hF hD L x (fun c' hc => hL c' (by simp only [loopsOf, List.mem_append]; exact .inl hc)) σ _ r h
    cases e with
    | normal =>
      simp only at h1
      obtain ⟨e', σ', h3, h4⟩ := code_ok hU hF hD L y (fun c' hc => hL c' (by simp only [loopsOf, List.mem_append]; exact .inr hc)) σ1 k r h1
      exact ⟨e', σ', h3, fun X a w G hR Q hQ => wp_seq (h2 X a w G hR _ (fun a' w' G' hR' => h4 X a' w' G' hR' Q hQ))⟩
    | exit id => exact ⟨.exit id, σ1, h1, fun X a w G hR Q hQ => wp_seq (h2 X a w G hR _ (fun a' w' G' hR' => hQ a' w' G' hR'))⟩
    | ret => exact ⟨.ret, σ1, h1, fun X a w G hR Q hQ => wp_seq (h2 X a w G hR _ (fun a' w' G' hR' => hQ a' w' G' hR'))⟩
  | .cond c x y, hL, σ, k, r, h => by
    simp only [ev] at h
    split at h
    · rename_i t ht
      cases t with
      | true =>
        simp only [cond_true] at h
        obtain ⟨e, σ', h1, h2⟩ := code_ok hU hF hD L x (fun c' hc => hL c' (by simp only [loopsOf, List.mem_append]; exact .inl hc)) σ k r h
        refine ⟨e, σ', h1, fun X a w G hR Q hQ => ?_⟩
        have hA := ev_ok hR c
        rw [ht] at hA
        exact wp_cond_true (rep_bool hA) (h2 X a w G hR Q hQ)
      | false =>
        simp only [cond_false] at h
        obtain ⟨e, σ', h1, h2⟩ := code_ok hU hF hD L y (fun c' hc => hL c' (by simp only [loopsOf, List.mem_append]; exact .inr hc)) σ k r h
        refine ⟨e, σ', h1, fun X a w G hR Q hQ => ?_⟩
        have hA := ev_ok hR c
        rw [ht] at hA
        exact wp_cond_false (rep_bool hA) (h2 X a w G hR Q hQ)
    · cases h
  | .block id c, hL, σ, k, r, h => by
    simp only [ev] at h
    obtain ⟨e, σ1, h1, h2⟩ := code_ok hU hF hD L c (fun c' hc => hL c' (by simpa only [loopsOf] using hc)) σ _ r h
    cases e with
    | normal => exact ⟨.normal, σ1, h1, fun X a w G hR Q hQ => wp_block (h2 X a w G hR _ (fun a' w' G' hR' => hQ a' w' G' hR'))⟩
    | ret => exact ⟨.ret, σ1, h1, fun X a w G hR Q hQ => wp_block (h2 X a w G hR _ (fun a' w' G' hR' => hQ a' w' G' hR'))⟩
    | exit j =>
      simp only at h1
      cases hj : j.beq id with
      | true =>
        rw [hj] at h1
        simp only [cond_true] at h1
        have := Nat.eq_of_beq_eq_true hj
        subst this
        exact ⟨.normal, σ1, h1, fun X a w G hR Q hQ => wp_block (h2 X a w G hR _ (fun a' w' G' hR' => by
          simp only [exitOf, Exit.inBlock, if_true]
          exact hQ a' w' G' hR'))⟩
      | false =>
        rw [hj] at h1
        simp only [cond_false] at h1
        have hne : ¬ j = id := fun e => by subst e; simp at hj
        exact ⟨.exit j, σ1, h1, fun X a w G hR Q hQ => wp_block (h2 X a w G hR _ (fun a' w' G' hR' => by
          simp only [exitOf, Exit.inBlock, if_neg hne]
          exact hQ a' w' G' hR'))⟩
  | .loop c, hL, σ, k, r, h => by
    simp only [ev] at h
    split at h
    · rename_i key hk
      exact hL c (by simp [loopsOf]) key hk σ k r h
    · cases h
  | .exit id, hL, σ, k, r, h => ⟨.exit id, σ, h, fun X a w G hR Q hQ => wp_exit (hQ a w G hR)⟩
  | .label l, hL, σ, k, r, h => ⟨.normal, σ, h, fun X a w G hR Q hQ => wp_label (hQ a w G hR)⟩
  | .ret, hL, σ, k, r, h => ⟨.ret, σ, h, fun X a w G hR Q hQ => wp_ret (hQ a w G hR)⟩
  | .goto _, hL, σ, k, r, h => by simp [ev] at h
/-- A loop whose rounds the evaluator runs, the state at its head told less finely first. -/
theorem loop_intro (hU : UOk P U) {R : Type} {F : Nat → Fn U R} (hF : ∀ g, Sound P F g) (hD : DrawOk P F) {L : Hn U R} {c : Code} (hL : ∀ c' ∈ loopsOf c, LoopOk P L c')
    (h : ∀ key, firstReg c = some key → ∀ σ k (r : R), L key σ k = some r → ∃ keep ws0 ws n σ0, σ.wds ws0 = some σ0 ∧ loopN keep ws (fun σ k => ev F L c σ k) σ0 k n σ0 = some r) : LoopOk P L c := by
  intro key hk σ k r hr
  obtain ⟨keep, ws0, ws, n, σ0, h1, h2⟩ := h key hk σ k r hr
  obtain ⟨e, σ', h3, h4⟩ := loop_ok (P := P) (c := c) (fun σ k r h => code_ok hU hF hD L c hL σ k r h) n σ0 h2
  refine ⟨e, σ', h3, fun X a w G hR Q hQ => ?_⟩
  obtain ⟨G0, hR0⟩ := wds_ok ws0 σ G σ0 hR h1
  refine wp_loop_rounds n (h4 X a w G0 hR0 (fun b q hq => ?_) (fun b hb => ?_) hR0.lk Q hQ)
  · obtain ⟨cs, k1, _⟩ := hR0.bdom b q (hR0.fr.bs b q hq)
    exact (List.getElem?_eq_some_iff.1 k1).1
  · exact (List.getElem?_eq_some_iff.1 (hR0.lock b hb).1).1
end
end Go.Proofs.Ytogfofcocidmkaa.Ev
