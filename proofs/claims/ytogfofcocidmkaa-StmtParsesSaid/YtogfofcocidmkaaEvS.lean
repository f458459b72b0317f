/- EV (ours), part S: any order does what the text's order does. -/
import Derived.Test.YtogfofcocidmkaaEvO
set_option linter.unusedVariables false
set_option linter.unusedSimpArgs false
namespace Go.Proofs.Ytogfofcocidmkaa.Ev
open Go.RowKit
section
variable {U : Uni} {X : Beg U} {σ σ' : St U} {a : Act} {w w' : World} {G : Gh} {P : Program}

abbrev Pr (U : Uni) := Oper × Eff U
/-- Those of the list that L names have been done, in the text's order. -/
def runL (L : Nat → Bool) : Nat → List (Pr U) → St U → St U
  | _, [], σ => σ
  | i, p :: ps, σ => runL L (i + 1) ps (bif L i then p.2.app p.1.dst σ else σ)
/-- What one of them does, wherever it stands. -/
def GoodP (P : Program) (ops : Array Oper) (p : Pr U) (sr : List Nat) (σ : St U) : Prop :=
  ∀ σ' : St U, Agree sr (p.2.r ++ p.2.bx.map (·.1)) σ σ' → ∀ (X : Beg U) a w G, Rel X σ' a w G → ∀ (K : Act → World → Prop) (Q : Exit → Act → World → Prop), (∀ a' w' G', Rel X (p.2.app p.1.dst σ') a' w' G' → K a' w') →
    if Region.wanted p.1 (yielded ops a.tmps) then p.1.wp P a w K Q else K (a.put p.1.dst undef) w
theorem evOpsD_ok (hU : UOk P U) {R : Type} {F : Nat → Fn U R} (hF : ∀ g, Sound P F g) {ops : Array Oper} {k : List (Eff U) → St U → Option R} {r : R} : ∀ (os : List Oper) (σ : St U) (pos : Nat) (es0 : List (Eff U)), (∀ o ∈ os, ∃ sr, srcs ops o = some sr) → evOpsD F ops σ pos es0 k os = some r →
    ∃ es : List (Eff U), es.length = os.length ∧ k (es0 ++ es) (runL (fun _ => true) 0 (os.zip es) σ) = some r ∧ ∀ (q : Nat) p sr, (os.zip es)[q]? = some p → srcs ops p.1 = some sr → GoodP P ops p sr (runL (fun _ => true) 0 ((os.zip es).take q) σ)
  | [], σ, pos, es0, hsr, h => ⟨[], rfl, by simpa [runL, evOpsD] using h, fun q p sr hq => by simp at hq⟩
  | o :: os, σ, pos, es0, hsr, h => by
    have shift : ∀ (ps : List (Pr U)) (i j : Nat) (σ : St U), runL (fun _ => true) i ps σ = runL (fun _ => true) j ps σ := by
      intro ps
      induction ps with
      | nil => intro i j σ; rfl
      | cons p ps ih => intro i j σ; exact ih (i + 1) (j + 1) _
    have fin : ∀ (e : Eff U) (pos' : Nat), evOpsD F ops (e.app o.dst σ) pos' (es0 ++ [e]) k os = some r → (∀ sr, srcs ops o = some sr → GoodP P ops (o, e) sr σ) →
        ∃ es : List (Eff U), es.length = (o :: os).length ∧ k (es0 ++ es) (runL (fun _ => true) 0 ((o :: os).zip es) σ) = some r ∧ ∀ (q : Nat) p sr, ((o :: os).zip es)[q]? = some p → srcs ops p.1 = some sr → GoodP P ops p sr (runL (fun _ => true) 0 (((o :: os).zip es).take q) σ) := by
      intro e pos' he hg
      obtain ⟨es, k1, k2, k3⟩ := evOpsD_ok hU hF os _ pos' _ (fun o' ho' => hsr o' (by simp [ho'])) he
      refine ⟨e :: es, by simp [k1], ?_, fun q p sr hq hs => ?_⟩
      · simp only [List.zip_cons_cons, runL, cond_true]
        rw [shift _ 1 0]
        simpa using k2
      · cases q with
        | zero =>
          simp only [List.zip_cons_cons, List.getElem?_cons_zero, Option.some.injEq] at hq
          subst hq
          exact hg sr hs
        | succ q =>
          simp only [List.zip_cons_cons, List.getElem?_cons_succ] at hq
          simp only [List.zip_cons_cons, List.take_succ_cons, runL, cond_true]
          rw [shift _ 1 0]
          exact k3 q p sr hq hs
    simp only [evOpsD] at h
    obtain ⟨sr0, hsr0⟩ := hsr o (by simp)
    unfold srcs at hsr0
    split at hsr0
    · rename_i l hl
      split at h
      · rename_i hg
        obtain ⟨e, h1, h2⟩ := opD_ok hU hF (sr := tmpsOf l) hl (fun t ht => ht) h
        refine fin e _ h1 (fun sr hs σ' hA X a w G hR K Q hK => ?_)
        unfold srcs at hs
        rw [hl, hg] at hs
        cases hs
        rw [if_pos (by simp [Region.wanted, hg])]
        exact h2 σ' hA X a w G hR o rfl K Q (fun v w' G' g1 g2 => hK _ w' G' (g1.put o.dst e.d v g2))
      · rename_i j want hg
        split at h
        · rename_i t ht
          have hsr : ∀ sr, srcs ops o = some sr → sr = t :: tmpsOf l := fun sr hs => by
            unfold srcs at hs
            rw [hl, hg] at hs
            simp only [ht, Option.some.injEq] at hs
            exact hs.symm
          split at h
          · rename_i b hb
            have guard : ∀ σ' : St U, σ'.slots[t]? = σ.slots[t]? → σ'.slots.getD t (.v (.c .undef)) = .v (.c (.bool b)) := fun σ' e => by
              rw [List.getD_eq_getElem?_getD, e, ← List.getD_eq_getElem?_getD]; exact hb
            rw [sel_eq] at h
            cases hbw : (b == want) with
            | true =>
              rw [hbw] at h
              simp only [cond_true] at h
              have e : b = want := by simpa using hbw
              subst e
              have hset : ({ σ with slots := σ.slots.set t (.v (.c (.bool b))) } : St U) = σ := by rw [set_same hb (by simp)]
              rw [hset] at h
              obtain ⟨e, h1, h2⟩ := opD_ok hU hF (sr := t :: tmpsOf l) hl (fun t ht => List.mem_cons_of_mem _ ht) h
              refine fin e _ h1 (fun sr hs σ' hA X a w G hR K Q hK => ?_)
              have := hsr sr hs
              subst this
              have hy := yielded_ok hR ht (guard σ' (hA.slot t (by simp)))
              rw [if_pos (by simp [Region.wanted, hg, hy])]
              exact h2 σ' hA X a w G hR o rfl K Q (fun v w' G' g1 g2 => hK _ w' G' (g1.put o.dst e.d v g2))
            | false =>
              rw [hbw] at h
              simp only [cond_false] at h
              have e : b = !want := by revert hbw; cases b <;> cases want <;> simp
              rw [← e] at h
              have hset : ({ σ with slots := σ.slots.set t (.v (.c (.bool b))) } : St U) = σ := by rw [set_same hb (by simp)]
              rw [hset] at h
              refine fin _ _ h (fun sr hs σ' hA X a w G hR K Q hK => ?_)
              have := hsr sr hs
              subst this
              have hy := yielded_ok hR ht (guard σ' (hA.slot t (by simp)))
              rw [if_neg (by rw [e] at hy; simp [Region.wanted, hg, hy])]
              refine hK _ w G ?_
              have : ({ σ' with boxes := setAll σ'.boxes ([] : List (Nat × List U.C)) } : St U) = σ' := rfl
              unfold Eff.app
              rw [this]
              exact hR.put o.dst _ undef rep_skip
          · rename_i hb
            refine fin _ _ h (fun sr hs σ' hA X a w G hR K Q hK => ?_)
            have := hsr sr hs
            subst this
            have hb' : σ'.slots.getD t (.v (.c .undef)) = .tup [] := by
              rw [List.getD_eq_getElem?_getD, hA.slot t (by simp), ← List.getD_eq_getElem?_getD]; exact hb
            have hy := yielded_no hR ht hb'
            rw [if_neg (by simp [Region.wanted, hg, hy])]
            refine hK _ w G ?_
            have : ({ σ' with boxes := setAll σ'.boxes ([] : List (Nat × List U.C)) } : St U) = σ' := rfl
            unfold Eff.app
            rw [this]
            exact hR.put o.dst _ undef rep_skip
          · cases h
        · cases h
    · cases hsr0
/-! ### two ways through the list -/
theorem app_rest (e : Eff U) (d : Option Nat) (σ : St U) : (e.app d σ).rows = σ.rows ∧ (e.app d σ).lk = σ.lk ∧ (e.app d σ).slots.length = σ.slots.length ∧ (e.app d σ).boxes.length = σ.boxes.length := by
  have : ∀ (ws : List (Nat × List U.C)) (bs : List (List U.C)), (setAll bs ws).length = bs.length := by
    intro ws
    induction ws with
    | nil => intro bs; rfl
    | cons p ws ih => intro bs; obtain ⟨b, cs⟩ := p; simp [setAll, ih]
  cases d <;> simp [Eff.app, St.put, this]
theorem setAll_at {b : Nat} : ∀ (ws : List (Nat × List U.C)) (bs bs' : List (List U.C)), bs.length = bs'.length → (bs[b]? = bs'[b]? ∨ b ∈ ws.map (·.1)) → (setAll bs ws)[b]? = (setAll bs' ws)[b]?
  | [], bs, bs', hl, h => by rcases h with h | h; exact h; simp at h
  | (c, cs) :: ws, bs, bs', hl, h => by
    simp only [setAll]
    refine setAll_at ws _ _ (by simp [hl]) ?_
    by_cases e : c = b
    · subst e
      left
      simp [List.getElem?_set, hl]
    · rcases h with h | h
      · left; simp [List.getElem?_set, e, h]
      · simp only [List.map_cons, List.mem_cons] at h
        rcases h with h | h
        · exact absurd h.symm e
        · exact .inr h
theorem setAll_no {b : Nat} : ∀ (ws : List (Nat × List U.C)) (bs : List (List U.C)), b ∉ ws.map (·.1) → (setAll bs ws)[b]? = bs[b]?
  | [], bs, h => rfl
  | (c, cs) :: ws, bs, h => by
    simp only [List.map_cons, List.mem_cons, not_or] at h
    simp only [setAll]
    rw [setAll_no ws _ h.2, List.getElem?_set, if_neg (fun e => h.1 e.symm)]
theorem app_slot {e : Eff U} {d : Option Nat} {t : Nat} {σ σ' : St U} (hl : σ.slots.length = σ'.slots.length) (h : σ.slots[t]? = σ'.slots[t]? ∨ d = some t) : (e.app d σ).slots[t]? = (e.app d σ').slots[t]? := by
  cases d with
  | none => rcases h with h | h; exact h; cases h
  | some u =>
    simp only [Eff.app, St.put, List.getElem?_set]
    by_cases e : u = t
    · subst e; simp [hl]
    · rw [if_neg e, if_neg e]
      rcases h with h | h
      · exact h
      · cases h; exact absurd rfl e
theorem app_slot_no {e : Eff U} {d : Option Nat} {t : Nat} {σ : St U} (h : d ≠ some t) : (e.app d σ).slots[t]? = σ.slots[t]? := by
  cases d with
  | none => rfl
  | some u =>
    simp only [Eff.app, St.put, List.getElem?_set]
    rw [if_neg (fun e => h (by rw [e]))]
theorem app_boxes (e : Eff U) (d : Option Nat) (σ : St U) : (e.app d σ).boxes = setAll σ.boxes e.bx := by cases d <;> rfl
theorem runL_rest (L : Nat → Bool) : ∀ (ps : List (Pr U)) (i : Nat) (σ : St U), (runL L i ps σ).rows = σ.rows ∧ (runL L i ps σ).lk = σ.lk ∧ (runL L i ps σ).slots.length = σ.slots.length ∧ (runL L i ps σ).boxes.length = σ.boxes.length
  | [], i, σ => ⟨rfl, rfl, rfl, rfl⟩
  | p :: ps, i, σ => by
    obtain ⟨h1, h2, h3, h4⟩ := runL_rest L ps (i + 1) (bif L i then p.2.app p.1.dst σ else σ)
    simp only [runL]
    rw [h1, h2, h3, h4]
    cases L i with
    | true => exact app_rest _ _ _
    | false => exact ⟨rfl, rfl, rfl, rfl⟩
theorem runL_slot {L L' : Nat → Bool} {t : Nat} : ∀ (ps : List (Pr U)) (i : Nat) (σ σ' : St U), σ.slots.length = σ'.slots.length → σ.slots[t]? = σ'.slots[t]? → (∀ (q : Nat) p, ps[q]? = some p → p.1.dst = some t → L (i + q) = L' (i + q)) → (runL L i ps σ).slots[t]? = (runL L' i ps σ').slots[t]?
  | [], i, σ, σ', hl, h, hq => h
  | p :: ps, i, σ, σ', hl, h, hq => by
    simp only [runL]
    have h0 := hq 0 p rfl
    rw [Nat.add_zero] at h0
    refine runL_slot ps (i + 1) _ _ ?_ ?_ (fun q p' hp' hd => by
      have := hq (q + 1) p' (by simpa using hp') hd
      rwa [show i + (q + 1) = i + 1 + q by omega] at this)
    · have r1 := (app_rest p.2 p.1.dst σ).2.2.1
      have r2 := (app_rest p.2 p.1.dst σ').2.2.1
      cases L i <;> cases L' i <;> simp only [cond_true, cond_false, r1, r2, hl]
    · by_cases hd : p.1.dst = some t
      · rw [h0 hd]
        cases L' i with
        | true => exact app_slot hl (.inl h)
        | false => exact h
      · cases L i <;> cases L' i <;> simp only [cond_true, cond_false, app_slot_no hd, h]
theorem runL_box {L L' : Nat → Bool} {b : Nat} : ∀ (ps : List (Pr U)) (i : Nat) (σ σ' : St U), σ.boxes.length = σ'.boxes.length → σ.boxes[b]? = σ'.boxes[b]? → (∀ (q : Nat) p, ps[q]? = some p → b ∈ p.2.bx.map (·.1) → L (i + q) = L' (i + q)) → (runL L i ps σ).boxes[b]? = (runL L' i ps σ').boxes[b]?
  | [], i, σ, σ', hl, h, hq => h
  | p :: ps, i, σ, σ', hl, h, hq => by
    simp only [runL]
    have h0 := hq 0 p rfl
    rw [Nat.add_zero] at h0
    refine runL_box ps (i + 1) _ _ ?_ ?_ (fun q p' hp' hd => by
      have := hq (q + 1) p' (by simpa using hp') hd
      rwa [show i + (q + 1) = i + 1 + q by omega] at this)
    · have r1 := (app_rest p.2 p.1.dst σ).2.2.2
      have r2 := (app_rest p.2 p.1.dst σ').2.2.2
      cases L i <;> cases L' i <;> simp only [cond_true, cond_false, r1, r2, hl]
    · by_cases hd : b ∈ p.2.bx.map (·.1)
      · rw [h0 hd]
        cases L' i with
        | true =>
          simp only [cond_true, app_boxes]
          exact setAll_at _ _ _ hl (.inl h)
        | false => exact h
      · cases L i <;> cases L' i <;> simp only [cond_true, cond_false, app_boxes, setAll_no _ _ hd, h]
theorem st_ext {σ σ' : St U} (h1 : σ.slots = σ'.slots) (h2 : σ.boxes = σ'.boxes) (h3 : σ.rows = σ'.rows) (h4 : σ.lk = σ'.lk) : σ = σ' := by
  cases σ; cases σ'; simp only at h1 h2 h3 h4; subst h1; subst h2; subst h3; subst h4; rfl
/-- One more is done: as if it were done last. -/
theorem runL_more {L L' : Nat → Bool} {ps : List (Pr U)} {j : Nat} {p : Pr U} {σ : St U} (hp : ps[j]? = some p) (hj : L j = false) (hj' : L' j = true) (hL : ∀ i, i ≠ j → L' i = L i)
    (hs : ∀ (q : Nat) p' t, ps[q]? = some p' → j < q → L q = true → p'.1.dst = some t → p.1.dst ≠ some t) (hb : ∀ (q : Nat) p' b, ps[q]? = some p' → j < q → L q = true → b ∈ p'.2.bx.map (·.1) → b ∉ p.2.bx.map (·.1)) :
    runL L' 0 ps σ = p.2.app p.1.dst (runL L 0 ps σ) := by
  have key : ∀ (ps : List (Pr U)) (i : Nat) (σ τ : St U), (∀ (q : Nat) p', ps[q]? = some p' → j < i + q → L (i + q) = true → ∀ t, p'.1.dst = some t → p.1.dst ≠ some t) →
      (∀ (q : Nat) p', ps[q]? = some p' → j < i + q → L (i + q) = true → ∀ b, b ∈ p'.2.bx.map (·.1) → b ∉ p.2.bx.map (·.1)) → j < i → τ = p.2.app p.1.dst σ → runL L' i ps τ = p.2.app p.1.dst (runL L i ps σ) := by
    intro ps
    induction ps with
    | nil => intro i σ τ _ _ _ e; exact e
    | cons p' ps ih =>
      intro i σ τ h1 h2 hi e
      simp only [runL]
      rw [hL i (by omega)]
      have hcomm : (bif L i then p'.2.app p'.1.dst τ else τ) = p.2.app p.1.dst (bif L i then p'.2.app p'.1.dst σ else σ) := by
        cases hLi : L i with
        | false => exact e
        | true =>
          subst e
          simp only [cond_true]
          have c1 := h1 0 p' rfl (by omega) (by simpa using hLi)
          have c2 := h2 0 p' rfl (by omega) (by simpa using hLi)
          refine st_ext ?_ ?_ ?_ ?_
          · cases hd : p'.1.dst with
            | none =>
              cases hd2 : p.1.dst <;> rfl
            | some t =>
              have hne := c1 t hd
              cases hd2 : p.1.dst with
              | none => rfl
              | some u =>
                have hut : u ≠ t := fun e => hne (by rw [hd2, e])
                simp only [Eff.app, St.put]
                exact List.set_comm _ _ (fun e => hut e)
          · rw [app_boxes, app_boxes, app_boxes, app_boxes]
            apply List.ext_getElem?
            intro b
            have len : ∀ (ws : List (Nat × List U.C)) (bs : List (List U.C)), (setAll bs ws).length = bs.length := by
              intro ws
              induction ws with
              | nil => intro bs; rfl
              | cons p ws ih => intro bs; obtain ⟨b, cs⟩ := p; simp [setAll, ih]
            by_cases hb1 : b ∈ p'.2.bx.map (·.1)
            · have hb2 := c2 b hb1
              rw [setAll_no _ _ hb2]
              exact setAll_at _ _ _ (len _ _) (.inr hb1)
            · rw [setAll_no _ _ hb1]
              exact setAll_at _ _ _ (by rw [len]) (.inl (setAll_no _ _ hb1).symm)
          · rw [(app_rest _ _ _).1, (app_rest _ _ _).1, (app_rest _ _ _).1, (app_rest _ _ _).1]
          · rw [(app_rest _ _ _).2.1, (app_rest _ _ _).2.1, (app_rest _ _ _).2.1, (app_rest _ _ _).2.1]
      rw [hcomm]
      exact ih (i + 1) _ _ (fun q p'' hq hn hl => h1 (q + 1) p'' (by simpa using hq) (by omega) (by rwa [show i + (q + 1) = i + 1 + q by omega])) (fun q p'' hq hn hl => h2 (q + 1) p'' (by simpa using hq) (by omega) (by rwa [show i + (q + 1) = i + 1 + q by omega])) (by omega) rfl
  have up : ∀ (ps : List (Pr U)) (i : Nat) (σ : St U), i ≤ j → ps[j - i]? = some p → (∀ (q : Nat) p', ps[q]? = some p' → j < i + q → L (i + q) = true → ∀ t, p'.1.dst = some t → p.1.dst ≠ some t) →
      (∀ (q : Nat) p', ps[q]? = some p' → j < i + q → L (i + q) = true → ∀ b, b ∈ p'.2.bx.map (·.1) → b ∉ p.2.bx.map (·.1)) → runL L' i ps σ = p.2.app p.1.dst (runL L i ps σ) := by
    intro ps
    induction ps with
    | nil => intro i σ _ h; simp at h
    | cons p' ps ih =>
      intro i σ hi h h1 h2
      simp only [runL]
      by_cases e : i = j
      · subst e
        rw [Nat.sub_self, List.getElem?_cons_zero, Option.some.injEq] at h
        subst h
        rw [hj, hj']
        simp only [cond_true, cond_false]
        exact key ps (i + 1) σ _ (fun q p'' hq hn hl => h1 (q + 1) p'' (by simpa using hq) (by omega) (by rwa [show i + (q + 1) = i + 1 + q by omega])) (fun q p'' hq hn hl => h2 (q + 1) p'' (by simpa using hq) (by omega) (by rwa [show i + (q + 1) = i + 1 + q by omega])) (by omega) rfl
      · rw [hL i e]
        exact ih (i + 1) _ (by omega) (by rw [show j - i = (j - (i + 1)) + 1 by omega, List.getElem?_cons_succ] at h; exact h) (fun q p'' hq hn hl => h1 (q + 1) p'' (by simpa using hq) (by omega) (by rwa [show i + (q + 1) = i + 1 + q by omega])) (fun q p'' hq hn hl => h2 (q + 1) p'' (by simpa using hq) (by omega) (by rwa [show i + (q + 1) = i + 1 + q by omega]))
  exact up ps 0 σ (by omega) (by simpa using hp) (fun q p' hq hn hl t => hs q p' t hq (by omega) (by simpa using hl)) (fun q p' hq hn hl b => hb q p' b hq (by omega) (by simpa using hl))
end
end Go.Proofs.Ytogfofcocidmkaa.Ev
