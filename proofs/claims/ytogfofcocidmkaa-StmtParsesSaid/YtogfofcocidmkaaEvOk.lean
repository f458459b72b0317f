/- EV (ours): what the universe says of this translation's types is so; printed by ok.py -/
import Derived.Test.YtogfofcocidmkaaEvUt
import Derived.Test.YtogfofcocidmkaaEvX
import Derived.Test.YtogfofcocidmkaaChecked
import Derived.KernelRfl
import Derived.Laws.StructEq
set_option linter.unusedVariables false
set_option linter.unusedSimpArgs false
namespace Go.Proofs.Ytogfofcocidmkaa.Ev
open Go.RowKit Go.Proofs
theorem eqr {α : Type} {a b : α} (h : a = b) : a = b := h
theorem bif_case {α : Type} {b : Bool} {x z : α} {y : Option α} (h : (bif b then some x else y) = some z) : (b = true ∧ x = z) ∨ y = some z := by
  cases b with
  | true => exact .inl ⟨rfl, Option.some.inj h⟩
  | false => exact .inr h
theorem bif_caseB {b y : Bool} (h : (bif b then true else y) = true) : b = true ∨ y = true := by
  cases b with
  | true => exact .inl rfl
  | false => exact .inr h
def infB (P : Program) (T : Nat) (t : TI) : Bool :=
  match P.info? T, P.underlying T with
  | some i, some d => Nat.beq i.size t.sz && (Nat.beq i.bytes t.bytes && ((agD d == t.ag) && (Nat.blt 0 t.sz && (Nat.blt 0 t.bytes && (match i.zero with | some z => Nat.beq z.cells.size t.sz | none => false)))))
  | _, _ => false
theorem infB_ok {P : Program} {T : Nat} {t : TI} (h : infB P T t = true) : ∃ i d, P.info? T = some i ∧ i.size = t.sz ∧ i.bytes = t.bytes ∧ P.underlying T = some d ∧ agD d = t.ag ∧ 0 < t.sz ∧ 0 < t.bytes ∧ ∃ z, i.zero = some z ∧ z.cells.size = t.sz := by
  unfold infB at h
  split at h
  · rename_i i d h1 h2
    simp only [Bool.and_eq_true, Nat.beq_eq_true_eq, beq_iff_eq] at h
    obtain ⟨a1, a2, a3, a4, a5, a6⟩ := h
    split at a6
    · rename_i z hz
      exact ⟨i, d, h1, Nat.eq_of_beq_eq_true a1, Nat.eq_of_beq_eq_true a2, h2, a3, Nat.le_of_ble_eq_true a4, Nat.le_of_ble_eq_true a5, z, hz, Nat.eq_of_beq_eq_true a6⟩
    · cases a6
  · cases h
theorem zero_of {U : Uni} {P : Program} {T : Nat} {cs : List U.C} (h : ((P.info? T).bind (·.zero)).map (fun z => z.cells.toList.map some) = some (cs.map cval)) : ∃ i z, P.info? T = some i ∧ i.zero = some z ∧ cs.map cval = z.cells.toList.map some := by
  cases h1 : P.info? T with
  | none => rw [h1] at h; cases h
  | some i =>
    rw [h1] at h
    cases h2 : i.zero with
    | none => simp [h2] at h
    | some z => simp only [Option.bind_some, h2, Option.map_some, Option.some.injEq] at h; exact ⟨i, z, rfl, h2, h.symm⟩
def plB (P : Program) (S : Nat) : Option (List (Nat × Nat)) := match P.underlying S with
  | some (.struct fs) => fs.toList.mapM (fun f => (P.info? f.type).map fun i => (f.offset, i.size))
  | _ => none
theorem places_of {P : Program} {S : Nat} {ps : List (Nat × Nat)} (h : plB P S = some ps) (h2 : ps.all (fun p => Nat.blt 0 p.2) = true) : ∃ fs, P.underlying S = some (.struct fs) ∧ fs.toList.mapM (fun f => (P.info? f.type).map fun i => (f.offset, i.size)) = some ps ∧ ∀ p ∈ ps, 0 < p.2 := by
  unfold plB at h
  split at h
  · rename_i fs hf
    exact ⟨fs, hf, h, fun p hp => Nat.le_of_ble_eq_true (List.all_eq_true.1 h2 p hp)⟩
  · cases h
inductive D2 {Ty : Nat → Type} : List (Cell Ty) → List (Cell Ty) → Prop where
  | nil : D2 [] []
  | cons {a b : Cell Ty} {us vs : List (Cell Ty)} (h : a = b ∨ a = .nils ∧ ∃ T, b = .sl T []) (hs : D2 us vs) : D2 (a :: us) (b :: vs)
theorem D2.ok {Ty : Nat → Type} {us vs : List (Cell Ty)} (h : D2 us vs) : us.length = vs.length ∧ ∀ (j : Nat) c, us[j]? = some c → ∃ d, vs[j]? = some d ∧ (c = d ∨ c = .nils ∧ ∃ T', d = .sl T' []) := by
  induction h with
  | nil => exact ⟨rfl, fun j c h => by simp at h⟩
  | cons h hs ih =>
    refine ⟨by simp [ih.1], fun j c hc => ?_⟩
    cases j with
    | zero => simp only [List.getElem?_cons_zero, Option.some.injEq] at hc; subst hc; exact ⟨_, rfl, h⟩
    | succ j => simp only [List.getElem?_cons_succ] at hc ⊢; exact ih.2 j c hc
theorem d2int {Ty : Nat → Type} {k : IntKind} {a : Cell Ty} {n : Int} (h : cint k a = some n) : a = .int k n ∨ a = .nils ∧ ∃ T, (Cell.int k n : Cell Ty) = .sl T [] := by
  unfold cint at h
  split at h
  · rename_i k' m
    cases hk : decide (k' = k) with
    | true => rw [hk] at h; simp only [cond_true, Option.some.injEq] at h; rw [of_decide_eq_true hk, h]; exact .inl rfl
    | false => rw [hk] at h; cases h
  · cases h
theorem d2bool {Ty : Nat → Type} {a : Cell Ty} {n : Bool} (h : cbool a = some n) : a = .bool n ∨ a = .nils ∧ ∃ T, (Cell.bool n : Cell Ty) = .sl T [] := by
  unfold cbool at h
  split at h
  · simp only [Option.some.injEq] at h; rw [h]; exact .inl rfl
  · cases h
theorem d2str {Ty : Nat → Type} {a : Cell Ty} {n : ByteArray} (h : cstr a = some n) : a = .str n ∨ a = .nils ∧ ∃ T, (Cell.str n : Cell Ty) = .sl T [] := by
  unfold cstr at h
  split at h
  · simp only [Option.some.injEq] at h; rw [h]; exact .inl rfl
  · cases h
theorem d2sl {Ty : Nat → Type} {T : Nat} {a : Cell Ty} {l : List (Ty T)} (h : sliceT a T = some l) : a = .sl T l ∨ a = .nils ∧ ∃ T', (Cell.sl T l : Cell Ty) = .sl T' [] := by
  unfold sliceT at h
  split at h
  · rename_i T' m
    split at h
    · rename_i e
      subst e
      simp only [Option.some.injEq] at h
      rw [← h]; exact .inl rfl
    · cases h
  · simp only [Option.some.injEq] at h; subst h; exact .inr ⟨rfl, T, rfl⟩
  · cases h
theorem kencp : ∀ k (x : KTy k), (kenc k x).all (plain (U := U)) = true := by intro k x; cases k <;> rfl
theorem kdec_ok : ∀ k cs (x : KTy k), kdec k cs = some x → D2 cs (kenc k x)
  | .no, cs, x, h => by cases h
  | .k2, cs, x, h => by
    simp only [kdec] at h
    split at h
    · obtain ⟨_, h0, h⟩ := Option.bind_eq_some_iff.1 h
      cases h
      exact D2.cons (d2int h0) (D2.nil)
    · cases h
  | .k3, cs, x, h => by
    simp only [kdec] at h
    split at h
    · obtain ⟨_, h0, h⟩ := Option.bind_eq_some_iff.1 h
      cases h
      exact D2.cons (d2int h0) (D2.nil)
    · cases h
  | .k4, cs, x, h => by
    simp only [kdec] at h
    split at h
    · obtain ⟨_, h0, h⟩ := Option.bind_eq_some_iff.1 h
      cases h
      exact D2.cons (d2bool h0) (D2.nil)
    · cases h
  | .k5, cs, x, h => by
    simp only [kdec] at h
    split at h
    · obtain ⟨_, h0, h⟩ := Option.bind_eq_some_iff.1 h
      cases h
      exact D2.cons (d2int h0) (D2.nil)
    · cases h
  | .k9, cs, x, h => by
    simp only [kdec] at h
    split at h
    · obtain ⟨_, h0, h⟩ := Option.bind_eq_some_iff.1 h
      cases h
      exact D2.cons (d2str h0) (D2.nil)
    · cases h
  | .k22, cs, x, h => by
    simp only [kdec] at h
    split at h
    · obtain ⟨_, h0, h⟩ := Option.bind_eq_some_iff.1 h
      cases h
      exact D2.cons (d2sl h0) (D2.nil)
    · cases h
  | .k25, cs, x, h => by
    simp only [kdec] at h
    split at h
    · obtain ⟨_, h0, h⟩ := Option.bind_eq_some_iff.1 h
      cases h
      exact D2.cons (d2sl h0) (D2.nil)
    · cases h
  | .k27, cs, x, h => by
    simp only [kdec] at h
    split at h
    · obtain ⟨_, h0, h⟩ := Option.bind_eq_some_iff.1 h
      obtain ⟨_, h1, h⟩ := Option.bind_eq_some_iff.1 h
      obtain ⟨_, h2, h⟩ := Option.bind_eq_some_iff.1 h
      obtain ⟨_, h3, h⟩ := Option.bind_eq_some_iff.1 h
      obtain ⟨_, h4, h⟩ := Option.bind_eq_some_iff.1 h
      obtain ⟨_, h5, h⟩ := Option.bind_eq_some_iff.1 h
      cases h
      exact D2.cons (d2int h0) (D2.cons (d2int h1) (D2.cons (d2int h2) (D2.cons (d2str h3) (D2.cons (d2str h4) (D2.cons (d2sl h5) (D2.nil))))))
    · cases h
  | .k39, cs, x, h => by
    simp only [kdec] at h
    split at h
    · obtain ⟨_, h0, h⟩ := Option.bind_eq_some_iff.1 h
      cases h
      exact D2.cons (d2sl h0) (D2.nil)
    · cases h
  | .k41, cs, x, h => by
    simp only [kdec] at h
    split at h
    · obtain ⟨_, h0, h⟩ := Option.bind_eq_some_iff.1 h
      obtain ⟨_, h1, h⟩ := Option.bind_eq_some_iff.1 h
      cases h
      exact D2.cons (d2str h0) (D2.cons (d2sl h1) (D2.nil))
    · cases h
  | .k51, cs, x, h => by
    simp only [kdec] at h
    split at h
    · obtain ⟨_, h0, h⟩ := Option.bind_eq_some_iff.1 h
      obtain ⟨_, h1, h⟩ := Option.bind_eq_some_iff.1 h
      obtain ⟨_, h2, h⟩ := Option.bind_eq_some_iff.1 h
      cases h
      exact D2.cons (d2int h0) (D2.cons (d2int h1) (D2.cons (d2int h2) (D2.nil)))
    · cases h
  | .k58, cs, x, h => by
    simp only [kdec] at h
    split at h
    · obtain ⟨_, h0, h⟩ := Option.bind_eq_some_iff.1 h
      obtain ⟨_, h1, h⟩ := Option.bind_eq_some_iff.1 h
      obtain ⟨_, h2, h⟩ := Option.bind_eq_some_iff.1 h
      obtain ⟨_, h3, h⟩ := Option.bind_eq_some_iff.1 h
      obtain ⟨_, h4, h⟩ := Option.bind_eq_some_iff.1 h
      obtain ⟨_, h5, h⟩ := Option.bind_eq_some_iff.1 h
      obtain ⟨_, h6, h⟩ := Option.bind_eq_some_iff.1 h
      obtain ⟨_, h7, h⟩ := Option.bind_eq_some_iff.1 h
      cases h
      exact D2.cons (d2int h0) (D2.cons (d2int h1) (D2.cons (d2int h2) (D2.cons (d2str h3) (D2.cons (d2str h4) (D2.cons (d2sl h5) (D2.cons (d2int h6) (D2.cons (d2int h7) (D2.nil))))))))
    · cases h
  | .k62, cs, x, h => by
    simp only [kdec] at h
    split at h
    · obtain ⟨_, h0, h⟩ := Option.bind_eq_some_iff.1 h
      cases h
      exact D2.cons (d2sl h0) (D2.nil)
    · cases h
  | .k72, cs, x, h => by
    simp only [kdec] at h
    split at h
    · obtain ⟨_, h0, h⟩ := Option.bind_eq_some_iff.1 h
      obtain ⟨_, h1, h⟩ := Option.bind_eq_some_iff.1 h
      obtain ⟨_, h2, h⟩ := Option.bind_eq_some_iff.1 h
      obtain ⟨_, h3, h⟩ := Option.bind_eq_some_iff.1 h
      obtain ⟨_, h4, h⟩ := Option.bind_eq_some_iff.1 h
      cases h
      exact D2.cons (d2bool h0) (D2.cons (d2bool h1) (D2.cons (d2str h2) (D2.cons (d2int h3) (D2.cons (d2int h4) (D2.nil)))))
    · cases h
  | .k76, cs, x, h => by
    simp only [kdec] at h
    split at h
    · obtain ⟨_, h0, h⟩ := Option.bind_eq_some_iff.1 h
      obtain ⟨_, h1, h⟩ := Option.bind_eq_some_iff.1 h
      obtain ⟨_, h2, h⟩ := Option.bind_eq_some_iff.1 h
      obtain ⟨_, h3, h⟩ := Option.bind_eq_some_iff.1 h
      obtain ⟨_, h4, h⟩ := Option.bind_eq_some_iff.1 h
      obtain ⟨_, h5, h⟩ := Option.bind_eq_some_iff.1 h
      obtain ⟨_, h6, h⟩ := Option.bind_eq_some_iff.1 h
      cases h
      exact D2.cons (d2bool h0) (D2.cons (d2bool h1) (D2.cons (d2str h2) (D2.cons (d2int h3) (D2.cons (d2int h4) (D2.cons (d2int h5) (D2.cons (d2int h6) (D2.nil)))))))
    · cases h
  | .k79, cs, x, h => by
    simp only [kdec] at h
    split at h
    · obtain ⟨_, h0, h⟩ := Option.bind_eq_some_iff.1 h
      obtain ⟨_, h1, h⟩ := Option.bind_eq_some_iff.1 h
      obtain ⟨_, h2, h⟩ := Option.bind_eq_some_iff.1 h
      obtain ⟨_, h3, h⟩ := Option.bind_eq_some_iff.1 h
      obtain ⟨_, h4, h⟩ := Option.bind_eq_some_iff.1 h
      obtain ⟨_, h5, h⟩ := Option.bind_eq_some_iff.1 h
      obtain ⟨_, h6, h⟩ := Option.bind_eq_some_iff.1 h
      obtain ⟨_, h7, h⟩ := Option.bind_eq_some_iff.1 h
      obtain ⟨_, h8, h⟩ := Option.bind_eq_some_iff.1 h
      obtain ⟨_, h9, h⟩ := Option.bind_eq_some_iff.1 h
      obtain ⟨_, h10, h⟩ := Option.bind_eq_some_iff.1 h
      obtain ⟨_, h11, h⟩ := Option.bind_eq_some_iff.1 h
      obtain ⟨_, h12, h⟩ := Option.bind_eq_some_iff.1 h
      obtain ⟨_, h13, h⟩ := Option.bind_eq_some_iff.1 h
      obtain ⟨_, h14, h⟩ := Option.bind_eq_some_iff.1 h
      obtain ⟨_, h15, h⟩ := Option.bind_eq_some_iff.1 h
      obtain ⟨_, h16, h⟩ := Option.bind_eq_some_iff.1 h
      cases h
      exact D2.cons (d2int h0) (D2.cons (d2int h1) (D2.cons (d2str h2) (D2.cons (d2int h3) (D2.cons (d2bool h4) (D2.cons (d2bool h5) (D2.cons (d2str h6) (D2.cons (d2int h7) (D2.cons (d2int h8) (D2.cons (d2int h9) (D2.cons (d2int h10) (D2.cons (d2int h11) (D2.cons (d2str h12) (D2.cons (d2str h13) (D2.cons (d2sl h14) (D2.cons (d2sl h15) (D2.cons (d2sl h16) (D2.nil)))))))))))))))))
    · cases h
  | .k83, cs, x, h => by
    simp only [kdec] at h
    split at h
    · obtain ⟨_, h0, h⟩ := Option.bind_eq_some_iff.1 h
      obtain ⟨_, h1, h⟩ := Option.bind_eq_some_iff.1 h
      obtain ⟨_, h2, h⟩ := Option.bind_eq_some_iff.1 h
      obtain ⟨_, h3, h⟩ := Option.bind_eq_some_iff.1 h
      obtain ⟨_, h4, h⟩ := Option.bind_eq_some_iff.1 h
      obtain ⟨_, h5, h⟩ := Option.bind_eq_some_iff.1 h
      obtain ⟨_, h6, h⟩ := Option.bind_eq_some_iff.1 h
      obtain ⟨_, h7, h⟩ := Option.bind_eq_some_iff.1 h
      obtain ⟨_, h8, h⟩ := Option.bind_eq_some_iff.1 h
      obtain ⟨_, h9, h⟩ := Option.bind_eq_some_iff.1 h
      obtain ⟨_, h10, h⟩ := Option.bind_eq_some_iff.1 h
      obtain ⟨_, h11, h⟩ := Option.bind_eq_some_iff.1 h
      obtain ⟨_, h12, h⟩ := Option.bind_eq_some_iff.1 h
      obtain ⟨_, h13, h⟩ := Option.bind_eq_some_iff.1 h
      obtain ⟨_, h14, h⟩ := Option.bind_eq_some_iff.1 h
      obtain ⟨_, h15, h⟩ := Option.bind_eq_some_iff.1 h
      obtain ⟨_, h16, h⟩ := Option.bind_eq_some_iff.1 h
      obtain ⟨_, h17, h⟩ := Option.bind_eq_some_iff.1 h
      obtain ⟨_, h18, h⟩ := Option.bind_eq_some_iff.1 h
      obtain ⟨_, h19, h⟩ := Option.bind_eq_some_iff.1 h
      cases h
      exact D2.cons (d2int h0) (D2.cons (d2int h1) (D2.cons (d2str h2) (D2.cons (d2int h3) (D2.cons (d2bool h4) (D2.cons (d2bool h5) (D2.cons (d2str h6) (D2.cons (d2int h7) (D2.cons (d2int h8) (D2.cons (d2int h9) (D2.cons (d2int h10) (D2.cons (d2int h11) (D2.cons (d2str h12) (D2.cons (d2str h13) (D2.cons (d2sl h14) (D2.cons (d2sl h15) (D2.cons (d2sl h16) (D2.cons (d2sl h17) (D2.cons (d2int h18) (D2.cons (d2int h19) (D2.nil))))))))))))))))))))
    · cases h
  | .k98, cs, x, h => by
    simp only [kdec] at h
    split at h
    · obtain ⟨_, h0, h⟩ := Option.bind_eq_some_iff.1 h
      obtain ⟨_, h1, h⟩ := Option.bind_eq_some_iff.1 h
      obtain ⟨_, h2, h⟩ := Option.bind_eq_some_iff.1 h
      obtain ⟨_, h3, h⟩ := Option.bind_eq_some_iff.1 h
      cases h
      exact D2.cons (d2sl h0) (D2.cons (d2sl h1) (D2.cons (d2int h2) (D2.cons (d2int h3) (D2.nil))))
    · cases h
theorem tcase (T : Nat) : T = 2 ∨ T = 3 ∨ T = 4 ∨ T = 5 ∨ T = 9 ∨ T = 22 ∨ T = 25 ∨ T = 27 ∨ T = 39 ∨ T = 41 ∨ T = 51 ∨ T = 58 ∨ T = 62 ∨ T = 72 ∨ T = 76 ∨ T = 79 ∨ T = 83 ∨ T = 98 ∨ (code T = .no ∧ inf T = none) := by
  by_cases h2 : T = 2
  · simp [h2]
  by_cases h3 : T = 3
  · simp [h3]
  by_cases h4 : T = 4
  · simp [h4]
  by_cases h5 : T = 5
  · simp [h5]
  by_cases h9 : T = 9
  · simp [h9]
  by_cases h22 : T = 22
  · simp [h22]
  by_cases h25 : T = 25
  · simp [h25]
  by_cases h27 : T = 27
  · simp [h27]
  by_cases h39 : T = 39
  · simp [h39]
  by_cases h41 : T = 41
  · simp [h41]
  by_cases h51 : T = 51
  · simp [h51]
  by_cases h58 : T = 58
  · simp [h58]
  by_cases h62 : T = 62
  · simp [h62]
  by_cases h72 : T = 72
  · simp [h72]
  by_cases h76 : T = 76
  · simp [h76]
  by_cases h79 : T = 79
  · simp [h79]
  by_cases h83 : T = 83
  · simp [h83]
  by_cases h98 : T = 98
  · simp [h98]
  have hb : ∀ k, T ≠ k → Nat.beq T k = false := fun k h => by
    cases e : Nat.beq T k with
    | false => rfl
    | true => exact absurd (Nat.eq_of_beq_eq_true e) h
  have hc : code T = .no := by unfold code; simp only [hb 2 h2, hb 3 h3, hb 4 h4, hb 5 h5, hb 9 h9, hb 22 h22, hb 25 h25, hb 27 h27, hb 39 h39, hb 41 h41, hb 51 h51, hb 58 h58, hb 62 h62, hb 72 h72, hb 76 h76, hb 79 h79, hb 83 h83, hb 98 h98, cond_false]
  have hi : inf T = none := by unfold inf; simp only [hb 2 h2, hb 3 h3, hb 4 h4, hb 5 h5, hb 9 h9, hb 22 h22, hb 25 h25, hb 27 h27, hb 39 h39, hb 41 h41, hb 51 h51, hb 58 h58, hb 62 h62, hb 72 h72, hb 76 h76, hb 79 h79, hb 83 h83, hb 98 h98, cond_false]
  exact .inr (.inr (.inr (.inr (.inr (.inr (.inr (.inr (.inr (.inr (.inr (.inr (.inr (.inr (.inr (.inr (.inr (.inr (⟨hc, hi⟩))))))))))))))))))
theorem kno {k : K} (h : k = .no) (x : KTy k) : (kenc k x).length = 0 := by subst h; rfl
theorem kby {k : K} (h : k = .no) (x : List (KTy k)) : kbytes k x = none := by subst h; rfl
theorem kofby {k : K} (h : k = .no) (x : List Int) : kofBytes k x = none := by subst h; rfl
theorem encLen (T : Nat) : ∀ x : U.Ty T, (U.enc T x).length = U.sz T := by
  rcases tcase T with rfl | rfl | rfl | rfl | rfl | rfl | rfl | rfl | rfl | rfl | rfl | rfl | rfl | rfl | rfl | rfl | rfl | rfl | ⟨hc, hi⟩
  · exact fun x => rfl
  · exact fun x => rfl
  · exact fun x => rfl
  · exact fun x => rfl
  · exact fun x => rfl
  · exact fun x => rfl
  · exact fun x => rfl
  · exact fun x => rfl
  · exact fun x => rfl
  · exact fun x => rfl
  · exact fun x => rfl
  · exact fun x => rfl
  · exact fun x => rfl
  · exact fun x => rfl
  · exact fun x => rfl
  · exact fun x => rfl
  · exact fun x => rfl
  · exact fun x => rfl
  · intro x; show (kenc (code T) x).length = (match inf T with | some t => t.sz | none => 0); rw [hi]; exact kno hc x
theorem bytes_ok (T : Nat) (l : List (U.Ty T)) (bs : List Int) (h : U.bytes T l = some bs) : U.sz T = 1 ∧ bs.length = l.length ∧ ∀ (i : Nat) n, bs[i]? = some n → (U.enc T (l.getD i (U.dflt T)))[0]? = some (.int .u8 n) := by
  rcases tcase T with rfl | rfl | rfl | rfl | rfl | rfl | rfl | rfl | rfl | rfl | rfl | rfl | rfl | rfl | rfl | rfl | rfl | rfl | ⟨hc, hi⟩
  · cases h
  · cases h
  · cases h
  · replace h : some l = some bs := h; cases h; exact ⟨rfl, rfl, fun i n hn => by show some (Cell.int IntKind.u8 (List.getD (α := Int) _ i 0)) = _; rw [List.getD_eq_getElem?_getD]; erw [hn]; rfl⟩
  · cases h
  · cases h
  · cases h
  · cases h
  · cases h
  · cases h
  · cases h
  · cases h
  · cases h
  · cases h
  · cases h
  · cases h
  · cases h
  · cases h
  · exact absurd (h.symm.trans (kby hc l)) (by simp)
theorem ofBytes_ok (T : Nat) (bs : List Int) (l : List (U.Ty T)) (h : U.ofBytes T bs = some l) : U.sz T = 1 ∧ l.length = bs.length ∧ ∀ (i : Nat) n, bs[i]? = some n → (U.enc T (l.getD i (U.dflt T)))[0]? = some (.int .u8 n) := by
  rcases tcase T with rfl | rfl | rfl | rfl | rfl | rfl | rfl | rfl | rfl | rfl | rfl | rfl | rfl | rfl | rfl | rfl | rfl | rfl | ⟨hc, hi⟩
  · cases h
  · cases h
  · cases h
  · replace h : some bs = some l := h; cases h; exact ⟨rfl, rfl, fun i n hn => by show some (Cell.int IntKind.u8 (List.getD (α := Int) _ i 0)) = _; rw [List.getD_eq_getElem?_getD]; erw [hn]; rfl⟩
  · cases h
  · cases h
  · cases h
  · cases h
  · cases h
  · cases h
  · cases h
  · cases h
  · cases h
  · cases h
  · cases h
  · cases h
  · cases h
  · cases h
  · exact absurd (h.symm.trans (kofby hc bs)) (by simp)
theorem mixed : Try.prog.follows .mixedOrders = true := Try.checked.mixed
theorem eqf_cons {P : Program} {d : Nat} {xs ys : Array Value} {f : Field} {fs : List Field} {a b : Value} {r s : Bool} {w : World} (hn : (f.name == "_") = false) (ha : (part f.type xs f.offset).run P w = .ok a w) (hb : (part f.type ys f.offset).run P w = .ok b w) (he : (Op.equalIn d f.type a b).run P w = .ok r w) (hr : (Op.eqFields d xs ys fs).run P w = .ok s w) : (Op.eqFields d xs ys (f :: fs)).run P w = .ok (r && s) w := by
  have hn' : f.name ≠ "_" := by simpa using hn
  rw [Op.eqFields]
  simp only [if_pos hn', Sem.run_bind, ha, hb, he, Result.andThen_ok]
  cases r
  · simp
  · simpa using hr
theorem cint_ok {Ty : Nat → Type} {k : IntKind} {c : Cell Ty} {n : Int} (h : cint k c = some n) : c = .int k n := by
  unfold cint at h
  split at h
  · rename_i k' m
    cases hk : decide (k' = k) with
    | true => rw [hk] at h; simp only [cond_true, Option.some.injEq] at h; rw [of_decide_eq_true hk, h]
    | false => rw [hk] at h; cases h
  · cases h
theorem run_eqIn_int {P : Program} (w : World) (d : Nat) (t : TypeId) (k : IntKind) (a b : Int) (h : P.underlying t = some (.int k)) : (Op.equalIn (d + 1) t (.int k a) (.int k b)).run P w = .ok (a == b) w := by
  simp [Op.equalIn, Sem.run_bind, run_underlying h]
theorem run_eqIn_str {P : Program} (w : World) (d : Nat) (t : TypeId) (a b : ByteArray) (h : P.underlying t = some .string) : (Op.equalIn (d + 1) t (.string a) (.string b)).run P w = .ok (a.toList == b.toList) w := by
  rw [← beq_toListBytes]
  simp [Op.equalIn, Sem.run_bind, run_underlying h]
noncomputable def fl72 (i : Nat) : Field := (Try.prog.fieldsOf 72).toList.getD i default
set_option maxRecDepth 100000 in
theorem eq_ok : Try.prog.eqGuardType Try.prog.depth 72 = false ∧ ∀ (w : World) (xs ys : List U.C) (us vs : Array Value) (b : Bool), xs.map cval = us.toList.map some → ys.map cval = vs.toList.map some → eqAg U 72 xs ys = some b → (Op.equalIn 10000 72 (.agg us) (.agg vs)).run Try.prog w = .ok b w := by
  refine ⟨by kernel_rfl, fun w xs ys us vs b hu hv h => ?_⟩
  have inv : ∀ (cs : List (Cell Ty)) (x : U.Ty 72), U.dec 72 cs = some x → ∃ a0 a1 a2 a3 a4, cs = [.bool a0, .bool a1, .str a2, .int .i64 a3, .int .i64 a4] := by
    intro cs x h
    replace h : kdec .k72 cs = some x := h
    simp only [kdec] at h
    split at h
    · obtain ⟨_, h0, h⟩ := Option.bind_eq_some_iff.1 h
      obtain ⟨_, h1, h⟩ := Option.bind_eq_some_iff.1 h
      obtain ⟨_, h2, h⟩ := Option.bind_eq_some_iff.1 h
      obtain ⟨_, h3, h⟩ := Option.bind_eq_some_iff.1 h
      obtain ⟨_, h4, h⟩ := Option.bind_eq_some_iff.1 h
      rw [cbool_ok (U := U) h0, cbool_ok (U := U) h1, cstr_ok (U := U) h2, cint_ok h3, cint_ok h4]
      exact ⟨_, _, _, _, _, rfl⟩
    · cases h
  have arr : ∀ (l : List Value) (us : Array Value), l.map some = us.toList.map some → us = l.toArray := by
    intro l us h
    have : l = us.toList := (List.map_inj_right (fun x y h => Option.some.inj h)).1 h
    rw [this]
  unfold eqAg at h
  split at h
  · rename_i x y hx hy
    obtain ⟨a0, a1, a2, a3, a4, rfl⟩ := inv _ _ hx
    obtain ⟨b0, b1, b2, b3, b4, rfl⟩ := inv _ _ hy
    obtain rfl := arr [.bool a0, .bool a1, .string a2, .int .i64 a3, .int .i64 a4] us hu
    obtain rfl := arr [.bool b0, .bool b1, .string b2, .int .i64 b3, .int .i64 b4] vs hv
    replace h : some (a0 == b0 && (a1 == b1 && (a2.toList == b2.toList && (a3 == b3 && (a4 == b4 && true))))) = some b := h
    cases h
    have hl : (Try.prog.fieldsOf 72).toList = [fl72 0, fl72 1, fl72 2, fl72 3, fl72 4] := by kernel_rfl
    rw [run_equalIn_struct (P := Try.prog) w 9999 72 _ _ (by kernel_rfl) (by kernel_rfl), hl]
    refine eqf_cons (by kernel_rfl) (a := .bool a0) (b := .bool b0) (by kernel_rfl) (by kernel_rfl) (run_equalIn_bool w 9998 _ _ _ (by kernel_rfl)) ?_
    refine eqf_cons (by kernel_rfl) (a := .bool a1) (b := .bool b1) (by kernel_rfl) (by kernel_rfl) (run_equalIn_bool w 9998 _ _ _ (by kernel_rfl)) ?_
    refine eqf_cons (by kernel_rfl) (a := .string a2) (b := .string b2) (by kernel_rfl) (by kernel_rfl) (run_eqIn_str w 9998 _ _ _ (by kernel_rfl)) ?_
    refine eqf_cons (by kernel_rfl) (a := .int .i64 a3) (b := .int .i64 b3) (by kernel_rfl) (by kernel_rfl) (run_eqIn_int w 9998 _ _ _ _ (by kernel_rfl)) ?_
    refine eqf_cons (by kernel_rfl) (a := .int .i64 a4) (b := .int .i64 b4) (by kernel_rfl) (by kernel_rfl) (run_eqIn_int w 9998 _ _ _ _ (by kernel_rfl)) ?_
    simp [Op.eqFields]
  · cases h

def intB (P : Program) (T : Nat) : Option IntKind := match P.underlying T with | some (.int k) => some k | _ => none
theorem underlying_int {P : Program} {T : Nat} {k : IntKind} (h : intB P T = some k) : P.underlying T = some (.int k) := by
  unfold intB at h
  split at h
  · cases h; assumption
  · cases h
theorem int_ex {P : Program} {T : Nat} (h : (intB P T).isSome = true) : ∃ k, P.underlying T = some (.int k) := by
  obtain ⟨k, hk⟩ := Option.isSome_iff_exists.1 h
  exact ⟨k, underlying_int hk⟩
set_option maxRecDepth 100000 in
theorem uok : UOk Try.prog U where
  inf := fun T t h => by
    replace h : inf T = some t := h
    unfold Ev.inf at h
    rcases bif_case h with ⟨hb, e⟩ | h
    · cases Nat.eq_of_beq_eq_true hb; cases e; exact infB_ok (by kernel_rfl)
    rcases bif_case h with ⟨hb, e⟩ | h
    · cases Nat.eq_of_beq_eq_true hb; cases e; exact infB_ok (by kernel_rfl)
    rcases bif_case h with ⟨hb, e⟩ | h
    · cases Nat.eq_of_beq_eq_true hb; cases e; exact infB_ok (by kernel_rfl)
    rcases bif_case h with ⟨hb, e⟩ | h
    · cases Nat.eq_of_beq_eq_true hb; cases e; exact infB_ok (by kernel_rfl)
    rcases bif_case h with ⟨hb, e⟩ | h
    · cases Nat.eq_of_beq_eq_true hb; cases e; exact infB_ok (by kernel_rfl)
    rcases bif_case h with ⟨hb, e⟩ | h
    · cases Nat.eq_of_beq_eq_true hb; cases e; exact infB_ok (by kernel_rfl)
    rcases bif_case h with ⟨hb, e⟩ | h
    · cases Nat.eq_of_beq_eq_true hb; cases e; exact infB_ok (by kernel_rfl)
    rcases bif_case h with ⟨hb, e⟩ | h
    · cases Nat.eq_of_beq_eq_true hb; cases e; exact infB_ok (by kernel_rfl)
    rcases bif_case h with ⟨hb, e⟩ | h
    · cases Nat.eq_of_beq_eq_true hb; cases e; exact infB_ok (by kernel_rfl)
    rcases bif_case h with ⟨hb, e⟩ | h
    · cases Nat.eq_of_beq_eq_true hb; cases e; exact infB_ok (by kernel_rfl)
    rcases bif_case h with ⟨hb, e⟩ | h
    · cases Nat.eq_of_beq_eq_true hb; cases e; exact infB_ok (by kernel_rfl)
    rcases bif_case h with ⟨hb, e⟩ | h
    · cases Nat.eq_of_beq_eq_true hb; cases e; exact infB_ok (by kernel_rfl)
    rcases bif_case h with ⟨hb, e⟩ | h
    · cases Nat.eq_of_beq_eq_true hb; cases e; exact infB_ok (by kernel_rfl)
    rcases bif_case h with ⟨hb, e⟩ | h
    · cases Nat.eq_of_beq_eq_true hb; cases e; exact infB_ok (by kernel_rfl)
    rcases bif_case h with ⟨hb, e⟩ | h
    · cases Nat.eq_of_beq_eq_true hb; cases e; exact infB_ok (by kernel_rfl)
    rcases bif_case h with ⟨hb, e⟩ | h
    · cases Nat.eq_of_beq_eq_true hb; cases e; exact infB_ok (by kernel_rfl)
    rcases bif_case h with ⟨hb, e⟩ | h
    · cases Nat.eq_of_beq_eq_true hb; cases e; exact infB_ok (by kernel_rfl)
    rcases bif_case h with ⟨hb, e⟩ | h
    · cases Nat.eq_of_beq_eq_true hb; cases e; exact infB_ok (by kernel_rfl)
    cases h
  zero := fun T cs h => by
    replace h : zero T = some cs := h
    unfold Ev.zero at h
    rcases bif_case h with ⟨hb, e⟩ | h
    · cases Nat.eq_of_beq_eq_true hb; cases e; exact zero_of (by kernel_rfl)
    rcases bif_case h with ⟨hb, e⟩ | h
    · cases Nat.eq_of_beq_eq_true hb; cases e; exact zero_of (by kernel_rfl)
    rcases bif_case h with ⟨hb, e⟩ | h
    · cases Nat.eq_of_beq_eq_true hb; cases e; exact zero_of (by kernel_rfl)
    rcases bif_case h with ⟨hb, e⟩ | h
    · cases Nat.eq_of_beq_eq_true hb; cases e; exact zero_of (by kernel_rfl)
    rcases bif_case h with ⟨hb, e⟩ | h
    · cases Nat.eq_of_beq_eq_true hb; cases e; exact zero_of (by kernel_rfl)
    rcases bif_case h with ⟨hb, e⟩ | h
    · cases Nat.eq_of_beq_eq_true hb; cases e; exact zero_of (by kernel_rfl)
    rcases bif_case h with ⟨hb, e⟩ | h
    · cases Nat.eq_of_beq_eq_true hb; cases e; exact zero_of (by kernel_rfl)
    rcases bif_case h with ⟨hb, e⟩ | h
    · cases Nat.eq_of_beq_eq_true hb; cases e; exact zero_of (by kernel_rfl)
    rcases bif_case h with ⟨hb, e⟩ | h
    · cases Nat.eq_of_beq_eq_true hb; cases e; exact zero_of (by kernel_rfl)
    rcases bif_case h with ⟨hb, e⟩ | h
    · cases Nat.eq_of_beq_eq_true hb; cases e; exact zero_of (by kernel_rfl)
    rcases bif_case h with ⟨hb, e⟩ | h
    · cases Nat.eq_of_beq_eq_true hb; cases e; exact zero_of (by kernel_rfl)
    rcases bif_case h with ⟨hb, e⟩ | h
    · cases Nat.eq_of_beq_eq_true hb; cases e; exact zero_of (by kernel_rfl)
    rcases bif_case h with ⟨hb, e⟩ | h
    · cases Nat.eq_of_beq_eq_true hb; cases e; exact zero_of (by kernel_rfl)
    rcases bif_case h with ⟨hb, e⟩ | h
    · cases Nat.eq_of_beq_eq_true hb; cases e; exact zero_of (by kernel_rfl)
    rcases bif_case h with ⟨hb, e⟩ | h
    · cases Nat.eq_of_beq_eq_true hb; cases e; exact zero_of (by kernel_rfl)
    rcases bif_case h with ⟨hb, e⟩ | h
    · cases Nat.eq_of_beq_eq_true hb; cases e; exact zero_of (by kernel_rfl)
    rcases bif_case h with ⟨hb, e⟩ | h
    · cases Nat.eq_of_beq_eq_true hb; cases e; exact zero_of (by kernel_rfl)
    rcases bif_case h with ⟨hb, e⟩ | h
    · cases Nat.eq_of_beq_eq_true hb; cases e; exact zero_of (by kernel_rfl)
    cases h
  elem := fun S T h => by
    replace h : elem S = some T := h
    unfold Ev.elem at h
    rcases bif_case h with ⟨hb, e⟩ | h
    · cases Nat.eq_of_beq_eq_true hb; cases e; exact eqr (by kernel_rfl)
    rcases bif_case h with ⟨hb, e⟩ | h
    · cases Nat.eq_of_beq_eq_true hb; cases e; exact eqr (by kernel_rfl)
    rcases bif_case h with ⟨hb, e⟩ | h
    · cases Nat.eq_of_beq_eq_true hb; cases e; exact eqr (by kernel_rfl)
    rcases bif_case h with ⟨hb, e⟩ | h
    · cases Nat.eq_of_beq_eq_true hb; cases e; exact eqr (by kernel_rfl)
    rcases bif_case h with ⟨hb, e⟩ | h
    · cases Nat.eq_of_beq_eq_true hb; cases e; exact eqr (by kernel_rfl)
    cases h
  ptee := fun S T h => by
    replace h : ptee S = some T := h
    unfold Ev.ptee at h
    rcases bif_case h with ⟨hb, e⟩ | h
    · cases Nat.eq_of_beq_eq_true hb; cases e; exact eqr (by kernel_rfl)
    rcases bif_case h with ⟨hb, e⟩ | h
    · cases Nat.eq_of_beq_eq_true hb; cases e; exact eqr (by kernel_rfl)
    rcases bif_case h with ⟨hb, e⟩ | h
    · cases Nat.eq_of_beq_eq_true hb; cases e; exact eqr (by kernel_rfl)
    cases h
  places := fun S ps h => by
    replace h : places S = some ps := h
    unfold Ev.places at h
    rcases bif_case h with ⟨hb, e⟩ | h
    · cases Nat.eq_of_beq_eq_true hb; cases e; exact places_of (by kernel_rfl) (by kernel_rfl)
    rcases bif_case h with ⟨hb, e⟩ | h
    · cases Nat.eq_of_beq_eq_true hb; cases e; exact places_of (by kernel_rfl) (by kernel_rfl)
    rcases bif_case h with ⟨hb, e⟩ | h
    · cases Nat.eq_of_beq_eq_true hb; cases e; exact places_of (by kernel_rfl) (by kernel_rfl)
    rcases bif_case h with ⟨hb, e⟩ | h
    · cases Nat.eq_of_beq_eq_true hb; cases e; exact places_of (by kernel_rfl) (by kernel_rfl)
    rcases bif_case h with ⟨hb, e⟩ | h
    · cases Nat.eq_of_beq_eq_true hb; cases e; exact places_of (by kernel_rfl) (by kernel_rfl)
    rcases bif_case h with ⟨hb, e⟩ | h
    · cases Nat.eq_of_beq_eq_true hb; cases e; exact places_of (by kernel_rfl) (by kernel_rfl)
    rcases bif_case h with ⟨hb, e⟩ | h
    · cases Nat.eq_of_beq_eq_true hb; cases e; exact places_of (by kernel_rfl) (by kernel_rfl)
    rcases bif_case h with ⟨hb, e⟩ | h
    · cases Nat.eq_of_beq_eq_true hb; cases e; exact places_of (by kernel_rfl) (by kernel_rfl)
    rcases bif_case h with ⟨hb, e⟩ | h
    · cases Nat.eq_of_beq_eq_true hb; cases e; exact places_of (by kernel_rfl) (by kernel_rfl)
    cases h
  boolT := fun T h => by
    replace h : boolT T = true := h
    unfold Ev.boolT at h
    rcases bif_caseB h with hb | h
    · cases Nat.eq_of_beq_eq_true hb; exact eqr (by kernel_rfl)
    cases h
  strT := fun T h => by
    replace h : strT T = true := h
    unfold Ev.strT at h
    rcases bif_caseB h with hb | h
    · cases Nat.eq_of_beq_eq_true hb; exact eqr (by kernel_rfl)
    cases h
  intT := fun T k h => by
    replace h : intT T = some k := h
    unfold Ev.intT at h
    rcases bif_case h with ⟨hb, e⟩ | h
    · cases Nat.eq_of_beq_eq_true hb; cases e; exact eqr (by kernel_rfl)
    rcases bif_case h with ⟨hb, e⟩ | h
    · cases Nat.eq_of_beq_eq_true hb; cases e; exact eqr (by kernel_rfl)
    rcases bif_case h with ⟨hb, e⟩ | h
    · cases Nat.eq_of_beq_eq_true hb; cases e; exact eqr (by kernel_rfl)
    cases h
  convI := fun s d k h => by
    replace h : conv s d = some (.int k) := h
    unfold Ev.conv at h
    rcases bif_case h with ⟨hb, e⟩ | h
    · (rw [Bool.and_eq_true] at hb; obtain ⟨hb1, hb2⟩ := hb; cases Nat.eq_of_beq_eq_true hb1; cases Nat.eq_of_beq_eq_true hb2; cases e; exact ⟨int_ex (by kernel_rfl), by kernel_rfl⟩)
    rcases bif_case h with ⟨hb, e⟩ | h
    · (rw [Bool.and_eq_true] at hb; obtain ⟨hb1, hb2⟩ := hb; cases Nat.eq_of_beq_eq_true hb1; cases Nat.eq_of_beq_eq_true hb2; cases e; exact ⟨int_ex (by kernel_rfl), by kernel_rfl⟩)
    rcases bif_case h with ⟨hb, e⟩ | h
    · cases e
    rcases bif_case h with ⟨hb, e⟩ | h
    · cases e
    rcases bif_case h with ⟨hb, e⟩ | h
    · cases e
    cases h
  convS := fun s d h => by
    replace h : conv s d = some (.same) := h
    unfold Ev.conv at h
    rcases bif_case h with ⟨hb, e⟩ | h
    · cases e
    rcases bif_case h with ⟨hb, e⟩ | h
    · cases e
    rcases bif_case h with ⟨hb, e⟩ | h
    · cases e
    rcases bif_case h with ⟨hb, e⟩ | h
    · cases e
    rcases bif_case h with ⟨hb, e⟩ | h
    · cases e
    cases h
  convT := fun s d T h => by
    replace h : conv s d = some (.toStr T) := h
    unfold Ev.conv at h
    rcases bif_case h with ⟨hb, e⟩ | h
    · cases e
    rcases bif_case h with ⟨hb, e⟩ | h
    · cases e
    rcases bif_case h with ⟨hb, e⟩ | h
    · cases e
    rcases bif_case h with ⟨hb, e⟩ | h
    · (rw [Bool.and_eq_true] at hb; obtain ⟨hb1, hb2⟩ := hb; cases Nat.eq_of_beq_eq_true hb1; cases Nat.eq_of_beq_eq_true hb2; cases e; exact ⟨by kernel_rfl, by kernel_rfl, by kernel_rfl⟩)
    rcases bif_case h with ⟨hb, e⟩ | h
    · cases e
    cases h
  convB := fun s d T h => by
    replace h : conv s d = some (.toBytes T) := h
    unfold Ev.conv at h
    rcases bif_case h with ⟨hb, e⟩ | h
    · cases e
    rcases bif_case h with ⟨hb, e⟩ | h
    · cases e
    rcases bif_case h with ⟨hb, e⟩ | h
    · (rw [Bool.and_eq_true] at hb; obtain ⟨hb1, hb2⟩ := hb; cases Nat.eq_of_beq_eq_true hb1; cases Nat.eq_of_beq_eq_true hb2; cases e; exact ⟨by kernel_rfl, by kernel_rfl, by kernel_rfl⟩)
    rcases bif_case h with ⟨hb, e⟩ | h
    · cases e
    rcases bif_case h with ⟨hb, e⟩ | h
    · cases e
    cases h
  convM := fun s d T h => by
    replace h : conv s d = some (.mark T) := h
    unfold Ev.conv at h
    rcases bif_case h with ⟨hb, e⟩ | h
    · cases e
    rcases bif_case h with ⟨hb, e⟩ | h
    · cases e
    rcases bif_case h with ⟨hb, e⟩ | h
    · cases e
    rcases bif_case h with ⟨hb, e⟩ | h
    · cases e
    rcases bif_case h with ⟨hb, e⟩ | h
    · (rw [Bool.and_eq_true] at hb; obtain ⟨hb1, hb2⟩ := hb; cases Nat.eq_of_beq_eq_true hb1; cases Nat.eq_of_beq_eq_true hb2; cases e; exact ⟨rfl, by kernel_rfl, by kernel_rfl⟩)
    cases h
  eqT := fun T h => by
    replace h : eqT T = true := h
    unfold Ev.eqT at h
    rcases bif_caseB h with hb | h
    · cases Nat.eq_of_beq_eq_true hb; exact eq_ok
    cases h
  bytes := bytes_ok
  ofBytes := ofBytes_ok
  enc := encLen
  encp := fun T x c hc => List.all_eq_true.1 (kencp (code T) x) c hc
  dec := fun T cs x h => (kdec_ok (code T) cs x h).ok
end Go.Proofs.Ytogfofcocidmkaa.Ev
