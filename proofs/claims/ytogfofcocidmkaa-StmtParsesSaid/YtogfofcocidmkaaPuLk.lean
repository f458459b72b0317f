/- The plain functions, read: a lent list is kept; the reference's place of a bad token. -/
import Derived.Test.YtogfofcocidmkaaPuN
import Derived.Test.YtogfofcocidmkaaPuHb
set_option linter.unusedVariables false
set_option linter.unusedSimpArgs false
namespace Go.Proofs.Ytogfofcocidmkaa.Pu
open Go.RowKit Go.Proofs Ev
theorem t13 (b : List Int) (h : b.length ≤ 100000) : s13 b = some b := by
  unfold s13
  rw [when_t _ (dec_t (by omega))]
theorem lp53 (l : List Int) (hl : l.length ≤ 100000) : ∀ (n i : Nat), i ≤ l.length → l.length - i < n → ∃ v, lp53_4 n l l (i : Int) = some (Sum.inr v) := by
  intro n
  induction n with
  | zero => intro i h1 h2; omega
  | succ n ih =>
    intro i h1 h2
    unfold lp53_4 lb53_4
    dsimp only
    by_cases hi : i < l.length
    · have hw : (decide (0 ≤ (i : Int)) && decide ((i : Int) < (l.length : Int))) = true := by simp; omega
      rw [cond_t _ _ (dec_t (by omega)), when_t _ hw, when_t _ hw, show (l.getD (i : Int).toNat 0 != l.getD (i : Int).toNat 0) = false from by simp, cond_false, wn i (by omega)]
      exact ih (i + 1) hi (by omega)
    · rw [cond_f _ _ (dec_f (by omega))]
      exact ⟨_, rfl⟩
theorem t53 (l : List Int) (hl : l.length ≤ 100000) : s53 l l = some true := by
  unfold s53 b53
  obtain ⟨v, hv⟩ := lp53 l hl big 0 (by omega) (big_lt (by omega))
  rw [show ((0 : Nat) : Int) = 0 from rfl] at hv
  rw [show ((l.length : Int) != (l.length : Int)) = false from by simp, cond_false, hv]
  rfl
theorem t19 (b : List Int) (h : b.length ≤ 100000) : s19 b b [77, 78, 79] = some true := by
  unfold s19 b19
  have e3 : w64 ((b.length : Int) + 3) = ((b.length + 3 : Nat) : Int) := by rw [w64_id (by omega) (by omega)]; rfl
  have e2 : w64 ((b.length : Int) + 2) = ((b.length + 2 : Nat) : Int) := by rw [w64_id (by omega) (by omega)]; rfl
  have e0 : (b ++ ([77, 78, 79] : List Int)).take (((b.length + 3 : Nat) : Int)).toNat = b ++ [77, 78, 79] := by
    rw [Int.toNat_natCast]
    exact List.take_of_length_le (by simp)
  have hl : ((b ++ ([77, 78, 79] : List Int)).length) = b.length + 3 := by simp
  rw [e3, e2, wn b.length (by omega), e0, hl, when_t _ (by simp; omega), when_t _ (by simp; omega)]
  have e4 : ((b ++ ([77, 78, 79] : List Int)).take (b.length : Int).toNat).drop 0 = b := by simp
  have g0 : (b ++ ([77, 78, 79] : List Int)).getD (b.length : Int).toNat 0 = 77 := by simp [List.getD_eq_getElem?_getD]
  have g1 : (b ++ ([77, 78, 79] : List Int)).getD ((b.length + 1 : Nat) : Int).toNat 0 = 78 := by
    rw [Int.toNat_natCast, List.getD_eq_getElem?_getD, List.getElem?_append_right (by omega)]
    simp
  have g2 : (b ++ ([77, 78, 79] : List Int)).getD ((b.length + 2 : Nat) : Int).toNat 0 = 79 := by
    rw [Int.toNat_natCast, List.getD_eq_getElem?_getD, List.getElem?_append_right (by omega)]
    simp
  rw [e4, t53 b h, Option.bind_some, cond_true, g0, g1, g2, when_t _ (by simp; omega), show ((77 : Int) == 77) = true from rfl, cond_true, when_t _ (by simp; omega), show ((78 : Int) == 78) = true from rfl, cond_true, when_t _ (by simp; omega)]
  rfl
theorem chain_nn {a z : Nat} {l : List S51} (h : Chain a l z) : ∀ t ∈ l, 0 ≤ t.c1 := by
  induction h with
  | nil a => intro t ht; cases ht
  | cons h hl ih =>
    intro t ht
    cases ht with
    | head => simp only; omega
    | tail _ ht => exact ih t ht
theorem lp51 (l : List S51) (hl : l.length ≤ 100000) : ∀ (n i : Nat), i ≤ l.length → l.length - i < n →
    ∃ r, lp51_3 s55 n l (i : Int) = some r ∧ (match r with | .inl o => ∃ t, bad (l.drop i) = some t ∧ o.2 = t.c1 | .inr _ => bad (l.drop i) = none) := by
  intro n
  induction n with
  | zero => intro i h1 h2; omega
  | succ n ih =>
    intro i h1 h2
    unfold lp51_3 lb51_3
    dsimp only
    by_cases hi : i < l.length
    · have e1 : l.getD (i : Int).toNat z51 = l[i] := by simp [List.getD_eq_getElem?_getD, hi]
      have hw : (decide (0 ≤ (i : Int)) && decide ((i : Int) < (l.length : Int))) = true := by simp; omega
      rw [cond_t _ _ (dec_t (by omega)), when_t _ hw, when_t _ hw, e1, wn i (by omega), List.drop_eq_getElem_cons hi]
      cases hb : (l[i].c0 == 5) with
      | true =>
        refine ⟨_, rfl, l[i], ?_, rfl⟩
        unfold bad
        rw [List.find?_cons, hb]
      | false =>
        obtain ⟨r, h3, h4⟩ := ih (i + 1) hi (by omega)
        refine ⟨r, h3, ?_⟩
        unfold bad at h4 ⊢
        rw [List.find?_cons, hb]
        exact h4
    · rw [cond_f _ _ (dec_f (by omega))]
      refine ⟨_, rfl, ?_⟩
      have : l.drop i = [] := List.drop_eq_nil_of_le (by omega)
      rw [this]
      rfl
theorem t51 {b : List Int} (hb : Byt b) (hl : b.length ≤ 100000) : s51 (strOf b) = some (match bad (toks b) with | some t => t.c1 | none => -1) ∧ ∀ t, bad (toks b) = some t → 0 ≤ t.c1 := by
  have hch := (toks_chain b).le
  unfold s51 b51
  rw [t55 hb hl, Option.bind_some]
  obtain ⟨r, h1, h2⟩ := lp51 (toks b) (by omega) big 0 (by omega) (big_lt (by omega))
  rw [show ((0 : Nat) : Int) = 0 from rfl] at h1
  rw [h1]
  rw [List.drop_zero] at h2
  refine ⟨?_, fun t ht => chain_nn (toks_chain b) t (List.mem_of_find?_eq_some ht)⟩
  cases r with
  | inl o =>
    obtain ⟨t, h3, h4⟩ := h2
    rw [h3]
    simp only [Option.bind_some, Sum.elim_inl, h4]
  | inr o =>
    simp only at h2
    rw [h2]
    rfl
theorem byt_of {l : List Int} (h : ∀ n ∈ l, (Lit.int .u8 n).wf = true) : Byt l := by
  intro x hx
  have h2 : (decide (IntKind.min .u8 ≤ x) && decide (x ≤ IntKind.max .u8)) = true := h x hx
  rw [Bool.and_eq_true] at h2
  have h3 := of_decide_eq_true h2.1
  have h4 := of_decide_eq_true h2.2
  rw [show IntKind.min .u8 = 0 from rfl] at h3
  rw [show IntKind.max .u8 = 255 from rfl] at h4
  exact ⟨h3, h4⟩
end Go.Proofs.Ytogfofcocidmkaa.Pu
