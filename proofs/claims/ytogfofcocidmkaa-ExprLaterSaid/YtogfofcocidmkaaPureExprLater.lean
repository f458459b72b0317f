/- ExprLater: its plain function says true of all bytes and any number of blanks. No condition. -/
import Derived.Test.YtogfofcocidmkaaPuK
set_option linter.unusedVariables false
set_option linter.unusedSimpArgs false
namespace Go.Proofs.Ytogfofcocidmkaa.exprLater
open Go.RowKit Go.Proofs Ev Pu
theorem blanks {f12 : Y12} {f14 : Y14} {f16 : Y16} {f20 : Y20} (k : Nat) (hk : k ≤ 100) : ∀ (n j : Nat), j ≤ k → k - j < n → lp5_6 f12 f14 f16 f20 n (k : Int) (j : Int) (List.replicate j 32) = some ((k : Int), List.replicate k 32) := by
  intro n
  induction n with
  | zero => intro j h1 h2; omega
  | succ n ih =>
    intro j h1 h2
    unfold lp5_6 lb5_6
    dsimp only
    by_cases hj : j < k
    · rw [cond_t _ _ (dec_t (by omega)), when_t _ (dec_t (by simp; omega)), wn j (by omega)]
      have : List.replicate j (32 : Int) ++ [32] = List.replicate (j + 1) 32 := by rw [List.replicate_succ']
      rw [this]
      exact ih (j + 1) hj (by omega)
    · rw [cond_f _ _ (dec_f (by omega))]
      have : j = k := by omega
      subst this
      rfl
theorem laters {f12 : Y12} {f14 : Y14} {f16 : Y16} (k : Nat) (hk : k ≤ 100) (e : S27) (hn : nds e ≤ 100000) (hp : ∀ j : Nat, j ≤ 100 → posE (shE j e)) : ∀ (n j : Nat), j ≤ k → k - j < n →
    lp5_16 f12 f14 f16 s20 n (k : Int) (j : Int) (shE j e).c0 (shE j e).c1 (shE j e).c2 (shE j e).c3 (shE j e).c4 (shE j e).c5 = some ((k : Int), (shE k e).c0, (shE k e).c1, (shE k e).c2, (shE k e).c3, (shE k e).c4, (shE k e).c5) := by
  intro n
  induction n with
  | zero => intro j h1 h2; omega
  | succ n ih =>
    intro j h1 h2
    unfold lp5_16 lb5_16
    dsimp only
    by_cases hj : j < k
    · rw [cond_t _ _ (dec_t (by omega)), eta27, t20 _ (by rw [nds_sh]; exact hn) (hp j (by omega)), Option.bind_some, wn j (by omega), shE_add]
      exact ih (j + 1) hj (by omega)
    · rw [cond_f _ _ (dec_f (by omega))]
      have : j = k := by omega
      subst this
      rfl
theorem pure_holds (a0 : List Int) (a1 : Int) (h : ∀ n ∈ a0, (Lit.int .u8 n).wf = true) (h1 : (Lit.int .u8 a1).wf = true) : s5 a0 a1 = some true := by
  unfold s5 b5
  by_cases hl : a0.length ≤ 900
  · have ha : 0 ≤ a1 ∧ a1 ≤ 255 := by
      have h2 : (decide (IntKind.min .u8 ≤ a1) && decide (a1 ≤ IntKind.max .u8)) = true := h1
      rw [Bool.and_eq_true] at h2
      have h3 := of_decide_eq_true h2.1
      have h4 := of_decide_eq_true h2.2
      rw [show IntKind.min .u8 = 0 from rfl] at h3
      rw [show IntKind.max .u8 = 255 from rfl] at h4
      omega
    have hm : (w64 a1).tmod 100 = ((a1.toNat % 100 : Nat) : Int) := by
      rw [w64_id (by omega) (by omega), Int.tmod_eq_emod_of_nonneg ha.1]
      omega
    rw [cond_f _ _ (dec_f (by omega)), hm]
    generalize hk : a1.toNat % 100 = k
    have hk' : k ≤ 100 := by omega
    have hbl := blanks (f12 := s12) (f14 := s14) (f16 := s16) (f20 := s20) k hk' big 0 (by omega) (big_lt (by omega))
    rw [show ((0 : Nat) : Int) = 0 from rfl, show List.replicate 0 (32 : Int) = [] from rfl] at hbl
    rw [hbl, Option.bind_some]
    obtain ⟨e, pos, err, r1, r2⟩ := t14 a0 (by omega)
    rw [r1, Option.bind_some]
    dsimp only
    rw [when_t _ (dec_t (by simp; omega))]
    obtain ⟨e2, pos2, err2, q1, q2⟩ := t14 (List.replicate k 32 ++ a0) (by simp; omega)
    rw [q1, Option.bind_some]
    dsimp only
    obtain ⟨c1, c2, c3⟩ := PE_later k a0 (by omega) r2 q2
    subst c1
    rw [show (err2 != err2) = false from by simp, cond_false]
    have hpos : 0 ≤ pos ∧ pos ≤ 1000 := by
      have g := good a0 (by omega)
      have hps : ∀ j, 0 ≤ ps a0 (live (toks a0)) j ∧ ps a0 (live (toks a0)) j ≤ 1000 := fun j => by
        refine ⟨g.ps_nn j, ?_⟩
        by_cases hj : j < (live (toks a0)).length
        · have := g.ps_len hj; omega
        · unfold ps; rw [if_neg hj]; omega
      rcases r2 with ⟨t, k1, rfl, rfl, rfl⟩ | ⟨k1, e', err', j, k2, k3⟩
      · obtain ⟨i, hi, rfl⟩ := List.getElem_of_mem (List.mem_of_find?_eq_some k1)
        have hc := toks_chain a0
        have key : ∀ {a z : Nat} {l : List S51}, Chain a l z → ∀ t ∈ l, 0 ≤ t.c1 ∧ t.c1 ≤ z := by
          intro a z l h
          induction h with
          | nil a => intro t ht; cases ht
          | cons h hl ih =>
            intro t ht
            have := hl.le
            cases ht with
            | head => simp only; omega
            | tail _ ht => exact ih t ht
        have := key hc _ (List.getElem_mem hi)
        omega
      · rcases k3 with ⟨_, _, rfl, _⟩ | ⟨_, _, _, rfl, _⟩ | ⟨_, _, _, rfl, _⟩
        · exact hps j
        · exact hps j
        · omega
    rw [w64_id (by omega) (by omega), c2, show (pos + (k : Int) != pos + (k : Int)) = false from by simp, cond_false]
    by_cases he : err2 = 0
    · subst he
      obtain ⟨n1, n2, n3, n4, _⟩ := PE_ok (by omega) r2
      rw [show ((0 : Int) != 0) = false from rfl, cond_false]
      have hl2 := laters (f12 := s12) (f14 := s14) (f16 := s16) k hk' e n1 (fun j hj => posE_sh (z := (a0.length : Int)) (by omega) (by omega) (by omega) e n2 n3 n4) big 0 (by omega) (big_lt (by omega))
      rw [show ((0 : Nat) : Int) = 0 from rfl, shE_zero] at hl2
      rw [hl2, Option.bind_some]
      dsimp only
      rw [eta27, eta27, c3 rfl, t16 _ (by rw [nds_sh]; exact n1), Option.bind_some, cond_true, aw12]
      rfl
    · rw [b0' he, cond_true, aw12]
      rfl
  · rw [cond_t _ _ (dec_t (by omega)), aw12]
    rfl
end Go.Proofs.Ytogfofcocidmkaa.exprLater
