/- ExprGoes: its plain function says true of all bytes and all numbers. No condition. -/
import Derived.Test.YtogfofcocidmkaaPuR
import Derived.Test.YtogfofcocidmkaaPuS
import Derived.KernelRfl
set_option linter.unusedVariables false
set_option linter.unusedSimpArgs false
namespace Go.Proofs.Ytogfofcocidmkaa.exprGoes
open Go.RowKit Go.Proofs Ev Pu
theorem k23 (p0 : Int) (N : Nat) (hN : N ≤ 100000) : ∃ k : Nat, k ≤ N ∧ s23 p0 (w64 ((N : Int) + 1)) = some (k : Int) := by
  rw [wn N (by omega)]
  unfold s23 b23
  have h1 := Int.tmod_lt_of_pos p0 (show (0 : Int) < ((N + 1 : Nat) : Int) by omega)
  have h2 := Int.lt_tmod_of_pos p0 (show (0 : Int) < ((N + 1 : Nat) : Int) by omega)
  rw [cond_f _ _ (dec_f (by omega)), when_t _ (by simp; omega)]
  by_cases h : p0.tmod ((N + 1 : Nat) : Int) < 0
  · rw [cond_t _ _ (dec_t h), w64_id (by omega) (by omega)]
    refine ⟨(p0.tmod ((N + 1 : Nat) : Int) + ((N + 1 : Nat) : Int)).toNat, by omega, ?_⟩
    rw [Int.toNat_of_nonneg (by omega)]
  · rw [cond_f _ _ (dec_f h)]
    refine ⟨(p0.tmod ((N + 1 : Nat) : Int)).toNat, by omega, ?_⟩
    rw [Int.toNat_of_nonneg (by omega)]
section
variable {b : List Int} {l : List S51}
theorem tx_ne (g : Pu.Good b l) {i : Nat} (hi : i < l.length) : eqs (tx b l i) ⟨#[]⟩ = false := by
  obtain ⟨s, e, h1, h2, h3, h4, h5⟩ := g.srt.get i hi
  cases h : eqs (tx b l i) ⟨#[]⟩ with
  | false => rfl
  | true =>
    exfalso
    have h6 := (eqs_iff _ _).1 h
    have h7 : (tx b l i).size = 0 := by rw [h6]; rfl
    unfold tx at h7
    rw [if_pos hi, strOf_size, h1, h2] at h7
    simp at h7
    omega
theorem k30n (g : Pu.Good b l) (i : Nat) (d : Int) (x : ByteArray) (h : eqs (tx b l i) x = false) : s30 x ⟨b, l, (i : Int), d⟩ = some (false, ⟨b, l, (i : Int), d⟩) := by
  unfold s30 b30
  cases h0 : (x.toList == (⟨#[]⟩ : ByteArray).toList) with
  | true => rfl
  | false =>
    unfold eqs at h
    rw [cond_false, t25 g, Option.bind_some, h]
    rfl
theorem k30y (g : Pu.Good b l) (i : Nat) (d : Int) (h : eqs (tx b l i) ⟨#[]⟩ = false) (hi : i ≤ 100000) : s30 (tx b l i) ⟨b, l, (i : Int), d⟩ = some (true, ⟨b, l, ((i + 1 : Nat) : Int), d⟩) := by
  unfold s30 b30
  unfold eqs at h
  dsimp only
  rw [h, cond_false, t25 g, Option.bind_some, show ((tx b l i).toList == (tx b l i).toList) = true from by simp, wn i (by omega)]
  rfl
theorem k31n (g : Pu.Good b l) (i : Nat) (d : Int) (h : idn (tx b l i) = false) : s31 ⟨b, l, (i : Int), d⟩ = some (⟨#[]⟩, false, ⟨b, l, (i : Int), d⟩) := by
  unfold s31 b31
  rw [t25 g, Option.bind_some, t59, Option.bind_some, h]
  rfl
theorem k31y (g : Pu.Good b l) (i : Nat) (d : Int) (h : idn (tx b l i) = true) (hi : i ≤ 100000) : s31 ⟨b, l, (i : Int), d⟩ = some (tx b l i, true, ⟨b, l, ((i + 1 : Nat) : Int), d⟩) := by
  unfold s31 b31
  dsimp only
  rw [t25 g, Option.bind_some, t59, Option.bind_some, h, wn i (by omega)]
  rfl
theorem k33 (i : Nat) (d : Int) (hi : i < l.length) (h : i ≤ 100000) : s33 ⟨b, l, ((i + 1 : Nat) : Int), d⟩ = some (en l i) := by
  unfold s33 b33
  dsimp only
  have e1 : w64 (((i + 1 : Nat) : Int) - 1) = (i : Int) := by rw [w64_id (by omega) (by omega)]; omega
  rw [e1, show ((((i + 1 : Nat) : Int)) == 0) = false from by simp; omega, cond_false, when_t _ (by simp; omega)]
  rfl
theorem tx_x (x : ByteArray) : eqs x (x ++ (⟨#[120]⟩ : ByteArray)) = false := by
  cases h : eqs x (x ++ (⟨#[120]⟩ : ByteArray)) with
  | false => rfl
  | true =>
    exfalso
    have h6 := congrArg ByteArray.size ((eqs_iff _ _).1 h)
    rw [ByteArray.size_append, show (⟨#[120]⟩ : ByteArray).size = 1 from rfl] at h6
    omega
theorem lp6 (g : Pu.Good b l) (k : Nat) (hk : k ≤ l.length) : ∀ (n i : Nat), i ≤ k → k - i < n →
    lp6_7 s12 s16 s21 s22 s23 s24 s25 s26 s27 s28 s29 s30 s31 s32 s33 s34 s35 n (k : Int) (row b l) (i : Int) b l (i : Int) 0 = some (Sum.inr ((k : Int), b, l, (k : Int), 0)) := by
  have hlen := g.llen
  have hb := g.len
  intro n
  induction n with
  | zero => intro i h1 h2; omega
  | succ n ih =>
    intro i h1 h2
    unfold lp6_7 lb6_7
    dsimp only
    by_cases hi : i < k
    · have hl : i < l.length := by omega
      have key := ih (i + 1) hi (by omega)
      have hw : (decide (0 ≤ (i : Int)) && decide ((i : Int) < ((row b l).c1.length : Int))) = true := by
        rw [dec_t (show 0 ≤ (i : Int) by omega), dec_t (show (i : Int) < ((row b l).c1.length : Int) by show (i : Int) < (l.length : Int); omega)]; rfl
      have hkd : ((row b l).c1.getD (i : Int).toNat z51).c0 = kd b l i := by unfold kd; rw [if_pos hl]; rfl
      have hen : ((row b l).c1.getD (i : Int).toNat z51).c2 = en l i := rfl
      have hs := tx_size g i
      have hne := tx_ne g hl
      have n1 : (kd b l i != kd b l i) = false := by simp
      have n2 : (ps b l i != ps b l i) = false := by simp
      have n3 : (en l i != en l i) = false := by simp
      have n4 : ((tx b l i).toList == (tx b l i).toList) = true := by simp
      rw [cond_t _ _ (dec_t (by omega)), t24 g, Option.bind_some, t25 g, Option.bind_some, n4, Bool.not_true, cond_false, t26, Option.bind_some, t27, Option.bind_some, n2, cond_false, t28, Option.bind_some, when_t _ hw, hkd, n1, cond_false, t29, Option.bind_some, cond_f _ _ (dec_f (by omega)), k30n g i 0 _ hne, Option.bind_some]
      dsimp only
      rw [cond_false, when_t _ (dec_t (by rw [show (⟨#[120]⟩ : ByteArray).size = 1 from rfl]; omega)), k30n g i 0 _ (tx_x _), Option.bind_some]
      dsimp only
      rw [cond_false]
      have tail : ∀ (R : Option ((Int × List Int × List S51 × Int × Int × Bool) ⊕ (Int × List Int × List S51 × Int × Int))), when_ (decide (0 ≤ (i : Int)) && decide ((i : Int) < ((row b l).c1.length : Int))) (cond (en l i != ((row b l).c1.getD (i : Int).toNat z51).c2) R
          (lp6_7 s12 s16 s21 s22 s23 s24 s25 s26 s27 s28 s29 s30 s31 s32 s33 s34 s35 n (k : Int) (row b l) (w64 ((i : Int) + 1)) b l ((i + 1 : Nat) : Int) 0)) = some (Sum.inr ((k : Int), b, l, (k : Int), 0)) := by
        intro R
        rw [when_t _ hw, hen, n3, cond_false, wn i (by omega)]
        exact key
      cases hp : ((i : Int).tmod 2 == 0) with
      | true =>
        rw [cond_true]
        cases hn : idn (tx b l i) with
        | true =>
          rw [k31y g i 0 hn (by omega), Option.bind_some, cond_true, t32 _ hs, Option.bind_some, hn]
          dsimp only
          rw [show (!(true == true)) = false from rfl, cond_false, cond_true, n4, Bool.not_true, cond_false, cond_false, k33 i 0 hl (by omega), Option.bind_some]
          exact tail _
        | false =>
          rw [k31n g i 0 hn, Option.bind_some, cond_true, t32 _ hs, Option.bind_some, hn]
          dsimp only
          rw [show (!(false == false)) = false from rfl, cond_false, cond_false, Bool.not_false, cond_true, k30y g i 0 hne (by omega), Option.bind_some]
          dsimp only
          rw [Bool.not_true, cond_false, k33 i 0 hl (by omega), Option.bind_some]
          exact tail _
      | false =>
        rw [cond_false, cond_false, show (!(false == false)) = false from rfl, cond_false, k30y g i 0 hne (by omega), Option.bind_some]
        dsimp only
        rw [Bool.not_true, cond_false, k33 i 0 hl (by omega), Option.bind_some]
        exact tail _
    · obtain rfl : i = k := by omega
      rw [cond_f _ _ (dec_f (by omega))]
end
theorem aw : s12 = some true := by kernel_rfl
theorem pure_holds (a0 : List Int) (a1 : Int) (h : ∀ n ∈ a0, (Lit.int .u8 n).wf = true) (h1 : (Lit.int .i64 a1).wf = true) : s6 a0 a1 = some true := by
  unfold s6 b6
  by_cases hl : a0.length ≤ 1000
  · have hb : Byt a0 := by
      intro x hx
      have h2 : (decide (IntKind.min .u8 ≤ x) && decide (x ≤ IntKind.max .u8)) = true := h x hx
      rw [Bool.and_eq_true] at h2
      have h3 := of_decide_eq_true h2.1
      have h4 := of_decide_eq_true h2.2
      rw [show IntKind.min .u8 = 0 from rfl] at h3
      rw [show IntKind.max .u8 = 255 from rfl] at h4
      exact ⟨h3, h4⟩
    have g := good a0 (by omega)
    have hlen := g.llen
    rw [cond_f _ _ (dec_f (by omega)), t21 hb (by omega), Option.bind_some, t22 a0 (by omega), Option.bind_some]
    generalize hL : live (toks a0) = l at g hlen
    have hD : DigL a0 l := by rw [← hL]; exact digL hb
    obtain ⟨k, hk, ek⟩ := k23 a1 l.length (by omega)
    dsimp only
    rw [show ((row a0 l).c1.length) = l.length from rfl, ek, Option.bind_some]
    have hlp := lp6 g k hk big 0 (by omega) (big_lt (by omega))
    rw [show ((0 : Nat) : Int) = 0 from rfl] at hlp
    rw [hlp, Option.bind_some]
    simp only [Sum.elim_inr]
    obtain ⟨e, err, j, e34, hB⟩ := t34 g k 0 hk (by omega)
    have e35 := t35 g hD hB hk (by omega)
    obtain ⟨i1, i2, i3, i4⟩ := hB.inv (by simp [ntOk]) hk
    simp only at i1 i2 i3 i4
    have e35' : s35 (row a0 l) (k : Int) 1 0 = some (gt (e, err, j)) := e35
    have e34' : s34 ⟨a0, l, (k : Int), 0⟩ = some (e, err, cur a0 l j 0) := e34
    rw [e34', Option.bind_some, e35', Option.bind_some]
    have q26 : s26 (cur a0 l j 0) = some (ps a0 l j) := t26 j _
    have q25 : s25 (cur a0 l j 0) = some (tx a0 l j) := t25 g j _
    have q29 : s29 (cur a0 l j 0) = some (decide (l.length ≤ j)) := t29 j _
    have q0 : (decide (l.length ≤ j) == decide ((j : Int) ≥ (l.length : Int))) = true := by
      by_cases hj : l.length ≤ j
      · rw [dec_t hj, dec_t (by omega)]; rfl
      · rw [dec_f hj, dec_f (by omega)]; rfl
    dsimp only [gt]
    rw [show (err != err) = false from by simp, cond_false, q26, Option.bind_some, t27, Option.bind_some, show (ps a0 l j != ps a0 l j) = false from by simp, cond_false, q25, Option.bind_some, t24 g, Option.bind_some, show ((tx a0 l j).toList == (tx a0 l j).toList) = true from by simp, Bool.not_true, cond_false, q29, Option.bind_some]
    erw [q0]
    rw [Bool.not_true, cond_false, eta27]
    by_cases he : err = 0
    · have i5 := (i3 he).2.1
      simp only [resN, ntE] at i5
      rw [show (err != 0) = false from by simpa using he, cond_false, t16 e (by omega), Option.bind_some, cond_true, aw]
      rfl
    · rw [b0' he, cond_true, i4 he, show s16 z27 (⟨0, 0, 0, (⟨#[]⟩ : ByteArray), (⟨#[]⟩ : ByteArray), []⟩ : S27) = some true from t16 z27 (by show nds (⟨0, 0, 0, (⟨#[]⟩ : ByteArray), (⟨#[]⟩ : ByteArray), []⟩ : S27) ≤ 100000; simp [nds, ndss]), Option.bind_some, cond_true, aw]
      rfl
  · rw [cond_t _ _ (dec_t (by omega)), aw]
    rfl
end Go.Proofs.Ytogfofcocidmkaa.exprGoes
