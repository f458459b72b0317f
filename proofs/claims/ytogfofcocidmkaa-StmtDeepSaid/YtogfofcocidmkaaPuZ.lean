/- The plain functions, read: the tokens of a text, a line's end, and another text. -/
import Derived.Test.YtogfofcocidmkaaPuKb
import Derived.KernelRfl
set_option linter.unusedVariables false
set_option linter.unusedSimpArgs false
namespace Go.Proofs.Ytogfofcocidmkaa.Pu
open Go.RowKit Go.Proofs Ev
theorem cnt_app (f : Int → Option Bool) (x y : List Int) : cnt f (x ++ y) = if cnt f x = x.length then x.length + cnt f y else cnt f x := by
  unfold cnt
  rw [List.takeWhile_append]
  split
  · rw [List.length_append]
  · rfl
theorem cnt_nl {f : Int → Option Bool} (h : tot f 10 = false) (b : List Int) : cnt f (10 :: b) = 0 := by
  unfold cnt
  rw [List.takeWhile_cons, h]
  rfl
theorem cnt_nl1 (b : List Int) : cnt s93 (10 :: b) = 1 + cnt s93 b := by
  unfold cnt
  rw [List.takeWhile_cons, show tot s93 10 = true from by decide +kernel, if_pos rfl, List.length_cons]
  omega
theorem cnt_same {f : Int → Option Bool} (h : tot f 10 = false) (x b : List Int) : cnt f (x ++ 10 :: b) = cnt f x := by
  rw [cnt_app, cnt_nl h]
  split <;> omega
theorem sign_nl (c : Int) : fnd (strOf [c, 10]) signs2 = false := by
  have h : ∀ s ∈ signs2, strOf [c, 10] ≠ s := by
    intro s hs e
    have e2 := congrArg (fun z : ByteArray => z.data.toList.getD 1 0) e
    have e3 : (strOf [c, 10]).data.toList.getD 1 0 = 10 := rfl
    have e2 : (10 : UInt8) = s.data.toList.getD 1 0 := e2
    simp only [signs2, List.mem_cons, List.not_mem_nil, or_false] at hs
    rcases hs with rfl | rfl | rfl | rfl <;> exact absurd e2 (by decide)
  have key : ∀ l : List ByteArray, (∀ s ∈ l, strOf [c, 10] ≠ s) → fnd (strOf [c, 10]) l = false := by
    intro l
    induction l with
    | nil => intro _; rfl
    | cons y ys ih =>
      intro hl
      unfold fnd
      have h1 := hl y (by simp)
      have h2 := ih (fun s hs => hl s (by simp [hs]))
      have h3 : eqs y (strOf [c, 10]) = false := by
        cases h4 : eqs y (strOf [c, 10]) with
        | false => rfl
        | true => exact absurd ((eqs_iff _ _).1 h4).symm h1
      have h3' : eqs (strOf [c, 10]) y = false := by
        cases h4 : eqs (strOf [c, 10]) y with
        | false => rfl
        | true => exact absurd ((eqs_iff _ _).1 h4) h1
      unfold eqs at h3 h3'
      simp [h3, h3', h2]
  exact key _ h
theorem fst1_app (x b : List Int) (hx : x ≠ []) (hn : tot s93 (x.getD 0 0) = false) : fst1 (x ++ 10 :: b) = fst1 x := by
  have e0 : (x ++ 10 :: b).getD 0 0 = x.getD 0 0 := by cases x with | nil => exact absurd rfl hx | cons y ys => rfl
  unfold fst1
  rw [e0, hn, cnt_same (f := s94) (by decide +kernel), cnt_same (f := s95) (by decide +kernel), cnt_same (f := s82) (by decide +kernel)]
  have e1 : (decide (1 < (x ++ 10 :: b).length) && fnd (strOf ((x ++ 10 :: b).take 2)) signs2) = (decide (1 < x.length) && fnd (strOf (x.take 2)) signs2) := by
    match x, hx with
    | [c], _ =>
      rw [show ([c] ++ 10 :: b).take 2 = [c, 10] from rfl, sign_nl]
      simp
    | c :: c' :: x', _ => simp
  rw [e1, if_neg (show ¬ (false = true) from by decide), if_neg (show ¬ (false = true) from by decide)]
theorem fst1_blank (x b : List Int) (hx : x ≠ []) (hn : tot s93 (x.getD 0 0) = true) : fst1 (x ++ b) = (0, cnt s93 (x ++ b)) := by
  have e0 : (x ++ b).getD 0 0 = x.getD 0 0 := by cases x with | nil => exact absurd rfl hx | cons y ys => rfl
  unfold fst1
  rw [e0, hn, if_pos rfl]
section
variable {P : S51 → Bool} (hP : ∀ p q, P ⟨0, p, q⟩ = false)
include hP
theorem cat1 (a b : List Int) : ∀ (m M M' i : Nat), i ≤ a.length → a.length - i ≤ m → a.length + 1 + b.length - i ≤ M → 1 + b.length ≤ M' →
    (allT (a ++ 10 :: b) M i).filter P = (allT a m i).filter P ++ (allT (a ++ 10 :: b) M' a.length).filter P := by
  have hc : (a ++ 10 :: b).length = a.length + 1 + b.length := by simp; omega
  intro m
  induction m with
  | zero =>
    intro M M' i h1 h2 h3 h4
    have : i = a.length := by omega
    subst this
    rw [allT_fuel _ M M' _ (by omega) (by omega)]
    rfl
  | succ m ih =>
    intro M M' i h1 h2 h3 h4
    by_cases hi : i < a.length
    · obtain ⟨M, rfl⟩ : ∃ k, M = k + 1 := ⟨M - 1, by omega⟩
      have e1 : (a ++ 10 :: b).drop i = a.drop i ++ 10 :: b := List.drop_append_of_le_length (by omega)
      have hx : a.drop i ≠ [] := by intro h; have := congrArg List.length h; simp at this; omega
      have hl : (a.drop i).length = a.length - i := List.length_drop
      have hf := fst1_len (a.drop i) (by omega)
      have hf2 := fst1_len ((a ++ 10 :: b).drop i) (by rw [List.length_drop]; omega)
      simp only [allT]
      rw [if_pos (by omega), if_pos hi]
      rw [e1] at hf2 ⊢
      cases hb : tot s93 ((a.drop i).getD 0 0) with
      | false =>
        rw [fst1_app _ _ hx hb, List.filter_cons, List.filter_cons, ih M M' _ (by omega) (by omega) (by omega) h4]
        split <;> rfl
      | true =>
        have h5 := fst1_blank (a.drop i) (10 :: b) hx hb
        have h6 := fst1_blank (a.drop i) [] hx hb
        rw [List.append_nil] at h6
        rw [h5, h6]
        rw [h6] at hf
        rw [h5] at hf2
        simp only at hf hf2 ⊢
        rw [List.filter_cons, List.filter_cons, if_neg (by rw [hP]; decide), if_neg (by rw [hP]; decide)]
        by_cases hn : cnt s93 (a.drop i) = (a.drop i).length
        · rw [cnt_app, if_pos hn, hn, hl]
          have e2 : i + (a.length - i) = a.length := by omega
          rw [e2]
          have e3 : allT a m a.length = [] := by
            cases m with
            | zero => rfl
            | succ m => simp only [allT]; rw [if_neg (by omega)]
          rw [e3, List.filter_nil, List.nil_append]
          obtain ⟨M', rfl⟩ : ∃ k, M' = k + 1 := ⟨M' - 1, by omega⟩
          simp only [allT]
          have e4 : (a ++ 10 :: b).drop a.length = 10 :: b := by simp
          rw [if_pos (by omega), e4]
          have h7 := fst1_blank [10] b (by simp) (by decide +kernel)
          rw [show ([10] : List Int) ++ b = 10 :: b from rfl] at h7
          rw [h7]
          simp only
          rw [List.filter_cons, if_neg (by rw [hP]; decide)]
          rw [← Nat.add_assoc, e2]
          have h8 := cnt_nl1 b
          rw [allT_fuel _ M M' _ (by omega) (by omega)]
        · have h9 := cnt_app s93 (a.drop i) (10 :: b)
          rw [if_neg hn] at h9
          rw [h9]
          have h10 := cnt_le s93 (a.drop i)
          have h11 : 1 ≤ cnt s93 (a.drop i) := by
            have h12 := fst1_len (a.drop i) (by omega)
            rw [h6] at h12
            exact h12.1
          rw [ih M M' _ (by omega) (by omega) (by omega) h4]
    · have : i = a.length := by omega
      subst this
      have e3 : allT a (m + 1) a.length = [] := by simp only [allT]; rw [if_neg (by omega)]
      rw [e3, allT_fuel _ M M' _ (by omega) (by omega)]
      rfl
theorem cat2 (b : List Int) : (toks (10 :: b)).filter P = ((toks b).map (shT 1)).filter P := by
  unfold toks
  have h7 := fst1_blank [10] b (by simp) (by decide +kernel)
  rw [show ([10] : List Int) ++ b = 10 :: b from rfl] at h7
  rw [show (10 :: b).length = b.length + 1 from rfl]
  simp only [allT]
  rw [if_pos (by simp), List.drop_zero, h7]
  simp only
  rw [List.filter_cons, if_neg (by rw [hP]; decide), cnt_nl1]
  have h1 := allT_pre [10] b b.length (cnt s93 b)
  rw [show ([10] : List Int).length = 1 from rfl, show ([10] : List Int) ++ b = 10 :: b from rfl] at h1
  rw [Nat.zero_add, h1]
  cases b with
  | nil => rfl
  | cons x xs =>
    cases hb : tot s93 x with
    | false =>
      have : cnt s93 (x :: xs) = 0 := by unfold cnt; rw [List.takeWhile_cons, hb]; rfl
      rw [this]
    | true =>
      have h2 := fst1_blank [x] xs (by simp) hb
      rw [show ([x] : List Int) ++ xs = x :: xs from rfl] at h2
      conv => rhs; rw [show (x :: xs).length = xs.length + 1 from rfl]; simp only [allT]
      rw [if_pos (by simp), List.drop_zero, h2]
      simp only
      rw [List.map_cons, List.filter_cons, if_neg (by rw [shT, hP]; decide), Nat.zero_add]
      have h3 := cnt_le s93 (x :: xs)
      have h4 : 1 ≤ cnt s93 (x :: xs) := by unfold cnt; rw [List.takeWhile_cons, hb, if_pos rfl, List.length_cons]; omega
      have h5 : (x :: xs).length = xs.length + 1 := rfl
      rw [allT_fuel (x :: xs) (x :: xs).length xs.length _ (by omega) (by omega)]
theorem cat (a b : List Int) : (toks (a ++ 10 :: b)).filter P = (toks a).filter P ++ ((toks b).map (shT (a.length + 1))).filter P := by
  have hc : (a ++ 10 :: b).length = a.length + 1 + b.length := by simp; omega
  have h1 := cat1 hP a b a.length (a ++ 10 :: b).length (10 :: b).length 0 (by omega) (by omega) (by omega) (by simp; omega)
  unfold toks
  rw [h1]
  have h2 := allT_pre a (10 :: b) (10 :: b).length 0
  rw [Nat.add_zero] at h2
  have h3 := cat2 (P := fun t => P (shT a.length t)) (fun p q => hP _ _) b
  rw [h2, List.filter_map]
  unfold toks at h3
  have h4 : (P ∘ shT a.length) = fun t => P (shT a.length t) := rfl
  have h6 : ∀ L : List S51, (L.filter (fun t => P (shT a.length t))).map (shT a.length) = (L.map (shT a.length)).filter P := by
    intro L
    rw [List.filter_map]
    rfl
  rw [h4, h3, h6, List.map_map]
  have h5 : shT a.length ∘ shT 1 = shT (a.length + 1) := by
    funext t
    simp only [Function.comp, shT, S51.mk.injEq, true_and]
    constructor <;> omega
  rw [h5]
end
theorem live_cat (a b : List Int) : live (toks (a ++ 10 :: b)) = live (toks a) ++ (live (toks b)).map (shT (a.length + 1)) := by
  have := cat (P := fun t => t.c0 != 0 && t.c0 != 1) (fun p q => rfl) a b
  rw [← live_sh]
  exact this
theorem bad_cat (a b : List Int) (ha : bad (toks a) = none) : bad (toks (a ++ 10 :: b)) = (bad (toks b)).map (shT (a.length + 1)) := by
  have := cat (P := fun t => t.c0 == 5) (fun p q => rfl) a b
  rw [← bad_sh]
  unfold bad at ha ⊢
  rw [← List.head?_filter, this]
  rw [← List.head?_filter, List.head?_eq_none_iff] at ha
  rw [ha, List.nil_append, List.head?_filter]
end Go.Proofs.Ytogfofcocidmkaa.Pu
