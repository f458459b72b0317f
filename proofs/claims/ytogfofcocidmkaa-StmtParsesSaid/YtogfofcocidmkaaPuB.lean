/- The plain functions, read: a text's tokens, and a cursor's place among them. -/
import Derived.Test.YtogfofcocidmkaaPuA
set_option linter.unusedVariables false
set_option linter.unusedSimpArgs false
namespace Go.Proofs.Ytogfofcocidmkaa.Pu
open Go.RowKit Go.Proofs Ev
/-- The tokens from a place on. -/
def allT (b : List Int) : Nat → Nat → List S51
  | 0, _ => []
  | n + 1, i => if i < b.length then ⟨(fst1 (b.drop i)).1, (i : Int), ((i + (fst1 (b.drop i)).2 : Nat) : Int)⟩ :: allT b n (i + (fst1 (b.drop i)).2) else []
theorem lp50 (b : List Int) (hb : b.length ≤ 100000) : ∀ (n i m : Nat) (acc : List S51), i ≤ b.length → b.length - i < n → b.length - i ≤ m → acc.length ≤ i →
    lp50_3 s76 n b (i : Int) acc = some ((b.length : Int), acc ++ allT b m i) := by
  intro n
  induction n with
  | zero => intro i m acc h1 h2 h3 h4; omega
  | succ n ih =>
    intro i m acc h1 h2 h3 h4
    unfold lp50_3 lb50_3
    dsimp only
    by_cases hi : i < b.length
    · obtain ⟨k1, k2⟩ := fst1_len (b.drop i) (by rw [List.length_drop]; omega)
      rw [List.length_drop] at k2
      have e0 : (List.take (b.length : Int).toNat b).drop (i : Int).toNat = b.drop i := by simp
      rw [cond_t _ _ (dec_t (by omega)), when_t _ (by simp; omega), e0, t76 _ (by rw [List.length_drop]; omega) (by rw [List.length_drop]; omega), Option.bind_some]
      have e1 : w64 ((i : Int) + ((fst1 (b.drop i)).2 : Int)) = ((i + (fst1 (b.drop i)).2 : Nat) : Int) := by
        rw [w64_id (by omega) (by omega)]; omega
      rw [when_t _ (dec_t (by simp; omega))]
      simp only [e1]
      obtain ⟨m, rfl⟩ : ∃ m', m = m' + 1 := ⟨m - 1, by omega⟩
      rw [ih _ m _ (by omega) (by omega) (by omega) (by simp; omega)]
      simp only [allT, if_pos hi, List.append_assoc, List.singleton_append]
    · rw [cond_f _ _ (dec_f (by omega))]
      have : i = b.length := by omega
      subst this
      have : allT b m b.length = [] := by cases m <;> simp [allT]
      rw [this, List.append_nil]
def toks (b : List Int) : List S51 := allT b b.length 0
theorem t50 (b : List Int) (hb : b.length ≤ 100000) : s50 b = some (toks b) := by
  unfold s50 b50
  have e := lp50 b hb big 0 b.length [] (by omega) (big_lt (by omega)) (by omega) (by simp)
  rw [show ((0 : Nat) : Int) = 0 from rfl] at e
  rw [e]
  rfl
/-- Tokens, one behind the other. -/
inductive Chain : Nat → List S51 → Nat → Prop where
  | nil (a : Nat) : Chain a [] a
  | cons {a e z : Nat} {k : Int} {l : List S51} (h : a < e) (hl : Chain e l z) : Chain a (⟨k, (a : Int), (e : Int)⟩ :: l) z
theorem allT_chain (b : List Int) : ∀ (m i : Nat), i ≤ b.length → b.length - i ≤ m → Chain i (allT b m i) b.length := by
  intro m
  induction m with
  | zero => intro i h1 h2; have : i = b.length := by omega
            subst this; exact .nil _
  | succ m ih =>
    intro i h1 h2
    simp only [allT]
    by_cases hi : i < b.length
    · rw [if_pos hi]
      obtain ⟨k1, k2⟩ := fst1_len (b.drop i) (by rw [List.length_drop]; omega)
      rw [List.length_drop] at k2
      exact .cons (by omega) (ih _ (by omega) (by omega))
    · rw [if_neg hi]
      have : i = b.length := by omega
      subst this; exact .nil _
theorem toks_chain (b : List Int) : Chain 0 (toks b) b.length := allT_chain b b.length 0 (by omega) (by omega)
theorem Chain.le {a z : Nat} {l : List S51} (h : Chain a l z) : a + l.length ≤ z := by
  induction h with
  | nil a => simp
  | cons h hl ih => simp only [List.length_cons]; omega
/-- The tokens that count. -/
def live (l : List S51) : List S51 := l.filter fun t => t.c0 != 0 && t.c0 != 1
theorem live_f {x : S51} {r : List S51} (h : (x.c0 != 0 && x.c0 != 1) = false) : live (x :: r) = live r := by
  unfold live; rw [List.filter_cons, if_neg (by rw [h]; exact Bool.false_ne_true)]
theorem live_t {x : S51} {r : List S51} (h : (x.c0 != 0 && x.c0 != 1) = true) : live (x :: r) = x :: live r := by
  unfold live; rw [List.filter_cons, if_pos h]
theorem lp57 (l : List S51) (hl : l.length ≤ 100000) : ∀ (n i : Nat) (acc : List S51), i ≤ l.length → l.length - i < n → acc.length ≤ i →
    lp57_3 n (l.length : Int) l (i : Int) acc = some ((l.length : Int), acc ++ live (l.drop i)) := by
  intro n
  induction n with
  | zero => intro i acc h1 h2 h3; omega
  | succ n ih =>
    intro i acc h1 h2 h3
    unfold lp57_3 lb57_3
    dsimp only
    by_cases hi : i < l.length
    · have e1 : l.getD (i : Int).toNat z51 = l[i] := by simp [List.getD_eq_getElem?_getD, hi]
      have e2 : w64 ((i : Int) + 1) = ((i + 1 : Nat) : Int) := by rw [w64_id (by omega) (by omega)]; rfl
      rw [cond_t _ _ (dec_t (by omega)), when_t _ (by simp; omega), e1, e2, List.drop_eq_getElem_cons hi]
      cases h0 : (l[i].c0 != 0) with
      | false =>
        rw [cond_false, ih _ _ (by omega) (by omega) (by omega)]
        rw [live_f (by rw [h0]; rfl)]
      | true =>
        rw [cond_true]
        cases h1 : (l[i].c0 != 1) with
        | false =>
          rw [cond_false, ih _ _ (by omega) (by omega) (by omega)]
          rw [live_f (by rw [h0, h1]; rfl)]
        | true =>
          rw [cond_true, when_t _ (dec_t (by simp; omega)), ih _ _ (by omega) (by omega) (by simp; omega)]
          rw [live_t (by rw [h0, h1]; rfl), List.append_assoc]
          rfl
    · rw [cond_f _ _ (dec_f (by omega))]
      have : i = l.length := by omega
      subst this
      simp [live]
theorem t57 (l : List S51) (hl : l.length ≤ 100000) : s57 l = some (live l) := by
  unfold s57 b57
  have e := lp57 l hl big 0 [] (by omega) (big_lt (by omega)) (by simp)
  rw [show ((0 : Nat) : Int) = 0 from rfl] at e
  rw [e]
  rfl
/-- Tokens in order, apart, within a text. -/
inductive Sorted (z : Nat) : Nat → List S51 → Prop where
  | nil (a : Nat) : Sorted z a []
  | cons {a s e : Nat} {k : Int} {l : List S51} (h0 : a ≤ s) (h : s < e) (hz : e ≤ z) (hl : Sorted z e l) : Sorted z a (⟨k, (s : Int), (e : Int)⟩ :: l)
theorem Sorted.weak {z a a' : Nat} {l : List S51} (h : Sorted z a l) (ha : a' ≤ a) : Sorted z a' l := by
  cases h with
  | nil => exact .nil _
  | cons h0 h hz hl => exact .cons (by omega) h hz hl
theorem Chain.sorted {a z : Nat} {l : List S51} (h : Chain a l z) : Sorted z a (live l) := by
  induction h with
  | nil a => exact .nil _
  | @cons a e z k l h hl ih =>
    have := hl.le
    unfold live
    rw [List.filter_cons]
    split
    · exact .cons (Nat.le_refl _) h (by omega) ih
    · exact ih.weak (by omega)
theorem live_length (l : List S51) : (live l).length ≤ l.length := List.length_filter_le _ _
/-- The cursor's text and tokens. -/
structure Good (b : List Int) (l : List S51) : Prop where
  len : b.length ≤ 100000
  srt : Sorted b.length 0 l
theorem Sorted.length {z a : Nat} {l : List S51} (h : Sorted z a l) (ha : a ≤ z) : a + l.length ≤ z := by
  induction h with
  | nil a => simpa using ha
  | cons h0 h hz hl ih => simp only [List.length_cons]; have := ih hz; omega
theorem Good.llen {b : List Int} {l : List S51} (g : Good b l) : l.length ≤ b.length := by
  have := g.srt.length (by omega)
  omega
theorem good (b : List Int) (hb : b.length ≤ 100000) : Good b (live (toks b)) := ⟨hb, (toks_chain b).sorted⟩
theorem t22 (b : List Int) (hb : b.length ≤ 100000) : s22 b = some ⟨b, live (toks b), 0, 0⟩ := by
  unfold s22 b22
  have h56 : s56 b = some b := by
    unfold s56
    rw [when_t _ (dec_t (by simp; omega))]
  have hl : (toks b).length ≤ 100000 := by have := (toks_chain b).le; omega
  rw [h56, Option.bind_some, t50 b hb, Option.bind_some, t57 _ hl]
  rfl
/-- The i-th token's text, place, kind. -/
def tx (b : List Int) (l : List S51) (i : Nat) : ByteArray := if i < l.length then strOf ((b.take (l.getD i z51).c2.toNat).drop (l.getD i z51).c1.toNat) else ⟨#[]⟩
def ps (b : List Int) (l : List S51) (i : Nat) : Int := if i < l.length then (l.getD i z51).c1 else (b.length : Int)
def kd (b : List Int) (l : List S51) (i : Nat) : Int := if i < l.length then (l.getD i z51).c0 else 0
def en (l : List S51) (i : Nat) : Int := (l.getD i z51).c2
theorem Sorted.get {z a : Nat} {l : List S51} (h : Sorted z a l) : ∀ i, i < l.length → ∃ s e : Nat, (l.getD i z51).c1 = s ∧ (l.getD i z51).c2 = e ∧ a ≤ s ∧ s < e ∧ e ≤ z := by
  induction h with
  | nil a => intro i hi; simp at hi
  | @cons a s e k l h0 h hz hl ih =>
    intro i hi
    cases i with
    | zero => exact ⟨s, e, rfl, rfl, h0, h, hz⟩
    | succ i =>
      obtain ⟨s', e', h1, h2, h3, h4, h5⟩ := ih i (by simpa using hi)
      exact ⟨s', e', by simpa using h1, by simpa using h2, by omega, h4, h5⟩
theorem Sorted.mono {z a : Nat} {l : List S51} (h : Sorted z a l) : ∀ i j, i < j → j < l.length → (l.getD i z51).c2 ≤ (l.getD j z51).c1 := by
  induction h with
  | nil a => intro i j h1 h2; simp at h2
  | @cons a s e k l h0 h hz hl ih =>
    intro i j h1 h2
    cases j with
    | zero => omega
    | succ j =>
      cases i with
      | zero =>
        obtain ⟨s', e', k1, k2, k3, k4, k5⟩ := hl.get j (by simpa using h2)
        simp only [List.getD_cons_zero, List.getD_cons_succ, k1]
        omega
      | succ i => simpa using ih i j (by omega) (by simpa using h2)
section
variable {b : List Int} {l : List S51}
theorem Good.ps_lt (g : Good b l) {i j : Nat} (h : i < j) (hi : i < l.length) (hj : j ≤ l.length) : ps b l i < ps b l j := by
  obtain ⟨s, e, h1, h2, h3, h4, h5⟩ := g.srt.get i hi
  unfold ps
  rw [if_pos hi]
  by_cases hj' : j < l.length
  · rw [if_pos hj']
    have := g.srt.mono i j h hj'
    omega
  · rw [if_neg hj']; omega
theorem Good.ps_nn (g : Good b l) (i : Nat) : 0 ≤ ps b l i := by
  unfold ps
  by_cases hi : i < l.length
  · rw [if_pos hi]; obtain ⟨s, e, h1, h2, h3, h4, h5⟩ := g.srt.get i hi; omega
  · rw [if_neg hi]; omega
theorem Good.ps_len (g : Good b l) {i : Nat} (hi : i < l.length) : ps b l i < b.length := by
  unfold ps
  rw [if_pos hi]; obtain ⟨s, e, h1, h2, h3, h4, h5⟩ := g.srt.get i hi; omega
theorem t29 (i : Nat) (d : Int) : s29 ⟨b, l, (i : Int), d⟩ = some (decide (l.length ≤ i)) := by
  unfold s29 b29
  show some (decide ((i : Int) ≥ (l.length : Int))) = _
  by_cases h : l.length ≤ i
  · rw [dec_t h, dec_t (by omega)]
  · rw [dec_f h, dec_f (by omega)]
theorem t26 (i : Nat) (d : Int) : s26 ⟨b, l, (i : Int), d⟩ = some (ps b l i) := by
  unfold s26 b26
  rw [t29, Option.bind_some]
  unfold ps
  by_cases h : i < l.length
  · rw [dec_f (by omega), cond_false, if_pos h, when_t _ (by simp; omega)]
    simp
  · rw [dec_t (by omega), cond_true, if_neg h]
theorem t25 (g : Good b l) (i : Nat) (d : Int) : s25 ⟨b, l, (i : Int), d⟩ = some (tx b l i) := by
  unfold s25 b25
  rw [t29, Option.bind_some]
  unfold tx
  by_cases h : i < l.length
  · rw [dec_f (by omega), cond_false, if_pos h, when_t _ (by simp; omega)]
    obtain ⟨s, e, h1, h2, h3, h4, h5⟩ := g.srt.get i h
    show (s58 b (l.getD (i : Int).toNat z51)).bind some = _
    unfold s58 b58
    simp only [Int.toNat_natCast, h1, h2]
    rw [cond_f _ _ (dec_f (by omega)), cond_f _ _ (dec_f (by omega)), cond_f _ _ (dec_f (by omega)), when_t _ (by simp; omega)]
    simp
  · rw [dec_t (by omega), cond_true, if_neg h]
theorem t28 (i : Nat) (d : Int) : s28 ⟨b, l, (i : Int), d⟩ = some (kd b l i) := by
  unfold s28 b28
  rw [t29, Option.bind_some]
  unfold kd
  by_cases h : i < l.length
  · rw [dec_f (by omega), cond_false, if_pos h, when_t _ (by simp; omega)]
    simp
  · rw [dec_t (by omega), cond_true, if_neg h]
theorem tx_end {i : Nat} (h : ¬ i < l.length) : tx b l i = ⟨#[]⟩ := if_neg h
def eqs (x y : ByteArray) : Bool := x.toList == y.toList
theorem tl_eq (s : ByteArray) : s.toList = s.data.toList := ByteArray.toList_eq s
theorem eqs_iff (x y : ByteArray) : eqs x y = true ↔ x = y := by
  unfold eqs
  rw [tl_eq, tl_eq, beq_iff_eq]
  constructor
  · intro h
    obtain ⟨⟨x⟩⟩ := x
    obtain ⟨⟨y⟩⟩ := y
    simp only at h
    rw [h]
  · intro h; rw [h]
end
end Go.Proofs.Ytogfofcocidmkaa.Pu
