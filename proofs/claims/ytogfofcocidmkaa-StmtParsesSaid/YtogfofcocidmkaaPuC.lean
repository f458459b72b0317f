/- The plain functions, read: heights, names, signs; what the parser of expressions does, step by step, as a relation. -/
import Derived.Test.YtogfofcocidmkaaPuB
set_option linter.unusedVariables false
set_option linter.unusedSimpArgs false
namespace Go.Proofs.Ytogfofcocidmkaa.Pu
open Go.RowKit Go.Proofs Ev
mutual
def hgt : S27 → Nat
  | ⟨_, _, _, _, _, l⟩ => hgts l + 1
def hgts : List S27 → Nat
  | [] => 0
  | x :: xs => max (hgt x) (hgts xs)
end
mutual
def nds : S27 → Nat
  | ⟨_, _, _, _, _, l⟩ => ndss l + 1
def ndss : List S27 → Nat
  | [] => 0
  | x :: xs => nds x + ndss xs
end
theorem eta27 (x : S27) : (⟨x.c0, x.c1, x.c2, x.c3, x.c4, x.c5⟩ : S27) = x := by cases x; rfl
theorem nds_pos (x : S27) : 1 ≤ nds x := by cases x; simp only [nds]; omega
theorem nds_c5 (x : S27) : nds x = ndss x.c5 + 1 := by cases x; rfl
theorem hgt_c5 (x : S27) : hgt x = hgts x.c5 + 1 := by cases x; rfl
theorem ndss_len : ∀ l : List S27, l.length ≤ ndss l
  | [] => by simp [ndss]
  | x :: xs => by have := ndss_len xs; have := nds_pos x; simp only [ndss, List.length_cons]; omega
theorem ndss_mem : ∀ (l : List S27) (x : S27), x ∈ l → nds x ≤ ndss l
  | y :: ys, x, h => by
    simp only [ndss]
    cases h with
    | head => omega
    | tail _ h => have := ndss_mem ys x h; omega
theorem ndss_app : ∀ l m : List S27, ndss (l ++ m) = ndss l + ndss m
  | [], m => by simp [ndss]
  | x :: xs, m => by simp only [List.cons_append, ndss, ndss_app xs m]; omega
theorem hgt_nds (n : Nat) : ∀ x : S27, nds x ≤ n → hgt x ≤ nds x := by
  induction n with
  | zero => intro x h; have := nds_pos x; omega
  | succ n ih =>
    intro x h
    have hl : ∀ l : List S27, ndss l ≤ n → hgts l ≤ ndss l := by
      intro l
      induction l with
      | nil => intro _; simp [hgts]
      | cons y ys ih2 =>
        intro h
        simp only [ndss] at h
        have := ih y (by omega)
        have := ih2 (by omega)
        simp only [hgts, ndss]
        omega
    rw [hgt_c5, nds_c5]
    rw [nds_c5] at h
    have := hl x.c5 (by omega)
    omega
theorem lp17 {f : S27 → Option Int} {l : List S27} (hl : l.length ≤ 100000) (hf : ∀ x ∈ l, f x = some (hgt x : Int)) : ∀ (n i v : Nat), i ≤ l.length → l.length - i < n →
    lp17_3 f n (l.length : Int) l (v : Int) (i : Int) = some (((max v (hgts (l.drop i)) : Nat) : Int), (l.length : Int)) := by
  intro n
  induction n with
  | zero => intro i v h1 h2; omega
  | succ n ih =>
    intro i v h1 h2
    unfold lp17_3 lb17_3
    dsimp only
    by_cases hi : i < l.length
    · have e1 : l.getD (i : Int).toNat z27 = l[i] := by simp [List.getD_eq_getElem?_getD, hi]
      have e2 : w64 ((i : Int) + 1) = ((i + 1 : Nat) : Int) := by rw [w64_id (by omega) (by omega)]; rfl
      rw [cond_t _ _ (dec_t (by omega)), when_t _ (by simp; omega), e1, e2, eta27, hf _ (List.getElem_mem hi), Option.bind_some, List.drop_eq_getElem_cons hi]
      have e3 : (if (hgt l[i] : Int) > (v : Int) then (hgt l[i] : Int) else (v : Int)) = ((max v (hgt l[i]) : Nat) : Int) := by
        split <;> omega
      rw [e3, ih (i + 1) _ (by omega) (by omega)]
      simp only [hgts]
      congr 3
      omega
    · rw [cond_f _ _ (dec_f (by omega))]
      have : i = l.length := by omega
      subst this
      simp [hgts]
theorem g17_ok : ∀ (n : Nat) (e : S27), nds e ≤ n → nds e ≤ 100000 → (g17 n).f17 e = some (hgt e : Int) := by
  intro n
  induction n with
  | zero => intro e h; have := nds_pos e; omega
  | succ n ih =>
    intro e h hs
    show b17 (g17 n).f17 (lp17_3 (g17 n).f17 big) e some = _
    unfold b17
    have h1 := nds_c5 e
    have h2 := ndss_len e.c5
    have := lp17 (f := (g17 n).f17) (l := e.c5) (by omega) (fun x hx => ih x (by have := ndss_mem _ _ hx; omega) (by have := ndss_mem _ _ hx; omega)) big 0 0 (by omega) (big_lt (by omega))
    rw [show ((0 : Nat) : Int) = 0 from rfl] at this
    rw [this, Option.bind_some, List.drop_zero, hgt_c5]
    have h3 := hgt_nds _ e (Nat.le_refl _)
    rw [hgt_c5] at h3
    dsimp only
    rw [w64_id (by omega) (by omega)]
    congr 1
theorem t17 (e : S27) (h : nds e ≤ 100000) : s17 e = some (hgt e : Int) := g17_ok big e (by have := big_lt (n := 100000) (by omega); omega) h
/-- An expression, unless it is too high. -/
def heldR (e : S27) (told j : Nat) : S27 × Int × Nat := if 32 < hgt e then (z27, 12, told) else (e, 0, j)
theorem t85 (e : S27) (told : Nat) (c : S98) (h : nds e ≤ 100000) : s85 e told c = some (if 32 < hgt e then (z27, 12, ⟨c.c0, c.c1, (told : Int), c.c3⟩) else (e, 0, c)) := by
  unfold s85 b85
  rw [eta27, t17 e h, Option.bind_some]
  by_cases hh : 32 < hgt e
  · rw [dec_t (by omega), cond_true, if_pos hh]; rfl
  · rw [dec_f (by omega), cond_false, if_neg hh]
def lev (x : ByteArray) : Int := (s84 x).getD 0
theorem csome {α : Type} {o : Option α} (d : α) (h : o.isSome = true) : o = some (o.getD d) := by cases o with | none => cases h | some x => rfl
theorem t84 (x : ByteArray) : s84 x = some (lev x) := csome 0 (by
  unfold s84 b84
  repeat (first | rfl | (refine cs _ _ _ ?_ ?_)))
theorem t78 (x : ByteArray) : s78 x = some ((s78 x).getD false) := csome false (by
  unfold s78 b78
  repeat (first | rfl | (refine cs _ _ _ ?_ ?_)))
def idn (x : ByteArray) : Bool := (s59 x).getD false
theorem bytesOf_len (x : ByteArray) : (bytesOf x).length = x.size := by
  show (List.map _ x.data.toList).length = x.data.size
  rw [List.length_map, Array.length_toList]
theorem eqs_nil {x : ByteArray} (h : eqs x ⟨#[]⟩ = false) : 0 < x.size := by
  apply Classical.byContradiction
  intro hn
  have : x = ⟨#[]⟩ := by
    obtain ⟨x⟩ := x
    have h0 : x.size = 0 := by have : ¬ 0 < x.size := hn; omega
    rw [Array.eq_empty_of_size_eq_zero h0]
  rw [(eqs_iff _ _).2 this] at h
  cases h
theorem t59 (x : ByteArray) : s59 x = some (idn x) := csome false (by
  unfold s59 b59
  cases h0 : eqs x ⟨#[]⟩ with
  | true => unfold eqs at h0; rw [h0]; rfl
  | false =>
  have hx0 := eqs_nil h0
  unfold eqs at h0
  rw [h0, cond_false]
  cases h : decide ((x.size : Int) > 24) with
  | true => rfl
  | false =>
    have hx : x.size ≤ 24 := by have := of_decide_eq_false h; omega
    rw [cond_false, t78, Option.bind_some]
    refine cs _ _ _ rfl ?_
    rw [when_t _ (by simp; omega), t79, Option.bind_some]
    refine cs _ _ _ rfl ?_
    rw [r81 _ (by rw [bytesOf_len]; omega), Option.bind_some]
    rfl)
end Go.Proofs.Ytogfofcocidmkaa.Pu
