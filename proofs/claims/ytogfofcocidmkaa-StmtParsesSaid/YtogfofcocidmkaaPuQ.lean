/- The plain functions, read: the reference's helpers. -/
import Derived.Test.YtogfofcocidmkaaPuP
set_option linter.unusedVariables false
set_option linter.unusedSimpArgs false
namespace Go.Proofs.Ytogfofcocidmkaa.Pu
open Go.RowKit Go.Proofs Ev
theorem lp18 {f : S27 → Option Int} {e : S27} (hl : e.c5.length ≤ 100000) (hf : ∀ x ∈ e.c5, f x = some (hgt x : Int)) : ∀ (n i v : Nat), i ≤ e.c5.length → e.c5.length - i < n →
    lp18_3 f n e (v : Int) (i : Int) = some (((max v (hgts (e.c5.drop i)) : Nat) : Int), (e.c5.length : Int)) := by
  intro n
  induction n with
  | zero => intro i v h1 h2; omega
  | succ n ih =>
    intro i v h1 h2
    unfold lp18_3 lb18_3
    dsimp only
    by_cases hi : i < e.c5.length
    · have e1 : e.c5.getD (i : Int).toNat z27 = e.c5[i] := by simp [List.getD_eq_getElem?_getD, hi]
      rw [cond_t _ _ (dec_t (by omega)), when_t _ (by simp; omega), e1, wn i (by omega), eta27, hf _ (List.getElem_mem hi), Option.bind_some, List.drop_eq_getElem_cons hi]
      have e3 : (if (hgt e.c5[i] : Int) > (v : Int) then (hgt e.c5[i] : Int) else (v : Int)) = ((max v (hgt e.c5[i]) : Nat) : Int) := by
        split <;> omega
      rw [e3, ih (i + 1) _ (by omega) (by omega)]
      simp only [hgts]
      congr 3
      omega
    · rw [cond_f _ _ (dec_f (by omega))]
      have : i = e.c5.length := by omega
      subst this
      simp [hgts]
theorem g18_ok : ∀ (n : Nat) (e : S27), nds e ≤ n → nds e ≤ 100000 → (g18 n).f18 e = some (hgt e : Int) := by
  intro n
  induction n with
  | zero => intro e h; have := nds_pos e; omega
  | succ n ih =>
    intro e h hs
    show b18 (g18 n).f18 (lp18_3 (g18 n).f18 big) e some = _
    unfold b18
    have h1 := nds_c5 e
    have h2 := ndss_len e.c5
    have := lp18 (f := (g18 n).f18) (e := e) (by omega) (fun x hx => ih x (by have := ndss_mem _ _ hx; omega) (by have := ndss_mem _ _ hx; omega)) big 0 0 (by omega) (big_lt (by omega))
    rw [show ((0 : Nat) : Int) = 0 from rfl] at this
    rw [eta27, this, Option.bind_some, List.drop_zero, hgt_c5]
    have h3 := hgt_nds _ e (Nat.le_refl _)
    rw [hgt_c5] at h3
    dsimp only
    rw [w64_id (by omega) (by omega)]
    congr 1
theorem t18 (e : S27) (h : nds e ≤ 100000) : s18 e = some (hgt e : Int) := g18_ok big e (by have : nds e < big := big_lt (by omega); omega) h
/-- The reference's answer. -/
def gt (r : S27 × Int × Nat) : S58 := ⟨r.1.c0, r.1.c1, r.1.c2, r.1.c3, r.1.c4, r.1.c5, (r.2.2 : Int), r.2.1⟩
theorem t66 (e : S27) (j told : Nat) (h : nds e ≤ 100000) : s66 e (j : Int) (told : Int) = some (gt (heldR e told j)) := by
  unfold s66 b66
  rw [eta27, t18 e h, Option.bind_some]
  unfold heldR
  by_cases hh : 32 < hgt e
  · rw [dec_t (by omega), cond_true, if_pos hh]; rfl
  · rw [dec_f (by omega), cond_false, if_neg hh]; rfl
section
variable {b : List Int} {l : List S51}
theorem t100 (i : Nat) : s100 (row b l) (i : Int) = some (kd b l i == 3) := by
  unfold s100 b100 kd
  show cond (decide ((i : Int) < (l.length : Int))) (when_ (decide (0 ≤ (i : Int)) && decide ((i : Int) < (l.length : Int))) (some ((l.getD (i : Int).toNat z51).c0 == 3))) (some false) = _
  by_cases h : i < l.length
  · rw [cond_t _ _ (dec_t (by omega)), when_t _ (by simp; omega), if_pos h]
    simp
  · rw [cond_f _ _ (dec_f (by omega)), if_neg h]
    rfl
/-- A sign's level, once more. -/
def sgn (x : ByteArray) (lv : Int) : Bool :=
  if lv = 1 then eqs x ⟨#[124, 124]⟩ else if lv = 2 then eqs x ⟨#[38, 38]⟩ else if lv = 3 then eqs x ⟨#[61, 61]⟩ || eqs x ⟨#[60]⟩ else if lv = 4 then eqs x ⟨#[43]⟩ || eqs x ⟨#[45]⟩ else eqs x ⟨#[42]⟩
theorem lev_sgn (x : ByteArray) : ∀ lv : Nat, 1 ≤ lv → lv ≤ 5 → sgn x lv = (lev x == (lv : Int)) := by
  have key : (List.range 6).all (fun lv => lv == 0 || (sgn x lv == (lev x == (lv : Int)))) = true := by
    by_cases h1 : eqs x ⟨#[124, 124]⟩ = true
    · rw [(eqs_iff _ _).1 h1]; decide +kernel
    · by_cases h2 : eqs x ⟨#[38, 38]⟩ = true
      · rw [(eqs_iff _ _).1 h2]; decide +kernel
      · by_cases h3 : eqs x ⟨#[61, 61]⟩ = true
        · rw [(eqs_iff _ _).1 h3]; decide +kernel
        · by_cases h4 : eqs x ⟨#[60]⟩ = true
          · rw [(eqs_iff _ _).1 h4]; decide +kernel
          · by_cases h5 : eqs x ⟨#[43]⟩ = true
            · rw [(eqs_iff _ _).1 h5]; decide +kernel
            · by_cases h6 : eqs x ⟨#[45]⟩ = true
              · rw [(eqs_iff _ _).1 h6]; decide +kernel
              · by_cases h7 : eqs x ⟨#[42]⟩ = true
                · rw [(eqs_iff _ _).1 h7]; decide +kernel
                · simp only [Bool.not_eq_true] at h1 h2 h3 h4 h5 h6 h7
                  have hl : lev x = 0 := by
                    unfold eqs at h1 h2 h3 h4 h5 h6 h7
                    unfold lev s84 b84
                    simp only [h1, h2, h3, h4, h5, h6, h7, cond_false]
                    rfl
                  have hs : ∀ n : Int, sgn x n = false := by
                    intro n
                    unfold sgn
                    rw [h1, h2, h3, h4, h5, h6, h7]
                    simp
                  rw [List.all_eq_true]
                  intro n _
                  rw [hs, hl]
                  cases n with
                  | zero => rfl
                  | succ n => simp; omega
  intro lv h1 h5
  have := List.all_eq_true.1 key lv (List.mem_range.2 (by omega))
  simp only [Bool.or_eq_true, beq_iff_eq] at this
  rcases this with h | h
  · omega
  · exact h
theorem t65 (g : Good b l) (i lv : Nat) (h1 : 1 ≤ lv) (h5 : lv ≤ 5) : s65 (row b l) (i : Int) (lv : Int) = some (lev (tx b l i) == (lv : Int)) := by
  rw [← lev_sgn _ lv h1 h5]
  unfold s65 b65 sgn
  rw [t24 g, Option.bind_some]
  have : lv = 1 ∨ lv = 2 ∨ lv = 3 ∨ lv = 4 ∨ lv = 5 := by omega
  rcases this with rfl | rfl | rfl | rfl | rfl
  · rfl
  · rfl
  · show cond (eqs (tx b l i) ⟨#[61, 61]⟩) (some true) (some (eqs (tx b l i) ⟨#[60]⟩)) = some (eqs (tx b l i) ⟨#[61, 61]⟩ || eqs (tx b l i) ⟨#[60]⟩)
    cases eqs (tx b l i) ⟨#[61, 61]⟩ <;> rfl
  · show cond (eqs (tx b l i) ⟨#[43]⟩) (some true) (some (eqs (tx b l i) ⟨#[45]⟩)) = some (eqs (tx b l i) ⟨#[43]⟩ || eqs (tx b l i) ⟨#[45]⟩)
    cases eqs (tx b l i) ⟨#[43]⟩ <;> rfl
  · rfl
theorem Bs.err {nt : NT} {i d : Nat} {r : S27 × Int × Nat} (h : Bs b l nt i d r) : r.2.1 = 0 ∨ 1 ≤ r.2.1 := by
  have hh : ∀ e told j, (heldR e told j).2.1 = 0 ∨ 1 ≤ (heldR e told j).2.1 := by
    intro e told j
    unfold heldR
    split
    · exact .inr (by simp)
    · exact .inl rfl
  induction h with
  | sig h1 hd h ih => exact hh _ _ _
  | opn ht h hd h2 h3 h4 h5 h6 ih => exact hh _ _ _
  | nam h hx h2 hd h3 ih => exact hh _ _ _
  | _ => first | assumption | exact .inl rfl | exact .inr (by simp)
end
end Go.Proofs.Ytogfofcocidmkaa.Pu
