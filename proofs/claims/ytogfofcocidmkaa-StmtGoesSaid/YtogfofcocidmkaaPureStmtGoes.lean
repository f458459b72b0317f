/- StmtGoes: its plain function says true of all bytes and all numbers. No condition. -/
import Derived.Test.YtogfofcocidmkaaPuX
import Derived.KernelRfl
set_option linter.unusedVariables false
set_option linter.unusedSimpArgs false
namespace Go.Proofs.Ytogfofcocidmkaa.stmtGoes
open Go.RowKit Go.Proofs Ev Pu
theorem k23 (p0 : Int) (m : Nat) (h0 : 1 ≤ m) (hm : m ≤ 1000000) : ∃ k : Nat, k < m ∧ s23 p0 (m : Int) = some (k : Int) := by
  unfold s23 b23
  have h1 := Int.tmod_lt_of_pos p0 (show (0 : Int) < (m : Int) by omega)
  have h2 := Int.lt_tmod_of_pos p0 (show (0 : Int) < (m : Int) by omega)
  rw [cond_f _ _ (dec_f (by omega)), when_t _ (by simp; omega)]
  by_cases h : p0.tmod (m : Int) < 0
  · rw [cond_t _ _ (dec_t h), w64_id (by omega) (by omega)]
    refine ⟨(p0.tmod (m : Int) + (m : Int)).toNat, by omega, ?_⟩
    rw [Int.toNat_of_nonneg (by omega)]
  · rw [cond_f _ _ (dec_f h)]
    refine ⟨(p0.tmod (m : Int)).toNat, by omega, ?_⟩
    rw [Int.toNat_of_nonneg (by omega)]
section
variable {b : List Int} {l : List S51}
theorem tx_ne (g : Pu.Good b l) {i : Nat} (hi : i < l.length) : eqs (tx b l i) ⟨#[]⟩ = false := by
  obtain ⟨s, e, h1, h2, h3, h4, h5⟩ := g.srt.get i hi
  cases h : eqs (tx b l i) ⟨#[]⟩ with
  | false => rfl
  | true =>
    exfalso
    have h6 := (eqs_iff _ _).1 h
    have h7 : (tx b l i).size = 0 := by rw [h6]; rfl
    unfold tx at h7
    rw [if_pos hi, strOf_size, h1, h2] at h7
    simp at h7
    omega
theorem lp9 (g : Pu.Good b l) (k : Nat) (hk : k ≤ l.length) : ∀ (n i : Nat), i ≤ k → k - i < n →
    lp9_7 s21 s22 s23 s24 s25 s26 s27 s30 s37 s40 s41 s42 s43 s44 s45 s46 n (k : Int) (row b l) (i : Int) b l (i : Int) 0 = some ((k : Int), b, l, (k : Int), 0) := by
  have hlen := g.llen
  have hb := g.len
  intro n
  induction n with
  | zero => intro i h1 h2; omega
  | succ n ih =>
    intro i h1 h2
    unfold lp9_7 lb9_7
    dsimp only
    by_cases hi : i < k
    · have hl : i < l.length := by omega
      have h30 : s30 (tx b l i) ⟨b, l, (i : Int), 0⟩ = some (true, cur b l (i + 1) 0) := by
        have := c30 g (tx_ne g hl) i 0 (by omega)
        rw [if_pos (by unfold eqs; simp)] at this
        exact this
      rw [cond_t _ _ (dec_t (by omega)), t24 g, Option.bind_some, h30, Option.bind_some, wn i (by omega)]
      exact ih (i + 1) hi (by omega)
    · obtain rfl : i = k := by omega
      rw [cond_f _ _ (dec_f (by omega))]
end
theorem aw : s37 = some true := by kernel_rfl
theorem pure_holds (a0 : List Int) (a1 a2 a3 : Int) (h : ∀ n ∈ a0, (Lit.int .u8 n).wf = true) (h1 : (Lit.int .i64 a1).wf = true) (h2 : (Lit.int .i64 a2).wf = true) (h3 : (Lit.int .i64 a3).wf = true) : s9 a0 a1 a2 a3 = some true := by
  unfold s9 b9
  by_cases hl : a0.length ≤ 1000
  · have hb : Byt a0 := by
      intro x hx
      have h2 : (decide (IntKind.min .u8 ≤ x) && decide (x ≤ IntKind.max .u8)) = true := h x hx
      rw [Bool.and_eq_true] at h2
      have h3 := of_decide_eq_true h2.1
      have h4 := of_decide_eq_true h2.2
      rw [show IntKind.min .u8 = 0 from rfl] at h3
      rw [show IntKind.max .u8 = 255 from rfl] at h4
      exact ⟨h3, h4⟩
    have hd : I64 a2 := by
      have h2 : (decide (IntKind.min .i64 ≤ a2) && decide (a2 ≤ IntKind.max .i64)) = true := h2
      rw [Bool.and_eq_true] at h2
      have h3 := of_decide_eq_true h2.1
      have h4 := of_decide_eq_true h2.2
      rw [show IntKind.min .i64 = -9223372036854775808 from rfl] at h3
      rw [show IntKind.max .i64 = 9223372036854775807 from rfl] at h4
      exact ⟨h3, by omega⟩
    have g := good a0 (by omega)
    have hlen := g.llen
    rw [cond_f _ _ (dec_f (by omega)), t21 hb (by omega), Option.bind_some, t22 a0 (by omega), Option.bind_some]
    generalize hL : live (toks a0) = l at g hlen
    have hD : DigL a0 l := by rw [← hL]; exact digL hb
    obtain ⟨k, hk, ek⟩ := k23 a1 (l.length + 1) (by omega) (by omega)
    have hk : k ≤ l.length := by omega
    dsimp only
    rw [show ((row a0 l).c1.length) = l.length from rfl, wn l.length (by omega), ek, Option.bind_some]
    have hlp := lp9 g k hk big 0 (by omega) (big_lt (by omega))
    rw [show ((0 : Nat) : Int) = 0 from rfl] at hlp
    rw [hlp, Option.bind_some]
    dsimp only
    obtain ⟨w, hw, ew⟩ := k23 a3 3 (by omega) (by omega)
    have ew' : s23 a3 3 = some (w : Int) := ew
    rw [ew', Option.bind_some, show (⟨a0, l, (k : Int), 0⟩ : S98) = cur a0 l k 0 from rfl]
    have fin : ∀ j : Nat, (ps a0 l j == ps a0 l j) = true ∧ ((tx a0 l j).toList == (tx a0 l j).toList) = true := fun j => ⟨by simp, by simp⟩
    by_cases w0 : w = 0
    · subst w0
      rw [show (((0 : Nat) : Int) == 0) = true from rfl, cond_true]
      rcases ag_type g k hk with ⟨t, t1, t2, t3, t4⟩ | ⟨t2, t3⟩
      · rw [t2, Option.bind_some, t3, Option.bind_some, cond_f _ _ (dec_f (by omega))]
        dsimp only
        rw [show (t != t) = false from by simp, cond_false, show ((0 : Int) != 0) = false from rfl, cond_false, c26, Option.bind_some, wn k (by omega), t27, Option.bind_some, (fin (k + 1)).1, cond_true, c25 g, Option.bind_some, t24 g, Option.bind_some, (fin (k + 1)).2, cond_true, aw]
        rfl
      · rw [t2, Option.bind_some, t3, Option.bind_some, cond_t _ _ (dec_t (by decide))]
        dsimp only
        rw [show ((0 : Int) != 0) = false from rfl, cond_false, show ((11 : Int) != 11) = false from rfl, cond_false, c26, Option.bind_some, t27, Option.bind_some, (fin k).1, cond_true, c25 g, Option.bind_some, t24 g, Option.bind_some, (fin k).2, cond_true, aw]
        rfl
    · rw [show ((w : Int) == 0) = false from by simp; omega, cond_false]
      by_cases w1 : w = 1
      · subst w1
        rw [show (((1 : Nat) : Int) == 1) = true from rfl, cond_true]
        obtain ⟨a, err, j, m1, m2, m3, m4⟩ := ag_mark g k hk
        rw [m1, Option.bind_some, m2, Option.bind_some]
        dsimp only
        rw [show (!((a.c0 == a.c0) && ((a.c1 == a.c1) && ((a.c2.toList == a.c2.toList) && ((a.c3 == a.c3) && ((a.c4 == a.c4) && true)))))) = false from by simp, cond_false, show (err != err) = false from by simp, cond_false, c26, Option.bind_some, t27, Option.bind_some, (fin j).1, cond_true, c25 g, Option.bind_some, t24 g, Option.bind_some, (fin j).2, cond_true, aw]
        rfl
      · rw [show ((w : Int) == 1) = false from by simp; omega, cond_false]
        rcases t45 g hD k hk a2 hd with ⟨s, j, p1, p2, p3, p4, p5⟩ | ⟨err, j, p0, p1, p2, p3⟩
        · rw [p1, Option.bind_some, p2, Option.bind_some]
          dsimp only [okS]
          rw [show ((0 : Int) != 0) = false from rfl, cond_false, eta79, t40 [s] (by simp only [nstl]; omega), Option.bind_some, Bool.not_true, cond_false, c26, Option.bind_some, t27, Option.bind_some, (fin j).1, cond_true, c25 g, Option.bind_some, t24 g, Option.bind_some, (fin j).2, cond_true, aw]
          rfl
        · rw [p1, Option.bind_some, p2, Option.bind_some]
          dsimp only [er]
          have hz : s40 [z79] [z79] = some true := t40 [z79] (by simp only [nstl, z79, nst, ndss]; omega)
          unfold z79 at hz
          dsimp only [z79]
          rw [show (err != err) = false from by simp, cond_false, hz, Option.bind_some, Bool.not_true, cond_false, c26, Option.bind_some, t27, Option.bind_some, (fin j).1, cond_true, c25 g, Option.bind_some, t24 g, Option.bind_some, (fin j).2, cond_true, aw]
          rfl
  · rw [cond_t _ _ (dec_t (by omega)), aw]
    rfl
end Go.Proofs.Ytogfofcocidmkaa.stmtGoes
