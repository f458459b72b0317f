/- The plain functions, read: tokens further on. -/
import Derived.Test.YtogfofcocidmkaaPuHb
set_option linter.unusedVariables false
set_option linter.unusedSimpArgs false
namespace Go.Proofs.Ytogfofcocidmkaa.Pu
open Go.RowKit Go.Proofs Ev
def shT (s : Nat) (t : S51) : S51 := ⟨t.c0, t.c1 + (s : Int), t.c2 + (s : Int)⟩
theorem allT_fuel (b : List Int) : ∀ (m m' i : Nat), b.length - i ≤ m → b.length - i ≤ m' → allT b m i = allT b m' i := by
  intro m
  induction m with
  | zero =>
    intro m' i h1 h2
    cases m' with
    | zero => rfl
    | succ m' => simp only [allT]; rw [if_neg (by omega)]
  | succ m ih =>
    intro m' i h1 h2
    cases m' with
    | zero => simp only [allT]; rw [if_neg (by omega)]
    | succ m' =>
      simp only [allT]
      split
      · rename_i hi
        obtain ⟨k1, k2⟩ := fst1_len (b.drop i) (by rw [List.length_drop]; omega)
        rw [ih m' _ (by omega) (by omega)]
      · rfl
theorem allT_pre (p b : List Int) : ∀ (m i : Nat), allT (p ++ b) m (p.length + i) = (allT b m i).map (shT p.length) := by
  intro m
  induction m with
  | zero => intro i; rfl
  | succ m ih =>
    intro i
    simp only [allT]
    have e1 : (p ++ b).drop (p.length + i) = b.drop i := by simp
    rw [e1]
    by_cases hi : i < b.length
    · rw [if_pos (by simp; omega), if_pos hi, List.map_cons, Nat.add_assoc, ih]
      congr 1
      simp only [shT, S51.mk.injEq, true_and]
      constructor <;> omega
    · rw [if_neg (by simp; omega), if_neg hi]
      rfl
theorem live_sh (s : Nat) : ∀ l : List S51, live (l.map (shT s)) = (live l).map (shT s)
  | [] => rfl
  | x :: xs => by
    rw [List.map_cons]
    by_cases h : (x.c0 != 0 && x.c0 != 1) = true
    · rw [live_t (x := shT s x) h, live_t h, live_sh s xs]; rfl
    · have h' : (x.c0 != 0 && x.c0 != 1) = false := by simpa using h
      rw [live_f (x := shT s x) h', live_f h', live_sh s xs]
theorem bad_sh (s : Nat) : ∀ l : List S51, bad (l.map (shT s)) = (bad l).map (shT s)
  | [] => rfl
  | x :: xs => by
    have ih := bad_sh s xs
    unfold bad at ih ⊢
    rw [List.map_cons, List.find?_cons, List.find?_cons]
    show (match x.c0 == 5 with | true => some (shT s x) | false => _) = _
    cases x.c0 == 5
    · exact ih
    · rfl
theorem cnt_rep (k : Nat) (b : List Int) : cnt s93 (List.replicate k 32 ++ b) = k + cnt s93 b := by
  induction k with
  | zero => simp
  | succ k ih =>
    have h : tot s93 32 = true := by decide +kernel
    unfold cnt at ih ⊢
    rw [List.replicate_succ, List.cons_append, List.takeWhile_cons, h, if_pos rfl, List.length_cons, ih]
    omega
theorem toks_blank (k : Nat) (b : List Int) : live (toks (List.replicate k 32 ++ b)) = (live (toks b)).map (shT k) ∧ bad (toks (List.replicate k 32 ++ b)) = (bad (toks b)).map (shT k) := by
  cases k with
  | zero =>
    have e : ∀ t, shT 0 t = t := fun t => by cases t; simp [shT]
    have e2 : shT 0 = id := funext e
    simp [e2]
  | succ k =>
    have hlen : (List.replicate (k + 1) (32 : Int) ++ b).length = k + 1 + b.length := by simp
    have hf : fst1 (List.replicate (k + 1) 32 ++ b) = (0, k + 1 + cnt s93 b) := by
      unfold fst1
      rw [if_pos (by rw [List.replicate_succ, List.cons_append]; exact (by decide +kernel : tot s93 32 = true)), cnt_rep]
    have h1 : toks (List.replicate (k + 1) 32 ++ b) = ⟨0, 0, ((k + 1 + cnt s93 b : Nat) : Int)⟩ :: (allT b (k + b.length) (cnt s93 b)).map (shT (k + 1)) := by
      unfold toks
      rw [hlen, show k + 1 + b.length = (k + b.length) + 1 from by omega]
      have e1 := allT_pre (List.replicate (k + 1) 32) b (k + b.length) (cnt s93 b)
      rw [List.length_replicate] at e1
      rw [← e1]
      show (if 0 < (List.replicate (k + 1) (32 : Int) ++ b).length then _ else _) = _
      rw [if_pos (by omega), List.drop_zero, hf]
      simp only [Nat.zero_add]
      rfl
    have h2 : live (allT b (k + b.length) (cnt s93 b)) = live (toks b) ∧ bad (allT b (k + b.length) (cnt s93 b)) = bad (toks b) := by
      by_cases hc : cnt s93 b = 0
      · rw [hc]
        unfold toks
        rw [allT_fuel b (k + b.length) b.length 0 (by omega) (by omega)]
        exact ⟨rfl, rfl⟩
      · cases b with
        | nil => exact absurd rfl hc
        | cons x xs =>
          have hx : tot s93 x = true := by
            cases h : tot s93 x with
            | true => rfl
            | false => exact absurd (by unfold cnt; rw [List.takeWhile_cons, h]; rfl) hc
          have e3 : fst1 (x :: xs) = (0, cnt s93 (x :: xs)) := by
            unfold fst1
            exact if_pos hx
          have e2 : toks (x :: xs) = ⟨0, 0, ((cnt s93 (x :: xs) : Nat) : Int)⟩ :: allT (x :: xs) xs.length (cnt s93 (x :: xs)) := by
            unfold toks
            rw [List.length_cons]
            show (if 0 < (x :: xs).length then _ else _) = _
            rw [if_pos (by simp), List.drop_zero, e3]
            simp only [Nat.zero_add]
            rfl
          have e4 := allT_fuel (x :: xs) (k + (x :: xs).length) xs.length (cnt s93 (x :: xs)) (by simp; omega) (by simp; omega)
          rw [e2, e4]
          refine ⟨(live_f rfl).symm, ?_⟩
          unfold bad
          rw [List.find?_cons]
          rfl
    rw [h1]
    constructor
    · rw [live_f rfl, live_sh, h2.1]
    · show bad (_ :: _) = _
      unfold bad
      rw [List.find?_cons]
      show List.find? _ _ = _
      have := bad_sh (k + 1) (allT b (k + b.length) (cnt s93 b))
      unfold bad at this h2
      rw [this, h2.2]
section
variable {b : List Int} {l : List S51}
theorem getD_sh {k i : Nat} (h : i < l.length) : (l.map (shT k)).getD i z51 = shT k (l.getD i z51) := by
  simp [List.getD_eq_getElem?_getD, h]
theorem tx_sh (g : Good b l) (p : List Int) (i : Nat) : tx (p ++ b) (l.map (shT p.length)) i = tx b l i := by
  unfold tx
  rw [List.length_map]
  by_cases h : i < l.length
  · rw [if_pos h, if_pos h, getD_sh h]
    obtain ⟨s, e, h1, h2, h3, h4, h5⟩ := g.srt.get i h
    simp only [shT, h1, h2]
    congr 1
    have e1 : ((e : Int) + (p.length : Int)).toNat = p.length + e := by omega
    have e2 : ((s : Int) + (p.length : Int)).toNat = p.length + s := by omega
    rw [e1, e2, List.take_append, List.drop_append]
    simp
  · rw [if_neg h, if_neg h]
theorem ps_sh (g : Good b l) (p : List Int) (i : Nat) : ps (p ++ b) (l.map (shT p.length)) i = ps b l i + (p.length : Int) := by
  unfold ps
  rw [List.length_map]
  by_cases h : i < l.length
  · rw [if_pos h, if_pos h, getD_sh h]; rfl
  · rw [if_neg h, if_neg h, List.length_append]; omega
theorem kd_sh (p : List Int) (i : Nat) : kd (p ++ b) (l.map (shT p.length)) i = kd b l i := by
  unfold kd
  rw [List.length_map]
  by_cases h : i < l.length
  · rw [if_pos h, if_pos h, getD_sh h]; rfl
  · rw [if_neg h, if_neg h]
end
end Go.Proofs.Ytogfofcocidmkaa.Pu
