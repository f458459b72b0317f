/- The plain functions, read: numbers, as the reference has them. -/
import Derived.Test.YtogfofcocidmkaaPuO
set_option linter.unusedVariables false
set_option linter.unusedSimpArgs false
namespace Go.Proofs.Ytogfofcocidmkaa.Pu
open Go.RowKit Go.Proofs Ev
theorem t101 {n : Int} (h0 : 0 ≤ n) (h1 : n ≤ 9223372036854775807) : s101 n 10 = some (if n > 922337203685477580 then (0, false) else (n * 10, true)) := by
  by_cases hn : n = 0
  · subst hn; rfl
  · unfold s101 b101
    have e1 : (n == 0) = false := by simpa using hn
    have e2 : ((10 : Int) == 0) = false := rfl
    have e3 : decide (n > 0) = true := dec_t (by omega)
    have e4 : decide ((10 : Int) > 0) = true := rfl
    have e5 : decide ((10 : Int) < 0) = false := rfl
    have e6 : decide (n < 0) = false := dec_f (by omega)
    have e7 : w64 ((9223372036854775807 : Int).tdiv 10) = 922337203685477580 := rfl
    simp only [e1, e2, e3, e4, e5, e6, e7, cond_true, cond_false, Bool.not_false, when_]
    by_cases h : n > 922337203685477580
    · rw [dec_t h, cond_true, if_pos h]
    · rw [dec_f h, cond_false, if_neg h, w64_id (by omega) (by omega)]
theorem t102 {t v : Int} (h0 : 0 ≤ t) (h1 : t ≤ 9223372036854775807) (hv0 : 0 ≤ v) (hv : v ≤ 9) : s102 t v = some (if t > 9223372036854775807 - v then (0, false) else (t + v, true)) := by
  unfold s102 b102
  have e5 : decide (v < 0) = false := dec_f (by omega)
  rw [w64_id (x := 9223372036854775807 - v) (by omega) (by omega)]
  simp only [e5, cond_false]
  by_cases hp : v > 0
  · rw [dec_t hp, cond_true]
    by_cases h : t > 9223372036854775807 - v
    · rw [dec_t h, cond_true, if_pos h]
    · rw [dec_f h, cond_false, if_neg h, w64_id (by omega) (by omega)]
  · rw [dec_f hp, cond_false, if_neg (by omega), w64_id (by omega) (by omega)]
theorem w8_id {x : Int} (h1 : 0 ≤ x) (h2 : x < 256) : w8 x = x := by
  unfold w8 IntKind.wrap
  simp only [IntKind.bits, IntKind.signed]
  simp
  omega
def Dg (l : List Int) : Prop := ∀ y ∈ l, 48 ≤ y ∧ y ≤ 57
theorem numR_step {x n : Int} {xs : List Int} (hx : 48 ≤ x ∧ x ≤ 57) (h0 : 0 ≤ n) (h1 : n ≤ 9223372036854775807) :
    numR (x :: xs) n = if 10 * n > 9223372036854775807 - (x - 48) then none else numR xs (10 * n + (x - 48)) := by
  have e1 : w64 (w8 (x - 48)) = x - 48 := by rw [w8_id (by omega) (by omega), w64_id (by omega) (by omega)]
  have e2 : w64 (9223372036854775807 - (x - 48)) = 9223372036854775807 - (x - 48) := w64_id (by omega) (by omega)
  have e3 : (9223372036854775807 - (x - 48)).tdiv 10 = (9223372036854775807 - (x - 48)) / 10 := Int.tdiv_eq_ediv_of_nonneg (by omega)
  simp only [numR, e1, e2, e3]
  rw [w64_id (x := (9223372036854775807 - (x - 48)) / 10) (by omega) (by omega)]
  by_cases h : 10 * n > 9223372036854775807 - (x - 48)
  · rw [if_pos h, if_pos (by omega)]
  · rw [if_neg h, if_neg (by omega), w64_id (x := 10 * n) (by omega) (by omega), w64_id (by omega) (by omega)]
theorem lp86 {f24 : Y24} {f27 : Y27} {f35 : Y35} {f100 : Y100} {f103 : Y103} {f104 : Y104} (s : ByteArray) (at_ : Int) (hs : s.size ≤ 100000) (hd : Dg (bytesOf s)) : ∀ (n i : Nat) (v : Int), 0 ≤ v → v ≤ 9223372036854775807 → i ≤ s.size → s.size - i < n →
    ∃ r, lp86_5 f24 f27 f35 f100 s101 s102 f103 f104 n s at_ v (i : Int) = some r ∧ (match r with | .inl o => numR ((bytesOf s).drop i) v = none ∧ o.2.2 = ((0 : Int), (0 : Int), (0 : Int), (⟨#[]⟩ : ByteArray), (⟨#[]⟩ : ByteArray), at_, (18 : Int)) | .inr o => numR ((bytesOf s).drop i) v = some o.1) := by
  have hl := bytesOf_len s
  intro n
  induction n with
  | zero => intro i v h0 h1 h2 h3; omega
  | succ n ih =>
    intro i v h0 h1 h2 h3
    unfold lp86_5 lb86_5
    dsimp only
    by_cases hi : i < s.size
    · have hi' : i < (bytesOf s).length := by omega
      have hB := hd _ (List.getElem_mem hi')
      rw [cond_t _ _ (dec_t (by omega)), t101 h0 h1, Option.bind_some, when_t _ (by simp; omega), bt_get s hi', w64_id (x := (bytesOf s)[i]) (by omega) (by omega), w64_id (x := (bytesOf s)[i] - 48) (by omega) (by omega), wn i (by omega), List.drop_eq_getElem_cons hi', numR_step hB h0 h1]
      by_cases hm : v > 922337203685477580
      · rw [if_pos hm, t102 (t := 0) (by omega) (by omega) (by omega) (by omega), Option.bind_some]
        dsimp only
        rw [Bool.not_false, cond_true, if_pos (by omega)]
        exact ⟨_, rfl, rfl, rfl⟩
      · rw [if_neg hm, t102 (t := v * 10) (by omega) (by omega) (by omega) (by omega), Option.bind_some]
        dsimp only
        rw [Bool.not_true, cond_false]
        by_cases ha : 10 * v > 9223372036854775807 - ((bytesOf s)[i] - 48)
        · rw [if_pos (show v * 10 > 9223372036854775807 - ((bytesOf s)[i] - 48) by omega), if_pos ha]
          exact ⟨_, rfl, rfl, rfl⟩
        · rw [if_neg (show ¬ v * 10 > 9223372036854775807 - ((bytesOf s)[i] - 48) by omega), if_neg ha]
          dsimp only
          rw [Bool.not_true, cond_false, show v * 10 + ((bytesOf s)[i] - 48) = 10 * v + ((bytesOf s)[i] - 48) from by omega]
          exact ih (i + 1) _ (by omega) (by omega) hi (by omega)
    · rw [cond_f _ _ (dec_f (by omega))]
      refine ⟨_, rfl, ?_⟩
      have : (bytesOf s).drop i = [] := List.drop_eq_nil_of_le (by omega)
      rw [this]
      rfl
theorem bytes_strOf : ∀ {l : List Int}, Byt l → bytesOf (strOf l) = l := by
  intro l h
  show (strOf l).data.toList.map _ = l
  rw [strOf_list, List.map_map]
  induction l with
  | nil => rfl
  | cons x xs ih =>
    rw [List.map_cons, ih (fun y hy => h y (List.mem_cons_of_mem _ hy))]
    have := h x (List.mem_cons_self ..)
    congr 1
    show ((UInt8.ofNat x.toNat).toNat : Int) = x
    rw [UInt8.toNat_ofNat']
    omega
theorem dig {x : Int} (hx : 0 ≤ x ∧ x ≤ 255) (h : tot s82 x = true) : 48 ≤ x ∧ x ≤ 57 := by
  have : s82 x = some (decide (48 ≤ x) && decide (x ≤ 57)) := chk (g := fun x => some (decide (48 ≤ x) && decide (x ≤ 57))) (by decide +kernel) hx
  unfold tot at h
  rw [this] at h
  simp at h
  exact h
theorem fst1_three {l : List Int} (h : (fst1 l).1 = 3) : (fst1 l).2 = cnt s82 l := by
  unfold fst1 at h ⊢
  split at h
  · cases h
  · split at h
    · cases h
    · split at h
      · cases h
      · split at h
        · rename_i h1 h2 h3 h4
          rw [if_neg h1, if_neg h2, if_neg h3, if_pos h4]
        · split at h
          · cases h
          · split at h <;> cases h
theorem take_cnt (f : Int → Option Bool) : ∀ l : List Int, ∀ x ∈ l.take (cnt f l), tot f x = true
  | [], x, h => by simp at h
  | y :: ys, x, h => by
    cases hy : tot f y with
    | true =>
      rw [cnt_cons hy, Nat.add_comm, List.take_succ_cons] at h
      cases h with
      | head => exact hy
      | tail _ h => exact take_cnt f ys x h
    | false =>
      have : cnt f (y :: ys) = 0 := by unfold cnt; rw [List.takeWhile_cons, hy]; rfl
      rw [this] at h
      cases h
theorem allT_dig {b : List Int} (hb : Byt b) : ∀ (m i : Nat), ∀ t ∈ allT b m i, t.c0 = 3 → Dg ((b.take t.c2.toNat).drop t.c1.toNat)
  | 0, i, t, h, _ => by cases h
  | m + 1, i, t, h, h3 => by
    simp only [allT] at h
    split at h
    · cases h with
      | head =>
        have hc := fst1_three h3
        simp only [Int.toNat_natCast]
        rw [hc]
        intro y hy
        have e : (b.take (i + cnt s82 (b.drop i))).drop i = (b.drop i).take (cnt s82 (b.drop i)) := by rw [List.drop_take]; congr 1; omega
        rw [e] at hy
        have h1 := take_cnt s82 _ y hy
        exact dig (hb y (List.mem_of_mem_drop (List.mem_of_mem_take hy))) h1
      | tail _ h => exact allT_dig hb m _ t h h3
    · cases h
def DigL (b : List Int) (l : List S51) : Prop := ∀ i, kd b l i = 3 → Dg (bytesOf (tx b l i))
theorem digL {b : List Int} (hb : Byt b) : DigL b (live (toks b)) := by
  intro i h
  have hi := kd_lt h
  unfold kd at h
  rw [if_pos hi] at h
  unfold tx
  rw [if_pos hi]
  have hmem : (live (toks b)).getD i z51 ∈ toks b := by
    have : (live (toks b)).getD i z51 = (live (toks b))[i] := by simp [List.getD_eq_getElem?_getD, hi]
    rw [this]
    exact (List.mem_filter.1 (List.getElem_mem hi)).1
  rw [bytes_strOf (fun x hx => hb x (List.mem_of_mem_take (List.mem_of_mem_drop hx)))]
  exact allT_dig hb _ _ _ hmem h
end Go.Proofs.Ytogfofcocidmkaa.Pu
