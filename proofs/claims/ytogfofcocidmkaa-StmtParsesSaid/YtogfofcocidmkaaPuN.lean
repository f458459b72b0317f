/- The plain functions, read: the reference's row of tokens. -/
import Derived.Test.YtogfofcocidmkaaPuM
set_option linter.unusedVariables false
set_option linter.unusedSimpArgs false
namespace Go.Proofs.Ytogfofcocidmkaa.Pu
open Go.RowKit Go.Proofs Ev
theorem cnt_cons {f : Int → Option Bool} {x : Int} {xs : List Int} (h : tot f x = true) : cnt f (x :: xs) = 1 + cnt f xs := by
  unfold cnt
  rw [List.takeWhile_cons, h, if_pos rfl, List.length_cons]
  omega
theorem lp55 {b : List Int} (hb : Byt b) (hl : b.length ≤ 100000) : ∀ (n i m : Nat) (acc : List S51), i ≤ b.length → b.length - i < n → b.length - i ≤ m → acc.length ≤ i →
    lp55_3 s60 s61 s77 (lp55_9 s60 s61 s77 big) (lp55_13 s60 s61 s77 big) (lp55_17 s60 s61 s77 big) (lp55_21 s60 s61 s77 big) n (strOf b) (i : Int) acc = some ((b.length : Int), acc ++ allT b m i) := by
  intro n
  induction n with
  | zero => intro i m acc h1 h2; omega
  | succ n ih =>
    intro i m acc h1 h2 h3 h4
    rw [show ∀ l9 l13 l17 l21, lp55_3 s60 s61 s77 l9 l13 l17 l21 (n + 1) (strOf b) (i : Int) acc = lb55_3 s60 s61 s77 l9 l13 l17 l21 (strOf b) (fun v w => lp55_3 s60 s61 s77 l9 l13 l17 l21 n (strOf b) v w) (fun o => some o) (i : Int) acc from fun _ _ _ _ => rfl]
    unfold lb55_3
    dsimp only
    by_cases hi : i < b.length
    · obtain ⟨m, rfl⟩ : ∃ m', m = m' + 1 := ⟨m - 1, by omega⟩
      have hB := hb _ (List.getElem_mem hi)
      have hw : (decide (0 ≤ (i : Int)) && decide ((i : Int) < ((strOf b).size : Int))) = true := by rw [strOf_size]; simp; omega
      have hbig : ∀ j : Nat, j ≤ b.length → b.length - j < big := fun j hj => big_lt (by omega)
      have hc : b.drop i = b[i] :: b.drop (i + 1) := List.drop_eq_getElem_cons hi
      have hg : (b.drop i).getD 0 0 = b[i] := by rw [hc]; rfl
      obtain ⟨k1, k2⟩ := fst1_len (b.drop i) (by rw [List.length_drop]; omega)
      rw [List.length_drop] at k2
      have hall : allT b (m + 1) i = ⟨(fst1 (b.drop i)).1, (i : Int), ((i + (fst1 (b.drop i)).2 : Nat) : Int)⟩ :: allT b m (i + (fst1 (b.drop i)).2) := by simp only [allT, if_pos hi]
      have fin : ∀ (k : Int) (e : Nat), fst1 (b.drop i) = (k, e) → (when_ (decide (acc.length + [(⟨k, (i : Int), ((i + e : Nat) : Int)⟩ : S51)].length ≤ 5864062014805)) (lp55_3 s60 s61 s77 (lp55_9 s60 s61 s77 big) (lp55_13 s60 s61 s77 big) (lp55_17 s60 s61 s77 big) (lp55_21 s60 s61 s77 big) n (strOf b) ((i + e : Nat) : Int) (acc ++ [(⟨k, (i : Int), ((i + e : Nat) : Int)⟩ : S51)]))) = some ((b.length : Int), acc ++ allT b (m + 1) i) := by
        intro k e hf
        rw [hall]
        rw [hf] at k1 k2 ⊢
        simp only at k1 k2 ⊢
        rw [when_t _ (dec_t (by simp; omega)), ih (i + e) m _ (by omega) (by omega) (by omega) (by simp; omega), List.append_assoc]
        rfl
      rw [cond_t _ _ (dec_t (by rw [strOf_size]; omega)), when_t _ hw, bt_strOf hb hi, wn i (by omega)]
      have run : ∀ (f : Int → Option Bool), tot f b[i] = true → (i + 1) + cnt f (b.drop (i + 1)) = i + cnt f (b.drop i) := by
        intro f hf
        rw [hc, cnt_cons hf]
        omega
      have hblank : tot s93 b[i] = true → ((lp55_9 s60 s61 s77 big (strOf b) ((i + 1 : Nat) : Int)).bind fun r => when_ (decide (acc.length + [(⟨0, (i : Int), r⟩ : S51)].length ≤ 5864062014805)) (lp55_3 s60 s61 s77 (lp55_9 s60 s61 s77 big) (lp55_13 s60 s61 s77 big) (lp55_17 s60 s61 s77 big) (lp55_21 s60 s61 s77 big) n (strOf b) r (acc ++ [(⟨0, (i : Int), r⟩ : S51)]))) = some ((b.length : Int), acc ++ allT b (m + 1) i) := by
        intro hf
        rw [w55_9 hb hl big (i + 1) (by omega) (hbig _ (by omega)), Option.bind_some, run s93 hf]
        exact fin 0 _ (by unfold fst1; rw [hg, if_pos hf])
      have k93' := k93 hB
      by_cases h93 : tot s93 b[i] = true
      · cases a1 : (b[i] == 32) with
        | true => rw [cond_true]; exact hblank h93
        | false =>
          rw [cond_false]
          cases a2 : (b[i] == 9) with
          | true => rw [cond_true]; exact hblank h93
          | false =>
            rw [cond_false]
            cases a3 : (b[i] == 10) with
            | true => rw [cond_true]; exact hblank h93
            | false =>
              rw [cond_false]
              cases a4 : (b[i] == 13) with
              | true => rw [cond_true]; exact hblank h93
              | false => rw [a1, a2, a3, a4] at k93'; rw [k93'] at h93; cases h93
      · have h93' : tot s93 b[i] = false := by simpa using h93
        rw [h93'] at k93'
        have a1 : (b[i] == 32) = false := by revert k93'; cases b[i] == 32 <;> simp
        have a2 : (b[i] == 9) = false := by revert k93'; cases b[i] == 9 <;> simp
        have a3 : (b[i] == 10) = false := by revert k93'; cases b[i] == 10 <;> simp
        have a4 : (b[i] == 13) = false := by revert k93'; cases b[i] == 13 <;> simp
        rw [a1, cond_false, a2, cond_false, a3, cond_false, a4, cond_false]
        cases a5 : (b[i] == 35) with
        | true =>
          have h35 : b[i] = 35 := by simpa using a5
          have hf : tot s94 b[i] = true := by rw [h35]; decide +kernel
          rw [cond_true, w55_13 hb hl big (i + 1) (by omega) (hbig _ (by omega)), Option.bind_some, run s94 hf]
          exact fin 1 _ (by unfold fst1; rw [hg, if_neg (by rw [h93']; simp), if_pos a5])
        | false =>
          rw [cond_false, k60 hB, Option.bind_some]
          cases a6 : tot s79 b[i] with
          | true =>
            have hf : tot s95 b[i] = true := by rw [k95 hB, a6]; rfl
            rw [cond_true, w55_17 hb hl big (i + 1) (by omega) (hbig _ (by omega)), Option.bind_some, run s95 hf]
            exact fin 2 _ (by unfold fst1; rw [hg, if_neg (by rw [h93']; simp), if_neg (by rw [a5]; simp), if_pos a6])
          | false =>
            rw [cond_false, k61 hB, Option.bind_some]
            cases a7 : tot s82 b[i] with
            | true =>
              rw [cond_true, w55_21 hb hl big (i + 1) (by omega) (hbig _ (by omega)), Option.bind_some, run s82 a7]
              exact fin 3 _ (by unfold fst1; rw [hg, if_neg (by rw [h93']; simp), if_neg (by rw [a5]; simp), if_neg (by rw [a6]; simp), if_pos a7])
            | false =>
              have hex : (strOf b).extract (i : Int).toNat ((strOf b).size : Int).toNat = strOf (b.drop i) := by
                rw [strOf_extract, strOf_size]
                simp
              have hBd : Byt (b.drop i) := fun x hx => hb x (List.mem_of_mem_drop hx)
              have hf0 : fst1 (b.drop i) = if (decide (1 < (b.drop i).length) && fnd (strOf ((b.drop i).take 2)) signs2) = true then (4, 2) else if isSign ((b.drop i).getD 0 0) = true then (4, 1) else (5, 1) := by
                unfold fst1; rw [hg, if_neg (by rw [h93']; simp), if_neg (by rw [a5]; simp), if_neg (by rw [a6]; simp), if_neg (by rw [a7]; simp)]
              rw [cond_false, when_t _ (by rw [strOf_size]; simp; omega), hex, t77 hBd (by rw [List.length_drop]; omega), Option.bind_some]
              by_cases s2 : (decide (1 < (b.drop i).length) && fnd (strOf ((b.drop i).take 2)) signs2) = true
              · rw [if_pos s2] at hf0 ⊢
                have hl2 : 2 ≤ (b.drop i).length := by
                  simp only [Bool.and_eq_true, decide_eq_true_eq] at s2
                  omega
                rw [List.length_drop] at hl2
                rw [show decide ((2 : Int) > 0) = true from rfl, cond_true, show w64 ((i : Int) + 2) = ((i + 2 : Nat) : Int) from by rw [w64_id (by omega) (by omega)]; rfl]
                exact fin 4 2 hf0
              · rw [if_neg s2] at hf0 ⊢
                by_cases s1 : isSign ((b.drop i).getD 0 0) = true
                · rw [if_pos s1] at hf0 ⊢
                  rw [show decide ((1 : Int) > 0) = true from rfl, cond_true, wn i (by omega)]
                  exact fin 4 1 hf0
                · rw [if_neg s1] at hf0 ⊢
                  rw [show decide ((0 : Int) > 0) = false from rfl, cond_false]
                  exact fin 5 1 hf0
    · rw [cond_f _ _ (dec_f (by rw [strOf_size]; omega))]
      have : i = b.length := by omega
      subst this
      have : allT b m b.length = [] := by cases m <;> simp [allT]
      rw [this, List.append_nil]
theorem t55 {b : List Int} (hb : Byt b) (hl : b.length ≤ 100000) : s55 (strOf b) = some (toks b) := by
  unfold s55 b55
  have e := lp55 hb hl big 0 b.length [] (by omega) (big_lt (by omega)) (by omega) (by simp)
  rw [show ((0 : Nat) : Int) = 0 from rfl] at e
  rw [e]
  rfl
theorem fst1_kind (l : List Int) : 0 ≤ (fst1 l).1 := by
  unfold fst1
  repeat (first | (split; · (simp only; omega)) | (simp only; omega))
theorem toks_kind (b : List Int) : ∀ (m i : Nat), ∀ t ∈ allT b m i, 0 ≤ t.c0
  | 0, i, t, h => by cases h
  | m + 1, i, t, h => by
    simp only [allT] at h
    split at h
    · cases h with
      | head => exact fst1_kind _
      | tail _ h => exact toks_kind b m _ t h
    · cases h
theorem lp54 (l : List S51) (hl : l.length ≤ 100000) (hk : ∀ t ∈ l, 0 ≤ t.c0) : ∀ (n i : Nat) (acc : List S51), i ≤ l.length → l.length - i < n → acc.length ≤ i →
    lp54_3 n l (i : Int) acc = some ((l.length : Int), acc ++ live (l.drop i)) := by
  intro n
  induction n with
  | zero => intro i acc h1 h2; omega
  | succ n ih =>
    intro i acc h1 h2 h3
    unfold lp54_3 lb54_3
    dsimp only
    by_cases hi : i < l.length
    · have e1 : l.getD (i : Int).toNat z51 = l[i] := by simp [List.getD_eq_getElem?_getD, hi]
      have hw : (decide (0 ≤ (i : Int)) && decide ((i : Int) < (l.length : Int))) = true := by simp; omega
      have h0 := hk _ (List.getElem_mem hi)
      rw [cond_t _ _ (dec_t (by omega)), when_t _ hw, when_t _ hw, when_t _ hw, e1, wn i (by omega), List.drop_eq_getElem_cons hi]
      by_cases h1' : l[i].c0 > 1
      · rw [cond_t _ _ (dec_t h1'), when_t _ (dec_t (by simp; omega)), ih _ _ (by omega) (by omega) (by simp; omega), live_t (by simp; omega), List.append_assoc]
        rfl
      · rw [cond_f _ _ (dec_f h1'), cond_f _ _ (dec_f (by omega)), ih _ _ (by omega) (by omega) (by omega), live_f (by
          have : l[i].c0 = 0 ∨ l[i].c0 = 1 := by omega
          rcases this with h | h <;> rw [h] <;> rfl)]
    · rw [cond_f _ _ (dec_f (by omega))]
      have : i = l.length := by omega
      subst this
      simp [live]
theorem t54 (b : List Int) (hl : b.length ≤ 100000) : s54 (toks b) = some (live (toks b)) := by
  unfold s54 b54
  have h2 : (toks b).length ≤ 100000 := by have := (toks_chain b).le; omega
  have e := lp54 (toks b) h2 (toks_kind b _ _) big 0 [] (by omega) (big_lt (by omega)) (by simp)
  rw [show ((0 : Nat) : Int) = 0 from rfl] at e
  rw [e]
  rfl
/-- The reference's row of a text. -/
def row (b : List Int) (l : List S51) : S41 := ⟨strOf b, l⟩
theorem t21 {b : List Int} (hb : Byt b) (hl : b.length ≤ 100000) : s21 (strOf b) = some (row b (live (toks b))) := by
  unfold s21 b21
  rw [t55 hb hl, Option.bind_some, t54 b hl]
  rfl
section
variable {b : List Int} {l : List S51}
theorem t24 (g : Good b l) (i : Nat) : s24 (row b l) (i : Int) = some (tx b l i) := by
  unfold s24 b24
  show cond (decide ((i : Int) < 0)) _ (cond (decide ((i : Int) ≥ (l.length : Int))) _ _) = _
  rw [cond_f _ _ (dec_f (by omega))]
  unfold tx
  by_cases h : i < l.length
  · obtain ⟨s, e, h1, h2, h3, h4, h5⟩ := g.srt.get i h
    have hw : (decide (0 ≤ (i : Int)) && decide ((i : Int) < (l.length : Int))) = true := by simp; omega
    rw [cond_f _ _ (dec_f (by omega)), if_pos h]
    show when_ (decide (0 ≤ (i : Int)) && decide ((i : Int) < (l.length : Int))) (when_ (decide (0 ≤ (i : Int)) && decide ((i : Int) < (l.length : Int))) (when_ (decide ((0 : Int) ≤ (l.getD (i : Int).toNat z51).c2) && decide ((l.getD (i : Int).toNat z51).c2 ≤ ((strOf b).size : Int)) && (decide ((0 : Int) ≤ (l.getD (i : Int).toNat z51).c1) && decide ((l.getD (i : Int).toNat z51).c1 ≤ (l.getD (i : Int).toNat z51).c2))) (some ((strOf b).extract (l.getD (i : Int).toNat z51).c1.toNat (l.getD (i : Int).toNat z51).c2.toNat)))) = _
    rw [when_t _ hw, when_t _ hw, Int.toNat_natCast, h1, h2, when_t _ (by rw [strOf_size]; simp; omega), strOf_extract]
  · rw [cond_t _ _ (dec_t (by omega)), if_neg h]
theorem t27 (i : Nat) : s27 (row b l) (i : Int) = some (ps b l i) := by
  unfold s27 b27 ps
  show cond (decide ((i : Int) ≥ (l.length : Int))) (some ((strOf b).size : Int)) _ = _
  by_cases h : i < l.length
  · rw [cond_f _ _ (dec_f (by omega)), if_pos h]
    show when_ (decide (0 ≤ (i : Int)) && decide ((i : Int) < (l.length : Int))) (some (l.getD (i : Int).toNat z51).c1) = _
    rw [when_t _ (by simp; omega)]
    simp
  · rw [cond_t _ _ (dec_t (by omega)), if_neg h, strOf_size]
end
end Go.Proofs.Ytogfofcocidmkaa.Pu
