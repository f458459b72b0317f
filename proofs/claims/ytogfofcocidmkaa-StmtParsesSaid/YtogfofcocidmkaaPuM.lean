/- The plain functions, read: the reference's tokens are the same. -/
import Derived.Test.YtogfofcocidmkaaPuG
set_option linter.unusedVariables false
set_option linter.unusedSimpArgs false
namespace Go.Proofs.Ytogfofcocidmkaa.Pu
open Go.RowKit Go.Proofs Ev
def Byt (b : List Int) : Prop := ∀ x ∈ b, 0 ≤ x ∧ x ≤ 255
theorem strOf_list (l : List Int) : (strOf l).data.toList = l.map fun n => UInt8.ofNat n.toNat := by
  unfold strOf
  have : ∀ (l : List Int) (r : ByteArray), (l.foldl (fun r n => r.push (UInt8.ofNat n.toNat)) r).data.toList = r.data.toList ++ l.map fun n => UInt8.ofNat n.toNat := by
    intro l
    induction l with
    | nil => intro r; simp
    | cons x xs ih => intro r; rw [List.foldl_cons, ih]; simp [ByteArray.push]
  rw [this]
  rfl
theorem bytes_ext {x y : ByteArray} (h : x.data.toList = y.data.toList) : x = y := by
  obtain ⟨⟨x⟩⟩ := x
  obtain ⟨⟨y⟩⟩ := y
  simp only at h
  rw [h]
theorem strOf_extract (l : List Int) (i j : Nat) : (strOf l).extract i j = strOf ((l.take j).drop i) := by
  apply bytes_ext
  rw [strOf_list, ByteArray.data_extract, Array.toList_extract, strOf_list]
  simp [List.extract_eq_take_drop, List.map_drop, List.map_take, List.drop_take]
theorem bt_strOf {b : List Int} (hb : Byt b) {i : Nat} (hi : i < b.length) : bt (strOf b) (i : Int) = b[i] := by
  unfold bt
  have h1 : (strOf b).data.getD (i : Int).toNat 0 = UInt8.ofNat b[i].toNat := by
    rw [Array.getD_eq_getD_getElem?, ← Array.getElem?_toList, strOf_list]
    simp [hi]
  rw [h1]
  have := hb _ (List.getElem_mem hi)
  rw [UInt8.toNat_ofNat']
  omega
theorem chk {f g : Int → Option Bool} (h : (List.range 256).all (fun n => decide (f (n : Int) = g (n : Int))) = true) {x : Int} (hx : 0 ≤ x ∧ x ≤ 255) : f x = g x := by
  have := List.all_eq_true.1 h x.toNat (List.mem_range.2 (by omega))
  have := of_decide_eq_true this
  rwa [show ((x.toNat : Nat) : Int) = x from by omega] at this
theorem k60 {x : Int} (hx : 0 ≤ x ∧ x ≤ 255) : s60 x = some (tot s79 x) := by rw [← t79]; exact chk (by decide +kernel) hx
theorem k61 {x : Int} (hx : 0 ≤ x ∧ x ≤ 255) : s61 x = some (tot s82 x) := by rw [← t82]; exact chk (by decide +kernel) hx
theorem k93 {x : Int} (hx : 0 ≤ x ∧ x ≤ 255) : tot s93 x = ((x == 32) || (x == 9) || (x == 10) || (x == 13)) := by
  have h : s93 x = some ((x == 32) || (x == 9) || (x == 10) || (x == 13)) := chk (g := fun x => some ((x == 32) || (x == 9) || (x == 10) || (x == 13))) (by decide +kernel) hx
  unfold tot; rw [h]; rfl
theorem k95 {x : Int} (hx : 0 ≤ x ∧ x ≤ 255) : tot s95 x = (tot s79 x || tot s82 x) := by
  have h : s95 x = some (tot s79 x || tot s82 x) := chk (g := fun x => some (tot s79 x || tot s82 x)) (by decide +kernel) hx
  unfold tot at h ⊢; rw [h]; rfl
theorem k94 (x : Int) : tot s94 x = (x != 10) := rfl
/-- A loop over a text's bytes. -/
theorem run_bt {b : List Int} (hl : b.length ≤ 100000) {p : Int → Bool} (lp : Nat → ByteArray → Int → Option Int)
    (hs : ∀ n (i : Nat) (hi : i < b.length), lp (n + 1) (strOf b) (i : Int) = if p b[i] = true then lp n (strOf b) ((i + 1 : Nat) : Int) else some (i : Int))
    (he : ∀ n, lp (n + 1) (strOf b) (b.length : Int) = some (b.length : Int)) :
    ∀ (n i : Nat), i ≤ b.length → b.length - i < n → lp n (strOf b) (i : Int) = some ((i + ((b.drop i).takeWhile p).length : Nat) : Int) := by
  intro n
  induction n with
  | zero => intro i h1 h2; omega
  | succ n ih =>
    intro i h1 h2
    by_cases hi : i < b.length
    · rw [hs n i hi, List.drop_eq_getElem_cons hi, List.takeWhile_cons]
      cases hp : p b[i] with
      | true =>
        rw [if_pos rfl, if_pos rfl, ih (i + 1) hi (by omega)]
        simp only [List.length_cons, Option.some.injEq]
        omega
      | false => simp
    · have : i = b.length := by omega
      subst this
      rw [he]
      simp
section
variable {b : List Int} (hb : Byt b) (hl : b.length ≤ 100000)
include hb hl
theorem w55_9 (n i : Nat) (h1 : i ≤ b.length) (h2 : b.length - i < n) : lp55_9 s60 s61 s77 n (strOf b) (i : Int) = some ((i + cnt s93 (b.drop i) : Nat) : Int) := by
  refine run_bt hl (p := tot s93) (lp55_9 s60 s61 s77) (fun n i hi => ?_) (fun n => ?_) n i h1 h2
  · rw [show lp55_9 s60 s61 s77 (n + 1) (strOf b) (i : Int) = lb55_9 s60 s61 s77 (strOf b) (fun v => lp55_9 s60 s61 s77 n (strOf b) v) (fun o => some o) (i : Int) from rfl]
    unfold lb55_9
    dsimp only
    have hw : (decide (0 ≤ (i : Int)) && decide ((i : Int) < ((strOf b).size : Int))) = true := by rw [strOf_size]; simp; omega
    rw [cond_t _ _ (dec_t (by rw [strOf_size]; omega)), when_t _ hw, when_t _ hw, when_t _ hw, when_t _ hw, bt_strOf hb hi, wn i (by omega), k93 (hb _ (List.getElem_mem hi))]
    cases b[i] == 32 <;> cases b[i] == 9 <;> cases b[i] == 10 <;> cases b[i] == 13 <;> rfl
  · unfold lp55_9 lb55_9
    dsimp only
    rw [cond_f _ _ (dec_f (by rw [strOf_size]; omega))]
theorem w55_13 (n i : Nat) (h1 : i ≤ b.length) (h2 : b.length - i < n) : lp55_13 s60 s61 s77 n (strOf b) (i : Int) = some ((i + cnt s94 (b.drop i) : Nat) : Int) := by
  refine run_bt hl (p := tot s94) (lp55_13 s60 s61 s77) (fun n i hi => ?_) (fun n => ?_) n i h1 h2
  · rw [show lp55_13 s60 s61 s77 (n + 1) (strOf b) (i : Int) = lb55_13 s60 s61 s77 (strOf b) (fun v => lp55_13 s60 s61 s77 n (strOf b) v) (fun o => some o) (i : Int) from rfl]
    unfold lb55_13
    dsimp only
    have hw : (decide (0 ≤ (i : Int)) && decide ((i : Int) < ((strOf b).size : Int))) = true := by rw [strOf_size]; simp; omega
    rw [cond_t _ _ (dec_t (by rw [strOf_size]; omega)), when_t _ hw, bt_strOf hb hi, wn i (by omega), k94]
    cases b[i] != 10 <;> rfl
  · unfold lp55_13 lb55_13
    dsimp only
    rw [cond_f _ _ (dec_f (by rw [strOf_size]; omega))]
theorem w55_17 (n i : Nat) (h1 : i ≤ b.length) (h2 : b.length - i < n) : lp55_17 s60 s61 s77 n (strOf b) (i : Int) = some ((i + cnt s95 (b.drop i) : Nat) : Int) := by
  refine run_bt hl (p := tot s95) (lp55_17 s60 s61 s77) (fun n i hi => ?_) (fun n => ?_) n i h1 h2
  · rw [show lp55_17 s60 s61 s77 (n + 1) (strOf b) (i : Int) = lb55_17 s60 s61 s77 (strOf b) (fun v => lp55_17 s60 s61 s77 n (strOf b) v) (fun o => some o) (i : Int) from rfl]
    unfold lb55_17
    dsimp only
    have hw : (decide (0 ≤ (i : Int)) && decide ((i : Int) < ((strOf b).size : Int))) = true := by rw [strOf_size]; simp; omega
    have hB := hb _ (List.getElem_mem hi)
    rw [cond_t _ _ (dec_t (by rw [strOf_size]; omega)), when_t _ hw, when_t _ hw, bt_strOf hb hi, wn i (by omega), k95 hB, k60 hB, k61 hB, Option.bind_some, Option.bind_some]
    cases tot s79 b[i] <;> cases tot s82 b[i] <;> rfl
  · unfold lp55_17 lb55_17
    dsimp only
    rw [cond_f _ _ (dec_f (by rw [strOf_size]; omega))]
theorem w55_21 (n i : Nat) (h1 : i ≤ b.length) (h2 : b.length - i < n) : lp55_21 s60 s61 s77 n (strOf b) (i : Int) = some ((i + cnt s82 (b.drop i) : Nat) : Int) := by
  refine run_bt hl (p := tot s82) (lp55_21 s60 s61 s77) (fun n i hi => ?_) (fun n => ?_) n i h1 h2
  · rw [show lp55_21 s60 s61 s77 (n + 1) (strOf b) (i : Int) = lb55_21 s60 s61 s77 (strOf b) (fun v => lp55_21 s60 s61 s77 n (strOf b) v) (fun o => some o) (i : Int) from rfl]
    unfold lb55_21
    dsimp only
    have hw : (decide (0 ≤ (i : Int)) && decide ((i : Int) < ((strOf b).size : Int))) = true := by rw [strOf_size]; simp; omega
    have hB := hb _ (List.getElem_mem hi)
    rw [cond_t _ _ (dec_t (by rw [strOf_size]; omega)), when_t _ hw, bt_strOf hb hi, wn i (by omega), k61 hB, Option.bind_some]
    cases tot s82 b[i] <;> rfl
  · unfold lp55_21 lb55_21
    dsimp only
    rw [cond_f _ _ (dec_f (by rw [strOf_size]; omega))]
end
/-! signs -/
theorem lp77a (q : List ByteArray) (s : ByteArray) (hq : q.length ≤ 1000) : ∀ (n i : Nat), i ≤ q.length → q.length - i < n →
    ∃ r, lp77_3 n q s (i : Int) = some r ∧ (match r with | .inl o => o.2 = 2 ∧ 2 ≤ s.size ∧ fnd (s.extract 0 2) (q.drop i) = true | .inr _ => (decide (2 ≤ s.size) && fnd (s.extract 0 2) (q.drop i)) = false) := by
  intro n
  induction n with
  | zero => intro i h1 h2; omega
  | succ n ih =>
    intro i h1 h2
    unfold lp77_3 lb77_3
    dsimp only
    by_cases hi : i < q.length
    · rw [cond_t _ _ (dec_t (by omega)), wn i (by omega), List.drop_eq_getElem_cons hi]
      by_cases h2' : 2 ≤ s.size
      · have e1 : q.getD (i : Int).toNat ⟨#[]⟩ = q[i] := by simp [List.getD_eq_getElem?_getD, hi]
        rw [cond_t _ _ (dec_t (by omega)), when_t _ (by simp; omega), when_t _ (by simp; omega), e1]
        cases hc : ((s.extract 0 2).toList == q[i].toList) with
        | true => exact ⟨_, rfl, rfl, h2', by simp only [fnd, hc, Bool.true_or]⟩
        | false =>
          obtain ⟨r, r1, r2⟩ := ih (i + 1) hi (by omega)
          refine ⟨r, r1, ?_⟩
          simp only [fnd, hc, Bool.false_or]
          exact r2
      · rw [cond_f _ _ (dec_f (by omega))]
        obtain ⟨r, r1, r2⟩ := ih (i + 1) hi (by omega)
        refine ⟨r, r1, ?_⟩
        cases r with
        | inl o => exact absurd r2.2.1 h2'
        | inr o => simp only; rw [dec_f h2']; rfl
    · rw [cond_f _ _ (dec_f (by omega))]
      refine ⟨_, rfl, ?_⟩
      have : q.drop i = [] := List.drop_eq_nil_of_le (by omega)
      rw [this]
      simp [fnd]
def ones : List Int := [40, 41, 123, 125, 44, 59, 58, 46, 60, 43, 45, 42, 33, 61, 64, 47]
theorem lp77b (x : ByteArray) (hx : 1 ≤ x.size) : ∀ (n i : Nat), i ≤ 16 → 16 - i < n →
    ∃ r, lp77_9 n (⟨#[40, 41, 123, 125, 44, 59, 58, 46, 60, 43, 45, 42, 33, 61, 64, 47]⟩ : ByteArray) x (i : Int) = some r ∧ (match r with | .inl o => o.2 = 1 ∧ (ones.drop i).contains (bt x 0) = true | .inr _ => (ones.drop i).contains (bt x 0) = false) := by
  intro n
  induction n with
  | zero => intro i h1 h2; omega
  | succ n ih =>
    intro i h1 h2
    unfold lp77_9 lb77_9
    dsimp only
    have hsz : ((⟨#[40, 41, 123, 125, 44, 59, 58, 46, 60, 43, 45, 42, 33, 61, 64, 47]⟩ : ByteArray).size : Int) = 16 := rfl
    rw [hsz]
    by_cases hi : i < 16
    · have hget : bt (⟨#[40, 41, 123, 125, 44, 59, 58, 46, 60, 43, 45, 42, 33, 61, 64, 47]⟩ : ByteArray) (i : Int) = ones.getD i 0 := by
        have : ∀ j : Fin 16, bt (⟨#[40, 41, 123, 125, 44, 59, 58, 46, 60, 43, 45, 42, 33, 61, 64, 47]⟩ : ByteArray) (j.val : Int) = ones.getD j.val 0 := by decide +kernel
        exact this ⟨i, hi⟩
      have hlen : i < ones.length := hi
      rw [cond_t _ _ (dec_t (by omega)), cond_t _ _ (dec_t (by omega)), when_t _ (by simp; omega), when_t _ (by simp; omega), hget, wn i (by omega), List.drop_eq_getElem_cons hlen]
      have e1 : ones.getD i 0 = ones[i] := by simp [List.getD_eq_getElem?_getD, hlen]
      rw [e1, List.contains_cons]
      cases hc : (bt x 0 == ones[i]) with
      | true => exact ⟨_, rfl, rfl, by simp⟩
      | false =>
        obtain ⟨r, r1, r2⟩ := ih (i + 1) (by omega) (by omega)
        refine ⟨r, r1, ?_⟩
        simp only [Bool.false_or]
        exact r2
    · rw [cond_f _ _ (dec_f (by omega))]
      have : i = 16 := by omega
      subst this
      exact ⟨_, rfl, rfl⟩
theorem kSign {x : Int} (hx : 0 ≤ x ∧ x ≤ 255) : isSign x = ones.contains x := by
  have h : some (isSign x) = some (ones.contains x) := chk (f := fun x => some (isSign x)) (g := fun x => some (ones.contains x)) (by decide +kernel) hx
  exact Option.some.inj h
theorem t77 {c : List Int} (hc : Byt c) (h0 : 0 < c.length) : s77 (strOf c) = some (if (decide (1 < c.length) && fnd (strOf (c.take 2)) signs2) = true then 2 else if isSign (c.getD 0 0) = true then 1 else 0) := by
  unfold s77 b77
  obtain ⟨r, r1, r2⟩ := lp77a signs2 (strOf c) (by decide) big 0 (by omega) (big_lt (by decide))
  rw [show ((0 : Nat) : Int) = 0 from rfl] at r1
  rw [show [(⟨#[61, 61]⟩ : ByteArray), (⟨#[38, 38]⟩ : ByteArray), (⟨#[124, 124]⟩ : ByteArray), (⟨#[64, 61]⟩ : ByteArray)] = signs2 from rfl, r1, Option.bind_some]
  have hex : (strOf c).extract 0 2 = strOf (c.take 2) := by rw [strOf_extract, List.drop_zero]
  rw [strOf_size, hex, List.drop_zero] at r2
  cases r with
  | inl o =>
    simp only [Sum.elim_inl]
    rw [dec_t (by omega), r2.2.2, r2.1]
    rfl
  | inr o =>
    simp only at r2
    simp only [Sum.elim_inr]
    have r2' : (decide (1 < c.length) && fnd (strOf (c.take 2)) signs2) = false := r2
    rw [r2']
    obtain ⟨r, q1, q2⟩ := lp77b (strOf c) (by rw [strOf_size]; omega) big 0 (by omega) (big_lt (by omega))
    rw [show ((0 : Nat) : Int) = 0 from rfl] at q1
    rw [q1, Option.bind_some]
    have hbt : bt (strOf c) 0 = c.getD 0 0 := by
      have := bt_strOf hc h0
      rw [show ((0 : Nat) : Int) = 0 from rfl] at this
      rw [this]
      simp [List.getD_eq_getElem?_getD, h0]
    have hB : 0 ≤ c.getD 0 0 ∧ c.getD 0 0 ≤ 255 := by
      have : c.getD 0 0 = c[0] := by simp [List.getD_eq_getElem?_getD, h0]
      rw [this]
      exact hc _ (List.getElem_mem h0)
    rw [hbt, List.drop_zero, ← kSign hB] at q2
    cases r with
    | inl o =>
      simp only [Sum.elim_inl]
      rw [q2.2, q2.1]
      rfl
    | inr o =>
      simp only [Sum.elim_inr]
      simp only at q2
      rw [q2]
      rfl
end Go.Proofs.Ytogfofcocidmkaa.Pu
