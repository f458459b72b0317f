/- The plain functions, read: names, as the reference has them. -/
import Derived.Test.YtogfofcocidmkaaPuN
set_option linter.unusedVariables false
set_option linter.unusedSimpArgs false
namespace Go.Proofs.Ytogfofcocidmkaa.Pu
open Go.RowKit Go.Proofs Ev
def kws : List ByteArray := [(⟨#[105, 109, 112, 111, 114, 116]⟩ : ByteArray), (⟨#[108, 97, 116, 116, 105, 99, 101]⟩ : ByteArray), (⟨#[101, 102, 102, 101, 99, 116, 115]⟩ : ByteArray), (⟨#[118, 97, 114]⟩ : ByteArray), (⟨#[102, 110]⟩ : ByteArray), (⟨#[108, 101, 116]⟩ : ByteArray), (⟨#[105, 102]⟩ : ByteArray), (⟨#[101, 108, 115, 101]⟩ : ByteArray), (⟨#[119, 104, 105, 108, 101]⟩ : ByteArray), (⟨#[114, 101, 116, 117, 114, 110]⟩ : ByteArray), (⟨#[100, 111]⟩ : ByteArray), (⟨#[116, 114, 117, 101]⟩ : ByteArray), (⟨#[102, 97, 108, 115, 101]⟩ : ByteArray), (⟨#[105, 110, 116]⟩ : ByteArray), (⟨#[98, 111, 111, 108]⟩ : ByteArray), (⟨#[100, 101, 99, 108, 97, 115, 115, 105, 102, 121]⟩ : ByteArray)]
set_option maxRecDepth 10000 in
theorem k78 (x : ByteArray) : s78 x = some (fnd x kws) := by
  unfold s78 b78 kws
  simp only [fnd]
  cases h0 : (x.toList == (⟨#[105, 109, 112, 111, 114, 116]⟩ : ByteArray).toList) with
  | true => simp [h0]
  | false =>
    cases h1 : (x.toList == (⟨#[108, 97, 116, 116, 105, 99, 101]⟩ : ByteArray).toList) with
    | true => simp [h1, h0]
    | false =>
      cases h2 : (x.toList == (⟨#[101, 102, 102, 101, 99, 116, 115]⟩ : ByteArray).toList) with
      | true => simp [h2, h0, h1]
      | false =>
        cases h3 : (x.toList == (⟨#[118, 97, 114]⟩ : ByteArray).toList) with
        | true => simp [h3, h0, h1, h2]
        | false =>
          cases h4 : (x.toList == (⟨#[102, 110]⟩ : ByteArray).toList) with
          | true => simp [h4, h0, h1, h2, h3]
          | false =>
            cases h5 : (x.toList == (⟨#[108, 101, 116]⟩ : ByteArray).toList) with
            | true => simp [h5, h0, h1, h2, h3, h4]
            | false =>
              cases h6 : (x.toList == (⟨#[105, 102]⟩ : ByteArray).toList) with
              | true => simp [h6, h0, h1, h2, h3, h4, h5]
              | false =>
                cases h7 : (x.toList == (⟨#[101, 108, 115, 101]⟩ : ByteArray).toList) with
                | true => simp [h7, h0, h1, h2, h3, h4, h5, h6]
                | false =>
                  cases h8 : (x.toList == (⟨#[119, 104, 105, 108, 101]⟩ : ByteArray).toList) with
                  | true => simp [h8, h0, h1, h2, h3, h4, h5, h6, h7]
                  | false =>
                    cases h9 : (x.toList == (⟨#[114, 101, 116, 117, 114, 110]⟩ : ByteArray).toList) with
                    | true => simp [h9, h0, h1, h2, h3, h4, h5, h6, h7, h8]
                    | false =>
                      cases h10 : (x.toList == (⟨#[100, 111]⟩ : ByteArray).toList) with
                      | true => simp [h10, h0, h1, h2, h3, h4, h5, h6, h7, h8, h9]
                      | false =>
                        cases h11 : (x.toList == (⟨#[116, 114, 117, 101]⟩ : ByteArray).toList) with
                        | true => simp [h11, h0, h1, h2, h3, h4, h5, h6, h7, h8, h9, h10]
                        | false =>
                          cases h12 : (x.toList == (⟨#[102, 97, 108, 115, 101]⟩ : ByteArray).toList) with
                          | true => simp [h12, h0, h1, h2, h3, h4, h5, h6, h7, h8, h9, h10, h11]
                          | false =>
                            cases h13 : (x.toList == (⟨#[105, 110, 116]⟩ : ByteArray).toList) with
                            | true => simp [h13, h0, h1, h2, h3, h4, h5, h6, h7, h8, h9, h10, h11, h12]
                            | false =>
                              cases h14 : (x.toList == (⟨#[98, 111, 111, 108]⟩ : ByteArray).toList) with
                              | true => simp [h14, h0, h1, h2, h3, h4, h5, h6, h7, h8, h9, h10, h11, h12, h13]
                              | false =>
                                cases h15 : (x.toList == (⟨#[100, 101, 99, 108, 97, 115, 115, 105, 102, 121]⟩ : ByteArray).toList) with
                                | true => simp [h15, h0, h1, h2, h3, h4, h5, h6, h7, h8, h9, h10, h11, h12, h13, h14]
                                | false =>
                                  simp [h0, h1, h2, h3, h4, h5, h6, h7, h8, h9, h10, h11, h12, h13, h14, h15]
theorem lp62 (q : List ByteArray) (s : ByteArray) (hq : q.length ≤ 1000) : ∀ (n i : Nat), i ≤ q.length → q.length - i < n →
    ∃ r, lp62_3 n q s (i : Int) = some r ∧ (match r with | .inl o => o.2 = true ∧ fnd s (q.drop i) = true | .inr _ => fnd s (q.drop i) = false) := by
  intro n
  induction n with
  | zero => intro i h1 h2; omega
  | succ n ih =>
    intro i h1 h2
    unfold lp62_3 lb62_3
    dsimp only
    by_cases hi : i < q.length
    · have e1 : q.getD (i : Int).toNat ⟨#[]⟩ = q[i] := by simp [List.getD_eq_getElem?_getD, hi]
      rw [cond_t _ _ (dec_t (by omega)), when_t _ (by simp; omega), e1, wn i (by omega), List.drop_eq_getElem_cons hi]
      have hsym : (q[i].toList == s.toList) = (s.toList == q[i].toList) := by
        cases h : (s.toList == q[i].toList) with
        | true => rw [beq_iff_eq] at h ⊢; exact h.symm
        | false => simp only [beq_eq_false_iff_ne, ne_eq] at h ⊢; exact fun e => h e.symm
      rw [hsym]
      cases hc : (s.toList == q[i].toList) with
      | true => exact ⟨_, rfl, rfl, by simp only [fnd, hc, Bool.true_or]⟩
      | false =>
        obtain ⟨r, r1, r2⟩ := ih (i + 1) hi (by omega)
        refine ⟨r, r1, ?_⟩
        simp only [fnd, hc, Bool.false_or]
        exact r2
    · rw [cond_f _ _ (dec_f (by omega))]
      refine ⟨_, rfl, ?_⟩
      have : q.drop i = [] := List.drop_eq_nil_of_le (by omega)
      rw [this]
      rfl
theorem k62 (x : ByteArray) : s62 x = some (fnd x kws) := by
  unfold s62 b62
  obtain ⟨r, h1, h2⟩ := lp62 kws x (by decide) big 0 (by omega) (big_lt (by decide))
  rw [show ((0 : Nat) : Int) = 0 from rfl] at h1
  show ((lp62_3 big kws x 0).bind _) = _
  rw [h1]
  rw [List.drop_zero] at h2
  cases r with
  | inl o => simp only [Option.bind_some, Sum.elim_inl]; rw [h2.1, h2.2]
  | inr o => simp only [Option.bind_some, Sum.elim_inr]; simp only at h2; rw [h2]
theorem byt_bytesOf (x : ByteArray) : Byt (bytesOf x) := by
  intro y hy
  obtain ⟨z, _, rfl⟩ := List.mem_map.1 hy
  have := z.toNat_lt
  omega
theorem bt_get (x : ByteArray) {i : Nat} (hi : i < (bytesOf x).length) : bt x (i : Int) = (bytesOf x)[i] := by
  have hs : i < x.data.toList.length := by
    have : (bytesOf x).length = x.data.toList.length := List.length_map _
    omega
  have h2 : (bytesOf x)[i]? = (x.data.toList[i]?).map (fun b => (b.toNat : Int)) := List.getElem?_map ..
  rw [List.getElem?_eq_getElem hi, List.getElem?_eq_getElem hs] at h2
  simp only [Option.map_some, Option.some.injEq] at h2
  rw [h2]
  unfold bt
  rw [Array.getD_eq_getD_getElem?, Int.toNat_natCast, ← Array.getElem?_toList, List.getElem?_eq_getElem hs]
  rfl
def okF : Nat → List Int → Bool
  | _, [] => true
  | i, y :: ys => (tot s79 y || (decide (i ≠ 0) && tot s82 y)) && okF (i + 1) ys
theorem lp32 (x : ByteArray) (hx : x.size ≤ 100000) : ∀ (n i : Nat), i ≤ x.size → x.size - i < n →
    ∃ r, lp32_2 s60 s61 s62 n x (i : Int) = some r ∧ (match r with | .inl o => o.2 = false ∧ okF i ((bytesOf x).drop i) = false | .inr _ => okF i ((bytesOf x).drop i) = true) := by
  have hl := bytesOf_len x
  intro n
  induction n with
  | zero => intro i h1 h2; omega
  | succ n ih =>
    intro i h1 h2
    unfold lp32_2 lb32_2
    dsimp only
    by_cases hi : i < x.size
    · have hi' : i < (bytesOf x).length := by omega
      have hB := byt_bytesOf x _ (List.getElem_mem hi')
      have hw : (decide (0 ≤ (i : Int)) && decide ((i : Int) < (x.size : Int))) = true := by simp; omega
      obtain ⟨r, r1, r2⟩ := ih (i + 1) hi (by omega)
      rw [cond_t _ _ (dec_t (by omega)), when_t _ hw, when_t _ hw, bt_get x hi', k60 hB, k61 hB, Option.bind_some, Option.bind_some, wn i (by omega), List.drop_eq_getElem_cons hi']
      simp only [okF]
      cases h79 : tot s79 (bytesOf x)[i] with
      | true =>
        rw [Bool.not_true, cond_false]
        refine ⟨r, r1, ?_⟩
        simp only [Bool.true_or, Bool.true_and]
        exact r2
      | false =>
        rw [Bool.not_false, cond_true]
        by_cases h0 : i = 0
        · subst h0
          exact ⟨_, rfl, rfl, by simp⟩
        · rw [show ((i : Int) == 0) = false from by simpa using h0, cond_false]
          cases h82 : tot s82 (bytesOf x)[i] with
          | true =>
            rw [Bool.not_true, cond_false]
            refine ⟨r, r1, ?_⟩
            simp only [h0, ne_eq, not_false_eq_true, decide_true, Bool.true_and, Bool.false_or]
            exact r2
          | false =>
            rw [Bool.not_false, cond_true]
            exact ⟨_, rfl, rfl, by simp⟩
    · rw [cond_f _ _ (dec_f (by omega))]
      refine ⟨_, rfl, ?_⟩
      have : (bytesOf x).drop i = [] := List.drop_eq_nil_of_le (by omega)
      rw [this]
      rfl
theorem k81 {x : Int} (hx : 0 ≤ x ∧ x ≤ 255) : tot s81 x = (tot s79 x || tot s82 x) := by
  have h : s81 x = some (tot s79 x || tot s82 x) := chk (g := fun x => some (tot s79 x || tot s82 x)) (by decide +kernel) hx
  unfold tot at h ⊢; rw [h]; rfl
theorem okF_tail : ∀ (l : List Int) (i : Nat), Byt l → (okF (i + 1) l = true ↔ cnt s81 l = l.length)
  | [], i, _ => by simp [okF, cnt]
  | y :: ys, i, hb => by
    have ih := okF_tail ys (i + 1) (fun z hz => hb z (List.mem_cons_of_mem _ hz))
    have hy := k81 (hb y (List.mem_cons_self ..))
    have hle := cnt_le s81 ys
    simp only [okF, ne_eq, Nat.add_eq_zero_iff, Nat.one_ne_zero, and_false, not_false_eq_true, decide_true, Bool.true_and]
    rw [← hy]
    cases h : tot s81 y with
    | true => rw [cnt_cons h, Bool.true_and, ih, List.length_cons]; omega
    | false =>
      have : cnt s81 (y :: ys) = 0 := by unfold cnt; rw [List.takeWhile_cons, h]; rfl
      rw [this]
      simp
theorem t32 (x : ByteArray) (hx : x.size ≤ 100000) : s32 x = some (idn x) := by
  have hl := bytesOf_len x
  unfold s32 b32
  obtain ⟨r, r1, r2⟩ := lp32 x hx big 0 (by omega) (big_lt (by omega))
  rw [show ((0 : Nat) : Int) = 0 from rfl] at r1
  rw [r1, Option.bind_some]
  rw [List.drop_zero] at r2
  have h59 := t59 x
  unfold s59 b59 at h59
  rw [← h59]
  clear h59
  cases h0 : eqs x ⟨#[]⟩ with
  | true =>
    have hx0 := (eqs_iff _ _).1 h0
    subst hx0
    unfold eqs at h0
    rw [h0, cond_true]
    cases r with
    | inl o => simp only [Sum.elim_inl]; rw [r2.1]
    | inr o => rfl
  | false =>
    have hpos := eqs_nil h0
    unfold eqs at h0
    rw [h0, cond_false]
    by_cases h24 : x.size ≤ 24
    · rw [cond_f _ _ (dec_f (show ¬ ((x.size : Int) > 24) by omega)), k78, Option.bind_some, when_t _ (by simp; omega)]
      obtain ⟨y, ys, hys⟩ : ∃ y ys, bytesOf x = y :: ys := by
        cases h : bytesOf x with
        | nil => rw [h] at hl; simp at hl; omega
        | cons y ys => exact ⟨y, ys, rfl⟩
      have hB := byt_bytesOf x
      have hb0 : bt x 0 = y := by
        have h1 : 0 < (bytesOf x).length := by omega
        have := bt_get x h1
        rw [show ((0 : Nat) : Int) = 0 from rfl] at this
        rw [this]
        simp [hys]
      rw [hb0, t79, Option.bind_some, r81 _ (by omega), Option.bind_some]
      have hBy : 0 ≤ y ∧ y ≤ 255 := hB y (by rw [hys]; exact List.mem_cons_self ..)
      have htail := okF_tail ys 0 (fun z hz => hB z (by rw [hys]; exact List.mem_cons_of_mem _ hz))
      have hok : okF 0 (bytesOf x) = (tot s79 y && okF 1 ys) := by rw [hys]; simp [okF]
      have hsz : x.size = ys.length + 1 := by rw [hys] at hl; simp at hl; omega
      have hfin : (((cnt s81 (bytesOf x) : Nat) : Int) == (x.size : Int)) = (tot s81 y && okF 1 ys) := by
        rw [hys, hsz]
        cases h81 : tot s81 y with
        | true =>
          rw [cnt_cons h81, Bool.true_and]
          cases ht : okF 1 ys with
          | true => rw [ht] at htail; rw [htail.1 rfl]; simp; omega
          | false =>
            rw [ht] at htail
            have : cnt s81 ys ≠ ys.length := fun e => by have := htail.2 e; cases this
            simp; omega
        | false =>
          have : cnt s81 (y :: ys) = 0 := by unfold cnt; rw [List.takeWhile_cons, h81]; rfl
          rw [this]
          simp; omega
      rw [hfin]
      have h81' := k81 hBy
      cases r with
      | inl o =>
        simp only [Sum.elim_inl]
        obtain ⟨r3, r4⟩ := r2
        rw [r3]
        rw [hok] at r4
        cases fnd x kws <;> cases h79 : tot s79 y <;> simp_all
      | inr o =>
        simp only [Sum.elim_inr]
        simp only at r2
        rw [hok] at r2
        rw [cond_t _ _ (dec_t (show (x.size : Int) ≥ 1 by omega)), cond_t _ _ (dec_t (show (x.size : Int) ≤ 24 by omega)), k62, Option.bind_some]
        simp only [Bool.and_eq_true] at r2
        rw [h81', r2.1, r2.2]
        cases fnd x kws <;> rfl
    · rw [cond_t _ _ (dec_t (show (x.size : Int) > 24 by omega))]
      cases r with
      | inl o => simp only [Sum.elim_inl]; rw [r2.1]
      | inr o =>
        simp only [Sum.elim_inr]
        rw [cond_t _ _ (dec_t (show (x.size : Int) ≥ 1 by omega)), cond_f _ _ (dec_f (show ¬ (x.size : Int) ≤ 24 by omega))]
end Go.Proofs.Ytogfofcocidmkaa.Pu
