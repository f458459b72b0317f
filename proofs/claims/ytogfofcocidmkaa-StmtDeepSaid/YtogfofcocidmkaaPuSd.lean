/- The plain functions, read: rows of statements in two texts side by side, by induction. -/
import Derived.Test.YtogfofcocidmkaaPuSc
import Derived.Test.YtogfofcocidmkaaPuS
set_option linter.unusedVariables false
set_option linter.unusedSimpArgs false
namespace Go.Proofs.Ytogfofcocidmkaa.Pu
open Go.RowKit Go.Proofs Ev
theorem nst_pos (s : S79) : 2 ≤ nst s := by rw [nst_c]; omega
theorem nstl_len : ∀ L : List S79, L.length ≤ nstl L
  | [] => Nat.le_refl _
  | x :: xs => by have := nstl_len xs; have := nst_pos x; simp only [nstl, List.length_cons]; omega
theorem nstl_mem : ∀ (L : List S79) (x : S79), x ∈ L → nst x ≤ nstl L
  | y :: ys, x, h => by
    simp only [nstl]
    cases h with
    | head => omega
    | tail _ h => have := nstl_mem ys x h; omega
section
variable {b b' : List Int} {l l' : List S51} {o : Nat} {sh : Int}
/-- A row ends here, ahead of the text's end. -/
def stop (b : List Int) (l : List S51) (j : Nat) : Prop := eqs (tx b l j) ⟨#[125]⟩ = true ∨ (eqs (tx b l j) ⟨#[125]⟩ = false ∧ eqs (tx b l j) ⟨#[114, 101, 116, 117, 114, 110]⟩ = true)
theorem lp48_s (f45 : Y45) (n : Nat) (d : Int) (b : List Int) (l : List S51) (i : Int) (acc : List S79) : lp48_4 s25 s29 f45 (n + 1) d b l i 0 acc = lb48_4 s25 s29 f45 d (fun v15 v16 v17 v18 v19 => lp48_4 s25 s29 f45 n d v15 v16 v17 v18 v19) (fun o => some (Sum.inl o)) (fun o => some (Sum.inr (o))) b l i 0 acc := rfl
theorem lp48_stop (g : Good b l) (f45 : Y45) (n : Nat) (d : Int) (j : Nat) (acc : List S79) (hj : j < l.length) (h : stop b l j) : lp48_4 s25 s29 f45 (n + 1) d b l (j : Int) 0 acc = some (.inr (b, l, (j : Int), 0, acc)) := by
  rw [lp48_s]
  unfold lb48_4
  rw [t29, Option.bind_some, dec_f (show ¬ l.length ≤ j by omega), Bool.not_false, cond_true, t25 g, Option.bind_some, Option.bind_some]
  unfold stop eqs at h
  rcases h with h | ⟨h, h2⟩
  · rw [h]; rfl
  · rw [h, h2]; rfl
theorem lp48_end (f45 : Y45) (n : Nat) (d : Int) (acc : List S79) : lp48_4 s25 s29 f45 (n + 1) d b l (l.length : Int) 0 acc = some (.inr (b, l, (l.length : Int), 0, acc)) := by
  rw [lp48_s]
  unfold lb48_4
  rw [t29, Option.bind_some, dec_t (Nat.le_refl _), Bool.not_true, cond_false]
theorem tw_loop (A : Agr b l b' l' o sh) {f45 f45' : Y45} {D i0 : Nat} (hD : D ≤ 32) (hS : ∀ k, i0 ≤ k → k < l.length → TwT b l b' l' o sh D k (f45 (D : Int) (cur b l k 0)) (f45' (D : Int) (cur b' l' (k + o) 0))) :
    ∀ (n i : Nat) (acc : List S79), i0 ≤ i → i ≤ l.length → l.length - i < n → acc.length ≤ i →
    (∃ (L L' : List S79) (j : Nat), lp48_4 s25 s29 f45 n (D : Int) b l (i : Int) 0 acc = some (.inr (b, l, (j : Int), 0, acc ++ L)) ∧ i ≤ j ∧ j ≤ l.length ∧ (o = 0 ∧ sh = 0 → L' = L) ∧ L'.length = L.length ∧ nstl L ≤ j - i ∧ dpl L + D ≤ 32 ∧ (j < l.length → stop b l j) ∧
      (∀ (m : Nat) (accY : List S79), l.length - i < m → accY.length + (j - i) ≤ 200000 → ∃ m', m ≤ m' + (j - i) ∧ lp48_4 s25 s29 f45' m (D : Int) b' l' ((i + o : Nat) : Int) 0 accY = lp48_4 s25 s29 f45' m' (D : Int) b' l' ((j + o : Nat) : Int) 0 (accY ++ L'))) ∨
    (∃ (err : Int) (k : Nat) (L : List S79), err ≠ 0 ∧ lp48_4 s25 s29 f45 n (D : Int) b l (i : Int) 0 acc = some (.inl (b, l, (k : Int), 0, L, err))) := by
  have hle := A.le
  have hlen := A.g.llen
  have hb := A.g.len
  have hlen' := A.g'.llen
  have hb' := A.g'.len
  intro n
  induction n with
  | zero => intro i acc h0 h1 h2; omega
  | succ n ih =>
    intro i acc h0 h1 h2 h3
    rw [lp48_s]
    unfold lb48_4
    rw [t29, Option.bind_some]
    by_cases hi : i < l.length
    · rw [dec_f (show ¬ l.length ≤ i by omega), Bool.not_false, cond_true, t25 A.g, Option.bind_some, Option.bind_some]
      cases e1 : ((tx b l i).toList == (⟨#[125]⟩ : ByteArray).toList) with
      | true => exact .inl ⟨[], [], i, by rw [List.append_nil]; rfl, Nat.le_refl _, h1, fun _ => rfl, rfl, by simp [nstl], by simp [dpl]; exact hD, fun _ => .inl e1, fun m accY hm _ => ⟨m, by omega, by rw [List.append_nil]⟩⟩
      | false =>
        rw [Bool.not_false, cond_true]
        cases e2 : ((tx b l i).toList == (⟨#[114, 101, 116, 117, 114, 110]⟩ : ByteArray).toList) with
        | true => exact .inl ⟨[], [], i, by rw [List.append_nil]; rfl, Nat.le_refl _, h1, fun _ => rfl, rfl, by simp [nstl], by simp [dpl]; exact hD, fun _ => .inr ⟨e1, e2⟩, fun m accY hm _ => ⟨m, by omega, by rw [List.append_nil]⟩⟩
        | false =>
          rw [Bool.not_false, cond_true]
          rcases hS i h0 hi with ⟨s, s', j, p1, p2, p3, p4, p5, p6, p7⟩ | ⟨err, c, s, p0, p1⟩
          · have p1' : f45 (D : Int) ⟨b, l, (i : Int), 0⟩ = some (s, 0, cur b l j 0) := p1
            rw [p1', Option.bind_some]
            dsimp only
            rw [show ((0 : Int) != 0) = false from rfl, cond_false, when_t _ (dec_t (by simp; omega)), eta79]
            have hpos := nst_pos s
            have key := ih j (acc ++ [s]) (by omega) p4 (by omega) (by simp; omega)
            rcases key with ⟨L, L', k, k1, k2, k3, k4, k5, k6, k7, k8, k9⟩ | ⟨err, kk, L, k0, k1⟩
            · refine .inl ⟨s :: L, s' :: L', k, ?_, by omega, k3, fun h => by rw [p5 h, k4 h], by simp [k5], by simp only [nstl]; omega, by simp only [dpl]; omega, k8, ?_⟩
              · rw [show acc ++ s :: L = acc ++ [s] ++ L from by simp]; exact k1
              · intro m accY hm hY
                obtain ⟨m, rfl⟩ : ∃ m', m = m' + 1 := ⟨m - 1, by omega⟩
                obtain ⟨m', q1, q2⟩ := k9 m (accY ++ [s']) (by omega) (by simp; omega)
                refine ⟨m', by omega, ?_⟩
                rw [lp48_s]
                unfold lb48_4
                rw [t29, Option.bind_some, dec_f (show ¬ l'.length ≤ i + o by omega), Bool.not_false, cond_true, t25 A.g', Option.bind_some, Option.bind_some, A.tx0 hi, e1, Bool.not_false, cond_true, e2, Bool.not_false, cond_true]
                have p2' : f45' (D : Int) ⟨b', l', ((i + o : Nat) : Int), 0⟩ = some (s', 0, cur b' l' (j + o) 0) := p2
                rw [p2', Option.bind_some]
                dsimp only
                rw [show ((0 : Int) != 0) = false from rfl, cond_false, when_t _ (dec_t (by simp; omega)), eta79, show accY ++ s' :: L' = accY ++ [s'] ++ L' from by simp]
                exact q2
            · exact .inr ⟨err, kk, L, k0, k1⟩
          · have p1' : f45 (D : Int) ⟨b, l, (i : Int), 0⟩ = some (s, err, cur b l c 0) := p1
            rw [p1', Option.bind_some]
            dsimp only
            rw [b0' p0, cond_true]
            exact .inr ⟨err, c, _, p0, rfl⟩
    · rw [dec_t (show l.length ≤ i by omega), Bool.not_true, cond_false]
      exact .inl ⟨[], [], i, by rw [List.append_nil], Nat.le_refl _, h1, fun _ => rfl, rfl, by simp [nstl], by simp [dpl]; exact hD, fun h => absurd h hi, fun m accY hm _ => ⟨m, by omega, by rw [List.append_nil]⟩⟩
theorem tw_row (A : Agr b l b' l' o sh) {f45 f45' : Y45} {D i : Nat} (hD : D ≤ 32) (hi : i ≤ l.length) (hS : ∀ k, i ≤ k → k < l.length → TwT b l b' l' o sh D k (f45 (D : Int) (cur b l k 0)) (f45' (D : Int) (cur b' l' (k + o) 0))) :
    TwR b l b' l' o sh D i (b48 s25 s29 f45 (lp48_4 s25 s29 f45 big) (D : Int) (cur b l i 0) some) (b48 s25 s29 f45' (lp48_4 s25 s29 f45' big) (D : Int) (cur b' l' (i + o) 0) some) := by
  have hle := A.le
  have hlen := A.g.llen
  have hb := A.g.len
  have hB : l.length - i < big := big_lt (by omega)
  have hB2 : 200000 < big := big_lt (by omega)
  unfold b48
  rcases tw_loop A hD hS big i [] (Nat.le_refl _) hi hB (by simp) with ⟨L, L', j, k1, k2, k3, k4, k5, k6, k7, k8, k9⟩ | ⟨err, kk, L, k0, k1⟩
  · have k1' : lp48_4 s25 s29 f45 big (D : Int) (cur b l i 0).c0 (cur b l i 0).c1 (cur b l i 0).c2 (cur b l i 0).c3 [] = _ := k1
    rw [k1']
    refine .inl ⟨L, L', j, rfl, fun hj => ?_, k2, k3, k4, k6, k7⟩
    obtain ⟨m', q1, q2⟩ := k9 big [] hB (by simp; omega)
    have q2' : lp48_4 s25 s29 f45' big (D : Int) (cur b' l' (i + o) 0).c0 (cur b' l' (i + o) 0).c1 (cur b' l' (i + o) 0).c2 (cur b' l' (i + o) 0).c3 [] = _ := q2
    obtain ⟨m', rfl⟩ : ∃ k, m' = k + 1 := ⟨m' - 1, by omega⟩
    have hst : stop b' l' (j + o) := by
      unfold stop
      rw [A.tx0 hj]
      exact k8 hj
    rw [q2', lp48_stop A.g' f45' m' _ (j + o) _ (by omega) hst]
    rfl
  · have k1' : lp48_4 s25 s29 f45 big (D : Int) (cur b l i 0).c0 (cur b l i 0).c1 (cur b l i 0).c2 (cur b l i 0).c3 [] = _ := k1
    rw [k1']
    exact .inr ⟨err, _, _, k0, rfl⟩
theorem g45_f45 (n : Nat) (d : Int) (c : S98) : (g45 (n + 1)).f45 d c = b45 s26 (g45 n).f69 d c some := rfl
theorem g45_f69 (n : Nat) (d : Int) (c : S98) (s : S79) : (g45 (n + 1)).f69 d c s = b69 s30 s68 s87 (g45 n).f88 (g45 n).f89 s90 s91 d c s some := rfl
theorem g45_f88 (n : Nat) : (g45 (n + 1)).f88 = fun p2 p0 p1 => b88 s34 (g45 n).f89 s90 p2 p0 p1 some := rfl
theorem g45_f89 (n : Nat) (d : Int) (c : S98) : (g45 (n + 1)).f89 d c = b89 s25 (g45 n).f48 s90 d c some := rfl
theorem g45_f48 (n : Nat) (d : Int) (c : S98) : (g45 (n + 1)).f48 d c = b48 s25 s29 (g45 n).f45 (lp48_4 s25 s29 (g45 n).f45 big) d c some := rfl
theorem tw_all (A : Agr b l b' l' o sh) : ∀ (K : Nat) (i D n m : Nat), i < l.length → l.length - i ≤ K → D ≤ 32 → 10 * (l.length - i) + 5 ≤ n → 10 * (l.length - i) + 5 ≤ m →
    TwT b l b' l' o sh D i ((g45 n).f45 (D : Int) (cur b l i 0)) ((g45 m).f45 (D : Int) (cur b' l' (i + o) 0)) := by
  intro K
  induction K with
  | zero => exact fun i D n m hi hK hd hn hm => stmt_of hi hd hn hm (fun j d n m h1 h2 => by omega)
  | succ K ih => exact fun i D n m hi hK hd hn hm => stmt_of hi hd hn hm (fun j d n m h1 h2 hd hn hm => ih j d n m h2 (by omega) hd hn hm)
where
  stmt_of {i D : Nat} {n m : Nat} (hi : i < l.length) (hd : D ≤ 32) (hn : 10 * (l.length - i) + 5 ≤ n) (hm : 10 * (l.length - i) + 5 ≤ m)
      (hS : ∀ (j D n m : Nat), i < j → j < l.length → D ≤ 32 → 10 * (l.length - j) + 5 ≤ n → 10 * (l.length - j) + 5 ≤ m → TwT b l b' l' o sh D j ((g45 n).f45 (D : Int) (cur b l j 0)) ((g45 m).f45 (D : Int) (cur b' l' (j + o) 0))) :
      TwT b l b' l' o sh D i ((g45 n).f45 (D : Int) (cur b l i 0)) ((g45 m).f45 (D : Int) (cur b' l' (i + o) 0)) := by
    have hB : ∀ (n m : Nat), 10 * (l.length - i) + 1 ≤ n → 10 * (l.length - i) + 1 ≤ m → ∀ j, i < j → j ≤ l.length → TwB b l b' l' o sh D j ((g45 n).f89 (D : Int) (cur b l j 0)) ((g45 m).f89 (D : Int) (cur b' l' (j + o) 0)) := by
      intro n m hn hm j h1 h2
      obtain ⟨n, rfl⟩ : ∃ n', n = n' + 1 := ⟨n - 1, by omega⟩
      obtain ⟨m, rfl⟩ : ∃ n', m = n' + 1 := ⟨m - 1, by omega⟩
      rw [g45_f89, g45_f89]
      refine tw_block A h2 (fun h3 h4 => ?_)
      obtain ⟨n, rfl⟩ : ∃ n', n = n' + 1 := ⟨n - 1, by omega⟩
      obtain ⟨m, rfl⟩ : ∃ n', m = n' + 1 := ⟨m - 1, by omega⟩
      rw [g45_f48, g45_f48]
      exact tw_row A (by omega) h3 (fun k h5 h6 => hS k (D + 1) n m (by omega) h6 (by omega) (by omega) (by omega))
    obtain ⟨n, rfl⟩ : ∃ n', n = n' + 1 + 1 + 1 := ⟨n - 3, by omega⟩
    obtain ⟨m, rfl⟩ : ∃ n', m = n' + 1 + 1 + 1 := ⟨m - 3, by omega⟩
    have key := tw_read A hd i hi (hB (n + 1) (m + 1) (by omega) (by omega)) (hB n m (by omega) (by omega))
    rw [g45_f45, g45_f45]
    unfold b45
    rw [c26, Option.bind_some, c26, Option.bind_some, g45_f69, g45_f69, g45_f88, g45_f88]
    rcases key with ⟨s, s', j, p1, p2, p3, p4, p5, p6, p7⟩ | ⟨err, c, s, p0, p1⟩
    · unfold stK at p1 p2
      rw [p1, Option.bind_some, p2, Option.bind_some]
      dsimp only
      rw [show ((0 : Int) != 0) = false from rfl, cond_false, cond_false, eta79, eta79]
      exact .inl ⟨s, s', j, rfl, rfl, p3, p4, p5, p6, p7⟩
    · unfold stK at p1
      rw [p1, Option.bind_some]
      dsimp only
      rw [b0' p0, cond_true]
      exact .inr ⟨err, _, _, p0, rfl⟩
end
theorem lp40 {f : List S79 → List S79 → Option Bool} {L : List S79} (hl : L.length ≤ 100000) (hf : ∀ x ∈ L, s16 (⟨x.c9, x.c10, x.c11, x.c12, x.c13, x.c14⟩ : S27) (⟨x.c9, x.c10, x.c11, x.c12, x.c13, x.c14⟩ : S27) = some true ∧ f x.c15 x.c15 = some true ∧ f x.c16 x.c16 = some true) :
    ∀ (n i : Nat), i ≤ L.length → L.length - i < n → ∃ v, lp40_4 s16 f n L L (i : Int) = some (Sum.inr v) := by
  intro n
  induction n with
  | zero => intro i h1 h2; omega
  | succ n ih =>
    intro i h1 h2
    unfold lp40_4 lb40_4
    dsimp only
    by_cases hi : i < L.length
    · have e1 : L.getD (i : Int).toNat z79 = L[i] := by simp [List.getD_eq_getElem?_getD, hi]
      have hw : (decide (0 ≤ (i : Int)) && decide ((i : Int) < (L.length : Int))) = true := by simp; omega
      obtain ⟨f1, f2, f3⟩ := hf _ (List.getElem_mem hi)
      generalize hx : L[i] = x at e1 f1 f2 f3
      rw [cond_t _ _ (dec_t (by omega)), when_t _ hw, when_t _ hw, e1, show (x.c0 != x.c0) = false from by simp, cond_false, show (x.c1 != x.c1) = false from by simp, cond_false, show (!(x.c2.toList == x.c2.toList)) = false from by simp, cond_false, show (x.c3 != x.c3) = false from by simp, cond_false,
        show (!((x.c4 == x.c4) && ((x.c5 == x.c5) && ((x.c6.toList == x.c6.toList) && ((x.c7 == x.c7) && ((x.c8 == x.c8) && true)))))) = false from by simp, cond_false, f1, Option.bind_some, Bool.not_true, cond_false, f2, Option.bind_some, Bool.not_true, cond_false, f3, Option.bind_some, Bool.not_true, cond_false, wn i (by omega)]
      exact ih (i + 1) hi (by omega)
    · rw [cond_f _ _ (dec_f (by omega))]
      exact ⟨_, rfl⟩
theorem g40_ok : ∀ (n : Nat) (L : List S79), nstl L < n → nstl L ≤ 100000 → (g40 n).f40 L L = some true := by
  intro n
  induction n with
  | zero => intro L h; omega
  | succ n ih =>
    intro L h hs
    rw [show (g40 (n + 1)).f40 L L = b40 s16 (g40 n).f40 (lp40_4 s16 (g40 n).f40 big) L L some from rfl]
    unfold b40
    have h1 := nstl_len L
    obtain ⟨v, hv⟩ := lp40 (f := (g40 n).f40) (L := L) (by omega) (fun x hx => by
      have h2 := nstl_mem _ _ hx
      rw [nst_c] at h2
      exact ⟨t16 _ (by simp only [nds]; omega), ih _ (by omega) (by omega), ih _ (by omega) (by omega)⟩) big 0 (by omega) (big_lt (by omega))
    rw [show ((0 : Nat) : Int) = 0 from rfl] at hv
    rw [show ((L.length : Int) != (L.length : Int)) = false from by simp, cond_false, hv]
    rfl
theorem t40 (L : List S79) (h : nstl L ≤ 100000) : s40 L L = some true := g40_ok big L (by have : nstl L < big := big_lt (by omega); omega) h
theorem lp47 {f : List S79 → Option Int} {L : List S79} (hl : L.length ≤ 100000) (hd : dpl L ≤ 32) (hf : ∀ x ∈ L, x.c0 = 2 ∨ x.c0 = 3 → f x.c15 = some (dpl x.c15 : Int) ∧ f x.c16 = some (dpl x.c16 : Int)) :
    ∀ (n i v : Nat), i ≤ L.length → L.length - i < n → v ≤ 32 → dpl (L.drop i) ≤ 32 → lp47_3 f n L (v : Int) (i : Int) = some (((max v (dpl (L.drop i)) : Nat) : Int), (L.length : Int)) := by
  intro n
  induction n with
  | zero => intro i v h1 h2; omega
  | succ n ih =>
    intro i v h1 h2 h3 h4
    unfold lp47_3 lb47_3
    dsimp only
    by_cases hi : i < L.length
    · have e1 : L.getD (i : Int).toNat z79 = L[i] := by simp [List.getD_eq_getElem?_getD, hi]
      have hw : (decide (0 ≤ (i : Int)) && decide ((i : Int) < (L.length : Int))) = true := by simp; omega
      have f1 := hf _ (List.getElem_mem hi)
      rw [List.drop_eq_getElem_cons hi] at h4 ⊢
      generalize hx : L[i] = x at e1 f1 h4 ⊢
      simp only [dpl] at h4 ⊢
      have hdp := dp1_c x
      rw [cond_t _ _ (dec_t (by omega)), when_t _ hw, e1, when_t _ hw, when_t _ hw]
      by_cases c2 : x.c0 = 2
      · obtain ⟨f2, f3⟩ := f1 (.inl c2)
        rw [if_pos (.inl c2)] at hdp
        rw [show (x.c0 == 2) = true from by simp [c2], cond_true, f2, Option.bind_some, when_t _ hw, f3, Option.bind_some, wn i (by omega)]
        have e3 : w64 (1 + (dpl x.c15 : Int)) = ((1 + dpl x.c15 : Nat) : Int) := by rw [w64_id (by omega) (by omega)]; omega
        have e4 : w64 (1 + (dpl x.c16 : Int)) = ((1 + dpl x.c16 : Nat) : Int) := by rw [w64_id (by omega) (by omega)]; omega
        have e5 : (if w64 (1 + (dpl x.c16 : Int)) > (if w64 (1 + (dpl x.c15 : Int)) > (v : Int) then w64 (1 + (dpl x.c15 : Int)) else (v : Int)) then w64 (1 + (dpl x.c16 : Int)) else (if w64 (1 + (dpl x.c15 : Int)) > (v : Int) then w64 (1 + (dpl x.c15 : Int)) else (v : Int))) = ((max v (dp1 x) : Nat) : Int) := by
          rw [e3, e4, hdp]
          split <;> split <;> omega
        rw [e5, ih (i + 1) _ (by omega) (by omega) (by omega) (by omega)]
        congr 3
        omega
      · rw [show (x.c0 == 2) = false from by simp [c2], cond_false]
        by_cases c3 : x.c0 = 3
        · obtain ⟨f2, f3⟩ := f1 (.inr c3)
          rw [if_pos (.inr c3)] at hdp
          rw [show (x.c0 == 3) = true from by simp [c3], cond_true, f2, Option.bind_some, when_t _ hw, f3, Option.bind_some, wn i (by omega)]
          have e3 : w64 (1 + (dpl x.c15 : Int)) = ((1 + dpl x.c15 : Nat) : Int) := by rw [w64_id (by omega) (by omega)]; omega
          have e4 : w64 (1 + (dpl x.c16 : Int)) = ((1 + dpl x.c16 : Nat) : Int) := by rw [w64_id (by omega) (by omega)]; omega
          have e5 : (if w64 (1 + (dpl x.c16 : Int)) > (if w64 (1 + (dpl x.c15 : Int)) > (v : Int) then w64 (1 + (dpl x.c15 : Int)) else (v : Int)) then w64 (1 + (dpl x.c16 : Int)) else (if w64 (1 + (dpl x.c15 : Int)) > (v : Int) then w64 (1 + (dpl x.c15 : Int)) else (v : Int))) = ((max v (dp1 x) : Nat) : Int) := by
            rw [e3, e4, hdp]
            split <;> split <;> omega
          rw [e5, ih (i + 1) _ (by omega) (by omega) (by omega) (by omega)]
          congr 3
          omega
        · rw [show (x.c0 == 3) = false from by simp [c3], cond_false, wn i (by omega), ih (i + 1) _ (by omega) (by omega) (by omega) (by omega)]
          rw [if_neg (by omega)] at hdp
          congr 3
          omega
    · rw [cond_f _ _ (dec_f (by omega))]
      have : i = L.length := by omega
      subst this
      simp [dpl]
theorem dpl_mem : ∀ (L : List S79) (x : S79), x ∈ L → dp1 x ≤ dpl L
  | y :: ys, x, h => by
    simp only [dpl]
    cases h with
    | head => omega
    | tail _ h => have := dpl_mem ys x h; omega
theorem g47_ok : ∀ (n : Nat) (L : List S79), dpl L < n → dpl L ≤ 32 → nstl L ≤ 100000 → (g47 n).f47 L = some (dpl L : Int) := by
  intro n
  induction n with
  | zero => intro L h; omega
  | succ n ih =>
    intro L h hs hl
    rw [show (g47 (n + 1)).f47 L = b47 (g47 n).f47 (lp47_3 (g47 n).f47 big) L some from rfl]
    unfold b47
    have h1 := nstl_len L
    have hv := lp47 (f := (g47 n).f47) (L := L) (by omega) hs (fun x hx hc => by
      have h2 := dpl_mem _ _ hx
      have h3 := nstl_mem _ _ hx
      rw [nst_c] at h3
      rw [dp1_c, if_pos hc] at h2
      exact ⟨ih _ (by omega) (by omega) (by omega), ih _ (by omega) (by omega) (by omega)⟩) big 0 0 (by omega) (big_lt (by omega)) (by omega) (by simpa using hs)
    rw [show ((0 : Nat) : Int) = 0 from rfl] at hv
    rw [hv]
    simp
theorem t47 (L : List S79) (h : dpl L ≤ 32) (hl : nstl L ≤ 100000) : s47 L = some (dpl L : Int) := g47_ok big L (by have : dpl L < big := big_lt (by omega); omega) h hl
end Go.Proofs.Ytogfofcocidmkaa.Pu
