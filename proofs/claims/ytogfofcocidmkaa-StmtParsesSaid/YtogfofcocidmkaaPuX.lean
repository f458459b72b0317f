/- The plain functions, read: Stmt and Row, by induction; Same of statements and themselves. -/
import Derived.Test.YtogfofcocidmkaaPuW
import Derived.Test.YtogfofcocidmkaaPuS
set_option linter.unusedVariables false
set_option linter.unusedSimpArgs false
namespace Go.Proofs.Ytogfofcocidmkaa.Pu
open Go.RowKit Go.Proofs Ev
section
variable {b : List Int} {l : List S51}
theorem g45_f45 (n : Nat) (d : Int) (c : S98) : (g45 (n + 1)).f45 d c = b45 s26 (g45 n).f69 d c some := rfl
theorem g45_f69 (n : Nat) (d : Int) (c : S98) (s : S79) : (g45 (n + 1)).f69 d c s = b69 s30 s68 s87 (g45 n).f88 (g45 n).f89 s90 s91 d c s some := rfl
theorem g45_f88 (n : Nat) : (g45 (n + 1)).f88 = fun p2 p0 p1 => b88 s34 (g45 n).f89 s90 p2 p0 p1 some := rfl
theorem g45_f89 (n : Nat) (d : Int) (c : S98) : (g45 (n + 1)).f89 d c = b89 s25 (g45 n).f48 s90 d c some := rfl
theorem g45_f48 (n : Nat) (d : Int) (c : S98) : (g45 (n + 1)).f48 d c = b48 s25 s29 (g45 n).f45 (lp48_4 s25 s29 (g45 n).f45 big) d c some := rfl
theorem g46_f46 (n : Nat) (r : S41) (i d : Int) : (g46 (n + 1)).f46 r i d = b46 s24 s27 s32 s35 s70 (g46 n).f71 s72 s73 r i d some := rfl
theorem g46_f71 (n : Nat) : (g46 (n + 1)).f71 = fun p0 p1 p2 p3 => b71 s24 s35 (g46 n).f92 p0 p1 p2 p3 some := rfl
theorem g46_f92 (n : Nat) (r : S41) (i d : Int) : (g46 (n + 1)).f92 r i d = b92 s24 (g46 n).f67 r i d some := rfl
theorem g46_f67 (n : Nat) (r : S41) (i d : Int) : (g46 (n + 1)).f67 r i d = b67 s24 (g46 n).f46 (lp67_2 s24 (g46 n).f46 big) r i d some := rfl
def I64 (d : Int) : Prop := -9223372036854775808 ≤ d ∧ d < 9223372036854775808
theorem ag_all (g : Good b l) (hD : DigL b l) : ∀ (K : Nat) (i : Nat) (d : Int) (n m : Nat), i ≤ l.length → l.length - i ≤ K → I64 d → 10 * (l.length - i) + 5 ≤ n → 10 * (l.length - i) + 5 ≤ m →
    AgT b l i ((g45 n).f45 d (cur b l i 0)) ((g46 m).f46 (row b l) (i : Int) d) := by
  intro K
  induction K with
  | zero => exact fun i d n m hi hK hd hn hm => stmt_of hi hd hn hm (fun j d n m h1 h2 => by omega)
  | succ K ih => exact fun i d n m hi hK hd hn hm => stmt_of hi hd hn hm (fun j d n m h1 h2 hd hn hm => ih j d n m h2 (by omega) hd hn hm)
where
  stmt_of {i : Nat} {d : Int} {n m : Nat} (hi : i ≤ l.length) (hd : I64 d) (hn : 10 * (l.length - i) + 5 ≤ n) (hm : 10 * (l.length - i) + 5 ≤ m)
      (hS : ∀ (j : Nat) (d : Int) (n m : Nat), i < j → j ≤ l.length → I64 d → 10 * (l.length - j) + 5 ≤ n → 10 * (l.length - j) + 5 ≤ m → AgT b l j ((g45 n).f45 d (cur b l j 0)) ((g46 m).f46 (row b l) (j : Int) d)) :
      AgT b l i ((g45 n).f45 d (cur b l i 0)) ((g46 m).f46 (row b l) (i : Int) d) := by
    have hB : ∀ (n m : Nat), 10 * (l.length - i) + 1 ≤ n → 10 * (l.length - i) + 1 ≤ m → ∀ j, i < j → j ≤ l.length → AgL b l j ((g45 n).f89 d (cur b l j 0)) ((g46 m).f92 (row b l) (j : Int) d) := by
      intro n m hn hm j h1 h2
      obtain ⟨n, rfl⟩ : ∃ n', n = n' + 1 := ⟨n - 1, by omega⟩
      obtain ⟨m, rfl⟩ : ∃ n', m = n' + 1 := ⟨m - 1, by omega⟩
      rw [g45_f89, g46_f92]
      refine ag_block g hd h2 (fun h3 h4 => ?_)
      obtain ⟨n, rfl⟩ : ∃ n', n = n' + 1 := ⟨n - 1, by omega⟩
      obtain ⟨m, rfl⟩ : ∃ n', m = n' + 1 := ⟨m - 1, by omega⟩
      rw [g45_f48, g46_f67]
      have hd' : I64 (d + 1) := ⟨by have := hd.1; omega, by omega⟩
      exact ag_row g h3 (fun k h5 h6 => hS k (d + 1) n m (by omega) (by omega) hd' (by omega) (by omega))
    obtain ⟨n, rfl⟩ : ∃ n', n = n' + 1 + 1 + 1 := ⟨n - 3, by omega⟩
    obtain ⟨m, rfl⟩ : ∃ n', m = n' + 1 + 1 := ⟨m - 2, by omega⟩
    have key := ag_read g hD i hi (hB (n + 1) m (by omega) (by omega)) (hB n m (by omega) (by omega))
    rw [g45_f45, g46_f46, g46_f71]
    unfold b45
    rw [c26, Option.bind_some, g45_f69, g45_f88]
    rcases key with ⟨s, j, p1, p2, p3, p4, p5⟩ | ⟨err, s, j, p0, p1, p2, p3⟩
    · unfold stK at p1
      rw [p1, Option.bind_some, p2]
      dsimp only
      rw [show ((0 : Int) != 0) = false from rfl, cond_false, eta79]
      exact .inl ⟨s, j, rfl, rfl, p3, p4, p5⟩
    · unfold stK at p1
      rw [p1, Option.bind_some, p2]
      dsimp only
      rw [b0' p0, cond_true]
      exact .inr ⟨err, j, p0, rfl, rfl, p3⟩
theorem t45 (g : Good b l) (hD : DigL b l) (i : Nat) (hi : i ≤ l.length) (d : Int) (hd : I64 d) : AgT b l i (s45 d (cur b l i 0)) (s46 (row b l) (i : Int) d) := by
  have hlen := g.llen
  have hb := g.len
  have hB : 10 * (l.length - i) + 5 < big := big_lt (by omega)
  exact ag_all g hD l.length i d big big hi (by omega) hd (by omega) (by omega)
theorem t48 (g : Good b l) (hD : DigL b l) (i : Nat) (hi : i ≤ l.length) (d : Int) (hd : I64 d) : AgL b l i (s48 d (cur b l i 0)) (s67 (row b l) (i : Int) d) := by
  have hlen := g.llen
  have hb := g.len
  obtain ⟨k, hk⟩ : ∃ k, big = k + 1 := ⟨9223372036854775806, rfl⟩
  have hB : 10 * (l.length - i) + 5 < big - 1 := by have : 10 * (l.length - i) + 6 < big := big_lt (by omega); omega
  unfold s48 s67
  rw [hk, g45_f48, g46_f67]
  refine ag_row g hi (fun j h1 h2 => ag_all g hD l.length j d k k (by omega) (by omega) hd (by omega) (by omega))
end
theorem nst_pos (s : S79) : 2 ≤ nst s := by rw [nst_c]; omega
theorem nstl_len : ∀ L : List S79, L.length ≤ nstl L
  | [] => Nat.le_refl _
  | x :: xs => by have := nstl_len xs; have := nst_pos x; simp only [nstl, List.length_cons]; omega
theorem nstl_mem : ∀ (L : List S79) (x : S79), x ∈ L → nst x ≤ nstl L
  | y :: ys, x, h => by
    simp only [nstl]
    cases h with
    | head => omega
    | tail _ h => have := nstl_mem ys x h; omega
theorem lp40 {f : List S79 → List S79 → Option Bool} {L : List S79} (hl : L.length ≤ 100000) (hf : ∀ x ∈ L, s16 (⟨x.c9, x.c10, x.c11, x.c12, x.c13, x.c14⟩ : S27) (⟨x.c9, x.c10, x.c11, x.c12, x.c13, x.c14⟩ : S27) = some true ∧ f x.c15 x.c15 = some true ∧ f x.c16 x.c16 = some true) :
    ∀ (n i : Nat), i ≤ L.length → L.length - i < n → ∃ v, lp40_4 s16 f n L L (i : Int) = some (Sum.inr v) := by
  intro n
  induction n with
  | zero => intro i h1 h2; omega
  | succ n ih =>
    intro i h1 h2
    unfold lp40_4 lb40_4
    dsimp only
    by_cases hi : i < L.length
    · have e1 : L.getD (i : Int).toNat z79 = L[i] := by simp [List.getD_eq_getElem?_getD, hi]
      have hw : (decide (0 ≤ (i : Int)) && decide ((i : Int) < (L.length : Int))) = true := by simp; omega
      obtain ⟨f1, f2, f3⟩ := hf _ (List.getElem_mem hi)
      generalize hx : L[i] = x at e1 f1 f2 f3
      rw [cond_t _ _ (dec_t (by omega)), when_t _ hw, when_t _ hw, e1, show (x.c0 != x.c0) = false from by simp, cond_false, show (x.c1 != x.c1) = false from by simp, cond_false, show (!(x.c2.toList == x.c2.toList)) = false from by simp, cond_false, show (x.c3 != x.c3) = false from by simp, cond_false,
        show (!((x.c4 == x.c4) && ((x.c5 == x.c5) && ((x.c6.toList == x.c6.toList) && ((x.c7 == x.c7) && ((x.c8 == x.c8) && true)))))) = false from by simp, cond_false, f1, Option.bind_some, Bool.not_true, cond_false, f2, Option.bind_some, Bool.not_true, cond_false, f3, Option.bind_some, Bool.not_true, cond_false, wn i (by omega)]
      exact ih (i + 1) hi (by omega)
    · rw [cond_f _ _ (dec_f (by omega))]
      exact ⟨_, rfl⟩
theorem g40_ok : ∀ (n : Nat) (L : List S79), nstl L < n → nstl L ≤ 100000 → (g40 n).f40 L L = some true := by
  intro n
  induction n with
  | zero => intro L h; omega
  | succ n ih =>
    intro L h hs
    rw [show (g40 (n + 1)).f40 L L = b40 s16 (g40 n).f40 (lp40_4 s16 (g40 n).f40 big) L L some from rfl]
    unfold b40
    have h1 := nstl_len L
    obtain ⟨v, hv⟩ := lp40 (f := (g40 n).f40) (L := L) (by omega) (fun x hx => by
      have h2 := nstl_mem _ _ hx
      rw [nst_c] at h2
      exact ⟨t16 _ (by simp only [nds]; omega), ih _ (by omega) (by omega), ih _ (by omega) (by omega)⟩) big 0 (by omega) (big_lt (by omega))
    rw [show ((0 : Nat) : Int) = 0 from rfl] at hv
    rw [show ((L.length : Int) != (L.length : Int)) = false from by simp, cond_false, hv]
    rfl
theorem t40 (L : List S79) (h : nstl L ≤ 100000) : s40 L L = some true := g40_ok big L (by have : nstl L < big := big_lt (by omega); omega) h
end Go.Proofs.Ytogfofcocidmkaa.Pu
