/- The plain functions, read: no statement begins with else; what Parse says of a text that stands in another one. -/
import Derived.Test.YtogfofcocidmkaaPuSd
import Derived.Test.YtogfofcocidmkaaPuZ
set_option linter.unusedVariables false
set_option linter.unusedSimpArgs false
namespace Go.Proofs.Ytogfofcocidmkaa.Pu
open Go.RowKit Go.Proofs Ev
theorem strOf_list (l : List Int) : (strOf l).data.toList = l.map fun n => UInt8.ofNat n.toNat := by
  unfold strOf
  have : ∀ (l : List Int) (r : ByteArray), (l.foldl (fun r n => r.push (UInt8.ofNat n.toNat)) r).data.toList = r.data.toList ++ l.map fun n => UInt8.ofNat n.toNat := by
    intro l
    induction l with
    | nil => intro r; simp
    | cons x xs ih => intro r; rw [List.foldl_cons, ih]; simp [ByteArray.push]
  rw [this]
  rfl
theorem fst1_three {l : List Int} (h : (fst1 l).1 = 3) : (fst1 l).2 = cnt s82 l := by
  unfold fst1 at h ⊢
  split at h
  · cases h
  · split at h
    · cases h
    · split at h
      · cases h
      · split at h
        · rename_i h1 h2 h3 h4
          rw [if_neg h1, if_neg h2, if_neg h3, if_pos h4]
        · split at h
          · cases h
          · split at h <;> cases h
theorem take_cnt (f : Int → Option Bool) : ∀ l : List Int, ∀ x ∈ l.take (cnt f l), tot f x = true
  | [], x, h => by simp at h
  | y :: ys, x, h => by
    cases hy : tot f y with
    | true =>
      have hc : cnt f (y :: ys) = cnt f ys + 1 := by unfold cnt; rw [List.takeWhile_cons, hy, if_pos rfl, List.length_cons]
      rw [hc, List.take_succ_cons] at h
      cases h with
      | head => exact hy
      | tail _ h => exact take_cnt f ys x h
    | false =>
      have : cnt f (y :: ys) = 0 := by unfold cnt; rw [List.takeWhile_cons, hy]; rfl
      rw [this] at h
      cases h
theorem allT_dig {b : List Int} : ∀ (m i : Nat), ∀ t ∈ allT b m i, t.c0 = 3 → ∀ y ∈ (b.take t.c2.toNat).drop t.c1.toNat, tot s82 y = true
  | 0, i, t, h, _ => by cases h
  | m + 1, i, t, h, h3 => by
    simp only [allT] at h
    split at h
    · cases h with
      | head =>
        have hc := fst1_three h3
        simp only [Int.toNat_natCast]
        rw [hc]
        intro y hy
        have e : (b.take (i + cnt s82 (b.drop i))).drop i = (b.drop i).take (cnt s82 (b.drop i)) := by rw [List.drop_take]; congr 1; omega
        rw [e] at hy
        exact take_cnt s82 _ y hy
      | tail _ h => exact allT_dig m _ t h h3
    · cases h
theorem dig82 {x : Int} (h : tot s82 x = true) : 48 ≤ x ∧ x ≤ 57 := by
  unfold tot s82 b82 at h
  by_cases h1 : x ≥ 48
  · by_cases h2 : x ≤ 57
    · omega
    · exfalso
      rw [dec_t h1] at h
      simp [h2] at h
  · exfalso
    rw [dec_f h1] at h
    simp at h
theorem els_kd (b : List Int) (i : Nat) (h : eqs (tx b (live (toks b)) i) ⟨#[101, 108, 115, 101]⟩ = true) : kd b (live (toks b)) i ≠ 3 := by
  intro h3
  have hi := kd_lt h3
  unfold kd at h3
  rw [if_pos hi] at h3
  have hmem : (live (toks b)).getD i z51 ∈ toks b := by
    have : (live (toks b)).getD i z51 = (live (toks b))[i] := by simp [List.getD_eq_getElem?_getD, hi]
    rw [this]
    exact (List.mem_filter.1 (List.getElem_mem hi)).1
  have hd := allT_dig _ _ _ hmem h3
  have he := (eqs_iff _ _).1 h
  unfold tx at he
  rw [if_pos hi] at he
  have hl := congrArg (fun z : ByteArray => z.data.toList) he
  simp only at hl
  rw [strOf_list] at hl
  generalize (b.take ((live (toks b)).getD i z51).c2.toNat).drop ((live (toks b)).getD i z51).c1.toNat = L at hl hd
  cases L with
  | nil => cases hl
  | cons x xs =>
    have h1 := dig82 (hd x (by simp))
    rw [List.map_cons] at hl
    have h2 : UInt8.ofNat x.toNat = 101 := (List.cons.inj hl).1
    have h3 := congrArg UInt8.toNat h2
    rw [UInt8.toNat_ofNat'] at h3
    have h4 : (101 : UInt8).toNat = 101 := rfl
    omega
section
variable {b : List Int} {l : List S51}
theorem els_Bs {i : Nat} (hk : kd b l i ≠ 3) (h : eqs (tx b l i) ⟨#[101, 108, 115, 101]⟩ = true) : Bs b l (.bin 1) i 0 (z27, 11, i) := by
  have e := (eqs_iff _ _).1 h
  have hp : Bs b l .pri i 0 (z27, 11, i) := .pnm hk (by rw [e]; decide +kernel) (by rw [e]; decide +kernel) (by rw [e]; decide +kernel) (by rw [e]; decide +kernel) (.nm0 (by rw [e]; decide +kernel))
  have hs : Bs b l .sig i 0 (z27, 11, i) := .sigN (by rw [e]; decide +kernel) (by rw [e]; decide +kernel) hp
  exact .binE (by decide) (.binE (by decide) (.binE (by decide) (.binE (by decide) (.binE (by decide) (.bin6 hs) (by decide)) (by decide)) (by decide)) (by decide)) (by decide)
theorem els_stmt (g : Good b l) {i : Nat} (hi : i < l.length) (hk : kd b l i ≠ 3) (h : eqs (tx b l i) ⟨#[101, 108, 115, 101]⟩ = true) (n : Nat) (d : Int) : (g45 (n + 1 + 1)).f45 d (cur b l i 0) = some (z79, 11, cur b l i 0) := by
  have hlen := g.llen
  have hb := g.len
  have e := (eqs_iff _ _).1 h
  rw [g45_f45]
  unfold b45
  rw [c26, Option.bind_some, g45_f69]
  unfold b69
  rw [c30 g (by decide +kernel) i 0 (by omega), Option.bind_some, e, if_neg (by decide +kernel)]
  dsimp only
  rw [cond_false, c30 g (by decide +kernel) i 0 (by omega), Option.bind_some, e, if_neg (by decide +kernel)]
  dsimp only
  rw [cond_false, c30 g (by decide +kernel) i 0 (by omega), Option.bind_some, e, if_neg (by decide +kernel)]
  dsimp only
  rw [cond_false, c30 g (by decide +kernel) i 0 (by omega), Option.bind_some, e, if_neg (by decide +kernel)]
  dsimp only
  rw [cond_false]
  unfold s91 b91
  obtain ⟨e', err, j, e34, hB⟩ := t34 g i 0 (by omega) (by omega)
  have := hB.det (els_Bs hk h)
  cases this
  rw [e34, Option.bind_some]
  rfl
/-- What Parse says. -/
theorem t38 {K : Nat} (hK : big = K + 1) (a : List Int) (ha : a.length ≤ 2000) {b' : List Int} {l' : List S51} {o : Nat} {sh : Int} (A : Agr a (live (toks a)) b' l' o sh) :
    ∃ (L L' : List S79) (pos e : Int), s38 a = some (L, pos, e) ∧ dpl L ≤ 32 ∧ nstl L ≤ 100000 ∧ (e = 0 → bad (toks a) = none ∧ (o = 0 ∧ sh = 0 → L' = L) ∧ L'.length = L.length ∧ L.length ≤ 2000 ∧
      ∀ (m : Nat) (accY : List S79), (live (toks a)).length < m → accY.length + (live (toks a)).length ≤ 200000 → ∃ m', m ≤ m' + (live (toks a)).length ∧ lp48_4 s25 s29 (g45 K).f45 m 0 b' l' (o : Int) 0 accY = lp48_4 s25 s29 (g45 K).f45 m' 0 b' l' (((live (toks a)).length + o : Nat) : Int) 0 (accY ++ L')) := by
  have hlen := A.g.llen
  have hch := (toks_chain a).le
  unfold s38 b38
  rw [t50 a (by omega), Option.bind_some, t49 _ (by omega), Option.bind_some]
  cases hb : bad (toks a) with
  | some t =>
    dsimp only
    rw [cond_true]
    exact ⟨[], [], _, _, rfl, by simp [dpl], by simp [nstl], fun h => absurd h (by decide)⟩
  | none =>
    dsimp only
    rw [cond_false, t22 a (by omega), Option.bind_some]
    generalize hl : live (toks a) = l at A hlen
    have hB : 10 * l.length + 10 < big := big_lt (by omega)
    have hs48 : s48 0 (⟨a, l, 0, 0⟩ : S98) = b48 s25 s29 (g45 K).f45 (lp48_4 s25 s29 (g45 K).f45 big) 0 (cur a l 0 0) some := by
      unfold s48
      rw [hK, g45_f48, ← hK]
      rfl
    rw [hs48]
    unfold b48
    have key := tw_loop A (D := 0) (i0 := 0) (f45 := (g45 K).f45) (f45' := (g45 K).f45) (by omega) (fun k h1 h2 => tw_all A l.length k 0 K K h2 (by omega) (by omega) (by omega) (by omega)) big 0 [] (by omega) (by omega) (by omega) (by simp)
    rcases key with ⟨L, L', j, k1, k2, k3, k4, k5, k6, k7, k8, k9⟩ | ⟨err, kk, L, k0, k1⟩
    · have k1' : lp48_4 s25 s29 (g45 K).f45 big 0 (cur a l 0 0).c0 (cur a l 0 0).c1 (cur a l 0 0).c2 (cur a l 0 0).c3 [] = some (.inr (a, l, (j : Int), 0, [] ++ L)) := k1
      rw [k1', Option.bind_some]
      dsimp only [Sum.elim_inr]
      rw [Option.bind_some]
      dsimp only
      rw [show ((0 : Int) == 0) = true from rfl, cond_true, t29, Option.bind_some, t26]
      by_cases hj : l.length ≤ j
      · rw [dec_t hj, Bool.not_true, cond_false]
        have hj2 : j = l.length := by omega
        have hll := nstl_len L
        refine ⟨[] ++ L, L', _, _, rfl, by simpa using k7, by simp only [List.nil_append]; omega, fun _ => ⟨rfl, by simpa using k4, by simpa using k5, by simp only [List.nil_append]; omega, ?_⟩⟩
        intro m accY hm hY
        obtain ⟨m', h1, h2⟩ := k9 m accY (by omega) (by omega)
        rw [hj2] at h1 h2
        rw [Nat.zero_add] at h2
        exact ⟨m', by omega, h2⟩
      · rw [dec_f hj, Bool.not_false, cond_true, Option.bind_some]
        exact ⟨[], [], _, _, rfl, by simp [dpl], by simp [nstl], fun h => absurd h (by decide)⟩
    · have k1' : lp48_4 s25 s29 (g45 K).f45 big 0 (cur a l 0 0).c0 (cur a l 0 0).c1 (cur a l 0 0).c2 (cur a l 0 0).c3 [] = _ := k1
      rw [k1', Option.bind_some]
      dsimp only [Sum.elim_inl]
      rw [Option.bind_some]
      dsimp only
      rw [b0 k0, cond_false, b0' k0, cond_true, t26, Option.bind_some]
      exact ⟨[], [], _, _, rfl, by simp [dpl], by simp [nstl], fun h => absurd h k0⟩
end
end Go.Proofs.Ytogfofcocidmkaa.Pu
