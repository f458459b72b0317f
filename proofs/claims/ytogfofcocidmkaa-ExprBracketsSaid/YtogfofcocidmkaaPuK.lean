/- The plain functions, read: a text with blanks ahead. -/
import Derived.Test.YtogfofcocidmkaaPuJ
set_option linter.unusedVariables false
set_option linter.unusedSimpArgs false
namespace Go.Proofs.Ytogfofcocidmkaa.Pu
open Go.RowKit Go.Proofs Ev
def shT (s : Nat) (t : S51) : S51 := ⟨t.c0, t.c1 + (s : Int), t.c2 + (s : Int)⟩
theorem allT_fuel (b : List Int) : ∀ (m m' i : Nat), b.length - i ≤ m → b.length - i ≤ m' → allT b m i = allT b m' i := by
  intro m
  induction m with
  | zero =>
    intro m' i h1 h2
    cases m' with
    | zero => rfl
    | succ m' => simp only [allT]; rw [if_neg (by omega)]
  | succ m ih =>
    intro m' i h1 h2
    cases m' with
    | zero => simp only [allT]; rw [if_neg (by omega)]
    | succ m' =>
      simp only [allT]
      split
      · rename_i hi
        obtain ⟨k1, k2⟩ := fst1_len (b.drop i) (by rw [List.length_drop]; omega)
        rw [ih m' _ (by omega) (by omega)]
      · rfl
theorem allT_pre (p b : List Int) : ∀ (m i : Nat), allT (p ++ b) m (p.length + i) = (allT b m i).map (shT p.length) := by
  intro m
  induction m with
  | zero => intro i; rfl
  | succ m ih =>
    intro i
    simp only [allT]
    have e1 : (p ++ b).drop (p.length + i) = b.drop i := by simp
    rw [e1]
    by_cases hi : i < b.length
    · rw [if_pos (by simp; omega), if_pos hi, List.map_cons, Nat.add_assoc, ih]
      congr 1
      simp only [shT, S51.mk.injEq, true_and]
      constructor <;> omega
    · rw [if_neg (by simp; omega), if_neg hi]
      rfl
theorem live_sh (s : Nat) : ∀ l : List S51, live (l.map (shT s)) = (live l).map (shT s)
  | [] => rfl
  | x :: xs => by
    rw [List.map_cons]
    by_cases h : (x.c0 != 0 && x.c0 != 1) = true
    · rw [live_t (x := shT s x) h, live_t h, live_sh s xs]; rfl
    · have h' : (x.c0 != 0 && x.c0 != 1) = false := by simpa using h
      rw [live_f (x := shT s x) h', live_f h', live_sh s xs]
theorem bad_sh (s : Nat) : ∀ l : List S51, bad (l.map (shT s)) = (bad l).map (shT s)
  | [] => rfl
  | x :: xs => by
    have ih := bad_sh s xs
    unfold bad at ih ⊢
    rw [List.map_cons, List.find?_cons, List.find?_cons]
    show (match x.c0 == 5 with | true => some (shT s x) | false => _) = _
    cases x.c0 == 5
    · exact ih
    · rfl
theorem cnt_rep (k : Nat) (b : List Int) : cnt s93 (List.replicate k 32 ++ b) = k + cnt s93 b := by
  induction k with
  | zero => simp
  | succ k ih =>
    have h : tot s93 32 = true := by decide +kernel
    unfold cnt at ih ⊢
    rw [List.replicate_succ, List.cons_append, List.takeWhile_cons, h, if_pos rfl, List.length_cons, ih]
    omega
theorem toks_blank (k : Nat) (b : List Int) : live (toks (List.replicate k 32 ++ b)) = (live (toks b)).map (shT k) ∧ bad (toks (List.replicate k 32 ++ b)) = (bad (toks b)).map (shT k) := by
  cases k with
  | zero =>
    have e : ∀ t, shT 0 t = t := fun t => by cases t; simp [shT]
    have e2 : shT 0 = id := funext e
    simp [e2]
  | succ k =>
    have hlen : (List.replicate (k + 1) (32 : Int) ++ b).length = k + 1 + b.length := by simp
    have hf : fst1 (List.replicate (k + 1) 32 ++ b) = (0, k + 1 + cnt s93 b) := by
      unfold fst1
      rw [if_pos (by rw [List.replicate_succ, List.cons_append]; exact (by decide +kernel : tot s93 32 = true)), cnt_rep]
    have h1 : toks (List.replicate (k + 1) 32 ++ b) = ⟨0, 0, ((k + 1 + cnt s93 b : Nat) : Int)⟩ :: (allT b (k + b.length) (cnt s93 b)).map (shT (k + 1)) := by
      unfold toks
      rw [hlen, show k + 1 + b.length = (k + b.length) + 1 from by omega]
      have e1 := allT_pre (List.replicate (k + 1) 32) b (k + b.length) (cnt s93 b)
      rw [List.length_replicate] at e1
      rw [← e1]
      show (if 0 < (List.replicate (k + 1) (32 : Int) ++ b).length then _ else _) = _
      rw [if_pos (by omega), List.drop_zero, hf]
      simp only [Nat.zero_add]
      rfl
    have h2 : live (allT b (k + b.length) (cnt s93 b)) = live (toks b) ∧ bad (allT b (k + b.length) (cnt s93 b)) = bad (toks b) := by
      by_cases hc : cnt s93 b = 0
      · rw [hc]
        unfold toks
        rw [allT_fuel b (k + b.length) b.length 0 (by omega) (by omega)]
        exact ⟨rfl, rfl⟩
      · cases b with
        | nil => exact absurd rfl hc
        | cons x xs =>
          have hx : tot s93 x = true := by
            cases h : tot s93 x with
            | true => rfl
            | false => exact absurd (by unfold cnt; rw [List.takeWhile_cons, h]; rfl) hc
          have e3 : fst1 (x :: xs) = (0, cnt s93 (x :: xs)) := by
            unfold fst1
            exact if_pos hx
          have e2 : toks (x :: xs) = ⟨0, 0, ((cnt s93 (x :: xs) : Nat) : Int)⟩ :: allT (x :: xs) xs.length (cnt s93 (x :: xs)) := by
            unfold toks
            rw [List.length_cons]
            show (if 0 < (x :: xs).length then _ else _) = _
            rw [if_pos (by simp), List.drop_zero, e3]
            simp only [Nat.zero_add]
            rfl
          have e4 := allT_fuel (x :: xs) (k + (x :: xs).length) xs.length (cnt s93 (x :: xs)) (by simp; omega) (by simp; omega)
          rw [e2, e4]
          refine ⟨(live_f rfl).symm, ?_⟩
          unfold bad
          rw [List.find?_cons]
          rfl
    rw [h1]
    constructor
    · rw [live_f rfl, live_sh, h2.1]
    · show bad (_ :: _) = _
      unfold bad
      rw [List.find?_cons]
      show List.find? _ _ = _
      have := bad_sh (k + 1) (allT b (k + b.length) (cnt s93 b))
      unfold bad at this h2
      rw [this, h2.2]
section
variable {b : List Int} {l : List S51}
theorem getD_sh {k i : Nat} (h : i < l.length) : (l.map (shT k)).getD i z51 = shT k (l.getD i z51) := by
  simp [List.getD_eq_getElem?_getD, h]
theorem tx_sh (g : Good b l) (p : List Int) (i : Nat) : tx (p ++ b) (l.map (shT p.length)) i = tx b l i := by
  unfold tx
  rw [List.length_map]
  by_cases h : i < l.length
  · rw [if_pos h, if_pos h, getD_sh h]
    obtain ⟨s, e, h1, h2, h3, h4, h5⟩ := g.srt.get i h
    simp only [shT, h1, h2]
    congr 1
    have e1 : ((e : Int) + (p.length : Int)).toNat = p.length + e := by omega
    have e2 : ((s : Int) + (p.length : Int)).toNat = p.length + s := by omega
    rw [e1, e2, List.take_append, List.drop_append]
    simp
  · rw [if_neg h, if_neg h]
theorem ps_sh (g : Good b l) (p : List Int) (i : Nat) : ps (p ++ b) (l.map (shT p.length)) i = ps b l i + (p.length : Int) := by
  unfold ps
  rw [List.length_map]
  by_cases h : i < l.length
  · rw [if_pos h, if_pos h, getD_sh h]; rfl
  · rw [if_neg h, if_neg h, List.length_append]; omega
theorem kd_sh (p : List Int) (i : Nat) : kd (p ++ b) (l.map (shT p.length)) i = kd b l i := by
  unfold kd
  rw [List.length_map]
  by_cases h : i < l.length
  · rw [if_pos h, if_pos h, getD_sh h]; rfl
  · rw [if_neg h, if_neg h]
end
theorem PE_later (k : Nat) (b : List Int) (hb : b.length ≤ 100000) {e e2 : S27} {pos pos2 err err2 : Int} (h : PE b e pos err) (h2 : PE (List.replicate k 32 ++ b) e2 pos2 err2) :
    err2 = err ∧ pos2 = pos + k ∧ (err = 0 → e2 = shE k e) := by
  have g := good b hb
  obtain ⟨t1, t2⟩ := toks_blank k b
  unfold PE at h2
  rw [t1, t2] at h2
  have hl : (List.replicate k (32 : Int)).length = k := by simp
  have P := fun i => ps_sh g (List.replicate k 32) i
  have T := fun i => tx_sh g (List.replicate k 32) i
  have K := fun i => kd_sh (b := b) (l := live (toks b)) (List.replicate k 32) i
  rw [hl] at P T K
  rcases h with ⟨t, a1, rfl, rfl, rfl⟩ | ⟨a1, e', err', j, a2, a3⟩
  · rw [a1] at h2
    rcases h2 with ⟨t', c1, rfl, rfl, rfl⟩ | ⟨c1, _⟩
    · simp only [Option.map_some, Option.some.injEq] at c1
      subst c1
      exact ⟨rfl, rfl, fun h => by cases h⟩
    · cases c1
  · rw [a1] at h2
    rcases h2 with ⟨t', c1, _⟩ | ⟨_, e3, err3, j3, c2, c3⟩
    · cases c1
    · have c4 := Bs.shift (s := (k : Int)) T P K a2
      have c5 := c2.det c4
      rw [List.length_map] at c3
      by_cases he : err' = 0
      · subst he
        rw [shR_ok] at c5
        simp only [Prod.mk.injEq] at c5
        obtain ⟨rfl, rfl, rfl⟩ := c5
        rcases a3 with ⟨x, _⟩ | ⟨_, x, rfl, rfl, rfl⟩ | ⟨_, x, rfl, rfl, rfl⟩
        · exact absurd rfl x
        · rcases c3 with ⟨y, _⟩ | ⟨_, y, rfl, rfl, rfl⟩ | ⟨_, y, rfl, rfl, rfl⟩
          · exact absurd rfl y
          · exact ⟨rfl, P _, fun h => by cases h⟩
          · omega
        · rcases c3 with ⟨y, _⟩ | ⟨_, y, rfl, rfl, rfl⟩ | ⟨_, y, rfl, rfl, rfl⟩
          · exact absurd rfl y
          · omega
          · refine ⟨rfl, by simp; omega, fun _ => rfl⟩
      · rw [shR_err _ _ he] at c5
        simp only [Prod.mk.injEq] at c5
        obtain ⟨rfl, rfl, rfl⟩ := c5
        rcases a3 with ⟨_, rfl, rfl, rfl⟩ | ⟨x, _⟩ | ⟨x, _⟩
        · rcases c3 with ⟨_, rfl, rfl, rfl⟩ | ⟨y, _⟩ | ⟨y, _⟩
          · exact ⟨rfl, P _, fun h => absurd h he⟩
          · exact absurd y he
          · exact absurd y he
        · exact absurd x he
        · exact absurd x he
mutual
theorem posE_sh {z s : Int} (hz : z ≤ 100000) (h0 : 0 ≤ s) (hs : s ≤ 1000) : ∀ e : S27, 0 ≤ e.c1 → e.c1 < z → insE z e → posE (shE s e)
  | ⟨k, a, n, x, y, l⟩, h1, h2, h3 => by
    simp only [insE] at h3
    simp only [shE, posE]
    simp only at h1 h2
    exact ⟨⟨by omega, by omega⟩, posL_sh hz h0 hs l a h1 h3⟩
theorem posL_sh {z s : Int} (hz : z ≤ 100000) (h0 : 0 ≤ s) (hs : s ≤ 1000) : ∀ (l : List S27) (a : Int), 0 ≤ a → insL z a l → posL (shL s l)
  | [], _, _, _ => trivial
  | x :: xs, a, ha, h => by
    simp only [insL] at h
    simp only [shL, posL]
    exact ⟨posE_sh hz h0 hs x (by omega) h.1.2.1 h.1.2.2, posL_sh hz h0 hs xs a ha h.2⟩
end
theorem PE_ok {b : List Int} (hb : b.length ≤ 100000) {e : S27} {pos : Int} (h : PE b e pos 0) : nds e ≤ 100000 ∧ 0 ≤ e.c1 ∧ e.c1 < b.length ∧ insE b.length e ∧ hgt e ≤ 32 ∧ pos = b.length := by
  have g := good b hb
  rcases h with ⟨t, _, _, _, x⟩ | ⟨_, e', err', j, k2, k3⟩
  · cases x
  · rcases k3 with ⟨c1, _, _, x⟩ | ⟨_, _, _, _, x⟩ | ⟨rfl, c2, rfl, rfl, _⟩
    · exact absurd x.symm c1
    · cases x
    · have hinv := k2.inv (by simp [ntOk]) (by omega)
      obtain ⟨i1, i2, i3, _⟩ := hinv
      obtain ⟨i4, i5, i6, _⟩ := i3 rfl
      simp only [resN, ntE] at i2 i5 i6
      obtain ⟨k, p1, p2, p3, p4⟩ := k2.pos g (by simp [ntOk]) (by omega) rfl
      simp only at p2 p3 p4
      have hlen := g.llen
      exact ⟨by omega, by rw [p3]; exact g.ps_nn k, by rw [p3]; exact g.ps_len (by omega), p4, i6 (fun acc => by simp), rfl⟩
theorem aw12 : s12 = some true := by decide +kernel
end Go.Proofs.Ytogfofcocidmkaa.Pu
