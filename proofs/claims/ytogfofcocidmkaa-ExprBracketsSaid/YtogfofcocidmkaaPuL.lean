/- The plain functions, read: a text between brackets. -/
import Derived.Test.YtogfofcocidmkaaPuK
set_option linter.unusedVariables false
set_option linter.unusedSimpArgs false
namespace Go.Proofs.Ytogfofcocidmkaa.Pu
open Go.RowKit Go.Proofs Ev
theorem cnt_app (f : Int → Option Bool) (hf : tot f 41 = false) : ∀ c : List Int, cnt f (c ++ [41]) = cnt f c
  | [] => by unfold cnt; rw [List.nil_append, List.takeWhile_cons, hf]; rfl
  | x :: xs => by
    have ih := cnt_app f hf xs
    unfold cnt at ih ⊢
    rw [List.cons_append, List.takeWhile_cons, List.takeWhile_cons]
    cases tot f x
    · rfl
    · simp only [if_true, List.length_cons, ih]
theorem strOf_two (x y : Int) : (strOf [x, y]).data.toList = [UInt8.ofNat x.toNat, UInt8.ofNat y.toNat] := rfl
theorem fst1_app (c : List Int) (hc : c ≠ []) (h35 : c.getD 0 0 ≠ 35) : fst1 (c ++ [41]) = fst1 c := by
  have e0 : (c ++ [41]).getD 0 0 = c.getD 0 0 := by cases c with | nil => exact absurd rfl hc | cons x xs => rfl
  unfold fst1
  rw [e0, cnt_app s93 (by decide +kernel), cnt_app s95 (by decide +kernel), cnt_app s82 (by decide +kernel), show (c.getD 0 0 == 35) = false from by simpa using h35]
  have e2 : (decide (1 < (c ++ [41]).length) && fnd (strOf ((c ++ [41]).take 2)) signs2) = (decide (1 < c.length) && fnd (strOf (c.take 2)) signs2) := by
    match c, hc with
    | [x], _ =>
      rw [show decide (1 < ([x] : List Int).length) = false from rfl, Bool.false_and]
      show (true && fnd (strOf [x, 41]) signs2) = false
      simp only [signs2, fnd, tl_eq, strOf_two, Bool.true_and]
      simp
    | x :: y :: ys, _ =>
      rw [show decide (1 < (x :: y :: ys : List Int).length) = true from by simp, show decide (1 < ((x :: y :: ys) ++ [41] : List Int).length) = true from by simp]
      rfl
  rw [e2]
  rfl
theorem allT_app (b : List Int) (hb : ∀ x ∈ b, x ≠ 35) : ∀ (m i : Nat), i ≤ b.length → b.length - i ≤ m → allT (b ++ [41]) (m + 1) i = allT b m i ++ [⟨4, (b.length : Int), ((b.length + 1 : Nat) : Int)⟩] := by
  intro m
  induction m with
  | zero =>
    intro i h1 h2
    have : i = b.length := by omega
    subst this
    show (if b.length < (b ++ [41]).length then _ else _) = _
    rw [if_pos (by simp)]
    have e1 : (b ++ [41]).drop b.length = [41] := by simp
    rw [e1, show fst1 [41] = (4, 1) from by decide +kernel]
    rfl
  | succ m ih =>
    intro i h1 h2
    by_cases hi : i < b.length
    · have e1 : (b ++ [41]).drop i = b.drop i ++ [41] := by rw [List.drop_append]; congr 1; rw [show i - b.length = 0 from by omega]; rfl
      obtain ⟨k1, k2⟩ := fst1_len (b.drop i) (by rw [List.length_drop]; omega)
      rw [List.length_drop] at k2
      show (if i < (b ++ [41]).length then _ else _) = _
      rw [if_pos (by simp; omega), e1, fst1_app (b.drop i) (by intro e; have := congrArg List.length e; simp at this; omega) (by
        have : (b.drop i).getD 0 0 ∈ b := by
          rw [List.drop_eq_getElem_cons hi]
          exact List.getElem_mem hi
        exact hb _ this), ih _ (by omega) (by omega)]
      simp only [allT, if_pos hi, List.cons_append]
    · have : i = b.length := by omega
      subst this
      show (if b.length < (b ++ [41]).length then _ else _) = _
      rw [if_pos (by simp)]
      have e1 : (b ++ [41]).drop b.length = [41] := by simp
      rw [e1, show fst1 [41] = (4, 1) from by decide +kernel]
      simp only [allT, if_neg hi]
      rw [if_neg (by simp)]
      rfl
def brk (b : List Int) : List Int := [40] ++ (b ++ [41])
theorem toks_brk (b : List Int) (hb : ∀ x ∈ b, x ≠ 35) : toks (brk b) = (⟨4, 0, 1⟩ : S51) :: (toks b ++ [(⟨4, (b.length : Int), ((b.length + 1 : Nat) : Int)⟩ : S51)]).map (shT 1) := by
  have hf : fst1 (brk b) = (4, 1) := by
    unfold fst1 brk
    have e0 : ([40] ++ (b ++ [41])).getD 0 0 = (40 : Int) := rfl
    rw [e0, show tot s93 40 = false from by decide +kernel, show ((40 : Int) == 35) = false from rfl, show tot s79 40 = false from by decide +kernel, show tot s82 40 = false from by decide +kernel, show isSign 40 = true from by decide +kernel]
    have e2 : fnd (strOf (([40] ++ (b ++ [41])).take 2)) signs2 = false := by
      have : ∃ y, (([40] ++ (b ++ [41])).take 2) = [(40 : Int), y] := by
        cases b with
        | nil => exact ⟨41, rfl⟩
        | cons x xs => exact ⟨x, rfl⟩
      obtain ⟨y, hy⟩ := this
      rw [hy]
      simp only [signs2, fnd, tl_eq, strOf_two]
      simp
    rw [e2]
    simp
  unfold toks
  have hl : (brk b).length = b.length + 1 + 1 := by unfold brk; simp
  rw [hl]
  show (if 0 < (brk b).length then _ else _) = _
  rw [if_pos (by omega), List.drop_zero, hf]
  simp only [Nat.zero_add]
  have e1 := allT_pre [40] (b ++ [41]) (b.length + 1) 0
  rw [show ([40] : List Int).length + 0 = 1 from rfl, show ([40] : List Int).length = 1 from rfl, allT_app b hb b.length 0 (by omega) (by omega)] at e1
  have e2 : allT (brk b) (b.length + 1) 1 = allT ([40] ++ (b ++ [41])) (b.length + 1) 1 := rfl
  rw [e2, e1]
  rfl
theorem live_app : ∀ l m : List S51, live (l ++ m) = live l ++ live m := by intro l m; unfold live; rw [List.filter_append]
theorem live_brk (b : List Int) (hb : ∀ x ∈ b, x ≠ 35) : live (toks (brk b)) = ⟨4, 0, 1⟩ :: (live (toks b) ++ [(⟨4, (b.length : Int), ((b.length + 1 : Nat) : Int)⟩ : S51)]).map (shT 1) := by
  rw [toks_brk b hb, live_t rfl, live_sh, live_app]
  rfl
theorem bad_brk (b : List Int) (hb : ∀ x ∈ b, x ≠ 35) (h : bad (toks b) = none) : bad (toks (brk b)) = none := by
  rw [toks_brk b hb]
  unfold bad
  rw [List.find?_cons]
  show List.find? _ _ = none
  have e := bad_sh 1 (toks b ++ [(⟨4, (b.length : Int), ((b.length + 1 : Nat) : Int)⟩ : S51)])
  unfold bad at e h
  rw [e, List.find?_append, h]
  rfl
section
variable {b b' : List Int} {l l' : List S51}
theorem Bs.brk (H1 : ∀ i, i < l.length → tx b' l' (i + 1) = tx b l i) (HN : tx b' l' (l.length + 1) = ⟨#[41]⟩) (HP : ∀ i, i ≤ l.length → ps b' l' (i + 1) = ps b l i + 1) (HK : ∀ i, i < l.length → kd b' l' (i + 1) = kd b l i)
    {nt : NT} {i d : Nat} {r : S27 × Int × Nat} (h : Bs b l nt i d r) : ntOk nt → i ≤ l.length → r.2.1 = 0 →
    (∃ j', Bs b' l' (shN 1 nt) (i + 1) (d + 1) (z27, 12, j')) ∨ Bs b' l' (shN 1 nt) (i + 1) (d + 1) (shX 1 nt r.1, 0, r.2.2 + 1) := by
  have fls : ∀ (i : Nat) (s : ByteArray), i ≤ l.length → eqs ⟨#[41]⟩ s = false → eqs (tx b l i) s = false → eqs (tx b' l' (i + 1)) s = false := by
    intro i s hi hs h
    by_cases e : i < l.length
    · rw [H1 i e]; exact h
    · have : i = l.length := by omega
      subst this; rw [HN]; exact hs
  have hheld : ∀ (e : S27) (told j : Nat), (heldR e told j).2.1 = 0 → heldR e told j = (e, 0, j) ∧ ¬ 32 < hgt e := by
    intro e told j h
    unfold heldR at h ⊢
    split at h
    · cases h
    · rename_i hh; rw [if_neg hh]; exact ⟨rfl, hh⟩
  have hres : ∀ (e : S27) (told j : Nat), ¬ 32 < hgt e → heldR (shE 1 e) told j = (shE 1 e, 0, j) := by
    intro e told j h
    unfold heldR
    rw [hgt_sh, if_neg h]
  induction h with
  | bin6 h ih =>
    intro _ hi he
    rcases ih trivial hi he with ⟨j', k⟩ | k
    · exact .inl ⟨j', .bin6 k⟩
    · exact .inr (.bin6 k)
  | binE hl h he ih => intro _ _ e; exact absurd e he
  | bin hl h h2 ih ih2 =>
    rename_i lv i d e j e' err k
    intro ho hi he
    simp only at he
    subst he
    simp only [ntOk] at ho
    have hv := h.inv (by simp only [ntOk]; omega) hi
    rcases ih (by simp only [ntOk]; omega) hi rfl with ⟨j', q⟩ | q
    · exact .inl ⟨j', .binE hl q (by decide)⟩
    · rcases ih2 (by simp only [ntOk]; exact ⟨ho, (hv.2.2.1 rfl).2.2.1 (fun acc => by simp)⟩) hv.2.1 rfl with ⟨j', q2⟩ | q2
      · have := Bs.bin hl q q2
        rw [if_neg (by decide)] at this
        exact .inl ⟨j', this⟩
      · have := Bs.bin hl q q2
        rw [if_pos rfl] at this
        exact .inr this
  | blN h =>
    rename_i lv e i d
    intro ho hi _
    simp only [ntOk] at ho
    refine .inr (.blN ?_)
    by_cases e : i < l.length
    · rw [H1 i e]; exact h
    · have : i = l.length := by omega
      subst this
      rw [HN]
      have : lev ⟨#[41]⟩ = 0 := by decide +kernel
      omega
  | blE h h2 he ih => intro _ _ e; exact absurd e he
  | blH h h2 hh ih => intro _ _ e; cases e
  | bl h h2 hh h3 ih ih2 =>
    rename_i lv e i d m j r
    intro ho hi he
    simp only [ntOk] at ho
    have hlt := lev_lt h ho.1
    have hv := h2.inv (by simp only [ntOk]; omega) hlt
    have hl' : lev (tx b' l' (i + 1)) = lv := by rw [H1 i hlt]; exact h
    rcases ih (by simp only [ntOk]; omega) hlt rfl with ⟨j', q⟩ | q
    · exact .inl ⟨j', .blE hl' q (by decide)⟩
    · have e1 : shE 1 ⟨5, e.c1, 0, tx b l i, ⟨#[]⟩, [e, m]⟩ = ⟨5, (shE 1 e).c1, 0, tx b' l' (i + 1), ⟨#[]⟩, [shE 1 e, shE 1 m]⟩ := by rw [shE_c1, H1 i hlt]; simp only [shE, shL]
      have hh' : ¬ 32 < hgt ⟨5, (shE 1 e).c1, 0, tx b' l' (i + 1), ⟨#[]⟩, [shE 1 e, shE 1 m]⟩ := by rw [← e1, hgt_sh]; exact hh
      rcases ih2 (by simp only [ntOk]; exact ⟨ho.1, by omega⟩) hv.2.1 he with ⟨j', q2⟩ | q2
      · refine .inl ⟨j', .bl hl' q hh' ?_⟩
        simp only [shN, e1] at q2
        exact q2
      · refine .inr (.bl hl' q hh' ?_)
        simp only [shN, e1] at q2
        exact q2
  | sigN h1 h2 h ih =>
    intro _ hi he
    have hv := h.inv trivial hi
    have hlt := (hv.2.2.1 he).1 rfl
    rcases ih trivial hi he with ⟨j', q⟩ | q
    · exact .inl ⟨j', .sigN (fls _ _ hi (by decide +kernel) h1) (fls _ _ hi (by decide +kernel) h2) q⟩
    · exact .inr (.sigN (fls _ _ hi (by decide +kernel) h1) (fls _ _ hi (by decide +kernel) h2) q)
  | sigD h1 hd => intro _ _ e; cases e
  | sigE h1 hd h he ih => intro _ _ e; exact absurd e he
  | sig h1 hd h ih =>
    rename_i i d e j
    intro _ hi he
    have hlt : i < l.length := by
      cases h0 : eqs (tx b l i) ⟨#[33]⟩ with
      | true => exact tx_lt h0 (by decide +kernel)
      | false => rw [h0] at h1; exact tx_lt h1 (by decide +kernel)
    have h1' : (eqs (tx b' l' (i + 1)) ⟨#[33]⟩ || eqs (tx b' l' (i + 1)) ⟨#[45]⟩) = true := by rw [H1 i hlt]; exact h1
    obtain ⟨c1, c2⟩ := hheld _ _ _ he
    rw [c1]
    by_cases hd' : 32 ≤ d + 1
    · exact .inl ⟨_, .sigD h1' hd'⟩
    · rcases ih trivial hlt rfl with ⟨j', q⟩ | q
      · exact .inl ⟨j', .sigE h1' hd' q (by decide)⟩
      · have := Bs.sig h1' hd' q
        rw [HP i hi, H1 i hlt] at this
        have e1 := hres _ (i + 1) (j + 1) c2
        simp only [shE, shL] at e1
        simp only [shX] at this
        rw [e1] at this
        refine .inr ?_
        simp only [shX, shE, shL]
        exact this
  | num hk h =>
    rename_i i d v
    intro _ hi _
    have hlt := kd_lt hk
    have := Bs.num (b := b') (l := l') (d := d + 1) (by rw [HK i hlt]; exact hk) (by rw [H1 i hlt]; exact h)
    rw [HP i hi] at this
    exact .inr this
  | numE hk h => intro _ _ e; cases e
  | tru hk h =>
    rename_i i d
    intro _ hi _
    have hlt := tx_lt h (by decide +kernel)
    have := Bs.tru (b := b') (l := l') (d := d + 1) (by rw [HK i hlt]; exact hk) (by rw [H1 i hlt]; exact h)
    rw [HP i hi] at this
    exact .inr this
  | fls hk h =>
    rename_i i d
    intro _ hi _
    have hlt := tx_lt h (by decide +kernel)
    have := Bs.fls (b := b') (l := l') (d := d + 1) (by rw [HK i hlt]; exact hk) (by rw [H1 i hlt]; exact h)
    rw [HP i hi] at this
    exact .inr this
  | pgr hk h h2 ih =>
    intro _ hi he
    have hlt := tx_lt h (by decide +kernel)
    rcases ih trivial hi he with ⟨j', q⟩ | q
    · exact .inl ⟨j', .pgr (by rw [HK _ hlt]; exact hk) (by rw [H1 _ hlt]; exact h) q⟩
    · exact .inr (.pgr (by rw [HK _ hlt]; exact hk) (by rw [H1 _ hlt]; exact h) q)
  | pop hk h h2 ih =>
    intro _ hi he
    have hlt := tx_lt h (by decide +kernel)
    rcases ih trivial hi he with ⟨j', q⟩ | q
    · exact .inl ⟨j', .pop (by rw [HK _ hlt]; exact hk) (by rw [H1 _ hlt]; exact h) q⟩
    · exact .inr (.pop (by rw [HK _ hlt]; exact hk) (by rw [H1 _ hlt]; exact h) q)
  | pnm hk h1 h2 h3 h4 h ih =>
    intro _ hi he
    have hv := h.inv trivial hi
    have hlt : _ < l.length := Nat.lt_of_lt_of_le ((hv.2.2.1 he).1 rfl) hv.2.1
    rcases ih trivial hi he with ⟨j', q⟩ | q
    · exact .inl ⟨j', .pnm (by rw [HK _ hlt]; exact hk) (by rw [H1 _ hlt]; exact h1) (by rw [H1 _ hlt]; exact h2) (by rw [H1 _ hlt]; exact h3) (by rw [H1 _ hlt]; exact h4) q⟩
    · exact .inr (.pnm (by rw [HK _ hlt]; exact hk) (by rw [H1 _ hlt]; exact h1) (by rw [H1 _ hlt]; exact h2) (by rw [H1 _ hlt]; exact h3) (by rw [H1 _ hlt]; exact h4) q)
  | grD ht hd => intro _ _ e; cases e
  | grE ht hd h he ih => intro _ _ e; exact absurd e he
  | grP ht hd h h2 ih => intro _ _ e; cases e
  | grp ht hd h h2 ih =>
    rename_i i d e j
    intro _ hi he
    have hlt := tx_lt ht (by decide +kernel)
    have hj := tx_lt h2 (by decide +kernel)
    have ht' : eqs (tx b' l' (i + 1)) ⟨#[40]⟩ = true := by rw [H1 i hlt]; exact ht
    by_cases hd' : 32 ≤ d + 1
    · exact .inl ⟨_, .grD ht' hd'⟩
    · rcases ih (by simp [ntOk]) hlt rfl with ⟨j', q⟩ | q
      · exact .inl ⟨j', .grE ht' hd' q (by decide)⟩
      · exact .inr (.grp ht' hd' q (by rw [H1 j hj]; exact h2))
  | op1 ht h => intro _ _ e; cases e
  | opD ht h hd => intro _ _ e; cases e
  | opE ht h hd h2 he ih => intro _ _ e; exact absurd e he
  | op2 ht h hd h2 h3 ih => intro _ _ e; cases e
  | op3 ht h hd h2 h3 h4 ih => intro _ _ e; cases e
  | op4 ht h hd h2 h3 h4 h5 ih => intro _ _ e; cases e
  | op5 ht h hd h2 h3 h4 h5 h6 ih => intro _ _ e; cases e
  | opn ht h hd h2 h3 h4 h5 h6 ih =>
    rename_i i d e j
    intro _ hi he
    have hlt := tx_lt ht (by decide +kernel)
    have hlt2 := tx_lt h (by decide +kernel)
    have hj := tx_lt h6 (by decide +kernel)
    have ht' : eqs (tx b' l' (i + 1)) ⟨#[100, 101, 99, 108, 97, 115, 115, 105, 102, 121]⟩ = true := by rw [H1 i hlt]; exact ht
    have h' : eqs (tx b' l' (i + 1 + 1)) ⟨#[40]⟩ = true := by rw [H1 (i + 1) hlt2]; exact h
    obtain ⟨c1, c2⟩ := hheld _ _ _ he
    rw [c1]
    by_cases hd' : 32 ≤ d + 1
    · exact .inl ⟨_, .opD ht' h' hd'⟩
    · rcases ih (by simp [ntOk]) (by omega) rfl with ⟨j', q⟩ | q
      · exact .inl ⟨j', .opE ht' h' hd' q (by decide)⟩
      · have := Bs.opn ht' h' hd' q (by rw [H1 j (by omega)]; exact h3) (by rw [H1 (j + 1) (by omega)]; exact h4) (by rw [show j + 1 + 2 = (j + 2) + 1 from by omega, H1 (j + 2) (by omega)]; exact h5) (by rw [show j + 1 + 3 = (j + 3) + 1 from by omega, H1 (j + 3) (by omega)]; exact h6)
        rw [HP i hi, show j + 1 + 2 = (j + 2) + 1 from by omega, H1 (j + 2) (by omega), show j + 1 + 4 = j + 4 + 1 from by omega] at this
        have e1 := hres _ (i + 1) (j + 4 + 1) c2
        simp only [shE, shL] at e1
        simp only [shX] at this
        rw [e1] at this
        refine .inr ?_
        simp only [shX, shE, shL]
        exact this
  | nm0 h => intro _ _ e; cases e
  | nm1 h h2 h3 => intro _ _ e; cases e
  | nmV h hx h2 =>
    rename_i i d k x
    intro _ hi _
    have hlt := idn_lt h
    have hk : k ≤ l.length := by
      rcases hx with ⟨k1, k2, k3, _⟩ | ⟨k1, k3, _⟩
      · have := idn_lt k2; omega
      · omega
    have hx' : (eqs (tx b' l' (i + 1 + 1)) ⟨#[46]⟩ = true ∧ idn (tx b' l' (i + 1 + 2)) = true ∧ k + 1 = i + 1 + 3 ∧ x = tx b' l' (i + 1) ++ ((⟨#[46]⟩ : ByteArray) ++ tx b' l' (i + 1 + 2))) ∨ (eqs (tx b' l' (i + 1 + 1)) ⟨#[46]⟩ = false ∧ k + 1 = i + 1 + 1 ∧ x = tx b' l' (i + 1)) := by
      rcases hx with ⟨k1, k2, k3, k4⟩ | ⟨k1, k3, k4⟩
      · have a2 := idn_lt k2
        have a1 := tx_lt k1 (by decide +kernel)
        exact .inl ⟨by rw [H1 (i + 1) a1]; exact k1, by rw [show i + 1 + 2 = (i + 2) + 1 from by omega, H1 (i + 2) a2]; exact k2, by omega, by rw [H1 i hlt, show i + 1 + 2 = (i + 2) + 1 from by omega, H1 (i + 2) a2]; exact k4⟩
      · exact .inr ⟨fls (i + 1) _ (by omega) (by decide +kernel) k1, by omega, by rw [H1 i hlt]; exact k4⟩
    have := Bs.nmV (b := b') (l := l') (d := d + 1) (by rw [H1 i hlt]; exact h) hx' (fls k _ hk (by decide +kernel) h2)
    rw [HP i hi] at this
    exact .inr this
  | nmD h hx h2 hd => intro _ _ e; cases e
  | nmE h hx h2 hd h3 he ih => intro _ _ e; exact absurd e he
  | nam h hx h2 hd h3 ih =>
    rename_i i d k x e j
    intro _ hi he
    have hlt := idn_lt h
    have hk := tx_lt h2 (by decide +kernel)
    have hx' : (eqs (tx b' l' (i + 1 + 1)) ⟨#[46]⟩ = true ∧ idn (tx b' l' (i + 1 + 2)) = true ∧ k + 1 = i + 1 + 3 ∧ x = tx b' l' (i + 1) ++ ((⟨#[46]⟩ : ByteArray) ++ tx b' l' (i + 1 + 2))) ∨ (eqs (tx b' l' (i + 1 + 1)) ⟨#[46]⟩ = false ∧ k + 1 = i + 1 + 1 ∧ x = tx b' l' (i + 1)) := by
      rcases hx with ⟨k1, k2, k3, k4⟩ | ⟨k1, k3, k4⟩
      · have a2 := idn_lt k2
        have a1 := tx_lt k1 (by decide +kernel)
        exact .inl ⟨by rw [H1 (i + 1) a1]; exact k1, by rw [show i + 1 + 2 = (i + 2) + 1 from by omega, H1 (i + 2) a2]; exact k2, by omega, by rw [H1 i hlt, show i + 1 + 2 = (i + 2) + 1 from by omega, H1 (i + 2) a2]; exact k4⟩
      · exact .inr ⟨fls (i + 1) _ (by omega) (by decide +kernel) k1, by omega, by rw [H1 i hlt]; exact k4⟩
    have h' : idn (tx b' l' (i + 1)) = true := by rw [H1 i hlt]; exact h
    have h2' : eqs (tx b' l' (k + 1)) ⟨#[40]⟩ = true := by rw [H1 k hk]; exact h2
    obtain ⟨c1, c2⟩ := hheld _ _ _ he
    rw [c1]
    by_cases hd' : 32 ≤ d + 1
    · exact .inl ⟨_, .nmD h' hx' h2' hd'⟩
    · rcases ih (by simp [ntOk]) hk rfl with ⟨j', q⟩ | q
      · exact .inl ⟨j', .nmE h' hx' h2' hd' q (by decide)⟩
      · have := Bs.nam h' hx' h2' hd' q
        rw [HP i hi] at this
        have e1 := hres _ (i + 1) (j + 1 + 1) c2
        simp only [shE] at e1
        simp only [shX, mkL] at this
        rw [e1] at this
        refine .inr ?_
        simp only [shX, shE]
        exact this
  | alN h =>
    rename_i acc i d
    intro _ hi _
    exact .inr (.alN (by rw [H1 i (tx_lt h (by decide +kernel))]; exact h))
  | alC h ha h2 => intro _ _ e; cases e
  | alE h hk h3 he ih => intro _ _ e; exact absurd e he
  | al h hk h3 h4 ih ih2 =>
    rename_i acc i d k e j r
    intro _ hi he
    have hkl : k ≤ l.length := by
      rcases hk with ⟨_, rfl⟩ | ⟨_, k2, rfl⟩
      · exact hi
      · have := tx_lt k2 (by decide +kernel); omega
    have hv := h3.inv (by simp [ntOk]) hkl
    have hkj : k < l.length := Nat.lt_of_lt_of_le ((hv.2.2.1 rfl).1 rfl) hv.2.1
    have hlt : i < l.length := by rcases hk with ⟨_, rfl⟩ | ⟨_, k2, rfl⟩ <;> omega
    have h' : eqs (tx b' l' (i + 1)) ⟨#[41]⟩ = false := by rw [H1 i hlt]; exact h
    have hk' : (shL 1 acc = [] ∧ k + 1 = i + 1) ∨ (shL 1 acc ≠ [] ∧ eqs (tx b' l' (i + 1)) ⟨#[44]⟩ = true ∧ k + 1 = i + 1 + 1) := by
      rcases hk with ⟨rfl, rfl⟩ | ⟨k1, k2, rfl⟩
      · exact .inl ⟨rfl, rfl⟩
      · refine .inr ⟨?_, by rw [H1 i hlt]; exact k2, rfl⟩
        cases acc with
        | nil => exact absurd rfl k1
        | cons x xs => simp [shL]
    rcases ih (by simp [ntOk]) hkl rfl with ⟨j', q⟩ | q
    · exact .inl ⟨j', .alE h' hk' q (by decide)⟩
    · have e1 : shN 1 (.al (acc ++ [e])) = .al (shL 1 acc ++ [shE 1 e]) := by simp only [shN, shL_app, shL]
      rcases ih2 trivial hv.2.1 he with ⟨j', q2⟩ | q2
      · rw [e1] at q2; exact .inl ⟨j', .al h' hk' q q2⟩
      · rw [e1] at q2; exact .inr (.al h' hk' q q2)
end
end Go.Proofs.Ytogfofcocidmkaa.Pu
