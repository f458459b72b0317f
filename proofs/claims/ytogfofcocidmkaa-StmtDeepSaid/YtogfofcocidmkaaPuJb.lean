/- The plain functions, read: the same tokens further on are read as the same expression further on. -/
import Derived.Test.YtogfofcocidmkaaPuE
set_option linter.unusedVariables false
set_option linter.unusedSimpArgs false
namespace Go.Proofs.Ytogfofcocidmkaa.Pu
open Go.RowKit Go.Proofs Ev
mutual
def shE (s : Int) : S27 → S27
  | ⟨k, a, n, x, y, l⟩ => ⟨k, a + s, n, x, y, shL s l⟩
def shL (s : Int) : List S27 → List S27
  | [] => []
  | x :: xs => shE s x :: shL s xs
end
mutual
theorem hgt_sh (s : Int) : ∀ e : S27, hgt (shE s e) = hgt e
  | ⟨k, a, n, x, y, l⟩ => by simp only [shE, hgt, hgts_sh s l]
theorem hgts_sh (s : Int) : ∀ l : List S27, hgts (shL s l) = hgts l
  | [] => rfl
  | x :: xs => by simp only [shL, hgts, hgt_sh s x, hgts_sh s xs]
end
mutual
theorem nds_sh (s : Int) : ∀ e : S27, nds (shE s e) = nds e
  | ⟨k, a, n, x, y, l⟩ => by simp only [shE, nds, ndss_sh s l]
theorem ndss_sh (s : Int) : ∀ l : List S27, ndss (shL s l) = ndss l
  | [] => rfl
  | x :: xs => by simp only [shL, ndss, nds_sh s x, ndss_sh s xs]
end
mutual
theorem shE_zero : ∀ e : S27, shE 0 e = e
  | ⟨k, a, n, x, y, l⟩ => by simp only [shE, shL_zero l, Int.add_zero]
theorem shL_zero : ∀ l : List S27, shL 0 l = l
  | [] => rfl
  | x :: xs => by simp only [shL, shE_zero x, shL_zero xs]
end
mutual
theorem shE_add (s t : Int) : ∀ e : S27, shE t (shE s e) = shE (s + t) e
  | ⟨k, a, n, x, y, l⟩ => by simp only [shE, shL_add s t l, Int.add_assoc]
theorem shL_add (s t : Int) : ∀ l : List S27, shL t (shL s l) = shL (s + t) l
  | [] => rfl
  | x :: xs => by simp only [shL, shE_add s t x, shL_add s t xs]
end
theorem shL_app (s : Int) : ∀ l m : List S27, shL s (l ++ m) = shL s l ++ shL s m
  | [], m => rfl
  | x :: xs, m => by simp only [List.cons_append, shL, shL_app s xs m]
theorem shE_c1 (s : Int) (e : S27) : (shE s e).c1 = e.c1 + s := by cases e; rfl
theorem shE_c5 (s : Int) (e : S27) : (shE s e).c5 = shL s e.c5 := by cases e; rfl
def shN (s : Int) : NT → NT
  | .bl lv e => .bl lv (shE s e)
  | .al acc => .al (shL s acc)
  | nt => nt
def shX (s : Int) : NT → S27 → S27
  | .al _, e => mkL (shL s e.c5)
  | _, e => shE s e
def shR (s : Int) (nt : NT) (r : S27 × Int × Nat) : S27 × Int × Nat := (if r.2.1 = 0 then shX s nt r.1 else r.1, r.2)
theorem shR_err (s : Int) (nt : NT) {e : S27} {err : Int} {j : Nat} (h : err ≠ 0) : shR s nt (e, err, j) = (e, err, j) := by unfold shR; rw [if_neg h]
theorem shR_ok (s : Int) (nt : NT) {e : S27} {j : Nat} : shR s nt (e, 0, j) = (shX s nt e, 0, j) := by unfold shR; rw [if_pos rfl]
theorem held_sh (s : Int) (nt : NT) (hn : ∀ e, shX s nt e = shE s e) (e : S27) (told j : Nat) : shR s nt (heldR e told j) = heldR (shE s e) told j := by
  unfold heldR
  rw [hgt_sh]
  split
  · exact shR_err _ _ (by decide)
  · rw [shR_ok, hn]
section
variable {b b' : List Int} {l l' : List S51} {s : Int}
theorem Bs.shift (hT : ∀ i, tx b' l' i = tx b l i) (hP : ∀ i, ps b' l' i = ps b l i + s) (hK : ∀ i, kd b' l' i = kd b l i) {nt : NT} {i d : Nat} {r : S27 × Int × Nat} (h : Bs b l nt i d r) : Bs b' l' (shN s nt) i d (shR s nt r) := by
  induction h with
  | bin6 h ih => exact .bin6 ih
  | binE hl h he ih => rw [shR_err _ _ he] at ih ⊢; exact .binE hl ih he
  | bin hl h h2 ih ih2 =>
    rename_i lv i d e j e' err k
    rw [shR_ok] at ih
    by_cases he : err = 0
    · subst he
      rw [shR_ok] at ih2
      rw [if_pos rfl, shR_ok]
      exact Bs.bin hl ih ih2
    · rw [shR_err _ _ he] at ih2
      rw [if_neg he, shR_err _ _ he]
      have := Bs.bin hl ih ih2
      rwa [if_neg he] at this
  | blN h => rw [shR_ok]; exact .blN (by rw [hT]; exact h)
  | blE h h2 he ih => rw [shR_err _ _ he] at ih ⊢; exact .blE (by rw [hT]; exact h) ih he
  | blH h h2 hh ih =>
    rename_i lv e i d m j
    rw [shR_ok] at ih
    rw [shR_err _ _ (by decide)]
    refine .blH (by rw [hT]; exact h) ih ?_
    rw [shE_c1, hT]
    have := hgt_sh s ⟨5, e.c1, 0, tx b l i, ⟨#[]⟩, [e, m]⟩
    simp only [shE, shL] at this
    show 32 < hgt ⟨5, e.c1 + s, 0, tx b l i, ⟨#[]⟩, [shE s e, shE s m]⟩
    omega
  | bl h h2 hh h3 ih ih2 =>
    rename_i lv e i d m j r
    rw [shR_ok] at ih
    have e1 : shE s ⟨5, e.c1, 0, tx b l i, ⟨#[]⟩, [e, m]⟩ = ⟨5, (shE s e).c1, 0, tx b' l' i, ⟨#[]⟩, [shE s e, shE s m]⟩ := by rw [shE_c1, hT]; simp only [shE, shL]
    refine .bl (by rw [hT]; exact h) ih ?_ ?_
    · show ¬ 32 < hgt ⟨5, (shE s e).c1, 0, tx b' l' i, ⟨#[]⟩, [shE s e, shE s m]⟩
      rw [← e1, hgt_sh]
      exact hh
    · show Bs b' l' (.bl lv ⟨5, (shE s e).c1, 0, tx b' l' i, ⟨#[]⟩, [shE s e, shE s m]⟩) j d _
      rw [← e1]
      exact ih2
  | sigN h1 h2 h ih => exact .sigN (by rw [hT]; exact h1) (by rw [hT]; exact h2) ih
  | sigD h1 hd => rw [shR_err _ _ (by decide)]; exact .sigD (by rw [hT]; exact h1) hd
  | sigE h1 hd h he ih => rw [shR_err _ _ he] at ih ⊢; exact .sigE (by rw [hT]; exact h1) hd ih he
  | sig h1 hd h ih =>
    rename_i i d e j
    rw [shR_ok] at ih
    rw [held_sh _ _ (fun _ => rfl)]
    have := Bs.sig (b := b') (l := l') (by rw [hT]; exact h1) hd ih
    rw [hP, hT] at this
    simp only [shE, shL]
    exact this
  | num hk h =>
    rw [shR_ok]
    have := Bs.num (b := b') (l := l') (d := by assumption) (by rw [hK]; exact hk) (by rw [hT]; exact h)
    rw [hP] at this
    exact this
  | numE hk h => rw [shR_err _ _ (by decide)]; exact .numE (by rw [hK]; exact hk) (by rw [hT]; exact h)
  | tru hk h =>
    rw [shR_ok]
    have := Bs.tru (b := b') (l := l') (d := by assumption) (by rw [hK]; exact hk) (by rw [hT]; exact h)
    rw [hP] at this
    exact this
  | fls hk h =>
    rw [shR_ok]
    have := Bs.fls (b := b') (l := l') (d := by assumption) (by rw [hK]; exact hk) (by rw [hT]; exact h)
    rw [hP] at this
    exact this
  | pgr hk h h2 ih => exact .pgr (by rw [hK]; exact hk) (by rw [hT]; exact h) ih
  | pop hk h h2 ih => exact .pop (by rw [hK]; exact hk) (by rw [hT]; exact h) ih
  | pnm hk h1 h2 h3 h4 h ih => exact .pnm (by rw [hK]; exact hk) (by rw [hT]; exact h1) (by rw [hT]; exact h2) (by rw [hT]; exact h3) (by rw [hT]; exact h4) ih
  | grD ht hd => rw [shR_err _ _ (by decide)]; exact .grD (by rw [hT]; exact ht) hd
  | grE ht hd h he ih => rw [shR_err _ _ he] at ih ⊢; exact .grE (by rw [hT]; exact ht) hd ih he
  | grP ht hd h h2 ih => rw [shR_ok] at ih; rw [shR_err _ _ (by decide)]; exact .grP (by rw [hT]; exact ht) hd ih (by rw [hT]; exact h2)
  | grp ht hd h h2 ih => rw [shR_ok] at ih ⊢; exact .grp (by rw [hT]; exact ht) hd ih (by rw [hT]; exact h2)
  | op1 ht h => rw [shR_err _ _ (by decide)]; exact .op1 (by rw [hT]; exact ht) (by rw [hT]; exact h)
  | opD ht h hd => rw [shR_err _ _ (by decide)]; exact .opD (by rw [hT]; exact ht) (by rw [hT]; exact h) hd
  | opE ht h hd h2 he ih => rw [shR_err _ _ he] at ih ⊢; exact .opE (by rw [hT]; exact ht) (by rw [hT]; exact h) hd ih he
  | op2 ht h hd h2 h3 ih => rw [shR_ok] at ih; rw [shR_err _ _ (by decide)]; exact .op2 (by rw [hT]; exact ht) (by rw [hT]; exact h) hd ih (by rw [hT]; exact h3)
  | op3 ht h hd h2 h3 h4 ih => rw [shR_ok] at ih; rw [shR_err _ _ (by decide)]; exact .op3 (by rw [hT]; exact ht) (by rw [hT]; exact h) hd ih (by rw [hT]; exact h3) (by rw [hT]; exact h4)
  | op4 ht h hd h2 h3 h4 h5 ih => rw [shR_ok] at ih; rw [shR_err _ _ (by decide)]; exact .op4 (by rw [hT]; exact ht) (by rw [hT]; exact h) hd ih (by rw [hT]; exact h3) (by rw [hT]; exact h4) (by rw [hT]; exact h5)
  | op5 ht h hd h2 h3 h4 h5 h6 ih => rw [shR_ok] at ih; rw [shR_err _ _ (by decide)]; exact .op5 (by rw [hT]; exact ht) (by rw [hT]; exact h) hd ih (by rw [hT]; exact h3) (by rw [hT]; exact h4) (by rw [hT]; exact h5) (by rw [hT]; exact h6)
  | opn ht h hd h2 h3 h4 h5 h6 ih =>
    rw [shR_ok] at ih
    rw [held_sh _ _ (fun _ => rfl)]
    have := Bs.opn (b := b') (l := l') (by rw [hT]; exact ht) (by rw [hT]; exact h) hd ih (by rw [hT]; exact h3) (by rw [hT]; exact h4) (by rw [hT]; exact h5) (by rw [hT]; exact h6)
    rw [hP, hT] at this
    simp only [shE, shL]
    exact this
  | nm0 h => rw [shR_err _ _ (by decide)]; exact .nm0 (by rw [hT]; exact h)
  | nm1 h h2 h3 => rw [shR_err _ _ (by decide)]; exact .nm1 (by rw [hT]; exact h) (by rw [hT]; exact h2) (by rw [hT]; exact h3)
  | nmV h hx h2 =>
    rename_i i d k x
    rw [shR_ok]
    have := Bs.nmV (b := b') (l := l') (d := d) (by rw [hT]; exact h) (by simp only [hT]; exact hx) (by rw [hT]; exact h2)
    rw [hP] at this
    exact this
  | nmD h hx h2 hd => rw [shR_err _ _ (by decide)]; exact .nmD (by rw [hT]; exact h) (by simp only [hT]; exact hx) (by rw [hT]; exact h2) hd
  | nmE h hx h2 hd h3 he ih => rw [shR_err _ _ he] at ih ⊢; exact .nmE (by rw [hT]; exact h) (by simp only [hT]; exact hx) (by rw [hT]; exact h2) hd ih he
  | nam h hx h2 hd h3 ih =>
    rw [shR_ok] at ih
    rw [held_sh _ _ (fun _ => rfl)]
    have := Bs.nam (b := b') (l := l') (by rw [hT]; exact h) (by simp only [hT]; exact hx) (by rw [hT]; exact h2) hd ih
    rw [hP] at this
    exact this
  | alN h => rw [shR_ok]; exact .alN (by rw [hT]; exact h)
  | alC h ha h2 =>
    rename_i acc i d
    rw [shR_err _ _ (by decide)]
    refine .alC (by rw [hT]; exact h) ?_ (by rw [hT]; exact h2)
    cases acc with
    | nil => exact absurd rfl ha
    | cons x xs => simp [shL]
  | alE h hk h3 he ih =>
    rename_i acc i d k e err j
    rw [shR_err _ _ he] at ih ⊢
    refine .alE (by rw [hT]; exact h) ?_ ih he
    rcases hk with ⟨rfl, h1⟩ | ⟨h1, h2, h3⟩
    · exact .inl ⟨rfl, h1⟩
    · refine .inr ⟨?_, by rw [hT]; exact h2, h3⟩
      cases acc with
      | nil => exact absurd rfl h1
      | cons x xs => simp [shL]
  | al h hk h3 h4 ih ih2 =>
    rename_i acc i d k e j r
    rw [shR_ok] at ih
    have e1 : shN s (.al (acc ++ [e])) = .al (shL s acc ++ [shE s e]) := by simp only [shN, shL_app, shL]
    have e2 : shR s (.al (acc ++ [e])) r = shR s (.al acc) r := rfl
    rw [e1, e2] at ih2
    refine .al (by rw [hT]; exact h) ?_ ih ih2
    rcases hk with ⟨rfl, h1⟩ | ⟨h1, h2, h3⟩
    · exact .inl ⟨rfl, h1⟩
    · refine .inr ⟨?_, by rw [hT]; exact h2, h3⟩
      cases acc with
      | nil => exact absurd rfl h1
      | cons x xs => simp [shL]
end
end Go.Proofs.Ytogfofcocidmkaa.Pu
