/- The plain functions, read: what the parser of expressions does, as a relation; it always answers. -/
import Derived.Test.YtogfofcocidmkaaPuC
set_option linter.unusedVariables false
set_option linter.unusedSimpArgs false
namespace Go.Proofs.Ytogfofcocidmkaa.Pu
open Go.RowKit Go.Proofs Ev
def cur (b : List Int) (l : List S51) (i d : Nat) : S98 := ⟨b, l, (i : Int), (d : Int)⟩
def numR : List Int → Int → Option Int
  | [], n => some n
  | x :: xs, n => if n > w64 ((w64 (9223372036854775807 - w64 (w8 (x - 48)))).tdiv 10) then none else numR xs (w64 (w64 (10 * n) + w64 (w8 (x - 48))))
inductive NT where
  | bin (lv : Nat)
  | bl (lv : Nat) (e : S27)
  | sig
  | pri
  | grp
  | opn
  | nam
  | al (acc : List S27)
def mkL (l : List S27) : S27 := ⟨0, 0, 0, ⟨#[]⟩, ⟨#[]⟩, l⟩
section
variable (b : List Int) (l : List S51)
inductive Bs : NT → Nat → Nat → S27 × Int × Nat → Prop where
  | bin6 {i d r} (h : Bs .sig i d r) : Bs (.bin 6) i d r
  | binE {lv i d e err j} (hl : lv < 6) (h : Bs (.bin (lv + 1)) i d (e, err, j)) (he : err ≠ 0) : Bs (.bin lv) i d (z27, err, j)
  | bin {lv i d e j e' err k} (hl : lv < 6) (h : Bs (.bin (lv + 1)) i d (e, 0, j)) (h2 : Bs (.bl lv e) j d (e', err, k)) : Bs (.bin lv) i d (if err = 0 then e' else z27, err, k)
  | blN {lv : Nat} {e i d} (h : lev (tx b l i) ≠ lv) : Bs (.bl lv e) i d (e, 0, i)
  | blE {lv : Nat} {e i d m err j} (h : lev (tx b l i) = lv) (h2 : Bs (.bin (lv + 1)) (i + 1) d (m, err, j)) (he : err ≠ 0) : Bs (.bl lv e) i d (z27, err, j)
  | blH {lv : Nat} {e i d m j} (h : lev (tx b l i) = lv) (h2 : Bs (.bin (lv + 1)) (i + 1) d (m, 0, j)) (hh : 32 < hgt ⟨5, e.c1, 0, tx b l i, ⟨#[]⟩, [e, m]⟩) : Bs (.bl lv e) i d (z27, 12, i)
  | bl {lv : Nat} {e i d m j r} (h : lev (tx b l i) = lv) (h2 : Bs (.bin (lv + 1)) (i + 1) d (m, 0, j)) (hh : ¬ 32 < hgt ⟨5, e.c1, 0, tx b l i, ⟨#[]⟩, [e, m]⟩) (h3 : Bs (.bl lv ⟨5, e.c1, 0, tx b l i, ⟨#[]⟩, [e, m]⟩) j d r) : Bs (.bl lv e) i d r
  | sigN {i d r} (h1 : eqs (tx b l i) ⟨#[33]⟩ = false) (h2 : eqs (tx b l i) ⟨#[45]⟩ = false) (h : Bs .pri i d r) : Bs .sig i d r
  | sigD {i d} (h1 : (eqs (tx b l i) ⟨#[33]⟩ || eqs (tx b l i) ⟨#[45]⟩) = true) (hd : 32 ≤ d) : Bs .sig i d (z27, 12, i)
  | sigE {i d e err j} (h1 : (eqs (tx b l i) ⟨#[33]⟩ || eqs (tx b l i) ⟨#[45]⟩) = true) (hd : ¬ 32 ≤ d) (h : Bs .sig (i + 1) (d + 1) (e, err, j)) (he : err ≠ 0) : Bs .sig i d (z27, err, j)
  | sig {i d e j} (h1 : (eqs (tx b l i) ⟨#[33]⟩ || eqs (tx b l i) ⟨#[45]⟩) = true) (hd : ¬ 32 ≤ d) (h : Bs .sig (i + 1) (d + 1) (e, 0, j)) : Bs .sig i d (heldR ⟨4, ps b l i, 0, tx b l i, ⟨#[]⟩, [e]⟩ i j)
  | num {i d v} (hk : kd b l i = 3) (h : numR (bytesOf (tx b l i)) 0 = some v) : Bs .pri i d (⟨0, ps b l i, v, ⟨#[]⟩, ⟨#[]⟩, []⟩, 0, i + 1)
  | numE {i d} (hk : kd b l i = 3) (h : numR (bytesOf (tx b l i)) 0 = none) : Bs .pri i d (z27, 18, i)
  | tru {i d} (hk : kd b l i ≠ 3) (h : eqs (tx b l i) ⟨#[116, 114, 117, 101]⟩ = true) : Bs .pri i d (⟨1, ps b l i, 1, ⟨#[]⟩, ⟨#[]⟩, []⟩, 0, i + 1)
  | fls {i d} (hk : kd b l i ≠ 3) (h : eqs (tx b l i) ⟨#[102, 97, 108, 115, 101]⟩ = true) : Bs .pri i d (⟨1, ps b l i, 0, ⟨#[]⟩, ⟨#[]⟩, []⟩, 0, i + 1)
  | pgr {i d r} (hk : kd b l i ≠ 3) (h : eqs (tx b l i) ⟨#[40]⟩ = true) (h2 : Bs .grp i d r) : Bs .pri i d r
  | pop {i d r} (hk : kd b l i ≠ 3) (h : eqs (tx b l i) ⟨#[100, 101, 99, 108, 97, 115, 115, 105, 102, 121]⟩ = true) (h2 : Bs .opn i d r) : Bs .pri i d r
  | pnm {i d r} (hk : kd b l i ≠ 3) (h1 : eqs (tx b l i) ⟨#[116, 114, 117, 101]⟩ = false) (h2 : eqs (tx b l i) ⟨#[102, 97, 108, 115, 101]⟩ = false) (h3 : eqs (tx b l i) ⟨#[40]⟩ = false) (h4 : eqs (tx b l i) ⟨#[100, 101, 99, 108, 97, 115, 115, 105, 102, 121]⟩ = false) (h : Bs .nam i d r) : Bs .pri i d r
  | grD {i d} (ht : eqs (tx b l i) ⟨#[40]⟩ = true) (hd : 32 ≤ d) : Bs .grp i d (z27, 12, i)
  | grE {i d e err j} (ht : eqs (tx b l i) ⟨#[40]⟩ = true) (hd : ¬ 32 ≤ d) (h : Bs (.bin 1) (i + 1) (d + 1) (e, err, j)) (he : err ≠ 0) : Bs .grp i d (z27, err, j)
  | grP {i d e j} (ht : eqs (tx b l i) ⟨#[40]⟩ = true) (hd : ¬ 32 ≤ d) (h : Bs (.bin 1) (i + 1) (d + 1) (e, 0, j)) (h2 : eqs (tx b l j) ⟨#[41]⟩ = false) : Bs .grp i d (z27, 11, j)
  | grp {i d e j} (ht : eqs (tx b l i) ⟨#[40]⟩ = true) (hd : ¬ 32 ≤ d) (h : Bs (.bin 1) (i + 1) (d + 1) (e, 0, j)) (h2 : eqs (tx b l j) ⟨#[41]⟩ = true) : Bs .grp i d (e, 0, j + 1)
  | op1 {i d} (ht : eqs (tx b l i) ⟨#[100, 101, 99, 108, 97, 115, 115, 105, 102, 121]⟩ = true) (h : eqs (tx b l (i + 1)) ⟨#[40]⟩ = false) : Bs .opn i d (z27, 11, i + 1)
  | opD {i d} (ht : eqs (tx b l i) ⟨#[100, 101, 99, 108, 97, 115, 115, 105, 102, 121]⟩ = true) (h : eqs (tx b l (i + 1)) ⟨#[40]⟩ = true) (hd : 32 ≤ d) : Bs .opn i d (z27, 12, i + 1)
  | opE {i d e err j} (ht : eqs (tx b l i) ⟨#[100, 101, 99, 108, 97, 115, 115, 105, 102, 121]⟩ = true) (h : eqs (tx b l (i + 1)) ⟨#[40]⟩ = true) (hd : ¬ 32 ≤ d) (h2 : Bs (.bin 1) (i + 2) (d + 1) (e, err, j)) (he : err ≠ 0) : Bs .opn i d (z27, err, j)
  | op2 {i d e j} (ht : eqs (tx b l i) ⟨#[100, 101, 99, 108, 97, 115, 115, 105, 102, 121]⟩ = true) (h : eqs (tx b l (i + 1)) ⟨#[40]⟩ = true) (hd : ¬ 32 ≤ d) (h2 : Bs (.bin 1) (i + 2) (d + 1) (e, 0, j)) (h3 : eqs (tx b l j) ⟨#[44]⟩ = false) : Bs .opn i d (z27, 11, j)
  | op3 {i d e j} (ht : eqs (tx b l i) ⟨#[100, 101, 99, 108, 97, 115, 115, 105, 102, 121]⟩ = true) (h : eqs (tx b l (i + 1)) ⟨#[40]⟩ = true) (hd : ¬ 32 ≤ d) (h2 : Bs (.bin 1) (i + 2) (d + 1) (e, 0, j)) (h3 : eqs (tx b l j) ⟨#[44]⟩ = true) (h4 : eqs (tx b l (j + 1)) ⟨#[64]⟩ = false) : Bs .opn i d (z27, 11, j + 1)
  | op4 {i d e j} (ht : eqs (tx b l i) ⟨#[100, 101, 99, 108, 97, 115, 115, 105, 102, 121]⟩ = true) (h : eqs (tx b l (i + 1)) ⟨#[40]⟩ = true) (hd : ¬ 32 ≤ d) (h2 : Bs (.bin 1) (i + 2) (d + 1) (e, 0, j)) (h3 : eqs (tx b l j) ⟨#[44]⟩ = true) (h4 : eqs (tx b l (j + 1)) ⟨#[64]⟩ = true) (h5 : idn (tx b l (j + 2)) = false) : Bs .opn i d (z27, 11, j + 2)
  | op5 {i d e j} (ht : eqs (tx b l i) ⟨#[100, 101, 99, 108, 97, 115, 115, 105, 102, 121]⟩ = true) (h : eqs (tx b l (i + 1)) ⟨#[40]⟩ = true) (hd : ¬ 32 ≤ d) (h2 : Bs (.bin 1) (i + 2) (d + 1) (e, 0, j)) (h3 : eqs (tx b l j) ⟨#[44]⟩ = true) (h4 : eqs (tx b l (j + 1)) ⟨#[64]⟩ = true) (h5 : idn (tx b l (j + 2)) = true) (h6 : eqs (tx b l (j + 3)) ⟨#[41]⟩ = false) : Bs .opn i d (z27, 11, j + 3)
  | opn {i d e j} (ht : eqs (tx b l i) ⟨#[100, 101, 99, 108, 97, 115, 115, 105, 102, 121]⟩ = true) (h : eqs (tx b l (i + 1)) ⟨#[40]⟩ = true) (hd : ¬ 32 ≤ d) (h2 : Bs (.bin 1) (i + 2) (d + 1) (e, 0, j)) (h3 : eqs (tx b l j) ⟨#[44]⟩ = true) (h4 : eqs (tx b l (j + 1)) ⟨#[64]⟩ = true) (h5 : idn (tx b l (j + 2)) = true) (h6 : eqs (tx b l (j + 3)) ⟨#[41]⟩ = true) : Bs .opn i d (heldR ⟨6, ps b l i, 0, ⟨#[]⟩, tx b l (j + 2), [e]⟩ i (j + 4))
  | nm0 {i d} (h : idn (tx b l i) = false) : Bs .nam i d (z27, 11, i)
  | nm1 {i d} (h : idn (tx b l i) = true) (h2 : eqs (tx b l (i + 1)) ⟨#[46]⟩ = true) (h3 : idn (tx b l (i + 2)) = false) : Bs .nam i d (z27, 11, i + 2)
  | nmV {i d k x} (h : idn (tx b l i) = true) (hx : (eqs (tx b l (i + 1)) ⟨#[46]⟩ = true ∧ idn (tx b l (i + 2)) = true ∧ k = i + 3 ∧ x = tx b l i ++ ((⟨#[46]⟩ : ByteArray) ++ tx b l (i + 2))) ∨ (eqs (tx b l (i + 1)) ⟨#[46]⟩ = false ∧ k = i + 1 ∧ x = tx b l i)) (h2 : eqs (tx b l k) ⟨#[40]⟩ = false) : Bs .nam i d (⟨2, ps b l i, 0, x, ⟨#[]⟩, []⟩, 0, k)
  | nmD {i d k x} (h : idn (tx b l i) = true) (hx : (eqs (tx b l (i + 1)) ⟨#[46]⟩ = true ∧ idn (tx b l (i + 2)) = true ∧ k = i + 3 ∧ x = tx b l i ++ ((⟨#[46]⟩ : ByteArray) ++ tx b l (i + 2))) ∨ (eqs (tx b l (i + 1)) ⟨#[46]⟩ = false ∧ k = i + 1 ∧ x = tx b l i)) (h2 : eqs (tx b l k) ⟨#[40]⟩ = true) (hd : 32 ≤ d) : Bs .nam i d (z27, 12, k)
  | nmE {i d k x e err j} (h : idn (tx b l i) = true) (hx : (eqs (tx b l (i + 1)) ⟨#[46]⟩ = true ∧ idn (tx b l (i + 2)) = true ∧ k = i + 3 ∧ x = tx b l i ++ ((⟨#[46]⟩ : ByteArray) ++ tx b l (i + 2))) ∨ (eqs (tx b l (i + 1)) ⟨#[46]⟩ = false ∧ k = i + 1 ∧ x = tx b l i)) (h2 : eqs (tx b l k) ⟨#[40]⟩ = true) (hd : ¬ 32 ≤ d) (h3 : Bs (.al []) (k + 1) (d + 1) (e, err, j)) (he : err ≠ 0) : Bs .nam i d (z27, err, j)
  | nam {i d k x e j} (h : idn (tx b l i) = true) (hx : (eqs (tx b l (i + 1)) ⟨#[46]⟩ = true ∧ idn (tx b l (i + 2)) = true ∧ k = i + 3 ∧ x = tx b l i ++ ((⟨#[46]⟩ : ByteArray) ++ tx b l (i + 2))) ∨ (eqs (tx b l (i + 1)) ⟨#[46]⟩ = false ∧ k = i + 1 ∧ x = tx b l i)) (h2 : eqs (tx b l k) ⟨#[40]⟩ = true) (hd : ¬ 32 ≤ d) (h3 : Bs (.al []) (k + 1) (d + 1) (e, 0, j)) : Bs .nam i d (heldR ⟨3, ps b l i, 0, x, ⟨#[]⟩, e.c5⟩ i (j + 1))
  | alN {acc i d} (h : eqs (tx b l i) ⟨#[41]⟩ = true) : Bs (.al acc) i d (mkL acc, 0, i)
  | alC {acc i d} (h : eqs (tx b l i) ⟨#[41]⟩ = false) (ha : acc ≠ []) (h2 : eqs (tx b l i) ⟨#[44]⟩ = false) : Bs (.al acc) i d (z27, 11, i)
  | alE {acc i d k e err j} (h : eqs (tx b l i) ⟨#[41]⟩ = false) (hk : (acc = [] ∧ k = i) ∨ (acc ≠ [] ∧ eqs (tx b l i) ⟨#[44]⟩ = true ∧ k = i + 1)) (h3 : Bs (.bin 1) k d (e, err, j)) (he : err ≠ 0) : Bs (.al acc) i d (z27, err, j)
  | al {acc i d k e j r} (h : eqs (tx b l i) ⟨#[41]⟩ = false) (hk : (acc = [] ∧ k = i) ∨ (acc ≠ [] ∧ eqs (tx b l i) ⟨#[44]⟩ = true ∧ k = i + 1)) (h3 : Bs (.bin 1) k d (e, 0, j)) (h4 : Bs (.al (acc ++ [e])) j d r) : Bs (.al acc) i d r
end
section
variable {b : List Int} {l : List S51}
theorem tx_lt {i : Nat} {s : ByteArray} (h : eqs (tx b l i) s = true) (hs : eqs ⟨#[]⟩ s = false) : i < l.length := by
  apply Classical.byContradiction
  intro hn
  rw [tx_end hn, hs] at h
  cases h
theorem idn_lt {i : Nat} (h : idn (tx b l i) = true) : i < l.length := by
  apply Classical.byContradiction
  intro hn
  rw [tx_end hn] at h
  exact absurd h (by decide +kernel)
theorem lev_lt {i lv : Nat} (h : lev (tx b l i) = lv) (hl : 1 ≤ lv) : i < l.length := by
  apply Classical.byContradiction
  intro hn
  rw [tx_end hn] at h
  have : lev ⟨#[]⟩ = 0 := by decide +kernel
  omega
theorem kd_lt {i : Nat} (h : kd b l i = 3) : i < l.length := by
  apply Classical.byContradiction
  intro hn
  unfold kd at h
  rw [if_neg hn] at h
  cases h
def ntE : NT → Nat
  | .bl _ e => nds e
  | .al acc => ndss acc
  | _ => 0
def loopN' : NT → Bool
  | .bl _ _ => true
  | .al _ => true
  | _ => false
def ntOk : NT → Prop
  | .bl lv e => 1 ≤ lv ∧ hgt e ≤ 32
  | .bin lv => 1 ≤ lv
  | _ => True
theorem held_inv {e : S27} {told j : Nat} {e' : S27} {err : Int} {k : Nat} (h : heldR e told j = (e', err, k)) : (e' = z27 ∧ err = 12 ∧ k = told) ∨ (e' = e ∧ err = 0 ∧ k = j ∧ hgt e ≤ 32) := by
  unfold heldR at h
  split at h
  · cases h; exact .inl ⟨rfl, rfl, rfl⟩
  · cases h; exact .inr ⟨rfl, rfl, rfl, by omega⟩
def resN (nt : NT) (e : S27) : Nat := match nt with | .al _ => ndss e.c5 | _ => nds e
/-- What holds of each answer. -/
theorem Bs.inv {nt : NT} {i d : Nat} {r : S27 × Int × Nat} (h : Bs b l nt i d r) : ntOk nt → i ≤ l.length → i ≤ r.2.2 ∧ r.2.2 ≤ l.length ∧ (r.2.1 = 0 → (loopN' nt = false → i < r.2.2) ∧ resN nt r.1 ≤ (r.2.2 - i) + ntE nt ∧ ((∀ acc, nt ≠ .al acc) → hgt r.1 ≤ 32) ∧ (∀ acc, nt = .al acc → eqs (tx b l r.2.2) ⟨#[41]⟩ = true)) ∧ (r.2.1 ≠ 0 → r.1 = z27) := by
  induction h with
  | bin6 h ih => intro _ hi; obtain ⟨h1, h2, h3, h4⟩ := ih trivial hi; exact ⟨h1, h2, fun e => by obtain ⟨k1, k2, k3, k4⟩ := h3 e; exact ⟨k1, k2, fun _ => k3 (fun acc => by simp), fun acc h => (by cases h)⟩, h4⟩
  | binE hl h he ih => intro ho hi; obtain ⟨h1, h2, h3, h4⟩ := ih (by simp only [ntOk] at ho ⊢; omega) hi; exact ⟨h1, h2, fun e => absurd e he, fun _ => (by first | rfl | trivial)⟩
  | bin hl h h2 ih ih2 =>
    rename_i lv i d e j e' err k
    intro ho hi
    simp only [ntOk] at ho
    obtain ⟨a1, a2, a3, a4⟩ := ih (by simp only [ntOk]; omega) hi
    obtain ⟨a5, a6, a7, _⟩ := a3 rfl
    obtain ⟨c1, c2, c3, c4⟩ := ih2 (by simp only [ntOk]; exact ⟨ho, a7 (fun acc => by simp)⟩) a2
    simp only at a1 a2 a5 a6 c1 c2 c3 c4 ⊢
    refine ⟨(by omega), c2, fun e0 => ?_, fun e0 => if_neg e0⟩
    obtain ⟨k1, k2, k3, _⟩ := c3 e0
    simp only [e0, if_true]
    have := a5 rfl
    simp only [resN, ntE] at k2 a6 ⊢
    exact ⟨fun _ => (by omega), (by omega), fun _ => k3 (fun acc => by simp), fun acc h => (by cases h)⟩
  | blN h => intro ho hi; simp only [ntOk] at ho; exact ⟨Nat.le_refl _, hi, fun _ => ⟨fun h => (by cases h), (by simp [resN, ntE]), fun _ => ho.2, fun acc h => (by cases h)⟩, fun h => absurd rfl h⟩
  | blE h h2 he ih =>
    intro ho hi
    simp only [ntOk] at ho
    have := lev_lt h ho.1
    obtain ⟨a1, a2, a3, a4⟩ := ih (by simp only [ntOk]; omega) (by omega)
    simp only at a1 a2 ⊢
    exact ⟨(by omega), a2, fun e => absurd e he, fun _ => (by first | rfl | trivial)⟩
  | blH h h2 hh ih => intro ho hi; exact ⟨Nat.le_refl _, hi, fun e => (by cases e), fun _ => (by first | rfl | trivial)⟩
  | bl h h2 hh h3 ih ih2 =>
    rename_i lv e i d m j r
    intro ho hi
    simp only [ntOk] at ho
    have := lev_lt h ho.1
    obtain ⟨a1, a2, a3, a4⟩ := ih (by simp only [ntOk]; omega) (by omega)
    obtain ⟨a5, a6, a7, _⟩ := a3 rfl
    obtain ⟨c1, c2, c3, c4⟩ := ih2 (by simp only [ntOk]; exact ⟨ho.1, by omega⟩) a2
    simp only at a1 a2 a5 a6 c1 c2 c3 c4 ⊢
    refine ⟨(by omega), c2, fun e0 => ?_, c4⟩
    obtain ⟨k1, k2, k3, _⟩ := c3 e0
    have := a5 rfl
    simp only [resN, ntE, nds, ndss] at k2 a6 ⊢
    exact ⟨(fun h => (by cases h)), (by omega), fun _ => k3 (fun acc => by simp), fun acc h => (by cases h)⟩
  | sigN h1 h2 h ih => intro _ hi; obtain ⟨h1, h2, h3, h4⟩ := ih trivial hi; exact ⟨h1, h2, fun e => by obtain ⟨k1, k2, k3, k4⟩ := h3 e; exact ⟨k1, k2, fun _ => k3 (fun acc => by simp), fun acc h => (by cases h)⟩, h4⟩
  | sigD h1 hd => intro _ hi; exact ⟨Nat.le_refl _, hi, fun e => (by cases e), fun _ => (by first | rfl | trivial)⟩
  | sigE h1 hd h he ih =>
    rename_i i d e err j
    intro _ hi
    have : i < l.length := by
      cases h0 : eqs (tx b l i) ⟨#[33]⟩ with
      | true => exact tx_lt h0 (by decide +kernel)
      | false => rw [h0] at h1; exact tx_lt h1 (by decide +kernel)
    obtain ⟨a1, a2, a3, a4⟩ := ih trivial (by omega)
    simp only at a1 a2 ⊢
    exact ⟨(by omega), a2, fun e => absurd e he, fun _ => (by first | rfl | trivial)⟩
  | sig h1 hd h ih =>
    rename_i i d e j
    intro _ hi
    have : i < l.length := by
      cases h0 : eqs (tx b l i) ⟨#[33]⟩ with
      | true => exact tx_lt h0 (by decide +kernel)
      | false => rw [h0] at h1; exact tx_lt h1 (by decide +kernel)
    obtain ⟨a1, a2, a3, a4⟩ := ih trivial (by omega)
    obtain ⟨a5, a6, a7, _⟩ := a3 rfl
    simp only at a1 a2 a5 a6
    have := a5 rfl
    simp only [resN, ntE] at a6
    generalize hr : heldR _ i j = r
    obtain ⟨e', err, k⟩ := r
    rcases held_inv hr with ⟨rfl, rfl, rfl⟩ | ⟨rfl, rfl, rfl, hh⟩
    · exact ⟨Nat.le_refl _, hi, fun e => (by cases e), fun _ => (by first | rfl | trivial)⟩
    · refine ⟨(by simp only; omega), a2, fun _ => ⟨fun _ => (by simp only; omega), (by simp only [resN, ntE, nds, ndss]; omega), fun _ => hh, fun acc h => (by cases h)⟩, fun h => absurd rfl h⟩
  | num hk h => intro _ hi; have := kd_lt hk; exact ⟨(by simp), (by simp only; omega), fun _ => ⟨fun _ => (by simp), (by simp [resN, ntE, nds, ndss]), fun _ => (by simp [hgt, hgts]), fun acc h => (by cases h)⟩, fun h => absurd rfl h⟩
  | numE hk h => intro _ hi; exact ⟨Nat.le_refl _, hi, fun e => (by cases e), fun _ => (by first | rfl | trivial)⟩
  | tru hk h => intro _ hi; have := tx_lt h (by decide +kernel); exact ⟨(by simp), (by simp only; omega), fun _ => ⟨fun _ => (by simp), (by simp [resN, ntE, nds, ndss]), fun _ => (by simp [hgt, hgts]), fun acc h => (by cases h)⟩, fun h => absurd rfl h⟩
  | fls hk h => intro _ hi; have := tx_lt h (by decide +kernel); exact ⟨(by simp), (by simp only; omega), fun _ => ⟨fun _ => (by simp), (by simp [resN, ntE, nds, ndss]), fun _ => (by simp [hgt, hgts]), fun acc h => (by cases h)⟩, fun h => absurd rfl h⟩
  | pgr hk h h2 ih => intro _ hi; obtain ⟨h1, h2, h3, h4⟩ := ih trivial hi; exact ⟨h1, h2, fun e => by obtain ⟨k1, k2, k3, k4⟩ := h3 e; exact ⟨k1, k2, fun _ => k3 (fun acc => by simp), fun acc h => (by cases h)⟩, h4⟩
  | pop hk h h2 ih => intro _ hi; obtain ⟨h1, h2, h3, h4⟩ := ih trivial hi; exact ⟨h1, h2, fun e => by obtain ⟨k1, k2, k3, k4⟩ := h3 e; exact ⟨k1, k2, fun _ => k3 (fun acc => by simp), fun acc h => (by cases h)⟩, h4⟩
  | pnm hk h1 h2 h3 h4 h ih => intro _ hi; obtain ⟨h1, h2, h3, h4⟩ := ih trivial hi; exact ⟨h1, h2, fun e => by obtain ⟨k1, k2, k3, k4⟩ := h3 e; exact ⟨k1, k2, fun _ => k3 (fun acc => by simp), fun acc h => (by cases h)⟩, h4⟩
  | grD ht hd => intro _ hi; exact ⟨Nat.le_refl _, hi, fun e => (by cases e), fun _ => (by first | rfl | trivial)⟩
  | grE ht hd h he ih =>
    intro _ hi
    have := tx_lt ht (by decide +kernel)
    obtain ⟨a1, a2, a3, a4⟩ := ih (by simp [ntOk]) (by omega)
    simp only at a1 a2 ⊢
    exact ⟨(by omega), a2, fun e => absurd e he, fun _ => (by first | rfl | trivial)⟩
  | grP ht hd h h2 ih =>
    intro _ hi
    have := tx_lt ht (by decide +kernel)
    obtain ⟨a1, a2, a3, a4⟩ := ih (by simp [ntOk]) (by omega)
    simp only at a1 a2 ⊢
    exact ⟨(by omega), a2, fun e => (by cases e), fun _ => (by first | rfl | trivial)⟩
  | grp ht hd h h2 ih =>
    intro _ hi
    have := tx_lt ht (by decide +kernel)
    have hj := tx_lt h2 (by decide +kernel)
    obtain ⟨a1, a2, a3, a4⟩ := ih (by simp [ntOk]) (by omega)
    obtain ⟨a5, a6, a7, _⟩ := a3 rfl
    simp only at a1 a2 a6 ⊢
    simp only [resN, ntE] at a6 ⊢
    exact ⟨(by omega), (by omega), fun _ => ⟨fun _ => (by omega), (by omega), fun _ => a7 (fun acc => by simp), fun acc h => (by cases h)⟩, fun h => absurd rfl h⟩
  | op1 ht h => intro _ hi; have := tx_lt ht (by decide +kernel); exact ⟨(by simp), (by simp only; omega), fun e => (by cases e), fun _ => (by first | rfl | trivial)⟩
  | opD ht h hd => intro _ hi; have := tx_lt ht (by decide +kernel); exact ⟨(by simp), (by simp only; omega), fun e => (by cases e), fun _ => (by first | rfl | trivial)⟩
  | opE ht h hd h2 he ih =>
    intro _ hi
    have := tx_lt h (by decide +kernel)
    obtain ⟨a1, a2, a3, a4⟩ := ih (by simp [ntOk]) (by omega)
    simp only at a1 a2 ⊢
    exact ⟨(by omega), a2, fun e => absurd e he, fun _ => (by first | rfl | trivial)⟩
  | op2 ht h hd h2 h3 ih =>
    intro _ hi
    have := tx_lt h (by decide +kernel)
    obtain ⟨a1, a2, a3, a4⟩ := ih (by simp [ntOk]) (by omega)
    simp only at a1 a2 ⊢
    exact ⟨(by omega), a2, fun e => (by cases e), fun _ => (by first | rfl | trivial)⟩
  | op3 ht h hd h2 h3 h4 ih =>
    intro _ hi
    have := tx_lt h (by decide +kernel)
    have := tx_lt h3 (by decide +kernel)
    obtain ⟨a1, a2, a3, a4⟩ := ih (by simp [ntOk]) (by omega)
    simp only at a1 a2 ⊢
    exact ⟨(by omega), (by omega), fun e => (by cases e), fun _ => (by first | rfl | trivial)⟩
  | op4 ht h hd h2 h3 h4 h5 ih =>
    intro _ hi
    have := tx_lt h (by decide +kernel)
    have := tx_lt h4 (by decide +kernel)
    obtain ⟨a1, a2, a3, a4⟩ := ih (by simp [ntOk]) (by omega)
    simp only at a1 a2 ⊢
    exact ⟨(by omega), (by omega), fun e => (by cases e), fun _ => (by first | rfl | trivial)⟩
  | op5 ht h hd h2 h3 h4 h5 h6 ih =>
    intro _ hi
    have := tx_lt h (by decide +kernel)
    have := idn_lt h5
    obtain ⟨a1, a2, a3, a4⟩ := ih (by simp [ntOk]) (by omega)
    simp only at a1 a2 ⊢
    exact ⟨(by omega), (by omega), fun e => (by cases e), fun _ => (by first | rfl | trivial)⟩
  | opn ht h hd h2 h3 h4 h5 h6 ih =>
    rename_i i d e j
    intro _ hi
    have := tx_lt h (by decide +kernel)
    have := tx_lt h6 (by decide +kernel)
    obtain ⟨a1, a2, a3, a4⟩ := ih (by simp [ntOk]) (by omega)
    obtain ⟨a5, a6, a7, _⟩ := a3 rfl
    simp only at a1 a2 a6
    simp only [resN, ntE] at a6
    generalize hr : heldR _ i (j + 4) = r
    obtain ⟨e', err, k⟩ := r
    rcases held_inv hr with ⟨rfl, rfl, rfl⟩ | ⟨rfl, rfl, rfl, hh⟩
    · exact ⟨Nat.le_refl _, hi, fun e => (by cases e), fun _ => (by first | rfl | trivial)⟩
    · refine ⟨(by simp only; omega), (by simp only; omega), fun _ => ⟨fun _ => (by simp only; omega), (by simp only [resN, ntE, nds, ndss]; omega), fun _ => hh, fun acc h => (by cases h)⟩, fun h => absurd rfl h⟩
  | nm0 h => intro _ hi; exact ⟨Nat.le_refl _, hi, fun e => (by cases e), fun _ => (by first | rfl | trivial)⟩
  | nm1 h h2 h3 => intro _ hi; have := tx_lt h2 (by decide +kernel); exact ⟨(by simp), (by simp only; omega), fun e => (by cases e), fun _ => (by first | rfl | trivial)⟩
  | nmV h hx h2 =>
    intro _ hi
    have := idn_lt h
    rcases hx with ⟨k1, k2, rfl, rfl⟩ | ⟨k1, rfl, rfl⟩
    · have := idn_lt k2
      exact ⟨(by simp), (by simp only; omega), fun _ => ⟨fun _ => (by simp only; omega), (by simp [resN, ntE, nds, ndss] <;> omega), fun _ => (by simp [hgt, hgts]), fun acc h => (by cases h)⟩, fun h => absurd rfl h⟩
    · exact ⟨(by simp), (by simp only; omega), fun _ => ⟨fun _ => (by simp only; omega), (by simp [resN, ntE, nds, ndss]), fun _ => (by simp [hgt, hgts]), fun acc h => (by cases h)⟩, fun h => absurd rfl h⟩
  | nmD h hx h2 hd =>
    intro _ hi
    have := tx_lt h2 (by decide +kernel)
    exact ⟨(by rcases hx with ⟨k1, k2, k3, _⟩ | ⟨k1, k3, _⟩ <;> (simp only; omega)), (by simp only; omega), fun e => (by cases e), fun _ => (by first | rfl | trivial)⟩
  | nmE h hx h2 hd h3 he ih =>
    rename_i i d k x e err j
    intro _ hi
    have := tx_lt h2 (by decide +kernel)
    have hk : i < k := by rcases hx with ⟨k1, k2, k3, _⟩ | ⟨k1, k3, _⟩ <;> omega
    obtain ⟨a1, a2, a3, a4⟩ := ih (by simp [ntOk]) (by omega)
    simp only at a1 a2 ⊢
    exact ⟨(by omega), a2, fun e => absurd e he, fun _ => (by first | rfl | trivial)⟩
  | nam h hx h2 hd h3 ih =>
    rename_i i d k x e j
    intro _ hi
    have := tx_lt h2 (by decide +kernel)
    have hk : i < k := by rcases hx with ⟨k1, k2, k3, _⟩ | ⟨k1, k3, _⟩ <;> omega
    obtain ⟨a1, a2, a3, a4⟩ := ih (by simp [ntOk]) (by omega)
    obtain ⟨a5, a6, a7, a8⟩ := a3 rfl
    simp only at a1 a2 a6 a8
    have hj := tx_lt (a8 [] rfl) (by decide +kernel)
    simp only [resN, ntE, ndss] at a6
    generalize hr : heldR _ i (j + 1) = r
    obtain ⟨e', err, k'⟩ := r
    rcases held_inv hr with ⟨rfl, rfl, rfl⟩ | ⟨rfl, rfl, rfl, hh⟩
    · exact ⟨Nat.le_refl _, hi, fun e => (by cases e), fun _ => (by first | rfl | trivial)⟩
    · refine ⟨(by simp only; omega), (by simp only; omega), fun _ => ⟨fun _ => (by simp only; omega), (by simp only [resN, ntE, nds]; omega), fun _ => hh, fun acc h => (by cases h)⟩, fun h => absurd rfl h⟩
  | alN h => intro _ hi; exact ⟨Nat.le_refl _, hi, fun _ => ⟨fun h => (by cases h), (by simp [resN, ntE, mkL]), fun h => absurd rfl (h _), fun acc _ => h⟩, fun h => absurd rfl h⟩
  | alC h ha h2 => intro _ hi; exact ⟨Nat.le_refl _, hi, fun e => (by cases e), fun _ => (by first | rfl | trivial)⟩
  | alE h hk h3 he ih =>
    rename_i acc i d k e err j
    intro _ hi
    have hk' : i ≤ k ∧ k ≤ l.length := by
      rcases hk with ⟨_, rfl⟩ | ⟨_, k2, rfl⟩
      · exact ⟨Nat.le_refl _, hi⟩
      · have := tx_lt k2 (by decide +kernel); omega
    obtain ⟨a1, a2, a3, a4⟩ := ih (by simp [ntOk]) hk'.2
    simp only at a1 a2 ⊢
    exact ⟨(by omega), a2, fun e => absurd e he, fun _ => (by first | rfl | trivial)⟩
  | al h hk h3 h4 ih ih2 =>
    rename_i acc i d k e j r
    intro _ hi
    have hk' : i ≤ k ∧ k ≤ l.length := by
      rcases hk with ⟨_, rfl⟩ | ⟨_, k2, rfl⟩
      · exact ⟨Nat.le_refl _, hi⟩
      · have := tx_lt k2 (by decide +kernel); omega
    obtain ⟨a1, a2, a3, a4⟩ := ih (by simp [ntOk]) hk'.2
    obtain ⟨a5, a6, a7, _⟩ := a3 rfl
    obtain ⟨c1, c2, c3, c4⟩ := ih2 trivial a2
    simp only at a1 a2 a6 c1 c2 c3 c4 ⊢
    refine ⟨(by omega), c2, fun e0 => ?_, c4⟩
    obtain ⟨k1, k2, k3, k4⟩ := c3 e0
    simp only [resN, ntE, ndss_app, ndss] at k2 a6 ⊢
    exact ⟨(fun h => (by cases h)), (by omega), fun h => absurd rfl (h _), fun acc' _ => k4 _ rfl⟩
end
end Go.Proofs.Ytogfofcocidmkaa.Pu
