/- The plain functions, read: the reference's parser of expressions answers as the relation says. -/
import Derived.Test.YtogfofcocidmkaaPuQ
set_option linter.unusedVariables false
set_option linter.unusedSimpArgs false
namespace Go.Proofs.Ytogfofcocidmkaa.Pu
open Go.RowKit Go.Proofs Ev
theorem eqs_both {x s t : ByteArray} (h1 : eqs x s = true) (h2 : eqs x t = true) : s = t := ((eqs_iff _ _).1 h1).symm.trans ((eqs_iff _ _).1 h2)
theorem g35_f35 (n : Nat) (p0 : S41) (p1 p2 p3 : Int) : (g35 (n + 1)).f35 p0 p1 p2 p3 = b35 s24 (g35 n).f35 (g35 n).f64 s65 s66 (lp35_4 s24 (g35 n).f35 (g35 n).f64 s65 s66 big) p0 p1 p2 p3 some := rfl
theorem g35_f64 (n : Nat) (p0 : S41) (p1 p2 : Int) : (g35 (n + 1)).f64 p0 p1 p2 = b64 s24 s27 (g35 n).f64 s66 (g35 n).f86 p0 p1 p2 some := rfl
theorem g35_f86 (n : Nat) (p0 : S41) (p1 p2 : Int) : (g35 (n + 1)).f86 p0 p1 p2 = b86 s24 s27 (g35 n).f35 s100 s101 s102 (g35 n).f103 (g35 n).f104 (lp86_5 s24 s27 (g35 n).f35 s100 s101 s102 (g35 n).f103 (g35 n).f104 big) p0 p1 p2 some := rfl
theorem g35_f103 (n : Nat) (p0 : S41) (p1 p2 : Int) : (g35 (n + 1)).f103 p0 p1 p2 = b103 s24 s27 s32 (g35 n).f35 s66 (lp103_11 s24 s27 s32 (g35 n).f35 s66 big) p0 p1 p2 some := rfl
theorem g35_f104 (n : Nat) (p0 : S41) (p1 p2 : Int) : (g35 (n + 1)).f104 p0 p1 p2 = b104 s24 s27 s32 (g35 n).f35 s66 (lp104_16 s24 s27 s32 (g35 n).f35 s66 big) p0 p1 p2 some := rfl
def outB : ((Int × Int × Int × ByteArray × ByteArray × List S27 × Int × Int × Int × Int × Int × ByteArray × ByteArray × List S27 × Int × Int) ⊕ (Int × Int × Int × ByteArray × ByteArray × List S27 × Int × Int)) → Option S58 :=
  Sum.elim (fun x => some ⟨x.2.2.2.2.2.2.2.2.1, x.2.2.2.2.2.2.2.2.2.1, x.2.2.2.2.2.2.2.2.2.2.1, x.2.2.2.2.2.2.2.2.2.2.2.1, x.2.2.2.2.2.2.2.2.2.2.2.2.1, x.2.2.2.2.2.2.2.2.2.2.2.2.2.1, x.2.2.2.2.2.2.2.2.2.2.2.2.2.2.1, x.2.2.2.2.2.2.2.2.2.2.2.2.2.2.2⟩)
    (fun x => some ⟨x.1, x.2.1, x.2.2.1, x.2.2.2.1, x.2.2.2.2.1, x.2.2.2.2.2.1, x.2.2.2.2.2.2.1, x.2.2.2.2.2.2.2⟩)
def GR (b : List Int) (l : List S51) (n i d : Nat) : Option S58 :=
  cond (decide ((d : Int) ≥ 32)) (some (⟨0, 0, 0, (⟨#[]⟩ : ByteArray), (⟨#[]⟩ : ByteArray), [], (i : Int), 12⟩ : S58))
    (((g35 n).f35 (row b l) (w64 ((i : Int) + 1)) 1 (w64 ((d : Int) + 1))).bind fun r35 =>
      cond (r35.c7 == 0) ((s24 (row b l) r35.c6).bind fun r36 =>
        cond (!(r36.toList == (⟨#[41]⟩ : ByteArray).toList)) (some (⟨0, 0, 0, (⟨#[]⟩ : ByteArray), (⟨#[]⟩ : ByteArray), [], r35.c6, 11⟩ : S58))
          (some (⟨r35.c0, r35.c1, r35.c2, r35.c3, r35.c4, r35.c5, w64 (r35.c6 + (w64 (1 - (if r35.c7 < 1 then r35.c7 else 1)))), r35.c7⟩ : S58)))
        (some (⟨r35.c0, r35.c1, r35.c2, r35.c3, r35.c4, r35.c5, w64 (r35.c6 + (w64 (1 - (if r35.c7 < 1 then r35.c7 else 1)))), r35.c7⟩ : S58)))
def RR (b : List Int) (l : List S51) : NT → Nat → Nat → S27 × Int × Nat → Prop
  | .bin lv, i, d, r => ∀ n, 10 * (l.length - i) + (10 - lv) ≤ n → (g35 n).f35 (row b l) (i : Int) (lv : Int) (d : Int) = some (gt r)
  | .bl lv e, i, d, r => ∀ n m, 10 * (l.length - i) + (9 - lv) ≤ n → l.length - i + 2 ≤ m → (lp35_4 s24 (g35 n).f35 (g35 n).f64 s65 s66 m (row b l) (lv : Int) (d : Int) e.c0 e.c1 e.c2 e.c3 e.c4 e.c5 (i : Int) 0).bind outB = some (gt r)
  | .sig, i, d, r => ∀ n, 10 * (l.length - i) + 3 ≤ n → (g35 n).f64 (row b l) (i : Int) (d : Int) = some (gt r)
  | .pri, i, d, r => ∀ n, 10 * (l.length - i) + 2 ≤ n → (g35 n).f86 (row b l) (i : Int) (d : Int) = some (gt r)
  | .grp, i, d, r => ∀ n, 10 * (l.length - i) + 1 ≤ n → GR b l n i d = some (gt r)
  | .opn, i, d, r => ∀ n, 10 * (l.length - i) + 1 ≤ n → (g35 n).f103 (row b l) (i : Int) (d : Int) = some (gt r)
  | .nam, i, d, r => ∀ n, 10 * (l.length - i) + 1 ≤ n → (g35 n).f104 (row b l) (i : Int) (d : Int) = some (gt r)
  | .al acc, i, d, r => ∀ n m d0, d = d0 + 1 → 10 * (l.length - i) + 9 ≤ n → l.length - i + 2 ≤ m → ∃ o, lp104_16 s24 s27 s32 (g35 n).f35 s66 m (row b l) (d0 : Int) (i : Int) acc = some o ∧
      ((r.2.1 = 0 ∧ o = .inr ((r.2.2 : Int), r.1.c5)) ∨ (r.2.1 ≠ 0 ∧ ∃ x y, o = .inl (x, y, 0, 0, 0, ⟨#[]⟩, ⟨#[]⟩, [], (r.2.2 : Int), r.2.1)))
def ntUp : NT → Prop
  | .bl lv e => 1 ≤ lv ∧ lv ≤ 5 ∧ hgt e ≤ 32
  | .bin lv => 1 ≤ lv ∧ lv ≤ 6
  | _ => True
theorem ntUp.ok {nt : NT} (h : ntUp nt) : ntOk nt := by
  cases nt <;> simp only [ntUp, ntOk] at h ⊢
  · exact h.1
  · exact ⟨h.1, h.2.2⟩
section
variable {b : List Int} {l : List S51}
theorem w2 (i : Nat) (h : i ≤ 1000000) : w64 ((i : Int) + 2) = ((i + 2 : Nat) : Int) := by rw [w64_id (by omega) (by omega)]; rfl
theorem Bs.ref (g : Good b l) (hD : DigL b l) {nt : NT} {i d : Nat} {r : S27 × Int × Nat} (h : Bs b l nt i d r) : ntUp nt → i ≤ l.length → d ≤ 33 → ntE nt ≤ i → RR b l nt i d r := by
  have hlen := g.llen
  have hb := g.len
  induction h with
  | bin6 h ih =>
    intro _ hi hd _ n hn
    obtain ⟨n, rfl⟩ : ∃ n', n = n' + 1 := ⟨n - 1, by omega⟩
    rw [g35_f35]
    unfold b35
    rw [show decide (((6 : Nat) : Int) > 5) = true from rfl, cond_true, ih trivial hi hd (by simp [ntE]) n (by omega)]
    rfl
  | binE hl h he ih =>
    rename_i lv i d e err j
    intro hu hi hd _ n hn
    simp only [ntUp] at hu
    obtain ⟨n, rfl⟩ : ∃ n', n = n' + 1 := ⟨n - 1, by omega⟩
    have hz := (h.inv (by simp [ntOk]) hi).2.2.2 he
    simp only at hz
    subst hz
    rw [g35_f35]
    unfold b35
    rw [cond_f _ _ (dec_f (by omega)), wn lv (by omega), ih (by simp only [ntUp]; omega) hi hd (by simp [ntE]) n (by omega), Option.bind_some]
    obtain ⟨k, hk⟩ : ∃ k, big = k + 1 := ⟨9223372036854775806, rfl⟩
    rw [hk]
    unfold lp35_4 lb35_4
    dsimp only [gt]
    rw [b0 he, cond_false]
    rfl
  | bin hl h h2 ih ih2 =>
    rename_i lv i d e j e' err k
    intro hu hi hd _ n hn
    simp only [ntUp] at hu
    obtain ⟨n, rfl⟩ : ∃ n', n = n' + 1 := ⟨n - 1, by omega⟩
    obtain ⟨i1, i2, i3, _⟩ := h.inv (by simp [ntOk]) hi
    obtain ⟨i4, i5, i6, _⟩ := i3 rfl
    simp only [resN, ntE] at i1 i2 i5
    have hh := i6 (fun acc => by simp)
    have hv2 := h2.inv (by simp only [ntOk]; exact ⟨hu.1, hh⟩) i2
    have key := ih2 (by simp only [ntUp]; exact ⟨hu.1, by omega, hh⟩) i2 hd (by simp only [ntE]; omega) n big (by omega) (by have : l.length - j + 2 < big := big_lt (by omega); omega)
    rw [g35_f35]
    unfold b35
    rw [cond_f _ _ (dec_f (by omega)), wn lv (by omega), ih (by simp only [ntUp]; omega) hi hd (by simp [ntE]) n (by omega), Option.bind_some]
    have : gt (if err = 0 then e' else z27, err, k) = gt (e', err, k) := by
      by_cases he : err = 0
      · rw [if_pos he]
      · rw [if_neg he]
        have := hv2.2.2.2 he
        simp only at this
        rw [this]
    rw [this]
    exact key
  | blN h =>
    rename_i lv e i d
    intro hu hi hd _ n m hn hm
    simp only [ntUp] at hu
    obtain ⟨m, rfl⟩ : ∃ m', m = m' + 1 := ⟨m - 1, by omega⟩
    unfold lp35_4 lb35_4
    dsimp only
    rw [show ((0 : Int) == 0) = true from rfl, cond_true, t65 g i lv hu.1 hu.2.1, Option.bind_some, show (lev (tx b l i) == (lv : Int)) = false from by simpa using h, cond_false]
    rfl
  | blE h h2 he ih =>
    rename_i lv e i d m0 err j
    intro hu hi hd _ n m hn hm
    simp only [ntUp] at hu
    have hlt := lev_lt h hu.1
    obtain ⟨m, rfl⟩ : ∃ m', m = m' + 1 := ⟨m - 1, by omega⟩
    have hz := (h2.inv (by simp only [ntOk]; omega) hlt).2.2.2 he
    simp only at hz
    subst hz
    unfold lp35_4 lb35_4
    dsimp only
    rw [show ((0 : Int) == 0) = true from rfl, cond_true, t65 g i lv hu.1 hu.2.1, Option.bind_some, show (lev (tx b l i) == (lv : Int)) = true from by simpa using h, cond_true, wn i (by omega), wn lv (by omega), ih (by simp only [ntUp]; omega) hlt hd (by simp [ntE]) n (by omega), Option.bind_some]
    dsimp only [gt]
    rw [b0' he, cond_true]
    rfl
  | blH h h2 hh ih =>
    rename_i lv e i d m0 j
    intro hu hi hd hE n m hn hm
    simp only [ntUp] at hu
    simp only [ntE] at hE
    have hlt := lev_lt h hu.1
    obtain ⟨m, rfl⟩ : ∃ m', m = m' + 1 + 1 := ⟨m - 2, by omega⟩
    obtain ⟨i1, i2, i3, _⟩ := h2.inv (by simp only [ntOk]; omega) hlt
    obtain ⟨i4, i5, i6, _⟩ := i3 rfl
    simp only [resN, ntE] at i1 i2 i5
    have i4 := i4 rfl
    simp only at i4
    rw [show lp35_4 s24 (g35 n).f35 (g35 n).f64 s65 s66 (m + 1 + 1) (row b l) (lv : Int) (d : Int) e.c0 e.c1 e.c2 e.c3 e.c4 e.c5 (i : Int) 0 = lb35_4 s24 (g35 n).f35 (g35 n).f64 s65 s66 (row b l) (lv : Int) (d : Int) (fun v51 v52 v53 v54 v55 v56 v57 v58 => lp35_4 s24 (g35 n).f35 (g35 n).f64 s65 s66 (m + 1) (row b l) (lv : Int) (d : Int) v51 v52 v53 v54 v55 v56 v57 v58) (fun o => some (Sum.inl o)) (fun o => some (Sum.inr (o))) e.c0 e.c1 e.c2 e.c3 e.c4 e.c5 (i : Int) 0 from rfl]
    unfold lb35_4
    dsimp only
    rw [show ((0 : Int) == 0) = true from rfl, cond_true, t65 g i lv hu.1 hu.2.1, Option.bind_some, show (lev (tx b l i) == (lv : Int)) = true from by simpa using h, cond_true, wn i (by omega), wn lv (by omega), ih (by simp only [ntUp]; omega) hlt hd (by simp [ntE]) n (by omega), Option.bind_some]
    dsimp only [gt]
    rw [show ((0 : Int) != 0) = false from rfl, cond_false, t24 g, Option.bind_some, eta27, eta27, t66 _ j i (by simp only [nds, ndss]; omega), Option.bind_some, show heldR (⟨5, e.c1, 0, tx b l i, ⟨#[]⟩, [e, m0]⟩ : S27) i j = (z27, 12, i) from if_pos hh]
    unfold lp35_4 lb35_4
    rfl
  | bl h h2 hh h3 ih ih2 =>
    rename_i lv e i d m0 j r
    intro hu hi hd hE n m hn hm
    simp only [ntUp] at hu
    simp only [ntE] at hE
    have hlt := lev_lt h hu.1
    obtain ⟨m, rfl⟩ : ∃ m', m = m' + 1 := ⟨m - 1, by omega⟩
    obtain ⟨i1, i2, i3, _⟩ := h2.inv (by simp only [ntOk]; omega) hlt
    obtain ⟨i4, i5, i6, _⟩ := i3 rfl
    simp only [resN, ntE] at i1 i2 i5
    have i4 := i4 rfl
    simp only at i4
    have key := ih2 (by simp only [ntUp]; exact ⟨hu.1, hu.2.1, by omega⟩) i2 hd (by simp only [ntE, nds, ndss]; omega) n m (by omega) (by omega)
    rw [show lp35_4 s24 (g35 n).f35 (g35 n).f64 s65 s66 (m + 1) (row b l) (lv : Int) (d : Int) e.c0 e.c1 e.c2 e.c3 e.c4 e.c5 (i : Int) 0 = lb35_4 s24 (g35 n).f35 (g35 n).f64 s65 s66 (row b l) (lv : Int) (d : Int) (fun v51 v52 v53 v54 v55 v56 v57 v58 => lp35_4 s24 (g35 n).f35 (g35 n).f64 s65 s66 m (row b l) (lv : Int) (d : Int) v51 v52 v53 v54 v55 v56 v57 v58) (fun o => some (Sum.inl o)) (fun o => some (Sum.inr (o))) e.c0 e.c1 e.c2 e.c3 e.c4 e.c5 (i : Int) 0 from rfl]
    unfold lb35_4
    dsimp only
    rw [show ((0 : Int) == 0) = true from rfl, cond_true, t65 g i lv hu.1 hu.2.1, Option.bind_some, show (lev (tx b l i) == (lv : Int)) = true from by simpa using h, cond_true, wn i (by omega), wn lv (by omega), ih (by simp only [ntUp]; omega) hlt hd (by simp [ntE]) n (by omega), Option.bind_some]
    dsimp only [gt]
    rw [show ((0 : Int) != 0) = false from rfl, cond_false, t24 g, Option.bind_some, eta27, eta27, t66 _ j i (by simp only [nds, ndss]; omega), Option.bind_some, show heldR (⟨5, e.c1, 0, tx b l i, ⟨#[]⟩, [e, m0]⟩ : S27) i j = (⟨5, e.c1, 0, tx b l i, ⟨#[]⟩, [e, m0]⟩, 0, j) from if_neg hh]
    exact key
  | sigN h1 h2 h ih =>
    intro _ hi hd _ n hn
    obtain ⟨n, rfl⟩ : ∃ n', n = n' + 1 := ⟨n - 1, by omega⟩
    rw [g35_f64]
    unfold b64
    rw [t24 g, Option.bind_some]
    unfold eqs at h1 h2
    rw [h1, Bool.not_false, cond_true, h2, Bool.not_false, cond_true, ih trivial hi hd (by simp [ntE]) n (by omega)]
    rfl
  | sigD h1 h32 =>
    rename_i i d
    intro _ hi hd _ n hn
    obtain ⟨n, rfl⟩ : ∃ n', n = n' + 1 := ⟨n - 1, by omega⟩
    rw [g35_f64]
    unfold b64
    rw [t24 g, Option.bind_some, cond_t _ _ (dec_t (show ((d : Nat) : Int) ≥ 32 by omega))]
    unfold eqs at h1
    cases h2 : ((tx b l i).toList == (⟨#[33]⟩ : ByteArray).toList) with
    | true => rfl
    | false =>
      rw [h2, Bool.false_or] at h1
      rw [Bool.not_false, cond_true, h1]
      rfl
  | sigE h1 h32 h he ih =>
    rename_i i d e err j
    intro _ hi hd _ n hn
    have hlt : i < l.length := by
      cases h0 : eqs (tx b l i) ⟨#[33]⟩ with
      | true => exact tx_lt h0 (by decide +kernel)
      | false => rw [h0] at h1; exact tx_lt h1 (by decide +kernel)
    obtain ⟨n, rfl⟩ : ∃ n', n = n' + 1 := ⟨n - 1, by omega⟩
    have hz := (h.inv trivial hlt).2.2.2 he
    simp only at hz
    subst hz
    rw [g35_f64]
    unfold b64
    rw [t24 g, Option.bind_some, cond_f _ _ (dec_f (show ¬ ((d : Nat) : Int) ≥ 32 by omega)), wn i (by omega), wn d (by omega), ih trivial hlt (by omega) (by simp [ntE]) n (by omega), Option.bind_some]
    dsimp only [gt]
    rw [b0' he, cond_true]
    unfold eqs at h1
    cases h2 : ((tx b l i).toList == (⟨#[33]⟩ : ByteArray).toList) with
    | true => rfl
    | false =>
      rw [h2, Bool.false_or] at h1
      rw [Bool.not_false, cond_true, h1]
      rfl
  | sig h1 h32 h ih =>
    rename_i i d e j
    intro _ hi hd _ n hn
    have hlt : i < l.length := by
      cases h0 : eqs (tx b l i) ⟨#[33]⟩ with
      | true => exact tx_lt h0 (by decide +kernel)
      | false => rw [h0] at h1; exact tx_lt h1 (by decide +kernel)
    obtain ⟨n, rfl⟩ : ∃ n', n = n' + 1 := ⟨n - 1, by omega⟩
    obtain ⟨i1, i2, i3, _⟩ := h.inv trivial hlt
    obtain ⟨i4, i5, i6, _⟩ := i3 rfl
    simp only [resN, ntE] at i1 i2 i5
    rw [g35_f64]
    unfold b64
    rw [t24 g, Option.bind_some, cond_f _ _ (dec_f (show ¬ ((d : Nat) : Int) ≥ 32 by omega)), wn i (by omega), wn d (by omega), ih trivial hlt (by omega) (by simp [ntE]) n (by omega), Option.bind_some]
    dsimp only [gt]
    rw [show ((0 : Int) != 0) = false from rfl, cond_false, t27, Option.bind_some, eta27, t66 _ j i (by simp only [nds, ndss]; omega), Option.bind_some]
    unfold eqs at h1
    cases h2 : ((tx b l i).toList == (⟨#[33]⟩ : ByteArray).toList) with
    | true => rfl
    | false =>
      rw [h2, Bool.false_or] at h1
      rw [Bool.not_false, cond_true, h1]
      rfl
  | num hk h =>
    rename_i i d v
    intro _ hi hd _ n hn
    obtain ⟨n, rfl⟩ : ∃ n', n = n' + 1 := ⟨n - 1, by omega⟩
    have hlt := kd_lt hk
    rw [g35_f86]
    unfold b86
    rw [t24 g, Option.bind_some, t100, Option.bind_some, hk, show ((3 : Int) == 3) = true from rfl, cond_true]
    obtain ⟨r, r1, r2⟩ := lp86 (f24 := s24) (f27 := s27) (f35 := (g35 n).f35) (f100 := s100) (f103 := (g35 n).f103) (f104 := (g35 n).f104) (tx b l i) (i : Int) (tx_size g i) (hD i hk) big 0 0 (by omega) (by omega) (by omega) (by have := tx_size g i; exact big_lt (by omega))
    rw [show ((0 : Nat) : Int) = 0 from rfl] at r1
    rw [r1, Option.bind_some]
    rw [List.drop_zero] at r2
    cases r with
    | inl o => rw [h] at r2; cases r2.1
    | inr o =>
      simp only at r2
      rw [h] at r2
      cases r2
      simp only [Sum.elim_inr]
      rw [t27, Option.bind_some, wn i (by omega)]
      rfl
  | numE hk h =>
    rename_i i d
    intro _ hi hd _ n hn
    obtain ⟨n, rfl⟩ : ∃ n', n = n' + 1 := ⟨n - 1, by omega⟩
    rw [g35_f86]
    unfold b86
    rw [t24 g, Option.bind_some, t100, Option.bind_some, hk, show ((3 : Int) == 3) = true from rfl, cond_true]
    obtain ⟨r, r1, r2⟩ := lp86 (f24 := s24) (f27 := s27) (f35 := (g35 n).f35) (f100 := s100) (f103 := (g35 n).f103) (f104 := (g35 n).f104) (tx b l i) (i : Int) (tx_size g i) (hD i hk) big 0 0 (by omega) (by omega) (by omega) (by have := tx_size g i; exact big_lt (by omega))
    rw [show ((0 : Nat) : Int) = 0 from rfl] at r1
    rw [r1, Option.bind_some]
    rw [List.drop_zero] at r2
    cases r with
    | inl o =>
      simp only [Sum.elim_inl, r2.2]
      rfl
    | inr o =>
      simp only at r2
      rw [h] at r2
      cases r2
  | tru hk h =>
    rename_i i d
    intro _ hi hd _ n hn
    obtain ⟨n, rfl⟩ : ∃ n', n = n' + 1 := ⟨n - 1, by omega⟩
    rw [g35_f86]
    unfold b86
    unfold eqs at h
    rw [t24 g, Option.bind_some, t100, Option.bind_some, show (kd b l i == 3) = false from by simpa using hk, cond_false, h, cond_true, t27, Option.bind_some, wn i (by omega)]
    rfl
  | fls hk h =>
    rename_i i d
    intro _ hi hd _ n hn
    obtain ⟨n, rfl⟩ : ∃ n', n = n' + 1 := ⟨n - 1, by omega⟩
    have hn1 : eqs (tx b l i) ⟨#[116, 114, 117, 101]⟩ = false := by
      cases h1 : eqs (tx b l i) ⟨#[116, 114, 117, 101]⟩ with
      | false => rfl
      | true => exact absurd (eqs_both h h1) (by decide +kernel)
    rw [g35_f86]
    unfold b86
    unfold eqs at h hn1
    rw [t24 g, Option.bind_some, t100, Option.bind_some, show (kd b l i == 3) = false from by simpa using hk, cond_false, hn1, cond_false, h, cond_true, t27, Option.bind_some, wn i (by omega)]
    rfl
  | pgr hk h h2 ih =>
    rename_i i d r
    intro _ hi hd _ n hn
    obtain ⟨n, rfl⟩ : ∃ n', n = n' + 1 := ⟨n - 1, by omega⟩
    have hn1 : eqs (tx b l i) ⟨#[116, 114, 117, 101]⟩ = false := by
      cases h1 : eqs (tx b l i) ⟨#[116, 114, 117, 101]⟩ with
      | false => rfl
      | true => exact absurd (eqs_both h h1) (by decide +kernel)
    have hn2 : eqs (tx b l i) ⟨#[102, 97, 108, 115, 101]⟩ = false := by
      cases h1 : eqs (tx b l i) ⟨#[102, 97, 108, 115, 101]⟩ with
      | false => rfl
      | true => exact absurd (eqs_both h h1) (by decide +kernel)
    have key := ih trivial hi hd (by simp [ntE]) n (by omega)
    rw [g35_f86]
    unfold b86
    unfold eqs at h hn1 hn2
    rw [t24 g, Option.bind_some, t100, Option.bind_some, show (kd b l i == 3) = false from by simpa using hk, cond_false, hn1, cond_false, hn2, cond_false, h, cond_true]
    exact key
  | pop hk h h2 ih =>
    rename_i i d r
    intro _ hi hd _ n hn
    obtain ⟨n, rfl⟩ : ∃ n', n = n' + 1 := ⟨n - 1, by omega⟩
    have hn1 : eqs (tx b l i) ⟨#[116, 114, 117, 101]⟩ = false := by
      cases h1 : eqs (tx b l i) ⟨#[116, 114, 117, 101]⟩ with
      | false => rfl
      | true => exact absurd (eqs_both h h1) (by decide +kernel)
    have hn2 : eqs (tx b l i) ⟨#[102, 97, 108, 115, 101]⟩ = false := by
      cases h1 : eqs (tx b l i) ⟨#[102, 97, 108, 115, 101]⟩ with
      | false => rfl
      | true => exact absurd (eqs_both h h1) (by decide +kernel)
    have hn3 : eqs (tx b l i) ⟨#[40]⟩ = false := by
      cases h1 : eqs (tx b l i) ⟨#[40]⟩ with
      | false => rfl
      | true => exact absurd (eqs_both h h1) (by decide +kernel)
    rw [g35_f86]
    unfold b86
    unfold eqs at h hn1 hn2 hn3
    rw [t24 g, Option.bind_some, t100, Option.bind_some, show (kd b l i == 3) = false from by simpa using hk, cond_false, hn1, cond_false, hn2, cond_false, hn3, cond_false, h, cond_true, ih trivial hi hd (by simp [ntE]) n (by omega)]
    rfl
  | pnm hk h1 h2 h3 h4 h ih =>
    rename_i i d r
    intro _ hi hd _ n hn
    obtain ⟨n, rfl⟩ : ∃ n', n = n' + 1 := ⟨n - 1, by omega⟩
    rw [g35_f86]
    unfold b86
    unfold eqs at h1 h2 h3 h4
    rw [t24 g, Option.bind_some, t100, Option.bind_some, show (kd b l i == 3) = false from by simpa using hk, cond_false, h1, cond_false, h2, cond_false, h3, cond_false, h4, cond_false, ih trivial hi hd (by simp [ntE]) n (by omega)]
    rfl
  | grD ht h32 =>
    rename_i i d
    intro _ hi hd _ n hn
    unfold GR
    rw [cond_t _ _ (dec_t (by omega))]
    rfl
  | grE ht h32 h he ih =>
    rename_i i d e err j
    intro _ hi hd _ n hn
    have hlt := tx_lt ht (by decide +kernel)
    have hz := (h.inv (by simp [ntOk]) hlt).2.2.2 he
    have hv := (h.inv (by simp [ntOk]) hlt).2.1
    simp only at hz hv
    subst hz
    have he1 : 1 ≤ err := by
      rcases h.err with h' | h'
      · exact absurd h' he
      · exact h'
    unfold GR
    rw [cond_f _ _ (dec_f (by omega)), wn i (by omega), wn d (by omega), show (1 : Int) = ((1 : Nat) : Int) from rfl, ih (by simp [ntUp]) hlt (by omega) (by simp [ntE]) n (by omega), Option.bind_some]
    dsimp only [gt]
    rw [b0 he, cond_false]
    have e1 : w64 ((j : Int) + (w64 (((1 : Nat) : Int) - (if err < ((1 : Nat) : Int) then err else ((1 : Nat) : Int))))) = (j : Int) := by
      rw [if_neg (by omega), show w64 (((1 : Nat) : Int) - ((1 : Nat) : Int)) = 0 from rfl, w64_id (by omega) (by omega), Int.add_zero]
    exact congrArg (fun z => some (⟨z27.c0, z27.c1, z27.c2, z27.c3, z27.c4, z27.c5, z, err⟩ : S58)) e1
  | grP ht h32 h h2 ih =>
    rename_i i d e j
    intro _ hi hd _ n hn
    have hlt := tx_lt ht (by decide +kernel)
    unfold eqs at h2
    unfold GR
    rw [cond_f _ _ (dec_f (by omega)), wn i (by omega), wn d (by omega), show (1 : Int) = ((1 : Nat) : Int) from rfl, ih (by simp [ntUp]) hlt (by omega) (by simp [ntE]) n (by omega), Option.bind_some]
    dsimp only [gt]
    rw [show ((0 : Int) == 0) = true from rfl, cond_true, t24 g, Option.bind_some, h2]
    rfl
  | grp ht h32 h h2 ih =>
    rename_i i d e j
    intro _ hi hd _ n hn
    have hlt := tx_lt ht (by decide +kernel)
    have hj := tx_lt h2 (by decide +kernel)
    unfold eqs at h2
    unfold GR
    rw [cond_f _ _ (dec_f (by omega)), wn i (by omega), wn d (by omega), show (1 : Int) = ((1 : Nat) : Int) from rfl, ih (by simp [ntUp]) hlt (by omega) (by simp [ntE]) n (by omega), Option.bind_some]
    dsimp only [gt]
    rw [show ((0 : Int) == 0) = true from rfl, cond_true, t24 g, Option.bind_some, h2, Bool.not_true, cond_false]
    have e1 : w64 ((j : Int) + w64 (((1 : Nat) : Int) - (if (0 : Int) < ((1 : Nat) : Int) then 0 else ((1 : Nat) : Int)))) = ((j + 1 : Nat) : Int) := by
      rw [if_pos (by decide), show w64 (((1 : Nat) : Int) - 0) = 1 from rfl]
      exact wn j (by omega)
    exact congrArg (fun z => some (⟨e.c0, e.c1, e.c2, e.c3, e.c4, e.c5, z, 0⟩ : S58)) e1
  | op1 ht h =>
    rename_i i d
    intro _ hi hd _ n hn
    obtain ⟨n, rfl⟩ : ∃ n', n = n' + 1 := ⟨n - 1, by omega⟩
    have hlt := tx_lt ht (by decide +kernel)
    rw [g35_f103]
    unfold b103
    unfold eqs at h
    rw [wn i (by omega), t24 g, Option.bind_some, h]
    rfl
  | opD ht h h32 =>
    rename_i i d
    intro _ hi hd _ n hn
    obtain ⟨n, rfl⟩ : ∃ n', n = n' + 1 := ⟨n - 1, by omega⟩
    have hlt := tx_lt ht (by decide +kernel)
    rw [g35_f103]
    unfold b103
    unfold eqs at h
    rw [wn i (by omega), t24 g, Option.bind_some, h, Bool.not_true, cond_false, cond_t _ _ (dec_t (show ((d : Nat) : Int) ≥ 32 by omega))]
    rfl
  | opE ht h h32 h2 he ih =>
    rename_i i d e err j
    intro _ hi hd _ n hn
    obtain ⟨n, rfl⟩ : ∃ n', n = n' + 1 := ⟨n - 1, by omega⟩
    have hlt := tx_lt h (by decide +kernel)
    have hz := (h2.inv (by simp [ntOk]) (by omega)).2.2.2 he
    simp only at hz
    subst hz
    rw [g35_f103]
    unfold b103
    unfold eqs at h
    rw [wn i (by omega), t24 g, Option.bind_some, h, Bool.not_true, cond_false, cond_f _ _ (dec_f (show ¬ ((d : Nat) : Int) ≥ 32 by omega)), w2 i (by omega), wn d (by omega), show (1 : Int) = ((1 : Nat) : Int) from rfl, ih (by simp [ntUp]) (by omega) (by omega) (by simp [ntE]) n (by omega), Option.bind_some]
    dsimp only [gt]
    rw [b0' he]
    rfl
  | op2 ht h h32 h2 h3 ih =>
    rename_i i d e j
    intro _ hi hd _ n hn
    obtain ⟨n, rfl⟩ : ∃ n', n = n' + 1 := ⟨n - 1, by omega⟩
    have hlt := tx_lt h (by decide +kernel)
    rw [g35_f103]
    unfold b103
    unfold eqs at h h3
    rw [wn i (by omega), t24 g, Option.bind_some, h, Bool.not_true, cond_false, cond_f _ _ (dec_f (show ¬ ((d : Nat) : Int) ≥ 32 by omega)), w2 i (by omega), wn d (by omega), show (1 : Int) = ((1 : Nat) : Int) from rfl, ih (by simp [ntUp]) (by omega) (by omega) (by simp [ntE]) n (by omega), Option.bind_some]
    dsimp only [gt]
    obtain ⟨k, hk⟩ : ∃ k, big = k + 1 := ⟨9223372036854775806, rfl⟩
    rw [show ((0 : Int) != 0) = false from rfl, cond_false, hk]
    unfold lp103_11 lb103_11
    rw [show decide ((0 : Int) < 2) = true from rfl, cond_true, t24 g, Option.bind_some]
    rw [show ([(⟨#[44]⟩ : ByteArray), (⟨#[64]⟩ : ByteArray)].getD (0 : Int).toNat ⟨#[]⟩) = ⟨#[44]⟩ from rfl, h3]
    rfl
  | op3 ht h h32 h2 h3 h4 ih =>
    rename_i i d e j
    intro _ hi hd _ n hn
    obtain ⟨n, rfl⟩ : ∃ n', n = n' + 1 := ⟨n - 1, by omega⟩
    have hlt := tx_lt h (by decide +kernel)
    have hj := tx_lt h3 (by decide +kernel)
    rw [g35_f103]
    unfold b103
    unfold eqs at h h3 h4
    rw [wn i (by omega), t24 g, Option.bind_some, h, Bool.not_true, cond_false, cond_f _ _ (dec_f (show ¬ ((d : Nat) : Int) ≥ 32 by omega)), w2 i (by omega), wn d (by omega), show (1 : Int) = ((1 : Nat) : Int) from rfl, ih (by simp [ntUp]) (by omega) (by omega) (by simp [ntE]) n (by omega), Option.bind_some]
    dsimp only [gt]
    obtain ⟨k, hk⟩ : ∃ k, big = k + 1 + 1 := ⟨9223372036854775805, rfl⟩
    rw [show ((0 : Int) != 0) = false from rfl, cond_false, hk]
    unfold lp103_11 lb103_11
    rw [show decide ((0 : Int) < 2) = true from rfl, cond_true, t24 g, Option.bind_some, show ([(⟨#[44]⟩ : ByteArray), (⟨#[64]⟩ : ByteArray)].getD (0 : Int).toNat ⟨#[]⟩) = ⟨#[44]⟩ from rfl, h3, Bool.not_true, cond_false]
    dsimp only
    rw [wn j (by omega), show w64 ((0 : Int) + 1) = 1 from rfl]
    unfold lp103_11 lb103_11
    rw [show decide ((1 : Int) < 2) = true from rfl, cond_true, t24 g, Option.bind_some, show ([(⟨#[44]⟩ : ByteArray), (⟨#[64]⟩ : ByteArray)].getD (1 : Int).toNat ⟨#[]⟩) = ⟨#[64]⟩ from rfl, h4]
    rfl
  | op4 ht h h32 h2 h3 h4 h5 ih =>
    rename_i i d e j
    intro _ hi hd _ n hn
    obtain ⟨n, rfl⟩ : ∃ n', n = n' + 1 := ⟨n - 1, by omega⟩
    have hlt := tx_lt h (by decide +kernel)
    have hj := tx_lt h4 (by decide +kernel)
    rw [g35_f103]
    unfold b103
    unfold eqs at h h3 h4
    rw [wn i (by omega), t24 g, Option.bind_some, h, Bool.not_true, cond_false, cond_f _ _ (dec_f (show ¬ ((d : Nat) : Int) ≥ 32 by omega)), w2 i (by omega), wn d (by omega), show (1 : Int) = ((1 : Nat) : Int) from rfl, ih (by simp [ntUp]) (by omega) (by omega) (by simp [ntE]) n (by omega), Option.bind_some]
    dsimp only [gt]
    obtain ⟨k, hk⟩ : ∃ k, big = k + 1 + 1 + 1 := ⟨9223372036854775804, rfl⟩
    rw [show ((0 : Int) != 0) = false from rfl, cond_false, hk]
    have lp : lp103_11 s24 s27 s32 (g35 n).f35 s66 (k + 1 + 1 + 1) (row b l) [(⟨#[44]⟩ : ByteArray), (⟨#[64]⟩ : ByteArray)] (j : Int) 0 = some (Sum.inr (((j + 2 : Nat) : Int), 2)) := by
      unfold lp103_11 lb103_11
      rw [show decide ((0 : Int) < 2) = true from rfl, cond_true, t24 g, Option.bind_some, show ([(⟨#[44]⟩ : ByteArray), (⟨#[64]⟩ : ByteArray)].getD (0 : Int).toNat ⟨#[]⟩) = ⟨#[44]⟩ from rfl, h3, Bool.not_true, cond_false]
      dsimp only
      rw [wn j (by omega), show w64 ((0 : Int) + 1) = 1 from rfl]
      unfold lp103_11 lb103_11
      rw [show decide ((1 : Int) < 2) = true from rfl, cond_true, t24 g, Option.bind_some, show ([(⟨#[44]⟩ : ByteArray), (⟨#[64]⟩ : ByteArray)].getD (1 : Int).toNat ⟨#[]⟩) = ⟨#[64]⟩ from rfl, h4, Bool.not_true, cond_false]
      dsimp only
      rw [wn (j + 1) (by omega), show w64 ((1 : Int) + 1) = 2 from rfl]
      rfl
    rw [lp, Option.bind_some]
    simp only [Sum.elim_inr]
    rw [t24 g, Option.bind_some, t32 _ (tx_size g _), Option.bind_some, h5]
    rfl
  | op5 ht h h32 h2 h3 h4 h5 h6 ih =>
    rename_i i d e j
    intro _ hi hd _ n hn
    obtain ⟨n, rfl⟩ : ∃ n', n = n' + 1 := ⟨n - 1, by omega⟩
    have hlt := tx_lt h (by decide +kernel)
    have hj := idn_lt h5
    rw [g35_f103]
    unfold b103
    unfold eqs at h h3 h4 h6
    rw [wn i (by omega), t24 g, Option.bind_some, h, Bool.not_true, cond_false, cond_f _ _ (dec_f (show ¬ ((d : Nat) : Int) ≥ 32 by omega)), w2 i (by omega), wn d (by omega), show (1 : Int) = ((1 : Nat) : Int) from rfl, ih (by simp [ntUp]) (by omega) (by omega) (by simp [ntE]) n (by omega), Option.bind_some]
    dsimp only [gt]
    obtain ⟨k, hk⟩ : ∃ k, big = k + 1 + 1 + 1 := ⟨9223372036854775804, rfl⟩
    rw [show ((0 : Int) != 0) = false from rfl, cond_false, hk]
    have lp : lp103_11 s24 s27 s32 (g35 n).f35 s66 (k + 1 + 1 + 1) (row b l) [(⟨#[44]⟩ : ByteArray), (⟨#[64]⟩ : ByteArray)] (j : Int) 0 = some (Sum.inr (((j + 2 : Nat) : Int), 2)) := by
      unfold lp103_11 lb103_11
      rw [show decide ((0 : Int) < 2) = true from rfl, cond_true, t24 g, Option.bind_some, show ([(⟨#[44]⟩ : ByteArray), (⟨#[64]⟩ : ByteArray)].getD (0 : Int).toNat ⟨#[]⟩) = ⟨#[44]⟩ from rfl, h3, Bool.not_true, cond_false]
      dsimp only
      rw [wn j (by omega), show w64 ((0 : Int) + 1) = 1 from rfl]
      unfold lp103_11 lb103_11
      rw [show decide ((1 : Int) < 2) = true from rfl, cond_true, t24 g, Option.bind_some, show ([(⟨#[44]⟩ : ByteArray), (⟨#[64]⟩ : ByteArray)].getD (1 : Int).toNat ⟨#[]⟩) = ⟨#[64]⟩ from rfl, h4, Bool.not_true, cond_false]
      dsimp only
      rw [wn (j + 1) (by omega), show w64 ((1 : Int) + 1) = 2 from rfl]
      rfl
    rw [lp, Option.bind_some]
    simp only [Sum.elim_inr]
    rw [t24 g, Option.bind_some, t32 _ (tx_size g _), Option.bind_some, h5, Bool.not_true, cond_false, show (((1 : Nat) : Int)) = 1 from rfl, wn (j + 2) (by omega), t24 g, Option.bind_some, h6]
    rfl
  | opn ht h h32 h2 h3 h4 h5 h6 ih =>
    rename_i i d e j
    intro _ hi hd _ n hn
    obtain ⟨n, rfl⟩ : ∃ n', n = n' + 1 := ⟨n - 1, by omega⟩
    have hlt := tx_lt h (by decide +kernel)
    have hj := tx_lt h6 (by decide +kernel)
    obtain ⟨i1, i2, i3, _⟩ := h2.inv (by simp [ntOk]) (by omega)
    obtain ⟨i4, i5, i6, _⟩ := i3 rfl
    simp only [resN, ntE] at i1 i2 i5
    rw [g35_f103]
    unfold b103
    unfold eqs at h h3 h4 h6
    rw [wn i (by omega), t24 g, Option.bind_some, h, Bool.not_true, cond_false, cond_f _ _ (dec_f (show ¬ ((d : Nat) : Int) ≥ 32 by omega)), w2 i (by omega), wn d (by omega), show (1 : Int) = ((1 : Nat) : Int) from rfl, ih (by simp [ntUp]) (by omega) (by omega) (by simp [ntE]) n (by omega), Option.bind_some]
    dsimp only [gt]
    obtain ⟨k, hk⟩ : ∃ k, big = k + 1 + 1 + 1 := ⟨9223372036854775804, rfl⟩
    rw [show ((0 : Int) != 0) = false from rfl, cond_false, hk]
    have lp : lp103_11 s24 s27 s32 (g35 n).f35 s66 (k + 1 + 1 + 1) (row b l) [(⟨#[44]⟩ : ByteArray), (⟨#[64]⟩ : ByteArray)] (j : Int) 0 = some (Sum.inr (((j + 2 : Nat) : Int), 2)) := by
      unfold lp103_11 lb103_11
      rw [show decide ((0 : Int) < 2) = true from rfl, cond_true, t24 g, Option.bind_some, show ([(⟨#[44]⟩ : ByteArray), (⟨#[64]⟩ : ByteArray)].getD (0 : Int).toNat ⟨#[]⟩) = ⟨#[44]⟩ from rfl, h3, Bool.not_true, cond_false]
      dsimp only
      rw [wn j (by omega), show w64 ((0 : Int) + 1) = 1 from rfl]
      unfold lp103_11 lb103_11
      rw [show decide ((1 : Int) < 2) = true from rfl, cond_true, t24 g, Option.bind_some, show ([(⟨#[44]⟩ : ByteArray), (⟨#[64]⟩ : ByteArray)].getD (1 : Int).toNat ⟨#[]⟩) = ⟨#[64]⟩ from rfl, h4, Bool.not_true, cond_false]
      dsimp only
      rw [wn (j + 1) (by omega), show w64 ((1 : Int) + 1) = 2 from rfl]
      rfl
    rw [lp, Option.bind_some]
    simp only [Sum.elim_inr]
    rw [t24 g, Option.bind_some, t32 _ (tx_size g _), Option.bind_some, h5, Bool.not_true, cond_false, show (((1 : Nat) : Int)) = 1 from rfl, wn (j + 2) (by omega), t24 g, Option.bind_some, h6, Bool.not_true, cond_false, t27, Option.bind_some, eta27, w2 (j + 2) (by omega), t66 _ (j + 2 + 2) i (by simp only [nds, ndss]; omega)]
    rfl
  | nm0 h =>
    rename_i i d
    intro _ hi hd _ n hn
    obtain ⟨n, rfl⟩ : ∃ n', n = n' + 1 := ⟨n - 1, by omega⟩
    rw [g35_f104]
    unfold b104
    rw [t24 g, Option.bind_some, t32 _ (tx_size g _), Option.bind_some, h]
    rfl
  | nm1 h h2 h3 =>
    rename_i i d
    intro _ hi hd _ n hn
    obtain ⟨n, rfl⟩ : ∃ n', n = n' + 1 := ⟨n - 1, by omega⟩
    have hlt := tx_lt h2 (by decide +kernel)
    rw [g35_f104]
    unfold b104
    unfold eqs at h2
    rw [t24 g, Option.bind_some, t32 _ (tx_size g _), Option.bind_some, h, Bool.not_true, cond_false, wn i (by omega), t24 g, Option.bind_some, h2, cond_true, wn (i + 1) (by omega), t24 g, Option.bind_some, t32 _ (tx_size g _), Option.bind_some, h3]
    rfl
  | nmV h hx h2 =>
    rename_i i d k x
    intro _ hi hd _ n hn
    obtain ⟨n, rfl⟩ : ∃ n', n = n' + 1 := ⟨n - 1, by omega⟩
    have hlt := idn_lt h
    rw [g35_f104]
    unfold b104
    unfold eqs at h2
    rw [t24 g, Option.bind_some, t32 _ (tx_size g _), Option.bind_some, h, Bool.not_true, cond_false, wn i (by omega), t24 g, Option.bind_some]
    rcases hx with ⟨k1, k2, rfl, rfl⟩ | ⟨k1, rfl, rfl⟩
    · have hl2 := idn_lt k2
      unfold eqs at k1
      have s1 := tx_size g i
      have s2 := tx_size g (i + 1 + 1)
      rw [k1, cond_true, wn (i + 1) (by omega), t24 g, Option.bind_some, t32 _ (tx_size g _), Option.bind_some, show idn (tx b l (i + 1 + 1)) = true from k2, Bool.not_true, cond_false,
        when_t _ (dec_t (by rw [show (⟨#[46]⟩ : ByteArray).size = 1 from rfl]; omega)), Option.bind_some, when_t _ (dec_t (by rw [ByteArray.size_append, show (⟨#[46]⟩ : ByteArray).size = 1 from rfl]; omega)), w2 (i + 1) (by omega), t24 g, Option.bind_some, h2, Bool.not_false, cond_true, t27, Option.bind_some, ByteArray.append_assoc]
      rfl
    · unfold eqs at k1
      rw [k1, cond_false, Option.bind_some, h2, Bool.not_false, cond_true, t27, Option.bind_some]
      rfl
  | nmD h hx h2 h32 =>
    rename_i i d k x
    intro _ hi hd _ n hn
    obtain ⟨n, rfl⟩ : ∃ n', n = n' + 1 := ⟨n - 1, by omega⟩
    have hlt := idn_lt h
    rw [g35_f104]
    unfold b104
    unfold eqs at h2
    rw [t24 g, Option.bind_some, t32 _ (tx_size g _), Option.bind_some, h, Bool.not_true, cond_false, wn i (by omega), t24 g, Option.bind_some]
    rcases hx with ⟨k1, k2, rfl, rfl⟩ | ⟨k1, rfl, rfl⟩
    · have hl2 := idn_lt k2
      unfold eqs at k1
      have s1 := tx_size g i
      have s2 := tx_size g (i + 1 + 1)
      rw [k1, cond_true, wn (i + 1) (by omega), t24 g, Option.bind_some, t32 _ (tx_size g _), Option.bind_some, show idn (tx b l (i + 1 + 1)) = true from k2, Bool.not_true, cond_false,
        when_t _ (dec_t (by rw [show (⟨#[46]⟩ : ByteArray).size = 1 from rfl]; omega)), Option.bind_some, when_t _ (dec_t (by rw [ByteArray.size_append, show (⟨#[46]⟩ : ByteArray).size = 1 from rfl]; omega)), w2 (i + 1) (by omega), t24 g, Option.bind_some, h2, Bool.not_true, cond_false, cond_t _ _ (dec_t (show ((d : Nat) : Int) ≥ 32 by omega))]
      rfl
    · unfold eqs at k1
      rw [k1, cond_false, Option.bind_some, h2, Bool.not_true, cond_false, cond_t _ _ (dec_t (show ((d : Nat) : Int) ≥ 32 by omega))]
      rfl
  | nmE h hx h2 h32 h3 he ih =>
    rename_i i d k x e err j
    intro _ hi hd _ n hn
    obtain ⟨n, rfl⟩ : ∃ n', n = n' + 1 := ⟨n - 1, by omega⟩
    have hlt := idn_lt h
    have hkl := tx_lt h2 (by decide +kernel)
    have hki : i < k := by rcases hx with ⟨k1, k2, k3, _⟩ | ⟨k1, k3, _⟩ <;> omega
    obtain ⟨o, o1, o2⟩ := ih trivial hkl (by omega) (by simp [ntE, ndss]) n big d rfl (by omega) (by have : l.length - (k + 1) + 2 < big := big_lt (by omega); omega)
    rcases o2 with ⟨o3, _⟩ | ⟨_, p, q, rfl⟩
    · exact absurd o3 he
    · rw [g35_f104]
      unfold b104
      unfold eqs at h2
      rw [t24 g, Option.bind_some, t32 _ (tx_size g _), Option.bind_some, h, Bool.not_true, cond_false, wn i (by omega), t24 g, Option.bind_some]
      rcases hx with ⟨k1, k2, rfl, rfl⟩ | ⟨k1, rfl, rfl⟩
      · have hl2 := idn_lt k2
        unfold eqs at k1
        have s1 := tx_size g i
        have s2 := tx_size g (i + 1 + 1)
        rw [k1, cond_true, wn (i + 1) (by omega), t24 g, Option.bind_some, t32 _ (tx_size g _), Option.bind_some, show idn (tx b l (i + 1 + 1)) = true from k2, Bool.not_true, cond_false,
          when_t _ (dec_t (by rw [show (⟨#[46]⟩ : ByteArray).size = 1 from rfl]; omega)), Option.bind_some, when_t _ (dec_t (by rw [ByteArray.size_append, show (⟨#[46]⟩ : ByteArray).size = 1 from rfl]; omega)), w2 (i + 1) (by omega), t24 g, Option.bind_some, h2, Bool.not_true, cond_false, cond_f _ _ (dec_f (show ¬ ((d : Nat) : Int) ≥ 32 by omega)), t27, Option.bind_some, wn (i + 1 + 2) (by omega), show i + 1 + 2 + 1 = i + 3 + 1 from rfl, o1]
        rfl
      · unfold eqs at k1
        rw [k1, cond_false, Option.bind_some, h2, Bool.not_true, cond_false, cond_f _ _ (dec_f (show ¬ ((d : Nat) : Int) ≥ 32 by omega)), t27, Option.bind_some, wn (i + 1) (by omega), o1]
        rfl
  | nam h hx h2 h32 h3 ih =>
    rename_i i d k x e j
    intro _ hi hd _ n hn
    obtain ⟨n, rfl⟩ : ∃ n', n = n' + 1 := ⟨n - 1, by omega⟩
    have hlt := idn_lt h
    have hkl := tx_lt h2 (by decide +kernel)
    have hki : i < k := by rcases hx with ⟨k1, k2, k3, _⟩ | ⟨k1, k3, _⟩ <;> omega
    obtain ⟨i1, i2, i3, _⟩ := h3.inv (by simp [ntOk]) hkl
    obtain ⟨i4, i5, i6, i7⟩ := i3 rfl
    have hj := tx_lt (i7 _ rfl) (by decide +kernel)
    simp only [resN, ntE, ndss] at i1 i2 i5 hj
    obtain ⟨o, o1, o2⟩ := ih trivial hkl (by omega) (by simp [ntE, ndss]) n big d rfl (by omega) (by have : l.length - (k + 1) + 2 < big := big_lt (by omega); omega)
    rcases o2 with ⟨_, rfl⟩ | ⟨o3, _⟩
    · rw [g35_f104]
      unfold b104
      unfold eqs at h2
      rw [t24 g, Option.bind_some, t32 _ (tx_size g _), Option.bind_some, h, Bool.not_true, cond_false, wn i (by omega), t24 g, Option.bind_some]
      rcases hx with ⟨k1, k2, rfl, rfl⟩ | ⟨k1, rfl, rfl⟩
      · have hl2 := idn_lt k2
        unfold eqs at k1
        have s1 := tx_size g i
        have s2 := tx_size g (i + 1 + 1)
        rw [k1, cond_true, wn (i + 1) (by omega), t24 g, Option.bind_some, t32 _ (tx_size g _), Option.bind_some, show idn (tx b l (i + 1 + 1)) = true from k2, Bool.not_true, cond_false,
          when_t _ (dec_t (by rw [show (⟨#[46]⟩ : ByteArray).size = 1 from rfl]; omega)), Option.bind_some, when_t _ (dec_t (by rw [ByteArray.size_append, show (⟨#[46]⟩ : ByteArray).size = 1 from rfl]; omega)), w2 (i + 1) (by omega), t24 g, Option.bind_some, h2, Bool.not_true, cond_false, cond_f _ _ (dec_f (show ¬ ((d : Nat) : Int) ≥ 32 by omega)), t27, Option.bind_some, wn (i + 1 + 2) (by omega), show i + 1 + 2 + 1 = i + 3 + 1 from rfl, o1, Option.bind_some]
        simp only [Sum.elim_inr]
        rw [wn j (by omega), t66 _ (j + 1) i (by simp only [nds]; omega), ByteArray.append_assoc]
        rfl
      · unfold eqs at k1
        rw [k1, cond_false, Option.bind_some, h2, Bool.not_true, cond_false, cond_f _ _ (dec_f (show ¬ ((d : Nat) : Int) ≥ 32 by omega)), t27, Option.bind_some, wn (i + 1) (by omega), o1, Option.bind_some]
        simp only [Sum.elim_inr]
        rw [wn j (by omega), t66 _ (j + 1) i (by simp only [nds]; omega)]
        rfl
    · exact absurd rfl o3
  | alN h =>
    rename_i acc i d
    intro _ hi hd _ n m d0 e0 hn hm
    obtain ⟨m, rfl⟩ : ∃ m', m = m' + 1 := ⟨m - 1, by omega⟩
    unfold lp104_16 lb104_16
    unfold eqs at h
    rw [t24 g, Option.bind_some, h]
    exact ⟨_, rfl, .inl ⟨rfl, rfl⟩⟩
  | alC h ha h2 =>
    rename_i acc i d
    intro _ hi hd _ n m d0 e0 hn hm
    obtain ⟨m, rfl⟩ : ∃ m', m = m' + 1 := ⟨m - 1, by omega⟩
    have : 0 < acc.length := List.length_pos_iff.2 ha
    unfold lp104_16 lb104_16
    unfold eqs at h h2
    rw [t24 g, Option.bind_some, h, Bool.not_false, cond_true, cond_t _ _ (dec_t (show ((acc.length : Nat) : Int) > 0 by omega)), Option.bind_some, h2]
    exact ⟨_, rfl, .inr ⟨by simp, _, _, rfl⟩⟩
  | alE h hk h3 he ih =>
    rename_i acc i d k e err j
    intro _ hi hd hE n m d0 e0 hn hm
    obtain ⟨m, rfl⟩ : ∃ m', m = m' + 1 := ⟨m - 1, by omega⟩
    subst e0
    have hkl : i ≤ k ∧ k ≤ l.length := by
      rcases hk with ⟨_, rfl⟩ | ⟨_, k2, rfl⟩
      · exact ⟨Nat.le_refl _, hi⟩
      · have := tx_lt k2 (by decide +kernel); omega
    have hz := (h3.inv (by simp [ntOk]) hkl.2).2.2.2 he
    simp only at hz
    subst hz
    have key := ih (by simp [ntUp]) hkl.2 hd (by simp [ntE]) n (by omega)
    rw [show (((1 : Nat)) : Int) = 1 from rfl] at key
    unfold lp104_16 lb104_16
    unfold eqs at h
    rw [t24 g, Option.bind_some, h, Bool.not_false, cond_true]
    rcases hk with ⟨rfl, rfl⟩ | ⟨k1, k2, rfl⟩
    · rw [show decide (((([] : List S27).length : Nat) : Int) > 0) = false from rfl, cond_false, wn d0 (by omega), key, Option.bind_some]
      dsimp only [gt]
      rw [b0' he]
      exact ⟨_, rfl, .inr ⟨he, _, _, rfl⟩⟩
    · have : 0 < acc.length := List.length_pos_iff.2 k1
      unfold eqs at k2
      rw [cond_t _ _ (dec_t (show ((acc.length : Nat) : Int) > 0 by omega)), Option.bind_some, k2, Bool.not_true, cond_false, wn i (by omega), wn d0 (by omega), key, Option.bind_some]
      dsimp only [gt]
      rw [b0' he]
      exact ⟨_, rfl, .inr ⟨he, _, _, rfl⟩⟩
  | al h hk h3 h4 ih ih2 =>
    rename_i acc i d k e j r
    intro _ hi hd hE n m d0 e0 hn hm
    obtain ⟨m, rfl⟩ : ∃ m', m = m' + 1 := ⟨m - 1, by omega⟩
    subst e0
    simp only [ntE] at hE
    have hal := ndss_len acc
    have hkl : i ≤ k ∧ k ≤ l.length := by
      rcases hk with ⟨_, rfl⟩ | ⟨_, k2, rfl⟩
      · exact ⟨Nat.le_refl _, hi⟩
      · have := tx_lt k2 (by decide +kernel); omega
    obtain ⟨i1, i2, i3, _⟩ := h3.inv (by simp [ntOk]) hkl.2
    obtain ⟨i4, i5, i6, _⟩ := i3 rfl
    simp only [resN, ntE] at i1 i2 i5
    have i4 := i4 rfl
    simp only at i4
    have key := ih (by simp [ntUp]) hkl.2 hd (by simp [ntE]) n (by omega)
    rw [show (((1 : Nat)) : Int) = 1 from rfl] at key
    have key2 := ih2 trivial i2 hd (by simp only [ntE, ndss_app, ndss]; omega) n m d0 rfl (by omega) (by omega)
    rw [show lp104_16 s24 s27 s32 (g35 n).f35 s66 (m + 1) (row b l) (d0 : Int) (i : Int) acc = lb104_16 s24 s27 s32 (g35 n).f35 s66 (row b l) (d0 : Int) (fun v72 v87 => lp104_16 s24 s27 s32 (g35 n).f35 s66 m (row b l) (d0 : Int) v72 v87) (fun o => some (Sum.inl o)) (fun o => some (Sum.inr (o))) (i : Int) acc from rfl]
    unfold lb104_16
    unfold eqs at h
    rw [t24 g, Option.bind_some, h, Bool.not_false, cond_true]
    rcases hk with ⟨rfl, rfl⟩ | ⟨k1, k2, rfl⟩
    · rw [show decide (((([] : List S27).length : Nat) : Int) > 0) = false from rfl, cond_false, wn d0 (by omega), key, Option.bind_some]
      dsimp only [gt]
      rw [show ((0 : Int) != 0) = false from rfl, cond_false, when_t _ (dec_t (by simp)), eta27]
      exact key2
    · have : 0 < acc.length := List.length_pos_iff.2 k1
      unfold eqs at k2
      rw [cond_t _ _ (dec_t (show ((acc.length : Nat) : Int) > 0 by omega)), Option.bind_some, k2, Bool.not_true, cond_false, wn i (by omega), wn d0 (by omega), key, Option.bind_some]
      dsimp only [gt]
      rw [show ((0 : Int) != 0) = false from rfl, cond_false, when_t _ (dec_t (by simp; omega)), eta27]
      exact key2
theorem t35 (g : Good b l) (hD : DigL b l) {i d : Nat} {r : S27 × Int × Nat} (h : Bs b l (.bin 1) i d r) (hi : i ≤ l.length) (hd : d ≤ 33) : s35 (row b l) (i : Int) 1 (d : Int) = some (gt r) := by
  have hlen := g.llen
  have hb := g.len
  exact h.ref g hD (by simp [ntUp]) hi hd (by simp [ntE]) big (by have : 10 * (l.length - i) + 9 < big := big_lt (by omega); omega)
end
end Go.Proofs.Ytogfofcocidmkaa.Pu
