/- The plain functions, read: an expression that is read is read in each text that has the same tokens further on, up to its end. -/
import Derived.Test.YtogfofcocidmkaaPuJb
set_option linter.unusedVariables false
set_option linter.unusedSimpArgs false
namespace Go.Proofs.Ytogfofcocidmkaa.Pu
open Go.RowKit Go.Proofs Ev
theorem ne0 {p : Prop} {x : S27} {n : Int} {j : Nat} (h : ((x, n, j) : S27 × Int × Nat).2.1 = 0) (hn : n ≠ 0 := by decide) : p := absurd h hn
theorem held_le {e : S27} {told j J : Nat} (hz : (heldR e told j).2.1 = 0) (hj : (heldR e told j).2.2 ≤ J) : j ≤ J ∧ heldR e told j = (e, 0, j) := by
  unfold heldR at hz hj ⊢
  split at hz
  · exact ne0 hz
  · rename_i h; rw [if_neg h] at hj ⊢; exact ⟨hj, rfl⟩
theorem held_off {e : S27} {told j told' j' : Nat} (s : Int) (h : heldR e told j = (e, 0, j)) : heldR (shE s e) told' j' = (shE s e, 0, j') := by
  unfold heldR at h ⊢
  rw [hgt_sh]
  split at h
  · simp at h
  · rename_i hh; rw [if_neg hh]
section
variable {b b' : List Int} {l l' : List S51} {J o : Nat} {s : Int}
theorem Bs.off (hT : ∀ i k, i + k ≤ J → tx b' l' (i + o + k) = tx b l (i + k)) (hP : ∀ i, i ≤ J → ps b' l' (i + o) = ps b l i + s) (hK : ∀ i, i ≤ J → kd b' l' (i + o) = kd b l i) {nt : NT} {i d : Nat} {r : S27 × Int × Nat} (h : Bs b l nt i d r) :
    ntOk nt → i ≤ l.length → r.2.1 = 0 → r.2.2 ≤ J → Bs b' l' (shN s nt) (i + o) d (shX s nt r.1, 0, r.2.2 + o) := by
  have hT0 : ∀ i, i ≤ J → tx b' l' (i + o) = tx b l i := fun i hi => hT i 0 hi
  induction h with
  | bin6 h ih => exact fun _ hi hz hj => .bin6 (ih trivial hi hz hj)
  | binE hl h he ih => exact fun _ _ hz _ => absurd hz he
  | bin hl h h2 ih ih2 =>
    rename_i lv i d e j e' err k
    intro ho hi hz hj
    simp only at hz hj
    subst hz
    have ho1 : ntOk (.bin (lv + 1)) := by simp only [ntOk]; omega
    obtain ⟨i1, i2, i3, _⟩ := h.inv ho1 hi
    have hh := (i3 rfl).2.2.1 (fun acc => by simp)
    have ho2 : ntOk (.bl lv e) := by simp only [ntOk] at ho ⊢; exact ⟨ho, hh⟩
    have hv2 := h2.inv ho2 i2
    simp only at i1 i2 hv2
    rw [if_pos rfl]
    have key := Bs.bin (b := b') (l := l') hl (ih ho1 hi rfl (by simp only; omega)) (ih2 ho2 i2 rfl hj)
    rw [if_pos rfl] at key
    exact key
  | blN h => exact fun _ _ _ hj => .blN (by rw [hT0 _ hj]; exact h)
  | blE h h2 he ih => exact fun _ _ hz _ => absurd hz he
  | blH h h2 hh ih => exact fun _ _ hz _ => ne0 hz
  | bl h h2 hh h3 ih ih2 =>
    rename_i lv e i d m j r
    intro ho hi hz hj
    have ho' := ho
    simp only [ntOk] at ho'
    have hlt := lev_lt h ho'.1
    have ho1 : ntOk (.bin (lv + 1)) := by simp only [ntOk]; omega
    obtain ⟨i1, i2, i3, _⟩ := h2.inv ho1 hlt
    have ho2 : ntOk (.bl lv ⟨5, e.c1, 0, tx b l i, ⟨#[]⟩, [e, m]⟩) := by simp only [ntOk]; exact ⟨ho'.1, by omega⟩
    have hv2 := h3.inv ho2 i2
    simp only at i1 i2 hv2
    have eT := hT0 i (by omega)
    have e1 : shE s ⟨5, e.c1, 0, tx b l i, ⟨#[]⟩, [e, m]⟩ = ⟨5, (shE s e).c1, 0, tx b' l' (i + o), ⟨#[]⟩, [shE s e, shE s m]⟩ := by rw [shE_c1, eT]; simp only [shE, shL]
    have k1 := ih ho1 hlt rfl (by simp only; omega)
    have k2 := ih2 ho2 i2 hz hj
    rw [show i + 1 + o = i + o + 1 from by omega] at k1
    refine Bs.bl (lv := lv) (e := shE s e) (m := shE s m) (j := j + o) (by rw [eT]; exact h) k1 ?_ ?_
    · rw [← e1, hgt_sh]; exact hh
    · rw [← e1]; exact k2
  | sigN h1 h2 h ih =>
    intro ho hi hz hj
    have hv := h.inv trivial hi
    exact .sigN (by rw [hT0 _ (by omega)]; exact h1) (by rw [hT0 _ (by omega)]; exact h2) (ih trivial hi hz hj)
  | sigD h1 hd => exact fun _ _ hz _ => ne0 hz
  | sigE h1 hd h he ih => exact fun _ _ hz _ => absurd hz he
  | sig h1 hd h ih =>
    rename_i i d e j
    intro ho hi hz hj
    obtain ⟨hJ, hr⟩ := held_le hz hj
    have hlt : i < l.length := by
      cases h0 : eqs (tx b l i) ⟨#[33]⟩ with
      | true => exact tx_lt h0 (by decide +kernel)
      | false => rw [h0] at h1; exact tx_lt h1 (by decide +kernel)
    have hv := h.inv trivial hlt
    simp only at hv
    have k1 := ih trivial hlt rfl hJ
    rw [show i + 1 + o = i + o + 1 from by omega] at k1
    have key := Bs.sig (b := b') (l := l') (i := i + o) (d := d) (by rw [hT0 i (by omega)]; exact h1) hd k1
    rw [hP i (by omega), hT0 i (by omega)] at key
    have hr2 := held_off (told' := i + o) (j' := j + o) s hr
    simp only [shE, shL] at hr2
    rw [show ([shX s NT.sig e] : List S27) = [shE s e] from rfl, hr2] at key
    rw [hr]
    exact key
  | num hk h =>
    rename_i i d v
    intro _ _ _ hj
    simp only at hj
    have key := Bs.num (b := b') (l := l') (i := i + o) (d := d) (v := v) (by rw [hK i (by omega)]; exact hk) (by rw [hT0 i (by omega)]; exact h)
    rw [hP i (by omega), show i + o + 1 = i + 1 + o from by omega] at key
    exact key
  | numE hk h => exact fun _ _ hz _ => ne0 hz
  | tru hk h =>
    rename_i i d
    intro _ _ _ hj
    simp only at hj
    have key := Bs.tru (b := b') (l := l') (i := i + o) (d := d) (by rw [hK i (by omega)]; exact hk) (by rw [hT0 i (by omega)]; exact h)
    rw [hP i (by omega), show i + o + 1 = i + 1 + o from by omega] at key
    exact key
  | fls hk h =>
    rename_i i d
    intro _ _ _ hj
    simp only at hj
    have key := Bs.fls (b := b') (l := l') (i := i + o) (d := d) (by rw [hK i (by omega)]; exact hk) (by rw [hT0 i (by omega)]; exact h)
    rw [hP i (by omega), show i + o + 1 = i + 1 + o from by omega] at key
    exact key
  | pgr hk h h2 ih =>
    intro _ hi hz hj
    have hv := h2.inv trivial hi
    exact .pgr (by rw [hK _ (by omega)]; exact hk) (by rw [hT0 _ (by omega)]; exact h) (ih trivial hi hz hj)
  | pop hk h h2 ih =>
    intro _ hi hz hj
    have hv := h2.inv trivial hi
    exact .pop (by rw [hK _ (by omega)]; exact hk) (by rw [hT0 _ (by omega)]; exact h) (ih trivial hi hz hj)
  | pnm hk h1 h2 h3 h4 h ih =>
    intro _ hi hz hj
    have hv := h.inv trivial hi
    exact .pnm (by rw [hK _ (by omega)]; exact hk) (by rw [hT0 _ (by omega)]; exact h1) (by rw [hT0 _ (by omega)]; exact h2) (by rw [hT0 _ (by omega)]; exact h3) (by rw [hT0 _ (by omega)]; exact h4) (ih trivial hi hz hj)
  | grD ht hd => exact fun _ _ hz _ => ne0 hz
  | grE ht hd h he ih => exact fun _ _ hz _ => absurd hz he
  | grP ht hd h h2 ih => exact fun _ _ hz _ => ne0 hz
  | grp ht hd h h2 ih =>
    rename_i i d e j
    intro _ hi hz hj
    simp only at hj
    have hlt := tx_lt ht (by decide +kernel)
    have hv := h.inv (by simp [ntOk]) hlt
    simp only at hv
    have k1 := ih (by simp [ntOk]) hlt rfl (by simp only; omega)
    rw [show i + 1 + o = i + o + 1 from by omega] at k1
    have key := Bs.grp (b := b') (l := l') (i := i + o) (by rw [hT0 i (by omega)]; exact ht) hd k1 (by rw [hT0 j (by omega)]; exact h2)
    rw [show j + o + 1 = j + 1 + o from by omega] at key
    exact key
  | op1 ht h => exact fun _ _ hz _ => ne0 hz
  | opD ht h hd => exact fun _ _ hz _ => ne0 hz
  | opE ht h hd h2 he ih => exact fun _ _ hz _ => absurd hz he
  | op2 ht h hd h2 h3 ih => exact fun _ _ hz _ => ne0 hz
  | op3 ht h hd h2 h3 h4 ih => exact fun _ _ hz _ => ne0 hz
  | op4 ht h hd h2 h3 h4 h5 ih => exact fun _ _ hz _ => ne0 hz
  | op5 ht h hd h2 h3 h4 h5 h6 ih => exact fun _ _ hz _ => ne0 hz
  | opn ht h hd h2 h3 h4 h5 h6 ih =>
    rename_i i d e j
    intro _ hi hz hj
    obtain ⟨hJ, hr⟩ := held_le hz hj
    have hlt := tx_lt h (by decide +kernel)
    have hv := h2.inv (by simp [ntOk]) (by omega)
    simp only at hv
    have k1 := ih (by simp [ntOk]) (by omega) rfl (by simp only; omega)
    rw [show i + 2 + o = i + o + 2 from by omega] at k1
    have key := Bs.opn (b := b') (l := l') (i := i + o) (d := d) (j := j + o) (by rw [hT0 i (by omega)]; exact ht) (by rw [hT _ _ (by omega)]; exact h) hd k1 (by rw [hT0 _ (by omega)]; exact h3) (by rw [hT _ _ (by omega)]; exact h4) (by rw [hT _ _ (by omega)]; exact h5) (by rw [hT _ _ (by omega)]; exact h6)
    rw [hP i (by omega), hT j 2 (by omega), show j + o + 4 = j + 4 + o from by omega] at key
    have hr2 := held_off (told' := i + o) (j' := j + 4 + o) s hr
    simp only [shE, shL] at hr2
    rw [show ([shX s (NT.bin 1) e] : List S27) = [shE s e] from rfl, hr2] at key
    rw [hr]
    exact key
  | nm0 h => exact fun _ _ hz _ => ne0 hz
  | nm1 h h2 h3 => exact fun _ _ hz _ => ne0 hz
  | nmV h hx h2 =>
    rename_i i d k x
    intro _ hi hz hj
    simp only at hj
    have hk : i + 1 ≤ k := by rcases hx with ⟨_, _, k3, _⟩ | ⟨_, k3, _⟩ <;> omega
    have hx' : (eqs (tx b' l' (i + o + 1)) ⟨#[46]⟩ = true ∧ idn (tx b' l' (i + o + 2)) = true ∧ k + o = i + o + 3 ∧ x = tx b' l' (i + o) ++ ((⟨#[46]⟩ : ByteArray) ++ tx b' l' (i + o + 2))) ∨ (eqs (tx b' l' (i + o + 1)) ⟨#[46]⟩ = false ∧ k + o = i + o + 1 ∧ x = tx b' l' (i + o)) := by
      rcases hx with ⟨k1, k2, k3, k4⟩ | ⟨k1, k3, k4⟩
      · exact .inl ⟨by rw [hT _ _ (by omega)]; exact k1, by rw [hT _ _ (by omega)]; exact k2, by omega, by rw [hT0 i (by omega), hT i 2 (by omega)]; exact k4⟩
      · exact .inr ⟨by rw [hT _ _ (by omega)]; exact k1, by omega, by rw [hT0 i (by omega)]; exact k4⟩
    have key := Bs.nmV (b := b') (l := l') (d := d) (by rw [hT0 i (by omega)]; exact h) hx' (by rw [hT0 k (by omega)]; exact h2)
    rw [hP i (by omega)] at key
    exact key
  | nmD h hx h2 hd => exact fun _ _ hz _ => ne0 hz
  | nmE h hx h2 hd h3 he ih => exact fun _ _ hz _ => absurd hz he
  | nam h hx h2 hd h3 ih =>
    rename_i i d k x e j
    intro _ hi hz hj
    obtain ⟨hJ, hr⟩ := held_le hz hj
    have hk : i + 1 ≤ k := by rcases hx with ⟨_, _, k3, _⟩ | ⟨_, k3, _⟩ <;> omega
    have hkl := tx_lt h2 (by decide +kernel)
    have hv := h3.inv trivial hkl
    simp only at hv
    have hx' : (eqs (tx b' l' (i + o + 1)) ⟨#[46]⟩ = true ∧ idn (tx b' l' (i + o + 2)) = true ∧ k + o = i + o + 3 ∧ x = tx b' l' (i + o) ++ ((⟨#[46]⟩ : ByteArray) ++ tx b' l' (i + o + 2))) ∨ (eqs (tx b' l' (i + o + 1)) ⟨#[46]⟩ = false ∧ k + o = i + o + 1 ∧ x = tx b' l' (i + o)) := by
      rcases hx with ⟨k1, k2, k3, k4⟩ | ⟨k1, k3, k4⟩
      · exact .inl ⟨by rw [hT _ _ (by omega)]; exact k1, by rw [hT _ _ (by omega)]; exact k2, by omega, by rw [hT0 i (by omega), hT i 2 (by omega)]; exact k4⟩
      · exact .inr ⟨by rw [hT _ _ (by omega)]; exact k1, by omega, by rw [hT0 i (by omega)]; exact k4⟩
    have k1 := ih trivial hkl rfl (by simp only; omega)
    rw [show k + 1 + o = k + o + 1 from by omega] at k1
    have key := Bs.nam (b := b') (l := l') (by rw [hT0 i (by omega)]; exact h) hx' (by rw [hT0 k (by omega)]; exact h2) hd k1
    rw [hP i (by omega), show j + o + 1 = j + 1 + o from by omega] at key
    have hr2 := held_off (told' := i + o) (j' := j + 1 + o) s hr
    simp only [shE] at hr2
    rw [show (shX s (NT.al []) e).c5 = shL s e.c5 from rfl, hr2] at key
    rw [hr]
    exact key
  | alN h => exact fun _ _ _ hj => .alN (by rw [hT0 _ hj]; exact h)
  | alC h ha h2 => exact fun _ _ hz _ => ne0 hz
  | alE h hk h3 he ih => exact fun _ _ hz _ => absurd hz he
  | al h hk h3 h4 ih ih2 =>
    rename_i acc i d k e j r
    intro _ hi hz hj
    have hkl : i ≤ k ∧ k ≤ l.length := by
      rcases hk with ⟨_, rfl⟩ | ⟨_, k2, rfl⟩
      · exact ⟨Nat.le_refl _, hi⟩
      · have := tx_lt k2 (by decide +kernel); omega
    have hv := h3.inv (by simp [ntOk]) hkl.2
    simp only at hv
    have hv2 := h4.inv trivial hv.2.1
    have k1 := ih (by simp [ntOk]) hkl.2 rfl (by simp only; omega)
    have k2 := ih2 trivial hv.2.1 hz hj
    have e1 : shN s (.al (acc ++ [e])) = .al (shL s acc ++ [shE s e]) := by simp only [shN, shL_app, shL]
    rw [e1] at k2
    refine Bs.al (k := k + o) (by rw [hT0 i (by omega)]; exact h) ?_ k1 k2
    rcases hk with ⟨rfl, k1⟩ | ⟨k1, k2, k3⟩
    · exact .inl ⟨rfl, by omega⟩
    · refine .inr ⟨?_, by rw [hT0 i (by omega)]; exact k2, by omega⟩
      cases acc with
      | nil => exact absurd rfl k1
      | cons x xs => simp [shL]
end
end Go.Proofs.Ytogfofcocidmkaa.Pu
