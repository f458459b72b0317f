/- ExprInside: its plain function says true of all bytes. No condition. -/
import Derived.Test.YtogfofcocidmkaaPuH
import Derived.KernelRfl
set_option linter.unusedVariables false
set_option linter.unusedSimpArgs false
namespace Go.Proofs.Ytogfofcocidmkaa.exprInside
open Go.RowKit Go.Proofs Ev Pu
theorem lp36 {f : S27 → Int → Option Bool} {e : S27} {z : Int} (hl : e.c5.length ≤ 100000) (hf : ∀ x ∈ e.c5, e.c1 ≤ x.c1 ∧ x.c1 < z ∧ f x z = some true) : ∀ (n i : Nat), i ≤ e.c5.length → e.c5.length - i < n →
    ∃ v, lp36_2 f n e z (i : Int) = some (Sum.inr v) := by
  intro n
  induction n with
  | zero => intro i h1 h2; omega
  | succ n ih =>
    intro i h1 h2
    unfold lp36_2 lb36_2
    dsimp only
    by_cases hi : i < e.c5.length
    · have e1 : e.c5.getD (i : Int).toNat z27 = e.c5[i] := by simp [List.getD_eq_getElem?_getD, hi]
      obtain ⟨k1, k2, k3⟩ := hf _ (List.getElem_mem hi)
      have hw : (decide (0 ≤ (i : Int)) && decide ((i : Int) < (e.c5.length : Int))) = true := by simp; omega
      rw [cond_t _ _ (dec_t (by omega)), when_t _ hw, e1, cond_f _ _ (dec_f (by omega)), when_t _ hw, cond_f _ _ (dec_f (by omega)), when_t _ hw, eta27, k3, Option.bind_some, Bool.not_true, cond_false, wn i (by omega)]
      exact ih (i + 1) hi (by omega)
    · rw [cond_f _ _ (dec_f (by omega))]
      exact ⟨_, rfl⟩
theorem g36_ok (z : Int) : ∀ (n : Nat) (e : S27), nds e ≤ n → nds e ≤ 100000 → insE z e → (g36 n).f36 e z = some true := by
  intro n
  induction n with
  | zero => intro e h; have := nds_pos e; omega
  | succ n ih =>
    intro e h hs hi
    show b36 (g36 n).f36 (lp36_2 (g36 n).f36 big) e z some = _
    unfold b36
    have h1 := nds_c5 e
    have h2 := ndss_len e.c5
    have hall := (insL_all _ _ _).2 ((insE_c5 _ _).1 hi)
    obtain ⟨v, hv⟩ := lp36 (f := (g36 n).f36) (e := e) (z := z) (by omega) (fun x hx => by
      have := ndss_mem _ _ hx
      obtain ⟨k1, k2, k3⟩ := hall x hx
      exact ⟨k1, k2, ih x (by omega) (by omega) k3⟩) big 0 (by omega) (big_lt (by omega))
    rw [show ((0 : Nat) : Int) = 0 from rfl] at hv
    rw [eta27, hv]
    rfl
theorem chain_mem {a z : Nat} {l : List S51} (h : Chain a l z) : ∀ t ∈ l, 0 ≤ t.c1 ∧ t.c1 ≤ z := by
  induction h with
  | nil a => intro t ht; cases ht
  | cons h hl ih =>
    intro t ht
    have := hl.le
    cases ht with
    | head => simp only; omega
    | tail _ ht => exact ih t ht
theorem aw : s12 = some true := by kernel_rfl
theorem ps_le {b : List Int} {l : List S51} (g : Pu.Good b l) (i : Nat) : ps b l i ≤ b.length := by
  by_cases h : i < l.length
  · exact Int.le_of_lt (g.ps_len h)
  · unfold ps; rw [if_neg h]; exact Int.le_refl _
theorem pure_holds (a0 : List Int) (h : ∀ n ∈ a0, (Lit.int .u8 n).wf = true) : s7 a0 = some true := by
  unfold s7 b7
  by_cases hl : a0.length ≤ 1000
  · rw [cond_f _ _ (dec_f (by omega)), show s31n0 = some ((⟨#[]⟩ : ByteArray), false) from by kernel_rfl, Option.bind_some, show s34n0 = some ((⟨0, 0, 0, ⟨#[]⟩, ⟨#[]⟩, []⟩ : S27), (1 : Int)) from by kernel_rfl, Option.bind_some]
    dsimp only
    rw [cond_false, show ((1 : Int) != 1) = false from rfl, cond_false, show s29n0 = some false from by kernel_rfl, Option.bind_some, cond_false, show s30n0 (⟨#[97]⟩ : ByteArray) = some false from by kernel_rfl, Option.bind_some, cond_false,
      show s25n0 = some (⟨#[]⟩ : ByteArray) from by kernel_rfl, Option.bind_some, show (!((⟨#[]⟩ : ByteArray).toList == (⟨#[]⟩ : ByteArray).toList)) = false from by decide +kernel, cond_false, show s26n0 = some 0 from by kernel_rfl, Option.bind_some,
      show ((0 : Int) != 0) = false from rfl, cond_false, show s33n0 = some 0 from by kernel_rfl, Option.bind_some, show ((0 : Int) != 0) = false from rfl, cond_false, show s28n0 = some 0 from by kernel_rfl, Option.bind_some, show ((0 : Int) != 0) = false from rfl, cond_false]
    obtain ⟨e, pos, err, h1, h2⟩ := t14 a0 (by omega)
    have g := good a0 (by omega)
    rw [h1, Option.bind_some]
    dsimp only
    have ok : err ≠ 0 → 0 ≤ pos → pos ≤ a0.length → (cond (err != 0) (cond (decide (pos ≥ 0)) (cond (decide (pos ≤ (a0.length : Int))) (s12.bind fun r11 => some r11) (some false)) (some false)) ((s17 (⟨e.c0, e.c1, e.c2, e.c3, e.c4, e.c5⟩ : S27)).bind fun r12 =>
        cond (decide (r12 ≤ 32)) (cond (decide (e.c1 ≥ 0)) (cond (decide (e.c1 < (a0.length : Int))) ((s36 (⟨e.c0, e.c1, e.c2, e.c3, e.c4, e.c5⟩ : S27) (a0.length : Int)).bind fun r13 => cond r13 (s12.bind fun r14 => some r14) (some false)) (some false)) (some false)) (some false))) = some true := by
      intro he h0 h9
      rw [b0' he, cond_true, cond_t _ _ (dec_t h0), cond_t _ _ (dec_t h9), aw]
      rfl
    rcases h2 with ⟨t, k1, rfl, rfl, rfl⟩ | ⟨k1, e', err', j, k2, k3⟩
    · have := chain_mem (toks_chain a0) t (List.mem_of_find?_eq_some k1)
      exact ok (by decide) this.1 this.2
    · rcases k3 with ⟨c1, rfl, rfl, rfl⟩ | ⟨rfl, c2, rfl, rfl, rfl⟩ | ⟨rfl, c2, rfl, rfl, rfl⟩
      · exact ok c1 (g.ps_nn j) (ps_le g j)
      · exact ok (by decide) (g.ps_nn j) (ps_le g j)
      · have hinv := k2.inv (by simp [ntOk]) (by omega)
        obtain ⟨i1, i2, i3, _⟩ := hinv
        obtain ⟨i4, i5, i6, _⟩ := i3 rfl
        simp only [resN, ntE] at i2 i5 i6
        obtain ⟨k, p1, p2, p3, p4⟩ := k2.pos g (by simp [ntOk]) (by omega) rfl
        simp only at p2 p3 p4
        have hh := i6 (fun acc => by simp)
        have hlen := g.llen
        rw [show ((0 : Int) != 0) = false from rfl, cond_false, eta27, t17 _ (by omega), Option.bind_some, cond_t _ _ (dec_t (by omega)), cond_t _ _ (dec_t (by rw [p3]; exact g.ps_nn k)), cond_t _ _ (dec_t (by rw [p3]; exact g.ps_len (by omega)))]
        have h36 : s36 e (a0.length : Int) = some true := g36_ok _ big e (by have : nds e < big := big_lt (by omega); omega) (by omega) p4
        rw [h36, Option.bind_some, cond_true, aw]
        rfl
  · rw [cond_t _ _ (dec_t (by omega)), aw]
    rfl
end Go.Proofs.Ytogfofcocidmkaa.exprInside
