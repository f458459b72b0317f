/- ExprBrackets: its plain function says true of all bytes. No condition. -/
import Derived.Test.YtogfofcocidmkaaPuL
set_option linter.unusedVariables false
set_option linter.unusedSimpArgs false
namespace Go.Proofs.Ytogfofcocidmkaa.exprBrackets
open Go.RowKit Go.Proofs Ev Pu
section
variable {b : List Int} {l : List S51}
def tz (b : List Int) : S51 := ⟨4, (b.length : Int), ((b.length + 1 : Nat) : Int)⟩
def lq (b : List Int) (l : List S51) : List S51 := ⟨4, 0, 1⟩ :: (l ++ [tz b]).map (shT 1)
theorem lq_len : (lq b l).length = l.length + 2 := by simp [lq]
theorem lq_get {i : Nat} (hi : i < l.length) : (lq b l).getD (i + 1) z51 = shT 1 (l.getD i z51) := by
  unfold lq
  rw [List.getD_cons_succ, getD_sh (by simp; omega)]
  congr 1
  simp [List.getD_eq_getElem?_getD, List.getElem?_append, hi]
theorem lq_end : (lq b l).getD (l.length + 1) z51 = shT 1 (tz b) := by
  unfold lq
  rw [List.getD_cons_succ, getD_sh (by simp)]
  congr 1
  simp [List.getD_eq_getElem?_getD]
theorem H1 (g : Pu.Good b l) (i : Nat) (hi : i < l.length) : tx (brk b) (lq b l) (i + 1) = tx b l i := by
  unfold tx
  rw [lq_len, if_pos (by omega), if_pos hi, lq_get hi]
  obtain ⟨s, e, h1, h2, h3, h4, h5⟩ := g.srt.get i hi
  simp only [shT, h1, h2]
  congr 1
  have e1 : ((e : Int) + (1 : Nat)).toNat = e + 1 := by omega
  have e2 : ((s : Int) + (1 : Nat)).toNat = s + 1 := by omega
  rw [e1, e2]
  show ((40 :: (b ++ [41])).take (e + 1)).drop (s + 1) = _
  rw [List.take_succ_cons, List.drop_succ_cons, List.take_append_of_le_length h5]
  simp
theorem HN : tx (brk b) (lq b l) (l.length + 1) = ⟨#[41]⟩ := by
  unfold tx
  rw [lq_len, if_pos (by omega), lq_end]
  simp only [shT, tz]
  have e1 : (((b.length + 1 : Nat) : Int) + (1 : Nat)).toNat = b.length + 1 + 1 := by omega
  have e2 : ((b.length : Int) + (1 : Nat)).toNat = b.length + 1 := by omega
  rw [e1, e2]
  have : ((40 :: (b ++ [41])).take (b.length + 1 + 1)).drop (b.length + 1) = [(41 : Int)] := by
    rw [List.take_succ_cons, List.drop_succ_cons, List.take_of_length_le (by simp)]
    simp
  have e3 : strOf (((brk b).take (b.length + 1 + 1)).drop (b.length + 1)) = strOf [41] := congrArg strOf this
  rw [e3]
  rfl
theorem HP (g : Pu.Good b l) (i : Nat) (hi : i ≤ l.length) : ps (brk b) (lq b l) (i + 1) = ps b l i + 1 := by
  unfold ps
  rw [lq_len, if_pos (by omega)]
  by_cases h : i < l.length
  · rw [if_pos h, lq_get h]; rfl
  · have : i = l.length := by omega
    subst this
    rw [if_neg h, lq_end]; rfl
theorem HK (i : Nat) (hi : i < l.length) : kd (brk b) (lq b l) (i + 1) = kd b l i := by
  unfold kd
  rw [lq_len, if_pos (by omega), if_pos hi, lq_get hi]; rfl
theorem T0 : tx (brk b) (lq b l) 0 = ⟨#[40]⟩ := by
  unfold tx
  rw [lq_len, if_pos (by omega)]
  rfl
theorem K0 : kd (brk b) (lq b l) 0 ≠ 3 := by
  unfold kd
  rw [lq_len, if_pos (by omega)]
  show (4 : Int) ≠ 3
  decide
theorem upE {b : List Int} {l : List S51} {i d j : Nat} {e : S27} {lv : Nat} (hl : lv < 6) (h1 : 1 ≤ lv) (h : Bs b l (.bin (lv + 1)) i d (e, 0, j)) (hj : tx b l j = ⟨#[]⟩) : Bs b l (.bin lv) i d (e, 0, j) := by
  have h0 : lev ⟨#[]⟩ = 0 := by decide +kernel
  have hb : Bs b l (.bl lv e) j d (e, 0, j) := .blN (by rw [hj]; omega)
  have := Bs.bin hl h hb
  rwa [if_pos rfl] at this
end
theorem noHash {f12 : Y12} {f14 : Y14} {f16 : Y16} {f20 : Y20} (h12 : f12 = some true) (b : List Int) (hb : b.length ≤ 1000) : ∀ (n i : Nat), i ≤ b.length → b.length - i < n →
    ∃ r, lp4_4 f12 f14 f16 f20 n b (i : Int) = some r ∧ (match r with | .inl o => o.2 = true | .inr _ => ∀ x ∈ b.drop i, x ≠ 35) := by
  intro n
  induction n with
  | zero => intro i h1 h2; omega
  | succ n ih =>
    intro i h1 h2
    unfold lp4_4 lb4_4
    dsimp only
    by_cases hi : i < b.length
    · have e1 : b.getD (i : Int).toNat 0 = b[i] := by simp [List.getD_eq_getElem?_getD, hi]
      rw [cond_t _ _ (dec_t (by omega)), when_t _ (by simp; omega), e1]
      cases h : (b[i] == 35) with
      | true =>
        rw [cond_true, h12]
        exact ⟨_, rfl, rfl⟩
      | false =>
        rw [cond_false, wn i (by omega)]
        obtain ⟨r, r1, r2⟩ := ih (i + 1) hi (by omega)
        refine ⟨r, r1, ?_⟩
        cases r with
        | inl o => exact r2
        | inr o =>
          intro x hx
          rw [List.drop_eq_getElem_cons hi] at hx
          cases hx with
          | head => simpa using h
          | tail _ hx => exact r2 x hx
    · rw [cond_f _ _ (dec_f (by omega))]
      refine ⟨_, rfl, ?_⟩
      have : b.drop i = [] := List.drop_eq_nil_of_le (by omega)
      rw [this]
      intro x hx
      cases hx
theorem inner (b : List Int) (hb : b.length ≤ 1000) (h35 : ∀ x ∈ b, x ≠ 35) {e e2 : S27} {pos pos2 err2 : Int} (h : PE b e pos 0) (h2 : PE (brk b) e2 pos2 err2) : err2 = 12 ∨ (err2 = 0 ∧ e2 = shE 1 e) := by
  have g := good b (by omega)
  rcases h with ⟨t, _, _, _, x⟩ | ⟨a1, e', err', j, a2, a3⟩
  · cases x
  · rcases a3 with ⟨c1, _, _, x⟩ | ⟨_, _, _, _, x⟩ | ⟨rfl, rfl, rfl, rfl, _⟩
    · exact absurd x.symm c1
    · cases x
    · have hlive := live_brk b h35
      have hlq : live (toks (brk b)) = lq b (live (toks b)) := hlive
      unfold PE at h2
      rw [bad_brk b h35 a1, hlq] at h2
      rcases h2 with ⟨t', c1, _⟩ | ⟨_, e3, err3, j3, c2, c3⟩
      · cases c1
      · have hend : tx (brk b) (lq b (live (toks b))) ((live (toks b)).length + 2) = ⟨#[]⟩ := tx_end (by rw [lq_len]; omega)
        have hgr := Bs.brk (b' := brk b) (l' := lq b (live (toks b))) (H1 g) HN (HP g) HK a2 (by simp [ntOk]) (by omega) rfl
        have n33 : eqs (tx (brk b) (lq b (live (toks b))) 0) ⟨#[33]⟩ = false := by rw [T0]; decide +kernel
        have n45 : eqs (tx (brk b) (lq b (live (toks b))) 0) ⟨#[45]⟩ = false := by rw [T0]; decide +kernel
        have p40 : eqs (tx (brk b) (lq b (live (toks b))) 0) ⟨#[40]⟩ = true := by rw [T0]; decide +kernel
        rcases hgr with ⟨j', q⟩ | q
        · have q1 : Bs (brk b) (lq b (live (toks b))) (.bin 6) 0 0 (z27, 12, j') := .bin6 (.sigN n33 n45 (.pgr K0 p40 (.grE p40 (by omega) q (by decide))))
          have q2 := Bs.binE (lv := 1) (by omega) (Bs.binE (lv := 2) (by omega) (Bs.binE (lv := 3) (by omega) (Bs.binE (lv := 4) (by omega) (Bs.binE (lv := 5) (by omega) q1 (by decide)) (by decide)) (by decide)) (by decide)) (by decide)
          have := c2.det q2
          simp only [Prod.mk.injEq] at this
          obtain ⟨rfl, rfl, rfl⟩ := this
          rcases c3 with ⟨_, _, _, rfl⟩ | ⟨x, _⟩ | ⟨x, _⟩
          · exact .inl rfl
          · cases x
          · cases x
        · have q0 : Bs (brk b) (lq b (live (toks b))) .grp 0 0 (shE 1 e, 0, (live (toks b)).length + 1 + 1) := .grp p40 (by omega) q (by rw [HN]; decide +kernel)
          have q1 : Bs (brk b) (lq b (live (toks b))) (.bin 6) 0 0 (shE 1 e, 0, (live (toks b)).length + 2) := .bin6 (.sigN n33 n45 (.pgr K0 p40 q0))
          have q2 := upE (lv := 1) (by omega) (by omega) (upE (lv := 2) (by omega) (by omega) (upE (lv := 3) (by omega) (by omega) (upE (lv := 4) (by omega) (by omega) (upE (lv := 5) (by omega) (by omega) q1 hend) hend) hend) hend) hend
          have := c2.det q2
          simp only [Prod.mk.injEq] at this
          obtain ⟨rfl, rfl, rfl⟩ := this
          rcases c3 with ⟨x, _⟩ | ⟨_, x, _⟩ | ⟨_, _, rfl, _, rfl⟩
          · exact absurd rfl x
          · rw [lq_len] at x; omega
          · exact .inr ⟨rfl, rfl⟩
theorem pure_holds (a0 : List Int) (h : ∀ n ∈ a0, (Lit.int .u8 n).wf = true) : s4 a0 = some true := by
  unfold s4 b4
  by_cases hl : a0.length ≤ 900
  · rw [cond_f _ _ (dec_f (by omega))]
    obtain ⟨r, r1, r2⟩ := noHash (f14 := s14) (f16 := s16) (f20 := s20) aw12 a0 (by omega) big 0 (by omega) (big_lt (by omega))
    rw [show ((0 : Nat) : Int) = 0 from rfl] at r1
    rw [r1, Option.bind_some]
    cases r with
    | inl o =>
      simp only [Sum.elim_inl]
      simp only at r2
      rw [r2]
    | inr o =>
      simp only [List.drop_zero] at r2
      simp only [Sum.elim_inr]
      obtain ⟨e, pos, err, p1, p2⟩ := t14 a0 (by omega)
      obtain ⟨e2, pos2, err2, q1, q2⟩ := t14 (brk a0) (by simp [brk]; omega)
      rw [p1, Option.bind_some, when_t _ (dec_t (by simp; omega)), when_t _ (dec_t (by simp; omega)), show ([40] ++ a0) ++ [41] = brk a0 from rfl, q1, Option.bind_some]
      dsimp only
      by_cases he : err = 0
      · subst he
        rw [show ((0 : Int) != 0) = false from rfl, cond_false]
        rcases inner a0 (by omega) r2 p2 q2 with rfl | ⟨rfl, rfl⟩
        · rw [show ((12 : Int) == 12) = true from rfl, cond_true, aw12]; rfl
        · obtain ⟨n1, n2, n3, n4, _⟩ := PE_ok (by omega) p2
          have hp := posE_sh (z := (a0.length : Int)) (s := 0) (by omega) (by omega) (by omega) e n2 n3 n4
          rw [shE_zero] at hp
          rw [show ((0 : Int) == 12) = false from rfl, cond_false, show ((0 : Int) == 0) = true from rfl, cond_true, eta27, t20 e n1 hp, Option.bind_some, eta27, t16 _ (by rw [nds_sh]; exact n1), Option.bind_some, cond_true, aw12]
          rfl
      · rw [b0' he, cond_true, aw12]; rfl
  · rw [cond_t _ _ (dec_t (by omega)), aw12]; rfl
end Go.Proofs.Ytogfofcocidmkaa.exprBrackets
