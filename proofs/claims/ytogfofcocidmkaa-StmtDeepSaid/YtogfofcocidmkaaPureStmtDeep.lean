/- StmtDeep: its plain function says true of all pairs of texts. No condition. -/
import Derived.Test.YtogfofcocidmkaaPuSe
import Derived.KernelRfl
set_option linter.unusedVariables false
set_option linter.unusedSimpArgs false
namespace Go.Proofs.Ytogfofcocidmkaa.stmtDeep
open Go.RowKit Go.Proofs Ev Pu
section
variable {B : List Int} {l M : List S51}
theorem gd_app (j : Nat) : (l ++ M).getD (l.length + j) z51 = M.getD j z51 := by
  rw [List.getD_eq_getElem?_getD, List.getD_eq_getElem?_getD, List.getElem?_append_right (by omega), Nat.add_sub_cancel_left]
theorem lt_app (j : Nat) : (l.length + j < (l ++ M).length) = (j < M.length) := by rw [List.length_append]; exact propext ⟨fun h => by omega, fun h => by omega⟩
theorem tx_app (j : Nat) : tx B (l ++ M) (l.length + j) = tx B M j := by unfold tx; rw [gd_app]; simp only [lt_app]
theorem ps_app (j : Nat) : ps B (l ++ M) (l.length + j) = ps B M j := by unfold ps; rw [gd_app]; simp only [lt_app]
theorem kd_app (j : Nat) : kd B (l ++ M) (l.length + j) = kd B M j := by unfold kd; rw [gd_app]; simp only [lt_app]
theorem en_app (j : Nat) : en (l ++ M) (l.length + j) = en M j := by unfold en; rw [gd_app]
theorem gd_left {i : Nat} (h : i < l.length) : (l ++ M).getD i z51 = l.getD i z51 := by
  rw [List.getD_eq_getElem?_getD, List.getD_eq_getElem?_getD, List.getElem?_append_left h]
theorem lt_left {i : Nat} (h : i < l.length) : i < (l ++ M).length := by rw [List.length_append]; omega
end
theorem agr_b (a b : List Int) (h : a.length + 1 + b.length ≤ 100000) : Agr b (live (toks b)) (a ++ 10 :: b) (live (toks (a ++ 10 :: b))) (live (toks a)).length ((a.length + 1 : Nat) : Int) := by
  have hlen : (a ++ 10 :: b).length = a.length + 1 + b.length := by simp; omega
  have gb := good b (by omega)
  have hsplit : a ++ 10 :: b = (a ++ [10]) ++ b := by simp
  have hp : (a ++ [(10 : Int)]).length = a.length + 1 := by simp
  refine ⟨gb, good _ (by omega), ?_, ?_, ?_, ?_, ?_, ?_⟩
  · rw [live_cat, List.length_append, List.length_map]; exact Nat.le_refl _
  · intro i k hik
    rw [live_cat, show i + (live (toks a)).length + k = (live (toks a)).length + (i + k) from by omega, tx_app, hsplit]
    have := tx_sh gb (a ++ [10]) (i + k)
    rw [hp] at this
    exact this
  · intro i hi
    rw [live_cat, show i + (live (toks a)).length = (live (toks a)).length + i from by omega, ps_app, hsplit]
    have := ps_sh gb (a ++ [10]) i
    rw [hp] at this
    exact this
  · intro i hi
    rw [live_cat, show i + (live (toks a)).length = (live (toks a)).length + i from by omega, kd_app, hsplit]
    have := kd_sh (b := b) (l := live (toks b)) (a ++ [10]) i
    rw [hp] at this
    exact this
  · intro i hi
    rw [live_cat, show i + (live (toks a)).length = (live (toks a)).length + i from by omega, en_app]
    unfold en
    rw [getD_sh hi]
    rfl
  · rw [tx_end (by rw [live_cat, List.length_append, List.length_map]; omega)]
    decide +kernel
theorem agr_a (a b : List Int) (h : a.length + 1 + b.length ≤ 100000) (hb : eqs (tx b (live (toks b)) 0) ⟨#[101, 108, 115, 101]⟩ = false) : Agr a (live (toks a)) (a ++ 10 :: b) (live (toks (a ++ 10 :: b))) 0 0 := by
  have hlen : (a ++ 10 :: b).length = a.length + 1 + b.length := by simp; omega
  have ga := good a (by omega)
  have gb := good b (by omega)
  refine ⟨ga, good _ (by omega), ?_, ?_, ?_, ?_, ?_, ?_⟩
  · rw [live_cat, List.length_append]; omega
  · intro i k hik
    rw [show i + 0 + k = i + k from rfl, live_cat]
    unfold tx
    rw [gd_left hik, if_pos hik, if_pos (lt_left hik)]
    obtain ⟨s, e, h1, h2, h3, h4, h5⟩ := ga.srt.get _ hik
    rw [h1, h2]
    simp only [Int.toNat_natCast]
    rw [List.take_append_of_le_length h5]
  · intro i hi
    rw [show i + 0 = i from rfl, live_cat]
    unfold ps
    rw [gd_left hi, if_pos hi, if_pos (lt_left hi), Int.add_zero]
  · intro i hi
    rw [show i + 0 = i from rfl, live_cat]
    unfold kd
    rw [gd_left hi, if_pos hi, if_pos (lt_left hi)]
  · intro i hi
    rw [show i + 0 = i from rfl, live_cat]
    unfold en
    rw [gd_left hi, Int.add_zero]
  · have key := tx_app (B := a ++ 10 :: b) (l := live (toks a)) (M := (live (toks b)).map (shT (a.length + 1))) 0
    rw [← live_cat] at key
    have hp : (a ++ [(10 : Int)]).length = a.length + 1 := by simp
    have h2 := tx_sh gb (a ++ [10]) 0
    rw [hp, show (a ++ [10]) ++ b = a ++ 10 :: b from by simp] at h2
    rw [key, h2]
    exact hb
theorem aw : s37 = some true := by kernel_rfl
theorem els_parse (b : List Int) (hb : b.length ≤ 2000) (h : eqs (tx b (live (toks b)) 0) ⟨#[101, 108, 115, 101]⟩ = true) : ∃ L pos e, s38 b = some (L, pos, e) ∧ e ≠ 0 := by
  have g := good b (by omega)
  have hlen := g.llen
  have hch := (toks_chain b).le
  have hk := els_kd b 0 h
  have h0 := tx_lt h (by decide +kernel)
  have e := (eqs_iff _ _).1 h
  unfold s38 b38
  rw [t50 b (by omega), Option.bind_some, t49 _ (by omega), Option.bind_some]
  cases hbad : bad (toks b) with
  | some t =>
    dsimp only
    rw [cond_true]
    exact ⟨_, _, _, rfl, by decide⟩
  | none =>
    dsimp only
    rw [cond_false, t22 b (by omega), Option.bind_some]
    generalize hl : live (toks b) = l at g hlen hk h0 e h
    obtain ⟨K, hK⟩ : ∃ k, big = k + 1 + 1 + 1 := ⟨9223372036854775804, rfl⟩
    have hs48 : s48 0 (⟨b, l, 0, 0⟩ : S98) = b48 s25 s29 (g45 (K + 1 + 1)).f45 (lp48_4 s25 s29 (g45 (K + 1 + 1)).f45 (K + 1 + 1 + 1)) 0 (cur b l 0 0) some := by
      unfold s48
      rw [show (g45 big).f48 = (g45 (K + 1 + 1 + 1)).f48 from by rw [hK], g45_f48, ← hK]
      rfl
    rw [hs48]
    unfold b48
    have key : lp48_4 s25 s29 (g45 (K + 1 + 1)).f45 (K + 1 + 1 + 1) 0 (cur b l 0 0).c0 (cur b l 0 0).c1 (cur b l 0 0).c2 (cur b l 0 0).c3 [] = some (.inl (b, l, ((0 : Nat) : Int), 0, [], 11)) := by
      show lp48_4 s25 s29 (g45 (K + 1 + 1)).f45 (K + 1 + 1 + 1) 0 b l ((0 : Nat) : Int) 0 [] = _
      rw [lp48_s]
      unfold lb48_4
      rw [t29, Option.bind_some, dec_f (show ¬ l.length ≤ 0 by omega), Bool.not_false, cond_true, t25 g, Option.bind_some, Option.bind_some, e, show ((⟨#[101, 108, 115, 101]⟩ : ByteArray).toList == (⟨#[125]⟩ : ByteArray).toList) = false from by decide +kernel, Bool.not_false, cond_true, show ((⟨#[101, 108, 115, 101]⟩ : ByteArray).toList == (⟨#[114, 101, 116, 117, 114, 110]⟩ : ByteArray).toList) = false from by decide +kernel, Bool.not_false, cond_true]
      have p1 := els_stmt g h0 hk h K 0
      have p1' : (g45 (K + 1 + 1)).f45 0 ⟨b, l, ((0 : Nat) : Int), 0⟩ = some (z79, 11, cur b l 0 0) := p1
      rw [p1', Option.bind_some]
      rfl
    rw [key, Option.bind_some]
    dsimp only [Sum.elim_inl]
    rw [Option.bind_some]
    dsimp only
    rw [show ((11 : Int) == 0) = false from rfl, cond_false, show ((11 : Int) != 0) = true from rfl, cond_true, t26, Option.bind_some]
    exact ⟨_, _, _, rfl, by decide⟩
theorem pure_holds (a0 a1 : List Int) (h : ∀ n ∈ a0, (Lit.int .u8 n).wf = true) (h1 : ∀ n ∈ a1, (Lit.int .u8 n).wf = true) : s10 a0 a1 = some true := by
  unfold s10 b10
  by_cases hl : a0.length ≤ 700
  · by_cases hl1 : a1.length ≤ 700
    · rw [cond_f _ _ (dec_f (by omega)), cond_f _ _ (dec_f (by omega))]
      obtain ⟨K, hK⟩ : ∃ k, big = k + 1 := ⟨9223372036854775806, rfl⟩
      have hK5 : 100000 < K := by have : 100001 < big := big_lt (by omega); omega
      have Ab := agr_b a0 a1 (by omega)
      obtain ⟨Lb, Lb', pb, eb, b1, b2, b3, b4⟩ := t38 hK a1 (by omega) Ab
      by_cases hels : eqs (tx a1 (live (toks a1)) 0) ⟨#[101, 108, 115, 101]⟩ = true
      · obtain ⟨Lx, px, ex, x1, x2⟩ := els_parse a1 (by omega) hels
        have As := agr_a a0 [] (by simp; omega) (by rw [tx_end (by simp [toks, allT, live])]; decide +kernel)
        obtain ⟨La, La', pa, ea, a1', a2, a3, a4⟩ := t38 hK a0 (by omega) As
        rw [a1', Option.bind_some, x1, Option.bind_some]
        dsimp only
        rw [t47 La a2 a3, Option.bind_some, cond_f _ _ (dec_f (by omega)), b0' x2, cond_true, aw]
        cases (ea != 0) <;> rfl
      · have Aa := agr_a a0 a1 (by omega) (by simpa using hels)
        obtain ⟨La, La', pa, ea, a1', a2, a3, a4⟩ := t38 hK a0 (by omega) Aa
        rw [a1', Option.bind_some, b1, Option.bind_some]
        dsimp only
        rw [t47 La a2 a3, Option.bind_some, cond_f _ _ (dec_f (by omega))]
        by_cases ha : ea = 0
        · subst ha
          rw [show ((0 : Int) != 0) = false from rfl, cond_false]
          by_cases hb : eb = 0
          · subst hb
            rw [show ((0 : Int) != 0) = false from rfl, cond_false]
            obtain ⟨a5, a6, a7, a8, a9⟩ := a4 rfl
            obtain ⟨b5, b6, b7, b8, b9⟩ := b4 rfl
            have hLa := a6 ⟨rfl, rfl⟩
            subst hLa
            have hcat : ([] ++ a0) ++ [10] ++ a1 = a0 ++ 10 :: a1 := by simp
            have hlen : (a0 ++ 10 :: a1).length = a0.length + 1 + a1.length := by simp; omega
            have hga := Aa.g.llen
            have hgb := Ab.g.llen
            rw [when_t _ (dec_t (by simp; omega)), when_t _ (dec_t (by simp; omega)), when_t _ (dec_t (by simp; omega)), hcat]
            have hboth : s38 (a0 ++ 10 :: a1) = some (La' ++ Lb', ((a0 ++ 10 :: a1).length : Int), 0) := by
              have hch := (toks_chain (a0 ++ 10 :: a1)).le
              unfold s38 b38
              rw [t50 _ (by omega), Option.bind_some, t49 _ (by omega), Option.bind_some, bad_cat _ _ a5, b5]
              dsimp only [Option.map_none]
              rw [cond_false, t22 _ (by omega), Option.bind_some]
              have hLL : (live (toks a1)).length + (live (toks a0)).length = (live (toks (a0 ++ 10 :: a1))).length := by rw [live_cat, List.length_append, List.length_map]; omega
              generalize hl : live (toks (a0 ++ 10 :: a1)) = l at a9 b9 hLL
              have hs48 : s48 0 (⟨a0 ++ 10 :: a1, l, 0, 0⟩ : S98) = b48 s25 s29 (g45 K).f45 (lp48_4 s25 s29 (g45 K).f45 big) 0 (cur (a0 ++ 10 :: a1) l 0 0) some := by
                unfold s48
                rw [show (g45 big).f48 = (g45 (K + 1)).f48 from by rw [hK], g45_f48]
                rfl
              rw [hs48]
              unfold b48
              obtain ⟨m1, c1, c2⟩ := a9 big [] (by omega) (by simp; omega)
              obtain ⟨m2, c3, c4⟩ := b9 m1 La' (by omega) (by omega)
              rw [Nat.add_zero, List.nil_append] at c2
              rw [hLL] at c4
              obtain ⟨m2, rfl⟩ : ∃ k, m2 = k + 1 := ⟨m2 - 1, by omega⟩
              have key : lp48_4 s25 s29 (g45 K).f45 big 0 (cur (a0 ++ 10 :: a1) l 0 0).c0 (cur (a0 ++ 10 :: a1) l 0 0).c1 (cur (a0 ++ 10 :: a1) l 0 0).c2 (cur (a0 ++ 10 :: a1) l 0 0).c3 [] = some (.inr (a0 ++ 10 :: a1, l, (l.length : Int), 0, La' ++ Lb')) := by
                rw [← lp48_end (g45 K).f45 m2 0 (La' ++ Lb'), ← c4, ← c2]
                rfl
              rw [key, Option.bind_some]
              dsimp only [Sum.elim_inr]
              rw [Option.bind_some]
              dsimp only
              rw [show ((0 : Int) == 0) = true from rfl, cond_true, t29, Option.bind_some, dec_t (Nat.le_refl _)]
              rfl
            rw [hboth, Option.bind_some]
            dsimp only
            have e1 : w64 (w64 ((a0.length : Int) + 1) + (a1.length : Int)) = ((a0 ++ 10 :: a1).length : Int) := by
              rw [w64_id (x := (a0.length : Int) + 1) (by omega) (by omega), w64_id (by omega) (by omega), hlen]
              omega
            have e2 : w64 ((La'.length : Int) + (Lb.length : Int)) = ((La' ++ Lb').length : Int) := by
              rw [w64_id (by omega) (by omega), List.length_append]
              omega
            have e3 : (((La' ++ Lb').take (La'.length : Int).toNat).drop 0) = La' := by simp
            rw [show ((0 : Int) == 0) = true from rfl, cond_true, e1, show (((a0 ++ 10 :: a1).length : Int) == ((a0 ++ 10 :: a1).length : Int)) = true from by simp, cond_true, e2, show (((La' ++ Lb').length : Int) == ((La' ++ Lb').length : Int)) = true from by simp, cond_true, when_t _ (by simp; omega), e3, t40 _ a3, Option.bind_some, cond_true, aw]
            rfl
          · rw [b0' hb, cond_true, aw]
            rfl
        · rw [b0' ha, cond_true, aw]
          rfl
    · rw [cond_f _ _ (dec_f (by omega)), cond_t _ _ (dec_t (by omega)), aw]
      rfl
  · rw [cond_t _ _ (dec_t (by omega)), aw]
    rfl
end Go.Proofs.Ytogfofcocidmkaa.stmtDeep
