/- EV (ours): a slice with its places behind its length told: blazonref01.Lent by hand. -/
import Derived.Test.YtogfofcocidmkaaEvHd
set_option linter.unusedVariables false
set_option linter.unusedSimpArgs false
namespace Go.Proofs.Ytogfofcocidmkaa.Ev
open Go.RowKit Go.Proofs
section
variable {R : Type} {P : Program} {σ : St U}
theorem slice_sp {S T k : Nat} {x y : Operand} {L : List (U.Ty T)} (hU : UOk P U) (hS : U.elem S = some T) (hT : (U.inf T).isSome = true) (hx : σ.ev x = .v (.c (.sl T L))) (hy : σ.ev y = .v (.c (.int .i64 (k : Int)))) (hk : k ≤ L.length) :
    VO P σ (.slice S x none (some y) none) (.v (.c (.sp T (L.take k) (L.drop k)))) := by
  intro X a w G h o ho
  have hA := ev_ok h x
  have hB := ev_ok h y
  rw [hx] at hA
  rw [hy] at hB
  have hyv := rep_int hB
  obtain ⟨t, ht⟩ := Option.isSome_iff_exists.1 hT
  have hes := elem_of hU hS
  have hv : RepP w G.fz (.sl T L : U.C) (a.eval x) := hA.1
  generalize hvx : a.eval x = vx at hv
  cases hv with
  | sl _ _ ad c f hcap ha hf =>
    have hb : (Instr.sliceBounds true L.length c none (some (a.eval y)) none).run P w = .ok (0, k, c) w := by
      simp only [Instr.sliceBounds, Option.map_none, Option.map_some, Sem.run_bind, Sem.run_pure, Result.andThen_ok, hyv]
      rw [run_sliceBound _ _ _ _ _ (by omega) (by omega)]
      simp
    have hl1 : (L.take k).length = k := by rw [List.length_take]; omega
    have happ : L.take k ++ L.drop k = L := List.take_append_drop k L
    by_cases hk0 : k = 0 ∧ c = 0
    · obtain ⟨rfl, rfl⟩ := hk0
      have hL : L = [] := List.eq_nil_of_length_eq_zero (by omega)
      subst hL
      refine ⟨sliced ad 0 0 0 (U.sz T), ?_, rep_cell (show RepP w G.fz (.sp T [] [] : U.C) _ from ?_)⟩
      · simp only [execOp, ho, hvx, Option.map_none, Option.map_some, Sem.run_bind, run_sliceAt_slice w S _ _ _ _ hes.1, run_slice_any w S ad _ 0 hes.1, hb, run_sizeElem hU hS ht, Result.andThen_ok, Sem.run_pure]
      · unfold sliced
        exact .sp T [] [] _ _ f (Nat.zero_le _) (fun h0 => absurd h0 (by simp)) (fun i j x hi => absurd hi (by simp))
    · refine ⟨sliced ad 0 k c (U.sz T), ?_, rep_cell (show RepP w G.fz (.sp T (L.take k) (L.drop k) : U.C) _ from ?_)⟩
      · simp only [execOp, ho, hvx, Option.map_none, Option.map_some, Sem.run_bind, run_sliceAt_slice w S _ _ _ _ hes.1, run_slice_any w S ad L.length c hes.1, hb, run_sizeElem hU hS ht, Result.andThen_ok, Sem.run_pure]
      · unfold sliced
        rw [show k - 0 = (L.take k).length from by omega]
        refine .sp T _ _ _ _ f (by rw [happ]; omega) (fun h0 => ?_) (fun i j x hi hx => ?_)
        · rw [happ] at h0
          obtain ⟨ad', rfl, hz, hcell⟩ := ha h0
          rw [if_neg (by omega)]
          refine ⟨_, rfl, by rw [add_block]; exact hz, fun i j hi hj => ?_⟩
          rw [happ] at hi
          rw [add_add, Nat.zero_mul, Nat.zero_add]
          exact hcell _ _ hi hj
        · rw [happ] at hi hx
          exact hf i j x hi hx
theorem le13 (l : List Int) : l.length ≤ (l ++ [77, 78, 79] : List Int).length := by rw [List.length_append]; exact Nat.le_add_right _ _
noncomputable def c13 : Code := codeOf Try.f13
noncomputable def r13 : Code := sqA (sqB (sqB (sqB c13)))
noncomputable def o13 (i : Nat) : Option Oper := (opsC r13)[i]?
set_option maxRecDepth 100000 in
theorem snd13 : ∀ rest : Fn U R, SoundF Try.prog 13 rest → SoundF Try.prog 13 (e13 s13 rest) := by
  intro rest hr ds bx κ r h
  replace h : e13 s13 rest ds bx κ = some r := h
  unfold e13 ent at h
  split at h
  · rename_i x hx
    obtain ⟨e1, e2⟩ := rdA_ok hx
    obtain ⟨⟨(l : List Int), _⟩, _⟩ := x
    replace h : (when_ (decide (l.length + 3 ≤ 140737488355328)) (some l)).bind (fun r => κ (.v (.c (.sp 5 r ([77, 78, 79] : List Int)))) []) = some r := h
    have hk : decide (l.length + 3 ≤ 140737488355328) = true := by
      cases hd : decide (l.length + 3 ≤ 140737488355328) with
      | true => rfl
      | false => rw [hd] at h; cases h
    rw [hk] at h
    replace h : κ (.v (.c (.sp 5 l ([77, 78, 79] : List Int)))) [] = some r := h
    replace hk := of_decide_eq_true hk
    replace e1 : ds = [.v (.c (.sl 5 l))] := e1
    replace e2 : bx = [] := e2
    subst e1; subst e2
    refine ⟨⟨Try.f13, by kernel_rfl, by kernel_rfl, by kernel_rfl⟩, ?_⟩
    refine fin_sound (P := Try.prog) (fn := Try.f13) (c := c13) (κ := κ) (r := r) (e := .ret) (bx := []) (σ := ⟨[.v (.c (.sl 5 l)), .v (.c .undef), .v (.c (.sp 5 l ([77, 78, 79] : List Int))), .v (.c .undef), .v (.c .undef), .v (.c .undef), .v (.c .undef), .v (.c .undef), .v (.c .undef), .v (.c .undef), .v (.c .undef), .v (.c .undef), .v (.c .undef), .v (.c .undef)], [], [none, none], 0⟩) uok (by kernel_rfl) (by kernel_rfl) ?_ ?_ (.inr rfl)
    · intro X a w G hR Q hQ
      have hc : c13 = .seq (sqA c13) (.seq (sqA (sqB c13)) (.seq (sqA (sqB (sqB c13))) (.seq r13 .ret))) := by kernel_rfl
      rw [hc]
      refine wp_seq (run_code (σ' := ⟨[.v (.c (.sl 5 l)), .v (.c .undef), .v (.c .nils), .v (.c .undef), .v (.c .undef), .v (.c .undef), .v (.c .undef), .v (.c .undef), .v (.c .undef), .v (.c .undef), .v (.c .undef), .v (.c .undef), .v (.c .undef), .v (.c .undef)], [], [], 0⟩) (by kernel_rfl) (by kernel_rfl) hR (fun a w G hR => ?_))
      refine wp_seq (run_code (σ' := ⟨[.v (.c (.sl 5 l)), .v (.c .undef), .v (.c .nils), .v (.c (.own 5 0)), .v (.c .undef), .v (.c (.sl 5 l)), .v (.c (.own 5 0)), .v (.c .undef), .v (.c .undef), .v (.c .undef), .v (.c .undef), .v (.c .undef), .v (.c .undef), .v (.c .undef)], [], [some ⟨5, ([] ++ l : List Int)⟩], 0⟩) (by kernel_rfl) ?_ hR (fun a w G hR => ?_))
      · refine Eq.trans (b := when_ (decide (([] : List Int).length + l.length ≤ 140737488355328)) (some (⟨[.v (.c (.sl 5 l)), .v (.c .undef), .v (.c .nils), .v (.c (.own 5 0)), .v (.c .undef), .v (.c (.sl 5 l)), .v (.c (.own 5 0)), .v (.c .undef), .v (.c .undef), .v (.c .undef), .v (.c .undef), .v (.c .undef), .v (.c .undef), .v (.c .undef)], [], [some ⟨5, ([] ++ l : List Int)⟩], 0⟩ : St U))) (by kernel_rfl) ?_
        rw [decide_eq_true (show ([] : List Int).length + l.length ≤ 140737488355328 by simp; omega)]
        rfl
      refine wp_seq (run_code (σ' := ⟨[.v (.c (.sl 5 l)), .v (.c .undef), .v (.c .nils), .v (.c (.own 5 0)), .v (.c .undef), .v (.c (.sl 5 l)), .v (.c .undef), .v (.c .undef), .v (.c (.sl 5 ([77, 78, 79] : List Int))), .v (.c (.own 5 0)), .v (.c .undef), .v (.c .undef), .v (.c .undef), .v (.c .undef)], [], [some ⟨5, (([] ++ l) ++ [77, 78, 79] : List Int)⟩, none], 0⟩) (by kernel_rfl) ?_ hR (fun a w G hR => ?_))
      · refine Eq.trans (b := when_ (decide ((([] ++ l) : List Int).length + ([77, 78, 79] : List Int).length ≤ 140737488355328)) (some (⟨[.v (.c (.sl 5 l)), .v (.c .undef), .v (.c .nils), .v (.c (.own 5 0)), .v (.c .undef), .v (.c (.sl 5 l)), .v (.c .undef), .v (.c .undef), .v (.c (.sl 5 ([77, 78, 79] : List Int))), .v (.c (.own 5 0)), .v (.c .undef), .v (.c .undef), .v (.c .undef), .v (.c .undef)], [], [some ⟨5, (([] ++ l) ++ [77, 78, 79] : List Int)⟩, none], 0⟩ : St U))) (by kernel_rfl) ?_
        rw [decide_eq_true (show (([] ++ l) : List Int).length + ([77, 78, 79] : List Int).length ≤ 140737488355328 by simp; omega)]
        rfl
      obtain ⟨G, hR⟩ := wds_ok [.frz 0, .drop 5, .drop 8, .drop 9] _ _ (⟨[.v (.c (.sl 5 l)), .v (.c .undef), .v (.c .nils), .v (.c (.sl 5 ((l ++ [77, 78, 79] : List Int)))), .v (.c .undef), .v (.c .undef), .v (.c .undef), .v (.c .undef), .v (.c .undef), .v (.c .undef), .v (.c .undef), .v (.c .undef), .v (.c .undef), .v (.c .undef)], [], [none, none], 0⟩ : St U) hR (by kernel_rfl)
      refine wp_seq ?_
      have hr : r13 = .region 3 (opsC r13) false := by kernel_rfl
      rw [hr]
      refine wp_region ?_
      have hs : List.range (opsC r13).size = [0, 1, 2, 3, 4] := by kernel_rfl
      rw [hs]
      refine ops_cons (o := (o13 0).getD default) (by kernel_rfl) (by kernel_rfl) (vstep (op := .move (.tmp 3)) (by kernel_rfl) move_ok hR (fun v hR => ?_))
      refine ops_cons (o := (o13 1).getD default) (by kernel_rfl) (by kernel_rfl) (vstep (op := .move (.tmp 0)) (by kernel_rfl) move_ok hR (fun v hR => ?_))
      refine ops_cons (o := (o13 2).getD default) (by kernel_rfl) (by kernel_rfl) (vstep (op := .call ⟨.builtin .len, #[.tmp 11], #[22]⟩) (by kernel_rfl) (len_ok uok (n := (l.length : Int)) (by kernel_rfl)) hR (fun v hR => ?_))
      refine ops_cons (o := (o13 3).getD default) (by kernel_rfl) (by kernel_rfl) (vstep (op := .slice 22 (.tmp 10) none (some (.tmp 12)) none) (by kernel_rfl) (slice_sp (T := 5) (k := l.length) (L := (l ++ [77, 78, 79] : List Int)) uok (by kernel_rfl) (by kernel_rfl) (by kernel_rfl) (by kernel_rfl) (le13 l)) hR (fun v hR => ?_))
      refine ops_cons (o := (o13 4).getD default) (by kernel_rfl) (by kernel_rfl) (vstep (op := .assign (.tmp 13)) (by kernel_rfl) assign_ok hR (fun v hR => ?_))
      simp only [wpOps]
      refine wp_ret ?_
      have e : ((l ++ [77, 78, 79] : List Int).take l.length, (l ++ [77, 78, 79] : List Int).drop l.length) = (l, [77, 78, 79]) := by simp
      obtain ⟨G', hR'⟩ := wds_ok [.drop 3, .drop 10, .drop 11, .drop 12, .drop 13] _ _ (⟨[.v (.c (.sl 5 l)), .v (.c .undef), .v (.c (.sp 5 ((l ++ [77, 78, 79] : List Int).take l.length, (l ++ [77, 78, 79] : List Int).drop l.length).1 ((l ++ [77, 78, 79] : List Int).take l.length, (l ++ [77, 78, 79] : List Int).drop l.length).2)), .v (.c .undef), .v (.c .undef), .v (.c .undef), .v (.c .undef), .v (.c .undef), .v (.c .undef), .v (.c .undef), .v (.c .undef), .v (.c .undef), .v (.c .undef), .v (.c .undef)], [], [none, none], 0⟩ : St U) hR (by kernel_rfl)
      rw [e] at hR'
      exact hQ _ _ G' hR'
    · exact h
  · exact hr ds bx κ r h
end
end Go.Proofs.Ytogfofcocidmkaa.Ev
