/- EV (ours), part H: literals; all operations that leave the world as it is. -/
import Derived.Test.YtogfofcocidmkaaEvG
set_option linter.unusedVariables false
set_option linter.unusedSimpArgs false
namespace Go.Proofs.Ytogfofcocidmkaa.Ev
open Go.RowKit
section
variable {U : Uni} {X : Beg U} {σ : St U} {a : Act} {w w' : World} {G : Gh} {P : Program}

theorem splice_len {cs ys : List U.C} {o : Nat} (h : o + ys.length ≤ cs.length) : (splice cs o ys).length = cs.length := by
  simp [splice]; omega
theorem splice_get {cs ys : List U.C} {o : Nat} (h : o + ys.length ≤ cs.length) (i : Nat) : (splice cs o ys)[i]? = if o ≤ i ∧ i < o + ys.length then ys[i - o]? else cs[i]? := by
  unfold splice
  have hl : (cs.take o).length = o := by simp; omega
  rw [List.append_assoc, List.getElem?_append, hl]
  by_cases h1 : i < o
  · rw [if_pos h1, if_neg (by omega), List.getElem?_take, if_pos h1]
  · rw [if_neg h1, List.getElem?_append]
    by_cases h2 : i - o < ys.length
    · rw [if_pos h2, if_pos (by omega)]
    · rw [if_neg h2, if_neg (by omega), List.getElem?_drop]
      congr 1; omega
theorem fold_set : ∀ (l : List Value) (off k : Nat) (arr : Array Value), off + k + l.length ≤ arr.size →
    ((l.zipIdx k).foldl (fun cs p => cs.setIfInBounds (off + p.2) p.1) arr).size = arr.size ∧
    ∀ i, ((l.zipIdx k).foldl (fun cs p => cs.setIfInBounds (off + p.2) p.1) arr)[i]? = if off + k ≤ i ∧ i < off + k + l.length then l[i - (off + k)]? else arr[i]?
  | [], off, k, arr, _ => by simp; intro i h1 h2; omega
  | v :: l, off, k, arr, h => by
    simp only [List.length_cons] at h
    obtain ⟨h1, h2⟩ := fold_set l off (k + 1) (arr.setIfInBounds (off + k) v) (by simp; omega)
    refine ⟨by simpa [List.zipIdx_cons] using h1, fun i => ?_⟩
    simp only [List.zipIdx_cons, List.foldl_cons]
    rw [h2 i, List.length_cons]
    by_cases c1 : off + (k + 1) ≤ i ∧ i < off + (k + 1) + l.length
    · rw [if_pos c1, if_pos (by omega)]
      have : i - (off + k) = (i - (off + (k + 1))) + 1 := by omega
      rw [this, List.getElem?_cons_succ]
    · rw [if_neg c1]
      by_cases c2 : i = off + k
      · subst c2
        rw [if_pos (by omega)]
        simp [Array.getElem?_setIfInBounds]; omega
      · rw [if_neg (by omega), Array.getElem?_setIfInBounds, if_neg (by omega)]
theorem fill_step (v : Value) (off : Nat) (arr : Array Value) : v.cells.zipIdx.foldl (fun cs (x : Value × Nat) => cs.setIfInBounds (off + x.2) x.1) arr = (v.cells.toList.zipIdx 0).foldl (fun cs p => cs.setIfInBounds (off + p.2) p.1) arr := by
  rw [← Array.foldl_toList]
  simp
/-- The parts of a literal, filled in. -/
theorem fill_ok (h : Rel X σ a w G) {place : Nat → Option (Nat × Nat)} : ∀ (ps : List (Nat × Operand)) (cs cs' : List U.C) (ps' : List (Nat × List U.C)) (arr : Array Value), partsOf place σ ps = some ps' → fillAt cs ps' = some cs' → RepL w G cs arr.toList →
    ∃ arr', Instr.fill place arr (ps.map fun p => (p.1, a.eval p.2)) = some arr' ∧ RepL w G cs' arr'.toList
  | [], cs, cs', ps', arr, hp, hf, hr => by
    simp [partsOf] at hp; subst hp
    simp [fillAt] at hf; subst hf
    exact ⟨arr, by simp [Instr.fill], hr⟩
  | (i, x) :: ps, cs, cs', ps', arr, hp, hf, hr => by
    simp only [partsOf] at hp
    split at hp
    · rename_i o n v r h1 h2 h3
      split at hp
      · rename_i ys hy
        obtain ⟨hn, hp⟩ := bif_some hp
        cases hp
        simp only [fillAt] at hf
        obtain ⟨hb, hf⟩ := bif_some hf
        have hn' : ys.length = n := by simpa using hn
        have hb' : o + ys.length ≤ cs.length := by simpa using hb
        have hA := ev_ok h x
        rw [h2] at hA
        have hv := RepV.vl (w := w) (G := G) hA hy
        have hsz : (a.eval x).cells.size = ys.length := by rw [← Array.length_toList]; exact hv.1
        have hasz : arr.size = cs.length := by rw [← Array.length_toList]; exact hr.1
        have fs := fold_set (a.eval x).cells.toList o 0 arr (by simp; omega)
        simp only [Nat.add_zero] at fs
        obtain ⟨arr', k1, k2⟩ := fill_ok h ps _ cs' r ((a.eval x).cells.zipIdx.foldl (fun cs (x : Value × Nat) => cs.setIfInBounds (o + x.2) x.1) arr) h3 hf (by
          rw [fill_step]
          refine ⟨by rw [Array.length_toList, fs.1, splice_len hb', hasz], fun j y hy' => ?_⟩
          rw [splice_get hb'] at hy'
          rw [Array.getElem?_toList, fs.2]
          rw [Array.length_toList, hsz]
          split at hy'
          · rename_i hc
            rw [if_pos hc]
            exact hv.2 _ y hy'
          · rename_i hc
            rw [if_neg hc]
            have := hr.2 j y hy'
            rwa [Array.getElem?_toList] at this)
        refine ⟨arr', ?_, k2⟩
        simp only [List.map_cons, Instr.fill, h1]
        rw [if_neg (by simp; omega)]
        exact k1
      · cases hp
    · cases hp
theorem zero_rep (hU : UOk P U) {T : Nat} {cs : List U.C} (hz : U.zero T = some cs) : ∃ i z, P.info? T = some i ∧ i.zero = some z ∧ RepL w G cs z.cells.toList := by
  obtain ⟨i, z, h1, h2, h3⟩ := hU.zero T cs hz
  refine ⟨i, z, h1, h2, by simpa using (congrArg List.length h3).symm, fun j x hx => ?_⟩
  have hj := congrArg (fun l : List (Option Value) => l[j]?) h3
  simp only [List.getElem?_map, hx, Option.map_some] at hj
  cases hu : z.cells.toList[j]? with
  | none => rw [hu] at hj; cases hj
  | some u =>
    rw [hu] at hj
    simp only [Option.map_some, Option.some.injEq] at hj
    refine ⟨u, rfl, ?_⟩
    cases x <;> simp only [cval, Option.some.injEq, reduceCtorEq] at hj <;> subst hj <;> exact ⟨by first | exact RepP.int _ _ | exact RepP.bool _ | exact RepP.str _ | exact RepP.nilp | exact RepP.nils, rfl⟩
theorem build_ok (hU : UOk P U) {T : Nat} {ps : Array (Nat × Operand)} {dd : U.D} (he : evV (.build T ps) σ = some (true, dd)) : VO P σ (.build T ps) dd := by
  intro X a w G h o ho
  simp only [evV] at he
  split at he
  · rename_i cs pl hz hpl
    split at he
    · rename_i ps' hp
      split at he
      · rename_i cs' hf
        cases he
        obtain ⟨i, z, h1, h2, h3⟩ := zero_rep (w := w) (G := G) hU hz
        obtain ⟨fs, p1, p2, p3⟩ := hU.places T pl hpl
        obtain ⟨arr', k1, k2⟩ := fill_ok h ps.toList cs cs' ps' z.cells hp hf h3
        have hpe : (fun x : Nat => pl.toArray[x]?) = (fun x : Nat => pl[x]?) := by funext x; simp
        have hb : P.built T (ps.map fun p => (p.1, a.eval p.2)).toList = some arr' := by
          simp only [Program.built, h1, p1, h2, p2, hpe, Array.toList_map]
          exact k1
        have hrun := run_build (P := P) w T _ arr' hb
        refine ⟨.agg arr', ?_, ⟨arr', rfl, by rw [← Array.length_toList]; exact k2.1, fun j x hx => by obtain ⟨u, g1, g2⟩ := k2.2 j x hx; exact ⟨u, by rwa [Array.getElem?_toList] at g1, g2⟩⟩⟩
        simp only [execOp, ho, Sem.run_bind, hrun, Result.andThen_ok, Sem.run_pure]
      · cases he
    · cases he
  · cases he
theorem evV_ok (hU : UOk P U) {op : Op} {d : U.D} (he : evV op σ = some (true, d)) : VO P σ op d := by
  cases op with
  | move x => simp only [evV, Option.some.injEq, Prod.mk.injEq, true_and] at he; subst he; exact move_ok
  | assign x => simp only [evV, Option.some.injEq, Prod.mk.injEq, true_and] at he; subst he; exact assign_ok
  | build T ps => exact build_ok hU he
  | load T x =>
    simp only [evV] at he
    split at he
    · rename_i t ht
      split at he
      · rename_i cs hc
        split at he
        · rename_i v hv
          cases he
          exact load_ok hU ht hc hv
        · cases he
      · cases he
    · cases he
  | nilCheck x =>
    simp only [evV] at he
    split at he
    · rename_i b p hv; cases he; exact nil_ok hv (.inl ⟨_, _, rfl⟩)
    · rename_i T l i p hv; cases he; exact nil_ok hv (.inr (.inl ⟨_, _, _, _, rfl⟩))
    · rename_i T l i p hv; cases he; exact nil_ok hv (.inr (.inr (.inl ⟨_, _, _, _, rfl⟩)))
    · rename_i f hv; cases he; exact nil_ok hv (.inr (.inr (.inr ⟨_, rfl⟩)))
    · cases he
  | binOp op T x y T' =>
    simp only [evV] at he
    split at he
    · rename_i b z hb
      simp only [Option.some.injEq, Prod.mk.injEq] at he
      obtain ⟨rfl, rfl⟩ := he
      exact binOp_ok hU hb
    · cases he
  | unOp op T x =>
    simp only [evV] at he
    split at he
    · rename_i z hb; cases he; exact unOp_ok hb
    · cases he
  | convert s d x => exact conv_ok (b := true) hU he
  | slice S x lo hi mx =>
    cases mx with
    | none => exact slice_ok hU he
    | some m => simp [evV] at he
  | fieldAddr S x f =>
    simp only [evV] at he
    split at he
    · rename_i q n hf
      split at he
      · rename_i b p hv; cases he; exact field_ok hU hf hv (.inl ⟨_, _, rfl, rfl⟩)
      · rename_i T l i p hv; cases he; exact field_ok hU hf hv (.inr (.inl ⟨_, _, _, _, rfl, rfl⟩))
      · rename_i T l i p hv; cases he; exact field_ok hU hf hv (.inr (.inr ⟨_, _, _, _, rfl, rfl⟩))
      · cases he
    · cases he
  | indexAddr S x i =>
    simp only [evV] at he
    split at he
    · rename_i T0 k n hS hi
      split at he
      · rename_i T l hx
        obtain ⟨e, h2⟩ := bif_some he
        clear he
        simp only [Bool.and_eq_true, Option.some.injEq, Prod.mk.injEq, decide_eq_true_eq] at e h2
        obtain ⟨e1, e⟩ := e
        have e1 := Nat.eq_of_beq_eq_true e1
        subst e1
        obtain ⟨⟨h0, h1⟩, rfl⟩ := h2
        obtain ⟨t, ht⟩ := Option.isSome_iff_exists.1 e
        exact idx_sl_ok hU ht hS hx hi h0 h1
      · rename_i T r hx
        obtain ⟨e, h2⟩ := bif_some he
        clear he
        simp only [Bool.and_eq_true] at e
        obtain ⟨e1, e⟩ := e
        have e1 := Nat.eq_of_beq_eq_true e1
        subst e1
        obtain ⟨t, ht⟩ := Option.isSome_iff_exists.1 e
        split at h2
        · rename_i l hl
          simp only [Bool.and_eq_true, Option.some.injEq, Prod.mk.injEq, decide_eq_true_eq] at h2
          obtain ⟨⟨h0, h1⟩, rfl⟩ := h2
          exact idx_own_ok hU ht hS hx hl hi h0 h1
        · cases h2
      · cases he
    · cases he
  | index T x i =>
    simp only [evV] at he
    obtain ⟨e, h2⟩ := bif_some he
    clear he
    split at h2
    · rename_i s k n hx hi
      simp only [Bool.and_eq_true, Option.some.injEq, Prod.mk.injEq, decide_eq_true_eq] at h2
      obtain ⟨⟨h0, h1⟩, rfl⟩ := h2
      exact index_ok hU e hx hi h0 h1
    · cases h2
  | extract x i =>
    simp only [evV] at he
    split at he
    · rename_i l hx
      split at he
      · rename_i v hv; cases he; exact extract_ok hx hv
      · cases he
    · cases he
  | call r =>
    obtain ⟨cal, args, ats⟩ := r
    simp only [evV] at he
    split at he
    · split at he
      · rename_i t x hts hxs
        split at he
        · rename_i n hn
          cases he
          obtain ⟨y, hy, rfl⟩ : ∃ y, args.toList = [y] ∧ σ.ev y = x := by
            match hq : args.toList, hxs with
            | [y], hxs => exact ⟨y, rfl, by simpa using hxs⟩
          have ha : args = #[y] := by apply Array.toList_inj.1; simpa using hy
          have hb : ats = #[t] := by apply Array.toList_inj.1; simpa using hts
          subst ha; subst hb
          exact len_ok hU hn
        · cases he
      · cases he
    · split at he
      · rename_i c ys hxs
        split at he
        · rename_i z hz
          cases he
          obtain ⟨y, l, hy, e1, e2⟩ : ∃ y l, args.toList = y :: l ∧ σ.ev y = .v (.c c) ∧ l.map σ.ev = ys := by
            match hq : args.toList, hxs with
            | y :: l, hxs => simp at hxs; exact ⟨y, l, rfl, hxs.1, hxs.2⟩
          have ha : args = (y :: l).toArray := by apply Array.toList_inj.1; simpa using hy
          subst ha; subst e2
          exact max_ok e1 hz
        · cases he
      · cases he
    · split at he
      · rename_i c ys hxs
        split at he
        · rename_i z hz
          cases he
          obtain ⟨y, l, hy, e1, e2⟩ : ∃ y l, args.toList = y :: l ∧ σ.ev y = .v (.c c) ∧ l.map σ.ev = ys := by
            match hq : args.toList, hxs with
            | y :: l, hxs => simp at hxs; exact ⟨y, l, rfl, hxs.1, hxs.2⟩
          have ha : args = (y :: l).toArray := by apply Array.toList_inj.1; simpa using hy
          subst ha; subst e2
          exact min_ok e1 hz
        · cases he
      · cases he
    · cases he
  | _ => simp [evV] at he
/-- An operation's value, whatever follows. -/
theorem val_det {R : Type} {op : Op} {k : U.D → Option R} {r : R} (h : evVal op σ k = some r) : ∃ d, k d = some r ∧ evVal op σ some = some d := by
  have other : (match evV op σ with | some (b, d) => when_ b (k d) | none => none) = some r → ∃ d, k d = some r ∧ (match evV op σ with | some (b, d) => when_ b (some d) | none => none) = some d := by
    intro h
    split at h
    · rename_i b d hd
      obtain ⟨rfl, h⟩ := when_some h
      exact ⟨d, h, rfl⟩
    · cases h
  cases op with
  | pick x p q =>
    simp only [evVal, evPick] at h ⊢
    split at h
    · rename_i t ht
      split at h
      · exact ⟨_, h, rfl⟩
      · rename_i da db hn
        cases t with
        | true => exact ⟨_, h, rfl⟩
        | false => exact ⟨_, h, rfl⟩
    · cases h
  | _ => exact other h
theorem val_ok (hU : UOk P U) {op : Op} {d : U.D} (he : evVal op σ some = some d) : VO P σ op d := by
  have other : (match evV op σ with | some (b, d) => when_ b (some d) | none => none) = some d → VO P σ op d := by
    intro h
    split at h
    · rename_i b d' hd
      obtain ⟨rfl, h⟩ := when_some h
      cases h
      exact evV_ok hU hd
    · cases h
  cases op with
  | pick x p q =>
    intro X a w G h o ho
    simp only [evVal, evPick] at he
    have hp := ev_ok h p
    have hq := ev_ok h q
    have hx := ev_ok h x
    split at he
    · rename_i t ht
      rw [ht] at hx
      have hv := rep_bool hx
      split at he
      · rename_i b1 b2 e1 e2
        cases he
        rw [e1] at hp; rw [e2] at hq
        have hp' := rep_bool hp
        have hq' := rep_bool hq
        refine ⟨.bool (cond t b1 b2), ?_, rep_cell (.bool _)⟩
        cases t <;> simp [execOp, ho, hv, hp', hq', asBool]
      · cases t with
        | true => cases he; exact ⟨a.eval p, by simp [execOp, ho, hv, asBool], hp⟩
        | false => cases he; exact ⟨a.eval q, by simp [execOp, ho, hv, asBool], hq⟩
    · cases he
  | _ => exact other he
end
end Go.Proofs.Ytogfofcocidmkaa.Ev
