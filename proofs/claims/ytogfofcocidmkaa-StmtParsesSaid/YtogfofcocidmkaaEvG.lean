/- EV (ours), part G: operations that leave the world as it is. -/
import Derived.Test.YtogfofcocidmkaaEvF
import Derived.Great.BuildSlice
set_option linter.unusedVariables false
set_option linter.unusedSimpArgs false
namespace Go.Proofs.Ytogfofcocidmkaa.Ev
open Go.RowKit
section
variable {U : Uni} {X : Beg U} {σ : St U} {a : Act} {w w' : World} {G : Gh} {P : Program}

theorem move_ok {x : Operand} : VO P σ (.move x) (σ.ev x) := by
  intro X a w G h o ho
  exact ⟨a.eval x, by simp [execOp, ho], ev_ok h x⟩
theorem assign_ok {x : Operand} : VO P σ (.assign x) (σ.ev x) := by
  intro X a w G h o ho
  exact ⟨a.eval x, by simp [execOp, ho], ev_ok h x⟩
theorem binOp_ok (hU : UOk P U) {op : BinOp} {T T' : Nat} {x y : Operand} {c : U.C} (hb : evBin op T (σ.ev x) (σ.ev y) = some (true, c)) : VO P σ (.binOp op T x y T') (.v (.c c)) := by
  intro X a w G h o ho
  obtain ⟨z, h1, h2, h3⟩ := bin_ok hU hb w G _ _ (ev_ok h x) (ev_ok h y)
  refine ⟨z, ?_, rep_cell h2⟩
  simp [execOp, ho, h3 x y, h1]
theorem unOp_ok {op : UnOp} {T : Nat} {x : Operand} {c : U.C} (hb : evUn op (σ.ev x) = some c) : VO P σ (.unOp op T x) (.v (.c c)) := by
  intro X a w G h o ho
  obtain ⟨z, h1, h2⟩ := un_ok (P := P) hb (ev_ok h x)
  exact ⟨z, by simp [execOp, ho, h1], rep_cell h2⟩
theorem extract_ok {x : Operand} {i : Nat} {l : List U.V} {v : U.V} (hx : σ.ev x = .tup l) (hi : l[i]? = some v) : VO P σ (.extract x i) (.v v) := by
  intro X a w G h o ho
  have hA := ev_ok h x
  rw [hx] at hA
  obtain ⟨vs, he, hn, hr⟩ := hA
  obtain ⟨u, h1, h2⟩ := hr i v hi
  exact ⟨u, by simp [execOp, ho, he, Instr.extract, h1], h2⟩
theorem index_ok (hU : UOk P U) {T : Nat} {x i : Operand} {s : ByteArray} {k : IntKind} {n : Int} (hT : U.strT T = true) (hx : σ.ev x = .v (.c (.str s))) (hi : σ.ev i = .v (.c (.int k n))) (h0 : 0 ≤ n) (h1 : n < s.size) :
    VO P σ (.index T x i) (.v (.c (.int .u8 (bt s n)))) := by
  intro X a w G h o ho
  have hA := ev_ok h x
  have hB := ev_ok h i
  rw [hx] at hA; rw [hi] at hB
  have hs := rep_str hA
  have hn := rep_int hB
  refine ⟨.int .u8 (bt s n), ?_, rep_cell (.int _ _)⟩
  have hlt : n.toNat < s.size := by omega
  have e : bt s n = ((s[n.toNat]'hlt).toNat : Int) := by
    unfold bt
    have : s.data.getD n.toNat 0 = s[n.toNat]'hlt := by
      have hd : n.toNat < s.data.size := hlt
      rw [Array.getD_eq_getD_getElem?, Array.getElem?_eq_getElem hd]; rfl
    rw [this]
  simp only [execOp, ho, hs, hn, Sem.run_bind, run_index_string w T s k n (hU.strT T hT), dif_pos (And.intro h0 h1), Result.andThen_ok, Sem.run_pure, e]
theorem run_sizeElem (hU : UOk P U) {S T : Nat} (hS : U.elem S = some T) {t : TI} (ht : U.inf T = some t) (w : World) : (sizeOf (P.elem S)).run P w = .ok (U.sz T) w := by
  rw [(elem_of hU hS).2, run_sizeOf_ hU ht]
  simp [Uni.sz, ht]
theorem idx_sl_ok (hU : UOk P U) {S : Nat} {x i : Operand} {k : IntKind} {n : Int} {T : Nat} {l : List (U.Ty T)} {t : TI} (ht : U.inf T = some t) (hS : U.elem S = some T) (hx : σ.ev x = .v (.c (.sl T l))) (hi : σ.ev i = .v (.c (.int k n))) (h0 : 0 ≤ n) (h1 : n < l.length) :
    VO P σ (.indexAddr S x i) (.v (.c (.fat T l n.toNat 0))) := by
  intro X a w G h o ho
  have hA := ev_ok h x
  have hB := ev_ok h i
  rw [hx] at hA; rw [hi] at hB
  have hn := rep_int hB
  have hx' : RepP w G.fz (.sl T l : U.C) (a.eval x) := hA.1
  generalize hvx : a.eval x = vx at hx'
  cases hx' with
  | sl _ _ ad c f hc ha hf =>
    obtain ⟨ad, rfl, hz, hcell⟩ := ha (by omega)
    refine ⟨.pointer (some (ad.add (n.toNat * U.sz T))), ?_, rep_cell ⟨by omega, ad, f n.toNat, hz, fun j hj => hcell _ _ (by omega) hj, fun j x hx => hf n.toNat j x (by omega) hx, rfl⟩⟩
    have hes := elem_of hU hS
    simp only [execOp, ho, hn, hvx, Sem.run_bind, run_indexAt_slice w S ad l.length c k n (by rw [hes.1]), if_pos (And.intro h0 h1), run_sizeElem hU hS ht, Result.andThen_ok, Sem.run_pure]
theorem own_shape {fz : Nat → Prop} {B T : Nat} {l : List (U.Ty T)} {v : Value} (ho : OwnRep w fz B T l v) (hl : 0 < l.length) : ∃ g c, v = .slice (some ⟨g, 0, none⟩) l.length c := by
  obtain ⟨xs, hown, _⟩ := ho
  rcases hown.2 with ⟨e, hn⟩ | ⟨g, cap, cur, e, _⟩
  · omega
  · exact ⟨g, cap, e⟩
theorem idx_own_ok (hU : UOk P U) {S : Nat} {x i : Operand} {k : IntKind} {n : Int} {T r : Nat} {l : List (U.Ty T)} {t : TI} (ht : U.inf T = some t) (hS : U.elem S = some T) (hx : σ.ev x = .v (.c (.own T r))) (hl : rowAt σ T r = some l) (hi : σ.ev i = .v (.c (.int k n))) (h0 : 0 ≤ n) (h1 : n < l.length) :
    VO P σ (.indexAddr S x i) (.v (.c (.oat T r n.toNat 0))) := by
  intro X a w G h o ho
  have hA := ev_ok h x
  have hB := ev_ok h i
  rw [hx] at hA; rw [hi] at hB
  have hn := rep_int hB
  have hx' := hA.1.1
  obtain ⟨v, hv, hown⟩ := own_row h hl
  have e := hx'.symm.trans hv
  simp only [Option.some.injEq] at e
  obtain ⟨g, c, hg⟩ := own_shape hown (by omega)
  have hes := elem_of hU hS
  refine ⟨.pointer (some ⟨g, n.toNat * U.sz T + 0, none⟩), ?_, rep_cell ⟨g, l.length, c, by rw [hv, hg], by omega, rfl⟩⟩
  simp only [execOp, ho, hn, e, hg, Sem.run_bind, run_indexAt_slice w S _ l.length c k n (by rw [hes.1]), if_pos (And.intro h0 h1), run_sizeElem hU hS ht, Result.andThen_ok, Sem.run_pure, zero_add_]
  simp
theorem sliceT_ok {T : Nat} {x : U.C} {v : Value} {l : List (U.Ty T)} (hr : RepC w G x v) (hl : sliceT x T = some l) : RepP w G.fz (.sl T l : U.C) v := by
  unfold sliceT at hl
  split at hl
  · split at hl
    · rename_i e
      cases hl
      subst e
      exact hr
    · cases hl
  · cases hl
    have hn : RepP w G.fz (.nils : U.C) v := hr
    cases hn
    exact .sl T [] none 0 (fun _ _ => undef) (Nat.le_refl _) (fun h => absurd h (by simp)) (fun i j x hi => absurd hi (by simp))
  · cases hl
theorem len_ok (hU : UOk P U) {t : Nat} {x : Operand} {n : Int} (hl : lenOf σ t (σ.ev x) = some n) : VO P σ (.call ⟨.builtin .len, #[x], #[t]⟩) (.v (.c (.int .i64 n))) := by
  intro X a w G h o ho
  have hA := ev_ok h x
  suffices hh : (Builtin.len_ #[t] o.type #[a.eval x]).run P w = .ok (.int .i64 n) w by
    refine ⟨.int .i64 n, ?_, rep_cell (.int _ _)⟩
    simp [execOp, ho, resolve, invoke, builtin, hh]
  unfold lenOf at hl
  split at hl
  · rename_i s hs
    rw [hs] at hA
    obtain ⟨e, h'⟩ := bif_some hl
    cases h'
    have := rep_str hA
    rw [this]
    simp [Builtin.len_, run_underlying (hU.strT t e), goInt]
  · rename_i T l hs
    rw [hs] at hA
    obtain ⟨e, h'⟩ := bif_some hl
    cases h'
    obtain ⟨ad, c, this, _⟩ := rep_sl hA
    rw [this]
    obtain ⟨T', hT'⟩ := Option.isSome_iff_exists.1 e
    simp [Builtin.len_, run_underlying (hU.elem t T' hT'), goInt]
  · rename_i hs
    rw [hs] at hA
    obtain ⟨e, h'⟩ := bif_some hl
    cases h'
    have := rep_nils hA
    rw [this]
    obtain ⟨T', hT'⟩ := Option.isSome_iff_exists.1 e
    simp [Builtin.len_, run_underlying (hU.elem t T' hT'), goInt]
  · rename_i T r hs
    rw [hs] at hA
    obtain ⟨e, h'⟩ := bif_some hl
    obtain ⟨T', hT'⟩ := Option.isSome_iff_exists.1 e
    split at h'
    · rename_i l hl'
      cases h'
      obtain ⟨v, hv, hown⟩ := own_row h hl'
      have e := hA.1.1.symm.trans hv
      simp only [Option.some.injEq] at e
      rw [e]
      have : ∃ ad c, v = .slice ad l.length c := by
        obtain ⟨xs, ho', _⟩ := hown
        rcases ho'.2 with ⟨e, hn⟩ | ⟨g, cap, cur, e, _⟩
        · exact ⟨none, 0, by rw [e, hn]⟩
        · exact ⟨_, cap, e⟩
      obtain ⟨ad, c, this⟩ := this
      rw [this]
      simp [Builtin.len_, run_underlying (hU.elem t T' hT'), goInt]
    · cases h'
  · cases hl
theorem mm_ok {b : Builtin} (hb : b = .max ∨ b = .min) : ∀ (ys : List Operand) (x z : U.C) (v : Value), Rel X σ a w G → RepC w G x v → foldMM (U := U) b x (ys.map σ.ev) = some z →
    ∃ u, ((ys.map a.eval).foldlM (match b with | .max => Builtin.max2 | _ => Builtin.min2) v).run P w = .ok u w ∧ RepC w G z u := by
  intro ys
  induction ys with
  | nil => intro x z v h hx hz; simp [foldMM] at hz; subst hz; exact ⟨v, by simp, hx⟩
  | cons y ys ih =>
    intro x z v h hx hz
    simp only [List.map_cons, foldMM] at hz
    have hy := ev_ok h y
    split at hz
    · rename_i x' hm
      unfold minMax at hm
      split at hm
      · rename_i k1 n1 k2 n2 e3
        rw [e3] at hy
        have hv := rep_int (rep_cell hx)
        have hw := rep_int hy
        rcases hb with rfl | rfl
        · cases hm
          obtain ⟨u, h1, h2⟩ := ih (.int k1 (if n2 > n1 then n2 else n1)) z (.int k1 (if n2 > n1 then n2 else n1)) h (RepP.int _ _) hz
          refine ⟨u, ?_, h2⟩
          simp only [List.map_cons, List.foldlM_cons, Sem.run_bind, hv, hw, Builtin.max2, Sem.run_pure, Result.andThen_ok]
          exact h1
        · cases hm
          obtain ⟨u, h1, h2⟩ := ih (.int k1 (if n2 < n1 then n2 else n1)) z (.int k1 (if n2 < n1 then n2 else n1)) h (RepP.int _ _) hz
          refine ⟨u, ?_, h2⟩
          simp only [List.map_cons, List.foldlM_cons, Sem.run_bind, hv, hw, Builtin.min2, Sem.run_pure, Result.andThen_ok]
          exact h1
      · cases hm
    · cases hz
theorem max_ok {x : Operand} {ys : List Operand} {ts : Array Nat} {c z : U.C} (hx : σ.ev x = .v (.c c)) (hz : foldMM (U := U) .max c (ys.map σ.ev) = some z) : VO P σ (.call ⟨.builtin .max, (x :: ys).toArray, ts⟩) (.v (.c z)) := by
  intro X a w G h o ho
  have hA := ev_ok h x
  rw [hx] at hA
  obtain ⟨u, h1, h2⟩ := mm_ok (P := P) (.inl rfl) ys c z (a.eval x) h hA.1 hz
  refine ⟨u, ?_, rep_cell h2⟩
  simp only at h1
  simp [execOp, ho, resolve, invoke, builtin, Builtin.max_, h1]
theorem min_ok {x : Operand} {ys : List Operand} {ts : Array Nat} {c z : U.C} (hx : σ.ev x = .v (.c c)) (hz : foldMM (U := U) .min c (ys.map σ.ev) = some z) : VO P σ (.call ⟨.builtin .min, (x :: ys).toArray, ts⟩) (.v (.c z)) := by
  intro X a w G h o ho
  have hA := ev_ok h x
  rw [hx] at hA
  obtain ⟨u, h1, h2⟩ := mm_ok (P := P) (.inr rfl) ys c z (a.eval x) h hA.1 hz
  refine ⟨u, ?_, rep_cell h2⟩
  simp only at h1
  simp [execOp, ho, resolve, invoke, builtin, Builtin.min_, h1]

/-! ### conversions, slices -/
theorem conv_ok (hU : UOk P U) {s d : Nat} {x : Operand} {b : Bool} {dd : U.D} (he : evV (.convert s d x) σ = some (true, dd)) : VO P σ (.convert s d x) dd := by
  intro X a w G h o ho
  have hA := ev_ok h x
  simp only [evV] at he
  split at he
  · rename_i kd k n hc hx
    cases he
    rw [hx] at hA
    obtain ⟨⟨k', h1⟩, h2⟩ := hU.convI s d kd hc
    have hv := rep_int hA
    exact ⟨.int kd (kd.wrap n), by simp [execOp, ho, hv, convert, run_underlying h1, run_underlying h2, Conv.intToInt], rep_cell (.int _ _)⟩
  · rename_i s' hc hx
    cases he
    rw [hx] at hA
    obtain ⟨h1, h2⟩ := hU.convS s d hc
    have hv := rep_str hA
    exact ⟨.string s', by simp [execOp, ho, hv, convert, run_underlying h1, run_underlying h2], rep_cell (.str _)⟩
  · rename_i T y hc hx
    rw [hx] at hA
    obtain ⟨h1, h2, h3⟩ := hU.convT s d T hc
    split at he
    · rename_i l hl
      split at he
      · rename_i bs hb
        cases he
        obtain ⟨hsz, hlen, hbs⟩ := hU.bytes T l bs hb
        have hv := sliceT_ok hA.1 hl
        refine ⟨.string (strOf bs), ?_, rep_cell (.str _)⟩
        generalize hvx : a.eval x = vx at hv
        cases hv with
        | sl _ _ ad c f hcap ha hf =>
          cases ad with
          | none =>
            have h0 : l.length = 0 := by
              rcases Nat.eq_zero_or_pos l.length with h0 | h0
              · exact h0
              · obtain ⟨ad, e, _⟩ := ha h0; cases e
            have hbs0 : bs = [] := List.eq_nil_of_length_eq_zero (by omega)
            subst hbs0
            simp [execOp, ho, hvx, convert, run_underlying h1, run_underlying h2, run_underlying h3, Conv.bytesToString, strOf]
          | some ad =>
            have hcells : (loadCells ad l.length).run P w = .ok (bs.map (Value.int .u8)).toArray w := by
              have := run_loadCells_list (P := P) w ad (bs.map (Value.int .u8)) (fun j u hu => ?_)
              · rw [List.length_map, hlen] at this
                exact this
              · rw [List.getElem?_map] at hu
                cases hj : bs[j]? with
                | none => rw [hj] at hu; cases hu
                | some n =>
                  rw [hj] at hu
                  simp only [Option.map_some, Option.some.injEq] at hu
                  subst hu
                  have hjl : j < l.length := by rw [← hlen]; exact (List.getElem?_eq_some_iff.1 hj).1
                  obtain ⟨ad', e, _, hcell⟩ := ha (by omega)
                  cases e
                  have hp := hf j 0 _ hjl (hbs j n hj)
                  have hc0 := hcell j 0 hjl (by omega)
                  rw [hsz, Nat.mul_one, Nat.add_zero] at hc0
                  rw [hc0]
                  generalize f j 0 = u at hp
                  cases hp
                  rfl
            have := run_bytesToString (P := P) w ad l.length c bs hcells
            simp only [execOp, ho, hvx, Sem.run_bind, run_convert_bytes_string w s d T (some ad) l.length c h1 h2 h3, this, Result.andThen_ok, Sem.run_pure, strOf]
      · cases he
    · cases he
  · cases he
theorem cut_ok {n : Int} {lo hi : Option Operand} {l hh : Int} (hc : cutAt (U := U) n (lo.map σ.ev) (hi.map σ.ev) = some (true, l, hh)) :
    0 ≤ l ∧ l ≤ hh ∧ hh ≤ n ∧ ∀ (X : Beg U) (a : Act) (w : World) (G : Gh), Rel X σ a w G → ∀ (isS : Bool) (len cap : Nat), (len : Int) = n → len ≤ cap →
      (Instr.sliceBounds isS len cap (lo.map a.eval) (hi.map a.eval) none).run P w = .ok (l.toNat, hh.toNat, cap) w := by
  unfold cutAt at hc
  split at hc
  · rename_i h' l' e1 e2
    simp only [Option.some.injEq, Prod.mk.injEq, Bool.and_eq_true, decide_eq_true_eq] at hc
    obtain ⟨⟨⟨g1, g2⟩, g3, g4⟩, rfl, rfl⟩ := hc
    refine ⟨g3, g4, g2, fun X a w G h isS len cap hlen hcap => ?_⟩
    have vh : (hi = none ∧ h' = n) ∨ ∃ x k, hi = some x ∧ a.eval x = .int k h' := by
      cases hi with
      | none => simp only [Option.map_none, Option.some.injEq] at e1; exact .inl ⟨rfl, e1.symm⟩
      | some x =>
        simp only [Option.map_some] at e1
        have hA := ev_ok h x
        split at e1
        · rename_i k m hm
          cases e1
          simp only [Option.some.injEq] at hm
          rw [hm] at hA
          exact .inr ⟨x, k, rfl, rep_int hA⟩
        · cases e1
        · rename_i hm; cases hm
    have vl' : (lo = none ∧ l' = 0) ∨ ∃ x k, lo = some x ∧ a.eval x = .int k l' := by
      cases lo with
      | none => simp only [Option.map_none, Option.some.injEq] at e2; exact .inl ⟨rfl, e2.symm⟩
      | some x =>
        simp only [Option.map_some] at e2
        have hA := ev_ok h x
        split at e2
        · rename_i k m hm
          cases e2
          simp only [Option.some.injEq] at hm
          rw [hm] at hA
          exact .inr ⟨x, k, rfl, rep_int hA⟩
        · cases e2
        · rename_i hm; cases hm
    rcases vh with ⟨rfl, rfl⟩ | ⟨x, k, rfl, hx⟩ <;> rcases vl' with ⟨rfl, rfl⟩ | ⟨y, k', rfl, hy⟩
    · have : h'.toNat = len := by omega
      simp [Instr.sliceBounds, this]
    · have e0 : h'.toNat = len := by omega
      simp only [Instr.sliceBounds, Option.map_none, Option.map_some, Sem.run_bind, Sem.run_pure, Result.andThen_ok, hy, Option.isSome_none]
      rw [run_sliceBound _ _ _ _ _ g3 (by omega)]
      simp [e0]
    · simp only [Instr.sliceBounds, Option.map_none, Option.map_some, Sem.run_bind, Sem.run_pure, Result.andThen_ok, hx]
      rw [run_sliceBound _ _ _ _ _ g1 (by omega)]
      simp
    · have e0 : ((h'.toNat : Nat) : Int) = h' := by omega
      simp only [Instr.sliceBounds, Option.map_none, Option.map_some, Sem.run_bind, Sem.run_pure, Result.andThen_ok, hx, hy, Option.isSome_none]
      rw [run_sliceBound _ _ _ _ _ g1 (by omega)]
      simp only [Result.andThen_ok]
      rw [run_sliceBound _ _ _ _ _ g3 (by omega)]
      simp
  · cases hc
theorem getD_cut {T : Nat} {l : List (U.Ty T)} {lo hi i : Nat} (h : i < hi - lo) : ((l.take hi).drop lo).getD i (U.dflt T) = l.getD (lo + i) (U.dflt T) := by
  simp only [List.getD_eq_getElem?_getD, List.getElem?_drop, List.getElem?_take]
  rw [if_pos (by omega)]
theorem slice_ok (hU : UOk P U) {S : Nat} {x : Operand} {lo hi : Option Operand} {dd : U.D} (he : evV (.slice S x lo hi none) σ = some (true, dd)) : VO P σ (.slice S x lo hi none) dd := by
  intro X a w G h o ho
  have hA := ev_ok h x
  simp only [evV] at he
  split at he
  · rename_i s hx
    obtain ⟨e, he'⟩ := bif_some he
    split at he'
    · rename_i b l hh hc
      cases he'
      obtain ⟨g1, g2, g3, g4⟩ := cut_ok (P := P) hc
      rw [hx] at hA
      have hv := rep_str hA
      refine ⟨.string (s.extract l.toNat hh.toNat), ?_, rep_cell (.str _)⟩
      have hb := g4 X a w G h false s.size s.size rfl (Nat.le_refl _)
      simp [execOp, ho, hv, run_sliceAt_string w S _ _ _ _ (hU.strT S e), Instr.slice, run_underlying (hU.strT S e), hb]
    · cases he'
  · rename_i T' l m hx
    split at he
    · rename_i T hS
      obtain ⟨e, he'⟩ := bif_some he
      simp only [Bool.and_eq_true] at e
      split at he'
      · rename_i hlo k h' hh
        simp only [Option.some.injEq, Prod.mk.injEq, Bool.and_eq_true, decide_eq_true_eq] at he'
        obtain ⟨⟨g1, g2⟩, rfl⟩ := he'
        obtain rfl := Nat.eq_of_beq_eq_true e.1
        obtain ⟨t, ht⟩ := Option.isSome_iff_exists.1 e.2
        obtain ⟨y, rfl, hy⟩ : ∃ y, hi = some y ∧ σ.ev y = .v (.c (.int k h')) := by
          cases hi with
          | none => simp at hh
          | some y => exact ⟨y, rfl, by simpa using hh⟩
        have hB := ev_ok h y
        rw [hy] at hB
        have hyv := rep_int hB
        rw [hx] at hA
        have hes := elem_of hU hS
        have hv : RepP w G.fz (.sp T' l m : U.C) (a.eval x) := hA.1
        generalize hvx : a.eval x = vx at hv
        cases hv with
        | sp _ _ _ ad c f hcap ha hf =>
          have hlm : (l ++ m).length = l.length + m.length := List.length_append
          have hb : (Instr.sliceBounds true l.length c none (some (a.eval y)) none).run P w = .ok (0, h'.toNat, c) w := by
            simp only [Instr.sliceBounds, Option.map_none, Option.map_some, Sem.run_bind, Sem.run_pure, Result.andThen_ok, hyv]
            rw [run_sliceBound _ _ _ _ _ g1 (by omega)]
            simp
          refine ⟨sliced ad 0 h'.toNat c (U.sz T'), ?_, rep_cell (show RepP w G.fz (.sl T' ((l ++ m).take h'.toNat) : U.C) _ from ?_)⟩
          · simp only [execOp, ho, hvx, Option.map_none, Option.map_some, Sem.run_bind, run_sliceAt_slice w S _ _ _ _ hes.1, run_slice_any w S ad l.length c hes.1, hb, run_sizeElem hU hS ht, Result.andThen_ok, Sem.run_pure]
          · have hlen : ((l ++ m).take h'.toNat).length = h'.toNat - 0 := by rw [List.length_take]; omega
            unfold sliced
            rw [← hlen]
            refine .sl T' _ _ _ (fun i j => f i j) (by rw [hlen]; omega) (fun h0 => ?_) (fun i j x hi hx => ?_)
            · rw [hlen] at h0
              obtain ⟨ad', rfl, hz, hcell⟩ := ha (by omega)
              rw [if_neg (by omega)]
              refine ⟨_, rfl, by rw [add_block]; exact hz, fun i j hi hj => ?_⟩
              rw [hlen] at hi
              rw [add_add, Nat.zero_mul, Nat.zero_add]
              exact hcell _ _ (by omega) hj
            · rw [hlen] at hi
              have e1 : ((l ++ m).take h'.toNat).getD i (U.dflt T') = (l ++ m).getD i (U.dflt T') := by
                simp only [List.getD_eq_getElem?_getD, List.getElem?_take]
                rw [if_pos (by omega)]
              rw [e1] at hx
              exact hf i j x (by omega) hx
      · cases he'
    · cases he
  · rename_i y _ _ hx
    split at he
    · rename_i T hS
      split at he
      · rename_i t l ht hl
        split at he
        · rename_i b lo' hi' hc
          cases he
          obtain ⟨g1, g2, g3, g4⟩ := cut_ok (P := P) hc
          rw [hx] at hA
          have hv := sliceT_ok hA.1 hl
          have hes := elem_of hU hS
          generalize hvx : a.eval x = vx at hv
          cases hv with
          | sl _ _ ad c f hcap ha hf =>
            have hb := g4 X a w G h true l.length c rfl hcap
            refine ⟨sliced ad lo'.toNat hi'.toNat c (U.sz T), ?_, rep_cell (show RepP w G.fz (.sl T ((l.take hi'.toNat).drop lo'.toNat) : U.C) _ from ?_)⟩
            · simp only [execOp, ho, hvx, Option.map_none, Sem.run_bind, run_sliceAt_slice w S _ _ _ _ hes.1, run_slice_any w S ad l.length c hes.1, hb, run_sizeElem hU hS ht, Result.andThen_ok, Sem.run_pure]
            · have hlen : ((l.take hi'.toNat).drop lo'.toNat).length = hi'.toNat - lo'.toNat := by simp; omega
              unfold sliced
              rw [← hlen]
              refine .sl T _ _ _ (fun i j => f (lo'.toNat + i) j) (by rw [hlen]; omega) (fun h0 => ?_) (fun i j x hi hx => ?_)
              · rw [hlen] at h0
                obtain ⟨ad', rfl, hz, hcell⟩ := ha (by omega)
                rw [if_neg (by omega)]
                refine ⟨_, rfl, by rw [add_block]; exact hz, fun i j hi hj => ?_⟩
                rw [hlen] at hi
                rw [add_add, ← Nat.add_assoc, ← Nat.add_mul]
                exact hcell _ _ (by omega) hj
              · rw [hlen] at hi
                rw [getD_cut hi] at hx
                exact hf _ j x (by omega) hx
        · cases he
      · cases he
    · cases he
  · cases he
end
end Go.Proofs.Ytogfofcocidmkaa.Ev
