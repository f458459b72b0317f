/- EV (ours), part E: operations, one by one: what the evaluator answers is what they do. -/
import Derived.Test.YtogfofcocidmkaaEvD
import Derived.Laws.Slices
import Derived.Laws.Small
import Derived.Laws.StructEq
import Derived.Laws.Pointers
import Derived.Laws.Concat
import Derived.Laws.BytesString
import Derived.Laws.Cells
import Derived.Laws.Strings
import Derived.Laws.Entries
set_option linter.unusedVariables false
set_option linter.unusedSimpArgs false
namespace Go.Proofs.Ytogfofcocidmkaa.Ev
open Go.RowKit
section
variable {U : Uni} {X : Beg U} {σ : St U} {a : Act} {w w' : World} {G : Gh} {P : Program}

def cval : U.C → Option Value
  | .int k n => some (.int k n)
  | .bool b => some (.bool b)
  | .str s => some (.string s)
  | .nilp => some (.pointer none)
  | .nils => some (.slice none 0 0)
  | _ => none
def agD : TypeDesc → Bool
  | .struct _ | .array _ _ => true
  | _ => false
/-- What the universe says of types is so in the program. -/
structure UOk (P : Program) (U : Uni) : Prop where
  inf : ∀ T t, U.inf T = some t → ∃ i d, P.info? T = some i ∧ i.size = t.sz ∧ i.bytes = t.bytes ∧ P.underlying T = some d ∧ agD d = t.ag ∧ 0 < t.sz ∧ 0 < t.bytes ∧ ∃ z, i.zero = some z ∧ z.cells.size = t.sz
  zero : ∀ T cs, U.zero T = some cs → ∃ i z, P.info? T = some i ∧ i.zero = some z ∧ cs.map cval = z.cells.toList.map some
  elem : ∀ S T, U.elem S = some T → P.underlying S = some (.slice T)
  ptee : ∀ S T, U.ptee S = some T → P.underlying S = some (.pointer T)
  places : ∀ S ps, U.places S = some ps → ∃ fs, P.underlying S = some (.struct fs) ∧ fs.toList.mapM (fun f => (P.info? f.type).map fun i => (f.offset, i.size)) = some ps ∧ ∀ p ∈ ps, 0 < p.2
  boolT : ∀ T, U.boolT T = true → P.underlying T = some .bool
  strT : ∀ T, U.strT T = true → P.underlying T = some .string
  intT : ∀ T k, U.intT T = some k → P.underlying T = some (.int k)
  convI : ∀ s d k, U.conv s d = some (.int k) → (∃ k', P.underlying s = some (.int k')) ∧ P.underlying d = some (.int k)
  convS : ∀ s d, U.conv s d = some .same → P.underlying s = some .string ∧ P.underlying d = some .string
  convT : ∀ s d T, U.conv s d = some (.toStr T) → P.underlying s = some (.slice T) ∧ P.underlying T = some (.int .u8) ∧ P.underlying d = some .string
  convB : ∀ s d T, U.conv s d = some (.toBytes T) → P.underlying d = some (.slice T) ∧ P.underlying T = some (.int .u8) ∧ P.underlying s = some .string
  convM : ∀ s d T, U.conv s d = some (.mark T) → s = d ∧ P.underlying d = some (.slice T) ∧ P.underlying T = some (.int .u8)
  eqT : ∀ T, U.eqT T = true → P.eqGuardType P.depth T = false ∧ ∀ (w : World) (xs ys : List U.C) (us vs : Array Value) (b : Bool), xs.map cval = us.toList.map some → ys.map cval = vs.toList.map some → eqAg U T xs ys = some b → (Op.equalIn 10000 T (.agg us) (.agg vs)).run P w = .ok b w
  bytes : ∀ T l bs, U.bytes T l = some bs → U.sz T = 1 ∧ bs.length = l.length ∧ ∀ (i : Nat) n, bs[i]? = some n → (U.enc T (l.getD i (U.dflt T)))[0]? = some (.int .u8 n)
  ofBytes : ∀ T bs l, U.ofBytes T bs = some l → U.sz T = 1 ∧ l.length = bs.length ∧ ∀ (i : Nat) n, bs[i]? = some n → (U.enc T (l.getD i (U.dflt T)))[0]? = some (.int .u8 n)
  enc : ∀ T (x : U.Ty T), (U.enc T x).length = U.sz T
  encp : ∀ T (x : U.Ty T) c, c ∈ U.enc T x → plain c = true
  dec : ∀ T cs (x : U.Ty T), U.dec T cs = some x → cs.length = (U.enc T x).length ∧ ∀ (j : Nat) c, cs[j]? = some c → ∃ d, (U.enc T x)[j]? = some d ∧ (c = d ∨ c = .nils ∧ ∃ T', d = .sl T' [])

theorem wp_value {o : Oper} {K : Act → World → Prop} {Q : Exit → Act → World → Prop} {v : Value} (h : (execOp a.eval o).run P w = .ok (.value v) w') (hk : K (a.put o.dst v) w') : o.wp P a w K Q := by
  unfold Oper.wp; rw [h]; exact hk
theorem wp_skip_ {o : Oper} {K : Act → World → Prop} {Q : Exit → Act → World → Prop} (h : (execOp a.eval o).run P w = .ok .skip w') (hk : K (a.put o.dst undef) w') : o.wp P a w K Q := by
  unfold Oper.wp; rw [h]; exact hk
theorem rep_undef (v : Value) : RepD w G (.v (.c .undef) : U.D) v := ⟨trivial, fun h => absurd rfl h⟩
theorem rep_cell {x : U.C} {v : Value} (h : RepC w G x v) : RepD w G (.v (.c x)) v := RepV.ofC h
theorem ev_ok (h : Rel X σ a w G) (x : Operand) : RepD w G (σ.ev x) (a.eval x) := by
  cases x with
  | tmp t =>
    simp only [St.ev, Act.eval]
    rw [List.getD_eq_getElem?_getD]
    cases hs : σ.slots[t]? with
    | none => exact rep_undef _
    | some d =>
      obtain ⟨v, h1, h2⟩ := h.slot t d hs
      have : a.tmps.getD t undef = v := by simp [Array.getD_eq_getD_getElem?, h1]
      rw [this]
      exact h2
  | const v =>
    simp only [St.ev, Act.eval]
    refine rep_cell ?_
    cases v <;> first | exact trivial | (simp only [litC]; first | exact .int _ _ | exact .bool _ | exact .str _ | skip)
    · rename_i p; cases p <;> first | exact .nilp | exact trivial
    · rename_i p n c
      match p, n, c with
      | none, 0, 0 => exact .nils
      | none, 0, _ + 1 => trivial
      | none, _ + 1, _ => trivial
      | some _, _, _ => trivial
  | global g => exact rep_undef _
  | func f => exact rep_cell (.fn f)
theorem rep_int {k : IntKind} {n : Int} {v : Value} (h : RepD w G (.v (.c (.int k n)) : U.D) v) : v = .int k n := by
  have := h.1
  cases this; rfl
theorem rep_bool {b : Bool} {v : Value} (h : RepD w G (.v (.c (.bool b)) : U.D) v) : v = .bool b := by
  have := h.1
  cases this; rfl
theorem rep_str {b : ByteArray} {v : Value} (h : RepD w G (.v (.c (.str b)) : U.D) v) : v = .string b := by
  have := h.1
  cases this; rfl
theorem rep_nilp {v : Value} (h : RepD w G (.v (.c .nilp) : U.D) v) : v = .pointer none := by
  have := h.1
  cases this; rfl
theorem rep_nils {v : Value} (h : RepD w G (.v (.c .nils) : U.D) v) : v = .slice none 0 0 := by
  have := h.1
  cases this; rfl
theorem rep_fn {f : Nat} {v : Value} (h : RepD w G (.v (.c (.fn f)) : U.D) v) : v = .func (.func f) #[] #[] := by
  have := h.1
  cases this; rfl
theorem rep_sl {T : Nat} {l : List (U.Ty T)} {v : Value} (h : RepD w G (.v (.c (.sl T l)) : U.D) v) : ∃ ad c, v = .slice ad l.length c ∧ l.length ≤ c := by
  have := h.1
  cases this; exact ⟨_, _, rfl, ‹_›⟩

/-- What an operation's step must show. -/
def Step (P : Program) (X : Beg U) (o : Oper) (a : Act) (w : World) (d : U.D) (σ' : St U) : Prop :=
  ∀ (K : Act → World → Prop) (Q : Exit → Act → World → Prop), (∀ v w' G', Rel X σ' a w' G' → RepD w' G' d v → K (a.put o.dst v) w') → o.wp P a w K Q

/-! ### arithmetic -/
theorem bits_run (op : BinOp) (k : IntKind) (x y : Int) (h : op = .and ∨ op = .or ∨ op = .xor ∨ op = .andNot) : (Op.intBits op k x y).run P w = .ok (.int k (bits op k x y)) w := by
  rcases h with rfl | rfl | rfl | rfl <;> simp [Op.intBits, bits]
theorem intBin_ok {op : BinOp} {k : IntKind} {x y : Int} {c : U.C} (h : intBin op k x y = some c) (T : TypeId) :
    ∃ v, (binOp op T (.int k x) (.int k y)).run P w = .ok v w ∧ RepC w G c v := by
  cases op <;> simp only [intBin, Option.some.injEq, reduceCtorEq] at h <;> subst h <;>
    first
      | exact ⟨_, by simp [binOp, Op.intArith, Op.intCmp] <;> rfl, RepP.int _ _⟩
      | exact ⟨_, by simp [binOp, Op.intArith, Op.intCmp] <;> rfl, RepP.bool _⟩
      | exact ⟨_, by simp only [binOp, ne_eq, not_true_eq_false, if_false]; exact bits_run _ _ _ _ (by simp), RepP.int _ _⟩
theorem strBin_ok {op : BinOp} {x y : ByteArray} {r : Bool} (h : strBin op x y = some r) (T : TypeId) :
    (binOp op T (.string x) (.string y)).run P w = .ok (.bool r) w := by
  cases op <;> simp only [strBin, Option.some.injEq, reduceCtorEq] at h <;> subst h <;> simp [binOp, Op.stringOp]
theorem guard_ok {op : BinOp} {T : TypeId} {x y : Operand} {u v : Value} (h : ∀ c, u ≠ .agg c) (h2 : u ≠ .nilIface) : (eqGuard op T x y u v).run P w = .ok () w := by
  cases u <;> first | exact absurd rfl (h _) | exact absurd rfl h2 | (unfold eqGuard; split <;> simp)
theorem when_some {R : Type} {b : Bool} {x : Option R} {r : R} (h : when_ b x = some r) : b = true ∧ x = some r := by
  cases b <;> simp [when_] at h ⊢
  exact h
theorem bif_some {R : Type} {b : Bool} {x : Option R} {r : R} (h : (bif b then x else none) = some r) : b = true ∧ x = some r := by
  cases b <;> simp at h ⊢
  exact h

def BinOk (P : Program) (op : BinOp) (T : Nat) (dx dy : U.D) (c : U.C) : Prop :=
  ∀ (w : World) (G : Gh) (u v : Value), RepD w G dx u → RepD w G dy v → ∃ z, (binOp op T u v).run P w = .ok z w ∧ RepC w G c z ∧ ∀ x y : Operand, (eqGuard op T x y u v).run P w = .ok () w
theorem cval_ok {x : U.C} {v : Value} (h : RepC w G x v) (hx : cval x ≠ none) : cval x = some v := by
  cases x <;> first | exact absurd rfl hx | (cases (h : RepP w G.fz _ v); rfl)
theorem eqCells_cval : ∀ {xs ys : List U.C} {b : Bool} {us vs : Array Value}, eqCells xs ys = some b →
    (us.size = xs.length ∧ ∀ (j : Nat) x, xs[j]? = some x → ∃ u, us[j]? = some u ∧ RepC w G x u ∧ u.oneCell' = true) →
    (vs.size = ys.length ∧ ∀ (j : Nat) x, ys[j]? = some x → ∃ u, vs[j]? = some u ∧ RepC w G x u ∧ u.oneCell' = true) → xs.map cval = us.toList.map some ∧ ys.map cval = vs.toList.map some := by
  intro xs ys b us vs hb hu hv
  have hne : ∀ (xs ys : List U.C) (b : Bool), eqCells xs ys = some b → (∀ x ∈ xs, cval x ≠ none) ∧ ∀ y ∈ ys, cval y ≠ none := by
    intro xs
    induction xs with
    | nil => intro ys b h; cases ys with
      | nil => exact ⟨fun x hx => by simp at hx, fun y hy => by simp at hy⟩
      | cons y ys => simp [eqCells] at h
    | cons x xs ih =>
      intro ys b h
      cases ys with
      | nil => cases x <;> simp [eqCells] at h
      | cons y ys =>
        have : ∃ r, eqCells xs ys = some r ∧ cval x ≠ none ∧ cval y ≠ none := by
          cases x <;> cases y <;> simp only [eqCells, reduceCtorEq] at h <;>
            (split at h
             · rename_i r hr; exact ⟨r, hr, by simp [cval], by simp [cval]⟩
             · cases h)
        obtain ⟨r, hr, h1, h2⟩ := this
        obtain ⟨i1, i2⟩ := ih ys r hr
        exact ⟨fun z hz => by rcases List.mem_cons.1 hz with rfl | hz; exact h1; exact i1 z hz, fun z hz => by rcases List.mem_cons.1 hz with rfl | hz; exact h2; exact i2 z hz⟩
  obtain ⟨n1, n2⟩ := hne xs ys b hb
  have one : ∀ (zs : List U.C) (us : Array Value), (∀ x ∈ zs, cval x ≠ none) → (us.size = zs.length ∧ ∀ (j : Nat) x, zs[j]? = some x → ∃ u, us[j]? = some u ∧ RepC w G x u ∧ u.oneCell' = true) → zs.map cval = us.toList.map some := by
    intro zs us hn hh
    apply List.ext_getElem?
    intro j
    have e0 : us.toList[j]? = us[j]? := by simp
    rw [List.getElem?_map, List.getElem?_map, e0]
    cases hj : zs[j]? with
    | none =>
      have : us[j]? = none := by
        rw [Array.getElem?_eq_none_iff, hh.1]
        exact List.getElem?_eq_none_iff.1 hj
      rw [this]; rfl
    | some x =>
      obtain ⟨u, h1, h2, _⟩ := hh.2 j x hj
      rw [h1]
      simp only [Option.map_some]
      rw [cval_ok h2 (hn x (List.mem_of_getElem? hj))]
  exact ⟨one xs us n1 hu, one ys vs n2 hv⟩
theorem bin_ok (hU : UOk P U) {op : BinOp} {T : Nat} {dx dy : U.D} {c : U.C} (h : evBin op T dx dy = some (true, c)) : BinOk P op T dx dy c := by
  intro w G u v hx hy
  unfold evBin at h
  split at h
  · rename_i k1 a1 k2 b1
    have hu := rep_int hx
    have hv := rep_int hy
    subst hu; subst hv
    split at h
    · obtain ⟨e, h'⟩ := bif_some h
      simp only [Option.some.injEq, Prod.mk.injEq] at h'
      obtain ⟨e2, rfl⟩ := h'
      simp only [decide_eq_true_eq] at e
      subst e
      have : b1 ≠ 0 := by simpa using e2
      exact ⟨_, by simp only [binOp, ne_eq, not_true_eq_false, if_false, Op.intDiv, this, Sem.run_pure] <;> rfl, RepP.int _ _, fun _ _ => guard_ok (by simp) (by simp)⟩
    · obtain ⟨e, h'⟩ := bif_some h
      simp only [Option.some.injEq, Prod.mk.injEq] at h'
      obtain ⟨e2, rfl⟩ := h'
      simp only [decide_eq_true_eq] at e
      subst e
      have : b1 ≠ 0 := by simpa using e2
      exact ⟨_, by simp only [binOp, ne_eq, not_true_eq_false, if_false, Op.intDiv, this, Sem.run_pure] <;> rfl, RepP.int _ _, fun _ _ => guard_ok (by simp) (by simp)⟩
    · simp only [Option.some.injEq, Prod.mk.injEq] at h
      obtain ⟨e, rfl⟩ := h
      have : ¬ b1 < 0 := by simp at e; omega
      exact ⟨_, by simp only [binOp, Op.shift, if_neg this, Sem.run_pure], RepP.int _ _, fun _ _ => guard_ok (by simp) (by simp)⟩
    · simp only [Option.some.injEq, Prod.mk.injEq] at h
      obtain ⟨e, rfl⟩ := h
      have : ¬ b1 < 0 := by simp at e; omega
      exact ⟨_, by simp only [binOp, Op.shift, if_neg this, Sem.run_pure], RepP.int _ _, fun _ _ => guard_ok (by simp) (by simp)⟩
    · obtain ⟨e, h'⟩ := bif_some h
      clear h
      split at h'
      · rename_i c hc
        simp only [Option.some.injEq, Prod.mk.injEq, true_and] at h'
        subst h'
        simp only [decide_eq_true_eq] at e
        subst e
        obtain ⟨z, h1, h2⟩ := intBin_ok (P := P) (w := w) (G := G) hc T
        exact ⟨z, h1, h2, fun _ _ => guard_ok (by simp) (by simp)⟩
      · cases h'
  · rename_i a1 b1
    have hu := rep_str hx
    have hv := rep_str hy
    subst hu; subst hv
    split at h
    · simp only [Option.some.injEq, Prod.mk.injEq] at h
      obtain ⟨e, rfl⟩ := h
      refine ⟨_, ?_, RepP.str _, fun _ _ => guard_ok (by simp) (by simp)⟩
      have e' : a1.size + b1.size ≤ 9223372036854775807 := by simpa using e
      simp only [binOp]
      exact run_string_add_sum w a1 b1 e'
    · split at h
      · rename_i rr hc
        cases h
        exact ⟨_, strBin_ok hc T, RepP.bool _, fun _ _ => guard_ok (by simp) (by simp)⟩
      · cases h
  · rename_i a1 b1
    have hu := rep_bool hx
    have hv := rep_bool hy
    subst hu; subst hv
    obtain ⟨e, h'⟩ := bif_some h
    have hT := hU.boolT T e
    split at h'
    · cases h'
      exact ⟨_, run_eql_bool w T _ _ hT, RepP.bool _, fun _ _ => guard_ok (by simp) (by simp)⟩
    · cases h'
      exact ⟨_, run_neq_bool w T _ _ hT, RepP.bool _, fun _ _ => guard_ok (by simp) (by simp)⟩
    · cases h'
  · rename_i xs ys
    obtain ⟨e, h'⟩ := bif_some h
    obtain ⟨hg, hq⟩ := hU.eqT T e
    obtain ⟨us, rfl, hus⟩ := hx
    obtain ⟨vs, rfl, hvs⟩ := hy
    have key : ∀ b, eqAg U T xs ys = some b → xs.map cval = us.toList.map some ∧ ys.map cval = vs.toList.map some := fun b hb => by
      unfold eqAg at hb
      split at hb
      · exact eqCells_cval hb hus hvs
      · cases hb
    split at h'
    · rename_i b hb
      cases h'
      obtain ⟨k1, k2⟩ := key b hb
      refine ⟨.bool b, by rw [run_eql_struct, hq w xs ys us vs b k1 k2 hb]; rfl, RepP.bool _, fun x y => run_eqGuard_agg w _ T x y us vs hg⟩
    · rename_i b hb
      cases h'
      obtain ⟨k1, k2⟩ := key b hb
      refine ⟨.bool (!b), by rw [run_neq_struct, hq w xs ys us vs b k1 k2 hb]; rfl, RepP.bool _, fun x y => run_eqGuard_agg w _ T x y us vs hg⟩
    · cases h'
  · have hu := rep_nilp hx
    have hv := rep_nilp hy
    subst hu; subst hv
    split at h
    · rename_i e hp
      cases h
      have hT := hU.ptee _ _ hp
      have hT' : P.underlying T = some (.pointer (P.pointee T)) := by simp [Program.pointee, hT]
      exact ⟨_, run_eql_pointer_nil w T _ hT', RepP.bool _, fun _ _ => guard_ok (by simp) (by simp)⟩
    · rename_i e hp
      cases h
      have hT := hU.ptee _ _ hp
      have hT' : P.underlying T = some (.pointer (P.pointee T)) := by simp [Program.pointee, hT]
      exact ⟨_, run_neq_pointer_nil w T _ hT', RepP.bool _, fun _ _ => guard_ok (by simp) (by simp)⟩
    · cases h
  · obtain ⟨g, p, _, hu⟩ := hx.1
    have hv := rep_nilp hy
    subst hu; subst hv
    split at h
    · rename_i e hp
      cases h
      have hT := hU.ptee _ _ hp
      have hT' : P.underlying T = some (.pointer (P.pointee T)) := by simp [Program.pointee, hT]
      exact ⟨_, run_eql_pointer_nil w T _ hT', RepP.bool _, fun _ _ => guard_ok (by simp) (by simp)⟩
    · rename_i e hp
      cases h
      have hT := hU.ptee _ _ hp
      have hT' : P.underlying T = some (.pointer (P.pointee T)) := by simp [Program.pointee, hT]
      exact ⟨_, run_neq_pointer_nil w T _ hT', RepP.bool _, fun _ _ => guard_ok (by simp) (by simp)⟩
    · cases h
  · cases h
theorem un_ok {op : UnOp} {dx : U.D} {c : U.C} (h : evUn op dx = some c) {u : Value} (hx : RepD w G dx u) : ∃ z, (Op.unary op u).run P w = .ok z w ∧ RepC w G c z := by
  unfold evUn at h
  split at h
  · have hu := rep_int hx; subst hu; cases h
    exact ⟨_, by simp [Op.unary, Op.intArith] <;> rfl, RepP.int _ _⟩
  · have hu := rep_bool hx; subst hu; cases h
    exact ⟨_, by simp [Op.unary] <;> rfl, RepP.bool _⟩
  · have hu := rep_int hx; subst hu; cases h
    exact ⟨_, by simp only [Op.unary]; exact bits_run _ _ _ _ (by simp), RepP.int _ _⟩
  · cases h
end
end Go.Proofs.Ytogfofcocidmkaa.Ev
