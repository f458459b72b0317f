/- EV (ours): two functions of Go's library by hand: slices.Clone of bytes, strings' IndexByte. -/
import Derived.Test.YtogfofcocidmkaaEvEn
import Derived.Test.YtogfofcocidmkaaEvOk
import Derived.Lib.Bytealg
import Derived.Lib.SliceRun
import Derived.Laws.Externs
set_option linter.unusedVariables false
set_option linter.unusedSimpArgs false
namespace Go.Proofs.Ytogfofcocidmkaa.Ev
open Go.RowKit Go.Proofs
section
variable {R : Type} {P : Program}
theorem vstep {X : Beg U} {σ : St U} {a : Act} {w : World} {G : Gh} {o : Oper} {op : Op} {d : U.D} {K : Act → World → Prop} {Q : Exit → Act → World → Prop} (ho : o.op = op) (hv : VO P σ op d) (hR : Rel X σ a w G)
    (hK : ∀ v, Rel X (σ.put o.dst d) (a.put o.dst v) w G → K (a.put o.dst v) w) : o.wp P a w K Q := by
  obtain ⟨v, h1, h2⟩ := hv X a w G hR o ho
  exact wp_value h1 (hK v (hR.put _ _ _ h2))
theorem ops_cons {ops : Array Oper} {i : Nat} {l : List Nat} {o : Oper} {a : Act} {w : World} {Q : Exit → Act → World → Prop} (h1 : ops[i]? = some o) (h2 : o.guard = none) (h : o.wp P a w (wpOps P ops Q l) Q) : wpOps P ops Q (i :: l) a w := by
  simp only [wpOps, h1, Region.wanted, h2, if_true]
  exact .inl h
def sqA : Code → Code
  | .seq a b => a
  | c => c
def sqB : Code → Code
  | .seq a b => b
  | c => c
def opsC : Code → Array Oper
  | .region _ ops _ => ops
  | _ => #[]
def thenC : Code → Code
  | .cond _ a _ => a
  | c => c
noncomputable def codeOf (fn : Func) : Code := match fn.body with | some c => c | none => .skip
/-- A piece of code that the evaluator runs to a state. -/
def toSt (e : Out) (s : St U) : Option (St U) := match e with | .normal => some s | _ => none
theorem run_code {c : Code} {σ σ' : St U} (hl : loopsOf c = []) (h : ev (R := St U) Fz (fun _ _ _ => none) c σ toSt = some σ') {X : Beg U} {a : Act} {w : World} {G : Gh} {Q : Exit → Act → World → Prop} (hR : Rel X σ a w G)
    (hQ : ∀ a' w' G', Rel X σ' a' w' G' → Q .normal a' w') : c.wp Try.prog Q a w := by
  obtain ⟨e, s, h1, h2⟩ := code_ok (P := Try.prog) uok Fz_sound (draw_ok uok Fz_sound mixed) _ c (by rw [hl]; exact all_nil) σ toSt σ' h
  unfold toSt at h1
  split at h1
  · cases h1
    exact h2 X a w G hR Q hQ
  · cases h1
noncomputable def c107 : Code := codeOf Try.f107
noncomputable def o107 (i : Nat) : Option Oper := (opsC (sqA (sqB c107)))[i]?
def argS (o : Option Oper) : Array Operand := match o with | some o => (match o.op with | .call r => r.args | _ => #[]) | none => #[]
set_option maxRecDepth 100000 in
theorem call112 {X : Beg U} {s : ByteArray} {c : Int} {σ : St U} {a : Act} {w : World} {G : Gh} {o : Oper} {ts : Array TypeId} (ho : o.op = .call { callee := .value (.func 112), args := #[.tmp 5, .tmp 6], argTypes := ts }) (hR : Rel X σ a w G) (h5 : σ.ev (.tmp 5) = .v (.c (.str s))) (h6 : σ.ev (.tmp 6) = .v (.c (.int .u8 c))) :
    (execOp a.eval o).run Try.prog w = .ok (.value (.int .i64 (Lib.indexByte s.data.toList c.toNat.toUInt8))) w := by
  have e5 := ev_ok hR (.tmp 5)
  have e6 := ev_ok hR (.tmp 6)
  rw [h5] at e5
  rw [h6] at e6
  have k5 := rep_str e5
  have k6 := rep_int e6
  have hx : (callFunc 112 #[.string s, .int .u8 c]).run Try.prog w = .ok (.value (.int .i64 (Lib.indexByte s.data.toList c.toNat.toUInt8))) w := by
    rw [run_callFunc_extern (P := Try.prog) (fn := Try.f112) (by kernel_rfl) (by kernel_rfl) (by kernel_rfl) (e := Extern.BytealgIndexByte.indexByte) (by kernel_rfl) (by kernel_rfl), Lib.run_indexByteString]
    rfl
  have hfv : a.eval (.func 112) = .func (.func 112) #[] #[] := rfl
  simp only [execOp, ho, resolve, hfv, Deferred.ofValue, invoke, Sem.run_bind, Sem.run_pure, Result.andThen_ok, List.map_toArray, List.map_cons, List.map_nil, k5, k6]
  simpa using hx
set_option maxRecDepth 100000 in
theorem snd107 : ∀ rest : Fn U R, SoundF Try.prog 107 rest → SoundF Try.prog 107 (e107 s107 rest) := by
  intro rest hr ds bx κ r h
  replace h : e107 s107 rest ds bx κ = some r := h
  unfold e107 ent at h
  split at h
  · rename_i x hx
    obtain ⟨e1, e2⟩ := rdA_ok hx
    obtain ⟨⟨s, c, _⟩, _⟩ := x
    replace h : κ (.v (.c (.int .i64 (Lib.indexByte s.data.toList c.toNat.toUInt8)))) [] = some r := h
    replace e1 : ds = [.v (.c (.str s)), .v (.c (.int .u8 c))] := e1
    replace e2 : bx = [] := e2
    subst e1; subst e2
    refine ⟨⟨Try.f107, by kernel_rfl, by kernel_rfl, by kernel_rfl⟩, ?_⟩
    refine fin_sound (P := Try.prog) (fn := Try.f107) (c := c107) (κ := κ) (r := r) (e := .ret) (bx := []) (σ := ⟨[.v (.c (.str s)), .v (.c (.int .u8 c)), .v (.c .undef), .v (.c .undef), .v (.c (.int .i64 (Lib.indexByte s.data.toList c.toNat.toUInt8))), .v (.c (.str s)), .v (.c (.int .u8 c)), .v (.c (.int .i64 (Lib.indexByte s.data.toList c.toNat.toUInt8)))], [], [], 0⟩) uok (by kernel_rfl) (by kernel_rfl) ?_ ?_ (.inr rfl)
    · intro X a w G hR Q hQ
      have hc : c107 = .seq (sqA c107) (.seq (sqA (sqB c107)) .ret) := by kernel_rfl
      rw [hc]
      refine wp_seq (run_code (σ' := ⟨[.v (.c (.str s)), .v (.c (.int .u8 c)), .v (.c .undef), .v (.c .undef), .v (.c (.int .i64 0)), .v (.c .undef), .v (.c .undef), .v (.c .undef)], [], [], 0⟩) (by kernel_rfl) (by kernel_rfl) hR (fun a w G hR => ?_))
      have hr : sqA (sqB c107) = .region 1 (opsC (sqA (sqB c107))) false := by kernel_rfl
      refine wp_seq ?_
      rw [hr]
      refine wp_region ?_
      have hs : List.range (opsC (sqA (sqB c107))).size = [0, 1, 2, 3] := by kernel_rfl
      rw [hs]
      refine ops_cons (o := (o107 0).getD default) (by kernel_rfl) (by kernel_rfl) (vstep (op := .move (.tmp 0)) (by kernel_rfl) move_ok hR (fun v hR => ?_))
      refine ops_cons (o := (o107 1).getD default) (by kernel_rfl) (by kernel_rfl) (vstep (op := .move (.tmp 1)) (by kernel_rfl) move_ok hR (fun v' hR => ?_))
      refine ops_cons (o := (o107 2).getD default) (by kernel_rfl) (by kernel_rfl) (wp_value (call112 (s := s) (c := c) (ts := #[9, 5]) (by kernel_rfl) hR (by kernel_rfl) (by kernel_rfl)) ?_)
      have hR := hR.put ((o107 2).getD default).dst (.v (.c (.int .i64 (Lib.indexByte s.data.toList c.toNat.toUInt8)))) (.int .i64 (Lib.indexByte s.data.toList c.toNat.toUInt8)) (rep_cell (RepP.int _ _))
      refine ops_cons (o := (o107 3).getD default) (by kernel_rfl) (by kernel_rfl) (vstep (op := .assign (.tmp 7)) (by kernel_rfl) assign_ok hR (fun v'' hR => ?_))
      simp only [wpOps]
      refine wp_ret (hQ _ _ G ?_)
      refine cast (congrArg (fun s => Rel X s _ w G) ?_) hR
      kernel_rfl
    · exact h
  · exact hr ds bx κ r h
noncomputable def c56 : Code := codeOf Try.f56
noncomputable def r1_56 : Code := sqA (sqA (sqB c56))
noncomputable def o56 (i : Nat) : Option Oper := (opsC r1_56)[i]?
theorem Rel.oneRow {X : Beg U} {s : List U.D} {b : List (List U.C)} {lk : Nat} {a : Act} {w : World} {G : Gh} (h : Rel X (⟨s, b, [], lk⟩ : St U) a w G) : Rel X (⟨s, b, [none], lk⟩ : St U) a w G :=
  { h with
    row := fun r R hr => by match r with | 0 => simp at hr | r + 1 => simp at hr
    rdom := fun r v hr => by obtain ⟨R, h1⟩ := h.rdom r v hr; simp at h1 }
set_option maxRecDepth 100000 in
theorem snd56 : ∀ rest : Fn U R, SoundF Try.prog 56 rest → SoundF Try.prog 56 (e56 s56 rest) := by
  intro rest hr ds bx κ r h
  replace h : e56 s56 rest ds bx κ = some r := h
  unfold e56 ent at h
  split at h
  · rename_i x hx
    obtain ⟨e1, e2⟩ := rdA_ok hx
    obtain ⟨⟨l, _⟩, _⟩ := x
    have hk : decide (([] : List Int).length + l.length ≤ 140737488355328) = true := by
      cases hd : decide (([] : List Int).length + l.length ≤ 140737488355328) with
      | true => rfl
      | false => replace h : (when_ (decide (([] : List Int).length + l.length ≤ 140737488355328)) (some l)).bind (fun r => κ (.v (.c (.sl 5 r))) []) = some r := h; rw [hd] at h; cases h
    replace h : (when_ (decide (([] : List Int).length + l.length ≤ 140737488355328)) (some l)).bind (fun r => κ (.v (.c (.sl 5 r))) []) = some r := h
    rw [hk] at h
    replace h : κ (.v (.c (.sl 5 l))) [] = some r := h
    replace e1 : ds = [.v (.c (.sl 5 l))] := e1
    replace e2 : bx = [] := e2
    subst e1; subst e2
    refine ⟨⟨Try.f56, by kernel_rfl, by kernel_rfl, by kernel_rfl⟩, ?_⟩
    refine fin_sound (P := Try.prog) (fn := Try.f56) (c := c56) (κ := κ) (r := r) (e := .ret) (bx := []) (σ := ⟨[.v (.c (.sl 5 l)), .v (.c .undef), .v (.c (.sl 5 l)), .v (.c .undef), .v (.c .undef), .v (.c .undef), .v (.c .undef), .v (.c .undef)], [], [none], 0⟩) uok (by kernel_rfl) (by kernel_rfl) ?_ ?_ (.inr rfl)
    · intro X a w G hR Q hQ
      have hc : c56 = .seq (sqA c56) (.seq (.seq r1_56 (.cond (.tmp 4) (thenC (sqB (sqA (sqB c56)))) .skip)) (sqB (sqB c56))) := by kernel_rfl
      rw [hc]
      refine wp_seq (run_code (σ' := ⟨[.v (.c (.sl 5 l)), .v (.c .undef), .v (.c .nils), .v (.c .undef), .v (.c .undef), .v (.c .undef), .v (.c .undef), .v (.c .undef)], [], [], 0⟩) (by kernel_rfl) (by kernel_rfl) hR (fun a w G hR => ?_))
      refine wp_seq (wp_seq ?_)
      have hr : r1_56 = .region 1 (opsC r1_56) false := by kernel_rfl
      rw [hr]
      refine wp_region ?_
      have hs : List.range (opsC r1_56).size = [0, 1] := by kernel_rfl
      rw [hs]
      refine ops_cons (o := (o56 0).getD default) (by kernel_rfl) (by kernel_rfl) (vstep (op := .move (.tmp 0)) (by kernel_rfl) move_ok hR (fun v hR => ?_))
      have hR : Rel X (⟨[.v (.c (.sl 5 l)), .v (.c .undef), .v (.c .nils), .v (.c (.sl 5 l)), .v (.c .undef), .v (.c .undef), .v (.c .undef), .v (.c .undef)], [], [], 0⟩ : St U) (a.put ((o56 0).getD default).dst v) w G := cast (congrArg (fun s => Rel X s _ w G) (by kernel_rfl)) hR
      revert hR
      generalize a.put ((o56 0).getD default).dst v = a1
      intro hR
      have e3 := ev_ok hR (.tmp 3)
      replace e3 : RepD w G (.v (.c (.sl 5 l)) : U.D) (a1.eval (.tmp 3)) := e3
      have e4 : RepP w G.fz (.sl 5 l : U.C) (a1.eval (.tmp 3)) := e3.1
      have hv3 : ∃ ad c, a1.eval (.tmp 3) = .slice ad l.length c ∧ (ad = none → l = []) := by
        revert e4
        generalize a1.eval (.tmp 3) = v3
        intro e4
        cases e4 with
        | sl T l a c f hc ha hf =>
          refine ⟨a, c, rfl, fun e => ?_⟩
          subst e
          cases l with
          | nil => rfl
          | cons y ys => obtain ⟨ad, h1, _⟩ := ha (by simp); cases h1
      obtain ⟨ad, c, hv3, hnil⟩ := hv3
      have hrun : (execOp a1.eval ((o56 1).getD default)).run Try.prog w = .ok (.value (.bool ad.isNone)) w := by
        have ho : ((o56 1).getD default).op = .binOp .eql 22 (.tmp 3) (.const (.slice none 0 0)) 22 := by kernel_rfl
        have hc : a1.eval (.const (.slice none 0 0)) = .slice none 0 0 := rfl
        have hg : (eqGuard .eql 22 (.tmp 3) (.const (.slice none 0 0)) (.slice ad l.length c) (.slice none 0 0)).run Try.prog w = .ok () w := guard_ok (by simp) (by simp)
        have hb := Lib.run_eql_slice_nil (P := Try.prog) w 22 5 ad l.length c 0 0 (by kernel_rfl)
        simp [execOp, ho, hv3, hc, hg, hb]
      refine ops_cons (o := (o56 1).getD default) (by kernel_rfl) (by kernel_rfl) (wp_value hrun ?_)
      have hR := hR.put ((o56 1).getD default).dst (.v (.c (.bool ad.isNone))) (.bool ad.isNone) (rep_cell (RepP.bool _))
      have hR : Rel X (⟨[.v (.c (.sl 5 l)), .v (.c .undef), .v (.c .nils), .v (.c (.sl 5 l)), .v (.c (.bool ad.isNone)), .v (.c .undef), .v (.c .undef), .v (.c .undef)], [], [], 0⟩ : St U) (a1.put ((o56 1).getD default).dst (.bool ad.isNone)) w G := cast (congrArg (fun s => Rel X s _ w G) (by kernel_rfl)) hR
      revert hR
      generalize a1.put ((o56 1).getD default).dst (.bool ad.isNone) = a2
      intro hR
      have e5 := ev_ok hR (.tmp 4)
      have e6 : a2.eval (.tmp 4) = .bool ad.isNone := rep_bool (b := ad.isNone) e5
      show (Code.cond (.tmp 4) (thenC (sqB (sqA (sqB c56)))) .skip).wp Try.prog _ a2 w
      cases ad with
      | none =>
        obtain rfl := hnil rfl
        refine wp_cond_true e6 ?_
        have ht : thenC (sqB (sqA (sqB c56))) = .seq (sqA (thenC (sqB (sqA (sqB c56))))) .ret := by kernel_rfl
        rw [ht]
        refine wp_seq (run_code (σ' := ⟨[.v (.c (.sl 5 [])), .v (.c .undef), .v (.c .nils), .v (.c (.sl 5 [])), .v (.c (.bool true)), .v (.c .undef), .v (.c .undef), .v (.c .undef)], [], [], 0⟩) (by kernel_rfl) (by kernel_rfl) hR (fun a w G hR => ?_))
        refine wp_ret ?_
        obtain ⟨G', hR'⟩ := wds_ok [.sl (.s 2) 5, .drop 3, .drop 4] _ _ (⟨[.v (.c (.sl 5 [])), .v (.c .undef), .v (.c (.sl 5 [])), .v (.c .undef), .v (.c .undef), .v (.c .undef), .v (.c .undef), .v (.c .undef)], [], [], 0⟩ : St U) hR (by kernel_rfl)
        exact hQ _ _ G' hR'.oneRow
      | some ad =>
        refine wp_cond_false e6 (wp_skip ?_)
        have ht : sqB (sqB c56) = .seq (sqA (sqB (sqB c56))) .ret := by kernel_rfl
        show (sqB (sqB c56)).wp Try.prog _ _ _
        rw [ht]
        refine wp_seq (run_code (σ' := ⟨[.v (.c (.sl 5 l)), .v (.c .undef), .v (.c (.own 5 0)), .v (.c (.sl 5 l)), .v (.c (.bool false)), .v (.c .undef), .v (.c (.sl 5 l)), .v (.c (.own 5 0))], [], [some ⟨5, [] ++ l⟩], 0⟩) (by kernel_rfl) ?_ hR (fun a w G hR => ?_))
        · refine Eq.trans (b := when_ (decide (([] : List Int).length + l.length ≤ 140737488355328)) (some (⟨[.v (.c (.sl 5 l)), .v (.c .undef), .v (.c (.own 5 0)), .v (.c (.sl 5 l)), .v (.c (.bool false)), .v (.c .undef), .v (.c (.sl 5 l)), .v (.c (.own 5 0))], [], [some ⟨5, [] ++ l⟩], 0⟩ : St U))) (by kernel_rfl) ?_
          rw [hk]
          rfl
        · refine wp_ret ?_
          obtain ⟨G', hR'⟩ := wds_ok [.frz 0, .drop 3, .drop 4, .drop 6, .drop 7] _ _ (⟨[.v (.c (.sl 5 l)), .v (.c .undef), .v (.c (.sl 5 l)), .v (.c .undef), .v (.c .undef), .v (.c .undef), .v (.c .undef), .v (.c .undef)], [], [none], 0⟩ : St U) hR (by kernel_rfl)
          exact hQ _ _ G' hR'
    · exact h
  · exact hr ds bx κ r h
end
end Go.Proofs.Ytogfofcocidmkaa.Ev
