/- The statement StmtNilSaid of this seat: for every input the law returns true, and each argument reads as it did. No condition. -/
import Derived.Test.YtogfofcocidmkaaRows
import Derived.Test.YtogfofcocidmkaaEvLw
import Derived.Test.YtogfofcocidmkaaEvSn
import Derived.Test.YtogfofcocidmkaaPureStmtNil
import Derived.WalkKit
import Derived.ProofKit
import Derived.OpenShut
import Derived.ShutString
import Derived.ChangeOld
import Derived.Below
import Derived.SizedLaws
import Derived.KernelRfl
namespace Go.Proofs.Ytogfofcocidmkaa.stmtNil
open Go.ChangeShapes Go.WideShapes Go.ChangeAt Go.RowKit
open Go.ChangeMaps (open_string shut_string)
open Go.Proofs
set_option linter.unusedVariables false
theorem own : ownKnob Try.prog.godebug = none := by kernel_rfl
theorem un3 : Try.prog.underlying 3 = some (.int .i64) := by kernel_rfl
theorem un4 : Try.prog.underlying 4 = some (.bool) := by kernel_rfl
set_option maxRecDepth 100000 in
theorem lifted (os : Os) (started : os.Started) (H : Type) (enc : TypeId × Value → H) :
    ReturnsInHanded {} Try.checked os 11 .any (Rows.stmtNilSpec.pre6 enc Try.prog Try.f11 Rows.stmtNilRow.domain false) (Rows.stmtNilSpec.post enc Try.prog Try.f11 false true false false) := by
  refine returnsInHanded_of_change_sized (C := Try.checked) own started (by kernel_rfl) (show Try.prog.funcs[11]? = some Try.f11 by kernel_rfl)
    (ChangeSpec.witness6 (enc := enc) (C := Try.checked) false ⟨#[], #[.int .i64 0], []⟩ 8 (by kernel_rfl) (by kernel_rfl) (by kernel_rfl) (by kernel_rfl)) ?_
  intro W base args ds gs before hval0 hW hcnd hsz0 _
  have hval : ∀ (j : Nat) t v, Try.f11.params[j]? = some t → args[j]? = some v → Value.okWide Try.prog W .any base t v := hval0
  have hW' := hW
  obtain ⟨p, q, hA0, hV, rfl, hfz, hnd⟩ := hW
  have hA : DataW.TrodAll enc Try.prog W 0 (fun _ => true) true Try.f11.params.toList args.toList ds p := hA0
  have hP : Try.f11.params = #[3] := by kernel_rfl
  rw [hP] at hA hval
  obtain ⟨v0, vs0, d0, ds0, p0, q0, hargs, rfl, rfl, h0, r0⟩ := trodAll_cons hA
  obtain ⟨rfl, rfl, rfl⟩ := trodAll_nil r0
  obtain rfl : args = #[v0] := by cases args; simp_all
  obtain ⟨rfl, rfl⟩ := trodVars_none hV
  obtain ⟨a0, rfl, rfl, rfl, w0⟩ := open_int un3 (hval 0 3 v0 rfl rfl) h0
  clear hA0 hval0 hsz0
  have hpure : Ev.s11 a0 = some true := pure_holds a0 w0
  refine (Ev.law_calls (P := Try.prog) (g := 11) (Ev.snd11 (Ev.Fz 11) Ev.fz_sound) (ds := [.v (.c (.int .i64 a0))]) (vs := [.int .i64 a0]) ?_ W (Ev.entry_cons (fun G hG => Ev.arg_int _ _) (Ev.entry_nil W))).mono fun e W' ⟨he, bel⟩ => ?_
  · show ((Ev.s11 a0).bind fun r => some ((.v (.c (.bool r)) : Ev.U.D), ([] : List (List Ev.U.C)))) = _
    rw [hpure]
    rfl
  subst he
  exact ⟨_, rfl, _, _, _, [], _, [], hW', trodAll_mk1 (shut_bool un4 _), (trodAll_cons_mk (shut_int un3 w0) trodAll_mk0), rfl, bel.frame _, fun h => by cases h⟩
theorem over : Rows.stmtNilRow.holds Try.pinned (OpenSpec.ofChange Rows.stmtNilSpec) :=
  OpenClaim.holds_of_wide 11 Try.f11 rfl rfl rfl rfl rfl rfl rfl ⟨rfl, rfl, rfl, rfl, rfl⟩ rfl rfl rfl rfl rfl (by kernel_rfl) (show Try.prog.funcs[11]? = some Try.f11 by kernel_rfl) (by kernel_rfl)
    (of_decide_eq_true (by kernel_rfl)) (by unfold Func.isWrapper; first | (rw [if_pos (by decide +kernel)]; kernel_rfl) | (rw [if_neg (by decide +kernel)]; exact ⟨rfl, rfl⟩))
    (fun os started H enc _ => lifted os started H enc)
theorem proved : Rows.StmtNilSaid := over
end Go.Proofs.Ytogfofcocidmkaa.stmtNil
namespace Go.Proofs.Ytogfofcocidmkaa
theorem stmtNil_holds : Rows.StmtNilSaid := stmtNil.proved
#print axioms stmtNil_holds
end Go.Proofs.Ytogfofcocidmkaa

