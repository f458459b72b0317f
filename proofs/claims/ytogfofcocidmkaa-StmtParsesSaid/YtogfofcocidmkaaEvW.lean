/- EV (ours), part W: a table of functions is sound. -/
import Derived.Test.YtogfofcocidmkaaEvT
import Derived.Test.YtogfofcocidmkaaEvR
set_option linter.unusedVariables false
namespace Go.Proofs.Ytogfofcocidmkaa.Ev
open Go.RowKit
section
variable {U : Uni} {P : Program}
theorem table_sound (hU : UOk P U) (hm : P.follows .mixedOrders = true) {R : Type} (T : Nat → Nat → Fn U R) (sp : Nat → Prop) (hsp : ∀ n g, sp g → Sound P (T n) g) (h0 : ∀ g ds bx κ, ¬ sp g → T 0 g ds bx κ = none)
    (hS : ∀ n g ds bx κ r, ¬ sp g → T (n + 1) g ds bx κ = some r → ∃ fn L, P.funcs[g]? = some fn ∧ (fn.name == "runtime.NumGoroutine") = false ∧ evFn (T n) L (U.ro g) (U.rnew g) fn ds bx κ = some r ∧ ((∀ g, Sound P (T n) g) → DrawOk P (T n) → ∀ c, fn.body = some c → ∀ c' ∈ loopsOf c, LoopOk P L c')) : ∀ n g, Sound P (T n) g := by
  intro n
  induction n with
  | zero =>
    intro g
    by_cases h : sp g
    · exact hsp 0 g h
    · intro ds bx κ r hr
      rw [h0 g ds bx κ h] at hr
      cases hr
  | succ n ih =>
    intro g
    by_cases h : sp g
    · exact hsp (n + 1) g h
    · intro ds bx κ r hr
      obtain ⟨fn, L, h1, h2, h3, h4⟩ := hS n g ds bx κ r h hr
      have hD := draw_ok hU ih hm
      exact fn_sound hU ih hD (h4 ih hD) h1 h2 h3
/-- What a function of the table calls: those of a lower rank as they are, the others with one round less. -/
def below {U : Uni} {R : Type} (T : Nat → Nat → Fn U R) (rk : Nat → Nat) (n g : Nat) : Nat → Fn U R := fun h =>
  bif Nat.blt (rk h) (rk g) then T n h else match n with | 0 => fun _ _ _ => none | m + 1 => T m h
theorem ranked_sound (hU : UOk P U) (hm : P.follows .mixedOrders = true) {R : Type} (T : Nat → Nat → Fn U R) (rk : Nat → Nat) (sp : Nat → Prop) (hsp : ∀ n g, sp g → Sound P (T n) g)
    (hS : ∀ n g ds bx κ r, ¬ sp g → T n g ds bx κ = some r → ∃ fn L, P.funcs[g]? = some fn ∧ (fn.name == "runtime.NumGoroutine") = false ∧ evFn (below T rk n g) L (U.ro g) (U.rnew g) fn ds bx κ = some r ∧
      ((∀ h, Sound P (below T rk n g) h) → DrawOk P (below T rk n g) → ∀ c, fn.body = some c → ∀ c' ∈ loopsOf c, LoopOk P L c')) : ∀ n g, Sound P (T n) g := by
  intro n
  induction n using Nat.strongRecOn with
  | _ n ihn =>
    have key : ∀ k g, rk g < k → Sound P (T n) g := by
      intro k
      induction k with
      | zero => intro g hg; omega
      | succ k ih =>
        intro g hg
        by_cases h : sp g
        · exact hsp n g h
        · have hF : ∀ h, Sound P (below T rk n g) h := by
            intro h ds bx κ r hr
            unfold below at hr
            cases hb : Nat.blt (rk h) (rk g) with
            | true =>
              rw [hb] at hr
              have hlt : rk h < rk g := Nat.le_of_ble_eq_true hb
              exact ih h (by omega) ds bx κ r hr
            | false =>
              rw [hb] at hr
              simp only [cond_false] at hr
              cases n with
              | zero => cases hr
              | succ m => exact ihn m (by omega) h ds bx κ r hr
          intro ds bx κ r hr
          obtain ⟨fn, L, h1, h2, h3, h4⟩ := hS n g ds bx κ r h hr
          have hD := draw_ok hU hF hm
          exact fn_sound hU hF hD (h4 hF hD) h1 h2 h3
    intro g
    exact key (rk g + 1) g (by omega)
end
#print axioms table_sound
#print axioms ranked_sound
end Go.Proofs.Ytogfofcocidmkaa.Ev
