/- The plain functions, read: the relation has one answer. -/
import Derived.Test.YtogfofcocidmkaaPuG
set_option linter.unusedVariables false
set_option linter.unusedSimpArgs false
namespace Go.Proofs.Ytogfofcocidmkaa.Pu
open Go.RowKit Go.Proofs Ev
section
variable {b : List Int} {l : List S51}
theorem eqs_two {x s t : ByteArray} (h1 : eqs x s = true) (h2 : eqs x t = true) : s = t := ((eqs_iff _ _).1 h1).symm.trans ((eqs_iff _ _).1 h2)
theorem Bs.det {nt : NT} {i d : Nat} {r : S27 × Int × Nat} (h : Bs b l nt i d r) : ∀ {r' : S27 × Int × Nat}, Bs b l nt i d r' → r = r' := by
  induction h with
  | bin6 h ih => intro r' h'; cases h' with
    | bin6 k => exact ih k
    | binE hl k he => omega
    | bin hl k k2 => omega
  | binE hl h he ih => intro r' h'; cases h' with
    | bin6 k => omega
    | binE _ k _ => have := ih k; simp_all
    | bin _ k k2 => have := ih k; simp_all
  | bin hl h h2 ih ih2 => intro r' h'; cases h' with
    | bin6 k => omega
    | binE _ k _ => have := ih k; simp_all
    | bin _ k k2 =>
      have e := ih k
      simp only [Prod.mk.injEq, true_and] at e
      obtain ⟨rfl, rfl⟩ := e
      have e := ih2 k2
      simp only [Prod.mk.injEq] at e
      obtain ⟨rfl, rfl, rfl⟩ := e
      rfl
  | blN h => intro r' h'; cases h' <;> simp_all
  | blE h h2 he ih => intro r' h'; cases h' with
    | blN k => exact absurd h k
    | blE _ k _ => have := ih k; simp_all
    | blH _ k _ => have := ih k; simp_all
    | bl _ k _ _ => have := ih k; simp_all
  | blH h h2 hh ih => intro r' h'; cases h' with
    | blN k => exact absurd h k
    | blE _ k _ => have := ih k; simp_all
    | blH _ k _ => rfl
    | bl _ k k2 _ =>
      have e := ih k
      simp only [Prod.mk.injEq, true_and] at e
      obtain ⟨rfl, rfl⟩ := e
      exact absurd hh k2
  | bl h h2 hh h3 ih ih2 => intro r' h'; cases h' with
    | blN k => exact absurd h k
    | blE _ k _ => have := ih k; simp_all
    | blH _ k k2 =>
      have e := ih k
      simp only [Prod.mk.injEq, true_and] at e
      obtain ⟨rfl, rfl⟩ := e
      exact absurd k2 hh
    | bl _ k _ k2 =>
      have e := ih k
      simp only [Prod.mk.injEq, true_and] at e
      obtain ⟨rfl, rfl⟩ := e
      exact ih2 k2
  | sigN h1 h2 h ih => intro r' h'; cases h' with
    | sigN _ _ k => exact ih k
    | sigD k _ => simp_all
    | sigE k _ _ _ => simp_all
    | sig k _ _ => simp_all
  | sigD h1 hd => intro r' h'; cases h' with
    | sigN k k2 _ => simp_all
    | sigD _ _ => rfl
    | sigE _ k _ _ => exact absurd hd k
    | sig _ k _ => exact absurd hd k
  | sigE h1 hd h he ih => intro r' h'; cases h' with
    | sigN k k2 _ => simp_all
    | sigD _ k => exact absurd k hd
    | sigE _ _ k _ => have := ih k; simp_all
    | sig _ _ k => have := ih k; simp_all
  | sig h1 hd h ih => intro r' h'; cases h' with
    | sigN k k2 _ => simp_all
    | sigD _ k => exact absurd k hd
    | sigE _ _ k _ => have := ih k; simp_all
    | sig _ _ k => have := ih k; simp_all
  | num hk h => intro r' h'; cases h' <;> simp_all
  | numE hk h => intro r' h'; cases h' <;> simp_all
  | tru hk h => intro r' h'; cases h' with
    | num k _ => exact absurd k hk
    | numE k _ => exact absurd k hk
    | tru _ _ => rfl
    | fls _ k => exact absurd (eqs_two h k) (by decide +kernel)
    | pgr _ k _ => exact absurd (eqs_two h k) (by decide +kernel)
    | pop _ k _ => exact absurd (eqs_two h k) (by decide +kernel)
    | pnm _ k _ _ _ _ => rw [h] at k; cases k
  | fls hk h => intro r' h'; cases h' with
    | num k _ => exact absurd k hk
    | numE k _ => exact absurd k hk
    | tru _ k => exact absurd (eqs_two h k) (by decide +kernel)
    | fls _ _ => rfl
    | pgr _ k _ => exact absurd (eqs_two h k) (by decide +kernel)
    | pop _ k _ => exact absurd (eqs_two h k) (by decide +kernel)
    | pnm _ _ k _ _ _ => rw [h] at k; cases k
  | pgr hk h h2 ih => intro r' h'; cases h' with
    | num k _ => exact absurd k hk
    | numE k _ => exact absurd k hk
    | tru _ k => exact absurd (eqs_two h k) (by decide +kernel)
    | fls _ k => exact absurd (eqs_two h k) (by decide +kernel)
    | pgr _ _ k => exact ih k
    | pop _ k _ => exact absurd (eqs_two h k) (by decide +kernel)
    | pnm _ _ _ k _ _ => rw [h] at k; cases k
  | pop hk h h2 ih => intro r' h'; cases h' with
    | num k _ => exact absurd k hk
    | numE k _ => exact absurd k hk
    | tru _ k => exact absurd (eqs_two h k) (by decide +kernel)
    | fls _ k => exact absurd (eqs_two h k) (by decide +kernel)
    | pgr _ k _ => exact absurd (eqs_two h k) (by decide +kernel)
    | pop _ _ k => exact ih k
    | pnm _ _ _ _ k _ => rw [h] at k; cases k
  | pnm hk h1 h2 h3 h4 h ih => intro r' h'; cases h' with
    | num k _ => exact absurd k hk
    | numE k _ => exact absurd k hk
    | tru _ k => rw [h1] at k; cases k
    | fls _ k => rw [h2] at k; cases k
    | pgr _ k _ => rw [h3] at k; cases k
    | pop _ k _ => rw [h4] at k; cases k
    | pnm _ _ _ _ _ k => exact ih k
  | grD ht hd => intro r' h'; cases h' with
    | grD _ _ => rfl
    | grE _ k _ _ => exact absurd hd k
    | grP _ k _ _ => exact absurd hd k
    | grp _ k _ _ => exact absurd hd k
  | grE ht hd h he ih => intro r' h'; cases h' with
    | grD _ k => exact absurd k hd
    | grE _ _ k _ => have := ih k; simp_all
    | grP _ _ k _ => have := ih k; simp_all
    | grp _ _ k _ => have := ih k; simp_all
  | grP ht hd h h2 ih => intro r' h'; cases h' with
    | grD _ k => exact absurd k hd
    | grE _ _ k _ => have := ih k; simp_all
    | grP _ _ k _ => have := ih k; simp_all
    | grp _ _ k _ => have := ih k; simp_all
  | grp ht hd h h2 ih => intro r' h'; cases h' with
    | grD _ k => exact absurd k hd
    | grE _ _ k _ => have := ih k; simp_all
    | grP _ _ k _ => have := ih k; simp_all
    | grp _ _ k _ => have := ih k; simp_all
  | op1 ht h => intro r' h'; cases h' <;> simp_all
  | opD ht h hd => intro r' h'; cases h' <;> first | rfl | (exfalso; simp_all; done) | (rename_i k _ _; exact absurd hd k) | (simp_all; omega)
  | opE ht h hd h2 he ih => intro r' h'; cases h' with
    | op1 _ k => simp_all
    | opD _ _ k => exact absurd k hd
    | opE _ _ _ k _ => have := ih k; simp_all
    | op2 _ _ _ k _ => have := ih k; simp_all
    | op3 _ _ _ k _ _ => have := ih k; simp_all
    | op4 _ _ _ k _ _ _ => have := ih k; simp_all
    | op5 _ _ _ k _ _ _ _ => have := ih k; simp_all
    | opn _ _ _ k _ _ _ _ => have := ih k; simp_all
  | op2 ht h hd h2 h3 ih => intro r' h'; cases h' with
    | op1 _ k => simp_all
    | opD _ _ k => exact absurd k hd
    | opE _ _ _ k _ => have := ih k; simp_all
    | op2 _ _ _ k _ => have := ih k; simp_all
    | op3 _ _ _ k _ _ => have := ih k; simp_all
    | op4 _ _ _ k _ _ _ => have := ih k; simp_all
    | op5 _ _ _ k _ _ _ _ => have := ih k; simp_all
    | opn _ _ _ k _ _ _ _ => have := ih k; simp_all
  | op3 ht h hd h2 h3 h4 ih => intro r' h'; cases h' with
    | op1 _ k => simp_all
    | opD _ _ k => exact absurd k hd
    | opE _ _ _ k _ => have := ih k; simp_all
    | op2 _ _ _ k _ => have := ih k; simp_all
    | op3 _ _ _ k _ _ => have := ih k; simp_all
    | op4 _ _ _ k _ _ _ => have := ih k; simp_all
    | op5 _ _ _ k _ _ _ _ => have := ih k; simp_all
    | opn _ _ _ k _ _ _ _ => have := ih k; simp_all
  | op4 ht h hd h2 h3 h4 h5 ih => intro r' h'; cases h' with
    | op1 _ k => simp_all
    | opD _ _ k => exact absurd k hd
    | opE _ _ _ k _ => have := ih k; simp_all
    | op2 _ _ _ k _ => have := ih k; simp_all
    | op3 _ _ _ k _ _ => have := ih k; simp_all
    | op4 _ _ _ k _ _ _ => have := ih k; simp_all
    | op5 _ _ _ k _ _ _ _ => have := ih k; simp_all
    | opn _ _ _ k _ _ _ _ => have := ih k; simp_all
  | op5 ht h hd h2 h3 h4 h5 h6 ih => intro r' h'; cases h' with
    | op1 _ k => simp_all
    | opD _ _ k => exact absurd k hd
    | opE _ _ _ k _ => have := ih k; simp_all
    | op2 _ _ _ k _ => have := ih k; simp_all
    | op3 _ _ _ k _ _ => have := ih k; simp_all
    | op4 _ _ _ k _ _ _ => have := ih k; simp_all
    | op5 _ _ _ k _ _ _ _ => have := ih k; simp_all
    | opn _ _ _ k _ _ _ _ => have := ih k; simp_all
  | opn ht h hd h2 h3 h4 h5 h6 ih => intro r' h'; cases h' with
    | op1 _ k => simp_all
    | opD _ _ k => exact absurd k hd
    | opE _ _ _ k _ => have := ih k; simp_all
    | op2 _ _ _ k _ => have := ih k; simp_all
    | op3 _ _ _ k _ _ => have := ih k; simp_all
    | op4 _ _ _ k _ _ _ => have := ih k; simp_all
    | op5 _ _ _ k _ _ _ _ => have := ih k; simp_all
    | opn _ _ _ k _ _ _ _ => have := ih k; simp_all
  | nm0 h => intro r' h'; cases h' <;> simp_all
  | nm1 h h2 h3 => intro r' h'; cases h' <;> simp_all
  | nmV h hx h2 => intro r' h'; cases h' with
    | nm0 k => simp_all
    | nm1 _ k k2 => rcases hx with ⟨a1, a2, a3, a4⟩ | ⟨a1, a3, a4⟩ <;> simp_all
    | nmV _ k _ => rcases hx with ⟨a1, a2, rfl, rfl⟩ | ⟨a1, rfl, rfl⟩ <;> rcases k with ⟨c1, c2, rfl, rfl⟩ | ⟨c1, rfl, rfl⟩ <;> simp_all
    | nmD _ k _ _ => rcases hx with ⟨a1, a2, rfl, rfl⟩ | ⟨a1, rfl, rfl⟩ <;> rcases k with ⟨c1, c2, rfl, rfl⟩ | ⟨c1, rfl, rfl⟩ <;> simp_all
    | nmE _ k _ _ _ _ => rcases hx with ⟨a1, a2, rfl, rfl⟩ | ⟨a1, rfl, rfl⟩ <;> rcases k with ⟨c1, c2, rfl, rfl⟩ | ⟨c1, rfl, rfl⟩ <;> simp_all
    | nam _ k _ _ _ => rcases hx with ⟨a1, a2, rfl, rfl⟩ | ⟨a1, rfl, rfl⟩ <;> rcases k with ⟨c1, c2, rfl, rfl⟩ | ⟨c1, rfl, rfl⟩ <;> simp_all
  | nmD h hx h2 hd => intro r' h'; cases h' with
    | nm0 k => simp_all
    | nm1 _ k k2 => rcases hx with ⟨a1, a2, a3, a4⟩ | ⟨a1, a3, a4⟩ <;> simp_all
    | nmV _ k _ => rcases hx with ⟨a1, a2, rfl, rfl⟩ | ⟨a1, rfl, rfl⟩ <;> rcases k with ⟨c1, c2, rfl, rfl⟩ | ⟨c1, rfl, rfl⟩ <;> simp_all
    | nmD _ k _ _ => rcases hx with ⟨a1, a2, rfl, rfl⟩ | ⟨a1, rfl, rfl⟩ <;> rcases k with ⟨c1, c2, rfl, rfl⟩ | ⟨c1, rfl, rfl⟩ <;> simp_all
    | nmE _ _ _ k _ _ => exact absurd hd k
    | nam _ _ _ k _ => exact absurd hd k
  | nmE h hx h2 hd h3 he ih => intro r' h'; cases h' with
    | nm0 k => simp_all
    | nm1 _ k k2 => rcases hx with ⟨a1, a2, a3, a4⟩ | ⟨a1, a3, a4⟩ <;> simp_all
    | nmV _ k _ => rcases hx with ⟨a1, a2, rfl, rfl⟩ | ⟨a1, rfl, rfl⟩ <;> rcases k with ⟨c1, c2, rfl, rfl⟩ | ⟨c1, rfl, rfl⟩ <;> simp_all
    | nmD _ _ _ k => exact absurd k hd
    | nmE _ k _ _ k3 _ =>
      rcases hx with ⟨a1, a2, rfl, rfl⟩ | ⟨a1, rfl, rfl⟩ <;> rcases k with ⟨c1, c2, rfl, rfl⟩ | ⟨c1, rfl, rfl⟩ <;> first | (have := ih k3; simp_all; done) | simp_all
    | nam _ k _ _ k3 =>
      rcases hx with ⟨a1, a2, rfl, rfl⟩ | ⟨a1, rfl, rfl⟩ <;> rcases k with ⟨c1, c2, rfl, rfl⟩ | ⟨c1, rfl, rfl⟩ <;> first | (have := ih k3; simp_all; done) | simp_all
  | nam h hx h2 hd h3 ih => intro r' h'; cases h' with
    | nm0 k => simp_all
    | nm1 _ k k2 => rcases hx with ⟨a1, a2, a3, a4⟩ | ⟨a1, a3, a4⟩ <;> simp_all
    | nmV _ k _ => rcases hx with ⟨a1, a2, rfl, rfl⟩ | ⟨a1, rfl, rfl⟩ <;> rcases k with ⟨c1, c2, rfl, rfl⟩ | ⟨c1, rfl, rfl⟩ <;> simp_all
    | nmD _ _ _ k => exact absurd k hd
    | nmE _ k _ _ k3 _ =>
      rcases hx with ⟨a1, a2, rfl, rfl⟩ | ⟨a1, rfl, rfl⟩ <;> rcases k with ⟨c1, c2, rfl, rfl⟩ | ⟨c1, rfl, rfl⟩ <;> first | (have := ih k3; simp_all; done) | simp_all
    | nam _ k _ _ k3 =>
      rcases hx with ⟨a1, a2, rfl, rfl⟩ | ⟨a1, rfl, rfl⟩ <;> rcases k with ⟨c1, c2, rfl, rfl⟩ | ⟨c1, rfl, rfl⟩ <;> first | (have := ih k3; simp_all; done) | simp_all
  | alN h => intro r' h'; cases h' <;> simp_all
  | alC h ha h2 => intro r' h'; cases h' with
    | alN k => simp_all
    | alC _ _ _ => rfl
    | alE _ k _ _ => rcases k with ⟨c1, _⟩ | ⟨_, c2, _⟩ <;> simp_all
    | al _ k _ _ => rcases k with ⟨c1, _⟩ | ⟨_, c2, _⟩ <;> simp_all
  | alE h hk h3 he ih => intro r' h'; cases h' with
    | alN k => simp_all
    | alC _ k k2 => rcases hk with ⟨c1, _⟩ | ⟨_, c2, _⟩ <;> simp_all
    | alE _ k k3 _ =>
      rcases hk with ⟨a1, rfl⟩ | ⟨a1, a2, rfl⟩ <;> rcases k with ⟨c1, rfl⟩ | ⟨c1, c2, rfl⟩ <;> first | (have := ih k3; simp_all; done) | (exact absurd a1 c1) | (exact absurd c1 a1)
    | al _ k k3 _ =>
      rcases hk with ⟨a1, rfl⟩ | ⟨a1, a2, rfl⟩ <;> rcases k with ⟨c1, rfl⟩ | ⟨c1, c2, rfl⟩ <;> first | (have := ih k3; simp_all; done) | (exact absurd a1 c1) | (exact absurd c1 a1)
  | al h hk h3 h4 ih ih2 => intro r' h'; cases h' with
    | alN k => simp_all
    | alC _ k k2 => rcases hk with ⟨c1, _⟩ | ⟨_, c2, _⟩ <;> simp_all
    | alE _ k k3 _ =>
      rcases hk with ⟨a1, rfl⟩ | ⟨a1, a2, rfl⟩ <;> rcases k with ⟨c1, rfl⟩ | ⟨c1, c2, rfl⟩ <;> first | (have := ih k3; simp_all; done) | (exact absurd a1 c1) | (exact absurd c1 a1)
    | al _ k k3 k4 =>
      rcases hk with ⟨a1, rfl⟩ | ⟨a1, a2, rfl⟩ <;> rcases k with ⟨c1, rfl⟩ | ⟨c1, c2, rfl⟩
      · have e := ih k3
        simp only [Prod.mk.injEq, true_and] at e
        obtain ⟨rfl, rfl⟩ := e
        exact ih2 k4
      · exact absurd a1 c1
      · exact absurd c1 a1
      · have e := ih k3
        simp only [Prod.mk.injEq, true_and] at e
        obtain ⟨rfl, rfl⟩ := e
        exact ih2 k4
end
end Go.Proofs.Ytogfofcocidmkaa.Pu
