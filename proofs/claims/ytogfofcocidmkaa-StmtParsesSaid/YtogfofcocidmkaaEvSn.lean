/- EV (ours): all functions, joined; printed by gen.py -/
import Derived.Test.YtogfofcocidmkaaEvQa
import Derived.Test.YtogfofcocidmkaaEvQb
import Derived.Test.YtogfofcocidmkaaEvQc
import Derived.Test.YtogfofcocidmkaaEvHs
set_option linter.unusedVariables false
set_option linter.unusedSimpArgs false
namespace Go.Proofs.Ytogfofcocidmkaa.Ev
open Go.RowKit Go.Proofs
theorem snd53 {R : Type} : ∀ rest : Fn U R, SoundF Try.prog 53 rest → SoundF Try.prog 53 (e53 s53 rest) := fun rest hr => q53 hr
theorem snd19 {R : Type} : ∀ rest : Fn U R, SoundF Try.prog 19 rest → SoundF Try.prog 19 (e19 s19 rest) := fun rest hr => q19 s53 snd53 hr
theorem snd79 {R : Type} : ∀ rest : Fn U R, SoundF Try.prog 79 rest → SoundF Try.prog 79 (e79 s79 rest) := fun rest hr => q79 hr
theorem snd82 {R : Type} : ∀ rest : Fn U R, SoundF Try.prog 82 rest → SoundF Try.prog 82 (e82 s82 rest) := fun rest hr => q82 hr
theorem snd80_82 {R : Type} : ∀ rest : Fn U R, SoundF Try.prog 80 rest → SoundF Try.prog 80 (e80_82 s80_82 rest) := fun rest hr => q80_82 s82 snd82 hr
theorem snd93 {R : Type} : ∀ rest : Fn U R, SoundF Try.prog 93 rest → SoundF Try.prog 93 (e93 s93 rest) := fun rest hr => q93 hr
theorem snd80_93 {R : Type} : ∀ rest : Fn U R, SoundF Try.prog 80 rest → SoundF Try.prog 80 (e80_93 s80_93 rest) := fun rest hr => q80_93 s93 snd93 hr
theorem snd94 {R : Type} : ∀ rest : Fn U R, SoundF Try.prog 94 rest → SoundF Try.prog 94 (e94 s94 rest) := fun rest hr => q94 hr
theorem snd80_94 {R : Type} : ∀ rest : Fn U R, SoundF Try.prog 80 rest → SoundF Try.prog 80 (e80_94 s80_94 rest) := fun rest hr => q80_94 s94 snd94 hr
theorem snd95 {R : Type} : ∀ rest : Fn U R, SoundF Try.prog 95 rest → SoundF Try.prog 95 (e95 s95 rest) := fun rest hr => q95 s79 s82 snd79 snd82 hr
theorem snd80_95 {R : Type} : ∀ rest : Fn U R, SoundF Try.prog 80 rest → SoundF Try.prog 80 (e80_95 s80_95 rest) := fun rest hr => q80_95 s95 snd95 hr
theorem snd106 {R : Type} : ∀ rest : Fn U R, SoundF Try.prog 106 rest → SoundF Try.prog 106 (e106 s106 rest) := fun rest hr => q106 hr
theorem snd96 {R : Type} : ∀ rest : Fn U R, SoundF Try.prog 96 rest → SoundF Try.prog 96 (e96 s96 rest) := fun rest hr => q96 s106 snd106 hr
theorem snd97 {R : Type} : ∀ rest : Fn U R, SoundF Try.prog 97 rest → SoundF Try.prog 97 (e97 s97 rest) := fun rest hr => q97 s107 snd107 hr
theorem snd76 {R : Type} : ∀ rest : Fn U R, SoundF Try.prog 76 rest → SoundF Try.prog 76 (e76 s76 rest) := fun rest hr => q76 s79 s80_82 s80_93 s80_94 s80_95 s82 s93 s96 s97 snd79 snd80_82 snd80_93 snd80_94 snd80_95 snd82 snd93 snd96 snd97 hr
theorem snd50 {R : Type} : ∀ rest : Fn U R, SoundF Try.prog 50 rest → SoundF Try.prog 50 (e50 s50 rest) := fun rest hr => q50 s76 snd76 hr
theorem snd57 {R : Type} : ∀ rest : Fn U R, SoundF Try.prog 57 rest → SoundF Try.prog 57 (e57 s57 rest) := fun rest hr => q57 hr
theorem snd22 {R : Type} : ∀ rest : Fn U R, SoundF Try.prog 22 rest → SoundF Try.prog 22 (e22 s22 rest) := fun rest hr => q22 s50 s56 s57 snd50 snd56 snd57 hr
theorem snd29 {R : Type} : ∀ rest : Fn U R, SoundF Try.prog 29 rest → SoundF Try.prog 29 (e29 s29 rest) := fun rest hr => q29 hr
theorem snd26 {R : Type} : ∀ rest : Fn U R, SoundF Try.prog 26 rest → SoundF Try.prog 26 (e26 s26 rest) := fun rest hr => q26 s29 snd29 hr
theorem snd58 {R : Type} : ∀ rest : Fn U R, SoundF Try.prog 58 rest → SoundF Try.prog 58 (e58 s58 rest) := fun rest hr => q58 hr
theorem snd25 {R : Type} : ∀ rest : Fn U R, SoundF Try.prog 25 rest → SoundF Try.prog 25 (e25 s25 rest) := fun rest hr => q25 s29 s58 snd29 snd58 hr
theorem snd30 {R : Type} : ∀ rest : Fn U R, SoundF Try.prog 30 rest → SoundF Try.prog 30 (e30 s30 rest) := fun rest hr => q30 s25 snd25 hr
theorem snd78 {R : Type} : ∀ rest : Fn U R, SoundF Try.prog 78 rest → SoundF Try.prog 78 (e78 s78 rest) := fun rest hr => q78 hr
theorem snd81 {R : Type} : ∀ rest : Fn U R, SoundF Try.prog 81 rest → SoundF Try.prog 81 (e81 s81 rest) := fun rest hr => q81 s79 s82 snd79 snd82 hr
theorem snd80_81 {R : Type} : ∀ rest : Fn U R, SoundF Try.prog 80 rest → SoundF Try.prog 80 (e80_81 s80_81 rest) := fun rest hr => q80_81 s81 snd81 hr
theorem snd59 {R : Type} : ∀ rest : Fn U R, SoundF Try.prog 59 rest → SoundF Try.prog 59 (e59 s59 rest) := fun rest hr => q59 s78 s79 s80_81 snd78 snd79 snd80_81 hr
theorem snd31 {R : Type} : ∀ rest : Fn U R, SoundF Try.prog 31 rest → SoundF Try.prog 31 (e31 s31 rest) := fun rest hr => q31 s25 s59 snd25 snd59 hr
theorem snd68 {R : Type} : ∀ rest : Fn U R, SoundF Try.prog 68 rest → SoundF Try.prog 68 (e68 s68 rest) := fun rest hr => q68 s31 snd31 hr
theorem snd41 {R : Type} : ∀ rest : Fn U R, SoundF Try.prog 41 rest → SoundF Try.prog 41 (e41 s41 rest) := fun rest hr => q41 s30 snd30 hr
theorem snd33 {R : Type} : ∀ rest : Fn U R, SoundF Try.prog 33 rest → SoundF Try.prog 33 (e33 s33 rest) := fun rest hr => q33 hr
theorem snd43 {R : Type} : ∀ rest : Fn U R, SoundF Try.prog 43 rest → SoundF Try.prog 43 (e43 s43 rest) := fun rest hr => q43 s26 s30 s33 s68 snd26 snd30 snd33 snd68 hr
theorem snd90 {R : Type} : ∀ rest : Fn U R, SoundF Try.prog 90 rest → SoundF Try.prog 90 (e90 s90 rest) := fun rest hr => q90 s30 snd30 hr
theorem sg17 {R : Type} : ∀ n : Nat, (∀ rest : Fn U R, SoundF Try.prog 17 rest → SoundF Try.prog 17 (e17 (g17 n).f17 rest))
  | 0 => fun rest hr => ent_none hr (fun x κ => rfl)
  | n + 1 => by
    have ih := sg17 (R := R) n
    exact fun rest hr => q17 (g17 n).f17 (ih) hr
theorem snd17 {R : Type} : ∀ rest : Fn U R, SoundF Try.prog 17 rest → SoundF Try.prog 17 (e17 s17 rest) := (sg17 big)
theorem snd85 {R : Type} : ∀ rest : Fn U R, SoundF Try.prog 85 rest → SoundF Try.prog 85 (e85 s85 rest) := fun rest hr => q85 s17 snd17 hr
theorem snd28 {R : Type} : ∀ rest : Fn U R, SoundF Try.prog 28 rest → SoundF Try.prog 28 (e28 s28 rest) := fun rest hr => q28 s29 snd29 hr
theorem snd108 {R : Type} : ∀ rest : Fn U R, SoundF Try.prog 108 rest → SoundF Try.prog 108 (e108 s108 rest) := fun rest hr => q108 s25 s26 snd25 snd26 hr
theorem snd99 {R : Type} : ∀ rest : Fn U R, SoundF Try.prog 99 rest → SoundF Try.prog 99 (e99 s99 rest) := fun rest hr => q99 hr
theorem snd113 {R : Type} : ∀ rest : Fn U R, SoundF Try.prog 113 rest → SoundF Try.prog 113 (e113 s113 rest) := fun rest hr => q113 s30 snd30 hr
theorem snd84 {R : Type} : ∀ rest : Fn U R, SoundF Try.prog 84 rest → SoundF Try.prog 84 (e84 s84 rest) := fun rest hr => q84 hr
theorem sg63 {R : Type} : ∀ n : Nat, (∀ rest : Fn U R, SoundF Try.prog 63 rest → SoundF Try.prog 63 (e63 (g63 n).f63 rest)) ∧ (∀ rest : Fn U R, SoundF Try.prog 83 rest → SoundF Try.prog 83 (e83 (g63 n).f83 rest)) ∧ (∀ rest : Fn U R, SoundF Try.prog 98 rest → SoundF Try.prog 98 (e98 (g63 n).f98 rest)) ∧ (∀ rest : Fn U R, SoundF Try.prog 109 rest → SoundF Try.prog 109 (e109 (g63 n).f109 rest)) ∧ (∀ rest : Fn U R, SoundF Try.prog 110 rest → SoundF Try.prog 110 (e110 (g63 n).f110 rest)) ∧ (∀ rest : Fn U R, SoundF Try.prog 111 rest → SoundF Try.prog 111 (e111 (g63 n).f111 rest))
  | 0 => ⟨fun rest hr => entw_none hr (fun x κ => rfl), fun rest hr => entw_none hr (fun x κ => rfl), fun rest hr => entw_none hr (fun x κ => rfl), fun rest hr => entw_none hr (fun x κ => rfl), fun rest hr => entw_none hr (fun x κ => rfl), fun rest hr => entw_none hr (fun x κ => rfl)⟩
  | n + 1 => by
    have ih := sg63 (R := R) n
    exact ⟨fun rest hr => q63 s25 (g63 n).f63 (g63 n).f83 s84 s85 snd25 (ih.1) (ih.2.1) snd84 snd85 hr, fun rest hr => q83 s25 s26 (g63 n).f83 s85 (g63 n).f98 s99 snd25 snd26 (ih.2.1) snd85 (ih.2.2.1) snd99 hr, fun rest hr => q98 s25 s26 s28 s108 (g63 n).f109 (g63 n).f110 (g63 n).f111 snd25 snd26 snd28 snd108 (ih.2.2.2.1) (ih.2.2.2.2.1) (ih.2.2.2.2.2) hr, fun rest hr => q109 (g63 n).f63 s99 s113 (ih.1) snd99 snd113 hr, fun rest hr => q110 s25 s26 s30 s31 (g63 n).f63 s85 s99 s113 snd25 snd26 snd30 snd31 (ih.1) snd85 snd99 snd113 hr, fun rest hr => q111 s25 s26 s30 s31 (g63 n).f63 s85 s99 s113 snd25 snd26 snd30 snd31 (ih.1) snd85 snd99 snd113 hr⟩
theorem snd63 {R : Type} : ∀ rest : Fn U R, SoundF Try.prog 63 rest → SoundF Try.prog 63 (e63 s63 rest) := (sg63 big).1
theorem snd83 {R : Type} : ∀ rest : Fn U R, SoundF Try.prog 83 rest → SoundF Try.prog 83 (e83 s83 rest) := (sg63 big).2.1
theorem snd98 {R : Type} : ∀ rest : Fn U R, SoundF Try.prog 98 rest → SoundF Try.prog 98 (e98 s98 rest) := (sg63 big).2.2.1
theorem snd109 {R : Type} : ∀ rest : Fn U R, SoundF Try.prog 109 rest → SoundF Try.prog 109 (e109 s109 rest) := (sg63 big).2.2.2.1
theorem snd110 {R : Type} : ∀ rest : Fn U R, SoundF Try.prog 110 rest → SoundF Try.prog 110 (e110 s110 rest) := (sg63 big).2.2.2.2.1
theorem snd111 {R : Type} : ∀ rest : Fn U R, SoundF Try.prog 111 rest → SoundF Try.prog 111 (e111 s111 rest) := (sg63 big).2.2.2.2.2
theorem snd34 {R : Type} : ∀ rest : Fn U R, SoundF Try.prog 34 rest → SoundF Try.prog 34 (e34 s34 rest) := fun rest hr => q34 s63 snd63 hr
theorem snd105 {R : Type} : ∀ rest : Fn U R, SoundF Try.prog 105 rest → SoundF Try.prog 105 (e105 s105 rest) := fun rest hr => q105 s34 s90 snd34 snd90 hr
theorem snd87 {R : Type} : ∀ rest : Fn U R, SoundF Try.prog 87 rest → SoundF Try.prog 87 (e87 s87 rest) := fun rest hr => q87 s41 s43 s68 s90 s105 snd41 snd43 snd68 snd90 snd105 hr
theorem snd91 {R : Type} : ∀ rest : Fn U R, SoundF Try.prog 91 rest → SoundF Try.prog 91 (e91 s91 rest) := fun rest hr => q91 s34 s90 s105 snd34 snd90 snd105 hr
theorem sg45 {R : Type} : ∀ n : Nat, (∀ rest : Fn U R, SoundF Try.prog 45 rest → SoundF Try.prog 45 (e45 (g45 n).f45 rest)) ∧ (∀ rest : Fn U R, SoundF Try.prog 48 rest → SoundF Try.prog 48 (e48 (g45 n).f48 rest)) ∧ (∀ rest : Fn U R, SoundF Try.prog 69 rest → SoundF Try.prog 69 (e69 (g45 n).f69 rest)) ∧ (∀ rest : Fn U R, SoundF Try.prog 88 rest → SoundF Try.prog 88 (e88 (g45 n).f88 rest)) ∧ (∀ rest : Fn U R, SoundF Try.prog 89 rest → SoundF Try.prog 89 (e89 (g45 n).f89 rest))
  | 0 => ⟨fun rest hr => entw_none hr (fun x κ => rfl), fun rest hr => entw_none hr (fun x κ => rfl), fun rest hr => entw_none hr (fun x κ => rfl), fun rest hr => entw_none hr (fun x κ => rfl), fun rest hr => entw_none hr (fun x κ => rfl)⟩
  | n + 1 => by
    have ih := sg45 (R := R) n
    exact ⟨fun rest hr => q45 s26 (g45 n).f69 snd26 (ih.2.2.1) hr, fun rest hr => q48 s25 s29 (g45 n).f45 snd25 snd29 (ih.1) hr, fun rest hr => q69 s30 s68 s87 (g45 n).f88 (g45 n).f89 s90 s91 snd30 snd68 snd87 (ih.2.2.2.1) (ih.2.2.2.2) snd90 snd91 hr, fun rest hr => q88 s34 (g45 n).f89 s90 snd34 (ih.2.2.2.2) snd90 hr, fun rest hr => q89 s25 (g45 n).f48 s90 snd25 (ih.2.1) snd90 hr⟩
theorem snd45 {R : Type} : ∀ rest : Fn U R, SoundF Try.prog 45 rest → SoundF Try.prog 45 (e45 s45 rest) := (sg45 big).1
theorem snd48 {R : Type} : ∀ rest : Fn U R, SoundF Try.prog 48 rest → SoundF Try.prog 48 (e48 s48 rest) := (sg45 big).2.1
theorem snd69 {R : Type} : ∀ rest : Fn U R, SoundF Try.prog 69 rest → SoundF Try.prog 69 (e69 s69 rest) := (sg45 big).2.2.1
theorem snd88 {R : Type} : ∀ rest : Fn U R, SoundF Try.prog 88 rest → SoundF Try.prog 88 (e88 s88 rest) := (sg45 big).2.2.2.1
theorem snd89 {R : Type} : ∀ rest : Fn U R, SoundF Try.prog 89 rest → SoundF Try.prog 89 (e89 s89 rest) := (sg45 big).2.2.2.2
theorem snd75 {R : Type} : ∀ rest : Fn U R, SoundF Try.prog 75 rest → SoundF Try.prog 75 (e75 s75 rest) := fun rest hr => q75 hr
theorem snd74_75 {R : Type} : ∀ rest : Fn U R, SoundF Try.prog 74 rest → SoundF Try.prog 74 (e74_75 s74_75 rest) := fun rest hr => q74_75 s75 snd75 hr
theorem snd49 {R : Type} : ∀ rest : Fn U R, SoundF Try.prog 49 rest → SoundF Try.prog 49 (e49 s49 rest) := fun rest hr => q49 s74_75 snd74_75 hr
theorem snd38 {R : Type} : ∀ rest : Fn U R, SoundF Try.prog 38 rest → SoundF Try.prog 38 (e38 s38 rest) := fun rest hr => q38 s22 s26 s29 s48 s49 s50 snd22 snd26 snd29 snd48 snd49 snd50 hr
theorem snd37 {R : Type} : ∀ rest : Fn U R, SoundF Try.prog 37 rest → SoundF Try.prog 37 (e37 s37 rest) := fun rest hr => q37 s38 snd38 hr
theorem snd54 {R : Type} : ∀ rest : Fn U R, SoundF Try.prog 54 rest → SoundF Try.prog 54 (e54 s54 rest) := fun rest hr => q54 hr
theorem snd60 {R : Type} : ∀ rest : Fn U R, SoundF Try.prog 60 rest → SoundF Try.prog 60 (e60 s60 rest) := fun rest hr => q60 hr
theorem snd61 {R : Type} : ∀ rest : Fn U R, SoundF Try.prog 61 rest → SoundF Try.prog 61 (e61 s61 rest) := fun rest hr => q61 hr
theorem snd77 {R : Type} : ∀ rest : Fn U R, SoundF Try.prog 77 rest → SoundF Try.prog 77 (e77 s77 rest) := fun rest hr => q77 hr
theorem snd55 {R : Type} : ∀ rest : Fn U R, SoundF Try.prog 55 rest → SoundF Try.prog 55 (e55 s55 rest) := fun rest hr => q55 s60 s61 s77 snd60 snd61 snd77 hr
theorem snd21 {R : Type} : ∀ rest : Fn U R, SoundF Try.prog 21 rest → SoundF Try.prog 21 (e21 s21 rest) := fun rest hr => q21 s54 s55 snd54 snd55 hr
theorem snd27 {R : Type} : ∀ rest : Fn U R, SoundF Try.prog 27 rest → SoundF Try.prog 27 (e27 s27 rest) := fun rest hr => q27 hr
theorem snd51 {R : Type} : ∀ rest : Fn U R, SoundF Try.prog 51 rest → SoundF Try.prog 51 (e51 s51 rest) := fun rest hr => q51 s55 snd55 hr
theorem snd24 {R : Type} : ∀ rest : Fn U R, SoundF Try.prog 24 rest → SoundF Try.prog 24 (e24 s24 rest) := fun rest hr => q24 hr
theorem snd62 {R : Type} : ∀ rest : Fn U R, SoundF Try.prog 62 rest → SoundF Try.prog 62 (e62 s62 rest) := fun rest hr => q62 hr
theorem snd32 {R : Type} : ∀ rest : Fn U R, SoundF Try.prog 32 rest → SoundF Try.prog 32 (e32 s32 rest) := fun rest hr => q32 s60 s61 s62 snd60 snd61 snd62 hr
theorem sg18 {R : Type} : ∀ n : Nat, (∀ rest : Fn U R, SoundF Try.prog 18 rest → SoundF Try.prog 18 (e18 (g18 n).f18 rest))
  | 0 => fun rest hr => ent_none hr (fun x κ => rfl)
  | n + 1 => by
    have ih := sg18 (R := R) n
    exact fun rest hr => q18 (g18 n).f18 (ih) hr
theorem snd18 {R : Type} : ∀ rest : Fn U R, SoundF Try.prog 18 rest → SoundF Try.prog 18 (e18 s18 rest) := (sg18 big)
theorem snd66 {R : Type} : ∀ rest : Fn U R, SoundF Try.prog 66 rest → SoundF Try.prog 66 (e66 s66 rest) := fun rest hr => q66 s18 snd18 hr
theorem snd100 {R : Type} : ∀ rest : Fn U R, SoundF Try.prog 100 rest → SoundF Try.prog 100 (e100 s100 rest) := fun rest hr => q100 hr
theorem snd101 {R : Type} : ∀ rest : Fn U R, SoundF Try.prog 101 rest → SoundF Try.prog 101 (e101 s101 rest) := fun rest hr => q101 hr
theorem snd102 {R : Type} : ∀ rest : Fn U R, SoundF Try.prog 102 rest → SoundF Try.prog 102 (e102 s102 rest) := fun rest hr => q102 hr
theorem snd65 {R : Type} : ∀ rest : Fn U R, SoundF Try.prog 65 rest → SoundF Try.prog 65 (e65 s65 rest) := fun rest hr => q65 s24 snd24 hr
theorem sg35 {R : Type} : ∀ n : Nat, (∀ rest : Fn U R, SoundF Try.prog 35 rest → SoundF Try.prog 35 (e35 (g35 n).f35 rest)) ∧ (∀ rest : Fn U R, SoundF Try.prog 64 rest → SoundF Try.prog 64 (e64 (g35 n).f64 rest)) ∧ (∀ rest : Fn U R, SoundF Try.prog 86 rest → SoundF Try.prog 86 (e86 (g35 n).f86 rest)) ∧ (∀ rest : Fn U R, SoundF Try.prog 103 rest → SoundF Try.prog 103 (e103 (g35 n).f103 rest)) ∧ (∀ rest : Fn U R, SoundF Try.prog 104 rest → SoundF Try.prog 104 (e104 (g35 n).f104 rest))
  | 0 => ⟨fun rest hr => ent_none hr (fun x κ => rfl), fun rest hr => ent_none hr (fun x κ => rfl), fun rest hr => ent_none hr (fun x κ => rfl), fun rest hr => ent_none hr (fun x κ => rfl), fun rest hr => ent_none hr (fun x κ => rfl)⟩
  | n + 1 => by
    have ih := sg35 (R := R) n
    exact ⟨fun rest hr => q35 s24 (g35 n).f35 (g35 n).f64 s65 s66 snd24 (ih.1) (ih.2.1) snd65 snd66 hr, fun rest hr => q64 s24 s27 (g35 n).f64 s66 (g35 n).f86 snd24 snd27 (ih.2.1) snd66 (ih.2.2.1) hr, fun rest hr => q86 s24 s27 (g35 n).f35 s100 s101 s102 (g35 n).f103 (g35 n).f104 snd24 snd27 (ih.1) snd100 snd101 snd102 (ih.2.2.2.1) (ih.2.2.2.2) hr, fun rest hr => q103 s24 s27 s32 (g35 n).f35 s66 snd24 snd27 snd32 (ih.1) snd66 hr, fun rest hr => q104 s24 s27 s32 (g35 n).f35 s66 snd24 snd27 snd32 (ih.1) snd66 hr⟩
theorem snd35 {R : Type} : ∀ rest : Fn U R, SoundF Try.prog 35 rest → SoundF Try.prog 35 (e35 s35 rest) := (sg35 big).1
theorem snd64 {R : Type} : ∀ rest : Fn U R, SoundF Try.prog 64 rest → SoundF Try.prog 64 (e64 s64 rest) := (sg35 big).2.1
theorem snd86 {R : Type} : ∀ rest : Fn U R, SoundF Try.prog 86 rest → SoundF Try.prog 86 (e86 s86 rest) := (sg35 big).2.2.1
theorem snd103 {R : Type} : ∀ rest : Fn U R, SoundF Try.prog 103 rest → SoundF Try.prog 103 (e103 s103 rest) := (sg35 big).2.2.2.1
theorem snd104 {R : Type} : ∀ rest : Fn U R, SoundF Try.prog 104 rest → SoundF Try.prog 104 (e104 s104 rest) := (sg35 big).2.2.2.2
theorem snd42 {R : Type} : ∀ rest : Fn U R, SoundF Try.prog 42 rest → SoundF Try.prog 42 (e42 s42 rest) := fun rest hr => q42 s24 snd24 hr
theorem snd44 {R : Type} : ∀ rest : Fn U R, SoundF Try.prog 44 rest → SoundF Try.prog 44 (e44 s44 rest) := fun rest hr => q44 s24 s32 snd24 snd32 hr
theorem snd72 {R : Type} : ∀ rest : Fn U R, SoundF Try.prog 72 rest → SoundF Try.prog 72 (e72 s72 rest) := fun rest hr => q72 s24 snd24 hr
theorem snd73 {R : Type} : ∀ rest : Fn U R, SoundF Try.prog 73 rest → SoundF Try.prog 73 (e73 s73 rest) := fun rest hr => q73 s24 s35 s72 snd24 snd35 snd72 hr
theorem snd70 {R : Type} : ∀ rest : Fn U R, SoundF Try.prog 70 rest → SoundF Try.prog 70 (e70 s70 rest) := fun rest hr => q70 s24 s32 s42 s44 s73 snd24 snd32 snd42 snd44 snd73 hr
theorem sg46 {R : Type} : ∀ n : Nat, (∀ rest : Fn U R, SoundF Try.prog 46 rest → SoundF Try.prog 46 (e46 (g46 n).f46 rest)) ∧ (∀ rest : Fn U R, SoundF Try.prog 67 rest → SoundF Try.prog 67 (e67 (g46 n).f67 rest)) ∧ (∀ rest : Fn U R, SoundF Try.prog 71 rest → SoundF Try.prog 71 (e71 (g46 n).f71 rest)) ∧ (∀ rest : Fn U R, SoundF Try.prog 92 rest → SoundF Try.prog 92 (e92 (g46 n).f92 rest))
  | 0 => ⟨fun rest hr => ent_none hr (fun x κ => rfl), fun rest hr => ent_none hr (fun x κ => rfl), fun rest hr => ent_none hr (fun x κ => rfl), fun rest hr => ent_none hr (fun x κ => rfl)⟩
  | n + 1 => by
    have ih := sg46 (R := R) n
    exact ⟨fun rest hr => q46 s24 s27 s32 s35 s70 (g46 n).f71 s72 s73 snd24 snd27 snd32 snd35 snd70 (ih.2.2.1) snd72 snd73 hr, fun rest hr => q67 s24 (g46 n).f46 snd24 (ih.1) hr, fun rest hr => q71 s24 s35 (g46 n).f92 snd24 snd35 (ih.2.2.2) hr, fun rest hr => q92 s24 (g46 n).f67 snd24 (ih.2.1) hr⟩
theorem snd46 {R : Type} : ∀ rest : Fn U R, SoundF Try.prog 46 rest → SoundF Try.prog 46 (e46 s46 rest) := (sg46 big).1
theorem snd67 {R : Type} : ∀ rest : Fn U R, SoundF Try.prog 67 rest → SoundF Try.prog 67 (e67 s67 rest) := (sg46 big).2.1
theorem snd71 {R : Type} : ∀ rest : Fn U R, SoundF Try.prog 71 rest → SoundF Try.prog 71 (e71 s71 rest) := (sg46 big).2.2.1
theorem snd92 {R : Type} : ∀ rest : Fn U R, SoundF Try.prog 92 rest → SoundF Try.prog 92 (e92 s92 rest) := (sg46 big).2.2.2
theorem snd39 {R : Type} : ∀ rest : Fn U R, SoundF Try.prog 39 rest → SoundF Try.prog 39 (e39 s39 rest) := fun rest hr => q39 s21 s27 s51 s67 snd21 snd27 snd51 snd67 hr
theorem sg16 {R : Type} : ∀ n : Nat, (∀ rest : Fn U R, SoundF Try.prog 16 rest → SoundF Try.prog 16 (e16 (g16 n).f16 rest)) ∧ (∀ rest : Fn U R, SoundF Try.prog 52 rest → SoundF Try.prog 52 (e52 (g16 n).f52 rest))
  | 0 => ⟨fun rest hr => ent_none hr (fun x κ => rfl), fun rest hr => ent_none hr (fun x κ => rfl)⟩
  | n + 1 => by
    have ih := sg16 (R := R) n
    exact ⟨fun rest hr => q16 (g16 n).f52 (ih.2) hr, fun rest hr => q52 (g16 n).f16 (ih.1) hr⟩
theorem snd16 {R : Type} : ∀ rest : Fn U R, SoundF Try.prog 16 rest → SoundF Try.prog 16 (e16 s16 rest) := (sg16 big).1
theorem snd52 {R : Type} : ∀ rest : Fn U R, SoundF Try.prog 52 rest → SoundF Try.prog 52 (e52 s52 rest) := (sg16 big).2
theorem sg40 {R : Type} : ∀ n : Nat, (∀ rest : Fn U R, SoundF Try.prog 40 rest → SoundF Try.prog 40 (e40 (g40 n).f40 rest))
  | 0 => fun rest hr => ent_none hr (fun x κ => rfl)
  | n + 1 => by
    have ih := sg40 (R := R) n
    exact fun rest hr => q40 s16 (g40 n).f40 snd16 (ih) hr
theorem snd40 {R : Type} : ∀ rest : Fn U R, SoundF Try.prog 40 rest → SoundF Try.prog 40 (e40 s40 rest) := (sg40 big)
theorem snd8 {R : Type} : ∀ rest : Fn U R, SoundF Try.prog 8 rest → SoundF Try.prog 8 (e8 s8 rest) := fun rest hr => q8 s13 s19 s37 s38 s39 s40 snd13 snd19 snd37 snd38 snd39 snd40 hr
end Go.Proofs.Ytogfofcocidmkaa.Ev
