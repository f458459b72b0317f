/- EV (ours): from a law's plain function to its call. -/
import Derived.Test.YtogfofcocidmkaaEvOk
set_option linter.unusedVariables false
namespace Go.Proofs.Ytogfofcocidmkaa.Ev
open Go.RowKit Go.Proofs
section
variable {P : Program}
theorem law_calls {g : Nat} {f : Fn U (U.D × List (List U.C))} (hs : SoundF P g f) {ds : List U.D} (h : f ds [] (fun d bx => some (d, bx)) = some (.v (.c (.bool true)), [])) (w : World) {vs : List Value}
    (he : Entry U w (fun k => k < w.heap.size) (fun _ => none) ds [] vs) : Calls P g vs.toArray w fun e w' => e = .returned (.bool true) ∧ Below w.heap.size w w' := by
  obtain ⟨_, d, bx, h1, _, _, _, h2⟩ := hs ds [] _ _ h
  simp only [Option.some.injEq, Prod.mk.injEq] at h1
  obtain ⟨rfl, rfl⟩ := h1
  refine (h2 w _ _ vs he).mono fun e w' ⟨v, e1, _, G, hR⟩ => ?_
  subst e1
  obtain ⟨u, k1, k2⟩ := hR.slot 0 (.v (.c (.bool true))) rfl
  simp only [List.getElem?_toArray, List.getElem?_cons_zero, Option.some.injEq] at k1
  subst k1
  have := rep_bool k2
  subst this
  refine ⟨rfl, hR.fr.os, hR.fr.tape, hR.fr.output, hR.fr.size, fun k hk => hR.fr.blk k hk (fun b q hq => by cases hq)⟩
theorem entry_nil (w : World) : Entry U w (fun k => k < w.heap.size) (fun _ => none) [] [] [] :=
  ⟨rfl, fun i d h => by simp at h, fun b cs h => by simp at h, fun b q h => (by cases h), fun _ h => h, fun b g p h => (by cases h), fun b b' g p p' h => (by cases h)⟩
theorem entry_cons {w : World} {ds : List U.D} {vs : List Value} {d : U.D} {v : Value} (hd : ∀ G : Gh, G.fz = (fun k => k < w.heap.size) → RepD w G d v) (h : Entry U w (fun k => k < w.heap.size) (fun _ => none) ds [] vs) : Entry U w (fun k => k < w.heap.size) (fun _ => none) (d :: ds) [] (v :: vs) :=
  ⟨by simp [h.len], fun i y hy => by
    cases i with
    | zero => simp only [List.getElem?_cons_zero, Option.some.injEq] at hy; subst hy; exact ⟨v, rfl, hd _ rfl⟩
    | succ i => exact h.arg i y hy, fun b cs h => by simp at h, fun b q h => (by cases h), fun _ h => h, fun b g p h => (by cases h), fun b b' g p p' h => (by cases h)⟩
theorem arg_int {w : World} {G : Gh} (k : IntKind) (n : Int) : RepD w G (.v (.c (.int k n)) : U.D) (.int k n) := rep_cell (RepP.int k n)
/-- A slice of bytes that came in. -/
theorem arg_bytes {w : World} {G : Gh} (hG : G.fz = fun k => k < w.heap.size) {a : Option Addr} {len cap : Nat} {zs : List Int}
    (h : (a = none ∧ len = 0 ∧ cap = 0 ∧ zs = []) ∨ ∃ x, a = some x ∧ len ≤ cap ∧ cap ≤ maxLen ∧ zs.length = cap ∧ (∀ i, i < zs.length → w.cell? (x.add i) = some (.int .u8 (zs.getD i 0))) ∧ ∀ n ∈ zs, (Lit.int .u8 n).wf = true) :
    RepD w G (.v (.c (.sl 5 (zs.take len))) : U.D) (.slice a len cap) ∧ (zs.take len).length = len ∧ ∀ n ∈ zs.take len, (Lit.int .u8 n).wf = true := by
  rcases h with ⟨rfl, rfl, rfl, rfl⟩ | ⟨x, rfl, h1, h2, h3, h4, h5⟩
  · refine ⟨rep_cell ?_, rfl, fun n hn => by simp at hn⟩
    exact @RepP.sl U w G.fz 5 ([] : List Int) none 0 (fun _ _ => undef) (Nat.le_refl _) (fun h => absurd h (Nat.lt_irrefl 0)) (fun i j x hi => absurd hi (Nat.not_lt_zero i))
  · have hl : (zs.take len).length = len := by simp; omega
    refine ⟨?_, hl, fun n hn => h5 n (List.mem_of_mem_take hn)⟩
    have hcell : ∀ i, i < len → w.cell? (x.add i) = some (.int .u8 (zs.getD i 0)) := fun i hi => h4 i (by omega)
    have hx : 0 < len → x.block < w.heap.size := fun h0 => by
      have := hcell 0 h0
      apply Classical.byContradiction
      intro hn
      rw [Go.World.cell?, add_block, Array.getElem?_eq_none (by omega)] at this
      cases this
    have : RepP w G.fz (.sl 5 (zs.take len) : U.C) (.slice (some x) (zs.take len).length cap) := by
      refine @RepP.sl U w G.fz 5 (zs.take len) (some x) cap (fun i _ => .int .u8 (zs.getD i 0)) (show (zs.take len).length ≤ cap by omega) (fun h0 => ⟨x, rfl, ?_, fun i j hi hj => ?_⟩) (fun i j c hi hc => ?_)
      · rw [hG]; exact hx (Nat.lt_of_lt_of_eq h0 hl)
      · have hj : j = 0 := by
          have : U.sz 5 = 1 := by rfl
          omega
        subst hj
        have : U.sz 5 = 1 := by rfl
        rw [this, Nat.mul_one, Nat.add_zero]
        exact hcell i (Nat.lt_of_lt_of_eq hi hl)
      · cases j with
        | succ j => exact absurd hc (by show ¬ ([Cell.int IntKind.u8 _] : List U.C)[j + 1]? = some c; simp)
        | zero =>
          have : c = .int .u8 ((zs.take len).getD i 0) := by
            have : some (Cell.int IntKind.u8 (List.getD (α := Int) (zs.take len) i 0)) = some c := hc
            exact (Option.some.inj this).symm
          rw [this]
          have e : (zs.take len).getD i 0 = zs.getD i 0 := by
            simp only [List.getD_eq_getElem?_getD]
            rw [List.getElem?_take_of_lt (Nat.lt_of_lt_of_eq hi hl)]
          rw [e]
          exact .int _ _
    rw [hl] at this
    exact rep_cell this
end
end Go.Proofs.Ytogfofcocidmkaa.Ev
