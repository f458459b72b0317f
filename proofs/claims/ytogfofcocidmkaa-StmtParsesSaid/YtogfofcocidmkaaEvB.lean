/- EV (ours), part B: what the evaluator's data say of a world; what moves it. -/
import Derived.Test.YtogfofcocidmkaaEvA
import Derived.Laws.AppendOwn
import Derived.Laws.AppendOwnNone
import Derived.Laws.OwnMore
set_option linter.unusedVariables false
set_option linter.unusedSimpArgs false
namespace Go.Proofs.Ytogfofcocidmkaa.Ev
open Go.RowKit
section
variable {U : Uni}

/-- A cell that holds no address of ours: what it says in a world; fz: the blocks that nobody writes any more. -/
inductive RepP (w : World) (fz : Nat → Prop) : U.C → Value → Prop where
  | int (k : IntKind) (n : Int) : RepP w fz (.int k n) (.int k n)
  | bool (b : Bool) : RepP w fz (.bool b) (.bool b)
  | str (s : ByteArray) : RepP w fz (.str s) (.string s)
  | nilp : RepP w fz .nilp (.pointer none)
  | nils : RepP w fz .nils (.slice none 0 0)
  | fn (f : Nat) : RepP w fz (.fn f) (.func (.func f) #[] #[])
  | sl (T : Nat) (l : List (U.Ty T)) (a : Option Addr) (c : Nat) (f : Nat → Nat → Value) (hc : l.length ≤ c)
      (ha : 0 < l.length → ∃ ad, a = some ad ∧ fz ad.block ∧ ∀ i j, i < l.length → j < U.sz T → w.cell? (ad.add (i * U.sz T + j)) = some (f i j))
      (hf : ∀ i j (x : U.C), i < l.length → (U.enc T (l.getD i (U.dflt T)))[j]? = some x → RepP w fz x (f i j)) :
      RepP w fz (.sl T l) (.slice a l.length c)
  | sp (T : Nat) (l m : List (U.Ty T)) (a : Option Addr) (c : Nat) (f : Nat → Nat → Value) (hc : (l ++ m).length ≤ c)
      (ha : 0 < (l ++ m).length → ∃ ad, a = some ad ∧ fz ad.block ∧ ∀ i j, i < (l ++ m).length → j < U.sz T → w.cell? (ad.add (i * U.sz T + j)) = some (f i j))
      (hf : ∀ i j (x : U.C), i < (l ++ m).length → (U.enc T ((l ++ m).getD i (U.dflt T)))[j]? = some x → RepP w fz x (f i j)) :
      RepP w fz (.sp T l m) (.slice a l.length c)

theorem add_block (a : Addr) (n : Nat) : (a.add n).block = a.block := by unfold Addr.add; split <;> rfl
theorem add_add (a : Addr) (n m : Nat) : (a.add n).add m = a.add (n + m) := by
  unfold Addr.add
  by_cases h : n = 0
  · subst h; simp
  · by_cases h2 : m = 0
    · subst h2; simp [h]
    · simp [h, h2, Nat.add_assoc]
theorem plain_add (g n m : Nat) : (⟨g, n, none⟩ : Addr).add m = ⟨g, n + m, none⟩ := by unfold Addr.add; split <;> simp_all
theorem zero_add_ (g m : Nat) : (⟨g, 0, none⟩ : Addr).add m = ⟨g, m, none⟩ := by rw [plain_add]; simp
theorem cell_same {w w' : World} {a : Addr} (h : w'.heap[a.block]? = w.heap[a.block]?) : w'.cell? a = w.cell? a := World.cell?_of_block h

theorem RepP.mono {w w' : World} {fz fz' : Nat → Prop} (hz : ∀ g, fz g → fz' g) (hw : ∀ g, fz g → w'.heap[g]? = w.heap[g]?) {x : U.C} {v : Value} (h : RepP w fz x v) : RepP w' fz' x v := by
  induction h with
  | int k n => exact .int k n
  | bool b => exact .bool b
  | str s => exact .str s
  | nilp => exact .nilp
  | nils => exact .nils
  | fn f => exact .fn f
  | sl T l a c f hc ha hf ih =>
    refine .sl T l a c f hc (fun h0 => ?_) (fun i j x hi hx => ih i j x hi hx)
    obtain ⟨ad, rfl, hz', hcell⟩ := ha h0
    refine ⟨ad, rfl, hz _ hz', fun i j hi hj => ?_⟩
    rw [cell_same (w := w) (by rw [add_block]; exact hw _ hz')]
    exact hcell i j hi hj
  | sp T l m a c f hc ha hf ih =>
    refine .sp T l m a c f hc (fun h0 => ?_) (fun i j x hi hx => ih i j x hi hx)
    obtain ⟨ad, rfl, hz', hcell⟩ := ha h0
    refine ⟨ad, rfl, hz _ hz', fun i j hi hj => ?_⟩
    rw [cell_same (w := w) (by rw [add_block]; exact hw _ hz')]
    exact hcell i j hi hj
theorem RepP.one {w : World} {fz : Nat → Prop} {x : U.C} {v : Value} (h : RepP w fz x v) : v.oneCell' = true := by cases h <;> rfl
theorem RepP.cells {w : World} {fz : Nat → Prop} {x : U.C} {v : Value} (h : RepP w fz x v) : v.cells = #[v] := by cases h <;> rfl

/-- What the proof knows beside: the blocks that nobody writes any more; where boxes lie; the rows' values. -/
structure Gh where
  fz : Nat → Prop
  bs : Nat → Option (Nat × Nat)
  rs : Nat → Option Value

/-- An element's address. -/
def AtEl (w : World) (fz : Nat → Prop) (U : Uni) (T : Nat) (l : List (U.Ty T)) (i o : Nat) (v : Value) : Prop :=
  i < l.length ∧ ∃ (ad : Addr) (f : Nat → Value), fz ad.block ∧ (∀ j, j < U.sz T → w.cell? (ad.add (i * U.sz T + j)) = some (f j)) ∧
    (∀ j (x : U.C), (U.enc T (l.getD i (U.dflt T)))[j]? = some x → RepP w fz x (f j)) ∧ v = .pointer (some (ad.add (i * U.sz T + o)))
def RepC (w : World) (G : Gh) : U.C → Value → Prop
  | .undef, v => True
  | .new _ _, v => False
  | .ptr b o, v => ∃ g p, G.bs b = some (g, p) ∧ v = .pointer (some ⟨g, p + o, none⟩)
  | .own T r, v => G.rs r = some v ∧ v.oneCell' = true
  | .fat T l i o, v => AtEl w G.fz U T l i o v
  | .oat T r i o, v => ∃ g n c, G.rs r = some (.slice (some ⟨g, 0, none⟩) n c) ∧ i < n ∧ v = .pointer (some ⟨g, i * U.sz T + o, none⟩)
  | x, v => RepP w G.fz x v
def RepV (w : World) (G : Gh) : U.V → Value → Prop
  | .c x, v => RepC w G x v ∧ (vl (U := U) (.c x) ≠ none → v.oneCell' = true)
  | .agg cs, v => ∃ vs : Array Value, v = .agg vs ∧ vs.size = cs.length ∧ ∀ (j : Nat) x, cs[j]? = some x → ∃ u, vs[j]? = some u ∧ RepC w G x u ∧ u.oneCell' = true
def RepD (w : World) (G : Gh) : U.D → Value → Prop
  | .v x, v => RepV w G x v
  | .tup l, v => ∃ vs : Array Value, v = .tuple vs ∧ vs.size = l.length ∧ ∀ (j : Nat) x, l[j]? = some x → ∃ u, vs[j]? = some u ∧ RepV w G x u
/-- Cells one behind the other. -/
def RepL (w : World) (G : Gh) (cs : List U.C) (vs : List Value) : Prop := vs.length = cs.length ∧ ∀ (j : Nat) x, cs[j]? = some x → ∃ u, vs[j]? = some u ∧ RepC w G x u ∧ u.oneCell' = true
/-- A box: its cells from p on. -/
def BoxAt (w : World) (G : Gh) (g p : Nat) (cs : List U.C) : Prop :=
  ∀ (j : Nat) x, cs[j]? = some x → ∃ u, w.cell? ⟨g, p + j, none⟩ = some u ∧ w.frozen? ⟨g, p + j, none⟩ = false ∧ RepC w G x u ∧ u.oneCell' = true
/-- A row of the call's own, from block B on. -/
def OwnRep (w : World) (fz : Nat → Prop) (B : Nat) (T : Nat) (l : List (U.Ty T)) (v : Value) : Prop :=
  ∃ xs : List Value, w.ownsRow B T (U.sz T) v l.length xs ∧
    (∀ i j (x : U.C), i < l.length → (U.enc T (l.getD i (U.dflt T)))[j]? = some x → ∃ u, xs[i * U.sz T + j]? = some u ∧ RepP w fz x u) ∧ ∀ u ∈ xs, u.oneCell' = true

/-- The change of a cell's telling that every world that keeps the frozen blocks bears. -/
structure Gh.le (w w' : World) (G G' : Gh) : Prop where
  fz : ∀ g, G.fz g → G'.fz g
  bs : ∀ b q, G.bs b = some q → G'.bs b = some q
  rs : ∀ r v, G.rs r = some v → G'.rs r = some v
  heap : ∀ g, G.fz g → w'.heap[g]? = w.heap[g]?
theorem Gh.le.refl (w : World) (G : Gh) : G.le w w G := ⟨fun _ h => h, fun _ _ h => h, fun _ _ h => h, fun _ _ => rfl⟩
theorem AtEl.mono {w w' : World} {fz fz' : Nat → Prop} (hz : ∀ g, fz g → fz' g) (hw : ∀ g, fz g → w'.heap[g]? = w.heap[g]?) {T : Nat} {l : List (U.Ty T)} {i o : Nat} {v : Value}
    (h : AtEl w fz U T l i o v) : AtEl w' fz' U T l i o v := by
  obtain ⟨hi, ad, f, hf, hc, hr, rfl⟩ := h
  refine ⟨hi, ad, f, hz _ hf, fun j hj => ?_, fun j x hx => (hr j x hx).mono hz hw, rfl⟩
  rw [cell_same (w := w) (by rw [add_block]; exact hw _ hf)]
  exact hc j hj
theorem RepC.mono {w w' : World} {G G' : Gh} (hG : G.le w w' G') {x : U.C} {v : Value} (h : RepC w G x v) : RepC w' G' x v := by
  cases x with
  | undef => trivial
  | new T l => exact h
  | ptr b o => obtain ⟨g, p, h1, h2⟩ := h; exact ⟨g, p, hG.bs _ _ h1, h2⟩
  | own T r => exact ⟨hG.rs _ _ h.1, h.2⟩
  | fat T l i o => exact AtEl.mono hG.fz hG.heap h
  | oat T r i o => obtain ⟨g, n, c, h1, h2⟩ := h; exact ⟨g, n, c, hG.rs _ _ h1, h2⟩
  | _ => exact RepP.mono hG.fz hG.heap h
theorem RepV.mono {w w' : World} {G G' : Gh} (hG : G.le w w' G') {x : U.V} {v : Value} (h : RepV w G x v) : RepV w' G' x v := by
  cases x with
  | c x => exact ⟨h.1.mono hG, h.2⟩
  | agg cs =>
    obtain ⟨vs, rfl, hn, hr⟩ := h
    refine ⟨vs, rfl, hn, fun j x hx => ?_⟩
    obtain ⟨u, h1, h2, h3⟩ := hr j x hx
    exact ⟨u, h1, h2.mono hG, h3⟩
theorem RepD.mono {w w' : World} {G G' : Gh} (hG : G.le w w' G') {x : U.D} {v : Value} (h : RepD w G x v) : RepD w' G' x v := by
  cases x with
  | v x => exact RepV.mono hG h
  | tup l =>
    obtain ⟨vs, rfl, hn, hr⟩ := h
    refine ⟨vs, rfl, hn, fun j x hx => ?_⟩
    obtain ⟨u, h1, h2⟩ := hr j x hx
    exact ⟨u, h1, h2.mono hG⟩
theorem RepL.mono {w w' : World} {G G' : Gh} (hG : G.le w w' G') {cs : List U.C} {vs : List Value} (h : RepL w G cs vs) : RepL w' G' cs vs :=
  ⟨h.1, fun j x hx => by obtain ⟨u, h1, h2, h3⟩ := h.2 j x hx; exact ⟨u, h1, h2.mono hG, h3⟩⟩
theorem RepC.ofP {w : World} {G : Gh} {x : U.C} {v : Value} (h : RepP w G.fz x v) : RepC w G x v := by cases h <;> first | exact .int _ _ | exact .bool _ | exact .str _ | exact .nilp | exact .nils | exact .fn _ | exact .sl _ _ _ _ _ ‹_› ‹_› ‹_› | exact .sp _ _ _ _ _ _ ‹_› ‹_› ‹_›
theorem RepC.toP {w : World} {G : Gh} {x : U.C} {v : Value} (hp : plain x = true) (h : RepC w G x v) : RepP w G.fz x v := by cases x <;> first | exact h | cases hp
theorem RepC.one {w : World} {G : Gh} {x : U.C} {v : Value} (hu : vl (U := U) (.c x) ≠ none) (h : RepC w G x v) : v.oneCell' = true := by
  cases x with
  | undef => simp [vl] at hu
  | new T l => exact h.elim
  | ptr b o => obtain ⟨g, p, h1, rfl⟩ := h; rfl
  | own T r => exact h.2
  | fat T l i o => obtain ⟨_, ad, f, _, _, _, rfl⟩ := h; rfl
  | oat T r i o => obtain ⟨g, n, c, h1, h2, rfl⟩ := h; rfl
  | _ => exact RepP.one h
theorem RepV.ofC {w : World} {G : Gh} {x : U.C} {v : Value} (h : RepC w G x v) : RepV w G (.c x) v := ⟨h, fun hu => h.one hu⟩
theorem RepV.vl {w : World} {G : Gh} {x : U.V} {v : Value} {cs : List U.C} (h : RepV w G x v) (hc : vl x = some cs) : RepL w G cs v.cells.toList := by
  cases x with
  | agg cs' =>
    simp only [Ev.vl, Option.some.injEq] at hc
    subst hc
    obtain ⟨vs, rfl, hn, hr⟩ := h
    exact ⟨by simpa [Value.cells] using hn, fun j x hx => by obtain ⟨u, h1, h2⟩ := hr j x hx; exact ⟨u, by simpa [Value.cells] using h1, h2⟩⟩
  | c x =>
    have h1 := h.2 (by rw [hc]; simp)
    have h2 : cs = [x] := by cases x <;> simp_all [Ev.vl]
    subst h2
    have h3 : v.cells = #[v] := by cases v <;> first | rfl | cases h1
    rw [h3]
    refine ⟨rfl, fun j y hy => ?_⟩
    match j, hy with
    | 0, hy =>
      simp only [List.getElem?_cons_zero, Option.some.injEq] at hy
      subst hy
      exact ⟨v, rfl, h.1, h1⟩
end
end Go.Proofs.Ytogfofcocidmkaa.Ev
