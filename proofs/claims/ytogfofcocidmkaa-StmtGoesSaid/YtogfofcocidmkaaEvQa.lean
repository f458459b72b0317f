/- EV (ours): each function's plain twin is what the evaluator makes of it; printed by gen.py -/
import Derived.Test.YtogfofcocidmkaaEvEn
import Derived.Test.YtogfofcocidmkaaEvOk
set_option linter.unusedVariables false
set_option linter.unusedSimpArgs false
namespace Go.Proofs.Ytogfofcocidmkaa.Ev
open Go.RowKit Go.Proofs
def F54 {R : Type} : Nat → Fn U R := Fz
def st54_3 : StT := ⟨[.c (.l 51), .c .u, .c .u, .c (.o 51 0), .c (.i .i64), .c .u, .c .u, .c .u, .c .u, .c .u, .c .u, .c .u, .c .u, .c .u, .c .u, .c .u, .c .u, .c .u, .c .u, .c .u, .c .u, .c .u, .c .u, .c .u, .c .u, .c .u, .c .u, .c .u, .c .u, .c .u, .c .u, .c .u, .c .u], [], [some 51], 0⟩
def h54_3 {R : Type} (l : Z54_3) : SX U st54_3 → (Out → St U → Option R) → Option R := fun x k => (l x.1.1 x.1.2.1 x.2.2.1).bind (fun o => k (.exit 0) ⟨[.v (.c (.sl 51 x.1.1)), ud, ud, .v (.c (.own 51 0)), .v (.c (.int .i64 o.1)), ud, ud, ud, ud, ud, ud, ud, ud, ud, ud, ud, ud, ud, ud, ud, ud, ud, ud, ud, ud, ud, ud, ud, ud, ud, ud, ud, ud], [], [some ⟨51, o.2⟩], 0⟩)
def wd54_3 : List Wd := [.drop 1, .drop 2, .drop 5, .drop 6, .drop 7, .drop 8, .drop 9, .drop 10, .drop 11, .drop 12, .drop 13, .drop 14, .drop 15, .drop 16, .drop 17, .drop 18, .drop 19, .drop 20, .drop 21, .drop 22, .drop 23, .drop 24, .drop 25, .drop 26, .drop 27, .drop 28, .drop 29, .drop 30, .drop 31, .drop 32, .own (.s 3) 51]
def L54 {R : Type} (l3 : Z54_3) : Hn U R := fun key σ k => bif Nat.beq key 3 then hnd wd54_3 st54_3 (h54_3 l3) σ k else none
set_option maxRecDepth 100000 in
theorem tl54_3 {R : Type} (l3 : Z54_3) (x0 x : SX U st54_3) (k : Out → St U → Option R) (n : Nat) : loopN [2] [] (fun σ k => ev (F54) (L54 l3) (lpAt Try.f54 0) σ k) (fillSt st54_3 x0) k (n + 1) (fillSt st54_3 x)
    = lb54_3 x.1.1 (fun v7 v8 => loopN [2] [] (fun σ k => ev (F54) (L54 l3) (lpAt Try.f54 0) σ k) (fillSt st54_3 x0) k n (fillSt st54_3 (((x.1.1, v7, ()), (), (v8, ())) : SX U st54_3))) (fun o => k (.exit 0) ⟨[.v (.c (.sl 51 x.1.1)), ud, ud, .v (.c (.own 51 0)), .v (.c (.int .i64 o.1)), ud, ud, ud, ud, ud, ud, ud, ud, ud, ud, ud, ud, ud, ud, ud, ud, ud, ud, ud, ud, ud, ud, ud, ud, ud, ud, ud, ud], [], [some ⟨51, o.2⟩], 0⟩) x.1.2.1 x.2.2.1 := by kernel_rfl
theorem nb54_3 {R S : Type} (q6 : List S51) (c : Int → List S51 → Option R) (e0 : (Int × List S51) → Option R) (v7 : Int) (v8 : List S51) (K : R → Option S) : (lb54_3 q6 c e0 v7 v8).bind K = lb54_3 q6 (fun v7 v8 => (c v7 v8).bind K) (fun o => (e0 o).bind K) v7 v8 := by
  unfold lb54_3
  simp only [bind_cond, bind_when, bind_elim, Option.bind_assoc, bind_none]
set_option maxHeartbeats 1000000 in
theorem ll54_3 {R : Type} (l3 : Z54_3) (x0 : SX U st54_3) (k : Out → St U → Option R) : ∀ (n : Nat) (x : SX U st54_3), loopN [2] [] (fun σ k => ev (F54) (L54 l3) (lpAt Try.f54 0) σ k) (fillSt st54_3 x0) k n (fillSt st54_3 x)
    = h54_3 (lp54_3 n) x k := by
  intro n
  induction n with
  | zero => intro x; kernel_rfl
  | succ n ih =>
    intro x
    have h2 := congrArg (fun c => lb54_3 x.1.1 c (fun o => k (.exit 0) ⟨[.v (.c (.sl 51 x.1.1)), ud, ud, .v (.c (.own 51 0)), .v (.c (.int .i64 o.1)), ud, ud, ud, ud, ud, ud, ud, ud, ud, ud, ud, ud, ud, ud, ud, ud, ud, ud, ud, ud, ud, ud, ud, ud, ud, ud, ud, ud], [], [some ⟨51, o.2⟩], 0⟩) x.1.2.1 x.2.2.1) (funext fun v7 => (funext fun v8 => ih (((x.1.1, v7, ()), (), (v8, ())) : SX U st54_3)))
    exact kcast (by kernel_rfl) (chain3 (tl54_3 l3 x0 x k n) h2 (nb54_3 x.1.1 (fun v7 v8 => lp54_3 n x.1.1 v7 v8) (fun o => some o) x.1.2.1 x.2.2.1 (fun o => k (.exit 0) ⟨[.v (.c (.sl 51 x.1.1)), ud, ud, .v (.c (.own 51 0)), .v (.c (.int .i64 o.1)), ud, ud, ud, ud, ud, ud, ud, ud, ud, ud, ud, ud, ud, ud, ud, ud, ud, ud, ud, ud, ud, ud, ud, ud, ud, ud, ud, ud], [], [some ⟨51, o.2⟩], 0⟩)).symm (by kernel_rfl) (by kernel_rfl))
theorem n54 {R S : Type} (l3 : Z54_3) (p0 : (List S51)) (k : (List S51) → Option R) (K : R → Option S) : (b54 l3 p0 k).bind K = b54 l3 p0 (fun r => (k r).bind K) := by
  unfold b54
  simp only [bind_cond, bind_when, bind_elim, Option.bind_assoc, bind_none]
set_option maxRecDepth 100000 in
theorem t54 {R : Type} (l3 : Z54_3) (x : AX U tp54) (κ : U.D → List (List U.C) → Option R) : evFn (F54) (L54 l3) (U.ro 54) (U.rnew 54) Try.f54 (fillS tp54.a x.1) (fillB tp54.b x.2) κ
    = b54 l3 x.1.1 (fun r => κ (.v (.c (.new 51 r))) []) := by kernel_rfl
theorem hF54 {R : Type} : ∀ g, Sound Try.prog (F54 : Nat → Fn U R) g := Fz_sound
theorem lok54_3 {R : Type} : LoopOk Try.prog (L54 (lp54_3 big) : Hn U R) (lpAt Try.f54 0) :=
  hnd_ok uok (hF54) mixed (loops_of (ls := []) (by kernel_rfl) all_nil) (key := 3) (by kernel_rfl) (ws0 := wd54_3) (t := st54_3) (f := h54_3 (lp54_3 big)) (ws := []) (keep := [2]) (fun σ k => by kernel_rfl) (n := big) (fun x k => (ll54_3 (lp54_3 big) x k big x).symm)
theorem q54 {R : Type} {rest : Fn U R} (hr : SoundF Try.prog 54 rest) : SoundF Try.prog 54 (e54 (fun p0 => b54 (lp54_3 big) p0 some) rest) :=
  ent_sound uok mixed (fn := Try.f54) (by kernel_rfl) (by kernel_rfl) (hF54) (L := L54 (lp54_3 big)) (fn_loops (ls := [lpAt Try.f54 0]) (by kernel_rfl) (all_cons (lok54_3) all_nil)) hr (fun x κ => (n54 (lp54_3 big) x.1.1 some _).trans (t54 (lp54_3 big) x κ).symm)
def F60 {R : Type} : Nat → Fn U R := Fz
def L60 {R : Type} : Hn U R := fun key σ k => none
theorem n60 {R S : Type} (p0 : Int) (k : Bool → Option R) (K : R → Option S) : (b60 p0 k).bind K = b60 p0 (fun r => (k r).bind K) := by
  unfold b60
  simp only [bind_cond, bind_when, bind_elim, Option.bind_assoc, bind_none]
set_option maxRecDepth 100000 in
theorem t60 {R : Type} (x : AX U tp60) (κ : U.D → List (List U.C) → Option R) : evFn (F60) (L60) (U.ro 60) (U.rnew 60) Try.f60 (fillS tp60.a x.1) (fillB tp60.b x.2) κ
    = b60 x.1.1 (fun r => κ (.v (.c (.bool r))) []) := by kernel_rfl
theorem hF60 {R : Type} : ∀ g, Sound Try.prog (F60 : Nat → Fn U R) g := Fz_sound
theorem q60 {R : Type} {rest : Fn U R} (hr : SoundF Try.prog 60 rest) : SoundF Try.prog 60 (e60 (fun p0 => b60 p0 some) rest) :=
  ent_sound uok mixed (fn := Try.f60) (by kernel_rfl) (by kernel_rfl) (hF60) (L := L60) (fn_loops (ls := []) (by kernel_rfl) all_nil) hr (fun x κ => (n60 x.1.1 some _).trans (t60 x κ).symm)
def F61 {R : Type} : Nat → Fn U R := Fz
def L61 {R : Type} : Hn U R := fun key σ k => none
theorem n61 {R S : Type} (p0 : Int) (k : Bool → Option R) (K : R → Option S) : (b61 p0 k).bind K = b61 p0 (fun r => (k r).bind K) := by
  unfold b61
  simp only [bind_cond, bind_when, bind_elim, Option.bind_assoc, bind_none]
set_option maxRecDepth 100000 in
theorem t61 {R : Type} (x : AX U tp61) (κ : U.D → List (List U.C) → Option R) : evFn (F61) (L61) (U.ro 61) (U.rnew 61) Try.f61 (fillS tp61.a x.1) (fillB tp61.b x.2) κ
    = b61 x.1.1 (fun r => κ (.v (.c (.bool r))) []) := by kernel_rfl
theorem hF61 {R : Type} : ∀ g, Sound Try.prog (F61 : Nat → Fn U R) g := Fz_sound
theorem q61 {R : Type} {rest : Fn U R} (hr : SoundF Try.prog 61 rest) : SoundF Try.prog 61 (e61 (fun p0 => b61 p0 some) rest) :=
  ent_sound uok mixed (fn := Try.f61) (by kernel_rfl) (by kernel_rfl) (hF61) (L := L61) (fn_loops (ls := []) (by kernel_rfl) all_nil) hr (fun x κ => (n61 x.1.1 some _).trans (t61 x κ).symm)
def F77 {R : Type} : Nat → Fn U R := Fz
def st77_9 : StT := ⟨[.c .s, .c .u, .c .u, .c .u, .c .u, .c .s, .c (.i .i64), .c .u, .c .u, .c .u, .c .u, .c .u, .c .u, .c .u, .c .u, .c .u, .c .u, .c .u, .c .u, .c .u, .c .u, .c .u, .c .u, .c .u, .c .u, .c .u, .c .u, .c .u, .c .u, .c .u, .c .u, .c .u, .c .u, .c .u, .c .u, .c .u, .c .u, .c .u, .c .u, .c .u, .c .u, .c .u, .c .u], [], [some 9], 0⟩
def h77_9 {R : Type} (l : Z77_9) : SX U st77_9 → (Out → St U → Option R) → Option R := fun x k => (l x.1.2.1 x.1.1 x.1.2.2.1).bind (Sum.elim (fun o => k .ret ⟨[.v (.c (.str x.1.1)), ud, .v (.c (.int .i64 o.2)), ud, ud, .v (.c (.str x.1.2.1)), .v (.c (.int .i64 o.1)), ud, ud, ud, ud, ud, ud, ud, ud, ud, ud, ud, ud, ud, ud, ud, ud, ud, ud, ud, ud, ud, ud, ud, ud, ud, ud, ud, ud, ud, ud, ud, ud, ud, ud, ud, ud], [], [some ⟨9, x.2.2.1⟩], 0⟩) (fun o => k (.exit 2) ⟨[.v (.c (.str x.1.1)), ud, ud, ud, ud, .v (.c (.str x.1.2.1)), .v (.c (.int .i64 o)), ud, ud, ud, ud, ud, ud, ud, ud, ud, ud, ud, ud, ud, ud, ud, ud, ud, ud, ud, ud, ud, ud, ud, ud, ud, ud, ud, ud, ud, ud, ud, ud, ud, ud, ud, ud], [], [some ⟨9, x.2.2.1⟩], 0⟩))
def wd77_9 : List Wd := [.drop 1, .drop 2, .drop 3, .drop 4, .drop 7, .drop 8, .drop 9, .drop 10, .drop 11, .drop 12, .drop 13, .drop 14, .drop 15, .drop 16, .drop 17, .drop 18, .drop 19, .drop 20, .drop 21, .drop 22, .drop 23, .drop 24, .drop 25, .drop 26, .drop 27, .drop 28, .drop 29, .drop 30, .drop 31, .drop 32, .drop 33, .drop 34, .drop 35, .drop 36, .drop 37, .drop 38, .drop 39, .drop 40, .drop 41, .drop 42]
def st77_3 : StT := ⟨[.c .s, .c .u, .c .u, .c (.o 9 0), .c (.i .i64), .c .u, .c .u, .c .u, .c .u, .c .u, .c .u, .c .u, .c .u, .c .u, .c .u, .c .u, .c .u, .c .u, .c .u, .c .u, .c .u, .c .u, .c .u, .c .u, .c .u, .c .u, .c .u, .c .u, .c .u, .c .u, .c .u, .c .u, .c .u, .c .u, .c .u, .c .u, .c .u, .c .u, .c .u, .c .u, .c .u, .c .u, .c .u], [], [some 9], 0⟩
def h77_3 {R : Type} (l : Z77_3) : SX U st77_3 → (Out → St U → Option R) → Option R := fun x k => (l x.2.2.1 x.1.1 x.1.2.1).bind (Sum.elim (fun o => k .ret ⟨[.v (.c (.str x.1.1)), ud, .v (.c (.int .i64 o.2)), .v (.c (.own 9 0)), .v (.c (.int .i64 o.1)), ud, ud, ud, ud, ud, ud, ud, ud, ud, ud, ud, ud, ud, ud, ud, ud, ud, ud, ud, ud, ud, ud, ud, ud, ud, ud, ud, ud, ud, ud, ud, ud, ud, ud, ud, ud, ud, ud], [], [some ⟨9, x.2.2.1⟩], 0⟩) (fun o => k (.exit 0) ⟨[.v (.c (.str x.1.1)), ud, ud, .v (.c (.own 9 0)), .v (.c (.int .i64 o)), ud, ud, ud, ud, ud, ud, ud, ud, ud, ud, ud, ud, ud, ud, ud, ud, ud, ud, ud, ud, ud, ud, ud, ud, ud, ud, ud, ud, ud, ud, ud, ud, ud, ud, ud, ud, ud, ud], [], [some ⟨9, x.2.2.1⟩], 0⟩))
def wd77_3 : List Wd := [.drop 1, .drop 2, .drop 5, .drop 6, .drop 7, .drop 8, .drop 9, .drop 10, .drop 11, .drop 12, .drop 13, .drop 14, .drop 15, .drop 16, .drop 17, .drop 18, .drop 19, .drop 20, .drop 21, .drop 22, .drop 23, .drop 24, .drop 25, .drop 26, .drop 27, .drop 28, .drop 29, .drop 30, .drop 31, .drop 32, .drop 33, .drop 34, .drop 35, .drop 36, .drop 37, .drop 38, .drop 39, .drop 40, .drop 41, .drop 42]
def L77 {R : Type} (l3 : Z77_3) (l9 : Z77_9) : Hn U R := fun key σ k => bif Nat.beq key 3 then hnd wd77_3 st77_3 (h77_3 l3) σ k else bif Nat.beq key 9 then hnd wd77_9 st77_9 (h77_9 l9) σ k else none
set_option maxRecDepth 100000 in
theorem tl77_9 {R : Type} (l3 : Z77_3) (l9 : Z77_9) (x0 x : SX U st77_9) (k : Out → St U → Option R) (n : Nat) : loopN [2] [] (fun σ k => ev (F77) (L77 l3 l9) (lpAt Try.f77 1) σ k) (fillSt st77_9 x0) k (n + 1) (fillSt st77_9 x)
    = lb77_9 x.1.2.1 x.1.1 (fun v14 => loopN [2] [] (fun σ k => ev (F77) (L77 l3 l9) (lpAt Try.f77 1) σ k) (fillSt st77_9 x0) k n (fillSt st77_9 (((x.1.1, x.1.2.1, v14, ()), (), (x.2.2.1, ())) : SX U st77_9))) (fun o => k .ret ⟨[.v (.c (.str x.1.1)), ud, .v (.c (.int .i64 o.2)), ud, ud, .v (.c (.str x.1.2.1)), .v (.c (.int .i64 o.1)), ud, ud, ud, ud, ud, ud, ud, ud, ud, ud, ud, ud, ud, ud, ud, ud, ud, ud, ud, ud, ud, ud, ud, ud, ud, ud, ud, ud, ud, ud, ud, ud, ud, ud, ud, ud], [], [some ⟨9, x.2.2.1⟩], 0⟩) (fun o => k (.exit 2) ⟨[.v (.c (.str x.1.1)), ud, ud, ud, ud, .v (.c (.str x.1.2.1)), .v (.c (.int .i64 o)), ud, ud, ud, ud, ud, ud, ud, ud, ud, ud, ud, ud, ud, ud, ud, ud, ud, ud, ud, ud, ud, ud, ud, ud, ud, ud, ud, ud, ud, ud, ud, ud, ud, ud, ud, ud], [], [some ⟨9, x.2.2.1⟩], 0⟩) x.1.2.2.1 := by kernel_rfl
theorem nb77_9 {R S : Type} (q13 : ByteArray) (q12 : ByteArray) (c : Int → Option R) (e0 : (Int × Int) → Option R) (e1 : Int → Option R) (v14 : Int) (K : R → Option S) : (lb77_9 q13 q12 c e0 e1 v14).bind K = lb77_9 q13 q12 (fun v14 => (c v14).bind K) (fun o => (e0 o).bind K) (fun o => (e1 o).bind K) v14 := by
  unfold lb77_9
  simp only [bind_cond, bind_when, bind_elim, Option.bind_assoc, bind_none]
set_option maxHeartbeats 1000000 in
theorem ll77_9 {R : Type} (l3 : Z77_3) (l9 : Z77_9) (x0 : SX U st77_9) (k : Out → St U → Option R) : ∀ (n : Nat) (x : SX U st77_9), loopN [2] [] (fun σ k => ev (F77) (L77 l3 l9) (lpAt Try.f77 1) σ k) (fillSt st77_9 x0) k n (fillSt st77_9 x)
    = h77_9 (lp77_9 n) x k := by
  intro n
  induction n with
  | zero => intro x; kernel_rfl
  | succ n ih =>
    intro x
    have h2 := congrArg (fun c => lb77_9 x.1.2.1 x.1.1 c (fun o => k .ret ⟨[.v (.c (.str x.1.1)), ud, .v (.c (.int .i64 o.2)), ud, ud, .v (.c (.str x.1.2.1)), .v (.c (.int .i64 o.1)), ud, ud, ud, ud, ud, ud, ud, ud, ud, ud, ud, ud, ud, ud, ud, ud, ud, ud, ud, ud, ud, ud, ud, ud, ud, ud, ud, ud, ud, ud, ud, ud, ud, ud, ud, ud], [], [some ⟨9, x.2.2.1⟩], 0⟩) (fun o => k (.exit 2) ⟨[.v (.c (.str x.1.1)), ud, ud, ud, ud, .v (.c (.str x.1.2.1)), .v (.c (.int .i64 o)), ud, ud, ud, ud, ud, ud, ud, ud, ud, ud, ud, ud, ud, ud, ud, ud, ud, ud, ud, ud, ud, ud, ud, ud, ud, ud, ud, ud, ud, ud, ud, ud, ud, ud, ud, ud], [], [some ⟨9, x.2.2.1⟩], 0⟩) x.1.2.2.1) (funext fun v14 => ih (((x.1.1, x.1.2.1, v14, ()), (), (x.2.2.1, ())) : SX U st77_9))
    exact kcast (by kernel_rfl) (chain3 (tl77_9 l3 l9 x0 x k n) h2 (nb77_9 x.1.2.1 x.1.1 (fun v14 => lp77_9 n x.1.2.1 x.1.1 v14) (fun o => some (Sum.inl o)) (fun o => some (Sum.inr (o))) x.1.2.2.1 (Sum.elim (fun o => k .ret ⟨[.v (.c (.str x.1.1)), ud, .v (.c (.int .i64 o.2)), ud, ud, .v (.c (.str x.1.2.1)), .v (.c (.int .i64 o.1)), ud, ud, ud, ud, ud, ud, ud, ud, ud, ud, ud, ud, ud, ud, ud, ud, ud, ud, ud, ud, ud, ud, ud, ud, ud, ud, ud, ud, ud, ud, ud, ud, ud, ud, ud, ud], [], [some ⟨9, x.2.2.1⟩], 0⟩) (fun o => k (.exit 2) ⟨[.v (.c (.str x.1.1)), ud, ud, ud, ud, .v (.c (.str x.1.2.1)), .v (.c (.int .i64 o)), ud, ud, ud, ud, ud, ud, ud, ud, ud, ud, ud, ud, ud, ud, ud, ud, ud, ud, ud, ud, ud, ud, ud, ud, ud, ud, ud, ud, ud, ud, ud, ud, ud, ud, ud, ud], [], [some ⟨9, x.2.2.1⟩], 0⟩))).symm (by kernel_rfl) (by kernel_rfl))
set_option maxRecDepth 100000 in
theorem tl77_3 {R : Type} (l3 : Z77_3) (l9 : Z77_9) (x0 x : SX U st77_3) (k : Out → St U → Option R) (n : Nat) : loopN [2] [] (fun σ k => ev (F77) (L77 l3 l9) (lpAt Try.f77 0) σ k) (fillSt st77_3 x0) k (n + 1) (fillSt st77_3 x)
    = lb77_3 x.2.2.1 x.1.1 (fun v5 => loopN [2] [] (fun σ k => ev (F77) (L77 l3 l9) (lpAt Try.f77 0) σ k) (fillSt st77_3 x0) k n (fillSt st77_3 (((x.1.1, v5, ()), (), (x.2.2.1, ())) : SX U st77_3))) (fun o => k .ret ⟨[.v (.c (.str x.1.1)), ud, .v (.c (.int .i64 o.2)), .v (.c (.own 9 0)), .v (.c (.int .i64 o.1)), ud, ud, ud, ud, ud, ud, ud, ud, ud, ud, ud, ud, ud, ud, ud, ud, ud, ud, ud, ud, ud, ud, ud, ud, ud, ud, ud, ud, ud, ud, ud, ud, ud, ud, ud, ud, ud, ud], [], [some ⟨9, x.2.2.1⟩], 0⟩) (fun o => k (.exit 0) ⟨[.v (.c (.str x.1.1)), ud, ud, .v (.c (.own 9 0)), .v (.c (.int .i64 o)), ud, ud, ud, ud, ud, ud, ud, ud, ud, ud, ud, ud, ud, ud, ud, ud, ud, ud, ud, ud, ud, ud, ud, ud, ud, ud, ud, ud, ud, ud, ud, ud, ud, ud, ud, ud, ud, ud], [], [some ⟨9, x.2.2.1⟩], 0⟩) x.1.2.1 := by kernel_rfl
theorem nb77_3 {R S : Type} (q6 : List ByteArray) (q4 : ByteArray) (c : Int → Option R) (e0 : (Int × Int) → Option R) (e1 : Int → Option R) (v5 : Int) (K : R → Option S) : (lb77_3 q6 q4 c e0 e1 v5).bind K = lb77_3 q6 q4 (fun v5 => (c v5).bind K) (fun o => (e0 o).bind K) (fun o => (e1 o).bind K) v5 := by
  unfold lb77_3
  simp only [bind_cond, bind_when, bind_elim, Option.bind_assoc, bind_none]
set_option maxHeartbeats 1000000 in
theorem ll77_3 {R : Type} (l3 : Z77_3) (l9 : Z77_9) (x0 : SX U st77_3) (k : Out → St U → Option R) : ∀ (n : Nat) (x : SX U st77_3), loopN [2] [] (fun σ k => ev (F77) (L77 l3 l9) (lpAt Try.f77 0) σ k) (fillSt st77_3 x0) k n (fillSt st77_3 x)
    = h77_3 (lp77_3 n) x k := by
  intro n
  induction n with
  | zero => intro x; kernel_rfl
  | succ n ih =>
    intro x
    have h2 := congrArg (fun c => lb77_3 x.2.2.1 x.1.1 c (fun o => k .ret ⟨[.v (.c (.str x.1.1)), ud, .v (.c (.int .i64 o.2)), .v (.c (.own 9 0)), .v (.c (.int .i64 o.1)), ud, ud, ud, ud, ud, ud, ud, ud, ud, ud, ud, ud, ud, ud, ud, ud, ud, ud, ud, ud, ud, ud, ud, ud, ud, ud, ud, ud, ud, ud, ud, ud, ud, ud, ud, ud, ud, ud], [], [some ⟨9, x.2.2.1⟩], 0⟩) (fun o => k (.exit 0) ⟨[.v (.c (.str x.1.1)), ud, ud, .v (.c (.own 9 0)), .v (.c (.int .i64 o)), ud, ud, ud, ud, ud, ud, ud, ud, ud, ud, ud, ud, ud, ud, ud, ud, ud, ud, ud, ud, ud, ud, ud, ud, ud, ud, ud, ud, ud, ud, ud, ud, ud, ud, ud, ud, ud, ud], [], [some ⟨9, x.2.2.1⟩], 0⟩) x.1.2.1) (funext fun v5 => ih (((x.1.1, v5, ()), (), (x.2.2.1, ())) : SX U st77_3))
    exact kcast (by kernel_rfl) (chain3 (tl77_3 l3 l9 x0 x k n) h2 (nb77_3 x.2.2.1 x.1.1 (fun v5 => lp77_3 n x.2.2.1 x.1.1 v5) (fun o => some (Sum.inl o)) (fun o => some (Sum.inr (o))) x.1.2.1 (Sum.elim (fun o => k .ret ⟨[.v (.c (.str x.1.1)), ud, .v (.c (.int .i64 o.2)), .v (.c (.own 9 0)), .v (.c (.int .i64 o.1)), ud, ud, ud, ud, ud, ud, ud, ud, ud, ud, ud, ud, ud, ud, ud, ud, ud, ud, ud, ud, ud, ud, ud, ud, ud, ud, ud, ud, ud, ud, ud, ud, ud, ud, ud, ud, ud, ud], [], [some ⟨9, x.2.2.1⟩], 0⟩) (fun o => k (.exit 0) ⟨[.v (.c (.str x.1.1)), ud, ud, .v (.c (.own 9 0)), .v (.c (.int .i64 o)), ud, ud, ud, ud, ud, ud, ud, ud, ud, ud, ud, ud, ud, ud, ud, ud, ud, ud, ud, ud, ud, ud, ud, ud, ud, ud, ud, ud, ud, ud, ud, ud, ud, ud, ud, ud, ud, ud], [], [some ⟨9, x.2.2.1⟩], 0⟩))).symm (by kernel_rfl) (by kernel_rfl))
theorem n77 {R S : Type} (l3 : Z77_3) (l9 : Z77_9) (p0 : ByteArray) (k : Int → Option R) (K : R → Option S) : (b77 l3 l9 p0 k).bind K = b77 l3 l9 p0 (fun r => (k r).bind K) := by
  unfold b77
  simp only [bind_cond, bind_when, bind_elim, Option.bind_assoc, bind_none]
set_option maxRecDepth 100000 in
theorem t77 {R : Type} (l3 : Z77_3) (l9 : Z77_9) (x : AX U tp77) (κ : U.D → List (List U.C) → Option R) : evFn (F77) (L77 l3 l9) (U.ro 77) (U.rnew 77) Try.f77 (fillS tp77.a x.1) (fillB tp77.b x.2) κ
    = b77 l3 l9 x.1.1 (fun r => κ (.v (.c (.int .i64 r))) []) := by kernel_rfl
theorem hF77 {R : Type} : ∀ g, Sound Try.prog (F77 : Nat → Fn U R) g := Fz_sound
theorem lok77_9 {R : Type} : LoopOk Try.prog (L77 (lp77_3 big) (lp77_9 big) : Hn U R) (lpAt Try.f77 1) :=
  hnd_ok uok (hF77) mixed (loops_of (ls := []) (by kernel_rfl) all_nil) (key := 9) (by kernel_rfl) (ws0 := wd77_9) (t := st77_9) (f := h77_9 (lp77_9 big)) (ws := []) (keep := [2]) (fun σ k => by kernel_rfl) (n := big) (fun x k => (ll77_9 (lp77_3 big) (lp77_9 big) x k big x).symm)
theorem lok77_3 {R : Type} : LoopOk Try.prog (L77 (lp77_3 big) (lp77_9 big) : Hn U R) (lpAt Try.f77 0) :=
  hnd_ok uok (hF77) mixed (loops_of (ls := []) (by kernel_rfl) all_nil) (key := 3) (by kernel_rfl) (ws0 := wd77_3) (t := st77_3) (f := h77_3 (lp77_3 big)) (ws := []) (keep := [2]) (fun σ k => by kernel_rfl) (n := big) (fun x k => (ll77_3 (lp77_3 big) (lp77_9 big) x k big x).symm)
theorem q77 {R : Type} {rest : Fn U R} (hr : SoundF Try.prog 77 rest) : SoundF Try.prog 77 (e77 (fun p0 => b77 (lp77_3 big) (lp77_9 big) p0 some) rest) :=
  ent_sound uok mixed (fn := Try.f77) (by kernel_rfl) (by kernel_rfl) (hF77) (L := L77 (lp77_3 big) (lp77_9 big)) (fn_loops (ls := [lpAt Try.f77 0, lpAt Try.f77 1]) (by kernel_rfl) (all_cons (lok77_3) (all_cons (lok77_9) all_nil))) hr (fun x κ => (n77 (lp77_3 big) (lp77_9 big) x.1.1 some _).trans (t77 (lp77_3 big) (lp77_9 big) x κ).symm)
def F55 {R : Type} (f60 : Y60) (f61 : Y61) (f77 : Y77) : Nat → Fn U R := (Fc 60 (e60 f60 (Fz 60)) (Fc 61 (e61 f61 (Fz 61)) (Fc 77 (e77 f77 (Fz 77)) Fz)))
def st55_21 : StT := ⟨[.c .s, .c .u, .c .u, .c (.o 51 0), .c (.i .i64), .c .u, .c (.i .i64), .c (.i .i64), .c .u, .c .u, .c .u, .c .u, .c .u, .c .u, .c .u, .c .u, .c .u, .c .u, .c .u, .c .u, .c .u, .c .u, .c .u, .c .u, .c .u, .c .u, .c .u, .c .u, .c .u, .c .u, .c .u, .c .u, .c .u, .c .u, .c .u, .c .u, .c .u, .c .u, .c .u, .c .u, .c .u, .c .u, .c .u, .c .u, .c .u, .c .u, .c .u, .c .u, .c .u, .c .u, .c .u, .c .u, .c .u, .c .u, .c .u, .c .u, .c .u, .c .u, .c .u, .c .u, .c .u, .c .u, .c .u, .c .u, .c .u, .c .u, .c .u, .c .u, .c .u, .c .u, .c .u, .c .u, .c .u, .c .u, .c .u, .c .u, .c .u, .c .u, .c .u, .c .u, .c .u, .c .u, .c .u, .c .u, .c .u, .c .u, .c .u, .c .u, .c .u, .c .u, .c .u, .c .u, .c .u, .c .u, .c .u, .c .u, .c .u, .c .u, .c .u, .c .u, .c .u, .c .u, .c .u, .c .u, .c .u, .c .u, .c .u, .c .u, .c .u, .c .u, .c .u, .c .u, .c .u, .c .u, .c .u, .c .u, .c .u, .c .u, .c .u, .c .u, .c .u, .c .u, .c .u, .c .u, .c .u, .c .u, .c .u, .c .u], [], [some 51], 0⟩
def h55_21 {R : Type} (l : Z55_21) : SX U st55_21 → (Out → St U → Option R) → Option R := fun x k => (l x.1.1 x.1.2.2.1).bind (fun o => k (.exit 8) ⟨[.v (.c (.str x.1.1)), ud, ud, .v (.c (.own 51 0)), .v (.c (.int .i64 x.1.2.1)), ud, .v (.c (.int .i64 o)), .v (.c (.int .i64 x.1.2.2.2.1)), ud, ud, ud, ud, ud, ud, ud, ud, ud, ud, ud, ud, ud, ud, ud, ud, ud, ud, ud, ud, ud, ud, ud, ud, ud, ud, ud, ud, ud, ud, ud, ud, ud, ud, ud, ud, ud, ud, ud, ud, ud, ud, ud, ud, ud, ud, ud, ud, ud, ud, ud, ud, ud, ud, ud, ud, ud, ud, ud, ud, ud, ud, ud, ud, ud, ud, ud, ud, ud, ud, ud, ud, ud, ud, ud, ud, ud, ud, ud, ud, ud, ud, ud, ud, ud, ud, ud, ud, ud, ud, ud, ud, ud, ud, ud, ud, ud, ud, ud, ud, ud, ud, ud, ud, ud, ud, ud, ud, ud, ud, ud, ud, ud, ud, ud, ud, ud, ud, ud, ud], [], [some ⟨51, x.2.2.1⟩], 0⟩)
def wd55_21 : List Wd := [.drop 1, .drop 2, .drop 5, .drop 8, .drop 9, .drop 10, .drop 11, .drop 12, .drop 13, .drop 14, .drop 15, .drop 16, .drop 17, .drop 18, .drop 19, .drop 20, .drop 21, .drop 22, .drop 23, .drop 24, .drop 25, .drop 26, .drop 27, .drop 28, .drop 29, .drop 30, .drop 31, .drop 32, .drop 33, .drop 34, .drop 35, .drop 36, .drop 37, .drop 38, .drop 39, .drop 40, .drop 41, .drop 42, .drop 43, .drop 44, .drop 45, .drop 46, .drop 47, .drop 48, .drop 49, .drop 50, .drop 51, .drop 52, .drop 53, .drop 54, .drop 55, .drop 56, .drop 57, .drop 58, .drop 59, .drop 60, .drop 61, .drop 62, .drop 63, .drop 64, .drop 65, .drop 66, .drop 67, .drop 68, .drop 69, .drop 70, .drop 71, .drop 72, .drop 73, .drop 74, .drop 75, .drop 76, .drop 77, .drop 78, .drop 79, .drop 80, .drop 81, .drop 82, .drop 83, .drop 84, .drop 85, .drop 86, .drop 87, .drop 88, .drop 89, .drop 90, .drop 91, .drop 92, .drop 93, .drop 94, .drop 95, .drop 96, .drop 97, .drop 98, .drop 99, .drop 100, .drop 101, .drop 102, .drop 103, .drop 104, .drop 105, .drop 106, .drop 107, .drop 108, .drop 109, .drop 110, .drop 111, .drop 112, .drop 113, .drop 114, .drop 115, .drop 116, .drop 117, .drop 118, .drop 119, .drop 120, .drop 121, .drop 122, .drop 123, .drop 124, .drop 125, .drop 126, .drop 127]
def st55_17 : StT := ⟨[.c .s, .c .u, .c .u, .c (.o 51 0), .c (.i .i64), .c .u, .c (.i .i64), .c (.i .i64), .c .u, .c .u, .c .u, .c .u, .c .u, .c .u, .c .u, .c .u, .c .u, .c .u, .c .u, .c .u, .c .u, .c .u, .c .u, .c .u, .c .u, .c .u, .c .u, .c .u, .c .u, .c .u, .c .u, .c .u, .c .u, .c .u, .c .u, .c .u, .c .u, .c .u, .c .u, .c .u, .c .u, .c .u, .c .u, .c .u, .c .u, .c .u, .c .u, .c .u, .c .u, .c .u, .c .u, .c .u, .c .u, .c .u, .c .u, .c .u, .c .u, .c .u, .c .u, .c .u, .c .u, .c .u, .c .u, .c .u, .c .u, .c .u, .c .u, .c .u, .c .u, .c .u, .c .u, .c .u, .c .u, .c .u, .c .u, .c .u, .c .u, .c .u, .c .u, .c .u, .c .u, .c .u, .c .u, .c .u, .c .u, .c .u, .c .u, .c .u, .c .u, .c .u, .c .u, .c .u, .c .u, .c .u, .c .u, .c .u, .c .u, .c .u, .c .u, .c .u, .c .u, .c .u, .c .u, .c .u, .c .u, .c .u, .c .u, .c .u, .c .u, .c .u, .c .u, .c .u, .c .u, .c .u, .c .u, .c .u, .c .u, .c .u, .c .u, .c .u, .c .u, .c .u, .c .u, .c .u, .c .u, .c .u, .c .u, .c .u], [], [some 51], 0⟩
def h55_17 {R : Type} (l : Z55_17) : SX U st55_17 → (Out → St U → Option R) → Option R := fun x k => (l x.1.1 x.1.2.2.1).bind (fun o => k (.exit 6) ⟨[.v (.c (.str x.1.1)), ud, ud, .v (.c (.own 51 0)), .v (.c (.int .i64 x.1.2.1)), ud, .v (.c (.int .i64 o)), .v (.c (.int .i64 x.1.2.2.2.1)), ud, ud, ud, ud, ud, ud, ud, ud, ud, ud, ud, ud, ud, ud, ud, ud, ud, ud, ud, ud, ud, ud, ud, ud, ud, ud, ud, ud, ud, ud, ud, ud, ud, ud, ud, ud, ud, ud, ud, ud, ud, ud, ud, ud, ud, ud, ud, ud, ud, ud, ud, ud, ud, ud, ud, ud, ud, ud, ud, ud, ud, ud, ud, ud, ud, ud, ud, ud, ud, ud, ud, ud, ud, ud, ud, ud, ud, ud, ud, ud, ud, ud, ud, ud, ud, ud, ud, ud, ud, ud, ud, ud, ud, ud, ud, ud, ud, ud, ud, ud, ud, ud, ud, ud, ud, ud, ud, ud, ud, ud, ud, ud, ud, ud, ud, ud, ud, ud, ud, ud], [], [some ⟨51, x.2.2.1⟩], 0⟩)
def wd55_17 : List Wd := [.drop 1, .drop 2, .drop 5, .drop 8, .drop 9, .drop 10, .drop 11, .drop 12, .drop 13, .drop 14, .drop 15, .drop 16, .drop 17, .drop 18, .drop 19, .drop 20, .drop 21, .drop 22, .drop 23, .drop 24, .drop 25, .drop 26, .drop 27, .drop 28, .drop 29, .drop 30, .drop 31, .drop 32, .drop 33, .drop 34, .drop 35, .drop 36, .drop 37, .drop 38, .drop 39, .drop 40, .drop 41, .drop 42, .drop 43, .drop 44, .drop 45, .drop 46, .drop 47, .drop 48, .drop 49, .drop 50, .drop 51, .drop 52, .drop 53, .drop 54, .drop 55, .drop 56, .drop 57, .drop 58, .drop 59, .drop 60, .drop 61, .drop 62, .drop 63, .drop 64, .drop 65, .drop 66, .drop 67, .drop 68, .drop 69, .drop 70, .drop 71, .drop 72, .drop 73, .drop 74, .drop 75, .drop 76, .drop 77, .drop 78, .drop 79, .drop 80, .drop 81, .drop 82, .drop 83, .drop 84, .drop 85, .drop 86, .drop 87, .drop 88, .drop 89, .drop 90, .drop 91, .drop 92, .drop 93, .drop 94, .drop 95, .drop 96, .drop 97, .drop 98, .drop 99, .drop 100, .drop 101, .drop 102, .drop 103, .drop 104, .drop 105, .drop 106, .drop 107, .drop 108, .drop 109, .drop 110, .drop 111, .drop 112, .drop 113, .drop 114, .drop 115, .drop 116, .drop 117, .drop 118, .drop 119, .drop 120, .drop 121, .drop 122, .drop 123, .drop 124, .drop 125, .drop 126, .drop 127]
def st55_13 : StT := ⟨[.c .s, .c .u, .c .u, .c (.o 51 0), .c (.i .i64), .c .u, .c (.i .i64), .c (.i .i64), .c .u, .c .u, .c .u, .c .u, .c .u, .c .u, .c .u, .c .u, .c .u, .c .u, .c .u, .c .u, .c .u, .c .u, .c .u, .c .u, .c .u, .c .u, .c .u, .c .u, .c .u, .c .u, .c .u, .c .u, .c .u, .c .u, .c .u, .c .u, .c .u, .c .u, .c .u, .c .u, .c .u, .c .u, .c .u, .c .u, .c .u, .c .u, .c .u, .c .u, .c .u, .c .u, .c .u, .c .u, .c .u, .c .u, .c .u, .c .u, .c .u, .c .u, .c .u, .c .u, .c .u, .c .u, .c .u, .c .u, .c .u, .c .u, .c .u, .c .u, .c .u, .c .u, .c .u, .c .u, .c .u, .c .u, .c .u, .c .u, .c .u, .c .u, .c .u, .c .u, .c .u, .c .u, .c .u, .c .u, .c .u, .c .u, .c .u, .c .u, .c .u, .c .u, .c .u, .c .u, .c .u, .c .u, .c .u, .c .u, .c .u, .c .u, .c .u, .c .u, .c .u, .c .u, .c .u, .c .u, .c .u, .c .u, .c .u, .c .u, .c .u, .c .u, .c .u, .c .u, .c .u, .c .u, .c .u, .c .u, .c .u, .c .u, .c .u, .c .u, .c .u, .c .u, .c .u, .c .u, .c .u, .c .u, .c .u, .c .u], [], [some 51], 0⟩
def h55_13 {R : Type} (l : Z55_13) : SX U st55_13 → (Out → St U → Option R) → Option R := fun x k => (l x.1.1 x.1.2.2.1).bind (fun o => k (.exit 4) ⟨[.v (.c (.str x.1.1)), ud, ud, .v (.c (.own 51 0)), .v (.c (.int .i64 x.1.2.1)), ud, .v (.c (.int .i64 o)), .v (.c (.int .i64 x.1.2.2.2.1)), ud, ud, ud, ud, ud, ud, ud, ud, ud, ud, ud, ud, ud, ud, ud, ud, ud, ud, ud, ud, ud, ud, ud, ud, ud, ud, ud, ud, ud, ud, ud, ud, ud, ud, ud, ud, ud, ud, ud, ud, ud, ud, ud, ud, ud, ud, ud, ud, ud, ud, ud, ud, ud, ud, ud, ud, ud, ud, ud, ud, ud, ud, ud, ud, ud, ud, ud, ud, ud, ud, ud, ud, ud, ud, ud, ud, ud, ud, ud, ud, ud, ud, ud, ud, ud, ud, ud, ud, ud, ud, ud, ud, ud, ud, ud, ud, ud, ud, ud, ud, ud, ud, ud, ud, ud, ud, ud, ud, ud, ud, ud, ud, ud, ud, ud, ud, ud, ud, ud, ud], [], [some ⟨51, x.2.2.1⟩], 0⟩)
def wd55_13 : List Wd := [.drop 1, .drop 2, .drop 5, .drop 8, .drop 9, .drop 10, .drop 11, .drop 12, .drop 13, .drop 14, .drop 15, .drop 16, .drop 17, .drop 18, .drop 19, .drop 20, .drop 21, .drop 22, .drop 23, .drop 24, .drop 25, .drop 26, .drop 27, .drop 28, .drop 29, .drop 30, .drop 31, .drop 32, .drop 33, .drop 34, .drop 35, .drop 36, .drop 37, .drop 38, .drop 39, .drop 40, .drop 41, .drop 42, .drop 43, .drop 44, .drop 45, .drop 46, .drop 47, .drop 48, .drop 49, .drop 50, .drop 51, .drop 52, .drop 53, .drop 54, .drop 55, .drop 56, .drop 57, .drop 58, .drop 59, .drop 60, .drop 61, .drop 62, .drop 63, .drop 64, .drop 65, .drop 66, .drop 67, .drop 68, .drop 69, .drop 70, .drop 71, .drop 72, .drop 73, .drop 74, .drop 75, .drop 76, .drop 77, .drop 78, .drop 79, .drop 80, .drop 81, .drop 82, .drop 83, .drop 84, .drop 85, .drop 86, .drop 87, .drop 88, .drop 89, .drop 90, .drop 91, .drop 92, .drop 93, .drop 94, .drop 95, .drop 96, .drop 97, .drop 98, .drop 99, .drop 100, .drop 101, .drop 102, .drop 103, .drop 104, .drop 105, .drop 106, .drop 107, .drop 108, .drop 109, .drop 110, .drop 111, .drop 112, .drop 113, .drop 114, .drop 115, .drop 116, .drop 117, .drop 118, .drop 119, .drop 120, .drop 121, .drop 122, .drop 123, .drop 124, .drop 125, .drop 126, .drop 127]
def st55_9 : StT := ⟨[.c .s, .c .u, .c .u, .c (.o 51 0), .c (.i .i64), .c .u, .c (.i .i64), .c (.i .i64), .c .u, .c .u, .c .u, .c .u, .c .u, .c .u, .c .u, .c .u, .c .u, .c .u, .c .u, .c .u, .c .u, .c .u, .c .u, .c .u, .c .u, .c .u, .c .u, .c .u, .c .u, .c .u, .c .u, .c .u, .c .u, .c .u, .c .u, .c .u, .c .u, .c .u, .c .u, .c .u, .c .u, .c .u, .c .u, .c .u, .c .u, .c .u, .c .u, .c .u, .c .u, .c .u, .c .u, .c .u, .c .u, .c .u, .c .u, .c .u, .c .u, .c .u, .c .u, .c .u, .c .u, .c .u, .c .u, .c .u, .c .u, .c .u, .c .u, .c .u, .c .u, .c .u, .c .u, .c .u, .c .u, .c .u, .c .u, .c .u, .c .u, .c .u, .c .u, .c .u, .c .u, .c .u, .c .u, .c .u, .c .u, .c .u, .c .u, .c .u, .c .u, .c .u, .c .u, .c .u, .c .u, .c .u, .c .u, .c .u, .c .u, .c .u, .c .u, .c .u, .c .u, .c .u, .c .u, .c .u, .c .u, .c .u, .c .u, .c .u, .c .u, .c .u, .c .u, .c .u, .c .u, .c .u, .c .u, .c .u, .c .u, .c .u, .c .u, .c .u, .c .u, .c .u, .c .u, .c .u, .c .u, .c .u, .c .u, .c .u], [], [some 51], 0⟩
def h55_9 {R : Type} (l : Z55_9) : SX U st55_9 → (Out → St U → Option R) → Option R := fun x k => (l x.1.1 x.1.2.2.1).bind (fun o => k (.exit 2) ⟨[.v (.c (.str x.1.1)), ud, ud, .v (.c (.own 51 0)), .v (.c (.int .i64 x.1.2.1)), ud, .v (.c (.int .i64 o)), .v (.c (.int .i64 x.1.2.2.2.1)), ud, ud, ud, ud, ud, ud, ud, ud, ud, ud, ud, ud, ud, ud, ud, ud, ud, ud, ud, ud, ud, ud, ud, ud, ud, ud, ud, ud, ud, ud, ud, ud, ud, ud, ud, ud, ud, ud, ud, ud, ud, ud, ud, ud, ud, ud, ud, ud, ud, ud, ud, ud, ud, ud, ud, ud, ud, ud, ud, ud, ud, ud, ud, ud, ud, ud, ud, ud, ud, ud, ud, ud, ud, ud, ud, ud, ud, ud, ud, ud, ud, ud, ud, ud, ud, ud, ud, ud, ud, ud, ud, ud, ud, ud, ud, ud, ud, ud, ud, ud, ud, ud, ud, ud, ud, ud, ud, ud, ud, ud, ud, ud, ud, ud, ud, ud, ud, ud, ud, ud], [], [some ⟨51, x.2.2.1⟩], 0⟩)
def wd55_9 : List Wd := [.drop 1, .drop 2, .drop 5, .drop 8, .drop 9, .drop 10, .drop 11, .drop 12, .drop 13, .drop 14, .drop 15, .drop 16, .drop 17, .drop 18, .drop 19, .drop 20, .drop 21, .drop 22, .drop 23, .drop 24, .drop 25, .drop 26, .drop 27, .drop 28, .drop 29, .drop 30, .drop 31, .drop 32, .drop 33, .drop 34, .drop 35, .drop 36, .drop 37, .drop 38, .drop 39, .drop 40, .drop 41, .drop 42, .drop 43, .drop 44, .drop 45, .drop 46, .drop 47, .drop 48, .drop 49, .drop 50, .drop 51, .drop 52, .drop 53, .drop 54, .drop 55, .drop 56, .drop 57, .drop 58, .drop 59, .drop 60, .drop 61, .drop 62, .drop 63, .drop 64, .drop 65, .drop 66, .drop 67, .drop 68, .drop 69, .drop 70, .drop 71, .drop 72, .drop 73, .drop 74, .drop 75, .drop 76, .drop 77, .drop 78, .drop 79, .drop 80, .drop 81, .drop 82, .drop 83, .drop 84, .drop 85, .drop 86, .drop 87, .drop 88, .drop 89, .drop 90, .drop 91, .drop 92, .drop 93, .drop 94, .drop 95, .drop 96, .drop 97, .drop 98, .drop 99, .drop 100, .drop 101, .drop 102, .drop 103, .drop 104, .drop 105, .drop 106, .drop 107, .drop 108, .drop 109, .drop 110, .drop 111, .drop 112, .drop 113, .drop 114, .drop 115, .drop 116, .drop 117, .drop 118, .drop 119, .drop 120, .drop 121, .drop 122, .drop 123, .drop 124, .drop 125, .drop 126, .drop 127]
def st55_3 : StT := ⟨[.c .s, .c .u, .c .u, .c (.o 51 0), .c (.i .i64), .c .u, .c .u, .c .u, .c .u, .c .u, .c .u, .c .u, .c .u, .c .u, .c .u, .c .u, .c .u, .c .u, .c .u, .c .u, .c .u, .c .u, .c .u, .c .u, .c .u, .c .u, .c .u, .c .u, .c .u, .c .u, .c .u, .c .u, .c .u, .c .u, .c .u, .c .u, .c .u, .c .u, .c .u, .c .u, .c .u, .c .u, .c .u, .c .u, .c .u, .c .u, .c .u, .c .u, .c .u, .c .u, .c .u, .c .u, .c .u, .c .u, .c .u, .c .u, .c .u, .c .u, .c .u, .c .u, .c .u, .c .u, .c .u, .c .u, .c .u, .c .u, .c .u, .c .u, .c .u, .c .u, .c .u, .c .u, .c .u, .c .u, .c .u, .c .u, .c .u, .c .u, .c .u, .c .u, .c .u, .c .u, .c .u, .c .u, .c .u, .c .u, .c .u, .c .u, .c .u, .c .u, .c .u, .c .u, .c .u, .c .u, .c .u, .c .u, .c .u, .c .u, .c .u, .c .u, .c .u, .c .u, .c .u, .c .u, .c .u, .c .u, .c .u, .c .u, .c .u, .c .u, .c .u, .c .u, .c .u, .c .u, .c .u, .c .u, .c .u, .c .u, .c .u, .c .u, .c .u, .c .u, .c .u, .c .u, .c .u, .c .u, .c .u, .c .u], [], [some 51], 0⟩
def h55_3 {R : Type} (l : Z55_3) : SX U st55_3 → (Out → St U → Option R) → Option R := fun x k => (l x.1.1 x.1.2.1 x.2.2.1).bind (fun o => k (.exit 0) ⟨[.v (.c (.str x.1.1)), ud, ud, .v (.c (.own 51 0)), .v (.c (.int .i64 o.1)), ud, ud, ud, ud, ud, ud, ud, ud, ud, ud, ud, ud, ud, ud, ud, ud, ud, ud, ud, ud, ud, ud, ud, ud, ud, ud, ud, ud, ud, ud, ud, ud, ud, ud, ud, ud, ud, ud, ud, ud, ud, ud, ud, ud, ud, ud, ud, ud, ud, ud, ud, ud, ud, ud, ud, ud, ud, ud, ud, ud, ud, ud, ud, ud, ud, ud, ud, ud, ud, ud, ud, ud, ud, ud, ud, ud, ud, ud, ud, ud, ud, ud, ud, ud, ud, ud, ud, ud, ud, ud, ud, ud, ud, ud, ud, ud, ud, ud, ud, ud, ud, ud, ud, ud, ud, ud, ud, ud, ud, ud, ud, ud, ud, ud, ud, ud, ud, ud, ud, ud, ud, ud, ud], [], [some ⟨51, o.2⟩], 0⟩)
def wd55_3 : List Wd := [.drop 1, .drop 2, .drop 5, .drop 6, .drop 7, .drop 8, .drop 9, .drop 10, .drop 11, .drop 12, .drop 13, .drop 14, .drop 15, .drop 16, .drop 17, .drop 18, .drop 19, .drop 20, .drop 21, .drop 22, .drop 23, .drop 24, .drop 25, .drop 26, .drop 27, .drop 28, .drop 29, .drop 30, .drop 31, .drop 32, .drop 33, .drop 34, .drop 35, .drop 36, .drop 37, .drop 38, .drop 39, .drop 40, .drop 41, .drop 42, .drop 43, .drop 44, .drop 45, .drop 46, .drop 47, .drop 48, .drop 49, .drop 50, .drop 51, .drop 52, .drop 53, .drop 54, .drop 55, .drop 56, .drop 57, .drop 58, .drop 59, .drop 60, .drop 61, .drop 62, .drop 63, .drop 64, .drop 65, .drop 66, .drop 67, .drop 68, .drop 69, .drop 70, .drop 71, .drop 72, .drop 73, .drop 74, .drop 75, .drop 76, .drop 77, .drop 78, .drop 79, .drop 80, .drop 81, .drop 82, .drop 83, .drop 84, .drop 85, .drop 86, .drop 87, .drop 88, .drop 89, .drop 90, .drop 91, .drop 92, .drop 93, .drop 94, .drop 95, .drop 96, .drop 97, .drop 98, .drop 99, .drop 100, .drop 101, .drop 102, .drop 103, .drop 104, .drop 105, .drop 106, .drop 107, .drop 108, .drop 109, .drop 110, .drop 111, .drop 112, .drop 113, .drop 114, .drop 115, .drop 116, .drop 117, .drop 118, .drop 119, .drop 120, .drop 121, .drop 122, .drop 123, .drop 124, .drop 125, .drop 126, .drop 127, .own (.s 3) 51]
def L55 {R : Type} (l3 : Z55_3) (l9 : Z55_9) (l13 : Z55_13) (l17 : Z55_17) (l21 : Z55_21) : Hn U R := fun key σ k => bif Nat.beq key 3 then hnd wd55_3 st55_3 (h55_3 l3) σ k else bif Nat.beq key 9 then hnd wd55_9 st55_9 (h55_9 l9) σ k else bif Nat.beq key 13 then hnd wd55_13 st55_13 (h55_13 l13) σ k else bif Nat.beq key 17 then hnd wd55_17 st55_17 (h55_17 l17) σ k else bif Nat.beq key 21 then hnd wd55_21 st55_21 (h55_21 l21) σ k else none
set_option maxRecDepth 100000 in
theorem tl55_21 {R : Type} (f60 : Y60) (f61 : Y61) (f77 : Y77) (l3 : Z55_3) (l9 : Z55_9) (l13 : Z55_13) (l17 : Z55_17) (l21 : Z55_21) (x0 x : SX U st55_21) (k : Out → St U → Option R) (n : Nat) : loopN [2] [] (fun σ k => ev (F55 f60 f61 f77) (L55 l3 l9 l13 l17 l21) (lpAt Try.f55 4) σ k) (fillSt st55_21 x0) k (n + 1) (fillSt st55_21 x)
    = lb55_21 f60 f61 f77 x.1.1 (fun v214 => loopN [2] [] (fun σ k => ev (F55 f60 f61 f77) (L55 l3 l9 l13 l17 l21) (lpAt Try.f55 4) σ k) (fillSt st55_21 x0) k n (fillSt st55_21 (((x.1.1, x.1.2.1, v214, x.1.2.2.2.1, ()), (), (x.2.2.1, ())) : SX U st55_21))) (fun o => k (.exit 8) ⟨[.v (.c (.str x.1.1)), ud, ud, .v (.c (.own 51 0)), .v (.c (.int .i64 x.1.2.1)), ud, .v (.c (.int .i64 o)), .v (.c (.int .i64 x.1.2.2.2.1)), ud, ud, ud, ud, ud, ud, ud, ud, ud, ud, ud, ud, ud, ud, ud, ud, ud, ud, ud, ud, ud, ud, ud, ud, ud, ud, ud, ud, ud, ud, ud, ud, ud, ud, ud, ud, ud, ud, ud, ud, ud, ud, ud, ud, ud, ud, ud, ud, ud, ud, ud, ud, ud, ud, ud, ud, ud, ud, ud, ud, ud, ud, ud, ud, ud, ud, ud, ud, ud, ud, ud, ud, ud, ud, ud, ud, ud, ud, ud, ud, ud, ud, ud, ud, ud, ud, ud, ud, ud, ud, ud, ud, ud, ud, ud, ud, ud, ud, ud, ud, ud, ud, ud, ud, ud, ud, ud, ud, ud, ud, ud, ud, ud, ud, ud, ud, ud, ud, ud, ud], [], [some ⟨51, x.2.2.1⟩], 0⟩) x.1.2.2.1 := by kernel_rfl
theorem nb55_21 {R S : Type} (f60 : Y60) (f61 : Y61) (f77 : Y77) (q212 : ByteArray) (c : Int → Option R) (e0 : Int → Option R) (v214 : Int) (K : R → Option S) : (lb55_21 f60 f61 f77 q212 c e0 v214).bind K = lb55_21 f60 f61 f77 q212 (fun v214 => (c v214).bind K) (fun o => (e0 o).bind K) v214 := by
  unfold lb55_21
  simp only [bind_cond, bind_when, bind_elim, Option.bind_assoc, bind_none]
set_option maxHeartbeats 1000000 in
theorem ll55_21 {R : Type} (f60 : Y60) (f61 : Y61) (f77 : Y77) (l3 : Z55_3) (l9 : Z55_9) (l13 : Z55_13) (l17 : Z55_17) (l21 : Z55_21) (x0 : SX U st55_21) (k : Out → St U → Option R) : ∀ (n : Nat) (x : SX U st55_21), loopN [2] [] (fun σ k => ev (F55 f60 f61 f77) (L55 l3 l9 l13 l17 l21) (lpAt Try.f55 4) σ k) (fillSt st55_21 x0) k n (fillSt st55_21 x)
    = h55_21 (lp55_21 f60 f61 f77 n) x k := by
  intro n
  induction n with
  | zero => intro x; kernel_rfl
  | succ n ih =>
    intro x
    have h2 := congrArg (fun c => lb55_21 f60 f61 f77 x.1.1 c (fun o => k (.exit 8) ⟨[.v (.c (.str x.1.1)), ud, ud, .v (.c (.own 51 0)), .v (.c (.int .i64 x.1.2.1)), ud, .v (.c (.int .i64 o)), .v (.c (.int .i64 x.1.2.2.2.1)), ud, ud, ud, ud, ud, ud, ud, ud, ud, ud, ud, ud, ud, ud, ud, ud, ud, ud, ud, ud, ud, ud, ud, ud, ud, ud, ud, ud, ud, ud, ud, ud, ud, ud, ud, ud, ud, ud, ud, ud, ud, ud, ud, ud, ud, ud, ud, ud, ud, ud, ud, ud, ud, ud, ud, ud, ud, ud, ud, ud, ud, ud, ud, ud, ud, ud, ud, ud, ud, ud, ud, ud, ud, ud, ud, ud, ud, ud, ud, ud, ud, ud, ud, ud, ud, ud, ud, ud, ud, ud, ud, ud, ud, ud, ud, ud, ud, ud, ud, ud, ud, ud, ud, ud, ud, ud, ud, ud, ud, ud, ud, ud, ud, ud, ud, ud, ud, ud, ud, ud], [], [some ⟨51, x.2.2.1⟩], 0⟩) x.1.2.2.1) (funext fun v214 => ih (((x.1.1, x.1.2.1, v214, x.1.2.2.2.1, ()), (), (x.2.2.1, ())) : SX U st55_21))
    exact kcast (by kernel_rfl) (chain3 (tl55_21 f60 f61 f77 l3 l9 l13 l17 l21 x0 x k n) h2 (nb55_21 f60 f61 f77 x.1.1 (fun v214 => lp55_21 f60 f61 f77 n x.1.1 v214) (fun o => some o) x.1.2.2.1 (fun o => k (.exit 8) ⟨[.v (.c (.str x.1.1)), ud, ud, .v (.c (.own 51 0)), .v (.c (.int .i64 x.1.2.1)), ud, .v (.c (.int .i64 o)), .v (.c (.int .i64 x.1.2.2.2.1)), ud, ud, ud, ud, ud, ud, ud, ud, ud, ud, ud, ud, ud, ud, ud, ud, ud, ud, ud, ud, ud, ud, ud, ud, ud, ud, ud, ud, ud, ud, ud, ud, ud, ud, ud, ud, ud, ud, ud, ud, ud, ud, ud, ud, ud, ud, ud, ud, ud, ud, ud, ud, ud, ud, ud, ud, ud, ud, ud, ud, ud, ud, ud, ud, ud, ud, ud, ud, ud, ud, ud, ud, ud, ud, ud, ud, ud, ud, ud, ud, ud, ud, ud, ud, ud, ud, ud, ud, ud, ud, ud, ud, ud, ud, ud, ud, ud, ud, ud, ud, ud, ud, ud, ud, ud, ud, ud, ud, ud, ud, ud, ud, ud, ud, ud, ud, ud, ud, ud, ud], [], [some ⟨51, x.2.2.1⟩], 0⟩)).symm (by kernel_rfl) (by kernel_rfl))
set_option maxRecDepth 100000 in
theorem tl55_17 {R : Type} (f60 : Y60) (f61 : Y61) (f77 : Y77) (l3 : Z55_3) (l9 : Z55_9) (l13 : Z55_13) (l17 : Z55_17) (l21 : Z55_21) (x0 x : SX U st55_17) (k : Out → St U → Option R) (n : Nat) : loopN [2] [] (fun σ k => ev (F55 f60 f61 f77) (L55 l3 l9 l13 l17 l21) (lpAt Try.f55 3) σ k) (fillSt st55_17 x0) k (n + 1) (fillSt st55_17 x)
    = lb55_17 f60 f61 f77 x.1.1 (fun v199 => loopN [2] [] (fun σ k => ev (F55 f60 f61 f77) (L55 l3 l9 l13 l17 l21) (lpAt Try.f55 3) σ k) (fillSt st55_17 x0) k n (fillSt st55_17 (((x.1.1, x.1.2.1, v199, x.1.2.2.2.1, ()), (), (x.2.2.1, ())) : SX U st55_17))) (fun o => k (.exit 6) ⟨[.v (.c (.str x.1.1)), ud, ud, .v (.c (.own 51 0)), .v (.c (.int .i64 x.1.2.1)), ud, .v (.c (.int .i64 o)), .v (.c (.int .i64 x.1.2.2.2.1)), ud, ud, ud, ud, ud, ud, ud, ud, ud, ud, ud, ud, ud, ud, ud, ud, ud, ud, ud, ud, ud, ud, ud, ud, ud, ud, ud, ud, ud, ud, ud, ud, ud, ud, ud, ud, ud, ud, ud, ud, ud, ud, ud, ud, ud, ud, ud, ud, ud, ud, ud, ud, ud, ud, ud, ud, ud, ud, ud, ud, ud, ud, ud, ud, ud, ud, ud, ud, ud, ud, ud, ud, ud, ud, ud, ud, ud, ud, ud, ud, ud, ud, ud, ud, ud, ud, ud, ud, ud, ud, ud, ud, ud, ud, ud, ud, ud, ud, ud, ud, ud, ud, ud, ud, ud, ud, ud, ud, ud, ud, ud, ud, ud, ud, ud, ud, ud, ud, ud, ud], [], [some ⟨51, x.2.2.1⟩], 0⟩) x.1.2.2.1 := by kernel_rfl
theorem nb55_17 {R S : Type} (f60 : Y60) (f61 : Y61) (f77 : Y77) (q197 : ByteArray) (c : Int → Option R) (e0 : Int → Option R) (v199 : Int) (K : R → Option S) : (lb55_17 f60 f61 f77 q197 c e0 v199).bind K = lb55_17 f60 f61 f77 q197 (fun v199 => (c v199).bind K) (fun o => (e0 o).bind K) v199 := by
  unfold lb55_17
  simp only [bind_cond, bind_when, bind_elim, Option.bind_assoc, bind_none]
set_option maxHeartbeats 1000000 in
theorem ll55_17 {R : Type} (f60 : Y60) (f61 : Y61) (f77 : Y77) (l3 : Z55_3) (l9 : Z55_9) (l13 : Z55_13) (l17 : Z55_17) (l21 : Z55_21) (x0 : SX U st55_17) (k : Out → St U → Option R) : ∀ (n : Nat) (x : SX U st55_17), loopN [2] [] (fun σ k => ev (F55 f60 f61 f77) (L55 l3 l9 l13 l17 l21) (lpAt Try.f55 3) σ k) (fillSt st55_17 x0) k n (fillSt st55_17 x)
    = h55_17 (lp55_17 f60 f61 f77 n) x k := by
  intro n
  induction n with
  | zero => intro x; kernel_rfl
  | succ n ih =>
    intro x
    have h2 := congrArg (fun c => lb55_17 f60 f61 f77 x.1.1 c (fun o => k (.exit 6) ⟨[.v (.c (.str x.1.1)), ud, ud, .v (.c (.own 51 0)), .v (.c (.int .i64 x.1.2.1)), ud, .v (.c (.int .i64 o)), .v (.c (.int .i64 x.1.2.2.2.1)), ud, ud, ud, ud, ud, ud, ud, ud, ud, ud, ud, ud, ud, ud, ud, ud, ud, ud, ud, ud, ud, ud, ud, ud, ud, ud, ud, ud, ud, ud, ud, ud, ud, ud, ud, ud, ud, ud, ud, ud, ud, ud, ud, ud, ud, ud, ud, ud, ud, ud, ud, ud, ud, ud, ud, ud, ud, ud, ud, ud, ud, ud, ud, ud, ud, ud, ud, ud, ud, ud, ud, ud, ud, ud, ud, ud, ud, ud, ud, ud, ud, ud, ud, ud, ud, ud, ud, ud, ud, ud, ud, ud, ud, ud, ud, ud, ud, ud, ud, ud, ud, ud, ud, ud, ud, ud, ud, ud, ud, ud, ud, ud, ud, ud, ud, ud, ud, ud, ud, ud], [], [some ⟨51, x.2.2.1⟩], 0⟩) x.1.2.2.1) (funext fun v199 => ih (((x.1.1, x.1.2.1, v199, x.1.2.2.2.1, ()), (), (x.2.2.1, ())) : SX U st55_17))
    exact kcast (by kernel_rfl) (chain3 (tl55_17 f60 f61 f77 l3 l9 l13 l17 l21 x0 x k n) h2 (nb55_17 f60 f61 f77 x.1.1 (fun v199 => lp55_17 f60 f61 f77 n x.1.1 v199) (fun o => some o) x.1.2.2.1 (fun o => k (.exit 6) ⟨[.v (.c (.str x.1.1)), ud, ud, .v (.c (.own 51 0)), .v (.c (.int .i64 x.1.2.1)), ud, .v (.c (.int .i64 o)), .v (.c (.int .i64 x.1.2.2.2.1)), ud, ud, ud, ud, ud, ud, ud, ud, ud, ud, ud, ud, ud, ud, ud, ud, ud, ud, ud, ud, ud, ud, ud, ud, ud, ud, ud, ud, ud, ud, ud, ud, ud, ud, ud, ud, ud, ud, ud, ud, ud, ud, ud, ud, ud, ud, ud, ud, ud, ud, ud, ud, ud, ud, ud, ud, ud, ud, ud, ud, ud, ud, ud, ud, ud, ud, ud, ud, ud, ud, ud, ud, ud, ud, ud, ud, ud, ud, ud, ud, ud, ud, ud, ud, ud, ud, ud, ud, ud, ud, ud, ud, ud, ud, ud, ud, ud, ud, ud, ud, ud, ud, ud, ud, ud, ud, ud, ud, ud, ud, ud, ud, ud, ud, ud, ud, ud, ud, ud, ud], [], [some ⟨51, x.2.2.1⟩], 0⟩)).symm (by kernel_rfl) (by kernel_rfl))
set_option maxRecDepth 100000 in
theorem tl55_13 {R : Type} (f60 : Y60) (f61 : Y61) (f77 : Y77) (l3 : Z55_3) (l9 : Z55_9) (l13 : Z55_13) (l17 : Z55_17) (l21 : Z55_21) (x0 x : SX U st55_13) (k : Out → St U → Option R) (n : Nat) : loopN [2] [] (fun σ k => ev (F55 f60 f61 f77) (L55 l3 l9 l13 l17 l21) (lpAt Try.f55 2) σ k) (fillSt st55_13 x0) k (n + 1) (fillSt st55_13 x)
    = lb55_13 f60 f61 f77 x.1.1 (fun v185 => loopN [2] [] (fun σ k => ev (F55 f60 f61 f77) (L55 l3 l9 l13 l17 l21) (lpAt Try.f55 2) σ k) (fillSt st55_13 x0) k n (fillSt st55_13 (((x.1.1, x.1.2.1, v185, x.1.2.2.2.1, ()), (), (x.2.2.1, ())) : SX U st55_13))) (fun o => k (.exit 4) ⟨[.v (.c (.str x.1.1)), ud, ud, .v (.c (.own 51 0)), .v (.c (.int .i64 x.1.2.1)), ud, .v (.c (.int .i64 o)), .v (.c (.int .i64 x.1.2.2.2.1)), ud, ud, ud, ud, ud, ud, ud, ud, ud, ud, ud, ud, ud, ud, ud, ud, ud, ud, ud, ud, ud, ud, ud, ud, ud, ud, ud, ud, ud, ud, ud, ud, ud, ud, ud, ud, ud, ud, ud, ud, ud, ud, ud, ud, ud, ud, ud, ud, ud, ud, ud, ud, ud, ud, ud, ud, ud, ud, ud, ud, ud, ud, ud, ud, ud, ud, ud, ud, ud, ud, ud, ud, ud, ud, ud, ud, ud, ud, ud, ud, ud, ud, ud, ud, ud, ud, ud, ud, ud, ud, ud, ud, ud, ud, ud, ud, ud, ud, ud, ud, ud, ud, ud, ud, ud, ud, ud, ud, ud, ud, ud, ud, ud, ud, ud, ud, ud, ud, ud, ud], [], [some ⟨51, x.2.2.1⟩], 0⟩) x.1.2.2.1 := by kernel_rfl
theorem nb55_13 {R S : Type} (f60 : Y60) (f61 : Y61) (f77 : Y77) (q183 : ByteArray) (c : Int → Option R) (e0 : Int → Option R) (v185 : Int) (K : R → Option S) : (lb55_13 f60 f61 f77 q183 c e0 v185).bind K = lb55_13 f60 f61 f77 q183 (fun v185 => (c v185).bind K) (fun o => (e0 o).bind K) v185 := by
  unfold lb55_13
  simp only [bind_cond, bind_when, bind_elim, Option.bind_assoc, bind_none]
set_option maxHeartbeats 1000000 in
theorem ll55_13 {R : Type} (f60 : Y60) (f61 : Y61) (f77 : Y77) (l3 : Z55_3) (l9 : Z55_9) (l13 : Z55_13) (l17 : Z55_17) (l21 : Z55_21) (x0 : SX U st55_13) (k : Out → St U → Option R) : ∀ (n : Nat) (x : SX U st55_13), loopN [2] [] (fun σ k => ev (F55 f60 f61 f77) (L55 l3 l9 l13 l17 l21) (lpAt Try.f55 2) σ k) (fillSt st55_13 x0) k n (fillSt st55_13 x)
    = h55_13 (lp55_13 f60 f61 f77 n) x k := by
  intro n
  induction n with
  | zero => intro x; kernel_rfl
  | succ n ih =>
    intro x
    have h2 := congrArg (fun c => lb55_13 f60 f61 f77 x.1.1 c (fun o => k (.exit 4) ⟨[.v (.c (.str x.1.1)), ud, ud, .v (.c (.own 51 0)), .v (.c (.int .i64 x.1.2.1)), ud, .v (.c (.int .i64 o)), .v (.c (.int .i64 x.1.2.2.2.1)), ud, ud, ud, ud, ud, ud, ud, ud, ud, ud, ud, ud, ud, ud, ud, ud, ud, ud, ud, ud, ud, ud, ud, ud, ud, ud, ud, ud, ud, ud, ud, ud, ud, ud, ud, ud, ud, ud, ud, ud, ud, ud, ud, ud, ud, ud, ud, ud, ud, ud, ud, ud, ud, ud, ud, ud, ud, ud, ud, ud, ud, ud, ud, ud, ud, ud, ud, ud, ud, ud, ud, ud, ud, ud, ud, ud, ud, ud, ud, ud, ud, ud, ud, ud, ud, ud, ud, ud, ud, ud, ud, ud, ud, ud, ud, ud, ud, ud, ud, ud, ud, ud, ud, ud, ud, ud, ud, ud, ud, ud, ud, ud, ud, ud, ud, ud, ud, ud, ud, ud], [], [some ⟨51, x.2.2.1⟩], 0⟩) x.1.2.2.1) (funext fun v185 => ih (((x.1.1, x.1.2.1, v185, x.1.2.2.2.1, ()), (), (x.2.2.1, ())) : SX U st55_13))
    exact kcast (by kernel_rfl) (chain3 (tl55_13 f60 f61 f77 l3 l9 l13 l17 l21 x0 x k n) h2 (nb55_13 f60 f61 f77 x.1.1 (fun v185 => lp55_13 f60 f61 f77 n x.1.1 v185) (fun o => some o) x.1.2.2.1 (fun o => k (.exit 4) ⟨[.v (.c (.str x.1.1)), ud, ud, .v (.c (.own 51 0)), .v (.c (.int .i64 x.1.2.1)), ud, .v (.c (.int .i64 o)), .v (.c (.int .i64 x.1.2.2.2.1)), ud, ud, ud, ud, ud, ud, ud, ud, ud, ud, ud, ud, ud, ud, ud, ud, ud, ud, ud, ud, ud, ud, ud, ud, ud, ud, ud, ud, ud, ud, ud, ud, ud, ud, ud, ud, ud, ud, ud, ud, ud, ud, ud, ud, ud, ud, ud, ud, ud, ud, ud, ud, ud, ud, ud, ud, ud, ud, ud, ud, ud, ud, ud, ud, ud, ud, ud, ud, ud, ud, ud, ud, ud, ud, ud, ud, ud, ud, ud, ud, ud, ud, ud, ud, ud, ud, ud, ud, ud, ud, ud, ud, ud, ud, ud, ud, ud, ud, ud, ud, ud, ud, ud, ud, ud, ud, ud, ud, ud, ud, ud, ud, ud, ud, ud, ud, ud, ud, ud, ud], [], [some ⟨51, x.2.2.1⟩], 0⟩)).symm (by kernel_rfl) (by kernel_rfl))
set_option maxRecDepth 100000 in
theorem tl55_9 {R : Type} (f60 : Y60) (f61 : Y61) (f77 : Y77) (l3 : Z55_3) (l9 : Z55_9) (l13 : Z55_13) (l17 : Z55_17) (l21 : Z55_21) (x0 x : SX U st55_9) (k : Out → St U → Option R) (n : Nat) : loopN [2] [] (fun σ k => ev (F55 f60 f61 f77) (L55 l3 l9 l13 l17 l21) (lpAt Try.f55 1) σ k) (fillSt st55_9 x0) k (n + 1) (fillSt st55_9 x)
    = lb55_9 f60 f61 f77 x.1.1 (fun v174 => loopN [2] [] (fun σ k => ev (F55 f60 f61 f77) (L55 l3 l9 l13 l17 l21) (lpAt Try.f55 1) σ k) (fillSt st55_9 x0) k n (fillSt st55_9 (((x.1.1, x.1.2.1, v174, x.1.2.2.2.1, ()), (), (x.2.2.1, ())) : SX U st55_9))) (fun o => k (.exit 2) ⟨[.v (.c (.str x.1.1)), ud, ud, .v (.c (.own 51 0)), .v (.c (.int .i64 x.1.2.1)), ud, .v (.c (.int .i64 o)), .v (.c (.int .i64 x.1.2.2.2.1)), ud, ud, ud, ud, ud, ud, ud, ud, ud, ud, ud, ud, ud, ud, ud, ud, ud, ud, ud, ud, ud, ud, ud, ud, ud, ud, ud, ud, ud, ud, ud, ud, ud, ud, ud, ud, ud, ud, ud, ud, ud, ud, ud, ud, ud, ud, ud, ud, ud, ud, ud, ud, ud, ud, ud, ud, ud, ud, ud, ud, ud, ud, ud, ud, ud, ud, ud, ud, ud, ud, ud, ud, ud, ud, ud, ud, ud, ud, ud, ud, ud, ud, ud, ud, ud, ud, ud, ud, ud, ud, ud, ud, ud, ud, ud, ud, ud, ud, ud, ud, ud, ud, ud, ud, ud, ud, ud, ud, ud, ud, ud, ud, ud, ud, ud, ud, ud, ud, ud, ud], [], [some ⟨51, x.2.2.1⟩], 0⟩) x.1.2.2.1 := by kernel_rfl
theorem nb55_9 {R S : Type} (f60 : Y60) (f61 : Y61) (f77 : Y77) (q172 : ByteArray) (c : Int → Option R) (e0 : Int → Option R) (v174 : Int) (K : R → Option S) : (lb55_9 f60 f61 f77 q172 c e0 v174).bind K = lb55_9 f60 f61 f77 q172 (fun v174 => (c v174).bind K) (fun o => (e0 o).bind K) v174 := by
  unfold lb55_9
  simp only [bind_cond, bind_when, bind_elim, Option.bind_assoc, bind_none]
set_option maxHeartbeats 1000000 in
theorem ll55_9 {R : Type} (f60 : Y60) (f61 : Y61) (f77 : Y77) (l3 : Z55_3) (l9 : Z55_9) (l13 : Z55_13) (l17 : Z55_17) (l21 : Z55_21) (x0 : SX U st55_9) (k : Out → St U → Option R) : ∀ (n : Nat) (x : SX U st55_9), loopN [2] [] (fun σ k => ev (F55 f60 f61 f77) (L55 l3 l9 l13 l17 l21) (lpAt Try.f55 1) σ k) (fillSt st55_9 x0) k n (fillSt st55_9 x)
    = h55_9 (lp55_9 f60 f61 f77 n) x k := by
  intro n
  induction n with
  | zero => intro x; kernel_rfl
  | succ n ih =>
    intro x
    have h2 := congrArg (fun c => lb55_9 f60 f61 f77 x.1.1 c (fun o => k (.exit 2) ⟨[.v (.c (.str x.1.1)), ud, ud, .v (.c (.own 51 0)), .v (.c (.int .i64 x.1.2.1)), ud, .v (.c (.int .i64 o)), .v (.c (.int .i64 x.1.2.2.2.1)), ud, ud, ud, ud, ud, ud, ud, ud, ud, ud, ud, ud, ud, ud, ud, ud, ud, ud, ud, ud, ud, ud, ud, ud, ud, ud, ud, ud, ud, ud, ud, ud, ud, ud, ud, ud, ud, ud, ud, ud, ud, ud, ud, ud, ud, ud, ud, ud, ud, ud, ud, ud, ud, ud, ud, ud, ud, ud, ud, ud, ud, ud, ud, ud, ud, ud, ud, ud, ud, ud, ud, ud, ud, ud, ud, ud, ud, ud, ud, ud, ud, ud, ud, ud, ud, ud, ud, ud, ud, ud, ud, ud, ud, ud, ud, ud, ud, ud, ud, ud, ud, ud, ud, ud, ud, ud, ud, ud, ud, ud, ud, ud, ud, ud, ud, ud, ud, ud, ud, ud], [], [some ⟨51, x.2.2.1⟩], 0⟩) x.1.2.2.1) (funext fun v174 => ih (((x.1.1, x.1.2.1, v174, x.1.2.2.2.1, ()), (), (x.2.2.1, ())) : SX U st55_9))
    exact kcast (by kernel_rfl) (chain3 (tl55_9 f60 f61 f77 l3 l9 l13 l17 l21 x0 x k n) h2 (nb55_9 f60 f61 f77 x.1.1 (fun v174 => lp55_9 f60 f61 f77 n x.1.1 v174) (fun o => some o) x.1.2.2.1 (fun o => k (.exit 2) ⟨[.v (.c (.str x.1.1)), ud, ud, .v (.c (.own 51 0)), .v (.c (.int .i64 x.1.2.1)), ud, .v (.c (.int .i64 o)), .v (.c (.int .i64 x.1.2.2.2.1)), ud, ud, ud, ud, ud, ud, ud, ud, ud, ud, ud, ud, ud, ud, ud, ud, ud, ud, ud, ud, ud, ud, ud, ud, ud, ud, ud, ud, ud, ud, ud, ud, ud, ud, ud, ud, ud, ud, ud, ud, ud, ud, ud, ud, ud, ud, ud, ud, ud, ud, ud, ud, ud, ud, ud, ud, ud, ud, ud, ud, ud, ud, ud, ud, ud, ud, ud, ud, ud, ud, ud, ud, ud, ud, ud, ud, ud, ud, ud, ud, ud, ud, ud, ud, ud, ud, ud, ud, ud, ud, ud, ud, ud, ud, ud, ud, ud, ud, ud, ud, ud, ud, ud, ud, ud, ud, ud, ud, ud, ud, ud, ud, ud, ud, ud, ud, ud, ud, ud, ud], [], [some ⟨51, x.2.2.1⟩], 0⟩)).symm (by kernel_rfl) (by kernel_rfl))
set_option maxRecDepth 100000 in
theorem tl55_3 {R : Type} (f60 : Y60) (f61 : Y61) (f77 : Y77) (l3 : Z55_3) (l9 : Z55_9) (l13 : Z55_13) (l17 : Z55_17) (l21 : Z55_21) (x0 x : SX U st55_3) (k : Out → St U → Option R) (n : Nat) : loopN [2] [] (fun σ k => ev (F55 f60 f61 f77) (L55 l3 l9 l13 l17 l21) (lpAt Try.f55 0) σ k) (fillSt st55_3 x0) k (n + 1) (fillSt st55_3 x)
    = lb55_3 f60 f61 f77 l9 l13 l17 l21 x.1.1 (fun v165 v166 => loopN [2] [] (fun σ k => ev (F55 f60 f61 f77) (L55 l3 l9 l13 l17 l21) (lpAt Try.f55 0) σ k) (fillSt st55_3 x0) k n (fillSt st55_3 (((x.1.1, v165, ()), (), (v166, ())) : SX U st55_3))) (fun o => k (.exit 0) ⟨[.v (.c (.str x.1.1)), ud, ud, .v (.c (.own 51 0)), .v (.c (.int .i64 o.1)), ud, ud, ud, ud, ud, ud, ud, ud, ud, ud, ud, ud, ud, ud, ud, ud, ud, ud, ud, ud, ud, ud, ud, ud, ud, ud, ud, ud, ud, ud, ud, ud, ud, ud, ud, ud, ud, ud, ud, ud, ud, ud, ud, ud, ud, ud, ud, ud, ud, ud, ud, ud, ud, ud, ud, ud, ud, ud, ud, ud, ud, ud, ud, ud, ud, ud, ud, ud, ud, ud, ud, ud, ud, ud, ud, ud, ud, ud, ud, ud, ud, ud, ud, ud, ud, ud, ud, ud, ud, ud, ud, ud, ud, ud, ud, ud, ud, ud, ud, ud, ud, ud, ud, ud, ud, ud, ud, ud, ud, ud, ud, ud, ud, ud, ud, ud, ud, ud, ud, ud, ud, ud, ud], [], [some ⟨51, o.2⟩], 0⟩) x.1.2.1 x.2.2.1 := by kernel_rfl
theorem nb55_3 {R S : Type} (f60 : Y60) (f61 : Y61) (f77 : Y77) (l9 : Z55_9) (l13 : Z55_13) (l17 : Z55_17) (l21 : Z55_21) (q164 : ByteArray) (c : Int → List S51 → Option R) (e0 : (Int × List S51) → Option R) (v165 : Int) (v166 : List S51) (K : R → Option S) : (lb55_3 f60 f61 f77 l9 l13 l17 l21 q164 c e0 v165 v166).bind K = lb55_3 f60 f61 f77 l9 l13 l17 l21 q164 (fun v165 v166 => (c v165 v166).bind K) (fun o => (e0 o).bind K) v165 v166 := by
  unfold lb55_3
  simp only [bind_cond, bind_when, bind_elim, Option.bind_assoc, bind_none]
set_option maxHeartbeats 1000000 in
theorem ll55_3 {R : Type} (f60 : Y60) (f61 : Y61) (f77 : Y77) (l3 : Z55_3) (l9 : Z55_9) (l13 : Z55_13) (l17 : Z55_17) (l21 : Z55_21) (x0 : SX U st55_3) (k : Out → St U → Option R) : ∀ (n : Nat) (x : SX U st55_3), loopN [2] [] (fun σ k => ev (F55 f60 f61 f77) (L55 l3 l9 l13 l17 l21) (lpAt Try.f55 0) σ k) (fillSt st55_3 x0) k n (fillSt st55_3 x)
    = h55_3 (lp55_3 f60 f61 f77 l9 l13 l17 l21 n) x k := by
  intro n
  induction n with
  | zero => intro x; kernel_rfl
  | succ n ih =>
    intro x
    have h2 := congrArg (fun c => lb55_3 f60 f61 f77 l9 l13 l17 l21 x.1.1 c (fun o => k (.exit 0) ⟨[.v (.c (.str x.1.1)), ud, ud, .v (.c (.own 51 0)), .v (.c (.int .i64 o.1)), ud, ud, ud, ud, ud, ud, ud, ud, ud, ud, ud, ud, ud, ud, ud, ud, ud, ud, ud, ud, ud, ud, ud, ud, ud, ud, ud, ud, ud, ud, ud, ud, ud, ud, ud, ud, ud, ud, ud, ud, ud, ud, ud, ud, ud, ud, ud, ud, ud, ud, ud, ud, ud, ud, ud, ud, ud, ud, ud, ud, ud, ud, ud, ud, ud, ud, ud, ud, ud, ud, ud, ud, ud, ud, ud, ud, ud, ud, ud, ud, ud, ud, ud, ud, ud, ud, ud, ud, ud, ud, ud, ud, ud, ud, ud, ud, ud, ud, ud, ud, ud, ud, ud, ud, ud, ud, ud, ud, ud, ud, ud, ud, ud, ud, ud, ud, ud, ud, ud, ud, ud, ud, ud], [], [some ⟨51, o.2⟩], 0⟩) x.1.2.1 x.2.2.1) (funext fun v165 => (funext fun v166 => ih (((x.1.1, v165, ()), (), (v166, ())) : SX U st55_3)))
    exact kcast (by kernel_rfl) (chain3 (tl55_3 f60 f61 f77 l3 l9 l13 l17 l21 x0 x k n) h2 (nb55_3 f60 f61 f77 l9 l13 l17 l21 x.1.1 (fun v165 v166 => lp55_3 f60 f61 f77 l9 l13 l17 l21 n x.1.1 v165 v166) (fun o => some o) x.1.2.1 x.2.2.1 (fun o => k (.exit 0) ⟨[.v (.c (.str x.1.1)), ud, ud, .v (.c (.own 51 0)), .v (.c (.int .i64 o.1)), ud, ud, ud, ud, ud, ud, ud, ud, ud, ud, ud, ud, ud, ud, ud, ud, ud, ud, ud, ud, ud, ud, ud, ud, ud, ud, ud, ud, ud, ud, ud, ud, ud, ud, ud, ud, ud, ud, ud, ud, ud, ud, ud, ud, ud, ud, ud, ud, ud, ud, ud, ud, ud, ud, ud, ud, ud, ud, ud, ud, ud, ud, ud, ud, ud, ud, ud, ud, ud, ud, ud, ud, ud, ud, ud, ud, ud, ud, ud, ud, ud, ud, ud, ud, ud, ud, ud, ud, ud, ud, ud, ud, ud, ud, ud, ud, ud, ud, ud, ud, ud, ud, ud, ud, ud, ud, ud, ud, ud, ud, ud, ud, ud, ud, ud, ud, ud, ud, ud, ud, ud, ud, ud], [], [some ⟨51, o.2⟩], 0⟩)).symm (by kernel_rfl) (by kernel_rfl))
theorem n55 {R S : Type} (f60 : Y60) (f61 : Y61) (f77 : Y77) (l3 : Z55_3) (l9 : Z55_9) (l13 : Z55_13) (l17 : Z55_17) (l21 : Z55_21) (p0 : ByteArray) (k : (List S51) → Option R) (K : R → Option S) : (b55 f60 f61 f77 l3 l9 l13 l17 l21 p0 k).bind K = b55 f60 f61 f77 l3 l9 l13 l17 l21 p0 (fun r => (k r).bind K) := by
  unfold b55
  simp only [bind_cond, bind_when, bind_elim, Option.bind_assoc, bind_none]
set_option maxRecDepth 100000 in
theorem t55 {R : Type} (f60 : Y60) (f61 : Y61) (f77 : Y77) (l3 : Z55_3) (l9 : Z55_9) (l13 : Z55_13) (l17 : Z55_17) (l21 : Z55_21) (x : AX U tp55) (κ : U.D → List (List U.C) → Option R) : evFn (F55 f60 f61 f77) (L55 l3 l9 l13 l17 l21) (U.ro 55) (U.rnew 55) Try.f55 (fillS tp55.a x.1) (fillB tp55.b x.2) κ
    = b55 f60 f61 f77 l3 l9 l13 l17 l21 x.1.1 (fun r => κ (.v (.c (.new 51 r))) []) := by kernel_rfl
theorem hF55 {R : Type} (f60 : Y60) (f61 : Y61) (f77 : Y77) (h60 : ∀ rest : Fn U R, SoundF Try.prog 60 rest → SoundF Try.prog 60 (e60 f60 rest)) (h61 : ∀ rest : Fn U R, SoundF Try.prog 61 rest → SoundF Try.prog 61 (e61 f61 rest)) (h77 : ∀ rest : Fn U R, SoundF Try.prog 77 rest → SoundF Try.prog 77 (e77 f77 rest)) : ∀ g, Sound Try.prog (F55 f60 f61 f77 : Nat → Fn U R) g := (Fc_sound (h60 _ fz_sound) (Fc_sound (h61 _ fz_sound) (Fc_sound (h77 _ fz_sound) Fz_sound)))
theorem lok55_21 {R : Type} (f60 : Y60) (f61 : Y61) (f77 : Y77) (h60 : ∀ rest : Fn U R, SoundF Try.prog 60 rest → SoundF Try.prog 60 (e60 f60 rest)) (h61 : ∀ rest : Fn U R, SoundF Try.prog 61 rest → SoundF Try.prog 61 (e61 f61 rest)) (h77 : ∀ rest : Fn U R, SoundF Try.prog 77 rest → SoundF Try.prog 77 (e77 f77 rest)) : LoopOk Try.prog (L55 (lp55_3 f60 f61 f77 (lp55_9 f60 f61 f77 big) (lp55_13 f60 f61 f77 big) (lp55_17 f60 f61 f77 big) (lp55_21 f60 f61 f77 big) big) (lp55_9 f60 f61 f77 big) (lp55_13 f60 f61 f77 big) (lp55_17 f60 f61 f77 big) (lp55_21 f60 f61 f77 big) : Hn U R) (lpAt Try.f55 4) :=
  hnd_ok uok (hF55 f60 f61 f77 h60 h61 h77) mixed (loops_of (ls := []) (by kernel_rfl) all_nil) (key := 21) (by kernel_rfl) (ws0 := wd55_21) (t := st55_21) (f := h55_21 (lp55_21 f60 f61 f77 big)) (ws := []) (keep := [2]) (fun σ k => by kernel_rfl) (n := big) (fun x k => (ll55_21 f60 f61 f77 (lp55_3 f60 f61 f77 (lp55_9 f60 f61 f77 big) (lp55_13 f60 f61 f77 big) (lp55_17 f60 f61 f77 big) (lp55_21 f60 f61 f77 big) big) (lp55_9 f60 f61 f77 big) (lp55_13 f60 f61 f77 big) (lp55_17 f60 f61 f77 big) (lp55_21 f60 f61 f77 big) x k big x).symm)
theorem lok55_17 {R : Type} (f60 : Y60) (f61 : Y61) (f77 : Y77) (h60 : ∀ rest : Fn U R, SoundF Try.prog 60 rest → SoundF Try.prog 60 (e60 f60 rest)) (h61 : ∀ rest : Fn U R, SoundF Try.prog 61 rest → SoundF Try.prog 61 (e61 f61 rest)) (h77 : ∀ rest : Fn U R, SoundF Try.prog 77 rest → SoundF Try.prog 77 (e77 f77 rest)) : LoopOk Try.prog (L55 (lp55_3 f60 f61 f77 (lp55_9 f60 f61 f77 big) (lp55_13 f60 f61 f77 big) (lp55_17 f60 f61 f77 big) (lp55_21 f60 f61 f77 big) big) (lp55_9 f60 f61 f77 big) (lp55_13 f60 f61 f77 big) (lp55_17 f60 f61 f77 big) (lp55_21 f60 f61 f77 big) : Hn U R) (lpAt Try.f55 3) :=
  hnd_ok uok (hF55 f60 f61 f77 h60 h61 h77) mixed (loops_of (ls := []) (by kernel_rfl) all_nil) (key := 17) (by kernel_rfl) (ws0 := wd55_17) (t := st55_17) (f := h55_17 (lp55_17 f60 f61 f77 big)) (ws := []) (keep := [2]) (fun σ k => by kernel_rfl) (n := big) (fun x k => (ll55_17 f60 f61 f77 (lp55_3 f60 f61 f77 (lp55_9 f60 f61 f77 big) (lp55_13 f60 f61 f77 big) (lp55_17 f60 f61 f77 big) (lp55_21 f60 f61 f77 big) big) (lp55_9 f60 f61 f77 big) (lp55_13 f60 f61 f77 big) (lp55_17 f60 f61 f77 big) (lp55_21 f60 f61 f77 big) x k big x).symm)
theorem lok55_13 {R : Type} (f60 : Y60) (f61 : Y61) (f77 : Y77) (h60 : ∀ rest : Fn U R, SoundF Try.prog 60 rest → SoundF Try.prog 60 (e60 f60 rest)) (h61 : ∀ rest : Fn U R, SoundF Try.prog 61 rest → SoundF Try.prog 61 (e61 f61 rest)) (h77 : ∀ rest : Fn U R, SoundF Try.prog 77 rest → SoundF Try.prog 77 (e77 f77 rest)) : LoopOk Try.prog (L55 (lp55_3 f60 f61 f77 (lp55_9 f60 f61 f77 big) (lp55_13 f60 f61 f77 big) (lp55_17 f60 f61 f77 big) (lp55_21 f60 f61 f77 big) big) (lp55_9 f60 f61 f77 big) (lp55_13 f60 f61 f77 big) (lp55_17 f60 f61 f77 big) (lp55_21 f60 f61 f77 big) : Hn U R) (lpAt Try.f55 2) :=
  hnd_ok uok (hF55 f60 f61 f77 h60 h61 h77) mixed (loops_of (ls := []) (by kernel_rfl) all_nil) (key := 13) (by kernel_rfl) (ws0 := wd55_13) (t := st55_13) (f := h55_13 (lp55_13 f60 f61 f77 big)) (ws := []) (keep := [2]) (fun σ k => by kernel_rfl) (n := big) (fun x k => (ll55_13 f60 f61 f77 (lp55_3 f60 f61 f77 (lp55_9 f60 f61 f77 big) (lp55_13 f60 f61 f77 big) (lp55_17 f60 f61 f77 big) (lp55_21 f60 f61 f77 big) big) (lp55_9 f60 f61 f77 big) (lp55_13 f60 f61 f77 big) (lp55_17 f60 f61 f77 big) (lp55_21 f60 f61 f77 big) x k big x).symm)
theorem lok55_9 {R : Type} (f60 : Y60) (f61 : Y61) (f77 : Y77) (h60 : ∀ rest : Fn U R, SoundF Try.prog 60 rest → SoundF Try.prog 60 (e60 f60 rest)) (h61 : ∀ rest : Fn U R, SoundF Try.prog 61 rest → SoundF Try.prog 61 (e61 f61 rest)) (h77 : ∀ rest : Fn U R, SoundF Try.prog 77 rest → SoundF Try.prog 77 (e77 f77 rest)) : LoopOk Try.prog (L55 (lp55_3 f60 f61 f77 (lp55_9 f60 f61 f77 big) (lp55_13 f60 f61 f77 big) (lp55_17 f60 f61 f77 big) (lp55_21 f60 f61 f77 big) big) (lp55_9 f60 f61 f77 big) (lp55_13 f60 f61 f77 big) (lp55_17 f60 f61 f77 big) (lp55_21 f60 f61 f77 big) : Hn U R) (lpAt Try.f55 1) :=
  hnd_ok uok (hF55 f60 f61 f77 h60 h61 h77) mixed (loops_of (ls := []) (by kernel_rfl) all_nil) (key := 9) (by kernel_rfl) (ws0 := wd55_9) (t := st55_9) (f := h55_9 (lp55_9 f60 f61 f77 big)) (ws := []) (keep := [2]) (fun σ k => by kernel_rfl) (n := big) (fun x k => (ll55_9 f60 f61 f77 (lp55_3 f60 f61 f77 (lp55_9 f60 f61 f77 big) (lp55_13 f60 f61 f77 big) (lp55_17 f60 f61 f77 big) (lp55_21 f60 f61 f77 big) big) (lp55_9 f60 f61 f77 big) (lp55_13 f60 f61 f77 big) (lp55_17 f60 f61 f77 big) (lp55_21 f60 f61 f77 big) x k big x).symm)
theorem lok55_3 {R : Type} (f60 : Y60) (f61 : Y61) (f77 : Y77) (h60 : ∀ rest : Fn U R, SoundF Try.prog 60 rest → SoundF Try.prog 60 (e60 f60 rest)) (h61 : ∀ rest : Fn U R, SoundF Try.prog 61 rest → SoundF Try.prog 61 (e61 f61 rest)) (h77 : ∀ rest : Fn U R, SoundF Try.prog 77 rest → SoundF Try.prog 77 (e77 f77 rest)) : LoopOk Try.prog (L55 (lp55_3 f60 f61 f77 (lp55_9 f60 f61 f77 big) (lp55_13 f60 f61 f77 big) (lp55_17 f60 f61 f77 big) (lp55_21 f60 f61 f77 big) big) (lp55_9 f60 f61 f77 big) (lp55_13 f60 f61 f77 big) (lp55_17 f60 f61 f77 big) (lp55_21 f60 f61 f77 big) : Hn U R) (lpAt Try.f55 0) :=
  hnd_ok uok (hF55 f60 f61 f77 h60 h61 h77) mixed (loops_of (ls := [lpAt Try.f55 1, lpAt Try.f55 2, lpAt Try.f55 3, lpAt Try.f55 4]) (by kernel_rfl) (all_cons (lok55_9 f60 f61 f77 h60 h61 h77) (all_cons (lok55_13 f60 f61 f77 h60 h61 h77) (all_cons (lok55_17 f60 f61 f77 h60 h61 h77) (all_cons (lok55_21 f60 f61 f77 h60 h61 h77) all_nil))))) (key := 3) (by kernel_rfl) (ws0 := wd55_3) (t := st55_3) (f := h55_3 (lp55_3 f60 f61 f77 (lp55_9 f60 f61 f77 big) (lp55_13 f60 f61 f77 big) (lp55_17 f60 f61 f77 big) (lp55_21 f60 f61 f77 big) big)) (ws := []) (keep := [2]) (fun σ k => by kernel_rfl) (n := big) (fun x k => (ll55_3 f60 f61 f77 (lp55_3 f60 f61 f77 (lp55_9 f60 f61 f77 big) (lp55_13 f60 f61 f77 big) (lp55_17 f60 f61 f77 big) (lp55_21 f60 f61 f77 big) big) (lp55_9 f60 f61 f77 big) (lp55_13 f60 f61 f77 big) (lp55_17 f60 f61 f77 big) (lp55_21 f60 f61 f77 big) x k big x).symm)
theorem q55 {R : Type} (f60 : Y60) (f61 : Y61) (f77 : Y77) (h60 : ∀ rest : Fn U R, SoundF Try.prog 60 rest → SoundF Try.prog 60 (e60 f60 rest)) (h61 : ∀ rest : Fn U R, SoundF Try.prog 61 rest → SoundF Try.prog 61 (e61 f61 rest)) (h77 : ∀ rest : Fn U R, SoundF Try.prog 77 rest → SoundF Try.prog 77 (e77 f77 rest)) {rest : Fn U R} (hr : SoundF Try.prog 55 rest) : SoundF Try.prog 55 (e55 (fun p0 => b55 f60 f61 f77 (lp55_3 f60 f61 f77 (lp55_9 f60 f61 f77 big) (lp55_13 f60 f61 f77 big) (lp55_17 f60 f61 f77 big) (lp55_21 f60 f61 f77 big) big) (lp55_9 f60 f61 f77 big) (lp55_13 f60 f61 f77 big) (lp55_17 f60 f61 f77 big) (lp55_21 f60 f61 f77 big) p0 some) rest) :=
  ent_sound uok mixed (fn := Try.f55) (by kernel_rfl) (by kernel_rfl) (hF55 f60 f61 f77 h60 h61 h77) (L := L55 (lp55_3 f60 f61 f77 (lp55_9 f60 f61 f77 big) (lp55_13 f60 f61 f77 big) (lp55_17 f60 f61 f77 big) (lp55_21 f60 f61 f77 big) big) (lp55_9 f60 f61 f77 big) (lp55_13 f60 f61 f77 big) (lp55_17 f60 f61 f77 big) (lp55_21 f60 f61 f77 big)) (fn_loops (ls := [lpAt Try.f55 0, lpAt Try.f55 1, lpAt Try.f55 2, lpAt Try.f55 3, lpAt Try.f55 4]) (by kernel_rfl) (all_cons (lok55_3 f60 f61 f77 h60 h61 h77) (all_cons (lok55_9 f60 f61 f77 h60 h61 h77) (all_cons (lok55_13 f60 f61 f77 h60 h61 h77) (all_cons (lok55_17 f60 f61 f77 h60 h61 h77) (all_cons (lok55_21 f60 f61 f77 h60 h61 h77) all_nil)))))) hr (fun x κ => (n55 f60 f61 f77 (lp55_3 f60 f61 f77 (lp55_9 f60 f61 f77 big) (lp55_13 f60 f61 f77 big) (lp55_17 f60 f61 f77 big) (lp55_21 f60 f61 f77 big) big) (lp55_9 f60 f61 f77 big) (lp55_13 f60 f61 f77 big) (lp55_17 f60 f61 f77 big) (lp55_21 f60 f61 f77 big) x.1.1 some _).trans (t55 f60 f61 f77 (lp55_3 f60 f61 f77 (lp55_9 f60 f61 f77 big) (lp55_13 f60 f61 f77 big) (lp55_17 f60 f61 f77 big) (lp55_21 f60 f61 f77 big) big) (lp55_9 f60 f61 f77 big) (lp55_13 f60 f61 f77 big) (lp55_17 f60 f61 f77 big) (lp55_21 f60 f61 f77 big) x κ).symm)
def F21 {R : Type} (f54 : Y54) (f55 : Y55) : Nat → Fn U R := (Fc 54 (e54 f54 (Fz 54)) (Fc 55 (e55 f55 (Fz 55)) Fz))
def L21 {R : Type} : Hn U R := fun key σ k => none
theorem n21 {R S : Type} (f54 : Y54) (f55 : Y55) (p0 : ByteArray) (k : S41 → Option R) (K : R → Option S) : (b21 f54 f55 p0 k).bind K = b21 f54 f55 p0 (fun r => (k r).bind K) := by
  unfold b21
  simp only [bind_cond, bind_when, bind_elim, Option.bind_assoc, bind_none]
set_option maxRecDepth 100000 in
theorem t21 {R : Type} (f54 : Y54) (f55 : Y55) (x : AX U tp21) (κ : U.D → List (List U.C) → Option R) : evFn (F21 f54 f55) (L21) (U.ro 21) (U.rnew 21) Try.f21 (fillS tp21.a x.1) (fillB tp21.b x.2) κ
    = b21 f54 f55 x.1.1 (fun r => κ (.v (.agg [.str r.c0, .sl 51 r.c1])) []) := by kernel_rfl
theorem hF21 {R : Type} (f54 : Y54) (f55 : Y55) (h54 : ∀ rest : Fn U R, SoundF Try.prog 54 rest → SoundF Try.prog 54 (e54 f54 rest)) (h55 : ∀ rest : Fn U R, SoundF Try.prog 55 rest → SoundF Try.prog 55 (e55 f55 rest)) : ∀ g, Sound Try.prog (F21 f54 f55 : Nat → Fn U R) g := (Fc_sound (h54 _ fz_sound) (Fc_sound (h55 _ fz_sound) Fz_sound))
theorem q21 {R : Type} (f54 : Y54) (f55 : Y55) (h54 : ∀ rest : Fn U R, SoundF Try.prog 54 rest → SoundF Try.prog 54 (e54 f54 rest)) (h55 : ∀ rest : Fn U R, SoundF Try.prog 55 rest → SoundF Try.prog 55 (e55 f55 rest)) {rest : Fn U R} (hr : SoundF Try.prog 21 rest) : SoundF Try.prog 21 (e21 (fun p0 => b21 f54 f55 p0 some) rest) :=
  ent_sound uok mixed (fn := Try.f21) (by kernel_rfl) (by kernel_rfl) (hF21 f54 f55 h54 h55) (L := L21) (fn_loops (ls := []) (by kernel_rfl) all_nil) hr (fun x κ => (n21 f54 f55 x.1.1 some _).trans (t21 f54 f55 x κ).symm)
def F79 {R : Type} : Nat → Fn U R := Fz
def L79 {R : Type} : Hn U R := fun key σ k => none
theorem n79 {R S : Type} (p0 : Int) (k : Bool → Option R) (K : R → Option S) : (b79 p0 k).bind K = b79 p0 (fun r => (k r).bind K) := by
  unfold b79
  simp only [bind_cond, bind_when, bind_elim, Option.bind_assoc, bind_none]
set_option maxRecDepth 100000 in
theorem t79 {R : Type} (x : AX U tp79) (κ : U.D → List (List U.C) → Option R) : evFn (F79) (L79) (U.ro 79) (U.rnew 79) Try.f79 (fillS tp79.a x.1) (fillB tp79.b x.2) κ
    = b79 x.1.1 (fun r => κ (.v (.c (.bool r))) []) := by kernel_rfl
theorem hF79 {R : Type} : ∀ g, Sound Try.prog (F79 : Nat → Fn U R) g := Fz_sound
theorem q79 {R : Type} {rest : Fn U R} (hr : SoundF Try.prog 79 rest) : SoundF Try.prog 79 (e79 (fun p0 => b79 p0 some) rest) :=
  ent_sound uok mixed (fn := Try.f79) (by kernel_rfl) (by kernel_rfl) (hF79) (L := L79) (fn_loops (ls := []) (by kernel_rfl) all_nil) hr (fun x κ => (n79 x.1.1 some _).trans (t79 x κ).symm)
def F82 {R : Type} : Nat → Fn U R := Fz
def L82 {R : Type} : Hn U R := fun key σ k => none
theorem n82 {R S : Type} (p0 : Int) (k : Bool → Option R) (K : R → Option S) : (b82 p0 k).bind K = b82 p0 (fun r => (k r).bind K) := by
  unfold b82
  simp only [bind_cond, bind_when, bind_elim, Option.bind_assoc, bind_none]
set_option maxRecDepth 100000 in
theorem t82 {R : Type} (x : AX U tp82) (κ : U.D → List (List U.C) → Option R) : evFn (F82) (L82) (U.ro 82) (U.rnew 82) Try.f82 (fillS tp82.a x.1) (fillB tp82.b x.2) κ
    = b82 x.1.1 (fun r => κ (.v (.c (.bool r))) []) := by kernel_rfl
theorem hF82 {R : Type} : ∀ g, Sound Try.prog (F82 : Nat → Fn U R) g := Fz_sound
theorem q82 {R : Type} {rest : Fn U R} (hr : SoundF Try.prog 82 rest) : SoundF Try.prog 82 (e82 (fun p0 => b82 p0 some) rest) :=
  ent_sound uok mixed (fn := Try.f82) (by kernel_rfl) (by kernel_rfl) (hF82) (L := L82) (fn_loops (ls := []) (by kernel_rfl) all_nil) hr (fun x κ => (n82 x.1.1 some _).trans (t82 x κ).symm)
def F80_82 {R : Type} (f82 : Y82) : Nat → Fn U R := (Fc 82 (e82 f82 (Fz 82)) Fz)
def st80_82_2 : StT := ⟨[.c (.l 5), .c (.fn 82), .c .u, .c .u, .c .u, .c (.i .i64), .c .u, .c .u, .c .u, .c .u, .c .u, .c .u, .c .u, .c .u, .c .u, .c .u, .c .u, .c .u, .c .u, .c .u, .c .u], [], [], 0⟩
def h80_82_2 {R : Type} (l : Z80_82_2) : SX U st80_82_2 → (Out → St U → Option R) → Option R := fun x k => (l x.1.1 x.1.2.1).bind (fun o => k (.exit 0) ⟨[.v (.c (.sl 5 x.1.1)), .v (.c (.fn 82)), ud, ud, ud, .v (.c (.int .i64 o)), ud, ud, ud, ud, ud, ud, ud, ud, ud, ud, ud, ud, ud, ud, ud], [], [], 0⟩)
def wd80_82_2 : List Wd := [.drop 2, .drop 3, .drop 4, .drop 6, .drop 7, .drop 8, .drop 9, .drop 10, .drop 11, .drop 12, .drop 13, .drop 14, .drop 15, .drop 16, .drop 17, .drop 18, .drop 19, .drop 20]
def L80_82 {R : Type} (l2 : Z80_82_2) : Hn U R := fun key σ k => bif Nat.beq key 2 then hnd wd80_82_2 st80_82_2 (h80_82_2 l2) σ k else none
set_option maxRecDepth 100000 in
theorem tl80_82_2 {R : Type} (f82 : Y82) (l2 : Z80_82_2) (x0 x : SX U st80_82_2) (k : Out → St U → Option R) (n : Nat) : loopN [4] [] (fun σ k => ev (F80_82 f82) (L80_82 l2) (lpAt Try.f80 0) σ k) (fillSt st80_82_2 x0) k (n + 1) (fillSt st80_82_2 x)
    = lb80_82_2 f82 x.1.1 (fun v5 => loopN [4] [] (fun σ k => ev (F80_82 f82) (L80_82 l2) (lpAt Try.f80 0) σ k) (fillSt st80_82_2 x0) k n (fillSt st80_82_2 (((x.1.1, v5, ()), (), ()) : SX U st80_82_2))) (fun o => k (.exit 0) ⟨[.v (.c (.sl 5 x.1.1)), .v (.c (.fn 82)), ud, ud, ud, .v (.c (.int .i64 o)), ud, ud, ud, ud, ud, ud, ud, ud, ud, ud, ud, ud, ud, ud, ud], [], [], 0⟩) x.1.2.1 := by kernel_rfl
theorem nb80_82_2 {R S : Type} (f82 : Y82) (q4 : List Int) (c : Int → Option R) (e0 : Int → Option R) (v5 : Int) (K : R → Option S) : (lb80_82_2 f82 q4 c e0 v5).bind K = lb80_82_2 f82 q4 (fun v5 => (c v5).bind K) (fun o => (e0 o).bind K) v5 := by
  unfold lb80_82_2
  simp only [bind_cond, bind_when, bind_elim, Option.bind_assoc, bind_none]
set_option maxHeartbeats 1000000 in
theorem ll80_82_2 {R : Type} (f82 : Y82) (l2 : Z80_82_2) (x0 : SX U st80_82_2) (k : Out → St U → Option R) : ∀ (n : Nat) (x : SX U st80_82_2), loopN [4] [] (fun σ k => ev (F80_82 f82) (L80_82 l2) (lpAt Try.f80 0) σ k) (fillSt st80_82_2 x0) k n (fillSt st80_82_2 x)
    = h80_82_2 (lp80_82_2 f82 n) x k := by
  intro n
  induction n with
  | zero => intro x; kernel_rfl
  | succ n ih =>
    intro x
    have h2 := congrArg (fun c => lb80_82_2 f82 x.1.1 c (fun o => k (.exit 0) ⟨[.v (.c (.sl 5 x.1.1)), .v (.c (.fn 82)), ud, ud, ud, .v (.c (.int .i64 o)), ud, ud, ud, ud, ud, ud, ud, ud, ud, ud, ud, ud, ud, ud, ud], [], [], 0⟩) x.1.2.1) (funext fun v5 => ih (((x.1.1, v5, ()), (), ()) : SX U st80_82_2))
    exact kcast (by kernel_rfl) (chain3 (tl80_82_2 f82 l2 x0 x k n) h2 (nb80_82_2 f82 x.1.1 (fun v5 => lp80_82_2 f82 n x.1.1 v5) (fun o => some o) x.1.2.1 (fun o => k (.exit 0) ⟨[.v (.c (.sl 5 x.1.1)), .v (.c (.fn 82)), ud, ud, ud, .v (.c (.int .i64 o)), ud, ud, ud, ud, ud, ud, ud, ud, ud, ud, ud, ud, ud, ud, ud], [], [], 0⟩)).symm (by kernel_rfl) (by kernel_rfl))
theorem n80_82 {R S : Type} (f82 : Y82) (l2 : Z80_82_2) (p0 : (List Int)) (k : Int → Option R) (K : R → Option S) : (b80_82 f82 l2 p0 k).bind K = b80_82 f82 l2 p0 (fun r => (k r).bind K) := by
  unfold b80_82
  simp only [bind_cond, bind_when, bind_elim, Option.bind_assoc, bind_none]
set_option maxRecDepth 100000 in
theorem t80_82 {R : Type} (f82 : Y82) (l2 : Z80_82_2) (x : AX U tp80_82) (κ : U.D → List (List U.C) → Option R) : evFn (F80_82 f82) (L80_82 l2) (U.ro 80) (U.rnew 80) Try.f80 (fillS tp80_82.a x.1) (fillB tp80_82.b x.2) κ
    = b80_82 f82 l2 x.1.1 (fun r => κ (.v (.c (.int .i64 r))) []) := by kernel_rfl
theorem hF80_82 {R : Type} (f82 : Y82) (h82 : ∀ rest : Fn U R, SoundF Try.prog 82 rest → SoundF Try.prog 82 (e82 f82 rest)) : ∀ g, Sound Try.prog (F80_82 f82 : Nat → Fn U R) g := (Fc_sound (h82 _ fz_sound) Fz_sound)
theorem lok80_82_2 {R : Type} (f82 : Y82) (h82 : ∀ rest : Fn U R, SoundF Try.prog 82 rest → SoundF Try.prog 82 (e82 f82 rest)) : LoopOk Try.prog (L80_82 (lp80_82_2 f82 big) : Hn U R) (lpAt Try.f80 0) :=
  hnd_ok uok (hF80_82 f82 h82) mixed (loops_of (ls := []) (by kernel_rfl) all_nil) (key := 2) (by kernel_rfl) (ws0 := wd80_82_2) (t := st80_82_2) (f := h80_82_2 (lp80_82_2 f82 big)) (ws := []) (keep := [4]) (fun σ k => by kernel_rfl) (n := big) (fun x k => (ll80_82_2 f82 (lp80_82_2 f82 big) x k big x).symm)
theorem q80_82 {R : Type} (f82 : Y82) (h82 : ∀ rest : Fn U R, SoundF Try.prog 82 rest → SoundF Try.prog 82 (e82 f82 rest)) {rest : Fn U R} (hr : SoundF Try.prog 80 rest) : SoundF Try.prog 80 (e80_82 (fun p0 => b80_82 f82 (lp80_82_2 f82 big) p0 some) rest) :=
  ent_sound uok mixed (fn := Try.f80) (by kernel_rfl) (by kernel_rfl) (hF80_82 f82 h82) (L := L80_82 (lp80_82_2 f82 big)) (fn_loops (ls := [lpAt Try.f80 0]) (by kernel_rfl) (all_cons (lok80_82_2 f82 h82) all_nil)) hr (fun x κ => (n80_82 f82 (lp80_82_2 f82 big) x.1.1 some _).trans (t80_82 f82 (lp80_82_2 f82 big) x κ).symm)
def F93 {R : Type} : Nat → Fn U R := Fz
def L93 {R : Type} : Hn U R := fun key σ k => none
theorem n93 {R S : Type} (p0 : Int) (k : Bool → Option R) (K : R → Option S) : (b93 p0 k).bind K = b93 p0 (fun r => (k r).bind K) := by
  unfold b93
  simp only [bind_cond, bind_when, bind_elim, Option.bind_assoc, bind_none]
set_option maxRecDepth 100000 in
theorem t93 {R : Type} (x : AX U tp93) (κ : U.D → List (List U.C) → Option R) : evFn (F93) (L93) (U.ro 93) (U.rnew 93) Try.f93 (fillS tp93.a x.1) (fillB tp93.b x.2) κ
    = b93 x.1.1 (fun r => κ (.v (.c (.bool r))) []) := by kernel_rfl
theorem hF93 {R : Type} : ∀ g, Sound Try.prog (F93 : Nat → Fn U R) g := Fz_sound
theorem q93 {R : Type} {rest : Fn U R} (hr : SoundF Try.prog 93 rest) : SoundF Try.prog 93 (e93 (fun p0 => b93 p0 some) rest) :=
  ent_sound uok mixed (fn := Try.f93) (by kernel_rfl) (by kernel_rfl) (hF93) (L := L93) (fn_loops (ls := []) (by kernel_rfl) all_nil) hr (fun x κ => (n93 x.1.1 some _).trans (t93 x κ).symm)
def F80_93 {R : Type} (f93 : Y93) : Nat → Fn U R := (Fc 93 (e93 f93 (Fz 93)) Fz)
def st80_93_2 : StT := ⟨[.c (.l 5), .c (.fn 93), .c .u, .c .u, .c .u, .c (.i .i64), .c .u, .c .u, .c .u, .c .u, .c .u, .c .u, .c .u, .c .u, .c .u, .c .u, .c .u, .c .u, .c .u, .c .u, .c .u], [], [], 0⟩
def h80_93_2 {R : Type} (l : Z80_93_2) : SX U st80_93_2 → (Out → St U → Option R) → Option R := fun x k => (l x.1.1 x.1.2.1).bind (fun o => k (.exit 0) ⟨[.v (.c (.sl 5 x.1.1)), .v (.c (.fn 93)), ud, ud, ud, .v (.c (.int .i64 o)), ud, ud, ud, ud, ud, ud, ud, ud, ud, ud, ud, ud, ud, ud, ud], [], [], 0⟩)
def wd80_93_2 : List Wd := [.drop 2, .drop 3, .drop 4, .drop 6, .drop 7, .drop 8, .drop 9, .drop 10, .drop 11, .drop 12, .drop 13, .drop 14, .drop 15, .drop 16, .drop 17, .drop 18, .drop 19, .drop 20]
def L80_93 {R : Type} (l2 : Z80_93_2) : Hn U R := fun key σ k => bif Nat.beq key 2 then hnd wd80_93_2 st80_93_2 (h80_93_2 l2) σ k else none
set_option maxRecDepth 100000 in
theorem tl80_93_2 {R : Type} (f93 : Y93) (l2 : Z80_93_2) (x0 x : SX U st80_93_2) (k : Out → St U → Option R) (n : Nat) : loopN [4] [] (fun σ k => ev (F80_93 f93) (L80_93 l2) (lpAt Try.f80 0) σ k) (fillSt st80_93_2 x0) k (n + 1) (fillSt st80_93_2 x)
    = lb80_93_2 f93 x.1.1 (fun v5 => loopN [4] [] (fun σ k => ev (F80_93 f93) (L80_93 l2) (lpAt Try.f80 0) σ k) (fillSt st80_93_2 x0) k n (fillSt st80_93_2 (((x.1.1, v5, ()), (), ()) : SX U st80_93_2))) (fun o => k (.exit 0) ⟨[.v (.c (.sl 5 x.1.1)), .v (.c (.fn 93)), ud, ud, ud, .v (.c (.int .i64 o)), ud, ud, ud, ud, ud, ud, ud, ud, ud, ud, ud, ud, ud, ud, ud], [], [], 0⟩) x.1.2.1 := by kernel_rfl
theorem nb80_93_2 {R S : Type} (f93 : Y93) (q4 : List Int) (c : Int → Option R) (e0 : Int → Option R) (v5 : Int) (K : R → Option S) : (lb80_93_2 f93 q4 c e0 v5).bind K = lb80_93_2 f93 q4 (fun v5 => (c v5).bind K) (fun o => (e0 o).bind K) v5 := by
  unfold lb80_93_2
  simp only [bind_cond, bind_when, bind_elim, Option.bind_assoc, bind_none]
set_option maxHeartbeats 1000000 in
theorem ll80_93_2 {R : Type} (f93 : Y93) (l2 : Z80_93_2) (x0 : SX U st80_93_2) (k : Out → St U → Option R) : ∀ (n : Nat) (x : SX U st80_93_2), loopN [4] [] (fun σ k => ev (F80_93 f93) (L80_93 l2) (lpAt Try.f80 0) σ k) (fillSt st80_93_2 x0) k n (fillSt st80_93_2 x)
    = h80_93_2 (lp80_93_2 f93 n) x k := by
  intro n
  induction n with
  | zero => intro x; kernel_rfl
  | succ n ih =>
    intro x
    have h2 := congrArg (fun c => lb80_93_2 f93 x.1.1 c (fun o => k (.exit 0) ⟨[.v (.c (.sl 5 x.1.1)), .v (.c (.fn 93)), ud, ud, ud, .v (.c (.int .i64 o)), ud, ud, ud, ud, ud, ud, ud, ud, ud, ud, ud, ud, ud, ud, ud], [], [], 0⟩) x.1.2.1) (funext fun v5 => ih (((x.1.1, v5, ()), (), ()) : SX U st80_93_2))
    exact kcast (by kernel_rfl) (chain3 (tl80_93_2 f93 l2 x0 x k n) h2 (nb80_93_2 f93 x.1.1 (fun v5 => lp80_93_2 f93 n x.1.1 v5) (fun o => some o) x.1.2.1 (fun o => k (.exit 0) ⟨[.v (.c (.sl 5 x.1.1)), .v (.c (.fn 93)), ud, ud, ud, .v (.c (.int .i64 o)), ud, ud, ud, ud, ud, ud, ud, ud, ud, ud, ud, ud, ud, ud, ud], [], [], 0⟩)).symm (by kernel_rfl) (by kernel_rfl))
theorem n80_93 {R S : Type} (f93 : Y93) (l2 : Z80_93_2) (p0 : (List Int)) (k : Int → Option R) (K : R → Option S) : (b80_93 f93 l2 p0 k).bind K = b80_93 f93 l2 p0 (fun r => (k r).bind K) := by
  unfold b80_93
  simp only [bind_cond, bind_when, bind_elim, Option.bind_assoc, bind_none]
set_option maxRecDepth 100000 in
theorem t80_93 {R : Type} (f93 : Y93) (l2 : Z80_93_2) (x : AX U tp80_93) (κ : U.D → List (List U.C) → Option R) : evFn (F80_93 f93) (L80_93 l2) (U.ro 80) (U.rnew 80) Try.f80 (fillS tp80_93.a x.1) (fillB tp80_93.b x.2) κ
    = b80_93 f93 l2 x.1.1 (fun r => κ (.v (.c (.int .i64 r))) []) := by kernel_rfl
theorem hF80_93 {R : Type} (f93 : Y93) (h93 : ∀ rest : Fn U R, SoundF Try.prog 93 rest → SoundF Try.prog 93 (e93 f93 rest)) : ∀ g, Sound Try.prog (F80_93 f93 : Nat → Fn U R) g := (Fc_sound (h93 _ fz_sound) Fz_sound)
theorem lok80_93_2 {R : Type} (f93 : Y93) (h93 : ∀ rest : Fn U R, SoundF Try.prog 93 rest → SoundF Try.prog 93 (e93 f93 rest)) : LoopOk Try.prog (L80_93 (lp80_93_2 f93 big) : Hn U R) (lpAt Try.f80 0) :=
  hnd_ok uok (hF80_93 f93 h93) mixed (loops_of (ls := []) (by kernel_rfl) all_nil) (key := 2) (by kernel_rfl) (ws0 := wd80_93_2) (t := st80_93_2) (f := h80_93_2 (lp80_93_2 f93 big)) (ws := []) (keep := [4]) (fun σ k => by kernel_rfl) (n := big) (fun x k => (ll80_93_2 f93 (lp80_93_2 f93 big) x k big x).symm)
theorem q80_93 {R : Type} (f93 : Y93) (h93 : ∀ rest : Fn U R, SoundF Try.prog 93 rest → SoundF Try.prog 93 (e93 f93 rest)) {rest : Fn U R} (hr : SoundF Try.prog 80 rest) : SoundF Try.prog 80 (e80_93 (fun p0 => b80_93 f93 (lp80_93_2 f93 big) p0 some) rest) :=
  ent_sound uok mixed (fn := Try.f80) (by kernel_rfl) (by kernel_rfl) (hF80_93 f93 h93) (L := L80_93 (lp80_93_2 f93 big)) (fn_loops (ls := [lpAt Try.f80 0]) (by kernel_rfl) (all_cons (lok80_93_2 f93 h93) all_nil)) hr (fun x κ => (n80_93 f93 (lp80_93_2 f93 big) x.1.1 some _).trans (t80_93 f93 (lp80_93_2 f93 big) x κ).symm)
def F94 {R : Type} : Nat → Fn U R := Fz
def L94 {R : Type} : Hn U R := fun key σ k => none
theorem n94 {R S : Type} (p0 : Int) (k : Bool → Option R) (K : R → Option S) : (b94 p0 k).bind K = b94 p0 (fun r => (k r).bind K) := by
  unfold b94
  simp only [bind_cond, bind_when, bind_elim, Option.bind_assoc, bind_none]
set_option maxRecDepth 100000 in
theorem t94 {R : Type} (x : AX U tp94) (κ : U.D → List (List U.C) → Option R) : evFn (F94) (L94) (U.ro 94) (U.rnew 94) Try.f94 (fillS tp94.a x.1) (fillB tp94.b x.2) κ
    = b94 x.1.1 (fun r => κ (.v (.c (.bool r))) []) := by kernel_rfl
theorem hF94 {R : Type} : ∀ g, Sound Try.prog (F94 : Nat → Fn U R) g := Fz_sound
theorem q94 {R : Type} {rest : Fn U R} (hr : SoundF Try.prog 94 rest) : SoundF Try.prog 94 (e94 (fun p0 => b94 p0 some) rest) :=
  ent_sound uok mixed (fn := Try.f94) (by kernel_rfl) (by kernel_rfl) (hF94) (L := L94) (fn_loops (ls := []) (by kernel_rfl) all_nil) hr (fun x κ => (n94 x.1.1 some _).trans (t94 x κ).symm)
def F80_94 {R : Type} (f94 : Y94) : Nat → Fn U R := (Fc 94 (e94 f94 (Fz 94)) Fz)
def st80_94_2 : StT := ⟨[.c (.l 5), .c (.fn 94), .c .u, .c .u, .c .u, .c (.i .i64), .c .u, .c .u, .c .u, .c .u, .c .u, .c .u, .c .u, .c .u, .c .u, .c .u, .c .u, .c .u, .c .u, .c .u, .c .u], [], [], 0⟩
def h80_94_2 {R : Type} (l : Z80_94_2) : SX U st80_94_2 → (Out → St U → Option R) → Option R := fun x k => (l x.1.1 x.1.2.1).bind (fun o => k (.exit 0) ⟨[.v (.c (.sl 5 x.1.1)), .v (.c (.fn 94)), ud, ud, ud, .v (.c (.int .i64 o)), ud, ud, ud, ud, ud, ud, ud, ud, ud, ud, ud, ud, ud, ud, ud], [], [], 0⟩)
def wd80_94_2 : List Wd := [.drop 2, .drop 3, .drop 4, .drop 6, .drop 7, .drop 8, .drop 9, .drop 10, .drop 11, .drop 12, .drop 13, .drop 14, .drop 15, .drop 16, .drop 17, .drop 18, .drop 19, .drop 20]
def L80_94 {R : Type} (l2 : Z80_94_2) : Hn U R := fun key σ k => bif Nat.beq key 2 then hnd wd80_94_2 st80_94_2 (h80_94_2 l2) σ k else none
set_option maxRecDepth 100000 in
theorem tl80_94_2 {R : Type} (f94 : Y94) (l2 : Z80_94_2) (x0 x : SX U st80_94_2) (k : Out → St U → Option R) (n : Nat) : loopN [4] [] (fun σ k => ev (F80_94 f94) (L80_94 l2) (lpAt Try.f80 0) σ k) (fillSt st80_94_2 x0) k (n + 1) (fillSt st80_94_2 x)
    = lb80_94_2 f94 x.1.1 (fun v5 => loopN [4] [] (fun σ k => ev (F80_94 f94) (L80_94 l2) (lpAt Try.f80 0) σ k) (fillSt st80_94_2 x0) k n (fillSt st80_94_2 (((x.1.1, v5, ()), (), ()) : SX U st80_94_2))) (fun o => k (.exit 0) ⟨[.v (.c (.sl 5 x.1.1)), .v (.c (.fn 94)), ud, ud, ud, .v (.c (.int .i64 o)), ud, ud, ud, ud, ud, ud, ud, ud, ud, ud, ud, ud, ud, ud, ud], [], [], 0⟩) x.1.2.1 := by kernel_rfl
theorem nb80_94_2 {R S : Type} (f94 : Y94) (q4 : List Int) (c : Int → Option R) (e0 : Int → Option R) (v5 : Int) (K : R → Option S) : (lb80_94_2 f94 q4 c e0 v5).bind K = lb80_94_2 f94 q4 (fun v5 => (c v5).bind K) (fun o => (e0 o).bind K) v5 := by
  unfold lb80_94_2
  simp only [bind_cond, bind_when, bind_elim, Option.bind_assoc, bind_none]
set_option maxHeartbeats 1000000 in
theorem ll80_94_2 {R : Type} (f94 : Y94) (l2 : Z80_94_2) (x0 : SX U st80_94_2) (k : Out → St U → Option R) : ∀ (n : Nat) (x : SX U st80_94_2), loopN [4] [] (fun σ k => ev (F80_94 f94) (L80_94 l2) (lpAt Try.f80 0) σ k) (fillSt st80_94_2 x0) k n (fillSt st80_94_2 x)
    = h80_94_2 (lp80_94_2 f94 n) x k := by
  intro n
  induction n with
  | zero => intro x; kernel_rfl
  | succ n ih =>
    intro x
    have h2 := congrArg (fun c => lb80_94_2 f94 x.1.1 c (fun o => k (.exit 0) ⟨[.v (.c (.sl 5 x.1.1)), .v (.c (.fn 94)), ud, ud, ud, .v (.c (.int .i64 o)), ud, ud, ud, ud, ud, ud, ud, ud, ud, ud, ud, ud, ud, ud, ud], [], [], 0⟩) x.1.2.1) (funext fun v5 => ih (((x.1.1, v5, ()), (), ()) : SX U st80_94_2))
    exact kcast (by kernel_rfl) (chain3 (tl80_94_2 f94 l2 x0 x k n) h2 (nb80_94_2 f94 x.1.1 (fun v5 => lp80_94_2 f94 n x.1.1 v5) (fun o => some o) x.1.2.1 (fun o => k (.exit 0) ⟨[.v (.c (.sl 5 x.1.1)), .v (.c (.fn 94)), ud, ud, ud, .v (.c (.int .i64 o)), ud, ud, ud, ud, ud, ud, ud, ud, ud, ud, ud, ud, ud, ud, ud], [], [], 0⟩)).symm (by kernel_rfl) (by kernel_rfl))
theorem n80_94 {R S : Type} (f94 : Y94) (l2 : Z80_94_2) (p0 : (List Int)) (k : Int → Option R) (K : R → Option S) : (b80_94 f94 l2 p0 k).bind K = b80_94 f94 l2 p0 (fun r => (k r).bind K) := by
  unfold b80_94
  simp only [bind_cond, bind_when, bind_elim, Option.bind_assoc, bind_none]
set_option maxRecDepth 100000 in
theorem t80_94 {R : Type} (f94 : Y94) (l2 : Z80_94_2) (x : AX U tp80_94) (κ : U.D → List (List U.C) → Option R) : evFn (F80_94 f94) (L80_94 l2) (U.ro 80) (U.rnew 80) Try.f80 (fillS tp80_94.a x.1) (fillB tp80_94.b x.2) κ
    = b80_94 f94 l2 x.1.1 (fun r => κ (.v (.c (.int .i64 r))) []) := by kernel_rfl
theorem hF80_94 {R : Type} (f94 : Y94) (h94 : ∀ rest : Fn U R, SoundF Try.prog 94 rest → SoundF Try.prog 94 (e94 f94 rest)) : ∀ g, Sound Try.prog (F80_94 f94 : Nat → Fn U R) g := (Fc_sound (h94 _ fz_sound) Fz_sound)
theorem lok80_94_2 {R : Type} (f94 : Y94) (h94 : ∀ rest : Fn U R, SoundF Try.prog 94 rest → SoundF Try.prog 94 (e94 f94 rest)) : LoopOk Try.prog (L80_94 (lp80_94_2 f94 big) : Hn U R) (lpAt Try.f80 0) :=
  hnd_ok uok (hF80_94 f94 h94) mixed (loops_of (ls := []) (by kernel_rfl) all_nil) (key := 2) (by kernel_rfl) (ws0 := wd80_94_2) (t := st80_94_2) (f := h80_94_2 (lp80_94_2 f94 big)) (ws := []) (keep := [4]) (fun σ k => by kernel_rfl) (n := big) (fun x k => (ll80_94_2 f94 (lp80_94_2 f94 big) x k big x).symm)
theorem q80_94 {R : Type} (f94 : Y94) (h94 : ∀ rest : Fn U R, SoundF Try.prog 94 rest → SoundF Try.prog 94 (e94 f94 rest)) {rest : Fn U R} (hr : SoundF Try.prog 80 rest) : SoundF Try.prog 80 (e80_94 (fun p0 => b80_94 f94 (lp80_94_2 f94 big) p0 some) rest) :=
  ent_sound uok mixed (fn := Try.f80) (by kernel_rfl) (by kernel_rfl) (hF80_94 f94 h94) (L := L80_94 (lp80_94_2 f94 big)) (fn_loops (ls := [lpAt Try.f80 0]) (by kernel_rfl) (all_cons (lok80_94_2 f94 h94) all_nil)) hr (fun x κ => (n80_94 f94 (lp80_94_2 f94 big) x.1.1 some _).trans (t80_94 f94 (lp80_94_2 f94 big) x κ).symm)
def F95 {R : Type} (f79 : Y79) (f82 : Y82) : Nat → Fn U R := (Fc 79 (e79 f79 (Fz 79)) (Fc 82 (e82 f82 (Fz 82)) Fz))
def L95 {R : Type} : Hn U R := fun key σ k => none
theorem n95 {R S : Type} (f79 : Y79) (f82 : Y82) (p0 : Int) (k : Bool → Option R) (K : R → Option S) : (b95 f79 f82 p0 k).bind K = b95 f79 f82 p0 (fun r => (k r).bind K) := by
  unfold b95
  simp only [bind_cond, bind_when, bind_elim, Option.bind_assoc, bind_none]
set_option maxRecDepth 100000 in
theorem t95 {R : Type} (f79 : Y79) (f82 : Y82) (x : AX U tp95) (κ : U.D → List (List U.C) → Option R) : evFn (F95 f79 f82) (L95) (U.ro 95) (U.rnew 95) Try.f95 (fillS tp95.a x.1) (fillB tp95.b x.2) κ
    = b95 f79 f82 x.1.1 (fun r => κ (.v (.c (.bool r))) []) := by kernel_rfl
theorem hF95 {R : Type} (f79 : Y79) (f82 : Y82) (h79 : ∀ rest : Fn U R, SoundF Try.prog 79 rest → SoundF Try.prog 79 (e79 f79 rest)) (h82 : ∀ rest : Fn U R, SoundF Try.prog 82 rest → SoundF Try.prog 82 (e82 f82 rest)) : ∀ g, Sound Try.prog (F95 f79 f82 : Nat → Fn U R) g := (Fc_sound (h79 _ fz_sound) (Fc_sound (h82 _ fz_sound) Fz_sound))
theorem q95 {R : Type} (f79 : Y79) (f82 : Y82) (h79 : ∀ rest : Fn U R, SoundF Try.prog 79 rest → SoundF Try.prog 79 (e79 f79 rest)) (h82 : ∀ rest : Fn U R, SoundF Try.prog 82 rest → SoundF Try.prog 82 (e82 f82 rest)) {rest : Fn U R} (hr : SoundF Try.prog 95 rest) : SoundF Try.prog 95 (e95 (fun p0 => b95 f79 f82 p0 some) rest) :=
  ent_sound uok mixed (fn := Try.f95) (by kernel_rfl) (by kernel_rfl) (hF95 f79 f82 h79 h82) (L := L95) (fn_loops (ls := []) (by kernel_rfl) all_nil) hr (fun x κ => (n95 f79 f82 x.1.1 some _).trans (t95 f79 f82 x κ).symm)
def F80_95 {R : Type} (f95 : Y95) : Nat → Fn U R := (Fc 95 (e95 f95 (Fz 95)) Fz)
def st80_95_2 : StT := ⟨[.c (.l 5), .c (.fn 95), .c .u, .c .u, .c .u, .c (.i .i64), .c .u, .c .u, .c .u, .c .u, .c .u, .c .u, .c .u, .c .u, .c .u, .c .u, .c .u, .c .u, .c .u, .c .u, .c .u], [], [], 0⟩
def h80_95_2 {R : Type} (l : Z80_95_2) : SX U st80_95_2 → (Out → St U → Option R) → Option R := fun x k => (l x.1.1 x.1.2.1).bind (fun o => k (.exit 0) ⟨[.v (.c (.sl 5 x.1.1)), .v (.c (.fn 95)), ud, ud, ud, .v (.c (.int .i64 o)), ud, ud, ud, ud, ud, ud, ud, ud, ud, ud, ud, ud, ud, ud, ud], [], [], 0⟩)
def wd80_95_2 : List Wd := [.drop 2, .drop 3, .drop 4, .drop 6, .drop 7, .drop 8, .drop 9, .drop 10, .drop 11, .drop 12, .drop 13, .drop 14, .drop 15, .drop 16, .drop 17, .drop 18, .drop 19, .drop 20]
def L80_95 {R : Type} (l2 : Z80_95_2) : Hn U R := fun key σ k => bif Nat.beq key 2 then hnd wd80_95_2 st80_95_2 (h80_95_2 l2) σ k else none
set_option maxRecDepth 100000 in
theorem tl80_95_2 {R : Type} (f95 : Y95) (l2 : Z80_95_2) (x0 x : SX U st80_95_2) (k : Out → St U → Option R) (n : Nat) : loopN [4] [] (fun σ k => ev (F80_95 f95) (L80_95 l2) (lpAt Try.f80 0) σ k) (fillSt st80_95_2 x0) k (n + 1) (fillSt st80_95_2 x)
    = lb80_95_2 f95 x.1.1 (fun v5 => loopN [4] [] (fun σ k => ev (F80_95 f95) (L80_95 l2) (lpAt Try.f80 0) σ k) (fillSt st80_95_2 x0) k n (fillSt st80_95_2 (((x.1.1, v5, ()), (), ()) : SX U st80_95_2))) (fun o => k (.exit 0) ⟨[.v (.c (.sl 5 x.1.1)), .v (.c (.fn 95)), ud, ud, ud, .v (.c (.int .i64 o)), ud, ud, ud, ud, ud, ud, ud, ud, ud, ud, ud, ud, ud, ud, ud], [], [], 0⟩) x.1.2.1 := by kernel_rfl
theorem nb80_95_2 {R S : Type} (f95 : Y95) (q4 : List Int) (c : Int → Option R) (e0 : Int → Option R) (v5 : Int) (K : R → Option S) : (lb80_95_2 f95 q4 c e0 v5).bind K = lb80_95_2 f95 q4 (fun v5 => (c v5).bind K) (fun o => (e0 o).bind K) v5 := by
  unfold lb80_95_2
  simp only [bind_cond, bind_when, bind_elim, Option.bind_assoc, bind_none]
set_option maxHeartbeats 1000000 in
theorem ll80_95_2 {R : Type} (f95 : Y95) (l2 : Z80_95_2) (x0 : SX U st80_95_2) (k : Out → St U → Option R) : ∀ (n : Nat) (x : SX U st80_95_2), loopN [4] [] (fun σ k => ev (F80_95 f95) (L80_95 l2) (lpAt Try.f80 0) σ k) (fillSt st80_95_2 x0) k n (fillSt st80_95_2 x)
    = h80_95_2 (lp80_95_2 f95 n) x k := by
  intro n
  induction n with
  | zero => intro x; kernel_rfl
  | succ n ih =>
    intro x
    have h2 := congrArg (fun c => lb80_95_2 f95 x.1.1 c (fun o => k (.exit 0) ⟨[.v (.c (.sl 5 x.1.1)), .v (.c (.fn 95)), ud, ud, ud, .v (.c (.int .i64 o)), ud, ud, ud, ud, ud, ud, ud, ud, ud, ud, ud, ud, ud, ud, ud], [], [], 0⟩) x.1.2.1) (funext fun v5 => ih (((x.1.1, v5, ()), (), ()) : SX U st80_95_2))
    exact kcast (by kernel_rfl) (chain3 (tl80_95_2 f95 l2 x0 x k n) h2 (nb80_95_2 f95 x.1.1 (fun v5 => lp80_95_2 f95 n x.1.1 v5) (fun o => some o) x.1.2.1 (fun o => k (.exit 0) ⟨[.v (.c (.sl 5 x.1.1)), .v (.c (.fn 95)), ud, ud, ud, .v (.c (.int .i64 o)), ud, ud, ud, ud, ud, ud, ud, ud, ud, ud, ud, ud, ud, ud, ud], [], [], 0⟩)).symm (by kernel_rfl) (by kernel_rfl))
theorem n80_95 {R S : Type} (f95 : Y95) (l2 : Z80_95_2) (p0 : (List Int)) (k : Int → Option R) (K : R → Option S) : (b80_95 f95 l2 p0 k).bind K = b80_95 f95 l2 p0 (fun r => (k r).bind K) := by
  unfold b80_95
  simp only [bind_cond, bind_when, bind_elim, Option.bind_assoc, bind_none]
set_option maxRecDepth 100000 in
theorem t80_95 {R : Type} (f95 : Y95) (l2 : Z80_95_2) (x : AX U tp80_95) (κ : U.D → List (List U.C) → Option R) : evFn (F80_95 f95) (L80_95 l2) (U.ro 80) (U.rnew 80) Try.f80 (fillS tp80_95.a x.1) (fillB tp80_95.b x.2) κ
    = b80_95 f95 l2 x.1.1 (fun r => κ (.v (.c (.int .i64 r))) []) := by kernel_rfl
theorem hF80_95 {R : Type} (f95 : Y95) (h95 : ∀ rest : Fn U R, SoundF Try.prog 95 rest → SoundF Try.prog 95 (e95 f95 rest)) : ∀ g, Sound Try.prog (F80_95 f95 : Nat → Fn U R) g := (Fc_sound (h95 _ fz_sound) Fz_sound)
theorem lok80_95_2 {R : Type} (f95 : Y95) (h95 : ∀ rest : Fn U R, SoundF Try.prog 95 rest → SoundF Try.prog 95 (e95 f95 rest)) : LoopOk Try.prog (L80_95 (lp80_95_2 f95 big) : Hn U R) (lpAt Try.f80 0) :=
  hnd_ok uok (hF80_95 f95 h95) mixed (loops_of (ls := []) (by kernel_rfl) all_nil) (key := 2) (by kernel_rfl) (ws0 := wd80_95_2) (t := st80_95_2) (f := h80_95_2 (lp80_95_2 f95 big)) (ws := []) (keep := [4]) (fun σ k => by kernel_rfl) (n := big) (fun x k => (ll80_95_2 f95 (lp80_95_2 f95 big) x k big x).symm)
theorem q80_95 {R : Type} (f95 : Y95) (h95 : ∀ rest : Fn U R, SoundF Try.prog 95 rest → SoundF Try.prog 95 (e95 f95 rest)) {rest : Fn U R} (hr : SoundF Try.prog 80 rest) : SoundF Try.prog 80 (e80_95 (fun p0 => b80_95 f95 (lp80_95_2 f95 big) p0 some) rest) :=
  ent_sound uok mixed (fn := Try.f80) (by kernel_rfl) (by kernel_rfl) (hF80_95 f95 h95) (L := L80_95 (lp80_95_2 f95 big)) (fn_loops (ls := [lpAt Try.f80 0]) (by kernel_rfl) (all_cons (lok80_95_2 f95 h95) all_nil)) hr (fun x κ => (n80_95 f95 (lp80_95_2 f95 big) x.1.1 some _).trans (t80_95 f95 (lp80_95_2 f95 big) x κ).symm)
def F106 {R : Type} : Nat → Fn U R := Fz
def st106_2 : StT := ⟨[.c (.l 9), .c .s, .c .u, .c .u, .c .u, .c .u, .c .u, .c (.i .i64), .c (.i .i64), .c .u, .c .u, .c .u, .c .u, .c .u, .c .u, .c .u, .c .u, .c .u, .c .u], [], [], 0⟩
def h106_2 {R : Type} (l : Z106_2) : SX U st106_2 → (Out → St U → Option R) → Option R := fun x k => (l x.1.2.2.1 x.1.1 x.1.2.1 x.1.2.2.2.1).bind (Sum.elim (fun o => k .ret ⟨[.v (.c (.sl 9 x.1.1)), .v (.c (.str x.1.2.1)), ud, ud, .v (.c (.int .i64 o.2)), ud, ud, .v (.c (.int .i64 x.1.2.2.1)), .v (.c (.int .i64 o.1)), ud, ud, ud, ud, ud, ud, ud, ud, ud, ud], [], [], 0⟩) (fun o => k (.exit 0) ⟨[.v (.c (.sl 9 x.1.1)), .v (.c (.str x.1.2.1)), ud, ud, ud, ud, ud, .v (.c (.int .i64 x.1.2.2.1)), .v (.c (.int .i64 o)), ud, ud, ud, ud, ud, ud, ud, ud, ud, ud], [], [], 0⟩))
def wd106_2 : List Wd := [.drop 2, .drop 3, .drop 4, .drop 5, .drop 6, .drop 9, .drop 10, .drop 11, .drop 12, .drop 13, .drop 14, .drop 15, .drop 16, .drop 17, .drop 18]
def L106 {R : Type} (l2 : Z106_2) : Hn U R := fun key σ k => bif Nat.beq key 2 then hnd wd106_2 st106_2 (h106_2 l2) σ k else none
set_option maxRecDepth 100000 in
theorem tl106_2 {R : Type} (l2 : Z106_2) (x0 x : SX U st106_2) (k : Out → St U → Option R) (n : Nat) : loopN [4] [] (fun σ k => ev (F106) (L106 l2) (lpAt Try.f106 0) σ k) (fillSt st106_2 x0) k (n + 1) (fillSt st106_2 x)
    = lb106_2 x.1.2.2.1 x.1.1 x.1.2.1 (fun v8 => loopN [4] [] (fun σ k => ev (F106) (L106 l2) (lpAt Try.f106 0) σ k) (fillSt st106_2 x0) k n (fillSt st106_2 (((x.1.1, x.1.2.1, x.1.2.2.1, v8, ()), (), ()) : SX U st106_2))) (fun o => k .ret ⟨[.v (.c (.sl 9 x.1.1)), .v (.c (.str x.1.2.1)), ud, ud, .v (.c (.int .i64 o.2)), ud, ud, .v (.c (.int .i64 x.1.2.2.1)), .v (.c (.int .i64 o.1)), ud, ud, ud, ud, ud, ud, ud, ud, ud, ud], [], [], 0⟩) (fun o => k (.exit 0) ⟨[.v (.c (.sl 9 x.1.1)), .v (.c (.str x.1.2.1)), ud, ud, ud, ud, ud, .v (.c (.int .i64 x.1.2.2.1)), .v (.c (.int .i64 o)), ud, ud, ud, ud, ud, ud, ud, ud, ud, ud], [], [], 0⟩) x.1.2.2.2.1 := by kernel_rfl
theorem nb106_2 {R S : Type} (q7 : Int) (q5 : List ByteArray) (q6 : ByteArray) (c : Int → Option R) (e0 : (Int × Int) → Option R) (e1 : Int → Option R) (v8 : Int) (K : R → Option S) : (lb106_2 q7 q5 q6 c e0 e1 v8).bind K = lb106_2 q7 q5 q6 (fun v8 => (c v8).bind K) (fun o => (e0 o).bind K) (fun o => (e1 o).bind K) v8 := by
  unfold lb106_2
  simp only [bind_cond, bind_when, bind_elim, Option.bind_assoc, bind_none]
set_option maxHeartbeats 1000000 in
theorem ll106_2 {R : Type} (l2 : Z106_2) (x0 : SX U st106_2) (k : Out → St U → Option R) : ∀ (n : Nat) (x : SX U st106_2), loopN [4] [] (fun σ k => ev (F106) (L106 l2) (lpAt Try.f106 0) σ k) (fillSt st106_2 x0) k n (fillSt st106_2 x)
    = h106_2 (lp106_2 n) x k := by
  intro n
  induction n with
  | zero => intro x; kernel_rfl
  | succ n ih =>
    intro x
    have h2 := congrArg (fun c => lb106_2 x.1.2.2.1 x.1.1 x.1.2.1 c (fun o => k .ret ⟨[.v (.c (.sl 9 x.1.1)), .v (.c (.str x.1.2.1)), ud, ud, .v (.c (.int .i64 o.2)), ud, ud, .v (.c (.int .i64 x.1.2.2.1)), .v (.c (.int .i64 o.1)), ud, ud, ud, ud, ud, ud, ud, ud, ud, ud], [], [], 0⟩) (fun o => k (.exit 0) ⟨[.v (.c (.sl 9 x.1.1)), .v (.c (.str x.1.2.1)), ud, ud, ud, ud, ud, .v (.c (.int .i64 x.1.2.2.1)), .v (.c (.int .i64 o)), ud, ud, ud, ud, ud, ud, ud, ud, ud, ud], [], [], 0⟩) x.1.2.2.2.1) (funext fun v8 => ih (((x.1.1, x.1.2.1, x.1.2.2.1, v8, ()), (), ()) : SX U st106_2))
    exact kcast (by kernel_rfl) (chain3 (tl106_2 l2 x0 x k n) h2 (nb106_2 x.1.2.2.1 x.1.1 x.1.2.1 (fun v8 => lp106_2 n x.1.2.2.1 x.1.1 x.1.2.1 v8) (fun o => some (Sum.inl o)) (fun o => some (Sum.inr (o))) x.1.2.2.2.1 (Sum.elim (fun o => k .ret ⟨[.v (.c (.sl 9 x.1.1)), .v (.c (.str x.1.2.1)), ud, ud, .v (.c (.int .i64 o.2)), ud, ud, .v (.c (.int .i64 x.1.2.2.1)), .v (.c (.int .i64 o.1)), ud, ud, ud, ud, ud, ud, ud, ud, ud, ud], [], [], 0⟩) (fun o => k (.exit 0) ⟨[.v (.c (.sl 9 x.1.1)), .v (.c (.str x.1.2.1)), ud, ud, ud, ud, ud, .v (.c (.int .i64 x.1.2.2.1)), .v (.c (.int .i64 o)), ud, ud, ud, ud, ud, ud, ud, ud, ud, ud], [], [], 0⟩))).symm (by kernel_rfl) (by kernel_rfl))
theorem n106 {R S : Type} (l2 : Z106_2) (p0 : (List ByteArray)) (p1 : ByteArray) (k : Int → Option R) (K : R → Option S) : (b106 l2 p0 p1 k).bind K = b106 l2 p0 p1 (fun r => (k r).bind K) := by
  unfold b106
  simp only [bind_cond, bind_when, bind_elim, Option.bind_assoc, bind_none]
set_option maxRecDepth 100000 in
theorem t106 {R : Type} (l2 : Z106_2) (x : AX U tp106) (κ : U.D → List (List U.C) → Option R) : evFn (F106) (L106 l2) (U.ro 106) (U.rnew 106) Try.f106 (fillS tp106.a x.1) (fillB tp106.b x.2) κ
    = b106 l2 x.1.1 x.1.2.1 (fun r => κ (.v (.c (.int .i64 r))) []) := by kernel_rfl
theorem hF106 {R : Type} : ∀ g, Sound Try.prog (F106 : Nat → Fn U R) g := Fz_sound
theorem lok106_2 {R : Type} : LoopOk Try.prog (L106 (lp106_2 big) : Hn U R) (lpAt Try.f106 0) :=
  hnd_ok uok (hF106) mixed (loops_of (ls := []) (by kernel_rfl) all_nil) (key := 2) (by kernel_rfl) (ws0 := wd106_2) (t := st106_2) (f := h106_2 (lp106_2 big)) (ws := []) (keep := [4]) (fun σ k => by kernel_rfl) (n := big) (fun x k => (ll106_2 (lp106_2 big) x k big x).symm)
theorem q106 {R : Type} {rest : Fn U R} (hr : SoundF Try.prog 106 rest) : SoundF Try.prog 106 (e106 (fun p0 p1 => b106 (lp106_2 big) p0 p1 some) rest) :=
  ent_sound uok mixed (fn := Try.f106) (by kernel_rfl) (by kernel_rfl) (hF106) (L := L106 (lp106_2 big)) (fn_loops (ls := [lpAt Try.f106 0]) (by kernel_rfl) (all_cons (lok106_2) all_nil)) hr (fun x κ => (n106 (lp106_2 big) x.1.1 x.1.2.1 some _).trans (t106 (lp106_2 big) x κ).symm)
def F96 {R : Type} (f106 : Y106) : Nat → Fn U R := (Fc 106 (e106 f106 (Fz 106)) Fz)
def L96 {R : Type} : Hn U R := fun key σ k => none
theorem n96 {R S : Type} (f106 : Y106) (p0 : (List ByteArray)) (p1 : ByteArray) (k : Bool → Option R) (K : R → Option S) : (b96 f106 p0 p1 k).bind K = b96 f106 p0 p1 (fun r => (k r).bind K) := by
  unfold b96
  simp only [bind_cond, bind_when, bind_elim, Option.bind_assoc, bind_none]
set_option maxRecDepth 100000 in
theorem t96 {R : Type} (f106 : Y106) (x : AX U tp96) (κ : U.D → List (List U.C) → Option R) : evFn (F96 f106) (L96) (U.ro 96) (U.rnew 96) Try.f96 (fillS tp96.a x.1) (fillB tp96.b x.2) κ
    = b96 f106 x.1.1 x.1.2.1 (fun r => κ (.v (.c (.bool r))) []) := by kernel_rfl
theorem hF96 {R : Type} (f106 : Y106) (h106 : ∀ rest : Fn U R, SoundF Try.prog 106 rest → SoundF Try.prog 106 (e106 f106 rest)) : ∀ g, Sound Try.prog (F96 f106 : Nat → Fn U R) g := (Fc_sound (h106 _ fz_sound) Fz_sound)
theorem q96 {R : Type} (f106 : Y106) (h106 : ∀ rest : Fn U R, SoundF Try.prog 106 rest → SoundF Try.prog 106 (e106 f106 rest)) {rest : Fn U R} (hr : SoundF Try.prog 96 rest) : SoundF Try.prog 96 (e96 (fun p0 p1 => b96 f106 p0 p1 some) rest) :=
  ent_sound uok mixed (fn := Try.f96) (by kernel_rfl) (by kernel_rfl) (hF96 f106 h106) (L := L96) (fn_loops (ls := []) (by kernel_rfl) all_nil) hr (fun x κ => (n96 f106 x.1.1 x.1.2.1 some _).trans (t96 f106 x κ).symm)
def F97 {R : Type} (f107 : Y107) : Nat → Fn U R := (Fc 107 (e107 f107 (Fz 107)) Fz)
def L97 {R : Type} : Hn U R := fun key σ k => none
theorem n97 {R S : Type} (f107 : Y107) (p0 : ByteArray) (p1 : Int) (k : Int → Option R) (K : R → Option S) : (b97 f107 p0 p1 k).bind K = b97 f107 p0 p1 (fun r => (k r).bind K) := by
  unfold b97
  simp only [bind_cond, bind_when, bind_elim, Option.bind_assoc, bind_none]
set_option maxRecDepth 100000 in
theorem t97 {R : Type} (f107 : Y107) (x : AX U tp97) (κ : U.D → List (List U.C) → Option R) : evFn (F97 f107) (L97) (U.ro 97) (U.rnew 97) Try.f97 (fillS tp97.a x.1) (fillB tp97.b x.2) κ
    = b97 f107 x.1.1 x.1.2.1 (fun r => κ (.v (.c (.int .i64 r))) []) := by kernel_rfl
theorem hF97 {R : Type} (f107 : Y107) (h107 : ∀ rest : Fn U R, SoundF Try.prog 107 rest → SoundF Try.prog 107 (e107 f107 rest)) : ∀ g, Sound Try.prog (F97 f107 : Nat → Fn U R) g := (Fc_sound (h107 _ fz_sound) Fz_sound)
theorem q97 {R : Type} (f107 : Y107) (h107 : ∀ rest : Fn U R, SoundF Try.prog 107 rest → SoundF Try.prog 107 (e107 f107 rest)) {rest : Fn U R} (hr : SoundF Try.prog 97 rest) : SoundF Try.prog 97 (e97 (fun p0 p1 => b97 f107 p0 p1 some) rest) :=
  ent_sound uok mixed (fn := Try.f97) (by kernel_rfl) (by kernel_rfl) (hF97 f107 h107) (L := L97) (fn_loops (ls := []) (by kernel_rfl) all_nil) hr (fun x κ => (n97 f107 x.1.1 x.1.2.1 some _).trans (t97 f107 x κ).symm)
def F76 {R : Type} (f79 : Y79) (f80_82 : Y80_82) (f80_93 : Y80_93) (f80_94 : Y80_94) (f80_95 : Y80_95) (f82 : Y82) (f93 : Y93) (f96 : Y96) (f97 : Y97) : Nat → Fn U R := (Fc 79 (e79 f79 (Fz 79)) (Fc 80 (e80_82 f80_82 (e80_93 f80_93 (e80_94 f80_94 (e80_95 f80_95 (Fz 80))))) (Fc 82 (e82 f82 (Fz 82)) (Fc 93 (e93 f93 (Fz 93)) (Fc 96 (e96 f96 (Fz 96)) (Fc 97 (e97 f97 (Fz 97)) Fz))))))
def L76 {R : Type} : Hn U R := fun key σ k => none
theorem n76 {R S : Type} (f79 : Y79) (f80_82 : Y80_82) (f80_93 : Y80_93) (f80_94 : Y80_94) (f80_95 : Y80_95) (f82 : Y82) (f93 : Y93) (f96 : Y96) (f97 : Y97) (p0 : (List Int)) (k : (Int × Int) → Option R) (K : R → Option S) : (b76 f79 f80_82 f80_93 f80_94 f80_95 f82 f93 f96 f97 p0 k).bind K = b76 f79 f80_82 f80_93 f80_94 f80_95 f82 f93 f96 f97 p0 (fun r => (k r).bind K) := by
  unfold b76
  simp only [bind_cond, bind_when, bind_elim, Option.bind_assoc, bind_none]
set_option maxRecDepth 100000 in
theorem t76 {R : Type} (f79 : Y79) (f80_82 : Y80_82) (f80_93 : Y80_93) (f80_94 : Y80_94) (f80_95 : Y80_95) (f82 : Y82) (f93 : Y93) (f96 : Y96) (f97 : Y97) (x : AX U tp76) (κ : U.D → List (List U.C) → Option R) : evFn (F76 f79 f80_82 f80_93 f80_94 f80_95 f82 f93 f96 f97) (L76) (U.ro 76) (U.rnew 76) Try.f76 (fillS tp76.a x.1) (fillB tp76.b x.2) κ
    = b76 f79 f80_82 f80_93 f80_94 f80_95 f82 f93 f96 f97 x.1.1 (fun r => κ (.tup [.c (.int .i64 r.1), .c (.int .i64 r.2)]) []) := by kernel_rfl
theorem hF76 {R : Type} (f79 : Y79) (f80_82 : Y80_82) (f80_93 : Y80_93) (f80_94 : Y80_94) (f80_95 : Y80_95) (f82 : Y82) (f93 : Y93) (f96 : Y96) (f97 : Y97) (h79 : ∀ rest : Fn U R, SoundF Try.prog 79 rest → SoundF Try.prog 79 (e79 f79 rest)) (h80_82 : ∀ rest : Fn U R, SoundF Try.prog 80 rest → SoundF Try.prog 80 (e80_82 f80_82 rest)) (h80_93 : ∀ rest : Fn U R, SoundF Try.prog 80 rest → SoundF Try.prog 80 (e80_93 f80_93 rest)) (h80_94 : ∀ rest : Fn U R, SoundF Try.prog 80 rest → SoundF Try.prog 80 (e80_94 f80_94 rest)) (h80_95 : ∀ rest : Fn U R, SoundF Try.prog 80 rest → SoundF Try.prog 80 (e80_95 f80_95 rest)) (h82 : ∀ rest : Fn U R, SoundF Try.prog 82 rest → SoundF Try.prog 82 (e82 f82 rest)) (h93 : ∀ rest : Fn U R, SoundF Try.prog 93 rest → SoundF Try.prog 93 (e93 f93 rest)) (h96 : ∀ rest : Fn U R, SoundF Try.prog 96 rest → SoundF Try.prog 96 (e96 f96 rest)) (h97 : ∀ rest : Fn U R, SoundF Try.prog 97 rest → SoundF Try.prog 97 (e97 f97 rest)) : ∀ g, Sound Try.prog (F76 f79 f80_82 f80_93 f80_94 f80_95 f82 f93 f96 f97 : Nat → Fn U R) g := (Fc_sound (h79 _ fz_sound) (Fc_sound (h80_82 _ (h80_93 _ (h80_94 _ (h80_95 _ fz_sound)))) (Fc_sound (h82 _ fz_sound) (Fc_sound (h93 _ fz_sound) (Fc_sound (h96 _ fz_sound) (Fc_sound (h97 _ fz_sound) Fz_sound))))))
theorem q76 {R : Type} (f79 : Y79) (f80_82 : Y80_82) (f80_93 : Y80_93) (f80_94 : Y80_94) (f80_95 : Y80_95) (f82 : Y82) (f93 : Y93) (f96 : Y96) (f97 : Y97) (h79 : ∀ rest : Fn U R, SoundF Try.prog 79 rest → SoundF Try.prog 79 (e79 f79 rest)) (h80_82 : ∀ rest : Fn U R, SoundF Try.prog 80 rest → SoundF Try.prog 80 (e80_82 f80_82 rest)) (h80_93 : ∀ rest : Fn U R, SoundF Try.prog 80 rest → SoundF Try.prog 80 (e80_93 f80_93 rest)) (h80_94 : ∀ rest : Fn U R, SoundF Try.prog 80 rest → SoundF Try.prog 80 (e80_94 f80_94 rest)) (h80_95 : ∀ rest : Fn U R, SoundF Try.prog 80 rest → SoundF Try.prog 80 (e80_95 f80_95 rest)) (h82 : ∀ rest : Fn U R, SoundF Try.prog 82 rest → SoundF Try.prog 82 (e82 f82 rest)) (h93 : ∀ rest : Fn U R, SoundF Try.prog 93 rest → SoundF Try.prog 93 (e93 f93 rest)) (h96 : ∀ rest : Fn U R, SoundF Try.prog 96 rest → SoundF Try.prog 96 (e96 f96 rest)) (h97 : ∀ rest : Fn U R, SoundF Try.prog 97 rest → SoundF Try.prog 97 (e97 f97 rest)) {rest : Fn U R} (hr : SoundF Try.prog 76 rest) : SoundF Try.prog 76 (e76 (fun p0 => b76 f79 f80_82 f80_93 f80_94 f80_95 f82 f93 f96 f97 p0 some) rest) :=
  ent_sound uok mixed (fn := Try.f76) (by kernel_rfl) (by kernel_rfl) (hF76 f79 f80_82 f80_93 f80_94 f80_95 f82 f93 f96 f97 h79 h80_82 h80_93 h80_94 h80_95 h82 h93 h96 h97) (L := L76) (fn_loops (ls := []) (by kernel_rfl) all_nil) hr (fun x κ => (n76 f79 f80_82 f80_93 f80_94 f80_95 f82 f93 f96 f97 x.1.1 some _).trans (t76 f79 f80_82 f80_93 f80_94 f80_95 f82 f93 f96 f97 x κ).symm)
def F50 {R : Type} (f76 : Y76) : Nat → Fn U R := (Fc 76 (e76 f76 (Fz 76)) Fz)
def st50_3 : StT := ⟨[.c (.l 5), .c .u, .c .u, .c (.o 51 0), .c (.i .i64), .c .u, .c .u, .c .u, .c .u, .c .u, .c .u, .c .u, .c .u, .c .u, .c .u, .c .u, .c .u, .c .u, .c .u, .c .u, .c .u, .c .u, .c .u, .c .u, .c .u, .c .u, .c .u, .c .u, .c .u, .c .u, .c .u], [], [some 51], 0⟩
def h50_3 {R : Type} (l : Z50_3) : SX U st50_3 → (Out → St U → Option R) → Option R := fun x k => (l x.1.1 x.1.2.1 x.2.2.1).bind (fun o => k (.exit 0) ⟨[.v (.c (.sl 5 x.1.1)), ud, ud, .v (.c (.own 51 0)), .v (.c (.int .i64 o.1)), ud, ud, ud, ud, ud, ud, ud, ud, ud, ud, ud, ud, ud, ud, ud, ud, ud, ud, ud, ud, ud, ud, ud, ud, ud, ud], [], [some ⟨51, o.2⟩], 0⟩)
def wd50_3 : List Wd := [.drop 1, .drop 2, .drop 5, .drop 6, .drop 7, .drop 8, .drop 9, .drop 10, .drop 11, .drop 12, .drop 13, .drop 14, .drop 15, .drop 16, .drop 17, .drop 18, .drop 19, .drop 20, .drop 21, .drop 22, .drop 23, .drop 24, .drop 25, .drop 26, .drop 27, .drop 28, .drop 29, .drop 30, .own (.s 3) 51]
def L50 {R : Type} (l3 : Z50_3) : Hn U R := fun key σ k => bif Nat.beq key 3 then hnd wd50_3 st50_3 (h50_3 l3) σ k else none
set_option maxRecDepth 100000 in
theorem tl50_3 {R : Type} (f76 : Y76) (l3 : Z50_3) (x0 x : SX U st50_3) (k : Out → St U → Option R) (n : Nat) : loopN [2] [] (fun σ k => ev (F50 f76) (L50 l3) (lpAt Try.f50 0) σ k) (fillSt st50_3 x0) k (n + 1) (fillSt st50_3 x)
    = lb50_3 f76 x.1.1 (fun v9 v10 => loopN [2] [] (fun σ k => ev (F50 f76) (L50 l3) (lpAt Try.f50 0) σ k) (fillSt st50_3 x0) k n (fillSt st50_3 (((x.1.1, v9, ()), (), (v10, ())) : SX U st50_3))) (fun o => k (.exit 0) ⟨[.v (.c (.sl 5 x.1.1)), ud, ud, .v (.c (.own 51 0)), .v (.c (.int .i64 o.1)), ud, ud, ud, ud, ud, ud, ud, ud, ud, ud, ud, ud, ud, ud, ud, ud, ud, ud, ud, ud, ud, ud, ud, ud, ud, ud], [], [some ⟨51, o.2⟩], 0⟩) x.1.2.1 x.2.2.1 := by kernel_rfl
theorem nb50_3 {R S : Type} (f76 : Y76) (q8 : List Int) (c : Int → List S51 → Option R) (e0 : (Int × List S51) → Option R) (v9 : Int) (v10 : List S51) (K : R → Option S) : (lb50_3 f76 q8 c e0 v9 v10).bind K = lb50_3 f76 q8 (fun v9 v10 => (c v9 v10).bind K) (fun o => (e0 o).bind K) v9 v10 := by
  unfold lb50_3
  simp only [bind_cond, bind_when, bind_elim, Option.bind_assoc, bind_none]
set_option maxHeartbeats 1000000 in
theorem ll50_3 {R : Type} (f76 : Y76) (l3 : Z50_3) (x0 : SX U st50_3) (k : Out → St U → Option R) : ∀ (n : Nat) (x : SX U st50_3), loopN [2] [] (fun σ k => ev (F50 f76) (L50 l3) (lpAt Try.f50 0) σ k) (fillSt st50_3 x0) k n (fillSt st50_3 x)
    = h50_3 (lp50_3 f76 n) x k := by
  intro n
  induction n with
  | zero => intro x; kernel_rfl
  | succ n ih =>
    intro x
    have h2 := congrArg (fun c => lb50_3 f76 x.1.1 c (fun o => k (.exit 0) ⟨[.v (.c (.sl 5 x.1.1)), ud, ud, .v (.c (.own 51 0)), .v (.c (.int .i64 o.1)), ud, ud, ud, ud, ud, ud, ud, ud, ud, ud, ud, ud, ud, ud, ud, ud, ud, ud, ud, ud, ud, ud, ud, ud, ud, ud], [], [some ⟨51, o.2⟩], 0⟩) x.1.2.1 x.2.2.1) (funext fun v9 => (funext fun v10 => ih (((x.1.1, v9, ()), (), (v10, ())) : SX U st50_3)))
    exact kcast (by kernel_rfl) (chain3 (tl50_3 f76 l3 x0 x k n) h2 (nb50_3 f76 x.1.1 (fun v9 v10 => lp50_3 f76 n x.1.1 v9 v10) (fun o => some o) x.1.2.1 x.2.2.1 (fun o => k (.exit 0) ⟨[.v (.c (.sl 5 x.1.1)), ud, ud, .v (.c (.own 51 0)), .v (.c (.int .i64 o.1)), ud, ud, ud, ud, ud, ud, ud, ud, ud, ud, ud, ud, ud, ud, ud, ud, ud, ud, ud, ud, ud, ud, ud, ud, ud, ud], [], [some ⟨51, o.2⟩], 0⟩)).symm (by kernel_rfl) (by kernel_rfl))
theorem n50 {R S : Type} (f76 : Y76) (l3 : Z50_3) (p0 : (List Int)) (k : (List S51) → Option R) (K : R → Option S) : (b50 f76 l3 p0 k).bind K = b50 f76 l3 p0 (fun r => (k r).bind K) := by
  unfold b50
  simp only [bind_cond, bind_when, bind_elim, Option.bind_assoc, bind_none]
set_option maxRecDepth 100000 in
theorem t50 {R : Type} (f76 : Y76) (l3 : Z50_3) (x : AX U tp50) (κ : U.D → List (List U.C) → Option R) : evFn (F50 f76) (L50 l3) (U.ro 50) (U.rnew 50) Try.f50 (fillS tp50.a x.1) (fillB tp50.b x.2) κ
    = b50 f76 l3 x.1.1 (fun r => κ (.v (.c (.new 51 r))) []) := by kernel_rfl
theorem hF50 {R : Type} (f76 : Y76) (h76 : ∀ rest : Fn U R, SoundF Try.prog 76 rest → SoundF Try.prog 76 (e76 f76 rest)) : ∀ g, Sound Try.prog (F50 f76 : Nat → Fn U R) g := (Fc_sound (h76 _ fz_sound) Fz_sound)
theorem lok50_3 {R : Type} (f76 : Y76) (h76 : ∀ rest : Fn U R, SoundF Try.prog 76 rest → SoundF Try.prog 76 (e76 f76 rest)) : LoopOk Try.prog (L50 (lp50_3 f76 big) : Hn U R) (lpAt Try.f50 0) :=
  hnd_ok uok (hF50 f76 h76) mixed (loops_of (ls := []) (by kernel_rfl) all_nil) (key := 3) (by kernel_rfl) (ws0 := wd50_3) (t := st50_3) (f := h50_3 (lp50_3 f76 big)) (ws := []) (keep := [2]) (fun σ k => by kernel_rfl) (n := big) (fun x k => (ll50_3 f76 (lp50_3 f76 big) x k big x).symm)
theorem q50 {R : Type} (f76 : Y76) (h76 : ∀ rest : Fn U R, SoundF Try.prog 76 rest → SoundF Try.prog 76 (e76 f76 rest)) {rest : Fn U R} (hr : SoundF Try.prog 50 rest) : SoundF Try.prog 50 (e50 (fun p0 => b50 f76 (lp50_3 f76 big) p0 some) rest) :=
  ent_sound uok mixed (fn := Try.f50) (by kernel_rfl) (by kernel_rfl) (hF50 f76 h76) (L := L50 (lp50_3 f76 big)) (fn_loops (ls := [lpAt Try.f50 0]) (by kernel_rfl) (all_cons (lok50_3 f76 h76) all_nil)) hr (fun x κ => (n50 f76 (lp50_3 f76 big) x.1.1 some _).trans (t50 f76 (lp50_3 f76 big) x κ).symm)
def F57 {R : Type} : Nat → Fn U R := Fz
def st57_3 : StT := ⟨[.c .u, .c .u, .c .u, .c (.o 51 0), .c .u, .c .u, .c (.l 51), .c (.i .i64), .c (.i .i64), .c .u, .c .u, .c .u, .c .u, .c .u, .c .u, .c .u, .c .u, .c .u, .c .u, .c .u, .c .u, .c .u, .c .u, .c .u, .c .u, .c .u], [], [some 51], 0⟩
def h57_3 {R : Type} (l : Z57_3) : SX U st57_3 → (Out → St U → Option R) → Option R := fun x k => (l x.1.2.1 x.1.1 x.1.2.2.1 x.2.2.1).bind (fun o => k (.exit 0) ⟨[ud, ud, ud, .v (.c (.own 51 0)), ud, ud, .v (.c (.sl 51 x.1.1)), .v (.c (.int .i64 x.1.2.1)), .v (.c (.int .i64 o.1)), ud, ud, ud, ud, ud, ud, ud, ud, ud, ud, ud, ud, ud, ud, ud, ud, ud], [], [some ⟨51, o.2⟩], 0⟩)
def wd57_3 : List Wd := [.drop 0, .drop 1, .drop 2, .drop 4, .drop 5, .drop 9, .drop 10, .drop 11, .drop 12, .drop 13, .drop 14, .drop 15, .drop 16, .drop 17, .drop 18, .drop 19, .drop 20, .drop 21, .drop 22, .drop 23, .drop 24, .drop 25, .own (.s 3) 51]
def L57 {R : Type} (l3 : Z57_3) : Hn U R := fun key σ k => bif Nat.beq key 3 then hnd wd57_3 st57_3 (h57_3 l3) σ k else none
set_option maxRecDepth 100000 in
theorem tl57_3 {R : Type} (l3 : Z57_3) (x0 x : SX U st57_3) (k : Out → St U → Option R) (n : Nat) : loopN [2] [] (fun σ k => ev (F57) (L57 l3) (lpAt Try.f57 0) σ k) (fillSt st57_3 x0) k (n + 1) (fillSt st57_3 x)
    = lb57_3 x.1.2.1 x.1.1 (fun v10 v11 => loopN [2] [] (fun σ k => ev (F57) (L57 l3) (lpAt Try.f57 0) σ k) (fillSt st57_3 x0) k n (fillSt st57_3 (((x.1.1, x.1.2.1, v10, ()), (), (v11, ())) : SX U st57_3))) (fun o => k (.exit 0) ⟨[ud, ud, ud, .v (.c (.own 51 0)), ud, ud, .v (.c (.sl 51 x.1.1)), .v (.c (.int .i64 x.1.2.1)), .v (.c (.int .i64 o.1)), ud, ud, ud, ud, ud, ud, ud, ud, ud, ud, ud, ud, ud, ud, ud, ud, ud], [], [some ⟨51, o.2⟩], 0⟩) x.1.2.2.1 x.2.2.1 := by kernel_rfl
theorem nb57_3 {R S : Type} (q9 : Int) (q8 : List S51) (c : Int → List S51 → Option R) (e0 : (Int × List S51) → Option R) (v10 : Int) (v11 : List S51) (K : R → Option S) : (lb57_3 q9 q8 c e0 v10 v11).bind K = lb57_3 q9 q8 (fun v10 v11 => (c v10 v11).bind K) (fun o => (e0 o).bind K) v10 v11 := by
  unfold lb57_3
  simp only [bind_cond, bind_when, bind_elim, Option.bind_assoc, bind_none]
set_option maxHeartbeats 1000000 in
theorem ll57_3 {R : Type} (l3 : Z57_3) (x0 : SX U st57_3) (k : Out → St U → Option R) : ∀ (n : Nat) (x : SX U st57_3), loopN [2] [] (fun σ k => ev (F57) (L57 l3) (lpAt Try.f57 0) σ k) (fillSt st57_3 x0) k n (fillSt st57_3 x)
    = h57_3 (lp57_3 n) x k := by
  intro n
  induction n with
  | zero => intro x; kernel_rfl
  | succ n ih =>
    intro x
    have h2 := congrArg (fun c => lb57_3 x.1.2.1 x.1.1 c (fun o => k (.exit 0) ⟨[ud, ud, ud, .v (.c (.own 51 0)), ud, ud, .v (.c (.sl 51 x.1.1)), .v (.c (.int .i64 x.1.2.1)), .v (.c (.int .i64 o.1)), ud, ud, ud, ud, ud, ud, ud, ud, ud, ud, ud, ud, ud, ud, ud, ud, ud], [], [some ⟨51, o.2⟩], 0⟩) x.1.2.2.1 x.2.2.1) (funext fun v10 => (funext fun v11 => ih (((x.1.1, x.1.2.1, v10, ()), (), (v11, ())) : SX U st57_3)))
    exact kcast (by kernel_rfl) (chain3 (tl57_3 l3 x0 x k n) h2 (nb57_3 x.1.2.1 x.1.1 (fun v10 v11 => lp57_3 n x.1.2.1 x.1.1 v10 v11) (fun o => some o) x.1.2.2.1 x.2.2.1 (fun o => k (.exit 0) ⟨[ud, ud, ud, .v (.c (.own 51 0)), ud, ud, .v (.c (.sl 51 x.1.1)), .v (.c (.int .i64 x.1.2.1)), .v (.c (.int .i64 o.1)), ud, ud, ud, ud, ud, ud, ud, ud, ud, ud, ud, ud, ud, ud, ud, ud, ud], [], [some ⟨51, o.2⟩], 0⟩)).symm (by kernel_rfl) (by kernel_rfl))
theorem n57 {R S : Type} (l3 : Z57_3) (p0 : (List S51)) (k : (List S51) → Option R) (K : R → Option S) : (b57 l3 p0 k).bind K = b57 l3 p0 (fun r => (k r).bind K) := by
  unfold b57
  simp only [bind_cond, bind_when, bind_elim, Option.bind_assoc, bind_none]
set_option maxRecDepth 100000 in
theorem t57 {R : Type} (l3 : Z57_3) (x : AX U tp57) (κ : U.D → List (List U.C) → Option R) : evFn (F57) (L57 l3) (U.ro 57) (U.rnew 57) Try.f57 (fillS tp57.a x.1) (fillB tp57.b x.2) κ
    = b57 l3 x.1.1 (fun r => κ (.v (.c (.new 51 r))) []) := by kernel_rfl
theorem hF57 {R : Type} : ∀ g, Sound Try.prog (F57 : Nat → Fn U R) g := Fz_sound
theorem lok57_3 {R : Type} : LoopOk Try.prog (L57 (lp57_3 big) : Hn U R) (lpAt Try.f57 0) :=
  hnd_ok uok (hF57) mixed (loops_of (ls := []) (by kernel_rfl) all_nil) (key := 3) (by kernel_rfl) (ws0 := wd57_3) (t := st57_3) (f := h57_3 (lp57_3 big)) (ws := []) (keep := [2]) (fun σ k => by kernel_rfl) (n := big) (fun x k => (ll57_3 (lp57_3 big) x k big x).symm)
theorem q57 {R : Type} {rest : Fn U R} (hr : SoundF Try.prog 57 rest) : SoundF Try.prog 57 (e57 (fun p0 => b57 (lp57_3 big) p0 some) rest) :=
  ent_sound uok mixed (fn := Try.f57) (by kernel_rfl) (by kernel_rfl) (hF57) (L := L57 (lp57_3 big)) (fn_loops (ls := [lpAt Try.f57 0]) (by kernel_rfl) (all_cons (lok57_3) all_nil)) hr (fun x κ => (n57 (lp57_3 big) x.1.1 some _).trans (t57 (lp57_3 big) x κ).symm)
def F22 {R : Type} (f50 : Y50) (f56 : Y56) (f57 : Y57) : Nat → Fn U R := (Fc 50 (e50 f50 (Fz 50)) (Fc 56 (e56 f56 (Fz 56)) (Fc 57 (e57 f57 (Fz 57)) Fz)))
def L22 {R : Type} : Hn U R := fun key σ k => none
theorem n22 {R S : Type} (f50 : Y50) (f56 : Y56) (f57 : Y57) (p0 : (List Int)) (k : S98 → Option R) (K : R → Option S) : (b22 f50 f56 f57 p0 k).bind K = b22 f50 f56 f57 p0 (fun r => (k r).bind K) := by
  unfold b22
  simp only [bind_cond, bind_when, bind_elim, Option.bind_assoc, bind_none]
set_option maxRecDepth 100000 in
theorem t22 {R : Type} (f50 : Y50) (f56 : Y56) (f57 : Y57) (x : AX U tp22) (κ : U.D → List (List U.C) → Option R) : evFn (F22 f50 f56 f57) (L22) (U.ro 22) (U.rnew 22) Try.f22 (fillS tp22.a x.1) (fillB tp22.b x.2) κ
    = b22 f50 f56 f57 x.1.1 (fun r => κ (.v (.c (.ptr 0 0))) [[.sl 5 r.c0, .sl 51 r.c1, .int .i64 r.c2, .int .i64 r.c3]]) := by kernel_rfl
theorem hF22 {R : Type} (f50 : Y50) (f56 : Y56) (f57 : Y57) (h50 : ∀ rest : Fn U R, SoundF Try.prog 50 rest → SoundF Try.prog 50 (e50 f50 rest)) (h56 : ∀ rest : Fn U R, SoundF Try.prog 56 rest → SoundF Try.prog 56 (e56 f56 rest)) (h57 : ∀ rest : Fn U R, SoundF Try.prog 57 rest → SoundF Try.prog 57 (e57 f57 rest)) : ∀ g, Sound Try.prog (F22 f50 f56 f57 : Nat → Fn U R) g := (Fc_sound (h50 _ fz_sound) (Fc_sound (h56 _ fz_sound) (Fc_sound (h57 _ fz_sound) Fz_sound)))
theorem q22 {R : Type} (f50 : Y50) (f56 : Y56) (f57 : Y57) (h50 : ∀ rest : Fn U R, SoundF Try.prog 50 rest → SoundF Try.prog 50 (e50 f50 rest)) (h56 : ∀ rest : Fn U R, SoundF Try.prog 56 rest → SoundF Try.prog 56 (e56 f56 rest)) (h57 : ∀ rest : Fn U R, SoundF Try.prog 57 rest → SoundF Try.prog 57 (e57 f57 rest)) {rest : Fn U R} (hr : SoundF Try.prog 22 rest) : SoundF Try.prog 22 (e22 (fun p0 => b22 f50 f56 f57 p0 some) rest) :=
  ent_sound uok mixed (fn := Try.f22) (by kernel_rfl) (by kernel_rfl) (hF22 f50 f56 f57 h50 h56 h57) (L := L22) (fn_loops (ls := []) (by kernel_rfl) all_nil) hr (fun x κ => (n22 f50 f56 f57 x.1.1 some _).trans (t22 f50 f56 f57 x κ).symm)
def F23 {R : Type} : Nat → Fn U R := Fz
def L23 {R : Type} : Hn U R := fun key σ k => none
theorem n23 {R S : Type} (p0 : Int) (p1 : Int) (k : Int → Option R) (K : R → Option S) : (b23 p0 p1 k).bind K = b23 p0 p1 (fun r => (k r).bind K) := by
  unfold b23
  simp only [bind_cond, bind_when, bind_elim, Option.bind_assoc, bind_none]
set_option maxRecDepth 100000 in
theorem t23 {R : Type} (x : AX U tp23) (κ : U.D → List (List U.C) → Option R) : evFn (F23) (L23) (U.ro 23) (U.rnew 23) Try.f23 (fillS tp23.a x.1) (fillB tp23.b x.2) κ
    = b23 x.1.1 x.1.2.1 (fun r => κ (.v (.c (.int .i64 r))) []) := by kernel_rfl
theorem hF23 {R : Type} : ∀ g, Sound Try.prog (F23 : Nat → Fn U R) g := Fz_sound
theorem q23 {R : Type} {rest : Fn U R} (hr : SoundF Try.prog 23 rest) : SoundF Try.prog 23 (e23 (fun p0 p1 => b23 p0 p1 some) rest) :=
  ent_sound uok mixed (fn := Try.f23) (by kernel_rfl) (by kernel_rfl) (hF23) (L := L23) (fn_loops (ls := []) (by kernel_rfl) all_nil) hr (fun x κ => (n23 x.1.1 x.1.2.1 some _).trans (t23 x κ).symm)
def F24 {R : Type} : Nat → Fn U R := Fz
def L24 {R : Type} : Hn U R := fun key σ k => none
theorem n24 {R S : Type} (p0 : S41) (p1 : Int) (k : ByteArray → Option R) (K : R → Option S) : (b24 p0 p1 k).bind K = b24 p0 p1 (fun r => (k r).bind K) := by
  unfold b24
  simp only [bind_cond, bind_when, bind_elim, Option.bind_assoc, bind_none]
set_option maxRecDepth 100000 in
theorem t24 {R : Type} (x : AX U tp24) (κ : U.D → List (List U.C) → Option R) : evFn (F24) (L24) (U.ro 24) (U.rnew 24) Try.f24 (fillS tp24.a x.1) (fillB tp24.b x.2) κ
    = b24 (⟨x.1.1.1, x.1.1.2.1⟩ : S41) x.1.2.1 (fun r => κ (.v (.c (.str r))) []) := by kernel_rfl
theorem hF24 {R : Type} : ∀ g, Sound Try.prog (F24 : Nat → Fn U R) g := Fz_sound
theorem q24 {R : Type} {rest : Fn U R} (hr : SoundF Try.prog 24 rest) : SoundF Try.prog 24 (e24 (fun p0 p1 => b24 p0 p1 some) rest) :=
  ent_sound uok mixed (fn := Try.f24) (by kernel_rfl) (by kernel_rfl) (hF24) (L := L24) (fn_loops (ls := []) (by kernel_rfl) all_nil) hr (fun x κ => (n24 (⟨x.1.1.1, x.1.1.2.1⟩ : S41) x.1.2.1 some _).trans (t24 x κ).symm)
def F29 {R : Type} : Nat → Fn U R := Fz
def L29 {R : Type} : Hn U R := fun key σ k => none
theorem n29 {R S : Type} (p0 : S98) (k : Bool → Option R) (K : R → Option S) : (b29 p0 k).bind K = b29 p0 (fun r => (k r).bind K) := by
  unfold b29
  simp only [bind_cond, bind_when, bind_elim, Option.bind_assoc, bind_none]
set_option maxRecDepth 100000 in
theorem t29 {R : Type} (x : AX U tp29) (κ : U.D → List (List U.C) → Option R) : evFn (F29) (L29) (U.ro 29) (U.rnew 29) Try.f29 (fillS tp29.a x.1) (fillB tp29.b x.2) κ
    = b29 (⟨x.2.1.1, x.2.1.2.1, x.2.1.2.2.1, x.2.1.2.2.2.1⟩ : S98) (fun r => κ (.v (.c (.bool r))) (fillB tp29.b x.2)) := by kernel_rfl
theorem hF29 {R : Type} : ∀ g, Sound Try.prog (F29 : Nat → Fn U R) g := Fz_sound
theorem q29 {R : Type} {rest : Fn U R} (hr : SoundF Try.prog 29 rest) : SoundF Try.prog 29 (e29 (fun p0 => b29 p0 some) rest) :=
  ent_sound uok mixed (fn := Try.f29) (by kernel_rfl) (by kernel_rfl) (hF29) (L := L29) (fn_loops (ls := []) (by kernel_rfl) all_nil) hr (fun x κ => (n29 (⟨x.2.1.1, x.2.1.2.1, x.2.1.2.2.1, x.2.1.2.2.2.1⟩ : S98) some _).trans (t29 x κ).symm)
def F58 {R : Type} : Nat → Fn U R := Fz
def L58 {R : Type} : Hn U R := fun key σ k => none
theorem n58 {R S : Type} (p0 : (List Int)) (p1 : S51) (k : ByteArray → Option R) (K : R → Option S) : (b58 p0 p1 k).bind K = b58 p0 p1 (fun r => (k r).bind K) := by
  unfold b58
  simp only [bind_cond, bind_when, bind_elim, Option.bind_assoc, bind_none]
set_option maxRecDepth 100000 in
theorem t58 {R : Type} (x : AX U tp58) (κ : U.D → List (List U.C) → Option R) : evFn (F58) (L58) (U.ro 58) (U.rnew 58) Try.f58 (fillS tp58.a x.1) (fillB tp58.b x.2) κ
    = b58 x.1.1 (⟨x.1.2.1.1, x.1.2.1.2.1, x.1.2.1.2.2.1⟩ : S51) (fun r => κ (.v (.c (.str r))) []) := by kernel_rfl
theorem hF58 {R : Type} : ∀ g, Sound Try.prog (F58 : Nat → Fn U R) g := Fz_sound
theorem q58 {R : Type} {rest : Fn U R} (hr : SoundF Try.prog 58 rest) : SoundF Try.prog 58 (e58 (fun p0 p1 => b58 p0 p1 some) rest) :=
  ent_sound uok mixed (fn := Try.f58) (by kernel_rfl) (by kernel_rfl) (hF58) (L := L58) (fn_loops (ls := []) (by kernel_rfl) all_nil) hr (fun x κ => (n58 x.1.1 (⟨x.1.2.1.1, x.1.2.1.2.1, x.1.2.1.2.2.1⟩ : S51) some _).trans (t58 x κ).symm)
def F25 {R : Type} (f29 : Y29) (f58 : Y58) : Nat → Fn U R := (Fc 29 (e29 f29 (Fz 29)) (Fc 58 (e58 f58 (Fz 58)) Fz))
def L25 {R : Type} : Hn U R := fun key σ k => none
theorem n25 {R S : Type} (f29 : Y29) (f58 : Y58) (p0 : S98) (k : ByteArray → Option R) (K : R → Option S) : (b25 f29 f58 p0 k).bind K = b25 f29 f58 p0 (fun r => (k r).bind K) := by
  unfold b25
  simp only [bind_cond, bind_when, bind_elim, Option.bind_assoc, bind_none]
set_option maxRecDepth 100000 in
theorem t25 {R : Type} (f29 : Y29) (f58 : Y58) (x : AX U tp25) (κ : U.D → List (List U.C) → Option R) : evFn (F25 f29 f58) (L25) (U.ro 25) (U.rnew 25) Try.f25 (fillS tp25.a x.1) (fillB tp25.b x.2) κ
    = b25 f29 f58 (⟨x.2.1.1, x.2.1.2.1, x.2.1.2.2.1, x.2.1.2.2.2.1⟩ : S98) (fun r => κ (.v (.c (.str r))) (fillB tp25.b x.2)) := by kernel_rfl
theorem hF25 {R : Type} (f29 : Y29) (f58 : Y58) (h29 : ∀ rest : Fn U R, SoundF Try.prog 29 rest → SoundF Try.prog 29 (e29 f29 rest)) (h58 : ∀ rest : Fn U R, SoundF Try.prog 58 rest → SoundF Try.prog 58 (e58 f58 rest)) : ∀ g, Sound Try.prog (F25 f29 f58 : Nat → Fn U R) g := (Fc_sound (h29 _ fz_sound) (Fc_sound (h58 _ fz_sound) Fz_sound))
theorem q25 {R : Type} (f29 : Y29) (f58 : Y58) (h29 : ∀ rest : Fn U R, SoundF Try.prog 29 rest → SoundF Try.prog 29 (e29 f29 rest)) (h58 : ∀ rest : Fn U R, SoundF Try.prog 58 rest → SoundF Try.prog 58 (e58 f58 rest)) {rest : Fn U R} (hr : SoundF Try.prog 25 rest) : SoundF Try.prog 25 (e25 (fun p0 => b25 f29 f58 p0 some) rest) :=
  ent_sound uok mixed (fn := Try.f25) (by kernel_rfl) (by kernel_rfl) (hF25 f29 f58 h29 h58) (L := L25) (fn_loops (ls := []) (by kernel_rfl) all_nil) hr (fun x κ => (n25 f29 f58 (⟨x.2.1.1, x.2.1.2.1, x.2.1.2.2.1, x.2.1.2.2.2.1⟩ : S98) some _).trans (t25 f29 f58 x κ).symm)
def F26 {R : Type} (f29 : Y29) : Nat → Fn U R := (Fc 29 (e29 f29 (Fz 29)) Fz)
def L26 {R : Type} : Hn U R := fun key σ k => none
theorem n26 {R S : Type} (f29 : Y29) (p0 : S98) (k : Int → Option R) (K : R → Option S) : (b26 f29 p0 k).bind K = b26 f29 p0 (fun r => (k r).bind K) := by
  unfold b26
  simp only [bind_cond, bind_when, bind_elim, Option.bind_assoc, bind_none]
set_option maxRecDepth 100000 in
theorem t26 {R : Type} (f29 : Y29) (x : AX U tp26) (κ : U.D → List (List U.C) → Option R) : evFn (F26 f29) (L26) (U.ro 26) (U.rnew 26) Try.f26 (fillS tp26.a x.1) (fillB tp26.b x.2) κ
    = b26 f29 (⟨x.2.1.1, x.2.1.2.1, x.2.1.2.2.1, x.2.1.2.2.2.1⟩ : S98) (fun r => κ (.v (.c (.int .i64 r))) (fillB tp26.b x.2)) := by kernel_rfl
theorem hF26 {R : Type} (f29 : Y29) (h29 : ∀ rest : Fn U R, SoundF Try.prog 29 rest → SoundF Try.prog 29 (e29 f29 rest)) : ∀ g, Sound Try.prog (F26 f29 : Nat → Fn U R) g := (Fc_sound (h29 _ fz_sound) Fz_sound)
theorem q26 {R : Type} (f29 : Y29) (h29 : ∀ rest : Fn U R, SoundF Try.prog 29 rest → SoundF Try.prog 29 (e29 f29 rest)) {rest : Fn U R} (hr : SoundF Try.prog 26 rest) : SoundF Try.prog 26 (e26 (fun p0 => b26 f29 p0 some) rest) :=
  ent_sound uok mixed (fn := Try.f26) (by kernel_rfl) (by kernel_rfl) (hF26 f29 h29) (L := L26) (fn_loops (ls := []) (by kernel_rfl) all_nil) hr (fun x κ => (n26 f29 (⟨x.2.1.1, x.2.1.2.1, x.2.1.2.2.1, x.2.1.2.2.2.1⟩ : S98) some _).trans (t26 f29 x κ).symm)
def F27 {R : Type} : Nat → Fn U R := Fz
def L27 {R : Type} : Hn U R := fun key σ k => none
theorem n27 {R S : Type} (p0 : S41) (p1 : Int) (k : Int → Option R) (K : R → Option S) : (b27 p0 p1 k).bind K = b27 p0 p1 (fun r => (k r).bind K) := by
  unfold b27
  simp only [bind_cond, bind_when, bind_elim, Option.bind_assoc, bind_none]
set_option maxRecDepth 100000 in
theorem t27 {R : Type} (x : AX U tp27) (κ : U.D → List (List U.C) → Option R) : evFn (F27) (L27) (U.ro 27) (U.rnew 27) Try.f27 (fillS tp27.a x.1) (fillB tp27.b x.2) κ
    = b27 (⟨x.1.1.1, x.1.1.2.1⟩ : S41) x.1.2.1 (fun r => κ (.v (.c (.int .i64 r))) []) := by kernel_rfl
theorem hF27 {R : Type} : ∀ g, Sound Try.prog (F27 : Nat → Fn U R) g := Fz_sound
theorem q27 {R : Type} {rest : Fn U R} (hr : SoundF Try.prog 27 rest) : SoundF Try.prog 27 (e27 (fun p0 p1 => b27 p0 p1 some) rest) :=
  ent_sound uok mixed (fn := Try.f27) (by kernel_rfl) (by kernel_rfl) (hF27) (L := L27) (fn_loops (ls := []) (by kernel_rfl) all_nil) hr (fun x κ => (n27 (⟨x.1.1.1, x.1.1.2.1⟩ : S41) x.1.2.1 some _).trans (t27 x κ).symm)
def F30 {R : Type} (f25 : Y25) : Nat → Fn U R := (Fc 25 (e25 f25 (Fz 25)) Fz)
def L30 {R : Type} : Hn U R := fun key σ k => none
theorem n30 {R S : Type} (f25 : Y25) (p1 : ByteArray) (p0 : S98) (k : (Bool × S98) → Option R) (K : R → Option S) : (b30 f25 p1 p0 k).bind K = b30 f25 p1 p0 (fun r => (k r).bind K) := by
  unfold b30
  simp only [bind_cond, bind_when, bind_elim, Option.bind_assoc, bind_none]
set_option maxRecDepth 100000 in
theorem t30 {R : Type} (f25 : Y25) (x : AX U tp30) (κ : U.D → List (List U.C) → Option R) : evFn (F30 f25) (L30) (U.ro 30) (U.rnew 30) Try.f30 (fillS tp30.a x.1) (fillB tp30.b x.2) κ
    = b30 f25 x.1.1 (⟨x.2.1.1, x.2.1.2.1, x.2.1.2.2.1, x.2.1.2.2.2.1⟩ : S98) (fun r => κ (.v (.c (.bool r.1))) [[.sl 5 r.2.c0, .sl 51 r.2.c1, .int .i64 r.2.c2, .int .i64 r.2.c3]]) := by kernel_rfl
theorem hF30 {R : Type} (f25 : Y25) (h25 : ∀ rest : Fn U R, SoundF Try.prog 25 rest → SoundF Try.prog 25 (e25 f25 rest)) : ∀ g, Sound Try.prog (F30 f25 : Nat → Fn U R) g := (Fc_sound (h25 _ fz_sound) Fz_sound)
theorem q30 {R : Type} (f25 : Y25) (h25 : ∀ rest : Fn U R, SoundF Try.prog 25 rest → SoundF Try.prog 25 (e25 f25 rest)) {rest : Fn U R} (hr : SoundF Try.prog 30 rest) : SoundF Try.prog 30 (e30 (fun p1 p0 => b30 f25 p1 p0 some) rest) :=
  entw_sound uok mixed (by kernel_rfl) (fn := Try.f30) (by kernel_rfl) (by kernel_rfl) (hF30 f25 h25) (L := L30) (fn_loops (ls := []) (by kernel_rfl) all_nil) hr (fun x κ => (n30 f25 x.1.1 (⟨x.2.1.1, x.2.1.2.1, x.2.1.2.2.1, x.2.1.2.2.2.1⟩ : S98) some _).trans (t30 f25 x κ).symm)
def F78 {R : Type} : Nat → Fn U R := Fz
def L78 {R : Type} : Hn U R := fun key σ k => none
theorem n78 {R S : Type} (p0 : ByteArray) (k : Bool → Option R) (K : R → Option S) : (b78 p0 k).bind K = b78 p0 (fun r => (k r).bind K) := by
  unfold b78
  simp only [bind_cond, bind_when, bind_elim, Option.bind_assoc, bind_none]
set_option maxRecDepth 100000 in
theorem t78 {R : Type} (x : AX U tp78) (κ : U.D → List (List U.C) → Option R) : evFn (F78) (L78) (U.ro 78) (U.rnew 78) Try.f78 (fillS tp78.a x.1) (fillB tp78.b x.2) κ
    = b78 x.1.1 (fun r => κ (.v (.c (.bool r))) []) := by kernel_rfl
theorem hF78 {R : Type} : ∀ g, Sound Try.prog (F78 : Nat → Fn U R) g := Fz_sound
theorem q78 {R : Type} {rest : Fn U R} (hr : SoundF Try.prog 78 rest) : SoundF Try.prog 78 (e78 (fun p0 => b78 p0 some) rest) :=
  ent_sound uok mixed (fn := Try.f78) (by kernel_rfl) (by kernel_rfl) (hF78) (L := L78) (fn_loops (ls := []) (by kernel_rfl) all_nil) hr (fun x κ => (n78 x.1.1 some _).trans (t78 x κ).symm)
def F81 {R : Type} (f79 : Y79) (f82 : Y82) : Nat → Fn U R := (Fc 79 (e79 f79 (Fz 79)) (Fc 82 (e82 f82 (Fz 82)) Fz))
def L81 {R : Type} : Hn U R := fun key σ k => none
theorem n81 {R S : Type} (f79 : Y79) (f82 : Y82) (p0 : Int) (k : Bool → Option R) (K : R → Option S) : (b81 f79 f82 p0 k).bind K = b81 f79 f82 p0 (fun r => (k r).bind K) := by
  unfold b81
  simp only [bind_cond, bind_when, bind_elim, Option.bind_assoc, bind_none]
set_option maxRecDepth 100000 in
theorem t81 {R : Type} (f79 : Y79) (f82 : Y82) (x : AX U tp81) (κ : U.D → List (List U.C) → Option R) : evFn (F81 f79 f82) (L81) (U.ro 81) (U.rnew 81) Try.f81 (fillS tp81.a x.1) (fillB tp81.b x.2) κ
    = b81 f79 f82 x.1.1 (fun r => κ (.v (.c (.bool r))) []) := by kernel_rfl
theorem hF81 {R : Type} (f79 : Y79) (f82 : Y82) (h79 : ∀ rest : Fn U R, SoundF Try.prog 79 rest → SoundF Try.prog 79 (e79 f79 rest)) (h82 : ∀ rest : Fn U R, SoundF Try.prog 82 rest → SoundF Try.prog 82 (e82 f82 rest)) : ∀ g, Sound Try.prog (F81 f79 f82 : Nat → Fn U R) g := (Fc_sound (h79 _ fz_sound) (Fc_sound (h82 _ fz_sound) Fz_sound))
theorem q81 {R : Type} (f79 : Y79) (f82 : Y82) (h79 : ∀ rest : Fn U R, SoundF Try.prog 79 rest → SoundF Try.prog 79 (e79 f79 rest)) (h82 : ∀ rest : Fn U R, SoundF Try.prog 82 rest → SoundF Try.prog 82 (e82 f82 rest)) {rest : Fn U R} (hr : SoundF Try.prog 81 rest) : SoundF Try.prog 81 (e81 (fun p0 => b81 f79 f82 p0 some) rest) :=
  ent_sound uok mixed (fn := Try.f81) (by kernel_rfl) (by kernel_rfl) (hF81 f79 f82 h79 h82) (L := L81) (fn_loops (ls := []) (by kernel_rfl) all_nil) hr (fun x κ => (n81 f79 f82 x.1.1 some _).trans (t81 f79 f82 x κ).symm)
def F80_81 {R : Type} (f81 : Y81) : Nat → Fn U R := (Fc 81 (e81 f81 (Fz 81)) Fz)
def st80_81_2 : StT := ⟨[.c (.l 5), .c (.fn 81), .c .u, .c .u, .c .u, .c (.i .i64), .c .u, .c .u, .c .u, .c .u, .c .u, .c .u, .c .u, .c .u, .c .u, .c .u, .c .u, .c .u, .c .u, .c .u, .c .u], [], [], 0⟩
def h80_81_2 {R : Type} (l : Z80_81_2) : SX U st80_81_2 → (Out → St U → Option R) → Option R := fun x k => (l x.1.1 x.1.2.1).bind (fun o => k (.exit 0) ⟨[.v (.c (.sl 5 x.1.1)), .v (.c (.fn 81)), ud, ud, ud, .v (.c (.int .i64 o)), ud, ud, ud, ud, ud, ud, ud, ud, ud, ud, ud, ud, ud, ud, ud], [], [], 0⟩)
def wd80_81_2 : List Wd := [.drop 2, .drop 3, .drop 4, .drop 6, .drop 7, .drop 8, .drop 9, .drop 10, .drop 11, .drop 12, .drop 13, .drop 14, .drop 15, .drop 16, .drop 17, .drop 18, .drop 19, .drop 20]
def L80_81 {R : Type} (l2 : Z80_81_2) : Hn U R := fun key σ k => bif Nat.beq key 2 then hnd wd80_81_2 st80_81_2 (h80_81_2 l2) σ k else none
set_option maxRecDepth 100000 in
theorem tl80_81_2 {R : Type} (f81 : Y81) (l2 : Z80_81_2) (x0 x : SX U st80_81_2) (k : Out → St U → Option R) (n : Nat) : loopN [4] [] (fun σ k => ev (F80_81 f81) (L80_81 l2) (lpAt Try.f80 0) σ k) (fillSt st80_81_2 x0) k (n + 1) (fillSt st80_81_2 x)
    = lb80_81_2 f81 x.1.1 (fun v5 => loopN [4] [] (fun σ k => ev (F80_81 f81) (L80_81 l2) (lpAt Try.f80 0) σ k) (fillSt st80_81_2 x0) k n (fillSt st80_81_2 (((x.1.1, v5, ()), (), ()) : SX U st80_81_2))) (fun o => k (.exit 0) ⟨[.v (.c (.sl 5 x.1.1)), .v (.c (.fn 81)), ud, ud, ud, .v (.c (.int .i64 o)), ud, ud, ud, ud, ud, ud, ud, ud, ud, ud, ud, ud, ud, ud, ud], [], [], 0⟩) x.1.2.1 := by kernel_rfl
theorem nb80_81_2 {R S : Type} (f81 : Y81) (q4 : List Int) (c : Int → Option R) (e0 : Int → Option R) (v5 : Int) (K : R → Option S) : (lb80_81_2 f81 q4 c e0 v5).bind K = lb80_81_2 f81 q4 (fun v5 => (c v5).bind K) (fun o => (e0 o).bind K) v5 := by
  unfold lb80_81_2
  simp only [bind_cond, bind_when, bind_elim, Option.bind_assoc, bind_none]
set_option maxHeartbeats 1000000 in
theorem ll80_81_2 {R : Type} (f81 : Y81) (l2 : Z80_81_2) (x0 : SX U st80_81_2) (k : Out → St U → Option R) : ∀ (n : Nat) (x : SX U st80_81_2), loopN [4] [] (fun σ k => ev (F80_81 f81) (L80_81 l2) (lpAt Try.f80 0) σ k) (fillSt st80_81_2 x0) k n (fillSt st80_81_2 x)
    = h80_81_2 (lp80_81_2 f81 n) x k := by
  intro n
  induction n with
  | zero => intro x; kernel_rfl
  | succ n ih =>
    intro x
    have h2 := congrArg (fun c => lb80_81_2 f81 x.1.1 c (fun o => k (.exit 0) ⟨[.v (.c (.sl 5 x.1.1)), .v (.c (.fn 81)), ud, ud, ud, .v (.c (.int .i64 o)), ud, ud, ud, ud, ud, ud, ud, ud, ud, ud, ud, ud, ud, ud, ud], [], [], 0⟩) x.1.2.1) (funext fun v5 => ih (((x.1.1, v5, ()), (), ()) : SX U st80_81_2))
    exact kcast (by kernel_rfl) (chain3 (tl80_81_2 f81 l2 x0 x k n) h2 (nb80_81_2 f81 x.1.1 (fun v5 => lp80_81_2 f81 n x.1.1 v5) (fun o => some o) x.1.2.1 (fun o => k (.exit 0) ⟨[.v (.c (.sl 5 x.1.1)), .v (.c (.fn 81)), ud, ud, ud, .v (.c (.int .i64 o)), ud, ud, ud, ud, ud, ud, ud, ud, ud, ud, ud, ud, ud, ud, ud], [], [], 0⟩)).symm (by kernel_rfl) (by kernel_rfl))
theorem n80_81 {R S : Type} (f81 : Y81) (l2 : Z80_81_2) (p0 : (List Int)) (k : Int → Option R) (K : R → Option S) : (b80_81 f81 l2 p0 k).bind K = b80_81 f81 l2 p0 (fun r => (k r).bind K) := by
  unfold b80_81
  simp only [bind_cond, bind_when, bind_elim, Option.bind_assoc, bind_none]
set_option maxRecDepth 100000 in
theorem t80_81 {R : Type} (f81 : Y81) (l2 : Z80_81_2) (x : AX U tp80_81) (κ : U.D → List (List U.C) → Option R) : evFn (F80_81 f81) (L80_81 l2) (U.ro 80) (U.rnew 80) Try.f80 (fillS tp80_81.a x.1) (fillB tp80_81.b x.2) κ
    = b80_81 f81 l2 x.1.1 (fun r => κ (.v (.c (.int .i64 r))) []) := by kernel_rfl
theorem hF80_81 {R : Type} (f81 : Y81) (h81 : ∀ rest : Fn U R, SoundF Try.prog 81 rest → SoundF Try.prog 81 (e81 f81 rest)) : ∀ g, Sound Try.prog (F80_81 f81 : Nat → Fn U R) g := (Fc_sound (h81 _ fz_sound) Fz_sound)
theorem lok80_81_2 {R : Type} (f81 : Y81) (h81 : ∀ rest : Fn U R, SoundF Try.prog 81 rest → SoundF Try.prog 81 (e81 f81 rest)) : LoopOk Try.prog (L80_81 (lp80_81_2 f81 big) : Hn U R) (lpAt Try.f80 0) :=
  hnd_ok uok (hF80_81 f81 h81) mixed (loops_of (ls := []) (by kernel_rfl) all_nil) (key := 2) (by kernel_rfl) (ws0 := wd80_81_2) (t := st80_81_2) (f := h80_81_2 (lp80_81_2 f81 big)) (ws := []) (keep := [4]) (fun σ k => by kernel_rfl) (n := big) (fun x k => (ll80_81_2 f81 (lp80_81_2 f81 big) x k big x).symm)
theorem q80_81 {R : Type} (f81 : Y81) (h81 : ∀ rest : Fn U R, SoundF Try.prog 81 rest → SoundF Try.prog 81 (e81 f81 rest)) {rest : Fn U R} (hr : SoundF Try.prog 80 rest) : SoundF Try.prog 80 (e80_81 (fun p0 => b80_81 f81 (lp80_81_2 f81 big) p0 some) rest) :=
  ent_sound uok mixed (fn := Try.f80) (by kernel_rfl) (by kernel_rfl) (hF80_81 f81 h81) (L := L80_81 (lp80_81_2 f81 big)) (fn_loops (ls := [lpAt Try.f80 0]) (by kernel_rfl) (all_cons (lok80_81_2 f81 h81) all_nil)) hr (fun x κ => (n80_81 f81 (lp80_81_2 f81 big) x.1.1 some _).trans (t80_81 f81 (lp80_81_2 f81 big) x κ).symm)
def F59 {R : Type} (f78 : Y78) (f79 : Y79) (f80_81 : Y80_81) : Nat → Fn U R := (Fc 78 (e78 f78 (Fz 78)) (Fc 79 (e79 f79 (Fz 79)) (Fc 80 (e80_81 f80_81 (Fz 80)) Fz)))
def L59 {R : Type} : Hn U R := fun key σ k => none
theorem n59 {R S : Type} (f78 : Y78) (f79 : Y79) (f80_81 : Y80_81) (p0 : ByteArray) (k : Bool → Option R) (K : R → Option S) : (b59 f78 f79 f80_81 p0 k).bind K = b59 f78 f79 f80_81 p0 (fun r => (k r).bind K) := by
  unfold b59
  simp only [bind_cond, bind_when, bind_elim, Option.bind_assoc, bind_none]
set_option maxRecDepth 100000 in
theorem t59 {R : Type} (f78 : Y78) (f79 : Y79) (f80_81 : Y80_81) (x : AX U tp59) (κ : U.D → List (List U.C) → Option R) : evFn (F59 f78 f79 f80_81) (L59) (U.ro 59) (U.rnew 59) Try.f59 (fillS tp59.a x.1) (fillB tp59.b x.2) κ
    = b59 f78 f79 f80_81 x.1.1 (fun r => κ (.v (.c (.bool r))) []) := by kernel_rfl
theorem hF59 {R : Type} (f78 : Y78) (f79 : Y79) (f80_81 : Y80_81) (h78 : ∀ rest : Fn U R, SoundF Try.prog 78 rest → SoundF Try.prog 78 (e78 f78 rest)) (h79 : ∀ rest : Fn U R, SoundF Try.prog 79 rest → SoundF Try.prog 79 (e79 f79 rest)) (h80_81 : ∀ rest : Fn U R, SoundF Try.prog 80 rest → SoundF Try.prog 80 (e80_81 f80_81 rest)) : ∀ g, Sound Try.prog (F59 f78 f79 f80_81 : Nat → Fn U R) g := (Fc_sound (h78 _ fz_sound) (Fc_sound (h79 _ fz_sound) (Fc_sound (h80_81 _ fz_sound) Fz_sound)))
theorem q59 {R : Type} (f78 : Y78) (f79 : Y79) (f80_81 : Y80_81) (h78 : ∀ rest : Fn U R, SoundF Try.prog 78 rest → SoundF Try.prog 78 (e78 f78 rest)) (h79 : ∀ rest : Fn U R, SoundF Try.prog 79 rest → SoundF Try.prog 79 (e79 f79 rest)) (h80_81 : ∀ rest : Fn U R, SoundF Try.prog 80 rest → SoundF Try.prog 80 (e80_81 f80_81 rest)) {rest : Fn U R} (hr : SoundF Try.prog 59 rest) : SoundF Try.prog 59 (e59 (fun p0 => b59 f78 f79 f80_81 p0 some) rest) :=
  ent_sound uok mixed (fn := Try.f59) (by kernel_rfl) (by kernel_rfl) (hF59 f78 f79 f80_81 h78 h79 h80_81) (L := L59) (fn_loops (ls := []) (by kernel_rfl) all_nil) hr (fun x κ => (n59 f78 f79 f80_81 x.1.1 some _).trans (t59 f78 f79 f80_81 x κ).symm)
def F31 {R : Type} (f25 : Y25) (f59 : Y59) : Nat → Fn U R := (Fc 25 (e25 f25 (Fz 25)) (Fc 59 (e59 f59 (Fz 59)) Fz))
def L31 {R : Type} : Hn U R := fun key σ k => none
theorem n31 {R S : Type} (f25 : Y25) (f59 : Y59) (p0 : S98) (k : (ByteArray × Bool × S98) → Option R) (K : R → Option S) : (b31 f25 f59 p0 k).bind K = b31 f25 f59 p0 (fun r => (k r).bind K) := by
  unfold b31
  simp only [bind_cond, bind_when, bind_elim, Option.bind_assoc, bind_none]
set_option maxRecDepth 100000 in
theorem t31 {R : Type} (f25 : Y25) (f59 : Y59) (x : AX U tp31) (κ : U.D → List (List U.C) → Option R) : evFn (F31 f25 f59) (L31) (U.ro 31) (U.rnew 31) Try.f31 (fillS tp31.a x.1) (fillB tp31.b x.2) κ
    = b31 f25 f59 (⟨x.2.1.1, x.2.1.2.1, x.2.1.2.2.1, x.2.1.2.2.2.1⟩ : S98) (fun r => κ (.tup [.c (.str r.1), .c (.bool r.2.1)]) [[.sl 5 r.2.2.c0, .sl 51 r.2.2.c1, .int .i64 r.2.2.c2, .int .i64 r.2.2.c3]]) := by kernel_rfl
theorem hF31 {R : Type} (f25 : Y25) (f59 : Y59) (h25 : ∀ rest : Fn U R, SoundF Try.prog 25 rest → SoundF Try.prog 25 (e25 f25 rest)) (h59 : ∀ rest : Fn U R, SoundF Try.prog 59 rest → SoundF Try.prog 59 (e59 f59 rest)) : ∀ g, Sound Try.prog (F31 f25 f59 : Nat → Fn U R) g := (Fc_sound (h25 _ fz_sound) (Fc_sound (h59 _ fz_sound) Fz_sound))
theorem q31 {R : Type} (f25 : Y25) (f59 : Y59) (h25 : ∀ rest : Fn U R, SoundF Try.prog 25 rest → SoundF Try.prog 25 (e25 f25 rest)) (h59 : ∀ rest : Fn U R, SoundF Try.prog 59 rest → SoundF Try.prog 59 (e59 f59 rest)) {rest : Fn U R} (hr : SoundF Try.prog 31 rest) : SoundF Try.prog 31 (e31 (fun p0 => b31 f25 f59 p0 some) rest) :=
  entw_sound uok mixed (by kernel_rfl) (fn := Try.f31) (by kernel_rfl) (by kernel_rfl) (hF31 f25 f59 h25 h59) (L := L31) (fn_loops (ls := []) (by kernel_rfl) all_nil) hr (fun x κ => (n31 f25 f59 (⟨x.2.1.1, x.2.1.2.1, x.2.1.2.2.1, x.2.1.2.2.2.1⟩ : S98) some _).trans (t31 f25 f59 x κ).symm)
def F68 {R : Type} (f31 : Y31) : Nat → Fn U R := (Fc 31 (e31 f31 (Fz 31)) Fz)
def L68 {R : Type} : Hn U R := fun key σ k => none
theorem n68 {R S : Type} (f31 : Y31) (p0 : S98) (p1 : ByteArray) (k : (Int × S98 × ByteArray) → Option R) (K : R → Option S) : (b68 f31 p0 p1 k).bind K = b68 f31 p0 p1 (fun r => (k r).bind K) := by
  unfold b68
  simp only [bind_cond, bind_when, bind_elim, Option.bind_assoc, bind_none]
set_option maxRecDepth 100000 in
theorem t68 {R : Type} (f31 : Y31) (x : AX U tp68) (κ : U.D → List (List U.C) → Option R) : evFn (F68 f31) (L68) (U.ro 68) (U.rnew 68) Try.f68 (fillS tp68.a x.1) (fillB tp68.b x.2) κ
    = b68 f31 (⟨x.2.1.1, x.2.1.2.1, x.2.1.2.2.1, x.2.1.2.2.2.1⟩ : S98) x.2.2.1.1 (fun r => κ (.v (.c (.int .i64 r.1))) [[.sl 5 r.2.1.c0, .sl 51 r.2.1.c1, .int .i64 r.2.1.c2, .int .i64 r.2.1.c3], [.str r.2.2]]) := by kernel_rfl
theorem hF68 {R : Type} (f31 : Y31) (h31 : ∀ rest : Fn U R, SoundF Try.prog 31 rest → SoundF Try.prog 31 (e31 f31 rest)) : ∀ g, Sound Try.prog (F68 f31 : Nat → Fn U R) g := (Fc_sound (h31 _ fz_sound) Fz_sound)
theorem q68 {R : Type} (f31 : Y31) (h31 : ∀ rest : Fn U R, SoundF Try.prog 31 rest → SoundF Try.prog 31 (e31 f31 rest)) {rest : Fn U R} (hr : SoundF Try.prog 68 rest) : SoundF Try.prog 68 (e68 (fun p0 p1 => b68 f31 p0 p1 some) rest) :=
  entw_sound uok mixed (by kernel_rfl) (fn := Try.f68) (by kernel_rfl) (by kernel_rfl) (hF68 f31 h31) (L := L68) (fn_loops (ls := []) (by kernel_rfl) all_nil) hr (fun x κ => (n68 f31 (⟨x.2.1.1, x.2.1.2.1, x.2.1.2.2.1, x.2.1.2.2.2.1⟩ : S98) x.2.2.1.1 some _).trans (t68 f31 x κ).symm)
def F41 {R : Type} (f30 : Y30) : Nat → Fn U R := (Fc 30 (e30 f30 (Fz 30)) Fz)
def L41 {R : Type} : Hn U R := fun key σ k => none
theorem n41 {R S : Type} (f30 : Y30) (p0 : S98) (k : (Int × Int × S98) → Option R) (K : R → Option S) : (b41 f30 p0 k).bind K = b41 f30 p0 (fun r => (k r).bind K) := by
  unfold b41
  simp only [bind_cond, bind_when, bind_elim, Option.bind_assoc, bind_none]
set_option maxRecDepth 100000 in
theorem t41 {R : Type} (f30 : Y30) (x : AX U tp41) (κ : U.D → List (List U.C) → Option R) : evFn (F41 f30) (L41) (U.ro 41) (U.rnew 41) Try.f41 (fillS tp41.a x.1) (fillB tp41.b x.2) κ
    = b41 f30 (⟨x.2.1.1, x.2.1.2.1, x.2.1.2.2.1, x.2.1.2.2.2.1⟩ : S98) (fun r => κ (.tup [.c (.int .i64 r.1), .c (.int .i64 r.2.1)]) [[.sl 5 r.2.2.c0, .sl 51 r.2.2.c1, .int .i64 r.2.2.c2, .int .i64 r.2.2.c3]]) := by kernel_rfl
theorem hF41 {R : Type} (f30 : Y30) (h30 : ∀ rest : Fn U R, SoundF Try.prog 30 rest → SoundF Try.prog 30 (e30 f30 rest)) : ∀ g, Sound Try.prog (F41 f30 : Nat → Fn U R) g := (Fc_sound (h30 _ fz_sound) Fz_sound)
theorem q41 {R : Type} (f30 : Y30) (h30 : ∀ rest : Fn U R, SoundF Try.prog 30 rest → SoundF Try.prog 30 (e30 f30 rest)) {rest : Fn U R} (hr : SoundF Try.prog 41 rest) : SoundF Try.prog 41 (e41 (fun p0 => b41 f30 p0 some) rest) :=
  entw_sound uok mixed (by kernel_rfl) (fn := Try.f41) (by kernel_rfl) (by kernel_rfl) (hF41 f30 h30) (L := L41) (fn_loops (ls := []) (by kernel_rfl) all_nil) hr (fun x κ => (n41 f30 (⟨x.2.1.1, x.2.1.2.1, x.2.1.2.2.1, x.2.1.2.2.2.1⟩ : S98) some _).trans (t41 f30 x κ).symm)
def F33 {R : Type} : Nat → Fn U R := Fz
def L33 {R : Type} : Hn U R := fun key σ k => none
theorem n33 {R S : Type} (p0 : S98) (k : Int → Option R) (K : R → Option S) : (b33 p0 k).bind K = b33 p0 (fun r => (k r).bind K) := by
  unfold b33
  simp only [bind_cond, bind_when, bind_elim, Option.bind_assoc, bind_none]
set_option maxRecDepth 100000 in
theorem t33 {R : Type} (x : AX U tp33) (κ : U.D → List (List U.C) → Option R) : evFn (F33) (L33) (U.ro 33) (U.rnew 33) Try.f33 (fillS tp33.a x.1) (fillB tp33.b x.2) κ
    = b33 (⟨x.2.1.1, x.2.1.2.1, x.2.1.2.2.1, x.2.1.2.2.2.1⟩ : S98) (fun r => κ (.v (.c (.int .i64 r))) (fillB tp33.b x.2)) := by kernel_rfl
theorem hF33 {R : Type} : ∀ g, Sound Try.prog (F33 : Nat → Fn U R) g := Fz_sound
theorem q33 {R : Type} {rest : Fn U R} (hr : SoundF Try.prog 33 rest) : SoundF Try.prog 33 (e33 (fun p0 => b33 p0 some) rest) :=
  ent_sound uok mixed (fn := Try.f33) (by kernel_rfl) (by kernel_rfl) (hF33) (L := L33) (fn_loops (ls := []) (by kernel_rfl) all_nil) hr (fun x κ => (n33 (⟨x.2.1.1, x.2.1.2.1, x.2.1.2.2.1, x.2.1.2.2.2.1⟩ : S98) some _).trans (t33 x κ).symm)
end Go.Proofs.Ytogfofcocidmkaa.Ev
