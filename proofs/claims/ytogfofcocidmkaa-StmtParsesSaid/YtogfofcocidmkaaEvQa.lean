/- EV (ours): each function's plain twin is what the evaluator makes of it; printed by gen.py -/
import Derived.Test.YtogfofcocidmkaaEvEn
import Derived.Test.YtogfofcocidmkaaEvOk
set_option linter.unusedVariables false
set_option linter.unusedSimpArgs false
namespace Go.Proofs.Ytogfofcocidmkaa.Ev
open Go.RowKit Go.Proofs
def F53 {R : Type} : Nat → Fn U R := Fz
def st53_4 : StT := ⟨[.c (.l 5), .c (.l 5), .c .u, .c .u, .c .u, .c (.i .i64), .c .u, .c .u, .c .u, .c .u, .c .u, .c .u, .c .u, .c .u, .c .u, .c .u, .c .u, .c .u, .c .u, .c .u, .c .u, .c .u, .c .u, .c .u, .c .u, .c .u], [], [], 0⟩
def h53_4 {R : Type} (l : Z53_4) : SX U st53_4 → (Out → St U → Option R) → Option R := fun x k => (l x.1.1 x.1.2.1 x.1.2.2.1).bind (Sum.elim (fun o => k .ret ⟨[.v (.c (.sl 5 x.1.1)), .v (.c (.sl 5 x.1.2.1)), ud, ud, .v (.c (.bool o.2)), .v (.c (.int .i64 o.1)), ud, ud, ud, ud, ud, ud, ud, ud, ud, ud, ud, ud, ud, ud, ud, ud, ud, ud, ud, ud], [], [], 0⟩) (fun o => k (.exit 0) ⟨[.v (.c (.sl 5 x.1.1)), .v (.c (.sl 5 x.1.2.1)), ud, ud, ud, .v (.c (.int .i64 o)), ud, ud, ud, ud, ud, ud, ud, ud, ud, ud, ud, ud, ud, ud, ud, ud, ud, ud, ud, ud], [], [], 0⟩))
def wd53_4 : List Wd := [.drop 2, .drop 3, .drop 4, .drop 6, .drop 7, .drop 8, .drop 9, .drop 10, .drop 11, .drop 12, .drop 13, .drop 14, .drop 15, .drop 16, .drop 17, .drop 18, .drop 19, .drop 20, .drop 21, .drop 22, .drop 23, .drop 24, .drop 25]
def L53 {R : Type} (l4 : Z53_4) : Hn U R := fun key σ k => bif Nat.beq key 4 then hnd wd53_4 st53_4 (h53_4 l4) σ k else none
set_option maxRecDepth 100000 in
theorem tl53_4 {R : Type} (l4 : Z53_4) (x0 x : SX U st53_4) (k : Out → St U → Option R) (n : Nat) : loopN [4] [] (fun σ k => ev (F53) (L53 l4) (lpAt Try.f53 0) σ k) (fillSt st53_4 x0) k (n + 1) (fillSt st53_4 x)
    = lb53_4 x.1.1 x.1.2.1 (fun v6 => loopN [4] [] (fun σ k => ev (F53) (L53 l4) (lpAt Try.f53 0) σ k) (fillSt st53_4 x0) k n (fillSt st53_4 (((x.1.1, x.1.2.1, v6, ()), (), ()) : SX U st53_4))) (fun o => k .ret ⟨[.v (.c (.sl 5 x.1.1)), .v (.c (.sl 5 x.1.2.1)), ud, ud, .v (.c (.bool o.2)), .v (.c (.int .i64 o.1)), ud, ud, ud, ud, ud, ud, ud, ud, ud, ud, ud, ud, ud, ud, ud, ud, ud, ud, ud, ud], [], [], 0⟩) (fun o => k (.exit 0) ⟨[.v (.c (.sl 5 x.1.1)), .v (.c (.sl 5 x.1.2.1)), ud, ud, ud, .v (.c (.int .i64 o)), ud, ud, ud, ud, ud, ud, ud, ud, ud, ud, ud, ud, ud, ud, ud, ud, ud, ud, ud, ud], [], [], 0⟩) x.1.2.2.1 := by kernel_rfl
theorem nb53_4 {R S : Type} (q4 : List Int) (q5 : List Int) (c : Int → Option R) (e0 : (Int × Bool) → Option R) (e1 : Int → Option R) (v6 : Int) (K : R → Option S) : (lb53_4 q4 q5 c e0 e1 v6).bind K = lb53_4 q4 q5 (fun v6 => (c v6).bind K) (fun o => (e0 o).bind K) (fun o => (e1 o).bind K) v6 := by
  unfold lb53_4
  simp only [bind_cond, bind_when, bind_elim, Option.bind_assoc, bind_none]
set_option maxHeartbeats 1000000 in
theorem ll53_4 {R : Type} (l4 : Z53_4) (x0 : SX U st53_4) (k : Out → St U → Option R) : ∀ (n : Nat) (x : SX U st53_4), loopN [4] [] (fun σ k => ev (F53) (L53 l4) (lpAt Try.f53 0) σ k) (fillSt st53_4 x0) k n (fillSt st53_4 x)
    = h53_4 (lp53_4 n) x k := by
  intro n
  induction n with
  | zero => intro x; kernel_rfl
  | succ n ih =>
    intro x
    have h2 := congrArg (fun c => lb53_4 x.1.1 x.1.2.1 c (fun o => k .ret ⟨[.v (.c (.sl 5 x.1.1)), .v (.c (.sl 5 x.1.2.1)), ud, ud, .v (.c (.bool o.2)), .v (.c (.int .i64 o.1)), ud, ud, ud, ud, ud, ud, ud, ud, ud, ud, ud, ud, ud, ud, ud, ud, ud, ud, ud, ud], [], [], 0⟩) (fun o => k (.exit 0) ⟨[.v (.c (.sl 5 x.1.1)), .v (.c (.sl 5 x.1.2.1)), ud, ud, ud, .v (.c (.int .i64 o)), ud, ud, ud, ud, ud, ud, ud, ud, ud, ud, ud, ud, ud, ud, ud, ud, ud, ud, ud, ud], [], [], 0⟩) x.1.2.2.1) (funext fun v6 => ih (((x.1.1, x.1.2.1, v6, ()), (), ()) : SX U st53_4))
    exact kcast (by kernel_rfl) (chain3 (tl53_4 l4 x0 x k n) h2 (nb53_4 x.1.1 x.1.2.1 (fun v6 => lp53_4 n x.1.1 x.1.2.1 v6) (fun o => some (Sum.inl o)) (fun o => some (Sum.inr (o))) x.1.2.2.1 (Sum.elim (fun o => k .ret ⟨[.v (.c (.sl 5 x.1.1)), .v (.c (.sl 5 x.1.2.1)), ud, ud, .v (.c (.bool o.2)), .v (.c (.int .i64 o.1)), ud, ud, ud, ud, ud, ud, ud, ud, ud, ud, ud, ud, ud, ud, ud, ud, ud, ud, ud, ud], [], [], 0⟩) (fun o => k (.exit 0) ⟨[.v (.c (.sl 5 x.1.1)), .v (.c (.sl 5 x.1.2.1)), ud, ud, ud, .v (.c (.int .i64 o)), ud, ud, ud, ud, ud, ud, ud, ud, ud, ud, ud, ud, ud, ud, ud, ud, ud, ud, ud, ud], [], [], 0⟩))).symm (by kernel_rfl) (by kernel_rfl))
theorem n53 {R S : Type} (l4 : Z53_4) (p0 : (List Int)) (p1 : (List Int)) (k : Bool → Option R) (K : R → Option S) : (b53 l4 p0 p1 k).bind K = b53 l4 p0 p1 (fun r => (k r).bind K) := by
  unfold b53
  simp only [bind_cond, bind_when, bind_elim, Option.bind_assoc, bind_none]
set_option maxRecDepth 100000 in
theorem t53 {R : Type} (l4 : Z53_4) (x : AX U tp53) (κ : U.D → List (List U.C) → Option R) : evFn (F53) (L53 l4) (U.ro 53) (U.rnew 53) Try.f53 (fillS tp53.a x.1) (fillB tp53.b x.2) κ
    = b53 l4 x.1.1 x.1.2.1 (fun r => κ (.v (.c (.bool r))) []) := by kernel_rfl
theorem hF53 {R : Type} : ∀ g, Sound Try.prog (F53 : Nat → Fn U R) g := Fz_sound
theorem lok53_4 {R : Type} : LoopOk Try.prog (L53 (lp53_4 big) : Hn U R) (lpAt Try.f53 0) :=
  hnd_ok uok (hF53) mixed (loops_of (ls := []) (by kernel_rfl) all_nil) (key := 4) (by kernel_rfl) (ws0 := wd53_4) (t := st53_4) (f := h53_4 (lp53_4 big)) (ws := []) (keep := [4]) (fun σ k => by kernel_rfl) (n := big) (fun x k => (ll53_4 (lp53_4 big) x k big x).symm)
theorem q53 {R : Type} {rest : Fn U R} (hr : SoundF Try.prog 53 rest) : SoundF Try.prog 53 (e53 (fun p0 p1 => b53 (lp53_4 big) p0 p1 some) rest) :=
  ent_sound uok mixed (fn := Try.f53) (by kernel_rfl) (by kernel_rfl) (hF53) (L := L53 (lp53_4 big)) (fn_loops (ls := [lpAt Try.f53 0]) (by kernel_rfl) (all_cons (lok53_4) all_nil)) hr (fun x κ => (n53 (lp53_4 big) x.1.1 x.1.2.1 some _).trans (t53 (lp53_4 big) x κ).symm)
def F19 {R : Type} (f53 : Y53) : Nat → Fn U R := (Fc 53 (e53 f53 (Fz 53)) Fz)
def L19 {R : Type} : Hn U R := fun key σ k => none
theorem n19 {R S : Type} (f53 : Y53) (p0 : (List Int)) (p1 : (List Int)) (p90 : (List Int)) (k : Bool → Option R) (K : R → Option S) : (b19 f53 p0 p1 p90 k).bind K = b19 f53 p0 p1 p90 (fun r => (k r).bind K) := by
  unfold b19
  simp only [bind_cond, bind_when, bind_elim, Option.bind_assoc, bind_none]
set_option maxRecDepth 100000 in
theorem t19 {R : Type} (f53 : Y53) (x : AX U tp19) (κ : U.D → List (List U.C) → Option R) : evFn (F19 f53) (L19) (U.ro 19) (U.rnew 19) Try.f19 (fillS tp19.a x.1) (fillB tp19.b x.2) κ
    = b19 f53 x.1.1.1 x.1.2.1 x.1.1.2 (fun r => κ (.v (.c (.bool r))) []) := by kernel_rfl
theorem hF19 {R : Type} (f53 : Y53) (h53 : ∀ rest : Fn U R, SoundF Try.prog 53 rest → SoundF Try.prog 53 (e53 f53 rest)) : ∀ g, Sound Try.prog (F19 f53 : Nat → Fn U R) g := (Fc_sound (h53 _ fz_sound) Fz_sound)
theorem q19 {R : Type} (f53 : Y53) (h53 : ∀ rest : Fn U R, SoundF Try.prog 53 rest → SoundF Try.prog 53 (e53 f53 rest)) {rest : Fn U R} (hr : SoundF Try.prog 19 rest) : SoundF Try.prog 19 (e19 (fun p0 p1 p90 => b19 f53 p0 p1 p90 some) rest) :=
  ent_sound uok mixed (fn := Try.f19) (by kernel_rfl) (by kernel_rfl) (hF19 f53 h53) (L := L19) (fn_loops (ls := []) (by kernel_rfl) all_nil) hr (fun x κ => (n19 f53 x.1.1.1 x.1.2.1 x.1.1.2 some _).trans (t19 f53 x κ).symm)
def F79 {R : Type} : Nat → Fn U R := Fz
def L79 {R : Type} : Hn U R := fun key σ k => none
theorem n79 {R S : Type} (p0 : Int) (k : Bool → Option R) (K : R → Option S) : (b79 p0 k).bind K = b79 p0 (fun r => (k r).bind K) := by
  unfold b79
  simp only [bind_cond, bind_when, bind_elim, Option.bind_assoc, bind_none]
set_option maxRecDepth 100000 in
theorem t79 {R : Type} (x : AX U tp79) (κ : U.D → List (List U.C) → Option R) : evFn (F79) (L79) (U.ro 79) (U.rnew 79) Try.f79 (fillS tp79.a x.1) (fillB tp79.b x.2) κ
    = b79 x.1.1 (fun r => κ (.v (.c (.bool r))) []) := by kernel_rfl
theorem hF79 {R : Type} : ∀ g, Sound Try.prog (F79 : Nat → Fn U R) g := Fz_sound
theorem q79 {R : Type} {rest : Fn U R} (hr : SoundF Try.prog 79 rest) : SoundF Try.prog 79 (e79 (fun p0 => b79 p0 some) rest) :=
  ent_sound uok mixed (fn := Try.f79) (by kernel_rfl) (by kernel_rfl) (hF79) (L := L79) (fn_loops (ls := []) (by kernel_rfl) all_nil) hr (fun x κ => (n79 x.1.1 some _).trans (t79 x κ).symm)
def F82 {R : Type} : Nat → Fn U R := Fz
def L82 {R : Type} : Hn U R := fun key σ k => none
theorem n82 {R S : Type} (p0 : Int) (k : Bool → Option R) (K : R → Option S) : (b82 p0 k).bind K = b82 p0 (fun r => (k r).bind K) := by
  unfold b82
  simp only [bind_cond, bind_when, bind_elim, Option.bind_assoc, bind_none]
set_option maxRecDepth 100000 in
theorem t82 {R : Type} (x : AX U tp82) (κ : U.D → List (List U.C) → Option R) : evFn (F82) (L82) (U.ro 82) (U.rnew 82) Try.f82 (fillS tp82.a x.1) (fillB tp82.b x.2) κ
    = b82 x.1.1 (fun r => κ (.v (.c (.bool r))) []) := by kernel_rfl
theorem hF82 {R : Type} : ∀ g, Sound Try.prog (F82 : Nat → Fn U R) g := Fz_sound
theorem q82 {R : Type} {rest : Fn U R} (hr : SoundF Try.prog 82 rest) : SoundF Try.prog 82 (e82 (fun p0 => b82 p0 some) rest) :=
  ent_sound uok mixed (fn := Try.f82) (by kernel_rfl) (by kernel_rfl) (hF82) (L := L82) (fn_loops (ls := []) (by kernel_rfl) all_nil) hr (fun x κ => (n82 x.1.1 some _).trans (t82 x κ).symm)
def F80_82 {R : Type} (f82 : Y82) : Nat → Fn U R := (Fc 82 (e82 f82 (Fz 82)) Fz)
def st80_82_2 : StT := ⟨[.c (.l 5), .c (.fn 82), .c .u, .c .u, .c .u, .c (.i .i64), .c .u, .c .u, .c .u, .c .u, .c .u, .c .u, .c .u, .c .u, .c .u, .c .u, .c .u, .c .u, .c .u, .c .u, .c .u], [], [], 0⟩
def h80_82_2 {R : Type} (l : Z80_82_2) : SX U st80_82_2 → (Out → St U → Option R) → Option R := fun x k => (l x.1.1 x.1.2.1).bind (fun o => k (.exit 0) ⟨[.v (.c (.sl 5 x.1.1)), .v (.c (.fn 82)), ud, ud, ud, .v (.c (.int .i64 o)), ud, ud, ud, ud, ud, ud, ud, ud, ud, ud, ud, ud, ud, ud, ud], [], [], 0⟩)
def wd80_82_2 : List Wd := [.drop 2, .drop 3, .drop 4, .drop 6, .drop 7, .drop 8, .drop 9, .drop 10, .drop 11, .drop 12, .drop 13, .drop 14, .drop 15, .drop 16, .drop 17, .drop 18, .drop 19, .drop 20]
def L80_82 {R : Type} (l2 : Z80_82_2) : Hn U R := fun key σ k => bif Nat.beq key 2 then hnd wd80_82_2 st80_82_2 (h80_82_2 l2) σ k else none
set_option maxRecDepth 100000 in
theorem tl80_82_2 {R : Type} (f82 : Y82) (l2 : Z80_82_2) (x0 x : SX U st80_82_2) (k : Out → St U → Option R) (n : Nat) : loopN [4] [] (fun σ k => ev (F80_82 f82) (L80_82 l2) (lpAt Try.f80 0) σ k) (fillSt st80_82_2 x0) k (n + 1) (fillSt st80_82_2 x)
    = lb80_82_2 f82 x.1.1 (fun v5 => loopN [4] [] (fun σ k => ev (F80_82 f82) (L80_82 l2) (lpAt Try.f80 0) σ k) (fillSt st80_82_2 x0) k n (fillSt st80_82_2 (((x.1.1, v5, ()), (), ()) : SX U st80_82_2))) (fun o => k (.exit 0) ⟨[.v (.c (.sl 5 x.1.1)), .v (.c (.fn 82)), ud, ud, ud, .v (.c (.int .i64 o)), ud, ud, ud, ud, ud, ud, ud, ud, ud, ud, ud, ud, ud, ud, ud], [], [], 0⟩) x.1.2.1 := by kernel_rfl
theorem nb80_82_2 {R S : Type} (f82 : Y82) (q4 : List Int) (c : Int → Option R) (e0 : Int → Option R) (v5 : Int) (K : R → Option S) : (lb80_82_2 f82 q4 c e0 v5).bind K = lb80_82_2 f82 q4 (fun v5 => (c v5).bind K) (fun o => (e0 o).bind K) v5 := by
  unfold lb80_82_2
  simp only [bind_cond, bind_when, bind_elim, Option.bind_assoc, bind_none]
set_option maxHeartbeats 1000000 in
theorem ll80_82_2 {R : Type} (f82 : Y82) (l2 : Z80_82_2) (x0 : SX U st80_82_2) (k : Out → St U → Option R) : ∀ (n : Nat) (x : SX U st80_82_2), loopN [4] [] (fun σ k => ev (F80_82 f82) (L80_82 l2) (lpAt Try.f80 0) σ k) (fillSt st80_82_2 x0) k n (fillSt st80_82_2 x)
    = h80_82_2 (lp80_82_2 f82 n) x k := by
  intro n
  induction n with
  | zero => intro x; kernel_rfl
  | succ n ih =>
    intro x
    have h2 := congrArg (fun c => lb80_82_2 f82 x.1.1 c (fun o => k (.exit 0) ⟨[.v (.c (.sl 5 x.1.1)), .v (.c (.fn 82)), ud, ud, ud, .v (.c (.int .i64 o)), ud, ud, ud, ud, ud, ud, ud, ud, ud, ud, ud, ud, ud, ud, ud], [], [], 0⟩) x.1.2.1) (funext fun v5 => ih (((x.1.1, v5, ()), (), ()) : SX U st80_82_2))
    exact kcast (by kernel_rfl) (chain3 (tl80_82_2 f82 l2 x0 x k n) h2 (nb80_82_2 f82 x.1.1 (fun v5 => lp80_82_2 f82 n x.1.1 v5) (fun o => some o) x.1.2.1 (fun o => k (.exit 0) ⟨[.v (.c (.sl 5 x.1.1)), .v (.c (.fn 82)), ud, ud, ud, .v (.c (.int .i64 o)), ud, ud, ud, ud, ud, ud, ud, ud, ud, ud, ud, ud, ud, ud, ud], [], [], 0⟩)).symm (by kernel_rfl) (by kernel_rfl))
theorem n80_82 {R S : Type} (f82 : Y82) (l2 : Z80_82_2) (p0 : (List Int)) (k : Int → Option R) (K : R → Option S) : (b80_82 f82 l2 p0 k).bind K = b80_82 f82 l2 p0 (fun r => (k r).bind K) := by
  unfold b80_82
  simp only [bind_cond, bind_when, bind_elim, Option.bind_assoc, bind_none]
set_option maxRecDepth 100000 in
theorem t80_82 {R : Type} (f82 : Y82) (l2 : Z80_82_2) (x : AX U tp80_82) (κ : U.D → List (List U.C) → Option R) : evFn (F80_82 f82) (L80_82 l2) (U.ro 80) (U.rnew 80) Try.f80 (fillS tp80_82.a x.1) (fillB tp80_82.b x.2) κ
    = b80_82 f82 l2 x.1.1 (fun r => κ (.v (.c (.int .i64 r))) []) := by kernel_rfl
theorem hF80_82 {R : Type} (f82 : Y82) (h82 : ∀ rest : Fn U R, SoundF Try.prog 82 rest → SoundF Try.prog 82 (e82 f82 rest)) : ∀ g, Sound Try.prog (F80_82 f82 : Nat → Fn U R) g := (Fc_sound (h82 _ fz_sound) Fz_sound)
theorem lok80_82_2 {R : Type} (f82 : Y82) (h82 : ∀ rest : Fn U R, SoundF Try.prog 82 rest → SoundF Try.prog 82 (e82 f82 rest)) : LoopOk Try.prog (L80_82 (lp80_82_2 f82 big) : Hn U R) (lpAt Try.f80 0) :=
  hnd_ok uok (hF80_82 f82 h82) mixed (loops_of (ls := []) (by kernel_rfl) all_nil) (key := 2) (by kernel_rfl) (ws0 := wd80_82_2) (t := st80_82_2) (f := h80_82_2 (lp80_82_2 f82 big)) (ws := []) (keep := [4]) (fun σ k => by kernel_rfl) (n := big) (fun x k => (ll80_82_2 f82 (lp80_82_2 f82 big) x k big x).symm)
theorem q80_82 {R : Type} (f82 : Y82) (h82 : ∀ rest : Fn U R, SoundF Try.prog 82 rest → SoundF Try.prog 82 (e82 f82 rest)) {rest : Fn U R} (hr : SoundF Try.prog 80 rest) : SoundF Try.prog 80 (e80_82 (fun p0 => b80_82 f82 (lp80_82_2 f82 big) p0 some) rest) :=
  ent_sound uok mixed (fn := Try.f80) (by kernel_rfl) (by kernel_rfl) (hF80_82 f82 h82) (L := L80_82 (lp80_82_2 f82 big)) (fn_loops (ls := [lpAt Try.f80 0]) (by kernel_rfl) (all_cons (lok80_82_2 f82 h82) all_nil)) hr (fun x κ => (n80_82 f82 (lp80_82_2 f82 big) x.1.1 some _).trans (t80_82 f82 (lp80_82_2 f82 big) x κ).symm)
def F93 {R : Type} : Nat → Fn U R := Fz
def L93 {R : Type} : Hn U R := fun key σ k => none
theorem n93 {R S : Type} (p0 : Int) (k : Bool → Option R) (K : R → Option S) : (b93 p0 k).bind K = b93 p0 (fun r => (k r).bind K) := by
  unfold b93
  simp only [bind_cond, bind_when, bind_elim, Option.bind_assoc, bind_none]
set_option maxRecDepth 100000 in
theorem t93 {R : Type} (x : AX U tp93) (κ : U.D → List (List U.C) → Option R) : evFn (F93) (L93) (U.ro 93) (U.rnew 93) Try.f93 (fillS tp93.a x.1) (fillB tp93.b x.2) κ
    = b93 x.1.1 (fun r => κ (.v (.c (.bool r))) []) := by kernel_rfl
theorem hF93 {R : Type} : ∀ g, Sound Try.prog (F93 : Nat → Fn U R) g := Fz_sound
theorem q93 {R : Type} {rest : Fn U R} (hr : SoundF Try.prog 93 rest) : SoundF Try.prog 93 (e93 (fun p0 => b93 p0 some) rest) :=
  ent_sound uok mixed (fn := Try.f93) (by kernel_rfl) (by kernel_rfl) (hF93) (L := L93) (fn_loops (ls := []) (by kernel_rfl) all_nil) hr (fun x κ => (n93 x.1.1 some _).trans (t93 x κ).symm)
def F80_93 {R : Type} (f93 : Y93) : Nat → Fn U R := (Fc 93 (e93 f93 (Fz 93)) Fz)
def st80_93_2 : StT := ⟨[.c (.l 5), .c (.fn 93), .c .u, .c .u, .c .u, .c (.i .i64), .c .u, .c .u, .c .u, .c .u, .c .u, .c .u, .c .u, .c .u, .c .u, .c .u, .c .u, .c .u, .c .u, .c .u, .c .u], [], [], 0⟩
def h80_93_2 {R : Type} (l : Z80_93_2) : SX U st80_93_2 → (Out → St U → Option R) → Option R := fun x k => (l x.1.1 x.1.2.1).bind (fun o => k (.exit 0) ⟨[.v (.c (.sl 5 x.1.1)), .v (.c (.fn 93)), ud, ud, ud, .v (.c (.int .i64 o)), ud, ud, ud, ud, ud, ud, ud, ud, ud, ud, ud, ud, ud, ud, ud], [], [], 0⟩)
def wd80_93_2 : List Wd := [.drop 2, .drop 3, .drop 4, .drop 6, .drop 7, .drop 8, .drop 9, .drop 10, .drop 11, .drop 12, .drop 13, .drop 14, .drop 15, .drop 16, .drop 17, .drop 18, .drop 19, .drop 20]
def L80_93 {R : Type} (l2 : Z80_93_2) : Hn U R := fun key σ k => bif Nat.beq key 2 then hnd wd80_93_2 st80_93_2 (h80_93_2 l2) σ k else none
set_option maxRecDepth 100000 in
theorem tl80_93_2 {R : Type} (f93 : Y93) (l2 : Z80_93_2) (x0 x : SX U st80_93_2) (k : Out → St U → Option R) (n : Nat) : loopN [4] [] (fun σ k => ev (F80_93 f93) (L80_93 l2) (lpAt Try.f80 0) σ k) (fillSt st80_93_2 x0) k (n + 1) (fillSt st80_93_2 x)
    = lb80_93_2 f93 x.1.1 (fun v5 => loopN [4] [] (fun σ k => ev (F80_93 f93) (L80_93 l2) (lpAt Try.f80 0) σ k) (fillSt st80_93_2 x0) k n (fillSt st80_93_2 (((x.1.1, v5, ()), (), ()) : SX U st80_93_2))) (fun o => k (.exit 0) ⟨[.v (.c (.sl 5 x.1.1)), .v (.c (.fn 93)), ud, ud, ud, .v (.c (.int .i64 o)), ud, ud, ud, ud, ud, ud, ud, ud, ud, ud, ud, ud, ud, ud, ud], [], [], 0⟩) x.1.2.1 := by kernel_rfl
theorem nb80_93_2 {R S : Type} (f93 : Y93) (q4 : List Int) (c : Int → Option R) (e0 : Int → Option R) (v5 : Int) (K : R → Option S) : (lb80_93_2 f93 q4 c e0 v5).bind K = lb80_93_2 f93 q4 (fun v5 => (c v5).bind K) (fun o => (e0 o).bind K) v5 := by
  unfold lb80_93_2
  simp only [bind_cond, bind_when, bind_elim, Option.bind_assoc, bind_none]
set_option maxHeartbeats 1000000 in
theorem ll80_93_2 {R : Type} (f93 : Y93) (l2 : Z80_93_2) (x0 : SX U st80_93_2) (k : Out → St U → Option R) : ∀ (n : Nat) (x : SX U st80_93_2), loopN [4] [] (fun σ k => ev (F80_93 f93) (L80_93 l2) (lpAt Try.f80 0) σ k) (fillSt st80_93_2 x0) k n (fillSt st80_93_2 x)
    = h80_93_2 (lp80_93_2 f93 n) x k := by
  intro n
  induction n with
  | zero => intro x; kernel_rfl
  | succ n ih =>
    intro x
    have h2 := congrArg (fun c => lb80_93_2 f93 x.1.1 c (fun o => k (.exit 0) ⟨[.v (.c (.sl 5 x.1.1)), .v (.c (.fn 93)), ud, ud, ud, .v (.c (.int .i64 o)), ud, ud, ud, ud, ud, ud, ud, ud, ud, ud, ud, ud, ud, ud, ud], [], [], 0⟩) x.1.2.1) (funext fun v5 => ih (((x.1.1, v5, ()), (), ()) : SX U st80_93_2))
    exact kcast (by kernel_rfl) (chain3 (tl80_93_2 f93 l2 x0 x k n) h2 (nb80_93_2 f93 x.1.1 (fun v5 => lp80_93_2 f93 n x.1.1 v5) (fun o => some o) x.1.2.1 (fun o => k (.exit 0) ⟨[.v (.c (.sl 5 x.1.1)), .v (.c (.fn 93)), ud, ud, ud, .v (.c (.int .i64 o)), ud, ud, ud, ud, ud, ud, ud, ud, ud, ud, ud, ud, ud, ud, ud], [], [], 0⟩)).symm (by kernel_rfl) (by kernel_rfl))
theorem n80_93 {R S : Type} (f93 : Y93) (l2 : Z80_93_2) (p0 : (List Int)) (k : Int → Option R) (K : R → Option S) : (b80_93 f93 l2 p0 k).bind K = b80_93 f93 l2 p0 (fun r => (k r).bind K) := by
  unfold b80_93
  simp only [bind_cond, bind_when, bind_elim, Option.bind_assoc, bind_none]
set_option maxRecDepth 100000 in
theorem t80_93 {R : Type} (f93 : Y93) (l2 : Z80_93_2) (x : AX U tp80_93) (κ : U.D → List (List U.C) → Option R) : evFn (F80_93 f93) (L80_93 l2) (U.ro 80) (U.rnew 80) Try.f80 (fillS tp80_93.a x.1) (fillB tp80_93.b x.2) κ
    = b80_93 f93 l2 x.1.1 (fun r => κ (.v (.c (.int .i64 r))) []) := by kernel_rfl
theorem hF80_93 {R : Type} (f93 : Y93) (h93 : ∀ rest : Fn U R, SoundF Try.prog 93 rest → SoundF Try.prog 93 (e93 f93 rest)) : ∀ g, Sound Try.prog (F80_93 f93 : Nat → Fn U R) g := (Fc_sound (h93 _ fz_sound) Fz_sound)
theorem lok80_93_2 {R : Type} (f93 : Y93) (h93 : ∀ rest : Fn U R, SoundF Try.prog 93 rest → SoundF Try.prog 93 (e93 f93 rest)) : LoopOk Try.prog (L80_93 (lp80_93_2 f93 big) : Hn U R) (lpAt Try.f80 0) :=
  hnd_ok uok (hF80_93 f93 h93) mixed (loops_of (ls := []) (by kernel_rfl) all_nil) (key := 2) (by kernel_rfl) (ws0 := wd80_93_2) (t := st80_93_2) (f := h80_93_2 (lp80_93_2 f93 big)) (ws := []) (keep := [4]) (fun σ k => by kernel_rfl) (n := big) (fun x k => (ll80_93_2 f93 (lp80_93_2 f93 big) x k big x).symm)
theorem q80_93 {R : Type} (f93 : Y93) (h93 : ∀ rest : Fn U R, SoundF Try.prog 93 rest → SoundF Try.prog 93 (e93 f93 rest)) {rest : Fn U R} (hr : SoundF Try.prog 80 rest) : SoundF Try.prog 80 (e80_93 (fun p0 => b80_93 f93 (lp80_93_2 f93 big) p0 some) rest) :=
  ent_sound uok mixed (fn := Try.f80) (by kernel_rfl) (by kernel_rfl) (hF80_93 f93 h93) (L := L80_93 (lp80_93_2 f93 big)) (fn_loops (ls := [lpAt Try.f80 0]) (by kernel_rfl) (all_cons (lok80_93_2 f93 h93) all_nil)) hr (fun x κ => (n80_93 f93 (lp80_93_2 f93 big) x.1.1 some _).trans (t80_93 f93 (lp80_93_2 f93 big) x κ).symm)
def F94 {R : Type} : Nat → Fn U R := Fz
def L94 {R : Type} : Hn U R := fun key σ k => none
theorem n94 {R S : Type} (p0 : Int) (k : Bool → Option R) (K : R → Option S) : (b94 p0 k).bind K = b94 p0 (fun r => (k r).bind K) := by
  unfold b94
  simp only [bind_cond, bind_when, bind_elim, Option.bind_assoc, bind_none]
set_option maxRecDepth 100000 in
theorem t94 {R : Type} (x : AX U tp94) (κ : U.D → List (List U.C) → Option R) : evFn (F94) (L94) (U.ro 94) (U.rnew 94) Try.f94 (fillS tp94.a x.1) (fillB tp94.b x.2) κ
    = b94 x.1.1 (fun r => κ (.v (.c (.bool r))) []) := by kernel_rfl
theorem hF94 {R : Type} : ∀ g, Sound Try.prog (F94 : Nat → Fn U R) g := Fz_sound
theorem q94 {R : Type} {rest : Fn U R} (hr : SoundF Try.prog 94 rest) : SoundF Try.prog 94 (e94 (fun p0 => b94 p0 some) rest) :=
  ent_sound uok mixed (fn := Try.f94) (by kernel_rfl) (by kernel_rfl) (hF94) (L := L94) (fn_loops (ls := []) (by kernel_rfl) all_nil) hr (fun x κ => (n94 x.1.1 some _).trans (t94 x κ).symm)
def F80_94 {R : Type} (f94 : Y94) : Nat → Fn U R := (Fc 94 (e94 f94 (Fz 94)) Fz)
def st80_94_2 : StT := ⟨[.c (.l 5), .c (.fn 94), .c .u, .c .u, .c .u, .c (.i .i64), .c .u, .c .u, .c .u, .c .u, .c .u, .c .u, .c .u, .c .u, .c .u, .c .u, .c .u, .c .u, .c .u, .c .u, .c .u], [], [], 0⟩
def h80_94_2 {R : Type} (l : Z80_94_2) : SX U st80_94_2 → (Out → St U → Option R) → Option R := fun x k => (l x.1.1 x.1.2.1).bind (fun o => k (.exit 0) ⟨[.v (.c (.sl 5 x.1.1)), .v (.c (.fn 94)), ud, ud, ud, .v (.c (.int .i64 o)), ud, ud, ud, ud, ud, ud, ud, ud, ud, ud, ud, ud, ud, ud, ud], [], [], 0⟩)
def wd80_94_2 : List Wd := [.drop 2, .drop 3, .drop 4, .drop 6, .drop 7, .drop 8, .drop 9, .drop 10, .drop 11, .drop 12, .drop 13, .drop 14, .drop 15, .drop 16, .drop 17, .drop 18, .drop 19, .drop 20]
def L80_94 {R : Type} (l2 : Z80_94_2) : Hn U R := fun key σ k => bif Nat.beq key 2 then hnd wd80_94_2 st80_94_2 (h80_94_2 l2) σ k else none
set_option maxRecDepth 100000 in
theorem tl80_94_2 {R : Type} (f94 : Y94) (l2 : Z80_94_2) (x0 x : SX U st80_94_2) (k : Out → St U → Option R) (n : Nat) : loopN [4] [] (fun σ k => ev (F80_94 f94) (L80_94 l2) (lpAt Try.f80 0) σ k) (fillSt st80_94_2 x0) k (n + 1) (fillSt st80_94_2 x)
    = lb80_94_2 f94 x.1.1 (fun v5 => loopN [4] [] (fun σ k => ev (F80_94 f94) (L80_94 l2) (lpAt Try.f80 0) σ k) (fillSt st80_94_2 x0) k n (fillSt st80_94_2 (((x.1.1, v5, ()), (), ()) : SX U st80_94_2))) (fun o => k (.exit 0) ⟨[.v (.c (.sl 5 x.1.1)), .v (.c (.fn 94)), ud, ud, ud, .v (.c (.int .i64 o)), ud, ud, ud, ud, ud, ud, ud, ud, ud, ud, ud, ud, ud, ud, ud], [], [], 0⟩) x.1.2.1 := by kernel_rfl
theorem nb80_94_2 {R S : Type} (f94 : Y94) (q4 : List Int) (c : Int → Option R) (e0 : Int → Option R) (v5 : Int) (K : R → Option S) : (lb80_94_2 f94 q4 c e0 v5).bind K = lb80_94_2 f94 q4 (fun v5 => (c v5).bind K) (fun o => (e0 o).bind K) v5 := by
  unfold lb80_94_2
  simp only [bind_cond, bind_when, bind_elim, Option.bind_assoc, bind_none]
set_option maxHeartbeats 1000000 in
theorem ll80_94_2 {R : Type} (f94 : Y94) (l2 : Z80_94_2) (x0 : SX U st80_94_2) (k : Out → St U → Option R) : ∀ (n : Nat) (x : SX U st80_94_2), loopN [4] [] (fun σ k => ev (F80_94 f94) (L80_94 l2) (lpAt Try.f80 0) σ k) (fillSt st80_94_2 x0) k n (fillSt st80_94_2 x)
    = h80_94_2 (lp80_94_2 f94 n) x k := by
  intro n
  induction n with
  | zero => intro x; kernel_rfl
  | succ n ih =>
    intro x
    have h2 := congrArg (fun c => lb80_94_2 f94 x.1.1 c (fun o => k (.exit 0) ⟨[.v (.c (.sl 5 x.1.1)), .v (.c (.fn 94)), ud, ud, ud, .v (.c (.int .i64 o)), ud, ud, ud, ud, ud, ud, ud, ud, ud, ud, ud, ud, ud, ud, ud], [], [], 0⟩) x.1.2.1) (funext fun v5 => ih (((x.1.1, v5, ()), (), ()) : SX U st80_94_2))
    exact kcast (by kernel_rfl) (chain3 (tl80_94_2 f94 l2 x0 x k n) h2 (nb80_94_2 f94 x.1.1 (fun v5 => lp80_94_2 f94 n x.1.1 v5) (fun o => some o) x.1.2.1 (fun o => k (.exit 0) ⟨[.v (.c (.sl 5 x.1.1)), .v (.c (.fn 94)), ud, ud, ud, .v (.c (.int .i64 o)), ud, ud, ud, ud, ud, ud, ud, ud, ud, ud, ud, ud, ud, ud, ud], [], [], 0⟩)).symm (by kernel_rfl) (by kernel_rfl))
theorem n80_94 {R S : Type} (f94 : Y94) (l2 : Z80_94_2) (p0 : (List Int)) (k : Int → Option R) (K : R → Option S) : (b80_94 f94 l2 p0 k).bind K = b80_94 f94 l2 p0 (fun r => (k r).bind K) := by
  unfold b80_94
  simp only [bind_cond, bind_when, bind_elim, Option.bind_assoc, bind_none]
set_option maxRecDepth 100000 in
theorem t80_94 {R : Type} (f94 : Y94) (l2 : Z80_94_2) (x : AX U tp80_94) (κ : U.D → List (List U.C) → Option R) : evFn (F80_94 f94) (L80_94 l2) (U.ro 80) (U.rnew 80) Try.f80 (fillS tp80_94.a x.1) (fillB tp80_94.b x.2) κ
    = b80_94 f94 l2 x.1.1 (fun r => κ (.v (.c (.int .i64 r))) []) := by kernel_rfl
theorem hF80_94 {R : Type} (f94 : Y94) (h94 : ∀ rest : Fn U R, SoundF Try.prog 94 rest → SoundF Try.prog 94 (e94 f94 rest)) : ∀ g, Sound Try.prog (F80_94 f94 : Nat → Fn U R) g := (Fc_sound (h94 _ fz_sound) Fz_sound)
theorem lok80_94_2 {R : Type} (f94 : Y94) (h94 : ∀ rest : Fn U R, SoundF Try.prog 94 rest → SoundF Try.prog 94 (e94 f94 rest)) : LoopOk Try.prog (L80_94 (lp80_94_2 f94 big) : Hn U R) (lpAt Try.f80 0) :=
  hnd_ok uok (hF80_94 f94 h94) mixed (loops_of (ls := []) (by kernel_rfl) all_nil) (key := 2) (by kernel_rfl) (ws0 := wd80_94_2) (t := st80_94_2) (f := h80_94_2 (lp80_94_2 f94 big)) (ws := []) (keep := [4]) (fun σ k => by kernel_rfl) (n := big) (fun x k => (ll80_94_2 f94 (lp80_94_2 f94 big) x k big x).symm)
theorem q80_94 {R : Type} (f94 : Y94) (h94 : ∀ rest : Fn U R, SoundF Try.prog 94 rest → SoundF Try.prog 94 (e94 f94 rest)) {rest : Fn U R} (hr : SoundF Try.prog 80 rest) : SoundF Try.prog 80 (e80_94 (fun p0 => b80_94 f94 (lp80_94_2 f94 big) p0 some) rest) :=
  ent_sound uok mixed (fn := Try.f80) (by kernel_rfl) (by kernel_rfl) (hF80_94 f94 h94) (L := L80_94 (lp80_94_2 f94 big)) (fn_loops (ls := [lpAt Try.f80 0]) (by kernel_rfl) (all_cons (lok80_94_2 f94 h94) all_nil)) hr (fun x κ => (n80_94 f94 (lp80_94_2 f94 big) x.1.1 some _).trans (t80_94 f94 (lp80_94_2 f94 big) x κ).symm)
def F95 {R : Type} (f79 : Y79) (f82 : Y82) : Nat → Fn U R := (Fc 79 (e79 f79 (Fz 79)) (Fc 82 (e82 f82 (Fz 82)) Fz))
def L95 {R : Type} : Hn U R := fun key σ k => none
theorem n95 {R S : Type} (f79 : Y79) (f82 : Y82) (p0 : Int) (k : Bool → Option R) (K : R → Option S) : (b95 f79 f82 p0 k).bind K = b95 f79 f82 p0 (fun r => (k r).bind K) := by
  unfold b95
  simp only [bind_cond, bind_when, bind_elim, Option.bind_assoc, bind_none]
set_option maxRecDepth 100000 in
theorem t95 {R : Type} (f79 : Y79) (f82 : Y82) (x : AX U tp95) (κ : U.D → List (List U.C) → Option R) : evFn (F95 f79 f82) (L95) (U.ro 95) (U.rnew 95) Try.f95 (fillS tp95.a x.1) (fillB tp95.b x.2) κ
    = b95 f79 f82 x.1.1 (fun r => κ (.v (.c (.bool r))) []) := by kernel_rfl
theorem hF95 {R : Type} (f79 : Y79) (f82 : Y82) (h79 : ∀ rest : Fn U R, SoundF Try.prog 79 rest → SoundF Try.prog 79 (e79 f79 rest)) (h82 : ∀ rest : Fn U R, SoundF Try.prog 82 rest → SoundF Try.prog 82 (e82 f82 rest)) : ∀ g, Sound Try.prog (F95 f79 f82 : Nat → Fn U R) g := (Fc_sound (h79 _ fz_sound) (Fc_sound (h82 _ fz_sound) Fz_sound))
theorem q95 {R : Type} (f79 : Y79) (f82 : Y82) (h79 : ∀ rest : Fn U R, SoundF Try.prog 79 rest → SoundF Try.prog 79 (e79 f79 rest)) (h82 : ∀ rest : Fn U R, SoundF Try.prog 82 rest → SoundF Try.prog 82 (e82 f82 rest)) {rest : Fn U R} (hr : SoundF Try.prog 95 rest) : SoundF Try.prog 95 (e95 (fun p0 => b95 f79 f82 p0 some) rest) :=
  ent_sound uok mixed (fn := Try.f95) (by kernel_rfl) (by kernel_rfl) (hF95 f79 f82 h79 h82) (L := L95) (fn_loops (ls := []) (by kernel_rfl) all_nil) hr (fun x κ => (n95 f79 f82 x.1.1 some _).trans (t95 f79 f82 x κ).symm)
def F80_95 {R : Type} (f95 : Y95) : Nat → Fn U R := (Fc 95 (e95 f95 (Fz 95)) Fz)
def st80_95_2 : StT := ⟨[.c (.l 5), .c (.fn 95), .c .u, .c .u, .c .u, .c (.i .i64), .c .u, .c .u, .c .u, .c .u, .c .u, .c .u, .c .u, .c .u, .c .u, .c .u, .c .u, .c .u, .c .u, .c .u, .c .u], [], [], 0⟩
def h80_95_2 {R : Type} (l : Z80_95_2) : SX U st80_95_2 → (Out → St U → Option R) → Option R := fun x k => (l x.1.1 x.1.2.1).bind (fun o => k (.exit 0) ⟨[.v (.c (.sl 5 x.1.1)), .v (.c (.fn 95)), ud, ud, ud, .v (.c (.int .i64 o)), ud, ud, ud, ud, ud, ud, ud, ud, ud, ud, ud, ud, ud, ud, ud], [], [], 0⟩)
def wd80_95_2 : List Wd := [.drop 2, .drop 3, .drop 4, .drop 6, .drop 7, .drop 8, .drop 9, .drop 10, .drop 11, .drop 12, .drop 13, .drop 14, .drop 15, .drop 16, .drop 17, .drop 18, .drop 19, .drop 20]
def L80_95 {R : Type} (l2 : Z80_95_2) : Hn U R := fun key σ k => bif Nat.beq key 2 then hnd wd80_95_2 st80_95_2 (h80_95_2 l2) σ k else none
set_option maxRecDepth 100000 in
theorem tl80_95_2 {R : Type} (f95 : Y95) (l2 : Z80_95_2) (x0 x : SX U st80_95_2) (k : Out → St U → Option R) (n : Nat) : loopN [4] [] (fun σ k => ev (F80_95 f95) (L80_95 l2) (lpAt Try.f80 0) σ k) (fillSt st80_95_2 x0) k (n + 1) (fillSt st80_95_2 x)
    = lb80_95_2 f95 x.1.1 (fun v5 => loopN [4] [] (fun σ k => ev (F80_95 f95) (L80_95 l2) (lpAt Try.f80 0) σ k) (fillSt st80_95_2 x0) k n (fillSt st80_95_2 (((x.1.1, v5, ()), (), ()) : SX U st80_95_2))) (fun o => k (.exit 0) ⟨[.v (.c (.sl 5 x.1.1)), .v (.c (.fn 95)), ud, ud, ud, .v (.c (.int .i64 o)), ud, ud, ud, ud, ud, ud, ud, ud, ud, ud, ud, ud, ud, ud, ud], [], [], 0⟩) x.1.2.1 := by kernel_rfl
theorem nb80_95_2 {R S : Type} (f95 : Y95) (q4 : List Int) (c : Int → Option R) (e0 : Int → Option R) (v5 : Int) (K : R → Option S) : (lb80_95_2 f95 q4 c e0 v5).bind K = lb80_95_2 f95 q4 (fun v5 => (c v5).bind K) (fun o => (e0 o).bind K) v5 := by
  unfold lb80_95_2
  simp only [bind_cond, bind_when, bind_elim, Option.bind_assoc, bind_none]
set_option maxHeartbeats 1000000 in
theorem ll80_95_2 {R : Type} (f95 : Y95) (l2 : Z80_95_2) (x0 : SX U st80_95_2) (k : Out → St U → Option R) : ∀ (n : Nat) (x : SX U st80_95_2), loopN [4] [] (fun σ k => ev (F80_95 f95) (L80_95 l2) (lpAt Try.f80 0) σ k) (fillSt st80_95_2 x0) k n (fillSt st80_95_2 x)
    = h80_95_2 (lp80_95_2 f95 n) x k := by
  intro n
  induction n with
  | zero => intro x; kernel_rfl
  | succ n ih =>
    intro x
    have h2 := congrArg (fun c => lb80_95_2 f95 x.1.1 c (fun o => k (.exit 0) ⟨[.v (.c (.sl 5 x.1.1)), .v (.c (.fn 95)), ud, ud, ud, .v (.c (.int .i64 o)), ud, ud, ud, ud, ud, ud, ud, ud, ud, ud, ud, ud, ud, ud, ud], [], [], 0⟩) x.1.2.1) (funext fun v5 => ih (((x.1.1, v5, ()), (), ()) : SX U st80_95_2))
    exact kcast (by kernel_rfl) (chain3 (tl80_95_2 f95 l2 x0 x k n) h2 (nb80_95_2 f95 x.1.1 (fun v5 => lp80_95_2 f95 n x.1.1 v5) (fun o => some o) x.1.2.1 (fun o => k (.exit 0) ⟨[.v (.c (.sl 5 x.1.1)), .v (.c (.fn 95)), ud, ud, ud, .v (.c (.int .i64 o)), ud, ud, ud, ud, ud, ud, ud, ud, ud, ud, ud, ud, ud, ud, ud], [], [], 0⟩)).symm (by kernel_rfl) (by kernel_rfl))
theorem n80_95 {R S : Type} (f95 : Y95) (l2 : Z80_95_2) (p0 : (List Int)) (k : Int → Option R) (K : R → Option S) : (b80_95 f95 l2 p0 k).bind K = b80_95 f95 l2 p0 (fun r => (k r).bind K) := by
  unfold b80_95
  simp only [bind_cond, bind_when, bind_elim, Option.bind_assoc, bind_none]
set_option maxRecDepth 100000 in
theorem t80_95 {R : Type} (f95 : Y95) (l2 : Z80_95_2) (x : AX U tp80_95) (κ : U.D → List (List U.C) → Option R) : evFn (F80_95 f95) (L80_95 l2) (U.ro 80) (U.rnew 80) Try.f80 (fillS tp80_95.a x.1) (fillB tp80_95.b x.2) κ
    = b80_95 f95 l2 x.1.1 (fun r => κ (.v (.c (.int .i64 r))) []) := by kernel_rfl
theorem hF80_95 {R : Type} (f95 : Y95) (h95 : ∀ rest : Fn U R, SoundF Try.prog 95 rest → SoundF Try.prog 95 (e95 f95 rest)) : ∀ g, Sound Try.prog (F80_95 f95 : Nat → Fn U R) g := (Fc_sound (h95 _ fz_sound) Fz_sound)
theorem lok80_95_2 {R : Type} (f95 : Y95) (h95 : ∀ rest : Fn U R, SoundF Try.prog 95 rest → SoundF Try.prog 95 (e95 f95 rest)) : LoopOk Try.prog (L80_95 (lp80_95_2 f95 big) : Hn U R) (lpAt Try.f80 0) :=
  hnd_ok uok (hF80_95 f95 h95) mixed (loops_of (ls := []) (by kernel_rfl) all_nil) (key := 2) (by kernel_rfl) (ws0 := wd80_95_2) (t := st80_95_2) (f := h80_95_2 (lp80_95_2 f95 big)) (ws := []) (keep := [4]) (fun σ k => by kernel_rfl) (n := big) (fun x k => (ll80_95_2 f95 (lp80_95_2 f95 big) x k big x).symm)
theorem q80_95 {R : Type} (f95 : Y95) (h95 : ∀ rest : Fn U R, SoundF Try.prog 95 rest → SoundF Try.prog 95 (e95 f95 rest)) {rest : Fn U R} (hr : SoundF Try.prog 80 rest) : SoundF Try.prog 80 (e80_95 (fun p0 => b80_95 f95 (lp80_95_2 f95 big) p0 some) rest) :=
  ent_sound uok mixed (fn := Try.f80) (by kernel_rfl) (by kernel_rfl) (hF80_95 f95 h95) (L := L80_95 (lp80_95_2 f95 big)) (fn_loops (ls := [lpAt Try.f80 0]) (by kernel_rfl) (all_cons (lok80_95_2 f95 h95) all_nil)) hr (fun x κ => (n80_95 f95 (lp80_95_2 f95 big) x.1.1 some _).trans (t80_95 f95 (lp80_95_2 f95 big) x κ).symm)
def F106 {R : Type} : Nat → Fn U R := Fz
def st106_2 : StT := ⟨[.c (.l 9), .c .s, .c .u, .c .u, .c .u, .c .u, .c .u, .c (.i .i64), .c (.i .i64), .c .u, .c .u, .c .u, .c .u, .c .u, .c .u, .c .u, .c .u, .c .u, .c .u], [], [], 0⟩
def h106_2 {R : Type} (l : Z106_2) : SX U st106_2 → (Out → St U → Option R) → Option R := fun x k => (l x.1.2.2.1 x.1.1 x.1.2.1 x.1.2.2.2.1).bind (Sum.elim (fun o => k .ret ⟨[.v (.c (.sl 9 x.1.1)), .v (.c (.str x.1.2.1)), ud, ud, .v (.c (.int .i64 o.2)), ud, ud, .v (.c (.int .i64 x.1.2.2.1)), .v (.c (.int .i64 o.1)), ud, ud, ud, ud, ud, ud, ud, ud, ud, ud], [], [], 0⟩) (fun o => k (.exit 0) ⟨[.v (.c (.sl 9 x.1.1)), .v (.c (.str x.1.2.1)), ud, ud, ud, ud, ud, .v (.c (.int .i64 x.1.2.2.1)), .v (.c (.int .i64 o)), ud, ud, ud, ud, ud, ud, ud, ud, ud, ud], [], [], 0⟩))
def wd106_2 : List Wd := [.drop 2, .drop 3, .drop 4, .drop 5, .drop 6, .drop 9, .drop 10, .drop 11, .drop 12, .drop 13, .drop 14, .drop 15, .drop 16, .drop 17, .drop 18]
def L106 {R : Type} (l2 : Z106_2) : Hn U R := fun key σ k => bif Nat.beq key 2 then hnd wd106_2 st106_2 (h106_2 l2) σ k else none
set_option maxRecDepth 100000 in
theorem tl106_2 {R : Type} (l2 : Z106_2) (x0 x : SX U st106_2) (k : Out → St U → Option R) (n : Nat) : loopN [4] [] (fun σ k => ev (F106) (L106 l2) (lpAt Try.f106 0) σ k) (fillSt st106_2 x0) k (n + 1) (fillSt st106_2 x)
    = lb106_2 x.1.2.2.1 x.1.1 x.1.2.1 (fun v8 => loopN [4] [] (fun σ k => ev (F106) (L106 l2) (lpAt Try.f106 0) σ k) (fillSt st106_2 x0) k n (fillSt st106_2 (((x.1.1, x.1.2.1, x.1.2.2.1, v8, ()), (), ()) : SX U st106_2))) (fun o => k .ret ⟨[.v (.c (.sl 9 x.1.1)), .v (.c (.str x.1.2.1)), ud, ud, .v (.c (.int .i64 o.2)), ud, ud, .v (.c (.int .i64 x.1.2.2.1)), .v (.c (.int .i64 o.1)), ud, ud, ud, ud, ud, ud, ud, ud, ud, ud], [], [], 0⟩) (fun o => k (.exit 0) ⟨[.v (.c (.sl 9 x.1.1)), .v (.c (.str x.1.2.1)), ud, ud, ud, ud, ud, .v (.c (.int .i64 x.1.2.2.1)), .v (.c (.int .i64 o)), ud, ud, ud, ud, ud, ud, ud, ud, ud, ud], [], [], 0⟩) x.1.2.2.2.1 := by kernel_rfl
theorem nb106_2 {R S : Type} (q7 : Int) (q5 : List ByteArray) (q6 : ByteArray) (c : Int → Option R) (e0 : (Int × Int) → Option R) (e1 : Int → Option R) (v8 : Int) (K : R → Option S) : (lb106_2 q7 q5 q6 c e0 e1 v8).bind K = lb106_2 q7 q5 q6 (fun v8 => (c v8).bind K) (fun o => (e0 o).bind K) (fun o => (e1 o).bind K) v8 := by
  unfold lb106_2
  simp only [bind_cond, bind_when, bind_elim, Option.bind_assoc, bind_none]
set_option maxHeartbeats 1000000 in
theorem ll106_2 {R : Type} (l2 : Z106_2) (x0 : SX U st106_2) (k : Out → St U → Option R) : ∀ (n : Nat) (x : SX U st106_2), loopN [4] [] (fun σ k => ev (F106) (L106 l2) (lpAt Try.f106 0) σ k) (fillSt st106_2 x0) k n (fillSt st106_2 x)
    = h106_2 (lp106_2 n) x k := by
  intro n
  induction n with
  | zero => intro x; kernel_rfl
  | succ n ih =>
    intro x
    have h2 := congrArg (fun c => lb106_2 x.1.2.2.1 x.1.1 x.1.2.1 c (fun o => k .ret ⟨[.v (.c (.sl 9 x.1.1)), .v (.c (.str x.1.2.1)), ud, ud, .v (.c (.int .i64 o.2)), ud, ud, .v (.c (.int .i64 x.1.2.2.1)), .v (.c (.int .i64 o.1)), ud, ud, ud, ud, ud, ud, ud, ud, ud, ud], [], [], 0⟩) (fun o => k (.exit 0) ⟨[.v (.c (.sl 9 x.1.1)), .v (.c (.str x.1.2.1)), ud, ud, ud, ud, ud, .v (.c (.int .i64 x.1.2.2.1)), .v (.c (.int .i64 o)), ud, ud, ud, ud, ud, ud, ud, ud, ud, ud], [], [], 0⟩) x.1.2.2.2.1) (funext fun v8 => ih (((x.1.1, x.1.2.1, x.1.2.2.1, v8, ()), (), ()) : SX U st106_2))
    exact kcast (by kernel_rfl) (chain3 (tl106_2 l2 x0 x k n) h2 (nb106_2 x.1.2.2.1 x.1.1 x.1.2.1 (fun v8 => lp106_2 n x.1.2.2.1 x.1.1 x.1.2.1 v8) (fun o => some (Sum.inl o)) (fun o => some (Sum.inr (o))) x.1.2.2.2.1 (Sum.elim (fun o => k .ret ⟨[.v (.c (.sl 9 x.1.1)), .v (.c (.str x.1.2.1)), ud, ud, .v (.c (.int .i64 o.2)), ud, ud, .v (.c (.int .i64 x.1.2.2.1)), .v (.c (.int .i64 o.1)), ud, ud, ud, ud, ud, ud, ud, ud, ud, ud], [], [], 0⟩) (fun o => k (.exit 0) ⟨[.v (.c (.sl 9 x.1.1)), .v (.c (.str x.1.2.1)), ud, ud, ud, ud, ud, .v (.c (.int .i64 x.1.2.2.1)), .v (.c (.int .i64 o)), ud, ud, ud, ud, ud, ud, ud, ud, ud, ud], [], [], 0⟩))).symm (by kernel_rfl) (by kernel_rfl))
theorem n106 {R S : Type} (l2 : Z106_2) (p0 : (List ByteArray)) (p1 : ByteArray) (k : Int → Option R) (K : R → Option S) : (b106 l2 p0 p1 k).bind K = b106 l2 p0 p1 (fun r => (k r).bind K) := by
  unfold b106
  simp only [bind_cond, bind_when, bind_elim, Option.bind_assoc, bind_none]
set_option maxRecDepth 100000 in
theorem t106 {R : Type} (l2 : Z106_2) (x : AX U tp106) (κ : U.D → List (List U.C) → Option R) : evFn (F106) (L106 l2) (U.ro 106) (U.rnew 106) Try.f106 (fillS tp106.a x.1) (fillB tp106.b x.2) κ
    = b106 l2 x.1.1 x.1.2.1 (fun r => κ (.v (.c (.int .i64 r))) []) := by kernel_rfl
theorem hF106 {R : Type} : ∀ g, Sound Try.prog (F106 : Nat → Fn U R) g := Fz_sound
theorem lok106_2 {R : Type} : LoopOk Try.prog (L106 (lp106_2 big) : Hn U R) (lpAt Try.f106 0) :=
  hnd_ok uok (hF106) mixed (loops_of (ls := []) (by kernel_rfl) all_nil) (key := 2) (by kernel_rfl) (ws0 := wd106_2) (t := st106_2) (f := h106_2 (lp106_2 big)) (ws := []) (keep := [4]) (fun σ k => by kernel_rfl) (n := big) (fun x k => (ll106_2 (lp106_2 big) x k big x).symm)
theorem q106 {R : Type} {rest : Fn U R} (hr : SoundF Try.prog 106 rest) : SoundF Try.prog 106 (e106 (fun p0 p1 => b106 (lp106_2 big) p0 p1 some) rest) :=
  ent_sound uok mixed (fn := Try.f106) (by kernel_rfl) (by kernel_rfl) (hF106) (L := L106 (lp106_2 big)) (fn_loops (ls := [lpAt Try.f106 0]) (by kernel_rfl) (all_cons (lok106_2) all_nil)) hr (fun x κ => (n106 (lp106_2 big) x.1.1 x.1.2.1 some _).trans (t106 (lp106_2 big) x κ).symm)
def F96 {R : Type} (f106 : Y106) : Nat → Fn U R := (Fc 106 (e106 f106 (Fz 106)) Fz)
def L96 {R : Type} : Hn U R := fun key σ k => none
theorem n96 {R S : Type} (f106 : Y106) (p0 : (List ByteArray)) (p1 : ByteArray) (k : Bool → Option R) (K : R → Option S) : (b96 f106 p0 p1 k).bind K = b96 f106 p0 p1 (fun r => (k r).bind K) := by
  unfold b96
  simp only [bind_cond, bind_when, bind_elim, Option.bind_assoc, bind_none]
set_option maxRecDepth 100000 in
theorem t96 {R : Type} (f106 : Y106) (x : AX U tp96) (κ : U.D → List (List U.C) → Option R) : evFn (F96 f106) (L96) (U.ro 96) (U.rnew 96) Try.f96 (fillS tp96.a x.1) (fillB tp96.b x.2) κ
    = b96 f106 x.1.1 x.1.2.1 (fun r => κ (.v (.c (.bool r))) []) := by kernel_rfl
theorem hF96 {R : Type} (f106 : Y106) (h106 : ∀ rest : Fn U R, SoundF Try.prog 106 rest → SoundF Try.prog 106 (e106 f106 rest)) : ∀ g, Sound Try.prog (F96 f106 : Nat → Fn U R) g := (Fc_sound (h106 _ fz_sound) Fz_sound)
theorem q96 {R : Type} (f106 : Y106) (h106 : ∀ rest : Fn U R, SoundF Try.prog 106 rest → SoundF Try.prog 106 (e106 f106 rest)) {rest : Fn U R} (hr : SoundF Try.prog 96 rest) : SoundF Try.prog 96 (e96 (fun p0 p1 => b96 f106 p0 p1 some) rest) :=
  ent_sound uok mixed (fn := Try.f96) (by kernel_rfl) (by kernel_rfl) (hF96 f106 h106) (L := L96) (fn_loops (ls := []) (by kernel_rfl) all_nil) hr (fun x κ => (n96 f106 x.1.1 x.1.2.1 some _).trans (t96 f106 x κ).symm)
def F97 {R : Type} (f107 : Y107) : Nat → Fn U R := (Fc 107 (e107 f107 (Fz 107)) Fz)
def L97 {R : Type} : Hn U R := fun key σ k => none
theorem n97 {R S : Type} (f107 : Y107) (p0 : ByteArray) (p1 : Int) (k : Int → Option R) (K : R → Option S) : (b97 f107 p0 p1 k).bind K = b97 f107 p0 p1 (fun r => (k r).bind K) := by
  unfold b97
  simp only [bind_cond, bind_when, bind_elim, Option.bind_assoc, bind_none]
set_option maxRecDepth 100000 in
theorem t97 {R : Type} (f107 : Y107) (x : AX U tp97) (κ : U.D → List (List U.C) → Option R) : evFn (F97 f107) (L97) (U.ro 97) (U.rnew 97) Try.f97 (fillS tp97.a x.1) (fillB tp97.b x.2) κ
    = b97 f107 x.1.1 x.1.2.1 (fun r => κ (.v (.c (.int .i64 r))) []) := by kernel_rfl
theorem hF97 {R : Type} (f107 : Y107) (h107 : ∀ rest : Fn U R, SoundF Try.prog 107 rest → SoundF Try.prog 107 (e107 f107 rest)) : ∀ g, Sound Try.prog (F97 f107 : Nat → Fn U R) g := (Fc_sound (h107 _ fz_sound) Fz_sound)
theorem q97 {R : Type} (f107 : Y107) (h107 : ∀ rest : Fn U R, SoundF Try.prog 107 rest → SoundF Try.prog 107 (e107 f107 rest)) {rest : Fn U R} (hr : SoundF Try.prog 97 rest) : SoundF Try.prog 97 (e97 (fun p0 p1 => b97 f107 p0 p1 some) rest) :=
  ent_sound uok mixed (fn := Try.f97) (by kernel_rfl) (by kernel_rfl) (hF97 f107 h107) (L := L97) (fn_loops (ls := []) (by kernel_rfl) all_nil) hr (fun x κ => (n97 f107 x.1.1 x.1.2.1 some _).trans (t97 f107 x κ).symm)
def F76 {R : Type} (f79 : Y79) (f80_82 : Y80_82) (f80_93 : Y80_93) (f80_94 : Y80_94) (f80_95 : Y80_95) (f82 : Y82) (f93 : Y93) (f96 : Y96) (f97 : Y97) : Nat → Fn U R := (Fc 79 (e79 f79 (Fz 79)) (Fc 80 (e80_82 f80_82 (e80_93 f80_93 (e80_94 f80_94 (e80_95 f80_95 (Fz 80))))) (Fc 82 (e82 f82 (Fz 82)) (Fc 93 (e93 f93 (Fz 93)) (Fc 96 (e96 f96 (Fz 96)) (Fc 97 (e97 f97 (Fz 97)) Fz))))))
def L76 {R : Type} : Hn U R := fun key σ k => none
theorem n76 {R S : Type} (f79 : Y79) (f80_82 : Y80_82) (f80_93 : Y80_93) (f80_94 : Y80_94) (f80_95 : Y80_95) (f82 : Y82) (f93 : Y93) (f96 : Y96) (f97 : Y97) (p0 : (List Int)) (k : (Int × Int) → Option R) (K : R → Option S) : (b76 f79 f80_82 f80_93 f80_94 f80_95 f82 f93 f96 f97 p0 k).bind K = b76 f79 f80_82 f80_93 f80_94 f80_95 f82 f93 f96 f97 p0 (fun r => (k r).bind K) := by
  unfold b76
  simp only [bind_cond, bind_when, bind_elim, Option.bind_assoc, bind_none]
set_option maxRecDepth 100000 in
theorem t76 {R : Type} (f79 : Y79) (f80_82 : Y80_82) (f80_93 : Y80_93) (f80_94 : Y80_94) (f80_95 : Y80_95) (f82 : Y82) (f93 : Y93) (f96 : Y96) (f97 : Y97) (x : AX U tp76) (κ : U.D → List (List U.C) → Option R) : evFn (F76 f79 f80_82 f80_93 f80_94 f80_95 f82 f93 f96 f97) (L76) (U.ro 76) (U.rnew 76) Try.f76 (fillS tp76.a x.1) (fillB tp76.b x.2) κ
    = b76 f79 f80_82 f80_93 f80_94 f80_95 f82 f93 f96 f97 x.1.1 (fun r => κ (.tup [.c (.int .i64 r.1), .c (.int .i64 r.2)]) []) := by kernel_rfl
theorem hF76 {R : Type} (f79 : Y79) (f80_82 : Y80_82) (f80_93 : Y80_93) (f80_94 : Y80_94) (f80_95 : Y80_95) (f82 : Y82) (f93 : Y93) (f96 : Y96) (f97 : Y97) (h79 : ∀ rest : Fn U R, SoundF Try.prog 79 rest → SoundF Try.prog 79 (e79 f79 rest)) (h80_82 : ∀ rest : Fn U R, SoundF Try.prog 80 rest → SoundF Try.prog 80 (e80_82 f80_82 rest)) (h80_93 : ∀ rest : Fn U R, SoundF Try.prog 80 rest → SoundF Try.prog 80 (e80_93 f80_93 rest)) (h80_94 : ∀ rest : Fn U R, SoundF Try.prog 80 rest → SoundF Try.prog 80 (e80_94 f80_94 rest)) (h80_95 : ∀ rest : Fn U R, SoundF Try.prog 80 rest → SoundF Try.prog 80 (e80_95 f80_95 rest)) (h82 : ∀ rest : Fn U R, SoundF Try.prog 82 rest → SoundF Try.prog 82 (e82 f82 rest)) (h93 : ∀ rest : Fn U R, SoundF Try.prog 93 rest → SoundF Try.prog 93 (e93 f93 rest)) (h96 : ∀ rest : Fn U R, SoundF Try.prog 96 rest → SoundF Try.prog 96 (e96 f96 rest)) (h97 : ∀ rest : Fn U R, SoundF Try.prog 97 rest → SoundF Try.prog 97 (e97 f97 rest)) : ∀ g, Sound Try.prog (F76 f79 f80_82 f80_93 f80_94 f80_95 f82 f93 f96 f97 : Nat → Fn U R) g := (Fc_sound (h79 _ fz_sound) (Fc_sound (h80_82 _ (h80_93 _ (h80_94 _ (h80_95 _ fz_sound)))) (Fc_sound (h82 _ fz_sound) (Fc_sound (h93 _ fz_sound) (Fc_sound (h96 _ fz_sound) (Fc_sound (h97 _ fz_sound) Fz_sound))))))
theorem q76 {R : Type} (f79 : Y79) (f80_82 : Y80_82) (f80_93 : Y80_93) (f80_94 : Y80_94) (f80_95 : Y80_95) (f82 : Y82) (f93 : Y93) (f96 : Y96) (f97 : Y97) (h79 : ∀ rest : Fn U R, SoundF Try.prog 79 rest → SoundF Try.prog 79 (e79 f79 rest)) (h80_82 : ∀ rest : Fn U R, SoundF Try.prog 80 rest → SoundF Try.prog 80 (e80_82 f80_82 rest)) (h80_93 : ∀ rest : Fn U R, SoundF Try.prog 80 rest → SoundF Try.prog 80 (e80_93 f80_93 rest)) (h80_94 : ∀ rest : Fn U R, SoundF Try.prog 80 rest → SoundF Try.prog 80 (e80_94 f80_94 rest)) (h80_95 : ∀ rest : Fn U R, SoundF Try.prog 80 rest → SoundF Try.prog 80 (e80_95 f80_95 rest)) (h82 : ∀ rest : Fn U R, SoundF Try.prog 82 rest → SoundF Try.prog 82 (e82 f82 rest)) (h93 : ∀ rest : Fn U R, SoundF Try.prog 93 rest → SoundF Try.prog 93 (e93 f93 rest)) (h96 : ∀ rest : Fn U R, SoundF Try.prog 96 rest → SoundF Try.prog 96 (e96 f96 rest)) (h97 : ∀ rest : Fn U R, SoundF Try.prog 97 rest → SoundF Try.prog 97 (e97 f97 rest)) {rest : Fn U R} (hr : SoundF Try.prog 76 rest) : SoundF Try.prog 76 (e76 (fun p0 => b76 f79 f80_82 f80_93 f80_94 f80_95 f82 f93 f96 f97 p0 some) rest) :=
  ent_sound uok mixed (fn := Try.f76) (by kernel_rfl) (by kernel_rfl) (hF76 f79 f80_82 f80_93 f80_94 f80_95 f82 f93 f96 f97 h79 h80_82 h80_93 h80_94 h80_95 h82 h93 h96 h97) (L := L76) (fn_loops (ls := []) (by kernel_rfl) all_nil) hr (fun x κ => (n76 f79 f80_82 f80_93 f80_94 f80_95 f82 f93 f96 f97 x.1.1 some _).trans (t76 f79 f80_82 f80_93 f80_94 f80_95 f82 f93 f96 f97 x κ).symm)
def F50 {R : Type} (f76 : Y76) : Nat → Fn U R := (Fc 76 (e76 f76 (Fz 76)) Fz)
def st50_3 : StT := ⟨[.c (.l 5), .c .u, .c .u, .c (.o 51 0), .c (.i .i64), .c .u, .c .u, .c .u, .c .u, .c .u, .c .u, .c .u, .c .u, .c .u, .c .u, .c .u, .c .u, .c .u, .c .u, .c .u, .c .u, .c .u, .c .u, .c .u, .c .u, .c .u, .c .u, .c .u, .c .u, .c .u, .c .u], [], [some 51], 0⟩
def h50_3 {R : Type} (l : Z50_3) : SX U st50_3 → (Out → St U → Option R) → Option R := fun x k => (l x.1.1 x.1.2.1 x.2.2.1).bind (fun o => k (.exit 0) ⟨[.v (.c (.sl 5 x.1.1)), ud, ud, .v (.c (.own 51 0)), .v (.c (.int .i64 o.1)), ud, ud, ud, ud, ud, ud, ud, ud, ud, ud, ud, ud, ud, ud, ud, ud, ud, ud, ud, ud, ud, ud, ud, ud, ud, ud], [], [some ⟨51, o.2⟩], 0⟩)
def wd50_3 : List Wd := [.drop 1, .drop 2, .drop 5, .drop 6, .drop 7, .drop 8, .drop 9, .drop 10, .drop 11, .drop 12, .drop 13, .drop 14, .drop 15, .drop 16, .drop 17, .drop 18, .drop 19, .drop 20, .drop 21, .drop 22, .drop 23, .drop 24, .drop 25, .drop 26, .drop 27, .drop 28, .drop 29, .drop 30, .own (.s 3) 51]
def L50 {R : Type} (l3 : Z50_3) : Hn U R := fun key σ k => bif Nat.beq key 3 then hnd wd50_3 st50_3 (h50_3 l3) σ k else none
set_option maxRecDepth 100000 in
theorem tl50_3 {R : Type} (f76 : Y76) (l3 : Z50_3) (x0 x : SX U st50_3) (k : Out → St U → Option R) (n : Nat) : loopN [2] [] (fun σ k => ev (F50 f76) (L50 l3) (lpAt Try.f50 0) σ k) (fillSt st50_3 x0) k (n + 1) (fillSt st50_3 x)
    = lb50_3 f76 x.1.1 (fun v9 v10 => loopN [2] [] (fun σ k => ev (F50 f76) (L50 l3) (lpAt Try.f50 0) σ k) (fillSt st50_3 x0) k n (fillSt st50_3 (((x.1.1, v9, ()), (), (v10, ())) : SX U st50_3))) (fun o => k (.exit 0) ⟨[.v (.c (.sl 5 x.1.1)), ud, ud, .v (.c (.own 51 0)), .v (.c (.int .i64 o.1)), ud, ud, ud, ud, ud, ud, ud, ud, ud, ud, ud, ud, ud, ud, ud, ud, ud, ud, ud, ud, ud, ud, ud, ud, ud, ud], [], [some ⟨51, o.2⟩], 0⟩) x.1.2.1 x.2.2.1 := by kernel_rfl
theorem nb50_3 {R S : Type} (f76 : Y76) (q8 : List Int) (c : Int → List S51 → Option R) (e0 : (Int × List S51) → Option R) (v9 : Int) (v10 : List S51) (K : R → Option S) : (lb50_3 f76 q8 c e0 v9 v10).bind K = lb50_3 f76 q8 (fun v9 v10 => (c v9 v10).bind K) (fun o => (e0 o).bind K) v9 v10 := by
  unfold lb50_3
  simp only [bind_cond, bind_when, bind_elim, Option.bind_assoc, bind_none]
set_option maxHeartbeats 1000000 in
theorem ll50_3 {R : Type} (f76 : Y76) (l3 : Z50_3) (x0 : SX U st50_3) (k : Out → St U → Option R) : ∀ (n : Nat) (x : SX U st50_3), loopN [2] [] (fun σ k => ev (F50 f76) (L50 l3) (lpAt Try.f50 0) σ k) (fillSt st50_3 x0) k n (fillSt st50_3 x)
    = h50_3 (lp50_3 f76 n) x k := by
  intro n
  induction n with
  | zero => intro x; kernel_rfl
  | succ n ih =>
    intro x
    have h2 := congrArg (fun c => lb50_3 f76 x.1.1 c (fun o => k (.exit 0) ⟨[.v (.c (.sl 5 x.1.1)), ud, ud, .v (.c (.own 51 0)), .v (.c (.int .i64 o.1)), ud, ud, ud, ud, ud, ud, ud, ud, ud, ud, ud, ud, ud, ud, ud, ud, ud, ud, ud, ud, ud, ud, ud, ud, ud, ud], [], [some ⟨51, o.2⟩], 0⟩) x.1.2.1 x.2.2.1) (funext fun v9 => (funext fun v10 => ih (((x.1.1, v9, ()), (), (v10, ())) : SX U st50_3)))
    exact kcast (by kernel_rfl) (chain3 (tl50_3 f76 l3 x0 x k n) h2 (nb50_3 f76 x.1.1 (fun v9 v10 => lp50_3 f76 n x.1.1 v9 v10) (fun o => some o) x.1.2.1 x.2.2.1 (fun o => k (.exit 0) ⟨[.v (.c (.sl 5 x.1.1)), ud, ud, .v (.c (.own 51 0)), .v (.c (.int .i64 o.1)), ud, ud, ud, ud, ud, ud, ud, ud, ud, ud, ud, ud, ud, ud, ud, ud, ud, ud, ud, ud, ud, ud, ud, ud, ud, ud], [], [some ⟨51, o.2⟩], 0⟩)).symm (by kernel_rfl) (by kernel_rfl))
theorem n50 {R S : Type} (f76 : Y76) (l3 : Z50_3) (p0 : (List Int)) (k : (List S51) → Option R) (K : R → Option S) : (b50 f76 l3 p0 k).bind K = b50 f76 l3 p0 (fun r => (k r).bind K) := by
  unfold b50
  simp only [bind_cond, bind_when, bind_elim, Option.bind_assoc, bind_none]
set_option maxRecDepth 100000 in
theorem t50 {R : Type} (f76 : Y76) (l3 : Z50_3) (x : AX U tp50) (κ : U.D → List (List U.C) → Option R) : evFn (F50 f76) (L50 l3) (U.ro 50) (U.rnew 50) Try.f50 (fillS tp50.a x.1) (fillB tp50.b x.2) κ
    = b50 f76 l3 x.1.1 (fun r => κ (.v (.c (.new 51 r))) []) := by kernel_rfl
theorem hF50 {R : Type} (f76 : Y76) (h76 : ∀ rest : Fn U R, SoundF Try.prog 76 rest → SoundF Try.prog 76 (e76 f76 rest)) : ∀ g, Sound Try.prog (F50 f76 : Nat → Fn U R) g := (Fc_sound (h76 _ fz_sound) Fz_sound)
theorem lok50_3 {R : Type} (f76 : Y76) (h76 : ∀ rest : Fn U R, SoundF Try.prog 76 rest → SoundF Try.prog 76 (e76 f76 rest)) : LoopOk Try.prog (L50 (lp50_3 f76 big) : Hn U R) (lpAt Try.f50 0) :=
  hnd_ok uok (hF50 f76 h76) mixed (loops_of (ls := []) (by kernel_rfl) all_nil) (key := 3) (by kernel_rfl) (ws0 := wd50_3) (t := st50_3) (f := h50_3 (lp50_3 f76 big)) (ws := []) (keep := [2]) (fun σ k => by kernel_rfl) (n := big) (fun x k => (ll50_3 f76 (lp50_3 f76 big) x k big x).symm)
theorem q50 {R : Type} (f76 : Y76) (h76 : ∀ rest : Fn U R, SoundF Try.prog 76 rest → SoundF Try.prog 76 (e76 f76 rest)) {rest : Fn U R} (hr : SoundF Try.prog 50 rest) : SoundF Try.prog 50 (e50 (fun p0 => b50 f76 (lp50_3 f76 big) p0 some) rest) :=
  ent_sound uok mixed (fn := Try.f50) (by kernel_rfl) (by kernel_rfl) (hF50 f76 h76) (L := L50 (lp50_3 f76 big)) (fn_loops (ls := [lpAt Try.f50 0]) (by kernel_rfl) (all_cons (lok50_3 f76 h76) all_nil)) hr (fun x κ => (n50 f76 (lp50_3 f76 big) x.1.1 some _).trans (t50 f76 (lp50_3 f76 big) x κ).symm)
def F57 {R : Type} : Nat → Fn U R := Fz
def st57_3 : StT := ⟨[.c .u, .c .u, .c .u, .c (.o 51 0), .c .u, .c .u, .c (.l 51), .c (.i .i64), .c (.i .i64), .c .u, .c .u, .c .u, .c .u, .c .u, .c .u, .c .u, .c .u, .c .u, .c .u, .c .u, .c .u, .c .u, .c .u, .c .u, .c .u, .c .u], [], [some 51], 0⟩
def h57_3 {R : Type} (l : Z57_3) : SX U st57_3 → (Out → St U → Option R) → Option R := fun x k => (l x.1.2.1 x.1.1 x.1.2.2.1 x.2.2.1).bind (fun o => k (.exit 0) ⟨[ud, ud, ud, .v (.c (.own 51 0)), ud, ud, .v (.c (.sl 51 x.1.1)), .v (.c (.int .i64 x.1.2.1)), .v (.c (.int .i64 o.1)), ud, ud, ud, ud, ud, ud, ud, ud, ud, ud, ud, ud, ud, ud, ud, ud, ud], [], [some ⟨51, o.2⟩], 0⟩)
def wd57_3 : List Wd := [.drop 0, .drop 1, .drop 2, .drop 4, .drop 5, .drop 9, .drop 10, .drop 11, .drop 12, .drop 13, .drop 14, .drop 15, .drop 16, .drop 17, .drop 18, .drop 19, .drop 20, .drop 21, .drop 22, .drop 23, .drop 24, .drop 25, .own (.s 3) 51]
def L57 {R : Type} (l3 : Z57_3) : Hn U R := fun key σ k => bif Nat.beq key 3 then hnd wd57_3 st57_3 (h57_3 l3) σ k else none
set_option maxRecDepth 100000 in
theorem tl57_3 {R : Type} (l3 : Z57_3) (x0 x : SX U st57_3) (k : Out → St U → Option R) (n : Nat) : loopN [2] [] (fun σ k => ev (F57) (L57 l3) (lpAt Try.f57 0) σ k) (fillSt st57_3 x0) k (n + 1) (fillSt st57_3 x)
    = lb57_3 x.1.2.1 x.1.1 (fun v10 v11 => loopN [2] [] (fun σ k => ev (F57) (L57 l3) (lpAt Try.f57 0) σ k) (fillSt st57_3 x0) k n (fillSt st57_3 (((x.1.1, x.1.2.1, v10, ()), (), (v11, ())) : SX U st57_3))) (fun o => k (.exit 0) ⟨[ud, ud, ud, .v (.c (.own 51 0)), ud, ud, .v (.c (.sl 51 x.1.1)), .v (.c (.int .i64 x.1.2.1)), .v (.c (.int .i64 o.1)), ud, ud, ud, ud, ud, ud, ud, ud, ud, ud, ud, ud, ud, ud, ud, ud, ud], [], [some ⟨51, o.2⟩], 0⟩) x.1.2.2.1 x.2.2.1 := by kernel_rfl
theorem nb57_3 {R S : Type} (q9 : Int) (q8 : List S51) (c : Int → List S51 → Option R) (e0 : (Int × List S51) → Option R) (v10 : Int) (v11 : List S51) (K : R → Option S) : (lb57_3 q9 q8 c e0 v10 v11).bind K = lb57_3 q9 q8 (fun v10 v11 => (c v10 v11).bind K) (fun o => (e0 o).bind K) v10 v11 := by
  unfold lb57_3
  simp only [bind_cond, bind_when, bind_elim, Option.bind_assoc, bind_none]
set_option maxHeartbeats 1000000 in
theorem ll57_3 {R : Type} (l3 : Z57_3) (x0 : SX U st57_3) (k : Out → St U → Option R) : ∀ (n : Nat) (x : SX U st57_3), loopN [2] [] (fun σ k => ev (F57) (L57 l3) (lpAt Try.f57 0) σ k) (fillSt st57_3 x0) k n (fillSt st57_3 x)
    = h57_3 (lp57_3 n) x k := by
  intro n
  induction n with
  | zero => intro x; kernel_rfl
  | succ n ih =>
    intro x
    have h2 := congrArg (fun c => lb57_3 x.1.2.1 x.1.1 c (fun o => k (.exit 0) ⟨[ud, ud, ud, .v (.c (.own 51 0)), ud, ud, .v (.c (.sl 51 x.1.1)), .v (.c (.int .i64 x.1.2.1)), .v (.c (.int .i64 o.1)), ud, ud, ud, ud, ud, ud, ud, ud, ud, ud, ud, ud, ud, ud, ud, ud, ud], [], [some ⟨51, o.2⟩], 0⟩) x.1.2.2.1 x.2.2.1) (funext fun v10 => (funext fun v11 => ih (((x.1.1, x.1.2.1, v10, ()), (), (v11, ())) : SX U st57_3)))
    exact kcast (by kernel_rfl) (chain3 (tl57_3 l3 x0 x k n) h2 (nb57_3 x.1.2.1 x.1.1 (fun v10 v11 => lp57_3 n x.1.2.1 x.1.1 v10 v11) (fun o => some o) x.1.2.2.1 x.2.2.1 (fun o => k (.exit 0) ⟨[ud, ud, ud, .v (.c (.own 51 0)), ud, ud, .v (.c (.sl 51 x.1.1)), .v (.c (.int .i64 x.1.2.1)), .v (.c (.int .i64 o.1)), ud, ud, ud, ud, ud, ud, ud, ud, ud, ud, ud, ud, ud, ud, ud, ud, ud], [], [some ⟨51, o.2⟩], 0⟩)).symm (by kernel_rfl) (by kernel_rfl))
theorem n57 {R S : Type} (l3 : Z57_3) (p0 : (List S51)) (k : (List S51) → Option R) (K : R → Option S) : (b57 l3 p0 k).bind K = b57 l3 p0 (fun r => (k r).bind K) := by
  unfold b57
  simp only [bind_cond, bind_when, bind_elim, Option.bind_assoc, bind_none]
set_option maxRecDepth 100000 in
theorem t57 {R : Type} (l3 : Z57_3) (x : AX U tp57) (κ : U.D → List (List U.C) → Option R) : evFn (F57) (L57 l3) (U.ro 57) (U.rnew 57) Try.f57 (fillS tp57.a x.1) (fillB tp57.b x.2) κ
    = b57 l3 x.1.1 (fun r => κ (.v (.c (.new 51 r))) []) := by kernel_rfl
theorem hF57 {R : Type} : ∀ g, Sound Try.prog (F57 : Nat → Fn U R) g := Fz_sound
theorem lok57_3 {R : Type} : LoopOk Try.prog (L57 (lp57_3 big) : Hn U R) (lpAt Try.f57 0) :=
  hnd_ok uok (hF57) mixed (loops_of (ls := []) (by kernel_rfl) all_nil) (key := 3) (by kernel_rfl) (ws0 := wd57_3) (t := st57_3) (f := h57_3 (lp57_3 big)) (ws := []) (keep := [2]) (fun σ k => by kernel_rfl) (n := big) (fun x k => (ll57_3 (lp57_3 big) x k big x).symm)
theorem q57 {R : Type} {rest : Fn U R} (hr : SoundF Try.prog 57 rest) : SoundF Try.prog 57 (e57 (fun p0 => b57 (lp57_3 big) p0 some) rest) :=
  ent_sound uok mixed (fn := Try.f57) (by kernel_rfl) (by kernel_rfl) (hF57) (L := L57 (lp57_3 big)) (fn_loops (ls := [lpAt Try.f57 0]) (by kernel_rfl) (all_cons (lok57_3) all_nil)) hr (fun x κ => (n57 (lp57_3 big) x.1.1 some _).trans (t57 (lp57_3 big) x κ).symm)
def F22 {R : Type} (f50 : Y50) (f56 : Y56) (f57 : Y57) : Nat → Fn U R := (Fc 50 (e50 f50 (Fz 50)) (Fc 56 (e56 f56 (Fz 56)) (Fc 57 (e57 f57 (Fz 57)) Fz)))
def L22 {R : Type} : Hn U R := fun key σ k => none
theorem n22 {R S : Type} (f50 : Y50) (f56 : Y56) (f57 : Y57) (p0 : (List Int)) (k : S98 → Option R) (K : R → Option S) : (b22 f50 f56 f57 p0 k).bind K = b22 f50 f56 f57 p0 (fun r => (k r).bind K) := by
  unfold b22
  simp only [bind_cond, bind_when, bind_elim, Option.bind_assoc, bind_none]
set_option maxRecDepth 100000 in
theorem t22 {R : Type} (f50 : Y50) (f56 : Y56) (f57 : Y57) (x : AX U tp22) (κ : U.D → List (List U.C) → Option R) : evFn (F22 f50 f56 f57) (L22) (U.ro 22) (U.rnew 22) Try.f22 (fillS tp22.a x.1) (fillB tp22.b x.2) κ
    = b22 f50 f56 f57 x.1.1 (fun r => κ (.v (.c (.ptr 0 0))) [[.sl 5 r.c0, .sl 51 r.c1, .int .i64 r.c2, .int .i64 r.c3]]) := by kernel_rfl
theorem hF22 {R : Type} (f50 : Y50) (f56 : Y56) (f57 : Y57) (h50 : ∀ rest : Fn U R, SoundF Try.prog 50 rest → SoundF Try.prog 50 (e50 f50 rest)) (h56 : ∀ rest : Fn U R, SoundF Try.prog 56 rest → SoundF Try.prog 56 (e56 f56 rest)) (h57 : ∀ rest : Fn U R, SoundF Try.prog 57 rest → SoundF Try.prog 57 (e57 f57 rest)) : ∀ g, Sound Try.prog (F22 f50 f56 f57 : Nat → Fn U R) g := (Fc_sound (h50 _ fz_sound) (Fc_sound (h56 _ fz_sound) (Fc_sound (h57 _ fz_sound) Fz_sound)))
theorem q22 {R : Type} (f50 : Y50) (f56 : Y56) (f57 : Y57) (h50 : ∀ rest : Fn U R, SoundF Try.prog 50 rest → SoundF Try.prog 50 (e50 f50 rest)) (h56 : ∀ rest : Fn U R, SoundF Try.prog 56 rest → SoundF Try.prog 56 (e56 f56 rest)) (h57 : ∀ rest : Fn U R, SoundF Try.prog 57 rest → SoundF Try.prog 57 (e57 f57 rest)) {rest : Fn U R} (hr : SoundF Try.prog 22 rest) : SoundF Try.prog 22 (e22 (fun p0 => b22 f50 f56 f57 p0 some) rest) :=
  ent_sound uok mixed (fn := Try.f22) (by kernel_rfl) (by kernel_rfl) (hF22 f50 f56 f57 h50 h56 h57) (L := L22) (fn_loops (ls := []) (by kernel_rfl) all_nil) hr (fun x κ => (n22 f50 f56 f57 x.1.1 some _).trans (t22 f50 f56 f57 x κ).symm)
def F29 {R : Type} : Nat → Fn U R := Fz
def L29 {R : Type} : Hn U R := fun key σ k => none
theorem n29 {R S : Type} (p0 : S98) (k : Bool → Option R) (K : R → Option S) : (b29 p0 k).bind K = b29 p0 (fun r => (k r).bind K) := by
  unfold b29
  simp only [bind_cond, bind_when, bind_elim, Option.bind_assoc, bind_none]
set_option maxRecDepth 100000 in
theorem t29 {R : Type} (x : AX U tp29) (κ : U.D → List (List U.C) → Option R) : evFn (F29) (L29) (U.ro 29) (U.rnew 29) Try.f29 (fillS tp29.a x.1) (fillB tp29.b x.2) κ
    = b29 (⟨x.2.1.1, x.2.1.2.1, x.2.1.2.2.1, x.2.1.2.2.2.1⟩ : S98) (fun r => κ (.v (.c (.bool r))) (fillB tp29.b x.2)) := by kernel_rfl
theorem hF29 {R : Type} : ∀ g, Sound Try.prog (F29 : Nat → Fn U R) g := Fz_sound
theorem q29 {R : Type} {rest : Fn U R} (hr : SoundF Try.prog 29 rest) : SoundF Try.prog 29 (e29 (fun p0 => b29 p0 some) rest) :=
  ent_sound uok mixed (fn := Try.f29) (by kernel_rfl) (by kernel_rfl) (hF29) (L := L29) (fn_loops (ls := []) (by kernel_rfl) all_nil) hr (fun x κ => (n29 (⟨x.2.1.1, x.2.1.2.1, x.2.1.2.2.1, x.2.1.2.2.2.1⟩ : S98) some _).trans (t29 x κ).symm)
def F26 {R : Type} (f29 : Y29) : Nat → Fn U R := (Fc 29 (e29 f29 (Fz 29)) Fz)
def L26 {R : Type} : Hn U R := fun key σ k => none
theorem n26 {R S : Type} (f29 : Y29) (p0 : S98) (k : Int → Option R) (K : R → Option S) : (b26 f29 p0 k).bind K = b26 f29 p0 (fun r => (k r).bind K) := by
  unfold b26
  simp only [bind_cond, bind_when, bind_elim, Option.bind_assoc, bind_none]
set_option maxRecDepth 100000 in
theorem t26 {R : Type} (f29 : Y29) (x : AX U tp26) (κ : U.D → List (List U.C) → Option R) : evFn (F26 f29) (L26) (U.ro 26) (U.rnew 26) Try.f26 (fillS tp26.a x.1) (fillB tp26.b x.2) κ
    = b26 f29 (⟨x.2.1.1, x.2.1.2.1, x.2.1.2.2.1, x.2.1.2.2.2.1⟩ : S98) (fun r => κ (.v (.c (.int .i64 r))) (fillB tp26.b x.2)) := by kernel_rfl
theorem hF26 {R : Type} (f29 : Y29) (h29 : ∀ rest : Fn U R, SoundF Try.prog 29 rest → SoundF Try.prog 29 (e29 f29 rest)) : ∀ g, Sound Try.prog (F26 f29 : Nat → Fn U R) g := (Fc_sound (h29 _ fz_sound) Fz_sound)
theorem q26 {R : Type} (f29 : Y29) (h29 : ∀ rest : Fn U R, SoundF Try.prog 29 rest → SoundF Try.prog 29 (e29 f29 rest)) {rest : Fn U R} (hr : SoundF Try.prog 26 rest) : SoundF Try.prog 26 (e26 (fun p0 => b26 f29 p0 some) rest) :=
  ent_sound uok mixed (fn := Try.f26) (by kernel_rfl) (by kernel_rfl) (hF26 f29 h29) (L := L26) (fn_loops (ls := []) (by kernel_rfl) all_nil) hr (fun x κ => (n26 f29 (⟨x.2.1.1, x.2.1.2.1, x.2.1.2.2.1, x.2.1.2.2.2.1⟩ : S98) some _).trans (t26 f29 x κ).symm)
def F58 {R : Type} : Nat → Fn U R := Fz
def L58 {R : Type} : Hn U R := fun key σ k => none
theorem n58 {R S : Type} (p0 : (List Int)) (p1 : S51) (k : ByteArray → Option R) (K : R → Option S) : (b58 p0 p1 k).bind K = b58 p0 p1 (fun r => (k r).bind K) := by
  unfold b58
  simp only [bind_cond, bind_when, bind_elim, Option.bind_assoc, bind_none]
set_option maxRecDepth 100000 in
theorem t58 {R : Type} (x : AX U tp58) (κ : U.D → List (List U.C) → Option R) : evFn (F58) (L58) (U.ro 58) (U.rnew 58) Try.f58 (fillS tp58.a x.1) (fillB tp58.b x.2) κ
    = b58 x.1.1 (⟨x.1.2.1.1, x.1.2.1.2.1, x.1.2.1.2.2.1⟩ : S51) (fun r => κ (.v (.c (.str r))) []) := by kernel_rfl
theorem hF58 {R : Type} : ∀ g, Sound Try.prog (F58 : Nat → Fn U R) g := Fz_sound
theorem q58 {R : Type} {rest : Fn U R} (hr : SoundF Try.prog 58 rest) : SoundF Try.prog 58 (e58 (fun p0 p1 => b58 p0 p1 some) rest) :=
  ent_sound uok mixed (fn := Try.f58) (by kernel_rfl) (by kernel_rfl) (hF58) (L := L58) (fn_loops (ls := []) (by kernel_rfl) all_nil) hr (fun x κ => (n58 x.1.1 (⟨x.1.2.1.1, x.1.2.1.2.1, x.1.2.1.2.2.1⟩ : S51) some _).trans (t58 x κ).symm)
def F25 {R : Type} (f29 : Y29) (f58 : Y58) : Nat → Fn U R := (Fc 29 (e29 f29 (Fz 29)) (Fc 58 (e58 f58 (Fz 58)) Fz))
def L25 {R : Type} : Hn U R := fun key σ k => none
theorem n25 {R S : Type} (f29 : Y29) (f58 : Y58) (p0 : S98) (k : ByteArray → Option R) (K : R → Option S) : (b25 f29 f58 p0 k).bind K = b25 f29 f58 p0 (fun r => (k r).bind K) := by
  unfold b25
  simp only [bind_cond, bind_when, bind_elim, Option.bind_assoc, bind_none]
set_option maxRecDepth 100000 in
theorem t25 {R : Type} (f29 : Y29) (f58 : Y58) (x : AX U tp25) (κ : U.D → List (List U.C) → Option R) : evFn (F25 f29 f58) (L25) (U.ro 25) (U.rnew 25) Try.f25 (fillS tp25.a x.1) (fillB tp25.b x.2) κ
    = b25 f29 f58 (⟨x.2.1.1, x.2.1.2.1, x.2.1.2.2.1, x.2.1.2.2.2.1⟩ : S98) (fun r => κ (.v (.c (.str r))) (fillB tp25.b x.2)) := by kernel_rfl
theorem hF25 {R : Type} (f29 : Y29) (f58 : Y58) (h29 : ∀ rest : Fn U R, SoundF Try.prog 29 rest → SoundF Try.prog 29 (e29 f29 rest)) (h58 : ∀ rest : Fn U R, SoundF Try.prog 58 rest → SoundF Try.prog 58 (e58 f58 rest)) : ∀ g, Sound Try.prog (F25 f29 f58 : Nat → Fn U R) g := (Fc_sound (h29 _ fz_sound) (Fc_sound (h58 _ fz_sound) Fz_sound))
theorem q25 {R : Type} (f29 : Y29) (f58 : Y58) (h29 : ∀ rest : Fn U R, SoundF Try.prog 29 rest → SoundF Try.prog 29 (e29 f29 rest)) (h58 : ∀ rest : Fn U R, SoundF Try.prog 58 rest → SoundF Try.prog 58 (e58 f58 rest)) {rest : Fn U R} (hr : SoundF Try.prog 25 rest) : SoundF Try.prog 25 (e25 (fun p0 => b25 f29 f58 p0 some) rest) :=
  ent_sound uok mixed (fn := Try.f25) (by kernel_rfl) (by kernel_rfl) (hF25 f29 f58 h29 h58) (L := L25) (fn_loops (ls := []) (by kernel_rfl) all_nil) hr (fun x κ => (n25 f29 f58 (⟨x.2.1.1, x.2.1.2.1, x.2.1.2.2.1, x.2.1.2.2.2.1⟩ : S98) some _).trans (t25 f29 f58 x κ).symm)
def F30 {R : Type} (f25 : Y25) : Nat → Fn U R := (Fc 25 (e25 f25 (Fz 25)) Fz)
def L30 {R : Type} : Hn U R := fun key σ k => none
theorem n30 {R S : Type} (f25 : Y25) (p1 : ByteArray) (p0 : S98) (k : (Bool × S98) → Option R) (K : R → Option S) : (b30 f25 p1 p0 k).bind K = b30 f25 p1 p0 (fun r => (k r).bind K) := by
  unfold b30
  simp only [bind_cond, bind_when, bind_elim, Option.bind_assoc, bind_none]
set_option maxRecDepth 100000 in
theorem t30 {R : Type} (f25 : Y25) (x : AX U tp30) (κ : U.D → List (List U.C) → Option R) : evFn (F30 f25) (L30) (U.ro 30) (U.rnew 30) Try.f30 (fillS tp30.a x.1) (fillB tp30.b x.2) κ
    = b30 f25 x.1.1 (⟨x.2.1.1, x.2.1.2.1, x.2.1.2.2.1, x.2.1.2.2.2.1⟩ : S98) (fun r => κ (.v (.c (.bool r.1))) [[.sl 5 r.2.c0, .sl 51 r.2.c1, .int .i64 r.2.c2, .int .i64 r.2.c3]]) := by kernel_rfl
theorem hF30 {R : Type} (f25 : Y25) (h25 : ∀ rest : Fn U R, SoundF Try.prog 25 rest → SoundF Try.prog 25 (e25 f25 rest)) : ∀ g, Sound Try.prog (F30 f25 : Nat → Fn U R) g := (Fc_sound (h25 _ fz_sound) Fz_sound)
theorem q30 {R : Type} (f25 : Y25) (h25 : ∀ rest : Fn U R, SoundF Try.prog 25 rest → SoundF Try.prog 25 (e25 f25 rest)) {rest : Fn U R} (hr : SoundF Try.prog 30 rest) : SoundF Try.prog 30 (e30 (fun p1 p0 => b30 f25 p1 p0 some) rest) :=
  entw_sound uok mixed (by kernel_rfl) (fn := Try.f30) (by kernel_rfl) (by kernel_rfl) (hF30 f25 h25) (L := L30) (fn_loops (ls := []) (by kernel_rfl) all_nil) hr (fun x κ => (n30 f25 x.1.1 (⟨x.2.1.1, x.2.1.2.1, x.2.1.2.2.1, x.2.1.2.2.2.1⟩ : S98) some _).trans (t30 f25 x κ).symm)
def F78 {R : Type} : Nat → Fn U R := Fz
def L78 {R : Type} : Hn U R := fun key σ k => none
theorem n78 {R S : Type} (p0 : ByteArray) (k : Bool → Option R) (K : R → Option S) : (b78 p0 k).bind K = b78 p0 (fun r => (k r).bind K) := by
  unfold b78
  simp only [bind_cond, bind_when, bind_elim, Option.bind_assoc, bind_none]
set_option maxRecDepth 100000 in
theorem t78 {R : Type} (x : AX U tp78) (κ : U.D → List (List U.C) → Option R) : evFn (F78) (L78) (U.ro 78) (U.rnew 78) Try.f78 (fillS tp78.a x.1) (fillB tp78.b x.2) κ
    = b78 x.1.1 (fun r => κ (.v (.c (.bool r))) []) := by kernel_rfl
theorem hF78 {R : Type} : ∀ g, Sound Try.prog (F78 : Nat → Fn U R) g := Fz_sound
theorem q78 {R : Type} {rest : Fn U R} (hr : SoundF Try.prog 78 rest) : SoundF Try.prog 78 (e78 (fun p0 => b78 p0 some) rest) :=
  ent_sound uok mixed (fn := Try.f78) (by kernel_rfl) (by kernel_rfl) (hF78) (L := L78) (fn_loops (ls := []) (by kernel_rfl) all_nil) hr (fun x κ => (n78 x.1.1 some _).trans (t78 x κ).symm)
def F81 {R : Type} (f79 : Y79) (f82 : Y82) : Nat → Fn U R := (Fc 79 (e79 f79 (Fz 79)) (Fc 82 (e82 f82 (Fz 82)) Fz))
def L81 {R : Type} : Hn U R := fun key σ k => none
theorem n81 {R S : Type} (f79 : Y79) (f82 : Y82) (p0 : Int) (k : Bool → Option R) (K : R → Option S) : (b81 f79 f82 p0 k).bind K = b81 f79 f82 p0 (fun r => (k r).bind K) := by
  unfold b81
  simp only [bind_cond, bind_when, bind_elim, Option.bind_assoc, bind_none]
set_option maxRecDepth 100000 in
theorem t81 {R : Type} (f79 : Y79) (f82 : Y82) (x : AX U tp81) (κ : U.D → List (List U.C) → Option R) : evFn (F81 f79 f82) (L81) (U.ro 81) (U.rnew 81) Try.f81 (fillS tp81.a x.1) (fillB tp81.b x.2) κ
    = b81 f79 f82 x.1.1 (fun r => κ (.v (.c (.bool r))) []) := by kernel_rfl
theorem hF81 {R : Type} (f79 : Y79) (f82 : Y82) (h79 : ∀ rest : Fn U R, SoundF Try.prog 79 rest → SoundF Try.prog 79 (e79 f79 rest)) (h82 : ∀ rest : Fn U R, SoundF Try.prog 82 rest → SoundF Try.prog 82 (e82 f82 rest)) : ∀ g, Sound Try.prog (F81 f79 f82 : Nat → Fn U R) g := (Fc_sound (h79 _ fz_sound) (Fc_sound (h82 _ fz_sound) Fz_sound))
theorem q81 {R : Type} (f79 : Y79) (f82 : Y82) (h79 : ∀ rest : Fn U R, SoundF Try.prog 79 rest → SoundF Try.prog 79 (e79 f79 rest)) (h82 : ∀ rest : Fn U R, SoundF Try.prog 82 rest → SoundF Try.prog 82 (e82 f82 rest)) {rest : Fn U R} (hr : SoundF Try.prog 81 rest) : SoundF Try.prog 81 (e81 (fun p0 => b81 f79 f82 p0 some) rest) :=
  ent_sound uok mixed (fn := Try.f81) (by kernel_rfl) (by kernel_rfl) (hF81 f79 f82 h79 h82) (L := L81) (fn_loops (ls := []) (by kernel_rfl) all_nil) hr (fun x κ => (n81 f79 f82 x.1.1 some _).trans (t81 f79 f82 x κ).symm)
def F80_81 {R : Type} (f81 : Y81) : Nat → Fn U R := (Fc 81 (e81 f81 (Fz 81)) Fz)
def st80_81_2 : StT := ⟨[.c (.l 5), .c (.fn 81), .c .u, .c .u, .c .u, .c (.i .i64), .c .u, .c .u, .c .u, .c .u, .c .u, .c .u, .c .u, .c .u, .c .u, .c .u, .c .u, .c .u, .c .u, .c .u, .c .u], [], [], 0⟩
def h80_81_2 {R : Type} (l : Z80_81_2) : SX U st80_81_2 → (Out → St U → Option R) → Option R := fun x k => (l x.1.1 x.1.2.1).bind (fun o => k (.exit 0) ⟨[.v (.c (.sl 5 x.1.1)), .v (.c (.fn 81)), ud, ud, ud, .v (.c (.int .i64 o)), ud, ud, ud, ud, ud, ud, ud, ud, ud, ud, ud, ud, ud, ud, ud], [], [], 0⟩)
def wd80_81_2 : List Wd := [.drop 2, .drop 3, .drop 4, .drop 6, .drop 7, .drop 8, .drop 9, .drop 10, .drop 11, .drop 12, .drop 13, .drop 14, .drop 15, .drop 16, .drop 17, .drop 18, .drop 19, .drop 20]
def L80_81 {R : Type} (l2 : Z80_81_2) : Hn U R := fun key σ k => bif Nat.beq key 2 then hnd wd80_81_2 st80_81_2 (h80_81_2 l2) σ k else none
set_option maxRecDepth 100000 in
theorem tl80_81_2 {R : Type} (f81 : Y81) (l2 : Z80_81_2) (x0 x : SX U st80_81_2) (k : Out → St U → Option R) (n : Nat) : loopN [4] [] (fun σ k => ev (F80_81 f81) (L80_81 l2) (lpAt Try.f80 0) σ k) (fillSt st80_81_2 x0) k (n + 1) (fillSt st80_81_2 x)
    = lb80_81_2 f81 x.1.1 (fun v5 => loopN [4] [] (fun σ k => ev (F80_81 f81) (L80_81 l2) (lpAt Try.f80 0) σ k) (fillSt st80_81_2 x0) k n (fillSt st80_81_2 (((x.1.1, v5, ()), (), ()) : SX U st80_81_2))) (fun o => k (.exit 0) ⟨[.v (.c (.sl 5 x.1.1)), .v (.c (.fn 81)), ud, ud, ud, .v (.c (.int .i64 o)), ud, ud, ud, ud, ud, ud, ud, ud, ud, ud, ud, ud, ud, ud, ud], [], [], 0⟩) x.1.2.1 := by kernel_rfl
theorem nb80_81_2 {R S : Type} (f81 : Y81) (q4 : List Int) (c : Int → Option R) (e0 : Int → Option R) (v5 : Int) (K : R → Option S) : (lb80_81_2 f81 q4 c e0 v5).bind K = lb80_81_2 f81 q4 (fun v5 => (c v5).bind K) (fun o => (e0 o).bind K) v5 := by
  unfold lb80_81_2
  simp only [bind_cond, bind_when, bind_elim, Option.bind_assoc, bind_none]
set_option maxHeartbeats 1000000 in
theorem ll80_81_2 {R : Type} (f81 : Y81) (l2 : Z80_81_2) (x0 : SX U st80_81_2) (k : Out → St U → Option R) : ∀ (n : Nat) (x : SX U st80_81_2), loopN [4] [] (fun σ k => ev (F80_81 f81) (L80_81 l2) (lpAt Try.f80 0) σ k) (fillSt st80_81_2 x0) k n (fillSt st80_81_2 x)
    = h80_81_2 (lp80_81_2 f81 n) x k := by
  intro n
  induction n with
  | zero => intro x; kernel_rfl
  | succ n ih =>
    intro x
    have h2 := congrArg (fun c => lb80_81_2 f81 x.1.1 c (fun o => k (.exit 0) ⟨[.v (.c (.sl 5 x.1.1)), .v (.c (.fn 81)), ud, ud, ud, .v (.c (.int .i64 o)), ud, ud, ud, ud, ud, ud, ud, ud, ud, ud, ud, ud, ud, ud, ud], [], [], 0⟩) x.1.2.1) (funext fun v5 => ih (((x.1.1, v5, ()), (), ()) : SX U st80_81_2))
    exact kcast (by kernel_rfl) (chain3 (tl80_81_2 f81 l2 x0 x k n) h2 (nb80_81_2 f81 x.1.1 (fun v5 => lp80_81_2 f81 n x.1.1 v5) (fun o => some o) x.1.2.1 (fun o => k (.exit 0) ⟨[.v (.c (.sl 5 x.1.1)), .v (.c (.fn 81)), ud, ud, ud, .v (.c (.int .i64 o)), ud, ud, ud, ud, ud, ud, ud, ud, ud, ud, ud, ud, ud, ud, ud], [], [], 0⟩)).symm (by kernel_rfl) (by kernel_rfl))
theorem n80_81 {R S : Type} (f81 : Y81) (l2 : Z80_81_2) (p0 : (List Int)) (k : Int → Option R) (K : R → Option S) : (b80_81 f81 l2 p0 k).bind K = b80_81 f81 l2 p0 (fun r => (k r).bind K) := by
  unfold b80_81
  simp only [bind_cond, bind_when, bind_elim, Option.bind_assoc, bind_none]
set_option maxRecDepth 100000 in
theorem t80_81 {R : Type} (f81 : Y81) (l2 : Z80_81_2) (x : AX U tp80_81) (κ : U.D → List (List U.C) → Option R) : evFn (F80_81 f81) (L80_81 l2) (U.ro 80) (U.rnew 80) Try.f80 (fillS tp80_81.a x.1) (fillB tp80_81.b x.2) κ
    = b80_81 f81 l2 x.1.1 (fun r => κ (.v (.c (.int .i64 r))) []) := by kernel_rfl
theorem hF80_81 {R : Type} (f81 : Y81) (h81 : ∀ rest : Fn U R, SoundF Try.prog 81 rest → SoundF Try.prog 81 (e81 f81 rest)) : ∀ g, Sound Try.prog (F80_81 f81 : Nat → Fn U R) g := (Fc_sound (h81 _ fz_sound) Fz_sound)
theorem lok80_81_2 {R : Type} (f81 : Y81) (h81 : ∀ rest : Fn U R, SoundF Try.prog 81 rest → SoundF Try.prog 81 (e81 f81 rest)) : LoopOk Try.prog (L80_81 (lp80_81_2 f81 big) : Hn U R) (lpAt Try.f80 0) :=
  hnd_ok uok (hF80_81 f81 h81) mixed (loops_of (ls := []) (by kernel_rfl) all_nil) (key := 2) (by kernel_rfl) (ws0 := wd80_81_2) (t := st80_81_2) (f := h80_81_2 (lp80_81_2 f81 big)) (ws := []) (keep := [4]) (fun σ k => by kernel_rfl) (n := big) (fun x k => (ll80_81_2 f81 (lp80_81_2 f81 big) x k big x).symm)
theorem q80_81 {R : Type} (f81 : Y81) (h81 : ∀ rest : Fn U R, SoundF Try.prog 81 rest → SoundF Try.prog 81 (e81 f81 rest)) {rest : Fn U R} (hr : SoundF Try.prog 80 rest) : SoundF Try.prog 80 (e80_81 (fun p0 => b80_81 f81 (lp80_81_2 f81 big) p0 some) rest) :=
  ent_sound uok mixed (fn := Try.f80) (by kernel_rfl) (by kernel_rfl) (hF80_81 f81 h81) (L := L80_81 (lp80_81_2 f81 big)) (fn_loops (ls := [lpAt Try.f80 0]) (by kernel_rfl) (all_cons (lok80_81_2 f81 h81) all_nil)) hr (fun x κ => (n80_81 f81 (lp80_81_2 f81 big) x.1.1 some _).trans (t80_81 f81 (lp80_81_2 f81 big) x κ).symm)
def F59 {R : Type} (f78 : Y78) (f79 : Y79) (f80_81 : Y80_81) : Nat → Fn U R := (Fc 78 (e78 f78 (Fz 78)) (Fc 79 (e79 f79 (Fz 79)) (Fc 80 (e80_81 f80_81 (Fz 80)) Fz)))
def L59 {R : Type} : Hn U R := fun key σ k => none
theorem n59 {R S : Type} (f78 : Y78) (f79 : Y79) (f80_81 : Y80_81) (p0 : ByteArray) (k : Bool → Option R) (K : R → Option S) : (b59 f78 f79 f80_81 p0 k).bind K = b59 f78 f79 f80_81 p0 (fun r => (k r).bind K) := by
  unfold b59
  simp only [bind_cond, bind_when, bind_elim, Option.bind_assoc, bind_none]
set_option maxRecDepth 100000 in
theorem t59 {R : Type} (f78 : Y78) (f79 : Y79) (f80_81 : Y80_81) (x : AX U tp59) (κ : U.D → List (List U.C) → Option R) : evFn (F59 f78 f79 f80_81) (L59) (U.ro 59) (U.rnew 59) Try.f59 (fillS tp59.a x.1) (fillB tp59.b x.2) κ
    = b59 f78 f79 f80_81 x.1.1 (fun r => κ (.v (.c (.bool r))) []) := by kernel_rfl
theorem hF59 {R : Type} (f78 : Y78) (f79 : Y79) (f80_81 : Y80_81) (h78 : ∀ rest : Fn U R, SoundF Try.prog 78 rest → SoundF Try.prog 78 (e78 f78 rest)) (h79 : ∀ rest : Fn U R, SoundF Try.prog 79 rest → SoundF Try.prog 79 (e79 f79 rest)) (h80_81 : ∀ rest : Fn U R, SoundF Try.prog 80 rest → SoundF Try.prog 80 (e80_81 f80_81 rest)) : ∀ g, Sound Try.prog (F59 f78 f79 f80_81 : Nat → Fn U R) g := (Fc_sound (h78 _ fz_sound) (Fc_sound (h79 _ fz_sound) (Fc_sound (h80_81 _ fz_sound) Fz_sound)))
theorem q59 {R : Type} (f78 : Y78) (f79 : Y79) (f80_81 : Y80_81) (h78 : ∀ rest : Fn U R, SoundF Try.prog 78 rest → SoundF Try.prog 78 (e78 f78 rest)) (h79 : ∀ rest : Fn U R, SoundF Try.prog 79 rest → SoundF Try.prog 79 (e79 f79 rest)) (h80_81 : ∀ rest : Fn U R, SoundF Try.prog 80 rest → SoundF Try.prog 80 (e80_81 f80_81 rest)) {rest : Fn U R} (hr : SoundF Try.prog 59 rest) : SoundF Try.prog 59 (e59 (fun p0 => b59 f78 f79 f80_81 p0 some) rest) :=
  ent_sound uok mixed (fn := Try.f59) (by kernel_rfl) (by kernel_rfl) (hF59 f78 f79 f80_81 h78 h79 h80_81) (L := L59) (fn_loops (ls := []) (by kernel_rfl) all_nil) hr (fun x κ => (n59 f78 f79 f80_81 x.1.1 some _).trans (t59 f78 f79 f80_81 x κ).symm)
def F31 {R : Type} (f25 : Y25) (f59 : Y59) : Nat → Fn U R := (Fc 25 (e25 f25 (Fz 25)) (Fc 59 (e59 f59 (Fz 59)) Fz))
def L31 {R : Type} : Hn U R := fun key σ k => none
theorem n31 {R S : Type} (f25 : Y25) (f59 : Y59) (p0 : S98) (k : (ByteArray × Bool × S98) → Option R) (K : R → Option S) : (b31 f25 f59 p0 k).bind K = b31 f25 f59 p0 (fun r => (k r).bind K) := by
  unfold b31
  simp only [bind_cond, bind_when, bind_elim, Option.bind_assoc, bind_none]
set_option maxRecDepth 100000 in
theorem t31 {R : Type} (f25 : Y25) (f59 : Y59) (x : AX U tp31) (κ : U.D → List (List U.C) → Option R) : evFn (F31 f25 f59) (L31) (U.ro 31) (U.rnew 31) Try.f31 (fillS tp31.a x.1) (fillB tp31.b x.2) κ
    = b31 f25 f59 (⟨x.2.1.1, x.2.1.2.1, x.2.1.2.2.1, x.2.1.2.2.2.1⟩ : S98) (fun r => κ (.tup [.c (.str r.1), .c (.bool r.2.1)]) [[.sl 5 r.2.2.c0, .sl 51 r.2.2.c1, .int .i64 r.2.2.c2, .int .i64 r.2.2.c3]]) := by kernel_rfl
theorem hF31 {R : Type} (f25 : Y25) (f59 : Y59) (h25 : ∀ rest : Fn U R, SoundF Try.prog 25 rest → SoundF Try.prog 25 (e25 f25 rest)) (h59 : ∀ rest : Fn U R, SoundF Try.prog 59 rest → SoundF Try.prog 59 (e59 f59 rest)) : ∀ g, Sound Try.prog (F31 f25 f59 : Nat → Fn U R) g := (Fc_sound (h25 _ fz_sound) (Fc_sound (h59 _ fz_sound) Fz_sound))
theorem q31 {R : Type} (f25 : Y25) (f59 : Y59) (h25 : ∀ rest : Fn U R, SoundF Try.prog 25 rest → SoundF Try.prog 25 (e25 f25 rest)) (h59 : ∀ rest : Fn U R, SoundF Try.prog 59 rest → SoundF Try.prog 59 (e59 f59 rest)) {rest : Fn U R} (hr : SoundF Try.prog 31 rest) : SoundF Try.prog 31 (e31 (fun p0 => b31 f25 f59 p0 some) rest) :=
  entw_sound uok mixed (by kernel_rfl) (fn := Try.f31) (by kernel_rfl) (by kernel_rfl) (hF31 f25 f59 h25 h59) (L := L31) (fn_loops (ls := []) (by kernel_rfl) all_nil) hr (fun x κ => (n31 f25 f59 (⟨x.2.1.1, x.2.1.2.1, x.2.1.2.2.1, x.2.1.2.2.2.1⟩ : S98) some _).trans (t31 f25 f59 x κ).symm)
def F68 {R : Type} (f31 : Y31) : Nat → Fn U R := (Fc 31 (e31 f31 (Fz 31)) Fz)
def L68 {R : Type} : Hn U R := fun key σ k => none
theorem n68 {R S : Type} (f31 : Y31) (p0 : S98) (p1 : ByteArray) (k : (Int × S98 × ByteArray) → Option R) (K : R → Option S) : (b68 f31 p0 p1 k).bind K = b68 f31 p0 p1 (fun r => (k r).bind K) := by
  unfold b68
  simp only [bind_cond, bind_when, bind_elim, Option.bind_assoc, bind_none]
set_option maxRecDepth 100000 in
theorem t68 {R : Type} (f31 : Y31) (x : AX U tp68) (κ : U.D → List (List U.C) → Option R) : evFn (F68 f31) (L68) (U.ro 68) (U.rnew 68) Try.f68 (fillS tp68.a x.1) (fillB tp68.b x.2) κ
    = b68 f31 (⟨x.2.1.1, x.2.1.2.1, x.2.1.2.2.1, x.2.1.2.2.2.1⟩ : S98) x.2.2.1.1 (fun r => κ (.v (.c (.int .i64 r.1))) [[.sl 5 r.2.1.c0, .sl 51 r.2.1.c1, .int .i64 r.2.1.c2, .int .i64 r.2.1.c3], [.str r.2.2]]) := by kernel_rfl
theorem hF68 {R : Type} (f31 : Y31) (h31 : ∀ rest : Fn U R, SoundF Try.prog 31 rest → SoundF Try.prog 31 (e31 f31 rest)) : ∀ g, Sound Try.prog (F68 f31 : Nat → Fn U R) g := (Fc_sound (h31 _ fz_sound) Fz_sound)
theorem q68 {R : Type} (f31 : Y31) (h31 : ∀ rest : Fn U R, SoundF Try.prog 31 rest → SoundF Try.prog 31 (e31 f31 rest)) {rest : Fn U R} (hr : SoundF Try.prog 68 rest) : SoundF Try.prog 68 (e68 (fun p0 p1 => b68 f31 p0 p1 some) rest) :=
  entw_sound uok mixed (by kernel_rfl) (fn := Try.f68) (by kernel_rfl) (by kernel_rfl) (hF68 f31 h31) (L := L68) (fn_loops (ls := []) (by kernel_rfl) all_nil) hr (fun x κ => (n68 f31 (⟨x.2.1.1, x.2.1.2.1, x.2.1.2.2.1, x.2.1.2.2.2.1⟩ : S98) x.2.2.1.1 some _).trans (t68 f31 x κ).symm)
def F41 {R : Type} (f30 : Y30) : Nat → Fn U R := (Fc 30 (e30 f30 (Fz 30)) Fz)
def L41 {R : Type} : Hn U R := fun key σ k => none
theorem n41 {R S : Type} (f30 : Y30) (p0 : S98) (k : (Int × Int × S98) → Option R) (K : R → Option S) : (b41 f30 p0 k).bind K = b41 f30 p0 (fun r => (k r).bind K) := by
  unfold b41
  simp only [bind_cond, bind_when, bind_elim, Option.bind_assoc, bind_none]
set_option maxRecDepth 100000 in
theorem t41 {R : Type} (f30 : Y30) (x : AX U tp41) (κ : U.D → List (List U.C) → Option R) : evFn (F41 f30) (L41) (U.ro 41) (U.rnew 41) Try.f41 (fillS tp41.a x.1) (fillB tp41.b x.2) κ
    = b41 f30 (⟨x.2.1.1, x.2.1.2.1, x.2.1.2.2.1, x.2.1.2.2.2.1⟩ : S98) (fun r => κ (.tup [.c (.int .i64 r.1), .c (.int .i64 r.2.1)]) [[.sl 5 r.2.2.c0, .sl 51 r.2.2.c1, .int .i64 r.2.2.c2, .int .i64 r.2.2.c3]]) := by kernel_rfl
theorem hF41 {R : Type} (f30 : Y30) (h30 : ∀ rest : Fn U R, SoundF Try.prog 30 rest → SoundF Try.prog 30 (e30 f30 rest)) : ∀ g, Sound Try.prog (F41 f30 : Nat → Fn U R) g := (Fc_sound (h30 _ fz_sound) Fz_sound)
theorem q41 {R : Type} (f30 : Y30) (h30 : ∀ rest : Fn U R, SoundF Try.prog 30 rest → SoundF Try.prog 30 (e30 f30 rest)) {rest : Fn U R} (hr : SoundF Try.prog 41 rest) : SoundF Try.prog 41 (e41 (fun p0 => b41 f30 p0 some) rest) :=
  entw_sound uok mixed (by kernel_rfl) (fn := Try.f41) (by kernel_rfl) (by kernel_rfl) (hF41 f30 h30) (L := L41) (fn_loops (ls := []) (by kernel_rfl) all_nil) hr (fun x κ => (n41 f30 (⟨x.2.1.1, x.2.1.2.1, x.2.1.2.2.1, x.2.1.2.2.2.1⟩ : S98) some _).trans (t41 f30 x κ).symm)
def F33 {R : Type} : Nat → Fn U R := Fz
def L33 {R : Type} : Hn U R := fun key σ k => none
theorem n33 {R S : Type} (p0 : S98) (k : Int → Option R) (K : R → Option S) : (b33 p0 k).bind K = b33 p0 (fun r => (k r).bind K) := by
  unfold b33
  simp only [bind_cond, bind_when, bind_elim, Option.bind_assoc, bind_none]
set_option maxRecDepth 100000 in
theorem t33 {R : Type} (x : AX U tp33) (κ : U.D → List (List U.C) → Option R) : evFn (F33) (L33) (U.ro 33) (U.rnew 33) Try.f33 (fillS tp33.a x.1) (fillB tp33.b x.2) κ
    = b33 (⟨x.2.1.1, x.2.1.2.1, x.2.1.2.2.1, x.2.1.2.2.2.1⟩ : S98) (fun r => κ (.v (.c (.int .i64 r))) (fillB tp33.b x.2)) := by kernel_rfl
theorem hF33 {R : Type} : ∀ g, Sound Try.prog (F33 : Nat → Fn U R) g := Fz_sound
theorem q33 {R : Type} {rest : Fn U R} (hr : SoundF Try.prog 33 rest) : SoundF Try.prog 33 (e33 (fun p0 => b33 p0 some) rest) :=
  ent_sound uok mixed (fn := Try.f33) (by kernel_rfl) (by kernel_rfl) (hF33) (L := L33) (fn_loops (ls := []) (by kernel_rfl) all_nil) hr (fun x κ => (n33 (⟨x.2.1.1, x.2.1.2.1, x.2.1.2.2.1, x.2.1.2.2.2.1⟩ : S98) some _).trans (t33 x κ).symm)
def F43 {R : Type} (f26 : Y26) (f30 : Y30) (f33 : Y33) (f68 : Y68) : Nat → Fn U R := (Fc 26 (e26 f26 (Fz 26)) (Fc 30 (e30 f30 (Fz 30)) (Fc 33 (e33 f33 (Fz 33)) (Fc 68 (e68 f68 (Fz 68)) Fz))))
def L43 {R : Type} : Hn U R := fun key σ k => none
theorem n43 {R S : Type} (f26 : Y26) (f30 : Y30) (f33 : Y33) (f68 : Y68) (p0 : S98) (k : (S72 × Int × S98) → Option R) (K : R → Option S) : (b43 f26 f30 f33 f68 p0 k).bind K = b43 f26 f30 f33 f68 p0 (fun r => (k r).bind K) := by
  unfold b43
  simp only [bind_cond, bind_when, bind_elim, Option.bind_assoc, bind_none]
set_option maxRecDepth 100000 in
theorem t43 {R : Type} (f26 : Y26) (f30 : Y30) (f33 : Y33) (f68 : Y68) (x : AX U tp43) (κ : U.D → List (List U.C) → Option R) : evFn (F43 f26 f30 f33 f68) (L43) (U.ro 43) (U.rnew 43) Try.f43 (fillS tp43.a x.1) (fillB tp43.b x.2) κ
    = b43 f26 f30 f33 f68 (⟨x.2.1.1, x.2.1.2.1, x.2.1.2.2.1, x.2.1.2.2.2.1⟩ : S98) (fun r => κ (.tup [.agg [.bool r.1.c0, .bool r.1.c1, .str r.1.c2, .int .i64 r.1.c3, .int .i64 r.1.c4], .c (.int .i64 r.2.1)]) [[.sl 5 r.2.2.c0, .sl 51 r.2.2.c1, .int .i64 r.2.2.c2, .int .i64 r.2.2.c3]]) := by kernel_rfl
theorem hF43 {R : Type} (f26 : Y26) (f30 : Y30) (f33 : Y33) (f68 : Y68) (h26 : ∀ rest : Fn U R, SoundF Try.prog 26 rest → SoundF Try.prog 26 (e26 f26 rest)) (h30 : ∀ rest : Fn U R, SoundF Try.prog 30 rest → SoundF Try.prog 30 (e30 f30 rest)) (h33 : ∀ rest : Fn U R, SoundF Try.prog 33 rest → SoundF Try.prog 33 (e33 f33 rest)) (h68 : ∀ rest : Fn U R, SoundF Try.prog 68 rest → SoundF Try.prog 68 (e68 f68 rest)) : ∀ g, Sound Try.prog (F43 f26 f30 f33 f68 : Nat → Fn U R) g := (Fc_sound (h26 _ fz_sound) (Fc_sound (h30 _ fz_sound) (Fc_sound (h33 _ fz_sound) (Fc_sound (h68 _ fz_sound) Fz_sound))))
theorem q43 {R : Type} (f26 : Y26) (f30 : Y30) (f33 : Y33) (f68 : Y68) (h26 : ∀ rest : Fn U R, SoundF Try.prog 26 rest → SoundF Try.prog 26 (e26 f26 rest)) (h30 : ∀ rest : Fn U R, SoundF Try.prog 30 rest → SoundF Try.prog 30 (e30 f30 rest)) (h33 : ∀ rest : Fn U R, SoundF Try.prog 33 rest → SoundF Try.prog 33 (e33 f33 rest)) (h68 : ∀ rest : Fn U R, SoundF Try.prog 68 rest → SoundF Try.prog 68 (e68 f68 rest)) {rest : Fn U R} (hr : SoundF Try.prog 43 rest) : SoundF Try.prog 43 (e43 (fun p0 => b43 f26 f30 f33 f68 p0 some) rest) :=
  entw_sound uok mixed (by kernel_rfl) (fn := Try.f43) (by kernel_rfl) (by kernel_rfl) (hF43 f26 f30 f33 f68 h26 h30 h33 h68) (L := L43) (fn_loops (ls := []) (by kernel_rfl) all_nil) hr (fun x κ => (n43 f26 f30 f33 f68 (⟨x.2.1.1, x.2.1.2.1, x.2.1.2.2.1, x.2.1.2.2.2.1⟩ : S98) some _).trans (t43 f26 f30 f33 f68 x κ).symm)
def F90 {R : Type} (f30 : Y30) : Nat → Fn U R := (Fc 30 (e30 f30 (Fz 30)) Fz)
def st90_2 : StT := ⟨[.c (.p 0 0), .c .u, .c .u, .c .u, .c .u, .c .u, .c .u, .c (.l 9), .c (.i .i64), .c (.i .i64), .c .u, .c .u, .c .u, .c .u, .c .u, .c .u, .c .u, .c .u], [[.l 5, .l 51, .i .i64, .i .i64]], [], 0⟩
def h90_2 {R : Type} (l : Z90_2) : SX U st90_2 → (Out → St U → Option R) → Option R := fun x k => (l x.1.2.1 x.1.1 x.1.2.2.1 x.2.1.1.1 x.2.1.1.2.1 x.2.1.1.2.2.1 x.2.1.1.2.2.2.1).bind (Sum.elim (fun o => k .ret ⟨[.v (.c (.ptr 0 0)), ud, ud, ud, .v (.c (.int .i64 o.2.2.2.2.2)), ud, ud, .v (.c (.sl 9 x.1.1)), .v (.c (.int .i64 x.1.2.1)), .v (.c (.int .i64 o.1)), ud, ud, ud, ud, ud, ud, ud, ud], [[.sl 5 o.2.1, .sl 51 o.2.2.1, .int .i64 o.2.2.2.1, .int .i64 o.2.2.2.2.1]], [], 0⟩) (fun o => k (.exit 0) ⟨[.v (.c (.ptr 0 0)), ud, ud, ud, ud, ud, ud, .v (.c (.sl 9 x.1.1)), .v (.c (.int .i64 x.1.2.1)), .v (.c (.int .i64 o.1)), ud, ud, ud, ud, ud, ud, ud, ud], [[.sl 5 o.2.1, .sl 51 o.2.2.1, .int .i64 o.2.2.2.1, .int .i64 o.2.2.2.2]], [], 0⟩))
def wd90_2 : List Wd := [.drop 1, .drop 2, .drop 3, .drop 4, .drop 5, .drop 6, .drop 10, .drop 11, .drop 12, .drop 13, .drop 14, .drop 15, .drop 16, .drop 17]
def L90 {R : Type} (l2 : Z90_2) : Hn U R := fun key σ k => bif Nat.beq key 2 then hnd wd90_2 st90_2 (h90_2 l2) σ k else none
set_option maxRecDepth 100000 in
theorem tl90_2 {R : Type} (f30 : Y30) (l2 : Z90_2) (x0 x : SX U st90_2) (k : Out → St U → Option R) (n : Nat) : loopN [4] [] (fun σ k => ev (F90 f30) (L90 l2) (lpAt Try.f90 0) σ k) (fillSt st90_2 x0) k (n + 1) (fillSt st90_2 x)
    = lb90_2 f30 x.1.2.1 x.1.1 (fun v8 v9 v10 v11 v12 => loopN [4] [] (fun σ k => ev (F90 f30) (L90 l2) (lpAt Try.f90 0) σ k) (fillSt st90_2 x0) k n (fillSt st90_2 (((x.1.1, x.1.2.1, v8, ()), ((v9, v10, v11, v12, ()), ()), ()) : SX U st90_2))) (fun o => k .ret ⟨[.v (.c (.ptr 0 0)), ud, ud, ud, .v (.c (.int .i64 o.2.2.2.2.2)), ud, ud, .v (.c (.sl 9 x.1.1)), .v (.c (.int .i64 x.1.2.1)), .v (.c (.int .i64 o.1)), ud, ud, ud, ud, ud, ud, ud, ud], [[.sl 5 o.2.1, .sl 51 o.2.2.1, .int .i64 o.2.2.2.1, .int .i64 o.2.2.2.2.1]], [], 0⟩) (fun o => k (.exit 0) ⟨[.v (.c (.ptr 0 0)), ud, ud, ud, ud, ud, ud, .v (.c (.sl 9 x.1.1)), .v (.c (.int .i64 x.1.2.1)), .v (.c (.int .i64 o.1)), ud, ud, ud, ud, ud, ud, ud, ud], [[.sl 5 o.2.1, .sl 51 o.2.2.1, .int .i64 o.2.2.2.1, .int .i64 o.2.2.2.2]], [], 0⟩) x.1.2.2.1 x.2.1.1.1 x.2.1.1.2.1 x.2.1.1.2.2.1 x.2.1.1.2.2.2.1 := by kernel_rfl
theorem nb90_2 {R S : Type} (f30 : Y30) (q7 : Int) (q6 : List ByteArray) (c : Int → List Int → List S51 → Int → Int → Option R) (e0 : (Int × List Int × List S51 × Int × Int × Int) → Option R) (e1 : (Int × List Int × List S51 × Int × Int) → Option R) (v8 : Int) (v9 : List Int) (v10 : List S51) (v11 : Int) (v12 : Int) (K : R → Option S) : (lb90_2 f30 q7 q6 c e0 e1 v8 v9 v10 v11 v12).bind K = lb90_2 f30 q7 q6 (fun v8 v9 v10 v11 v12 => (c v8 v9 v10 v11 v12).bind K) (fun o => (e0 o).bind K) (fun o => (e1 o).bind K) v8 v9 v10 v11 v12 := by
  unfold lb90_2
  simp only [bind_cond, bind_when, bind_elim, Option.bind_assoc, bind_none]
set_option maxHeartbeats 1000000 in
theorem ll90_2 {R : Type} (f30 : Y30) (l2 : Z90_2) (x0 : SX U st90_2) (k : Out → St U → Option R) : ∀ (n : Nat) (x : SX U st90_2), loopN [4] [] (fun σ k => ev (F90 f30) (L90 l2) (lpAt Try.f90 0) σ k) (fillSt st90_2 x0) k n (fillSt st90_2 x)
    = h90_2 (lp90_2 f30 n) x k := by
  intro n
  induction n with
  | zero => intro x; kernel_rfl
  | succ n ih =>
    intro x
    have h2 := congrArg (fun c => lb90_2 f30 x.1.2.1 x.1.1 c (fun o => k .ret ⟨[.v (.c (.ptr 0 0)), ud, ud, ud, .v (.c (.int .i64 o.2.2.2.2.2)), ud, ud, .v (.c (.sl 9 x.1.1)), .v (.c (.int .i64 x.1.2.1)), .v (.c (.int .i64 o.1)), ud, ud, ud, ud, ud, ud, ud, ud], [[.sl 5 o.2.1, .sl 51 o.2.2.1, .int .i64 o.2.2.2.1, .int .i64 o.2.2.2.2.1]], [], 0⟩) (fun o => k (.exit 0) ⟨[.v (.c (.ptr 0 0)), ud, ud, ud, ud, ud, ud, .v (.c (.sl 9 x.1.1)), .v (.c (.int .i64 x.1.2.1)), .v (.c (.int .i64 o.1)), ud, ud, ud, ud, ud, ud, ud, ud], [[.sl 5 o.2.1, .sl 51 o.2.2.1, .int .i64 o.2.2.2.1, .int .i64 o.2.2.2.2]], [], 0⟩) x.1.2.2.1 x.2.1.1.1 x.2.1.1.2.1 x.2.1.1.2.2.1 x.2.1.1.2.2.2.1) (funext fun v8 => (funext fun v9 => (funext fun v10 => (funext fun v11 => (funext fun v12 => ih (((x.1.1, x.1.2.1, v8, ()), ((v9, v10, v11, v12, ()), ()), ()) : SX U st90_2))))))
    exact kcast (by kernel_rfl) (chain3 (tl90_2 f30 l2 x0 x k n) h2 (nb90_2 f30 x.1.2.1 x.1.1 (fun v8 v9 v10 v11 v12 => lp90_2 f30 n x.1.2.1 x.1.1 v8 v9 v10 v11 v12) (fun o => some (Sum.inl o)) (fun o => some (Sum.inr (o))) x.1.2.2.1 x.2.1.1.1 x.2.1.1.2.1 x.2.1.1.2.2.1 x.2.1.1.2.2.2.1 (Sum.elim (fun o => k .ret ⟨[.v (.c (.ptr 0 0)), ud, ud, ud, .v (.c (.int .i64 o.2.2.2.2.2)), ud, ud, .v (.c (.sl 9 x.1.1)), .v (.c (.int .i64 x.1.2.1)), .v (.c (.int .i64 o.1)), ud, ud, ud, ud, ud, ud, ud, ud], [[.sl 5 o.2.1, .sl 51 o.2.2.1, .int .i64 o.2.2.2.1, .int .i64 o.2.2.2.2.1]], [], 0⟩) (fun o => k (.exit 0) ⟨[.v (.c (.ptr 0 0)), ud, ud, ud, ud, ud, ud, .v (.c (.sl 9 x.1.1)), .v (.c (.int .i64 x.1.2.1)), .v (.c (.int .i64 o.1)), ud, ud, ud, ud, ud, ud, ud, ud], [[.sl 5 o.2.1, .sl 51 o.2.2.1, .int .i64 o.2.2.2.1, .int .i64 o.2.2.2.2]], [], 0⟩))).symm (by kernel_rfl) (by kernel_rfl))
theorem n90 {R S : Type} (f30 : Y30) (l2 : Z90_2) (p1 : (List ByteArray)) (p0 : S98) (k : (Int × S98) → Option R) (K : R → Option S) : (b90 f30 l2 p1 p0 k).bind K = b90 f30 l2 p1 p0 (fun r => (k r).bind K) := by
  unfold b90
  simp only [bind_cond, bind_when, bind_elim, Option.bind_assoc, bind_none]
set_option maxRecDepth 100000 in
theorem t90 {R : Type} (f30 : Y30) (l2 : Z90_2) (x : AX U tp90) (κ : U.D → List (List U.C) → Option R) : evFn (F90 f30) (L90 l2) (U.ro 90) (U.rnew 90) Try.f90 (fillS tp90.a x.1) (fillB tp90.b x.2) κ
    = b90 f30 l2 x.1.1 (⟨x.2.1.1, x.2.1.2.1, x.2.1.2.2.1, x.2.1.2.2.2.1⟩ : S98) (fun r => κ (.v (.c (.int .i64 r.1))) [[.sl 5 r.2.c0, .sl 51 r.2.c1, .int .i64 r.2.c2, .int .i64 r.2.c3]]) := by kernel_rfl
theorem hF90 {R : Type} (f30 : Y30) (h30 : ∀ rest : Fn U R, SoundF Try.prog 30 rest → SoundF Try.prog 30 (e30 f30 rest)) : ∀ g, Sound Try.prog (F90 f30 : Nat → Fn U R) g := (Fc_sound (h30 _ fz_sound) Fz_sound)
theorem lok90_2 {R : Type} (f30 : Y30) (h30 : ∀ rest : Fn U R, SoundF Try.prog 30 rest → SoundF Try.prog 30 (e30 f30 rest)) : LoopOk Try.prog (L90 (lp90_2 f30 big) : Hn U R) (lpAt Try.f90 0) :=
  hnd_ok uok (hF90 f30 h30) mixed (loops_of (ls := []) (by kernel_rfl) all_nil) (key := 2) (by kernel_rfl) (ws0 := wd90_2) (t := st90_2) (f := h90_2 (lp90_2 f30 big)) (ws := []) (keep := [4]) (fun σ k => by kernel_rfl) (n := big) (fun x k => (ll90_2 f30 (lp90_2 f30 big) x k big x).symm)
theorem q90 {R : Type} (f30 : Y30) (h30 : ∀ rest : Fn U R, SoundF Try.prog 30 rest → SoundF Try.prog 30 (e30 f30 rest)) {rest : Fn U R} (hr : SoundF Try.prog 90 rest) : SoundF Try.prog 90 (e90 (fun p1 p0 => b90 f30 (lp90_2 f30 big) p1 p0 some) rest) :=
  entw_sound uok mixed (by kernel_rfl) (fn := Try.f90) (by kernel_rfl) (by kernel_rfl) (hF90 f30 h30) (L := L90 (lp90_2 f30 big)) (fn_loops (ls := [lpAt Try.f90 0]) (by kernel_rfl) (all_cons (lok90_2 f30 h30) all_nil)) hr (fun x κ => (n90 f30 (lp90_2 f30 big) x.1.1 (⟨x.2.1.1, x.2.1.2.1, x.2.1.2.2.1, x.2.1.2.2.2.1⟩ : S98) some _).trans (t90 f30 (lp90_2 f30 big) x κ).symm)
def F17 {R : Type} (f17 : Y17) : Nat → Fn U R := (Fc 17 (e17 f17 (Fz 17)) Fz)
def st17_3 : StT := ⟨[.c .u, .c .u, .c .u, .c (.i .i64), .c .u, .c .u, .c .u, .c (.l 27), .c (.i .i64), .c (.i .i64), .c .u, .c .u, .c .u, .c .u, .c .u, .c .u, .c .u, .c .u, .c .u, .c .u], [[.i .i64, .i .i64, .i .i64, .s, .s, .l 27]], [], 0⟩
def h17_3 {R : Type} (l : Z17_3) : SX U st17_3 → (Out → St U → Option R) → Option R := fun x k => (l x.1.2.2.1 x.1.2.1 x.1.1 x.1.2.2.2.1).bind (fun o => k (.exit 0) ⟨[ud, ud, ud, .v (.c (.int .i64 o.1)), ud, ud, ud, .v (.c (.sl 27 x.1.2.1)), .v (.c (.int .i64 x.1.2.2.1)), .v (.c (.int .i64 o.2)), ud, ud, ud, ud, ud, ud, ud, ud, ud, ud], [[.int .i64 x.2.1.1.1, .int .i64 x.2.1.1.2.1, .int .i64 x.2.1.1.2.2.1, .str x.2.1.1.2.2.2.1, .str x.2.1.1.2.2.2.2.1, .sl 27 x.2.1.1.2.2.2.2.2.1]], [], 0⟩)
def wd17_3 : List Wd := [.drop 0, .drop 1, .drop 2, .drop 4, .drop 5, .drop 6, .drop 10, .drop 11, .drop 12, .drop 13, .drop 14, .drop 15, .drop 16, .drop 17, .drop 18, .drop 19]
def L17 {R : Type} (l3 : Z17_3) : Hn U R := fun key σ k => bif Nat.beq key 3 then hnd wd17_3 st17_3 (h17_3 l3) σ k else none
set_option maxRecDepth 100000 in
theorem tl17_3 {R : Type} (f17 : Y17) (l3 : Z17_3) (x0 x : SX U st17_3) (k : Out → St U → Option R) (n : Nat) : loopN [2] [] (fun σ k => ev (F17 f17) (L17 l3) (lpAt Try.f17 0) σ k) (fillSt st17_3 x0) k (n + 1) (fillSt st17_3 x)
    = lb17_3 f17 x.1.2.2.1 x.1.2.1 (fun v7 v10 => loopN [2] [] (fun σ k => ev (F17 f17) (L17 l3) (lpAt Try.f17 0) σ k) (fillSt st17_3 x0) k n (fillSt st17_3 (((v7, x.1.2.1, x.1.2.2.1, v10, ()), ((x.2.1.1.1, x.2.1.1.2.1, x.2.1.1.2.2.1, x.2.1.1.2.2.2.1, x.2.1.1.2.2.2.2.1, x.2.1.1.2.2.2.2.2.1, ()), ()), ()) : SX U st17_3))) (fun o => k (.exit 0) ⟨[ud, ud, ud, .v (.c (.int .i64 o.1)), ud, ud, ud, .v (.c (.sl 27 x.1.2.1)), .v (.c (.int .i64 x.1.2.2.1)), .v (.c (.int .i64 o.2)), ud, ud, ud, ud, ud, ud, ud, ud, ud, ud], [[.int .i64 x.2.1.1.1, .int .i64 x.2.1.1.2.1, .int .i64 x.2.1.1.2.2.1, .str x.2.1.1.2.2.2.1, .str x.2.1.1.2.2.2.2.1, .sl 27 x.2.1.1.2.2.2.2.2.1]], [], 0⟩) x.1.1 x.1.2.2.2.1 := by kernel_rfl
theorem nb17_3 {R S : Type} (f17 : Y17) (q9 : Int) (q8 : List S27) (c : Int → Int → Option R) (e0 : (Int × Int) → Option R) (v7 : Int) (v10 : Int) (K : R → Option S) : (lb17_3 f17 q9 q8 c e0 v7 v10).bind K = lb17_3 f17 q9 q8 (fun v7 v10 => (c v7 v10).bind K) (fun o => (e0 o).bind K) v7 v10 := by
  unfold lb17_3
  simp only [bind_cond, bind_when, bind_elim, Option.bind_assoc, bind_none]
set_option maxHeartbeats 1000000 in
theorem ll17_3 {R : Type} (f17 : Y17) (l3 : Z17_3) (x0 : SX U st17_3) (k : Out → St U → Option R) : ∀ (n : Nat) (x : SX U st17_3), loopN [2] [] (fun σ k => ev (F17 f17) (L17 l3) (lpAt Try.f17 0) σ k) (fillSt st17_3 x0) k n (fillSt st17_3 x)
    = h17_3 (lp17_3 f17 n) x k := by
  intro n
  induction n with
  | zero => intro x; kernel_rfl
  | succ n ih =>
    intro x
    have h2 := congrArg (fun c => lb17_3 f17 x.1.2.2.1 x.1.2.1 c (fun o => k (.exit 0) ⟨[ud, ud, ud, .v (.c (.int .i64 o.1)), ud, ud, ud, .v (.c (.sl 27 x.1.2.1)), .v (.c (.int .i64 x.1.2.2.1)), .v (.c (.int .i64 o.2)), ud, ud, ud, ud, ud, ud, ud, ud, ud, ud], [[.int .i64 x.2.1.1.1, .int .i64 x.2.1.1.2.1, .int .i64 x.2.1.1.2.2.1, .str x.2.1.1.2.2.2.1, .str x.2.1.1.2.2.2.2.1, .sl 27 x.2.1.1.2.2.2.2.2.1]], [], 0⟩) x.1.1 x.1.2.2.2.1) (funext fun v7 => (funext fun v10 => ih (((v7, x.1.2.1, x.1.2.2.1, v10, ()), ((x.2.1.1.1, x.2.1.1.2.1, x.2.1.1.2.2.1, x.2.1.1.2.2.2.1, x.2.1.1.2.2.2.2.1, x.2.1.1.2.2.2.2.2.1, ()), ()), ()) : SX U st17_3)))
    exact kcast (by kernel_rfl) (chain3 (tl17_3 f17 l3 x0 x k n) h2 (nb17_3 f17 x.1.2.2.1 x.1.2.1 (fun v7 v10 => lp17_3 f17 n x.1.2.2.1 x.1.2.1 v7 v10) (fun o => some o) x.1.1 x.1.2.2.2.1 (fun o => k (.exit 0) ⟨[ud, ud, ud, .v (.c (.int .i64 o.1)), ud, ud, ud, .v (.c (.sl 27 x.1.2.1)), .v (.c (.int .i64 x.1.2.2.1)), .v (.c (.int .i64 o.2)), ud, ud, ud, ud, ud, ud, ud, ud, ud, ud], [[.int .i64 x.2.1.1.1, .int .i64 x.2.1.1.2.1, .int .i64 x.2.1.1.2.2.1, .str x.2.1.1.2.2.2.1, .str x.2.1.1.2.2.2.2.1, .sl 27 x.2.1.1.2.2.2.2.2.1]], [], 0⟩)).symm (by kernel_rfl) (by kernel_rfl))
theorem n17 {R S : Type} (f17 : Y17) (l3 : Z17_3) (p0 : S27) (k : Int → Option R) (K : R → Option S) : (b17 f17 l3 p0 k).bind K = b17 f17 l3 p0 (fun r => (k r).bind K) := by
  unfold b17
  simp only [bind_cond, bind_when, bind_elim, Option.bind_assoc, bind_none]
set_option maxRecDepth 100000 in
theorem t17 {R : Type} (f17 : Y17) (l3 : Z17_3) (x : AX U tp17) (κ : U.D → List (List U.C) → Option R) : evFn (F17 f17) (L17 l3) (U.ro 17) (U.rnew 17) Try.f17 (fillS tp17.a x.1) (fillB tp17.b x.2) κ
    = b17 f17 l3 (⟨x.1.1.1, x.1.1.2.1, x.1.1.2.2.1, x.1.1.2.2.2.1, x.1.1.2.2.2.2.1, x.1.1.2.2.2.2.2.1⟩ : S27) (fun r => κ (.v (.c (.int .i64 r))) []) := by kernel_rfl
theorem hF17 {R : Type} (f17 : Y17) (h17 : ∀ rest : Fn U R, SoundF Try.prog 17 rest → SoundF Try.prog 17 (e17 f17 rest)) : ∀ g, Sound Try.prog (F17 f17 : Nat → Fn U R) g := (Fc_sound (h17 _ fz_sound) Fz_sound)
theorem lok17_3 {R : Type} (f17 : Y17) (h17 : ∀ rest : Fn U R, SoundF Try.prog 17 rest → SoundF Try.prog 17 (e17 f17 rest)) : LoopOk Try.prog (L17 (lp17_3 f17 big) : Hn U R) (lpAt Try.f17 0) :=
  hnd_ok uok (hF17 f17 h17) mixed (loops_of (ls := []) (by kernel_rfl) all_nil) (key := 3) (by kernel_rfl) (ws0 := wd17_3) (t := st17_3) (f := h17_3 (lp17_3 f17 big)) (ws := []) (keep := [2]) (fun σ k => by kernel_rfl) (n := big) (fun x k => (ll17_3 f17 (lp17_3 f17 big) x k big x).symm)
theorem q17 {R : Type} (f17 : Y17) (h17 : ∀ rest : Fn U R, SoundF Try.prog 17 rest → SoundF Try.prog 17 (e17 f17 rest)) {rest : Fn U R} (hr : SoundF Try.prog 17 rest) : SoundF Try.prog 17 (e17 (fun p0 => b17 f17 (lp17_3 f17 big) p0 some) rest) :=
  ent_sound uok mixed (fn := Try.f17) (by kernel_rfl) (by kernel_rfl) (hF17 f17 h17) (L := L17 (lp17_3 f17 big)) (fn_loops (ls := [lpAt Try.f17 0]) (by kernel_rfl) (all_cons (lok17_3 f17 h17) all_nil)) hr (fun x κ => (n17 f17 (lp17_3 f17 big) (⟨x.1.1.1, x.1.1.2.1, x.1.1.2.2.1, x.1.1.2.2.2.1, x.1.1.2.2.2.2.1, x.1.1.2.2.2.2.2.1⟩ : S27) some _).trans (t17 f17 (lp17_3 f17 big) x κ).symm)
def F85 {R : Type} (f17 : Y17) : Nat → Fn U R := (Fc 17 (e17 f17 (Fz 17)) Fz)
def L85 {R : Type} : Hn U R := fun key σ k => none
theorem n85 {R S : Type} (f17 : Y17) (p1 : S27) (p2 : Int) (p0 : S98) (k : (S27 × Int × S98) → Option R) (K : R → Option S) : (b85 f17 p1 p2 p0 k).bind K = b85 f17 p1 p2 p0 (fun r => (k r).bind K) := by
  unfold b85
  simp only [bind_cond, bind_when, bind_elim, Option.bind_assoc, bind_none]
set_option maxRecDepth 100000 in
theorem t85 {R : Type} (f17 : Y17) (x : AX U tp85) (κ : U.D → List (List U.C) → Option R) : evFn (F85 f17) (L85) (U.ro 85) (U.rnew 85) Try.f85 (fillS tp85.a x.1) (fillB tp85.b x.2) κ
    = b85 f17 (⟨x.1.1.1, x.1.1.2.1, x.1.1.2.2.1, x.1.1.2.2.2.1, x.1.1.2.2.2.2.1, x.1.1.2.2.2.2.2.1⟩ : S27) x.1.2.1 (⟨x.2.1.1, x.2.1.2.1, x.2.1.2.2.1, x.2.1.2.2.2.1⟩ : S98) (fun r => κ (.tup [.agg [.int .i64 r.1.c0, .int .i64 r.1.c1, .int .i64 r.1.c2, .str r.1.c3, .str r.1.c4, .sl 27 r.1.c5], .c (.int .i64 r.2.1)]) [[.sl 5 r.2.2.c0, .sl 51 r.2.2.c1, .int .i64 r.2.2.c2, .int .i64 r.2.2.c3]]) := by kernel_rfl
theorem hF85 {R : Type} (f17 : Y17) (h17 : ∀ rest : Fn U R, SoundF Try.prog 17 rest → SoundF Try.prog 17 (e17 f17 rest)) : ∀ g, Sound Try.prog (F85 f17 : Nat → Fn U R) g := (Fc_sound (h17 _ fz_sound) Fz_sound)
theorem q85 {R : Type} (f17 : Y17) (h17 : ∀ rest : Fn U R, SoundF Try.prog 17 rest → SoundF Try.prog 17 (e17 f17 rest)) {rest : Fn U R} (hr : SoundF Try.prog 85 rest) : SoundF Try.prog 85 (e85 (fun p1 p2 p0 => b85 f17 p1 p2 p0 some) rest) :=
  entw_sound uok mixed (by kernel_rfl) (fn := Try.f85) (by kernel_rfl) (by kernel_rfl) (hF85 f17 h17) (L := L85) (fn_loops (ls := []) (by kernel_rfl) all_nil) hr (fun x κ => (n85 f17 (⟨x.1.1.1, x.1.1.2.1, x.1.1.2.2.1, x.1.1.2.2.2.1, x.1.1.2.2.2.2.1, x.1.1.2.2.2.2.2.1⟩ : S27) x.1.2.1 (⟨x.2.1.1, x.2.1.2.1, x.2.1.2.2.1, x.2.1.2.2.2.1⟩ : S98) some _).trans (t85 f17 x κ).symm)
def F28 {R : Type} (f29 : Y29) : Nat → Fn U R := (Fc 29 (e29 f29 (Fz 29)) Fz)
def L28 {R : Type} : Hn U R := fun key σ k => none
theorem n28 {R S : Type} (f29 : Y29) (p0 : S98) (k : Int → Option R) (K : R → Option S) : (b28 f29 p0 k).bind K = b28 f29 p0 (fun r => (k r).bind K) := by
  unfold b28
  simp only [bind_cond, bind_when, bind_elim, Option.bind_assoc, bind_none]
set_option maxRecDepth 100000 in
theorem t28 {R : Type} (f29 : Y29) (x : AX U tp28) (κ : U.D → List (List U.C) → Option R) : evFn (F28 f29) (L28) (U.ro 28) (U.rnew 28) Try.f28 (fillS tp28.a x.1) (fillB tp28.b x.2) κ
    = b28 f29 (⟨x.2.1.1, x.2.1.2.1, x.2.1.2.2.1, x.2.1.2.2.2.1⟩ : S98) (fun r => κ (.v (.c (.int .i64 r))) (fillB tp28.b x.2)) := by kernel_rfl
theorem hF28 {R : Type} (f29 : Y29) (h29 : ∀ rest : Fn U R, SoundF Try.prog 29 rest → SoundF Try.prog 29 (e29 f29 rest)) : ∀ g, Sound Try.prog (F28 f29 : Nat → Fn U R) g := (Fc_sound (h29 _ fz_sound) Fz_sound)
theorem q28 {R : Type} (f29 : Y29) (h29 : ∀ rest : Fn U R, SoundF Try.prog 29 rest → SoundF Try.prog 29 (e29 f29 rest)) {rest : Fn U R} (hr : SoundF Try.prog 28 rest) : SoundF Try.prog 28 (e28 (fun p0 => b28 f29 p0 some) rest) :=
  ent_sound uok mixed (fn := Try.f28) (by kernel_rfl) (by kernel_rfl) (hF28 f29 h29) (L := L28) (fn_loops (ls := []) (by kernel_rfl) all_nil) hr (fun x κ => (n28 f29 (⟨x.2.1.1, x.2.1.2.1, x.2.1.2.2.1, x.2.1.2.2.2.1⟩ : S98) some _).trans (t28 f29 x κ).symm)
def F108 {R : Type} (f25 : Y25) (f26 : Y26) : Nat → Fn U R := (Fc 25 (e25 f25 (Fz 25)) (Fc 26 (e26 f26 (Fz 26)) Fz))
def st108_3 : StT := ⟨[.c (.p 0 0), .c .u, .c (.p 1 0), .c .u, .c (.i .i64), .c .u, .c .u, .c .u, .c .u, .c .u, .c .u, .c (.l 5), .c (.i .i64), .c (.i .i64), .c .u, .c .u, .c .u, .c .u, .c .u, .c .u, .c .u, .c .u, .c .u, .c .u, .c .u, .c .u, .c .u, .c .u, .c .u, .c .u, .c .u, .c .u, .c .u, .c .u, .c .u, .c .u, .c .u, .c .u, .c .u, .c .u, .c .u, .c .u, .c .u], [[.l 5, .l 51, .i .i64, .i .i64], [.i .i64, .i .i64, .i .i64, .s, .s, .nn]], [], 0⟩
def h108_3 {R : Type} (l : Z108_3) : SX U st108_3 → (Out → St U → Option R) → Option R := fun x k => (l x.1.2.2.1 x.1.2.1 x.1.1 x.1.2.2.2.1).bind (Sum.elim (fun o => k .ret ⟨[.v (.c (.ptr 0 0)), ud, .v (.c (.ptr 1 0)), .v (.c (.int .i64 o.2.2.1)), .v (.c (.int .i64 o.1)), ud, ud, ud, ud, ud, ud, .v (.c (.sl 5 x.1.2.1)), .v (.c (.int .i64 x.1.2.2.1)), .v (.c (.int .i64 o.2.1)), ud, ud, ud, ud, ud, ud, ud, ud, ud, ud, ud, ud, ud, ud, ud, ud, ud, ud, ud, ud, ud, ud, ud, ud, ud, ud, ud, ud, ud], [[.sl 5 x.2.1.1.1, .sl 51 x.2.1.1.2.1, .int .i64 x.2.1.1.2.2.1, .int .i64 x.2.1.1.2.2.2.1], [.int .i64 o.2.2.2.1, .int .i64 o.2.2.2.2.1, .int .i64 o.2.2.2.2.2.1, .str o.2.2.2.2.2.2.1, .str o.2.2.2.2.2.2.2, .nils]], [], 0⟩) (fun o => k (.exit 0) ⟨[.v (.c (.ptr 0 0)), ud, .v (.c (.ptr 1 0)), ud, .v (.c (.int .i64 o.1)), ud, ud, ud, ud, ud, ud, .v (.c (.sl 5 x.1.2.1)), .v (.c (.int .i64 x.1.2.2.1)), .v (.c (.int .i64 o.2)), ud, ud, ud, ud, ud, ud, ud, ud, ud, ud, ud, ud, ud, ud, ud, ud, ud, ud, ud, ud, ud, ud, ud, ud, ud, ud, ud, ud, ud], [[.sl 5 x.2.1.1.1, .sl 51 x.2.1.1.2.1, .int .i64 x.2.1.1.2.2.1, .int .i64 x.2.1.1.2.2.2.1], [.int .i64 x.2.1.2.1.1, .int .i64 x.2.1.2.1.2.1, .int .i64 x.2.1.2.1.2.2.1, .str x.2.1.2.1.2.2.2.1, .str x.2.1.2.1.2.2.2.2.1, .nils]], [], 0⟩))
def wd108_3 : List Wd := [.drop 1, .drop 3, .drop 5, .drop 6, .drop 7, .drop 8, .drop 9, .drop 10, .drop 14, .drop 15, .drop 16, .drop 17, .drop 18, .drop 19, .drop 20, .drop 21, .drop 22, .drop 23, .drop 24, .drop 25, .drop 26, .drop 27, .drop 28, .drop 29, .drop 30, .drop 31, .drop 32, .drop 33, .drop 34, .drop 35, .drop 36, .drop 37, .drop 38, .drop 39, .drop 40, .drop 41, .drop 42]
def L108 {R : Type} (l3 : Z108_3) : Hn U R := fun key σ k => bif Nat.beq key 3 then hnd wd108_3 st108_3 (h108_3 l3) σ k else none
set_option maxRecDepth 100000 in
theorem tl108_3 {R : Type} (f25 : Y25) (f26 : Y26) (l3 : Z108_3) (x0 x : SX U st108_3) (k : Out → St U → Option R) (n : Nat) : loopN [3] [] (fun σ k => ev (F108 f25 f26) (L108 l3) (lpAt Try.f108 0) σ k) (fillSt st108_3 x0) k (n + 1) (fillSt st108_3 x)
    = lb108_3 f25 f26 x.1.2.2.1 x.1.2.1 (fun v12 v15 => loopN [3] [] (fun σ k => ev (F108 f25 f26) (L108 l3) (lpAt Try.f108 0) σ k) (fillSt st108_3 x0) k n (fillSt st108_3 (((v12, x.1.2.1, x.1.2.2.1, v15, ()), ((x.2.1.1.1, x.2.1.1.2.1, x.2.1.1.2.2.1, x.2.1.1.2.2.2.1, ()), (x.2.1.2.1.1, x.2.1.2.1.2.1, x.2.1.2.1.2.2.1, x.2.1.2.1.2.2.2.1, x.2.1.2.1.2.2.2.2.1, ()), ()), ()) : SX U st108_3))) (fun o => k .ret ⟨[.v (.c (.ptr 0 0)), ud, .v (.c (.ptr 1 0)), .v (.c (.int .i64 o.2.2.1)), .v (.c (.int .i64 o.1)), ud, ud, ud, ud, ud, ud, .v (.c (.sl 5 x.1.2.1)), .v (.c (.int .i64 x.1.2.2.1)), .v (.c (.int .i64 o.2.1)), ud, ud, ud, ud, ud, ud, ud, ud, ud, ud, ud, ud, ud, ud, ud, ud, ud, ud, ud, ud, ud, ud, ud, ud, ud, ud, ud, ud, ud], [[.sl 5 x.2.1.1.1, .sl 51 x.2.1.1.2.1, .int .i64 x.2.1.1.2.2.1, .int .i64 x.2.1.1.2.2.2.1], [.int .i64 o.2.2.2.1, .int .i64 o.2.2.2.2.1, .int .i64 o.2.2.2.2.2.1, .str o.2.2.2.2.2.2.1, .str o.2.2.2.2.2.2.2, .nils]], [], 0⟩) (fun o => k (.exit 0) ⟨[.v (.c (.ptr 0 0)), ud, .v (.c (.ptr 1 0)), ud, .v (.c (.int .i64 o.1)), ud, ud, ud, ud, ud, ud, .v (.c (.sl 5 x.1.2.1)), .v (.c (.int .i64 x.1.2.2.1)), .v (.c (.int .i64 o.2)), ud, ud, ud, ud, ud, ud, ud, ud, ud, ud, ud, ud, ud, ud, ud, ud, ud, ud, ud, ud, ud, ud, ud, ud, ud, ud, ud, ud, ud], [[.sl 5 x.2.1.1.1, .sl 51 x.2.1.1.2.1, .int .i64 x.2.1.1.2.2.1, .int .i64 x.2.1.1.2.2.2.1], [.int .i64 x.2.1.2.1.1, .int .i64 x.2.1.2.1.2.1, .int .i64 x.2.1.2.1.2.2.1, .str x.2.1.2.1.2.2.2.1, .str x.2.1.2.1.2.2.2.2.1, .nils]], [], 0⟩) x.1.1 x.1.2.2.2.1 := by kernel_rfl
theorem nb108_3 {R S : Type} (f25 : Y25) (f26 : Y26) (q14 : Int) (q13 : List Int) (c : Int → Int → Option R) (e0 : (Int × Int × Int × Int × Int × Int × ByteArray × ByteArray) → Option R) (e1 : (Int × Int) → Option R) (v12 : Int) (v15 : Int) (K : R → Option S) : (lb108_3 f25 f26 q14 q13 c e0 e1 v12 v15).bind K = lb108_3 f25 f26 q14 q13 (fun v12 v15 => (c v12 v15).bind K) (fun o => (e0 o).bind K) (fun o => (e1 o).bind K) v12 v15 := by
  unfold lb108_3
  simp only [bind_cond, bind_when, bind_elim, Option.bind_assoc, bind_none]
set_option maxHeartbeats 1000000 in
theorem ll108_3 {R : Type} (f25 : Y25) (f26 : Y26) (l3 : Z108_3) (x0 : SX U st108_3) (k : Out → St U → Option R) : ∀ (n : Nat) (x : SX U st108_3), loopN [3] [] (fun σ k => ev (F108 f25 f26) (L108 l3) (lpAt Try.f108 0) σ k) (fillSt st108_3 x0) k n (fillSt st108_3 x)
    = h108_3 (lp108_3 f25 f26 n) x k := by
  intro n
  induction n with
  | zero => intro x; kernel_rfl
  | succ n ih =>
    intro x
    have h2 := congrArg (fun c => lb108_3 f25 f26 x.1.2.2.1 x.1.2.1 c (fun o => k .ret ⟨[.v (.c (.ptr 0 0)), ud, .v (.c (.ptr 1 0)), .v (.c (.int .i64 o.2.2.1)), .v (.c (.int .i64 o.1)), ud, ud, ud, ud, ud, ud, .v (.c (.sl 5 x.1.2.1)), .v (.c (.int .i64 x.1.2.2.1)), .v (.c (.int .i64 o.2.1)), ud, ud, ud, ud, ud, ud, ud, ud, ud, ud, ud, ud, ud, ud, ud, ud, ud, ud, ud, ud, ud, ud, ud, ud, ud, ud, ud, ud, ud], [[.sl 5 x.2.1.1.1, .sl 51 x.2.1.1.2.1, .int .i64 x.2.1.1.2.2.1, .int .i64 x.2.1.1.2.2.2.1], [.int .i64 o.2.2.2.1, .int .i64 o.2.2.2.2.1, .int .i64 o.2.2.2.2.2.1, .str o.2.2.2.2.2.2.1, .str o.2.2.2.2.2.2.2, .nils]], [], 0⟩) (fun o => k (.exit 0) ⟨[.v (.c (.ptr 0 0)), ud, .v (.c (.ptr 1 0)), ud, .v (.c (.int .i64 o.1)), ud, ud, ud, ud, ud, ud, .v (.c (.sl 5 x.1.2.1)), .v (.c (.int .i64 x.1.2.2.1)), .v (.c (.int .i64 o.2)), ud, ud, ud, ud, ud, ud, ud, ud, ud, ud, ud, ud, ud, ud, ud, ud, ud, ud, ud, ud, ud, ud, ud, ud, ud, ud, ud, ud, ud], [[.sl 5 x.2.1.1.1, .sl 51 x.2.1.1.2.1, .int .i64 x.2.1.1.2.2.1, .int .i64 x.2.1.1.2.2.2.1], [.int .i64 x.2.1.2.1.1, .int .i64 x.2.1.2.1.2.1, .int .i64 x.2.1.2.1.2.2.1, .str x.2.1.2.1.2.2.2.1, .str x.2.1.2.1.2.2.2.2.1, .nils]], [], 0⟩) x.1.1 x.1.2.2.2.1) (funext fun v12 => (funext fun v15 => ih (((v12, x.1.2.1, x.1.2.2.1, v15, ()), ((x.2.1.1.1, x.2.1.1.2.1, x.2.1.1.2.2.1, x.2.1.1.2.2.2.1, ()), (x.2.1.2.1.1, x.2.1.2.1.2.1, x.2.1.2.1.2.2.1, x.2.1.2.1.2.2.2.1, x.2.1.2.1.2.2.2.2.1, ()), ()), ()) : SX U st108_3)))
    exact kcast (by kernel_rfl) (chain3 (tl108_3 f25 f26 l3 x0 x k n) h2 (nb108_3 f25 f26 x.1.2.2.1 x.1.2.1 (fun v12 v15 => lp108_3 f25 f26 n x.1.2.2.1 x.1.2.1 v12 v15) (fun o => some (Sum.inl o)) (fun o => some (Sum.inr (o))) x.1.1 x.1.2.2.2.1 (Sum.elim (fun o => k .ret ⟨[.v (.c (.ptr 0 0)), ud, .v (.c (.ptr 1 0)), .v (.c (.int .i64 o.2.2.1)), .v (.c (.int .i64 o.1)), ud, ud, ud, ud, ud, ud, .v (.c (.sl 5 x.1.2.1)), .v (.c (.int .i64 x.1.2.2.1)), .v (.c (.int .i64 o.2.1)), ud, ud, ud, ud, ud, ud, ud, ud, ud, ud, ud, ud, ud, ud, ud, ud, ud, ud, ud, ud, ud, ud, ud, ud, ud, ud, ud, ud, ud], [[.sl 5 x.2.1.1.1, .sl 51 x.2.1.1.2.1, .int .i64 x.2.1.1.2.2.1, .int .i64 x.2.1.1.2.2.2.1], [.int .i64 o.2.2.2.1, .int .i64 o.2.2.2.2.1, .int .i64 o.2.2.2.2.2.1, .str o.2.2.2.2.2.2.1, .str o.2.2.2.2.2.2.2, .nils]], [], 0⟩) (fun o => k (.exit 0) ⟨[.v (.c (.ptr 0 0)), ud, .v (.c (.ptr 1 0)), ud, .v (.c (.int .i64 o.1)), ud, ud, ud, ud, ud, ud, .v (.c (.sl 5 x.1.2.1)), .v (.c (.int .i64 x.1.2.2.1)), .v (.c (.int .i64 o.2)), ud, ud, ud, ud, ud, ud, ud, ud, ud, ud, ud, ud, ud, ud, ud, ud, ud, ud, ud, ud, ud, ud, ud, ud, ud, ud, ud, ud, ud], [[.sl 5 x.2.1.1.1, .sl 51 x.2.1.1.2.1, .int .i64 x.2.1.1.2.2.1, .int .i64 x.2.1.1.2.2.2.1], [.int .i64 x.2.1.2.1.1, .int .i64 x.2.1.2.1.2.1, .int .i64 x.2.1.2.1.2.2.1, .str x.2.1.2.1.2.2.2.1, .str x.2.1.2.1.2.2.2.2.1, .nils]], [], 0⟩))).symm (by kernel_rfl) (by kernel_rfl))
theorem n108 {R S : Type} (f25 : Y25) (f26 : Y26) (l3 : Z108_3) (p0 : S98) (k : (S27 × Int × S98) → Option R) (K : R → Option S) : (b108 f25 f26 l3 p0 k).bind K = b108 f25 f26 l3 p0 (fun r => (k r).bind K) := by
  unfold b108
  simp only [bind_cond, bind_when, bind_elim, Option.bind_assoc, bind_none]
set_option maxRecDepth 100000 in
theorem t108 {R : Type} (f25 : Y25) (f26 : Y26) (l3 : Z108_3) (x : AX U tp108) (κ : U.D → List (List U.C) → Option R) : evFn (F108 f25 f26) (L108 l3) (U.ro 108) (U.rnew 108) Try.f108 (fillS tp108.a x.1) (fillB tp108.b x.2) κ
    = b108 f25 f26 l3 (⟨x.2.1.1, x.2.1.2.1, x.2.1.2.2.1, x.2.1.2.2.2.1⟩ : S98) (fun r => κ (.tup [.agg [.int .i64 r.1.c0, .int .i64 r.1.c1, .int .i64 r.1.c2, .str r.1.c3, .str r.1.c4, .sl 27 r.1.c5], .c (.int .i64 r.2.1)]) [[.sl 5 r.2.2.c0, .sl 51 r.2.2.c1, .int .i64 r.2.2.c2, .int .i64 r.2.2.c3]]) := by kernel_rfl
theorem hF108 {R : Type} (f25 : Y25) (f26 : Y26) (h25 : ∀ rest : Fn U R, SoundF Try.prog 25 rest → SoundF Try.prog 25 (e25 f25 rest)) (h26 : ∀ rest : Fn U R, SoundF Try.prog 26 rest → SoundF Try.prog 26 (e26 f26 rest)) : ∀ g, Sound Try.prog (F108 f25 f26 : Nat → Fn U R) g := (Fc_sound (h25 _ fz_sound) (Fc_sound (h26 _ fz_sound) Fz_sound))
theorem lok108_3 {R : Type} (f25 : Y25) (f26 : Y26) (h25 : ∀ rest : Fn U R, SoundF Try.prog 25 rest → SoundF Try.prog 25 (e25 f25 rest)) (h26 : ∀ rest : Fn U R, SoundF Try.prog 26 rest → SoundF Try.prog 26 (e26 f26 rest)) : LoopOk Try.prog (L108 (lp108_3 f25 f26 big) : Hn U R) (lpAt Try.f108 0) :=
  hnd_ok uok (hF108 f25 f26 h25 h26) mixed (loops_of (ls := []) (by kernel_rfl) all_nil) (key := 3) (by kernel_rfl) (ws0 := wd108_3) (t := st108_3) (f := h108_3 (lp108_3 f25 f26 big)) (ws := []) (keep := [3]) (fun σ k => by kernel_rfl) (n := big) (fun x k => (ll108_3 f25 f26 (lp108_3 f25 f26 big) x k big x).symm)
theorem q108 {R : Type} (f25 : Y25) (f26 : Y26) (h25 : ∀ rest : Fn U R, SoundF Try.prog 25 rest → SoundF Try.prog 25 (e25 f25 rest)) (h26 : ∀ rest : Fn U R, SoundF Try.prog 26 rest → SoundF Try.prog 26 (e26 f26 rest)) {rest : Fn U R} (hr : SoundF Try.prog 108 rest) : SoundF Try.prog 108 (e108 (fun p0 => b108 f25 f26 (lp108_3 f25 f26 big) p0 some) rest) :=
  entw_sound uok mixed (by kernel_rfl) (fn := Try.f108) (by kernel_rfl) (by kernel_rfl) (hF108 f25 f26 h25 h26) (L := L108 (lp108_3 f25 f26 big)) (fn_loops (ls := [lpAt Try.f108 0]) (by kernel_rfl) (all_cons (lok108_3 f25 f26 h25 h26) all_nil)) hr (fun x κ => (n108 f25 f26 (lp108_3 f25 f26 big) (⟨x.2.1.1, x.2.1.2.1, x.2.1.2.2.1, x.2.1.2.2.2.1⟩ : S98) some _).trans (t108 f25 f26 (lp108_3 f25 f26 big) x κ).symm)
def F99 {R : Type} : Nat → Fn U R := Fz
def L99 {R : Type} : Hn U R := fun key σ k => none
theorem n99 {R S : Type} (p0 : S98) (k : (Int × S98) → Option R) (K : R → Option S) : (b99 p0 k).bind K = b99 p0 (fun r => (k r).bind K) := by
  unfold b99
  simp only [bind_cond, bind_when, bind_elim, Option.bind_assoc, bind_none]
set_option maxRecDepth 100000 in
theorem t99 {R : Type} (x : AX U tp99) (κ : U.D → List (List U.C) → Option R) : evFn (F99) (L99) (U.ro 99) (U.rnew 99) Try.f99 (fillS tp99.a x.1) (fillB tp99.b x.2) κ
    = b99 (⟨x.2.1.1, x.2.1.2.1, x.2.1.2.2.1, x.2.1.2.2.2.1⟩ : S98) (fun r => κ (.v (.c (.int .i64 r.1))) [[.sl 5 r.2.c0, .sl 51 r.2.c1, .int .i64 r.2.c2, .int .i64 r.2.c3]]) := by kernel_rfl
theorem hF99 {R : Type} : ∀ g, Sound Try.prog (F99 : Nat → Fn U R) g := Fz_sound
theorem q99 {R : Type} {rest : Fn U R} (hr : SoundF Try.prog 99 rest) : SoundF Try.prog 99 (e99 (fun p0 => b99 p0 some) rest) :=
  entw_sound uok mixed (by kernel_rfl) (fn := Try.f99) (by kernel_rfl) (by kernel_rfl) (hF99) (L := L99) (fn_loops (ls := []) (by kernel_rfl) all_nil) hr (fun x κ => (n99 (⟨x.2.1.1, x.2.1.2.1, x.2.1.2.2.1, x.2.1.2.2.2.1⟩ : S98) some _).trans (t99 x κ).symm)
def F113 {R : Type} (f30 : Y30) : Nat → Fn U R := (Fc 30 (e30 f30 (Fz 30)) Fz)
def L113 {R : Type} : Hn U R := fun key σ k => none
theorem n113 {R S : Type} (f30 : Y30) (p0 : S98) (k : (Int × S98) → Option R) (K : R → Option S) : (b113 f30 p0 k).bind K = b113 f30 p0 (fun r => (k r).bind K) := by
  unfold b113
  simp only [bind_cond, bind_when, bind_elim, Option.bind_assoc, bind_none]
set_option maxRecDepth 100000 in
theorem t113 {R : Type} (f30 : Y30) (x : AX U tp113) (κ : U.D → List (List U.C) → Option R) : evFn (F113 f30) (L113) (U.ro 113) (U.rnew 113) Try.f113 (fillS tp113.a x.1) (fillB tp113.b x.2) κ
    = b113 f30 (⟨x.2.1.1, x.2.1.2.1, x.2.1.2.2.1, x.2.1.2.2.2.1⟩ : S98) (fun r => κ (.v (.c (.int .i64 r.1))) [[.sl 5 r.2.c0, .sl 51 r.2.c1, .int .i64 r.2.c2, .int .i64 r.2.c3]]) := by kernel_rfl
theorem hF113 {R : Type} (f30 : Y30) (h30 : ∀ rest : Fn U R, SoundF Try.prog 30 rest → SoundF Try.prog 30 (e30 f30 rest)) : ∀ g, Sound Try.prog (F113 f30 : Nat → Fn U R) g := (Fc_sound (h30 _ fz_sound) Fz_sound)
theorem q113 {R : Type} (f30 : Y30) (h30 : ∀ rest : Fn U R, SoundF Try.prog 30 rest → SoundF Try.prog 30 (e30 f30 rest)) {rest : Fn U R} (hr : SoundF Try.prog 113 rest) : SoundF Try.prog 113 (e113 (fun p0 => b113 f30 p0 some) rest) :=
  entw_sound uok mixed (by kernel_rfl) (fn := Try.f113) (by kernel_rfl) (by kernel_rfl) (hF113 f30 h30) (L := L113) (fn_loops (ls := []) (by kernel_rfl) all_nil) hr (fun x κ => (n113 f30 (⟨x.2.1.1, x.2.1.2.1, x.2.1.2.2.1, x.2.1.2.2.2.1⟩ : S98) some _).trans (t113 f30 x κ).symm)
def F84 {R : Type} : Nat → Fn U R := Fz
def L84 {R : Type} : Hn U R := fun key σ k => none
theorem n84 {R S : Type} (p0 : ByteArray) (k : Int → Option R) (K : R → Option S) : (b84 p0 k).bind K = b84 p0 (fun r => (k r).bind K) := by
  unfold b84
  simp only [bind_cond, bind_when, bind_elim, Option.bind_assoc, bind_none]
set_option maxRecDepth 100000 in
theorem t84 {R : Type} (x : AX U tp84) (κ : U.D → List (List U.C) → Option R) : evFn (F84) (L84) (U.ro 84) (U.rnew 84) Try.f84 (fillS tp84.a x.1) (fillB tp84.b x.2) κ
    = b84 x.1.1 (fun r => κ (.v (.c (.int .i64 r))) []) := by kernel_rfl
theorem hF84 {R : Type} : ∀ g, Sound Try.prog (F84 : Nat → Fn U R) g := Fz_sound
theorem q84 {R : Type} {rest : Fn U R} (hr : SoundF Try.prog 84 rest) : SoundF Try.prog 84 (e84 (fun p0 => b84 p0 some) rest) :=
  ent_sound uok mixed (fn := Try.f84) (by kernel_rfl) (by kernel_rfl) (hF84) (L := L84) (fn_loops (ls := []) (by kernel_rfl) all_nil) hr (fun x κ => (n84 x.1.1 some _).trans (t84 x κ).symm)
def F63 {R : Type} (f25 : Y25) (f63 : Y63) (f83 : Y83) (f84 : Y84) (f85 : Y85) : Nat → Fn U R := (Fc 25 (e25 f25 (Fz 25)) (Fc 63 (e63 f63 (Fz 63)) (Fc 83 (e83 f83 (Fz 83)) (Fc 84 (e84 f84 (Fz 84)) (Fc 85 (e85 f85 (Fz 85)) Fz)))))
def st63_4 : StT := ⟨[.c (.p 0 0), .c (.i .i64), .c .u, .c .u, .c (.p 1 0), .c .u, .c (.p 2 0), .c (.i .i64), .c .u, .c .u, .c .u, .c .u, .c .u, .c .u, .c .u, .c .u, .c .u, .c .u, .c .u, .c .u, .c .u, .c .u, .c .u, .c .u, .c .u, .c .u, .c .u, .c .u, .c .u, .c .u, .c .u, .c .u, .c .u, .c .u, .c .u, .c .u, .c .u, .c .u, .c .u, .c .u, .c .u, .c .u, .c .u, .c .u, .c .u, .c .u, .c .u, .c .u, .c .u, .c .u, .c .u, .c .u, .c .u, .c .u, .c .u, .c .u, .c .u, .c .u, .c .u, .c .u, .c .u, .c .u, .c .u, .c .u, .c .u, .c .u, .c .u, .c .u, .c .u, .c .u, .c .u, .c .u, .c .u], [[.l 5, .l 51, .i .i64, .i .i64], [.i .i64, .i .i64, .i .i64, .s, .s, .nn], [.i .i64, .i .i64, .i .i64, .s, .s, .l 27]], [], 0⟩
def h63_4 {R : Type} (l : Z63_4) : SX U st63_4 → (Out → St U → Option R) → Option R := fun x k => (l x.1.1 x.1.2.1 x.2.1.1.1 x.2.1.1.2.1 x.2.1.1.2.2.1 x.2.1.1.2.2.2.1 x.2.1.2.2.1.1 x.2.1.2.2.1.2.1 x.2.1.2.2.1.2.2.1 x.2.1.2.2.1.2.2.2.1 x.2.1.2.2.1.2.2.2.2.1 x.2.1.2.2.1.2.2.2.2.2.1).bind (fun o => k (.exit 0) ⟨[.v (.c (.ptr 0 0)), .v (.c (.int .i64 x.1.1)), ud, ud, .v (.c (.ptr 1 0)), ud, .v (.c (.ptr 2 0)), .v (.c (.int .i64 o.1)), ud, ud, ud, ud, ud, ud, ud, ud, ud, ud, ud, ud, ud, ud, ud, ud, ud, ud, ud, ud, ud, ud, ud, ud, ud, ud, ud, ud, ud, ud, ud, ud, ud, ud, ud, ud, ud, ud, ud, ud, ud, ud, ud, ud, ud, ud, ud, ud, ud, ud, ud, ud, ud, ud, ud, ud, ud, ud, ud, ud, ud, ud, ud, ud, ud], [[.sl 5 o.2.1, .sl 51 o.2.2.1, .int .i64 o.2.2.2.1, .int .i64 o.2.2.2.2.1], [.int .i64 x.2.1.2.1.1, .int .i64 x.2.1.2.1.2.1, .int .i64 x.2.1.2.1.2.2.1, .str x.2.1.2.1.2.2.2.1, .str x.2.1.2.1.2.2.2.2.1, .nils], [.int .i64 o.2.2.2.2.2.1, .int .i64 o.2.2.2.2.2.2.1, .int .i64 o.2.2.2.2.2.2.2.1, .str o.2.2.2.2.2.2.2.2.1, .str o.2.2.2.2.2.2.2.2.2.1, .sl 27 o.2.2.2.2.2.2.2.2.2.2]], [], 0⟩)
def wd63_4 : List Wd := [.drop 2, .drop 3, .drop 5, .drop 8, .drop 9, .drop 10, .drop 11, .drop 12, .drop 13, .drop 14, .drop 15, .drop 16, .drop 17, .drop 18, .drop 19, .drop 20, .drop 21, .drop 22, .drop 23, .drop 24, .drop 25, .drop 26, .drop 27, .drop 28, .drop 29, .drop 30, .drop 31, .drop 32, .drop 33, .drop 34, .drop 35, .drop 36, .drop 37, .drop 38, .drop 39, .drop 40, .drop 41, .drop 42, .drop 43, .drop 44, .drop 45, .drop 46, .drop 47, .drop 48, .drop 49, .drop 50, .drop 51, .drop 52, .drop 53, .drop 54, .drop 55, .drop 56, .drop 57, .drop 58, .drop 59, .drop 60, .drop 61, .drop 62, .drop 63, .drop 64, .drop 65, .drop 66, .drop 67, .drop 68, .drop 69, .drop 70, .drop 71, .drop 72]
def L63 {R : Type} (l4 : Z63_4) : Hn U R := fun key σ k => bif Nat.beq key 4 then hnd wd63_4 st63_4 (h63_4 l4) σ k else none
set_option maxRecDepth 100000 in
theorem tl63_4 {R : Type} (f25 : Y25) (f63 : Y63) (f83 : Y83) (f84 : Y84) (f85 : Y85) (l4 : Z63_4) (x0 x : SX U st63_4) (k : Out → St U → Option R) (n : Nat) : loopN [5] [] (fun σ k => ev (F63 f25 f63 f83 f84 f85) (L63 l4) (lpAt Try.f63 0) σ k) (fillSt st63_4 x0) k (n + 1) (fillSt st63_4 x)
    = lb63_4 f25 f63 f83 f84 f85 x.1.1 (fun v18 v19 v20 v21 v22 v28 v29 v30 v31 v32 v33 => loopN [5] [] (fun σ k => ev (F63 f25 f63 f83 f84 f85) (L63 l4) (lpAt Try.f63 0) σ k) (fillSt st63_4 x0) k n (fillSt st63_4 (((x.1.1, v18, ()), ((v19, v20, v21, v22, ()), (x.2.1.2.1.1, x.2.1.2.1.2.1, x.2.1.2.1.2.2.1, x.2.1.2.1.2.2.2.1, x.2.1.2.1.2.2.2.2.1, ()), (v28, v29, v30, v31, v32, v33, ()), ()), ()) : SX U st63_4))) (fun o => k (.exit 0) ⟨[.v (.c (.ptr 0 0)), .v (.c (.int .i64 x.1.1)), ud, ud, .v (.c (.ptr 1 0)), ud, .v (.c (.ptr 2 0)), .v (.c (.int .i64 o.1)), ud, ud, ud, ud, ud, ud, ud, ud, ud, ud, ud, ud, ud, ud, ud, ud, ud, ud, ud, ud, ud, ud, ud, ud, ud, ud, ud, ud, ud, ud, ud, ud, ud, ud, ud, ud, ud, ud, ud, ud, ud, ud, ud, ud, ud, ud, ud, ud, ud, ud, ud, ud, ud, ud, ud, ud, ud, ud, ud, ud, ud, ud, ud, ud, ud], [[.sl 5 o.2.1, .sl 51 o.2.2.1, .int .i64 o.2.2.2.1, .int .i64 o.2.2.2.2.1], [.int .i64 x.2.1.2.1.1, .int .i64 x.2.1.2.1.2.1, .int .i64 x.2.1.2.1.2.2.1, .str x.2.1.2.1.2.2.2.1, .str x.2.1.2.1.2.2.2.2.1, .nils], [.int .i64 o.2.2.2.2.2.1, .int .i64 o.2.2.2.2.2.2.1, .int .i64 o.2.2.2.2.2.2.2.1, .str o.2.2.2.2.2.2.2.2.1, .str o.2.2.2.2.2.2.2.2.2.1, .sl 27 o.2.2.2.2.2.2.2.2.2.2]], [], 0⟩) x.1.2.1 x.2.1.1.1 x.2.1.1.2.1 x.2.1.1.2.2.1 x.2.1.1.2.2.2.1 x.2.1.2.2.1.1 x.2.1.2.2.1.2.1 x.2.1.2.2.1.2.2.1 x.2.1.2.2.1.2.2.2.1 x.2.1.2.2.1.2.2.2.2.1 x.2.1.2.2.1.2.2.2.2.2.1 := by kernel_rfl
theorem nb63_4 {R S : Type} (f25 : Y25) (f63 : Y63) (f83 : Y83) (f84 : Y84) (f85 : Y85) (q17 : Int) (c : Int → List Int → List S51 → Int → Int → Int → Int → Int → ByteArray → ByteArray → List S27 → Option R) (e0 : (Int × List Int × List S51 × Int × Int × Int × Int × Int × ByteArray × ByteArray × List S27) → Option R) (v18 : Int) (v19 : List Int) (v20 : List S51) (v21 : Int) (v22 : Int) (v28 : Int) (v29 : Int) (v30 : Int) (v31 : ByteArray) (v32 : ByteArray) (v33 : List S27) (K : R → Option S) : (lb63_4 f25 f63 f83 f84 f85 q17 c e0 v18 v19 v20 v21 v22 v28 v29 v30 v31 v32 v33).bind K = lb63_4 f25 f63 f83 f84 f85 q17 (fun v18 v19 v20 v21 v22 v28 v29 v30 v31 v32 v33 => (c v18 v19 v20 v21 v22 v28 v29 v30 v31 v32 v33).bind K) (fun o => (e0 o).bind K) v18 v19 v20 v21 v22 v28 v29 v30 v31 v32 v33 := by
  unfold lb63_4
  simp only [bind_cond, bind_when, bind_elim, Option.bind_assoc, bind_none]
set_option maxHeartbeats 1000000 in
theorem ll63_4 {R : Type} (f25 : Y25) (f63 : Y63) (f83 : Y83) (f84 : Y84) (f85 : Y85) (l4 : Z63_4) (x0 : SX U st63_4) (k : Out → St U → Option R) : ∀ (n : Nat) (x : SX U st63_4), loopN [5] [] (fun σ k => ev (F63 f25 f63 f83 f84 f85) (L63 l4) (lpAt Try.f63 0) σ k) (fillSt st63_4 x0) k n (fillSt st63_4 x)
    = h63_4 (lp63_4 f25 f63 f83 f84 f85 n) x k := by
  intro n
  induction n with
  | zero => intro x; kernel_rfl
  | succ n ih =>
    intro x
    have h2 := congrArg (fun c => lb63_4 f25 f63 f83 f84 f85 x.1.1 c (fun o => k (.exit 0) ⟨[.v (.c (.ptr 0 0)), .v (.c (.int .i64 x.1.1)), ud, ud, .v (.c (.ptr 1 0)), ud, .v (.c (.ptr 2 0)), .v (.c (.int .i64 o.1)), ud, ud, ud, ud, ud, ud, ud, ud, ud, ud, ud, ud, ud, ud, ud, ud, ud, ud, ud, ud, ud, ud, ud, ud, ud, ud, ud, ud, ud, ud, ud, ud, ud, ud, ud, ud, ud, ud, ud, ud, ud, ud, ud, ud, ud, ud, ud, ud, ud, ud, ud, ud, ud, ud, ud, ud, ud, ud, ud, ud, ud, ud, ud, ud, ud], [[.sl 5 o.2.1, .sl 51 o.2.2.1, .int .i64 o.2.2.2.1, .int .i64 o.2.2.2.2.1], [.int .i64 x.2.1.2.1.1, .int .i64 x.2.1.2.1.2.1, .int .i64 x.2.1.2.1.2.2.1, .str x.2.1.2.1.2.2.2.1, .str x.2.1.2.1.2.2.2.2.1, .nils], [.int .i64 o.2.2.2.2.2.1, .int .i64 o.2.2.2.2.2.2.1, .int .i64 o.2.2.2.2.2.2.2.1, .str o.2.2.2.2.2.2.2.2.1, .str o.2.2.2.2.2.2.2.2.2.1, .sl 27 o.2.2.2.2.2.2.2.2.2.2]], [], 0⟩) x.1.2.1 x.2.1.1.1 x.2.1.1.2.1 x.2.1.1.2.2.1 x.2.1.1.2.2.2.1 x.2.1.2.2.1.1 x.2.1.2.2.1.2.1 x.2.1.2.2.1.2.2.1 x.2.1.2.2.1.2.2.2.1 x.2.1.2.2.1.2.2.2.2.1 x.2.1.2.2.1.2.2.2.2.2.1) (funext fun v18 => (funext fun v19 => (funext fun v20 => (funext fun v21 => (funext fun v22 => (funext fun v28 => (funext fun v29 => (funext fun v30 => (funext fun v31 => (funext fun v32 => (funext fun v33 => ih (((x.1.1, v18, ()), ((v19, v20, v21, v22, ()), (x.2.1.2.1.1, x.2.1.2.1.2.1, x.2.1.2.1.2.2.1, x.2.1.2.1.2.2.2.1, x.2.1.2.1.2.2.2.2.1, ()), (v28, v29, v30, v31, v32, v33, ()), ()), ()) : SX U st63_4))))))))))))
    exact kcast (by kernel_rfl) (chain3 (tl63_4 f25 f63 f83 f84 f85 l4 x0 x k n) h2 (nb63_4 f25 f63 f83 f84 f85 x.1.1 (fun v18 v19 v20 v21 v22 v28 v29 v30 v31 v32 v33 => lp63_4 f25 f63 f83 f84 f85 n x.1.1 v18 v19 v20 v21 v22 v28 v29 v30 v31 v32 v33) (fun o => some o) x.1.2.1 x.2.1.1.1 x.2.1.1.2.1 x.2.1.1.2.2.1 x.2.1.1.2.2.2.1 x.2.1.2.2.1.1 x.2.1.2.2.1.2.1 x.2.1.2.2.1.2.2.1 x.2.1.2.2.1.2.2.2.1 x.2.1.2.2.1.2.2.2.2.1 x.2.1.2.2.1.2.2.2.2.2.1 (fun o => k (.exit 0) ⟨[.v (.c (.ptr 0 0)), .v (.c (.int .i64 x.1.1)), ud, ud, .v (.c (.ptr 1 0)), ud, .v (.c (.ptr 2 0)), .v (.c (.int .i64 o.1)), ud, ud, ud, ud, ud, ud, ud, ud, ud, ud, ud, ud, ud, ud, ud, ud, ud, ud, ud, ud, ud, ud, ud, ud, ud, ud, ud, ud, ud, ud, ud, ud, ud, ud, ud, ud, ud, ud, ud, ud, ud, ud, ud, ud, ud, ud, ud, ud, ud, ud, ud, ud, ud, ud, ud, ud, ud, ud, ud, ud, ud, ud, ud, ud, ud], [[.sl 5 o.2.1, .sl 51 o.2.2.1, .int .i64 o.2.2.2.1, .int .i64 o.2.2.2.2.1], [.int .i64 x.2.1.2.1.1, .int .i64 x.2.1.2.1.2.1, .int .i64 x.2.1.2.1.2.2.1, .str x.2.1.2.1.2.2.2.1, .str x.2.1.2.1.2.2.2.2.1, .nils], [.int .i64 o.2.2.2.2.2.1, .int .i64 o.2.2.2.2.2.2.1, .int .i64 o.2.2.2.2.2.2.2.1, .str o.2.2.2.2.2.2.2.2.1, .str o.2.2.2.2.2.2.2.2.2.1, .sl 27 o.2.2.2.2.2.2.2.2.2.2]], [], 0⟩)).symm (by kernel_rfl) (by kernel_rfl))
theorem n63 {R S : Type} (f25 : Y25) (f63 : Y63) (f83 : Y83) (f84 : Y84) (f85 : Y85) (l4 : Z63_4) (p1 : Int) (p0 : S98) (k : (S27 × Int × S98) → Option R) (K : R → Option S) : (b63 f25 f63 f83 f84 f85 l4 p1 p0 k).bind K = b63 f25 f63 f83 f84 f85 l4 p1 p0 (fun r => (k r).bind K) := by
  unfold b63
  simp only [bind_cond, bind_when, bind_elim, Option.bind_assoc, bind_none]
set_option maxRecDepth 100000 in
theorem t63 {R : Type} (f25 : Y25) (f63 : Y63) (f83 : Y83) (f84 : Y84) (f85 : Y85) (l4 : Z63_4) (x : AX U tp63) (κ : U.D → List (List U.C) → Option R) : evFn (F63 f25 f63 f83 f84 f85) (L63 l4) (U.ro 63) (U.rnew 63) Try.f63 (fillS tp63.a x.1) (fillB tp63.b x.2) κ
    = b63 f25 f63 f83 f84 f85 l4 x.1.1 (⟨x.2.1.1, x.2.1.2.1, x.2.1.2.2.1, x.2.1.2.2.2.1⟩ : S98) (fun r => κ (.tup [.agg [.int .i64 r.1.c0, .int .i64 r.1.c1, .int .i64 r.1.c2, .str r.1.c3, .str r.1.c4, .sl 27 r.1.c5], .c (.int .i64 r.2.1)]) [[.sl 5 r.2.2.c0, .sl 51 r.2.2.c1, .int .i64 r.2.2.c2, .int .i64 r.2.2.c3]]) := by kernel_rfl
theorem hF63 {R : Type} (f25 : Y25) (f63 : Y63) (f83 : Y83) (f84 : Y84) (f85 : Y85) (h25 : ∀ rest : Fn U R, SoundF Try.prog 25 rest → SoundF Try.prog 25 (e25 f25 rest)) (h63 : ∀ rest : Fn U R, SoundF Try.prog 63 rest → SoundF Try.prog 63 (e63 f63 rest)) (h83 : ∀ rest : Fn U R, SoundF Try.prog 83 rest → SoundF Try.prog 83 (e83 f83 rest)) (h84 : ∀ rest : Fn U R, SoundF Try.prog 84 rest → SoundF Try.prog 84 (e84 f84 rest)) (h85 : ∀ rest : Fn U R, SoundF Try.prog 85 rest → SoundF Try.prog 85 (e85 f85 rest)) : ∀ g, Sound Try.prog (F63 f25 f63 f83 f84 f85 : Nat → Fn U R) g := (Fc_sound (h25 _ fz_sound) (Fc_sound (h63 _ fz_sound) (Fc_sound (h83 _ fz_sound) (Fc_sound (h84 _ fz_sound) (Fc_sound (h85 _ fz_sound) Fz_sound)))))
theorem lok63_4 {R : Type} (f25 : Y25) (f63 : Y63) (f83 : Y83) (f84 : Y84) (f85 : Y85) (h25 : ∀ rest : Fn U R, SoundF Try.prog 25 rest → SoundF Try.prog 25 (e25 f25 rest)) (h63 : ∀ rest : Fn U R, SoundF Try.prog 63 rest → SoundF Try.prog 63 (e63 f63 rest)) (h83 : ∀ rest : Fn U R, SoundF Try.prog 83 rest → SoundF Try.prog 83 (e83 f83 rest)) (h84 : ∀ rest : Fn U R, SoundF Try.prog 84 rest → SoundF Try.prog 84 (e84 f84 rest)) (h85 : ∀ rest : Fn U R, SoundF Try.prog 85 rest → SoundF Try.prog 85 (e85 f85 rest)) : LoopOk Try.prog (L63 (lp63_4 f25 f63 f83 f84 f85 big) : Hn U R) (lpAt Try.f63 0) :=
  hnd_ok uok (hF63 f25 f63 f83 f84 f85 h25 h63 h83 h84 h85) mixed (loops_of (ls := []) (by kernel_rfl) all_nil) (key := 4) (by kernel_rfl) (ws0 := wd63_4) (t := st63_4) (f := h63_4 (lp63_4 f25 f63 f83 f84 f85 big)) (ws := []) (keep := [5]) (fun σ k => by kernel_rfl) (n := big) (fun x k => (ll63_4 f25 f63 f83 f84 f85 (lp63_4 f25 f63 f83 f84 f85 big) x k big x).symm)
theorem q63 {R : Type} (f25 : Y25) (f63 : Y63) (f83 : Y83) (f84 : Y84) (f85 : Y85) (h25 : ∀ rest : Fn U R, SoundF Try.prog 25 rest → SoundF Try.prog 25 (e25 f25 rest)) (h63 : ∀ rest : Fn U R, SoundF Try.prog 63 rest → SoundF Try.prog 63 (e63 f63 rest)) (h83 : ∀ rest : Fn U R, SoundF Try.prog 83 rest → SoundF Try.prog 83 (e83 f83 rest)) (h84 : ∀ rest : Fn U R, SoundF Try.prog 84 rest → SoundF Try.prog 84 (e84 f84 rest)) (h85 : ∀ rest : Fn U R, SoundF Try.prog 85 rest → SoundF Try.prog 85 (e85 f85 rest)) {rest : Fn U R} (hr : SoundF Try.prog 63 rest) : SoundF Try.prog 63 (e63 (fun p1 p0 => b63 f25 f63 f83 f84 f85 (lp63_4 f25 f63 f83 f84 f85 big) p1 p0 some) rest) :=
  entw_sound uok mixed (by kernel_rfl) (fn := Try.f63) (by kernel_rfl) (by kernel_rfl) (hF63 f25 f63 f83 f84 f85 h25 h63 h83 h84 h85) (L := L63 (lp63_4 f25 f63 f83 f84 f85 big)) (fn_loops (ls := [lpAt Try.f63 0]) (by kernel_rfl) (all_cons (lok63_4 f25 f63 f83 f84 f85 h25 h63 h83 h84 h85) all_nil)) hr (fun x κ => (n63 f25 f63 f83 f84 f85 (lp63_4 f25 f63 f83 f84 f85 big) x.1.1 (⟨x.2.1.1, x.2.1.2.1, x.2.1.2.2.1, x.2.1.2.2.2.1⟩ : S98) some _).trans (t63 f25 f63 f83 f84 f85 (lp63_4 f25 f63 f83 f84 f85 big) x κ).symm)
def F83 {R : Type} (f25 : Y25) (f26 : Y26) (f83 : Y83) (f85 : Y85) (f98 : Y98) (f99 : Y99) : Nat → Fn U R := (Fc 25 (e25 f25 (Fz 25)) (Fc 26 (e26 f26 (Fz 26)) (Fc 83 (e83 f83 (Fz 83)) (Fc 85 (e85 f85 (Fz 85)) (Fc 98 (e98 f98 (Fz 98)) (Fc 99 (e99 f99 (Fz 99)) Fz))))))
def L83 {R : Type} : Hn U R := fun key σ k => none
theorem n83 {R S : Type} (f25 : Y25) (f26 : Y26) (f83 : Y83) (f85 : Y85) (f98 : Y98) (f99 : Y99) (p0 : S98) (k : (S27 × Int × S98) → Option R) (K : R → Option S) : (b83 f25 f26 f83 f85 f98 f99 p0 k).bind K = b83 f25 f26 f83 f85 f98 f99 p0 (fun r => (k r).bind K) := by
  unfold b83
  simp only [bind_cond, bind_when, bind_elim, Option.bind_assoc, bind_none]
set_option maxRecDepth 100000 in
theorem t83 {R : Type} (f25 : Y25) (f26 : Y26) (f83 : Y83) (f85 : Y85) (f98 : Y98) (f99 : Y99) (x : AX U tp83) (κ : U.D → List (List U.C) → Option R) : evFn (F83 f25 f26 f83 f85 f98 f99) (L83) (U.ro 83) (U.rnew 83) Try.f83 (fillS tp83.a x.1) (fillB tp83.b x.2) κ
    = b83 f25 f26 f83 f85 f98 f99 (⟨x.2.1.1, x.2.1.2.1, x.2.1.2.2.1, x.2.1.2.2.2.1⟩ : S98) (fun r => κ (.tup [.agg [.int .i64 r.1.c0, .int .i64 r.1.c1, .int .i64 r.1.c2, .str r.1.c3, .str r.1.c4, .sl 27 r.1.c5], .c (.int .i64 r.2.1)]) [[.sl 5 r.2.2.c0, .sl 51 r.2.2.c1, .int .i64 r.2.2.c2, .int .i64 r.2.2.c3]]) := by kernel_rfl
theorem hF83 {R : Type} (f25 : Y25) (f26 : Y26) (f83 : Y83) (f85 : Y85) (f98 : Y98) (f99 : Y99) (h25 : ∀ rest : Fn U R, SoundF Try.prog 25 rest → SoundF Try.prog 25 (e25 f25 rest)) (h26 : ∀ rest : Fn U R, SoundF Try.prog 26 rest → SoundF Try.prog 26 (e26 f26 rest)) (h83 : ∀ rest : Fn U R, SoundF Try.prog 83 rest → SoundF Try.prog 83 (e83 f83 rest)) (h85 : ∀ rest : Fn U R, SoundF Try.prog 85 rest → SoundF Try.prog 85 (e85 f85 rest)) (h98 : ∀ rest : Fn U R, SoundF Try.prog 98 rest → SoundF Try.prog 98 (e98 f98 rest)) (h99 : ∀ rest : Fn U R, SoundF Try.prog 99 rest → SoundF Try.prog 99 (e99 f99 rest)) : ∀ g, Sound Try.prog (F83 f25 f26 f83 f85 f98 f99 : Nat → Fn U R) g := (Fc_sound (h25 _ fz_sound) (Fc_sound (h26 _ fz_sound) (Fc_sound (h83 _ fz_sound) (Fc_sound (h85 _ fz_sound) (Fc_sound (h98 _ fz_sound) (Fc_sound (h99 _ fz_sound) Fz_sound))))))
theorem q83 {R : Type} (f25 : Y25) (f26 : Y26) (f83 : Y83) (f85 : Y85) (f98 : Y98) (f99 : Y99) (h25 : ∀ rest : Fn U R, SoundF Try.prog 25 rest → SoundF Try.prog 25 (e25 f25 rest)) (h26 : ∀ rest : Fn U R, SoundF Try.prog 26 rest → SoundF Try.prog 26 (e26 f26 rest)) (h83 : ∀ rest : Fn U R, SoundF Try.prog 83 rest → SoundF Try.prog 83 (e83 f83 rest)) (h85 : ∀ rest : Fn U R, SoundF Try.prog 85 rest → SoundF Try.prog 85 (e85 f85 rest)) (h98 : ∀ rest : Fn U R, SoundF Try.prog 98 rest → SoundF Try.prog 98 (e98 f98 rest)) (h99 : ∀ rest : Fn U R, SoundF Try.prog 99 rest → SoundF Try.prog 99 (e99 f99 rest)) {rest : Fn U R} (hr : SoundF Try.prog 83 rest) : SoundF Try.prog 83 (e83 (fun p0 => b83 f25 f26 f83 f85 f98 f99 p0 some) rest) :=
  entw_sound uok mixed (by kernel_rfl) (fn := Try.f83) (by kernel_rfl) (by kernel_rfl) (hF83 f25 f26 f83 f85 f98 f99 h25 h26 h83 h85 h98 h99) (L := L83) (fn_loops (ls := []) (by kernel_rfl) all_nil) hr (fun x κ => (n83 f25 f26 f83 f85 f98 f99 (⟨x.2.1.1, x.2.1.2.1, x.2.1.2.2.1, x.2.1.2.2.2.1⟩ : S98) some _).trans (t83 f25 f26 f83 f85 f98 f99 x κ).symm)
def F98 {R : Type} (f25 : Y25) (f26 : Y26) (f28 : Y28) (f108 : Y108) (f109 : Y109) (f110 : Y110) (f111 : Y111) : Nat → Fn U R := (Fc 25 (e25 f25 (Fz 25)) (Fc 26 (e26 f26 (Fz 26)) (Fc 28 (e28 f28 (Fz 28)) (Fc 108 (e108 f108 (Fz 108)) (Fc 109 (e109 f109 (Fz 109)) (Fc 110 (e110 f110 (Fz 110)) (Fc 111 (e111 f111 (Fz 111)) Fz)))))))
def L98 {R : Type} : Hn U R := fun key σ k => none
theorem n98 {R S : Type} (f25 : Y25) (f26 : Y26) (f28 : Y28) (f108 : Y108) (f109 : Y109) (f110 : Y110) (f111 : Y111) (p0 : S98) (k : (S27 × Int × S98) → Option R) (K : R → Option S) : (b98 f25 f26 f28 f108 f109 f110 f111 p0 k).bind K = b98 f25 f26 f28 f108 f109 f110 f111 p0 (fun r => (k r).bind K) := by
  unfold b98
  simp only [bind_cond, bind_when, bind_elim, Option.bind_assoc, bind_none]
set_option maxRecDepth 100000 in
theorem t98 {R : Type} (f25 : Y25) (f26 : Y26) (f28 : Y28) (f108 : Y108) (f109 : Y109) (f110 : Y110) (f111 : Y111) (x : AX U tp98) (κ : U.D → List (List U.C) → Option R) : evFn (F98 f25 f26 f28 f108 f109 f110 f111) (L98) (U.ro 98) (U.rnew 98) Try.f98 (fillS tp98.a x.1) (fillB tp98.b x.2) κ
    = b98 f25 f26 f28 f108 f109 f110 f111 (⟨x.2.1.1, x.2.1.2.1, x.2.1.2.2.1, x.2.1.2.2.2.1⟩ : S98) (fun r => κ (.tup [.agg [.int .i64 r.1.c0, .int .i64 r.1.c1, .int .i64 r.1.c2, .str r.1.c3, .str r.1.c4, .sl 27 r.1.c5], .c (.int .i64 r.2.1)]) [[.sl 5 r.2.2.c0, .sl 51 r.2.2.c1, .int .i64 r.2.2.c2, .int .i64 r.2.2.c3]]) := by kernel_rfl
theorem hF98 {R : Type} (f25 : Y25) (f26 : Y26) (f28 : Y28) (f108 : Y108) (f109 : Y109) (f110 : Y110) (f111 : Y111) (h25 : ∀ rest : Fn U R, SoundF Try.prog 25 rest → SoundF Try.prog 25 (e25 f25 rest)) (h26 : ∀ rest : Fn U R, SoundF Try.prog 26 rest → SoundF Try.prog 26 (e26 f26 rest)) (h28 : ∀ rest : Fn U R, SoundF Try.prog 28 rest → SoundF Try.prog 28 (e28 f28 rest)) (h108 : ∀ rest : Fn U R, SoundF Try.prog 108 rest → SoundF Try.prog 108 (e108 f108 rest)) (h109 : ∀ rest : Fn U R, SoundF Try.prog 109 rest → SoundF Try.prog 109 (e109 f109 rest)) (h110 : ∀ rest : Fn U R, SoundF Try.prog 110 rest → SoundF Try.prog 110 (e110 f110 rest)) (h111 : ∀ rest : Fn U R, SoundF Try.prog 111 rest → SoundF Try.prog 111 (e111 f111 rest)) : ∀ g, Sound Try.prog (F98 f25 f26 f28 f108 f109 f110 f111 : Nat → Fn U R) g := (Fc_sound (h25 _ fz_sound) (Fc_sound (h26 _ fz_sound) (Fc_sound (h28 _ fz_sound) (Fc_sound (h108 _ fz_sound) (Fc_sound (h109 _ fz_sound) (Fc_sound (h110 _ fz_sound) (Fc_sound (h111 _ fz_sound) Fz_sound)))))))
theorem q98 {R : Type} (f25 : Y25) (f26 : Y26) (f28 : Y28) (f108 : Y108) (f109 : Y109) (f110 : Y110) (f111 : Y111) (h25 : ∀ rest : Fn U R, SoundF Try.prog 25 rest → SoundF Try.prog 25 (e25 f25 rest)) (h26 : ∀ rest : Fn U R, SoundF Try.prog 26 rest → SoundF Try.prog 26 (e26 f26 rest)) (h28 : ∀ rest : Fn U R, SoundF Try.prog 28 rest → SoundF Try.prog 28 (e28 f28 rest)) (h108 : ∀ rest : Fn U R, SoundF Try.prog 108 rest → SoundF Try.prog 108 (e108 f108 rest)) (h109 : ∀ rest : Fn U R, SoundF Try.prog 109 rest → SoundF Try.prog 109 (e109 f109 rest)) (h110 : ∀ rest : Fn U R, SoundF Try.prog 110 rest → SoundF Try.prog 110 (e110 f110 rest)) (h111 : ∀ rest : Fn U R, SoundF Try.prog 111 rest → SoundF Try.prog 111 (e111 f111 rest)) {rest : Fn U R} (hr : SoundF Try.prog 98 rest) : SoundF Try.prog 98 (e98 (fun p0 => b98 f25 f26 f28 f108 f109 f110 f111 p0 some) rest) :=
  entw_sound uok mixed (by kernel_rfl) (fn := Try.f98) (by kernel_rfl) (by kernel_rfl) (hF98 f25 f26 f28 f108 f109 f110 f111 h25 h26 h28 h108 h109 h110 h111) (L := L98) (fn_loops (ls := []) (by kernel_rfl) all_nil) hr (fun x κ => (n98 f25 f26 f28 f108 f109 f110 f111 (⟨x.2.1.1, x.2.1.2.1, x.2.1.2.2.1, x.2.1.2.2.2.1⟩ : S98) some _).trans (t98 f25 f26 f28 f108 f109 f110 f111 x κ).symm)
def F109 {R : Type} (f63 : Y63) (f99 : Y99) (f113 : Y113) : Nat → Fn U R := (Fc 63 (e63 f63 (Fz 63)) (Fc 99 (e99 f99 (Fz 99)) (Fc 113 (e113 f113 (Fz 113)) Fz)))
def L109 {R : Type} : Hn U R := fun key σ k => none
theorem n109 {R S : Type} (f63 : Y63) (f99 : Y99) (f113 : Y113) (p0 : S98) (k : (S27 × Int × S98) → Option R) (K : R → Option S) : (b109 f63 f99 f113 p0 k).bind K = b109 f63 f99 f113 p0 (fun r => (k r).bind K) := by
  unfold b109
  simp only [bind_cond, bind_when, bind_elim, Option.bind_assoc, bind_none]
set_option maxRecDepth 100000 in
theorem t109 {R : Type} (f63 : Y63) (f99 : Y99) (f113 : Y113) (x : AX U tp109) (κ : U.D → List (List U.C) → Option R) : evFn (F109 f63 f99 f113) (L109) (U.ro 109) (U.rnew 109) Try.f109 (fillS tp109.a x.1) (fillB tp109.b x.2) κ
    = b109 f63 f99 f113 (⟨x.2.1.1, x.2.1.2.1, x.2.1.2.2.1, x.2.1.2.2.2.1⟩ : S98) (fun r => κ (.tup [.agg [.int .i64 r.1.c0, .int .i64 r.1.c1, .int .i64 r.1.c2, .str r.1.c3, .str r.1.c4, .sl 27 r.1.c5], .c (.int .i64 r.2.1)]) [[.sl 5 r.2.2.c0, .sl 51 r.2.2.c1, .int .i64 r.2.2.c2, .int .i64 r.2.2.c3]]) := by kernel_rfl
theorem hF109 {R : Type} (f63 : Y63) (f99 : Y99) (f113 : Y113) (h63 : ∀ rest : Fn U R, SoundF Try.prog 63 rest → SoundF Try.prog 63 (e63 f63 rest)) (h99 : ∀ rest : Fn U R, SoundF Try.prog 99 rest → SoundF Try.prog 99 (e99 f99 rest)) (h113 : ∀ rest : Fn U R, SoundF Try.prog 113 rest → SoundF Try.prog 113 (e113 f113 rest)) : ∀ g, Sound Try.prog (F109 f63 f99 f113 : Nat → Fn U R) g := (Fc_sound (h63 _ fz_sound) (Fc_sound (h99 _ fz_sound) (Fc_sound (h113 _ fz_sound) Fz_sound)))
theorem q109 {R : Type} (f63 : Y63) (f99 : Y99) (f113 : Y113) (h63 : ∀ rest : Fn U R, SoundF Try.prog 63 rest → SoundF Try.prog 63 (e63 f63 rest)) (h99 : ∀ rest : Fn U R, SoundF Try.prog 99 rest → SoundF Try.prog 99 (e99 f99 rest)) (h113 : ∀ rest : Fn U R, SoundF Try.prog 113 rest → SoundF Try.prog 113 (e113 f113 rest)) {rest : Fn U R} (hr : SoundF Try.prog 109 rest) : SoundF Try.prog 109 (e109 (fun p0 => b109 f63 f99 f113 p0 some) rest) :=
  entw_sound uok mixed (by kernel_rfl) (fn := Try.f109) (by kernel_rfl) (by kernel_rfl) (hF109 f63 f99 f113 h63 h99 h113) (L := L109) (fn_loops (ls := []) (by kernel_rfl) all_nil) hr (fun x κ => (n109 f63 f99 f113 (⟨x.2.1.1, x.2.1.2.1, x.2.1.2.2.1, x.2.1.2.2.2.1⟩ : S98) some _).trans (t109 f63 f99 f113 x κ).symm)
def F110 {R : Type} (f25 : Y25) (f26 : Y26) (f30 : Y30) (f31 : Y31) (f63 : Y63) (f85 : Y85) (f99 : Y99) (f113 : Y113) : Nat → Fn U R := (Fc 25 (e25 f25 (Fz 25)) (Fc 26 (e26 f26 (Fz 26)) (Fc 30 (e30 f30 (Fz 30)) (Fc 31 (e31 f31 (Fz 31)) (Fc 63 (e63 f63 (Fz 63)) (Fc 85 (e85 f85 (Fz 85)) (Fc 99 (e99 f99 (Fz 99)) (Fc 113 (e113 f113 (Fz 113)) Fz))))))))
def L110 {R : Type} : Hn U R := fun key σ k => none
theorem n110 {R S : Type} (f25 : Y25) (f26 : Y26) (f30 : Y30) (f31 : Y31) (f63 : Y63) (f85 : Y85) (f99 : Y99) (f113 : Y113) (p0 : S98) (k : (S27 × Int × S98) → Option R) (K : R → Option S) : (b110 f25 f26 f30 f31 f63 f85 f99 f113 p0 k).bind K = b110 f25 f26 f30 f31 f63 f85 f99 f113 p0 (fun r => (k r).bind K) := by
  unfold b110
  simp only [bind_cond, bind_when, bind_elim, Option.bind_assoc, bind_none]
set_option maxRecDepth 100000 in
theorem t110 {R : Type} (f25 : Y25) (f26 : Y26) (f30 : Y30) (f31 : Y31) (f63 : Y63) (f85 : Y85) (f99 : Y99) (f113 : Y113) (x : AX U tp110) (κ : U.D → List (List U.C) → Option R) : evFn (F110 f25 f26 f30 f31 f63 f85 f99 f113) (L110) (U.ro 110) (U.rnew 110) Try.f110 (fillS tp110.a x.1) (fillB tp110.b x.2) κ
    = b110 f25 f26 f30 f31 f63 f85 f99 f113 (⟨x.2.1.1, x.2.1.2.1, x.2.1.2.2.1, x.2.1.2.2.2.1⟩ : S98) (fun r => κ (.tup [.agg [.int .i64 r.1.c0, .int .i64 r.1.c1, .int .i64 r.1.c2, .str r.1.c3, .str r.1.c4, .sl 27 r.1.c5], .c (.int .i64 r.2.1)]) [[.sl 5 r.2.2.c0, .sl 51 r.2.2.c1, .int .i64 r.2.2.c2, .int .i64 r.2.2.c3]]) := by kernel_rfl
theorem hF110 {R : Type} (f25 : Y25) (f26 : Y26) (f30 : Y30) (f31 : Y31) (f63 : Y63) (f85 : Y85) (f99 : Y99) (f113 : Y113) (h25 : ∀ rest : Fn U R, SoundF Try.prog 25 rest → SoundF Try.prog 25 (e25 f25 rest)) (h26 : ∀ rest : Fn U R, SoundF Try.prog 26 rest → SoundF Try.prog 26 (e26 f26 rest)) (h30 : ∀ rest : Fn U R, SoundF Try.prog 30 rest → SoundF Try.prog 30 (e30 f30 rest)) (h31 : ∀ rest : Fn U R, SoundF Try.prog 31 rest → SoundF Try.prog 31 (e31 f31 rest)) (h63 : ∀ rest : Fn U R, SoundF Try.prog 63 rest → SoundF Try.prog 63 (e63 f63 rest)) (h85 : ∀ rest : Fn U R, SoundF Try.prog 85 rest → SoundF Try.prog 85 (e85 f85 rest)) (h99 : ∀ rest : Fn U R, SoundF Try.prog 99 rest → SoundF Try.prog 99 (e99 f99 rest)) (h113 : ∀ rest : Fn U R, SoundF Try.prog 113 rest → SoundF Try.prog 113 (e113 f113 rest)) : ∀ g, Sound Try.prog (F110 f25 f26 f30 f31 f63 f85 f99 f113 : Nat → Fn U R) g := (Fc_sound (h25 _ fz_sound) (Fc_sound (h26 _ fz_sound) (Fc_sound (h30 _ fz_sound) (Fc_sound (h31 _ fz_sound) (Fc_sound (h63 _ fz_sound) (Fc_sound (h85 _ fz_sound) (Fc_sound (h99 _ fz_sound) (Fc_sound (h113 _ fz_sound) Fz_sound))))))))
theorem q110 {R : Type} (f25 : Y25) (f26 : Y26) (f30 : Y30) (f31 : Y31) (f63 : Y63) (f85 : Y85) (f99 : Y99) (f113 : Y113) (h25 : ∀ rest : Fn U R, SoundF Try.prog 25 rest → SoundF Try.prog 25 (e25 f25 rest)) (h26 : ∀ rest : Fn U R, SoundF Try.prog 26 rest → SoundF Try.prog 26 (e26 f26 rest)) (h30 : ∀ rest : Fn U R, SoundF Try.prog 30 rest → SoundF Try.prog 30 (e30 f30 rest)) (h31 : ∀ rest : Fn U R, SoundF Try.prog 31 rest → SoundF Try.prog 31 (e31 f31 rest)) (h63 : ∀ rest : Fn U R, SoundF Try.prog 63 rest → SoundF Try.prog 63 (e63 f63 rest)) (h85 : ∀ rest : Fn U R, SoundF Try.prog 85 rest → SoundF Try.prog 85 (e85 f85 rest)) (h99 : ∀ rest : Fn U R, SoundF Try.prog 99 rest → SoundF Try.prog 99 (e99 f99 rest)) (h113 : ∀ rest : Fn U R, SoundF Try.prog 113 rest → SoundF Try.prog 113 (e113 f113 rest)) {rest : Fn U R} (hr : SoundF Try.prog 110 rest) : SoundF Try.prog 110 (e110 (fun p0 => b110 f25 f26 f30 f31 f63 f85 f99 f113 p0 some) rest) :=
  entw_sound uok mixed (by kernel_rfl) (fn := Try.f110) (by kernel_rfl) (by kernel_rfl) (hF110 f25 f26 f30 f31 f63 f85 f99 f113 h25 h26 h30 h31 h63 h85 h99 h113) (L := L110) (fn_loops (ls := []) (by kernel_rfl) all_nil) hr (fun x κ => (n110 f25 f26 f30 f31 f63 f85 f99 f113 (⟨x.2.1.1, x.2.1.2.1, x.2.1.2.2.1, x.2.1.2.2.2.1⟩ : S98) some _).trans (t110 f25 f26 f30 f31 f63 f85 f99 f113 x κ).symm)
def F111 {R : Type} (f25 : Y25) (f26 : Y26) (f30 : Y30) (f31 : Y31) (f63 : Y63) (f85 : Y85) (f99 : Y99) (f113 : Y113) : Nat → Fn U R := (Fc 25 (e25 f25 (Fz 25)) (Fc 26 (e26 f26 (Fz 26)) (Fc 30 (e30 f30 (Fz 30)) (Fc 31 (e31 f31 (Fz 31)) (Fc 63 (e63 f63 (Fz 63)) (Fc 85 (e85 f85 (Fz 85)) (Fc 99 (e99 f99 (Fz 99)) (Fc 113 (e113 f113 (Fz 113)) Fz))))))))
def st111_17 : StT := ⟨[.c (.p 0 0), .c .u, .c (.p 1 0), .c .u, .c (.i .i64), .c (.p 2 0), .c .u, .c .u, .c .u, .c .u, .c .u, .c .u, .c .u, .c .u, .c .u, .c .u, .c .u, .c .u, .c .u, .c .u, .c .u, .c .u, .c .u, .c .u, .c .u, .c .u, .c .u, .c .u, .c .u, .c .u, .c .u, .c .u, .c .u, .c .u, .c .u, .c .u, .c .u, .c .u, .c .u, .c .u, .c .u, .c .u, .c .u, .c .u, .c .u, .c .u, .c .u, .c .u, .c .u, .c .u, .c .u, .c .u, .c .u, .c .u, .c .u, .c .u, .c .u, .c .u, .c .u, .c .u, .c .u, .c .u, .c .u, .c .u, .c .u, .c .u, .c .u, .c .u, .c .u, .c .u, .c .u, .c .u, .c .u, .c .u, .c .u, .c .u, .c .u, .c .u, .c .u, .c .u, .c .u, .c .u, .c .u, .c .u, .c .u, .c .u, .c .u, .c .u, .c .u, .c .u, .c .u, .c .u, .c .u, .c .u, .c .u, .c .u], [[.l 5, .l 51, .i .i64, .i .i64], [.i .i64, .i .i64, .i .i64, .s, .s, .nn], [.i .i64, .i .i64, .i .i64, .s, .s, .o 27 0]], [some 27], 0⟩
def h111_17 {R : Type} (l : Z111_17) : SX U st111_17 → (Out → St U → Option R) → Option R := fun x k => (l  x.2.1.1.1 x.2.1.1.2.1 x.2.1.1.2.2.1 x.2.1.1.2.2.2.1 x.2.2.1).bind (Sum.elim (fun o => k .ret ⟨[.v (.c (.ptr 0 0)), ud, .v (.c (.ptr 1 0)), .v (.c (.int .i64 o.2.2.2.2.2.1)), .v (.c (.int .i64 x.1.1)), .v (.c (.ptr 2 0)), ud, ud, ud, ud, ud, ud, ud, ud, ud, ud, ud, ud, ud, ud, ud, ud, ud, ud, ud, ud, ud, ud, ud, ud, ud, ud, ud, ud, ud, ud, ud, ud, ud, ud, ud, ud, ud, ud, ud, ud, ud, ud, ud, ud, ud, ud, ud, ud, ud, ud, ud, ud, ud, ud, ud, ud, ud, ud, ud, ud, ud, ud, ud, ud, ud, ud, ud, ud, ud, ud, ud, ud, ud, ud, ud, ud, ud, ud, ud, ud, ud, ud, ud, ud, ud, ud, ud, ud, ud, ud], [[.sl 5 o.1, .sl 51 o.2.1, .int .i64 o.2.2.1, .int .i64 o.2.2.2.1], [.int .i64 o.2.2.2.2.2.2.1, .int .i64 o.2.2.2.2.2.2.2.1, .int .i64 o.2.2.2.2.2.2.2.2.1, .str o.2.2.2.2.2.2.2.2.2.1, .str o.2.2.2.2.2.2.2.2.2.2, .nils], [.int .i64 x.2.1.2.2.1.1, .int .i64 x.2.1.2.2.1.2.1, .int .i64 x.2.1.2.2.1.2.2.1, .str x.2.1.2.2.1.2.2.2.1, .str x.2.1.2.2.1.2.2.2.2.1, .own 27 0]], [some ⟨27, o.2.2.2.2.1⟩], 0⟩) (fun o => k (.exit 0) ⟨[.v (.c (.ptr 0 0)), ud, .v (.c (.ptr 1 0)), ud, .v (.c (.int .i64 x.1.1)), .v (.c (.ptr 2 0)), ud, ud, ud, ud, ud, ud, ud, ud, ud, ud, ud, ud, ud, ud, ud, ud, ud, ud, ud, ud, ud, ud, ud, ud, ud, ud, ud, ud, ud, ud, ud, ud, ud, ud, ud, ud, ud, ud, ud, ud, ud, ud, ud, ud, ud, ud, ud, ud, ud, ud, ud, ud, ud, ud, ud, ud, ud, ud, ud, ud, ud, ud, ud, ud, ud, ud, ud, ud, ud, ud, ud, ud, ud, ud, ud, ud, ud, ud, ud, ud, ud, ud, ud, ud, ud, ud, ud, ud, ud, ud], [[.sl 5 o.1, .sl 51 o.2.1, .int .i64 o.2.2.1, .int .i64 o.2.2.2.1], [.int .i64 x.2.1.2.1.1, .int .i64 x.2.1.2.1.2.1, .int .i64 x.2.1.2.1.2.2.1, .str x.2.1.2.1.2.2.2.1, .str x.2.1.2.1.2.2.2.2.1, .nils], [.int .i64 x.2.1.2.2.1.1, .int .i64 x.2.1.2.2.1.2.1, .int .i64 x.2.1.2.2.1.2.2.1, .str x.2.1.2.2.1.2.2.2.1, .str x.2.1.2.2.1.2.2.2.2.1, .own 27 0]], [some ⟨27, o.2.2.2.2⟩], 0⟩))
def wd111_17 : List Wd := [.drop 1, .drop 3, .drop 6, .drop 7, .drop 8, .drop 9, .drop 10, .drop 11, .drop 12, .drop 13, .drop 14, .drop 15, .drop 16, .drop 17, .drop 18, .drop 19, .drop 20, .drop 21, .drop 22, .drop 23, .drop 24, .drop 25, .drop 26, .drop 27, .drop 28, .drop 29, .drop 30, .drop 31, .drop 32, .drop 33, .drop 34, .drop 35, .drop 36, .drop 37, .drop 38, .drop 39, .drop 40, .drop 41, .drop 42, .drop 43, .drop 44, .drop 45, .drop 46, .drop 47, .drop 48, .drop 49, .drop 50, .drop 51, .drop 52, .drop 53, .drop 54, .drop 55, .drop 56, .drop 57, .drop 58, .drop 59, .drop 60, .drop 61, .drop 62, .drop 63, .drop 64, .drop 65, .drop 66, .drop 67, .drop 68, .drop 69, .drop 70, .drop 71, .drop 72, .drop 73, .drop 74, .drop 75, .drop 76, .drop 77, .drop 78, .drop 79, .drop 80, .drop 81, .drop 82, .drop 83, .drop 84, .drop 85, .drop 86, .drop 87, .drop 88, .drop 89, .drop 90, .drop 91, .drop 92, .drop 93, .drop 94, .drop 95, .own (.b 2 5) 27]
def L111 {R : Type} (l17 : Z111_17) : Hn U R := fun key σ k => bif Nat.beq key 17 then hnd wd111_17 st111_17 (h111_17 l17) σ k else none
set_option maxRecDepth 100000 in
theorem tl111_17 {R : Type} (f25 : Y25) (f26 : Y26) (f30 : Y30) (f31 : Y31) (f63 : Y63) (f85 : Y85) (f99 : Y99) (f113 : Y113) (l17 : Z111_17) (x0 x : SX U st111_17) (k : Out → St U → Option R) (n : Nat) : loopN [3] [] (fun σ k => ev (F111 f25 f26 f30 f31 f63 f85 f99 f113) (L111 l17) (lpAt Try.f111 0) σ k) (fillSt st111_17 x0) k (n + 1) (fillSt st111_17 x)
    = lb111_17 f25 f26 f30 f31 f63 f85 f99 f113  (fun v42 v43 v44 v45 v56 => loopN [3] [] (fun σ k => ev (F111 f25 f26 f30 f31 f63 f85 f99 f113) (L111 l17) (lpAt Try.f111 0) σ k) (fillSt st111_17 x0) k n (fillSt st111_17 (((x.1.1, ()), ((v42, v43, v44, v45, ()), (x.2.1.2.1.1, x.2.1.2.1.2.1, x.2.1.2.1.2.2.1, x.2.1.2.1.2.2.2.1, x.2.1.2.1.2.2.2.2.1, ()), (x.2.1.2.2.1.1, x.2.1.2.2.1.2.1, x.2.1.2.2.1.2.2.1, x.2.1.2.2.1.2.2.2.1, x.2.1.2.2.1.2.2.2.2.1, ()), ()), (v56, ())) : SX U st111_17))) (fun o => k .ret ⟨[.v (.c (.ptr 0 0)), ud, .v (.c (.ptr 1 0)), .v (.c (.int .i64 o.2.2.2.2.2.1)), .v (.c (.int .i64 x.1.1)), .v (.c (.ptr 2 0)), ud, ud, ud, ud, ud, ud, ud, ud, ud, ud, ud, ud, ud, ud, ud, ud, ud, ud, ud, ud, ud, ud, ud, ud, ud, ud, ud, ud, ud, ud, ud, ud, ud, ud, ud, ud, ud, ud, ud, ud, ud, ud, ud, ud, ud, ud, ud, ud, ud, ud, ud, ud, ud, ud, ud, ud, ud, ud, ud, ud, ud, ud, ud, ud, ud, ud, ud, ud, ud, ud, ud, ud, ud, ud, ud, ud, ud, ud, ud, ud, ud, ud, ud, ud, ud, ud, ud, ud, ud, ud], [[.sl 5 o.1, .sl 51 o.2.1, .int .i64 o.2.2.1, .int .i64 o.2.2.2.1], [.int .i64 o.2.2.2.2.2.2.1, .int .i64 o.2.2.2.2.2.2.2.1, .int .i64 o.2.2.2.2.2.2.2.2.1, .str o.2.2.2.2.2.2.2.2.2.1, .str o.2.2.2.2.2.2.2.2.2.2, .nils], [.int .i64 x.2.1.2.2.1.1, .int .i64 x.2.1.2.2.1.2.1, .int .i64 x.2.1.2.2.1.2.2.1, .str x.2.1.2.2.1.2.2.2.1, .str x.2.1.2.2.1.2.2.2.2.1, .own 27 0]], [some ⟨27, o.2.2.2.2.1⟩], 0⟩) (fun o => k (.exit 0) ⟨[.v (.c (.ptr 0 0)), ud, .v (.c (.ptr 1 0)), ud, .v (.c (.int .i64 x.1.1)), .v (.c (.ptr 2 0)), ud, ud, ud, ud, ud, ud, ud, ud, ud, ud, ud, ud, ud, ud, ud, ud, ud, ud, ud, ud, ud, ud, ud, ud, ud, ud, ud, ud, ud, ud, ud, ud, ud, ud, ud, ud, ud, ud, ud, ud, ud, ud, ud, ud, ud, ud, ud, ud, ud, ud, ud, ud, ud, ud, ud, ud, ud, ud, ud, ud, ud, ud, ud, ud, ud, ud, ud, ud, ud, ud, ud, ud, ud, ud, ud, ud, ud, ud, ud, ud, ud, ud, ud, ud, ud, ud, ud, ud, ud, ud], [[.sl 5 o.1, .sl 51 o.2.1, .int .i64 o.2.2.1, .int .i64 o.2.2.2.1], [.int .i64 x.2.1.2.1.1, .int .i64 x.2.1.2.1.2.1, .int .i64 x.2.1.2.1.2.2.1, .str x.2.1.2.1.2.2.2.1, .str x.2.1.2.1.2.2.2.2.1, .nils], [.int .i64 x.2.1.2.2.1.1, .int .i64 x.2.1.2.2.1.2.1, .int .i64 x.2.1.2.2.1.2.2.1, .str x.2.1.2.2.1.2.2.2.1, .str x.2.1.2.2.1.2.2.2.2.1, .own 27 0]], [some ⟨27, o.2.2.2.2⟩], 0⟩) x.2.1.1.1 x.2.1.1.2.1 x.2.1.1.2.2.1 x.2.1.1.2.2.2.1 x.2.2.1 := by kernel_rfl
theorem nb111_17 {R S : Type} (f25 : Y25) (f26 : Y26) (f30 : Y30) (f31 : Y31) (f63 : Y63) (f85 : Y85) (f99 : Y99) (f113 : Y113) (c : List Int → List S51 → Int → Int → List S27 → Option R) (e0 : (List Int × List S51 × Int × Int × List S27 × Int × Int × Int × Int × ByteArray × ByteArray) → Option R) (e1 : (List Int × List S51 × Int × Int × List S27) → Option R) (v42 : List Int) (v43 : List S51) (v44 : Int) (v45 : Int) (v56 : List S27) (K : R → Option S) : (lb111_17 f25 f26 f30 f31 f63 f85 f99 f113  c e0 e1 v42 v43 v44 v45 v56).bind K = lb111_17 f25 f26 f30 f31 f63 f85 f99 f113  (fun v42 v43 v44 v45 v56 => (c v42 v43 v44 v45 v56).bind K) (fun o => (e0 o).bind K) (fun o => (e1 o).bind K) v42 v43 v44 v45 v56 := by
  unfold lb111_17
  simp only [bind_cond, bind_when, bind_elim, Option.bind_assoc, bind_none]
set_option maxHeartbeats 1000000 in
theorem ll111_17 {R : Type} (f25 : Y25) (f26 : Y26) (f30 : Y30) (f31 : Y31) (f63 : Y63) (f85 : Y85) (f99 : Y99) (f113 : Y113) (l17 : Z111_17) (x0 : SX U st111_17) (k : Out → St U → Option R) : ∀ (n : Nat) (x : SX U st111_17), loopN [3] [] (fun σ k => ev (F111 f25 f26 f30 f31 f63 f85 f99 f113) (L111 l17) (lpAt Try.f111 0) σ k) (fillSt st111_17 x0) k n (fillSt st111_17 x)
    = h111_17 (lp111_17 f25 f26 f30 f31 f63 f85 f99 f113 n) x k := by
  intro n
  induction n with
  | zero => intro x; kernel_rfl
  | succ n ih =>
    intro x
    have h2 := congrArg (fun c => lb111_17 f25 f26 f30 f31 f63 f85 f99 f113  c (fun o => k .ret ⟨[.v (.c (.ptr 0 0)), ud, .v (.c (.ptr 1 0)), .v (.c (.int .i64 o.2.2.2.2.2.1)), .v (.c (.int .i64 x.1.1)), .v (.c (.ptr 2 0)), ud, ud, ud, ud, ud, ud, ud, ud, ud, ud, ud, ud, ud, ud, ud, ud, ud, ud, ud, ud, ud, ud, ud, ud, ud, ud, ud, ud, ud, ud, ud, ud, ud, ud, ud, ud, ud, ud, ud, ud, ud, ud, ud, ud, ud, ud, ud, ud, ud, ud, ud, ud, ud, ud, ud, ud, ud, ud, ud, ud, ud, ud, ud, ud, ud, ud, ud, ud, ud, ud, ud, ud, ud, ud, ud, ud, ud, ud, ud, ud, ud, ud, ud, ud, ud, ud, ud, ud, ud, ud], [[.sl 5 o.1, .sl 51 o.2.1, .int .i64 o.2.2.1, .int .i64 o.2.2.2.1], [.int .i64 o.2.2.2.2.2.2.1, .int .i64 o.2.2.2.2.2.2.2.1, .int .i64 o.2.2.2.2.2.2.2.2.1, .str o.2.2.2.2.2.2.2.2.2.1, .str o.2.2.2.2.2.2.2.2.2.2, .nils], [.int .i64 x.2.1.2.2.1.1, .int .i64 x.2.1.2.2.1.2.1, .int .i64 x.2.1.2.2.1.2.2.1, .str x.2.1.2.2.1.2.2.2.1, .str x.2.1.2.2.1.2.2.2.2.1, .own 27 0]], [some ⟨27, o.2.2.2.2.1⟩], 0⟩) (fun o => k (.exit 0) ⟨[.v (.c (.ptr 0 0)), ud, .v (.c (.ptr 1 0)), ud, .v (.c (.int .i64 x.1.1)), .v (.c (.ptr 2 0)), ud, ud, ud, ud, ud, ud, ud, ud, ud, ud, ud, ud, ud, ud, ud, ud, ud, ud, ud, ud, ud, ud, ud, ud, ud, ud, ud, ud, ud, ud, ud, ud, ud, ud, ud, ud, ud, ud, ud, ud, ud, ud, ud, ud, ud, ud, ud, ud, ud, ud, ud, ud, ud, ud, ud, ud, ud, ud, ud, ud, ud, ud, ud, ud, ud, ud, ud, ud, ud, ud, ud, ud, ud, ud, ud, ud, ud, ud, ud, ud, ud, ud, ud, ud, ud, ud, ud, ud, ud, ud], [[.sl 5 o.1, .sl 51 o.2.1, .int .i64 o.2.2.1, .int .i64 o.2.2.2.1], [.int .i64 x.2.1.2.1.1, .int .i64 x.2.1.2.1.2.1, .int .i64 x.2.1.2.1.2.2.1, .str x.2.1.2.1.2.2.2.1, .str x.2.1.2.1.2.2.2.2.1, .nils], [.int .i64 x.2.1.2.2.1.1, .int .i64 x.2.1.2.2.1.2.1, .int .i64 x.2.1.2.2.1.2.2.1, .str x.2.1.2.2.1.2.2.2.1, .str x.2.1.2.2.1.2.2.2.2.1, .own 27 0]], [some ⟨27, o.2.2.2.2⟩], 0⟩) x.2.1.1.1 x.2.1.1.2.1 x.2.1.1.2.2.1 x.2.1.1.2.2.2.1 x.2.2.1) (funext fun v42 => (funext fun v43 => (funext fun v44 => (funext fun v45 => (funext fun v56 => ih (((x.1.1, ()), ((v42, v43, v44, v45, ()), (x.2.1.2.1.1, x.2.1.2.1.2.1, x.2.1.2.1.2.2.1, x.2.1.2.1.2.2.2.1, x.2.1.2.1.2.2.2.2.1, ()), (x.2.1.2.2.1.1, x.2.1.2.2.1.2.1, x.2.1.2.2.1.2.2.1, x.2.1.2.2.1.2.2.2.1, x.2.1.2.2.1.2.2.2.2.1, ()), ()), (v56, ())) : SX U st111_17))))))
    exact kcast (by kernel_rfl) (chain3 (tl111_17 f25 f26 f30 f31 f63 f85 f99 f113 l17 x0 x k n) h2 (nb111_17 f25 f26 f30 f31 f63 f85 f99 f113  (fun v42 v43 v44 v45 v56 => lp111_17 f25 f26 f30 f31 f63 f85 f99 f113 n  v42 v43 v44 v45 v56) (fun o => some (Sum.inl o)) (fun o => some (Sum.inr (o))) x.2.1.1.1 x.2.1.1.2.1 x.2.1.1.2.2.1 x.2.1.1.2.2.2.1 x.2.2.1 (Sum.elim (fun o => k .ret ⟨[.v (.c (.ptr 0 0)), ud, .v (.c (.ptr 1 0)), .v (.c (.int .i64 o.2.2.2.2.2.1)), .v (.c (.int .i64 x.1.1)), .v (.c (.ptr 2 0)), ud, ud, ud, ud, ud, ud, ud, ud, ud, ud, ud, ud, ud, ud, ud, ud, ud, ud, ud, ud, ud, ud, ud, ud, ud, ud, ud, ud, ud, ud, ud, ud, ud, ud, ud, ud, ud, ud, ud, ud, ud, ud, ud, ud, ud, ud, ud, ud, ud, ud, ud, ud, ud, ud, ud, ud, ud, ud, ud, ud, ud, ud, ud, ud, ud, ud, ud, ud, ud, ud, ud, ud, ud, ud, ud, ud, ud, ud, ud, ud, ud, ud, ud, ud, ud, ud, ud, ud, ud, ud], [[.sl 5 o.1, .sl 51 o.2.1, .int .i64 o.2.2.1, .int .i64 o.2.2.2.1], [.int .i64 o.2.2.2.2.2.2.1, .int .i64 o.2.2.2.2.2.2.2.1, .int .i64 o.2.2.2.2.2.2.2.2.1, .str o.2.2.2.2.2.2.2.2.2.1, .str o.2.2.2.2.2.2.2.2.2.2, .nils], [.int .i64 x.2.1.2.2.1.1, .int .i64 x.2.1.2.2.1.2.1, .int .i64 x.2.1.2.2.1.2.2.1, .str x.2.1.2.2.1.2.2.2.1, .str x.2.1.2.2.1.2.2.2.2.1, .own 27 0]], [some ⟨27, o.2.2.2.2.1⟩], 0⟩) (fun o => k (.exit 0) ⟨[.v (.c (.ptr 0 0)), ud, .v (.c (.ptr 1 0)), ud, .v (.c (.int .i64 x.1.1)), .v (.c (.ptr 2 0)), ud, ud, ud, ud, ud, ud, ud, ud, ud, ud, ud, ud, ud, ud, ud, ud, ud, ud, ud, ud, ud, ud, ud, ud, ud, ud, ud, ud, ud, ud, ud, ud, ud, ud, ud, ud, ud, ud, ud, ud, ud, ud, ud, ud, ud, ud, ud, ud, ud, ud, ud, ud, ud, ud, ud, ud, ud, ud, ud, ud, ud, ud, ud, ud, ud, ud, ud, ud, ud, ud, ud, ud, ud, ud, ud, ud, ud, ud, ud, ud, ud, ud, ud, ud, ud, ud, ud, ud, ud, ud], [[.sl 5 o.1, .sl 51 o.2.1, .int .i64 o.2.2.1, .int .i64 o.2.2.2.1], [.int .i64 x.2.1.2.1.1, .int .i64 x.2.1.2.1.2.1, .int .i64 x.2.1.2.1.2.2.1, .str x.2.1.2.1.2.2.2.1, .str x.2.1.2.1.2.2.2.2.1, .nils], [.int .i64 x.2.1.2.2.1.1, .int .i64 x.2.1.2.2.1.2.1, .int .i64 x.2.1.2.2.1.2.2.1, .str x.2.1.2.2.1.2.2.2.1, .str x.2.1.2.2.1.2.2.2.2.1, .own 27 0]], [some ⟨27, o.2.2.2.2⟩], 0⟩))).symm (by kernel_rfl) (by kernel_rfl))
theorem n111 {R S : Type} (f25 : Y25) (f26 : Y26) (f30 : Y30) (f31 : Y31) (f63 : Y63) (f85 : Y85) (f99 : Y99) (f113 : Y113) (l17 : Z111_17) (p0 : S98) (k : (S27 × Int × S98) → Option R) (K : R → Option S) : (b111 f25 f26 f30 f31 f63 f85 f99 f113 l17 p0 k).bind K = b111 f25 f26 f30 f31 f63 f85 f99 f113 l17 p0 (fun r => (k r).bind K) := by
  unfold b111
  simp only [bind_cond, bind_when, bind_elim, Option.bind_assoc, bind_none]
set_option maxRecDepth 100000 in
theorem t111 {R : Type} (f25 : Y25) (f26 : Y26) (f30 : Y30) (f31 : Y31) (f63 : Y63) (f85 : Y85) (f99 : Y99) (f113 : Y113) (l17 : Z111_17) (x : AX U tp111) (κ : U.D → List (List U.C) → Option R) : evFn (F111 f25 f26 f30 f31 f63 f85 f99 f113) (L111 l17) (U.ro 111) (U.rnew 111) Try.f111 (fillS tp111.a x.1) (fillB tp111.b x.2) κ
    = b111 f25 f26 f30 f31 f63 f85 f99 f113 l17 (⟨x.2.1.1, x.2.1.2.1, x.2.1.2.2.1, x.2.1.2.2.2.1⟩ : S98) (fun r => κ (.tup [.agg [.int .i64 r.1.c0, .int .i64 r.1.c1, .int .i64 r.1.c2, .str r.1.c3, .str r.1.c4, .sl 27 r.1.c5], .c (.int .i64 r.2.1)]) [[.sl 5 r.2.2.c0, .sl 51 r.2.2.c1, .int .i64 r.2.2.c2, .int .i64 r.2.2.c3]]) := by kernel_rfl
theorem hF111 {R : Type} (f25 : Y25) (f26 : Y26) (f30 : Y30) (f31 : Y31) (f63 : Y63) (f85 : Y85) (f99 : Y99) (f113 : Y113) (h25 : ∀ rest : Fn U R, SoundF Try.prog 25 rest → SoundF Try.prog 25 (e25 f25 rest)) (h26 : ∀ rest : Fn U R, SoundF Try.prog 26 rest → SoundF Try.prog 26 (e26 f26 rest)) (h30 : ∀ rest : Fn U R, SoundF Try.prog 30 rest → SoundF Try.prog 30 (e30 f30 rest)) (h31 : ∀ rest : Fn U R, SoundF Try.prog 31 rest → SoundF Try.prog 31 (e31 f31 rest)) (h63 : ∀ rest : Fn U R, SoundF Try.prog 63 rest → SoundF Try.prog 63 (e63 f63 rest)) (h85 : ∀ rest : Fn U R, SoundF Try.prog 85 rest → SoundF Try.prog 85 (e85 f85 rest)) (h99 : ∀ rest : Fn U R, SoundF Try.prog 99 rest → SoundF Try.prog 99 (e99 f99 rest)) (h113 : ∀ rest : Fn U R, SoundF Try.prog 113 rest → SoundF Try.prog 113 (e113 f113 rest)) : ∀ g, Sound Try.prog (F111 f25 f26 f30 f31 f63 f85 f99 f113 : Nat → Fn U R) g := (Fc_sound (h25 _ fz_sound) (Fc_sound (h26 _ fz_sound) (Fc_sound (h30 _ fz_sound) (Fc_sound (h31 _ fz_sound) (Fc_sound (h63 _ fz_sound) (Fc_sound (h85 _ fz_sound) (Fc_sound (h99 _ fz_sound) (Fc_sound (h113 _ fz_sound) Fz_sound))))))))
theorem lok111_17 {R : Type} (f25 : Y25) (f26 : Y26) (f30 : Y30) (f31 : Y31) (f63 : Y63) (f85 : Y85) (f99 : Y99) (f113 : Y113) (h25 : ∀ rest : Fn U R, SoundF Try.prog 25 rest → SoundF Try.prog 25 (e25 f25 rest)) (h26 : ∀ rest : Fn U R, SoundF Try.prog 26 rest → SoundF Try.prog 26 (e26 f26 rest)) (h30 : ∀ rest : Fn U R, SoundF Try.prog 30 rest → SoundF Try.prog 30 (e30 f30 rest)) (h31 : ∀ rest : Fn U R, SoundF Try.prog 31 rest → SoundF Try.prog 31 (e31 f31 rest)) (h63 : ∀ rest : Fn U R, SoundF Try.prog 63 rest → SoundF Try.prog 63 (e63 f63 rest)) (h85 : ∀ rest : Fn U R, SoundF Try.prog 85 rest → SoundF Try.prog 85 (e85 f85 rest)) (h99 : ∀ rest : Fn U R, SoundF Try.prog 99 rest → SoundF Try.prog 99 (e99 f99 rest)) (h113 : ∀ rest : Fn U R, SoundF Try.prog 113 rest → SoundF Try.prog 113 (e113 f113 rest)) : LoopOk Try.prog (L111 (lp111_17 f25 f26 f30 f31 f63 f85 f99 f113 big) : Hn U R) (lpAt Try.f111 0) :=
  hnd_ok uok (hF111 f25 f26 f30 f31 f63 f85 f99 f113 h25 h26 h30 h31 h63 h85 h99 h113) mixed (loops_of (ls := []) (by kernel_rfl) all_nil) (key := 17) (by kernel_rfl) (ws0 := wd111_17) (t := st111_17) (f := h111_17 (lp111_17 f25 f26 f30 f31 f63 f85 f99 f113 big)) (ws := []) (keep := [3]) (fun σ k => by kernel_rfl) (n := big) (fun x k => (ll111_17 f25 f26 f30 f31 f63 f85 f99 f113 (lp111_17 f25 f26 f30 f31 f63 f85 f99 f113 big) x k big x).symm)
theorem q111 {R : Type} (f25 : Y25) (f26 : Y26) (f30 : Y30) (f31 : Y31) (f63 : Y63) (f85 : Y85) (f99 : Y99) (f113 : Y113) (h25 : ∀ rest : Fn U R, SoundF Try.prog 25 rest → SoundF Try.prog 25 (e25 f25 rest)) (h26 : ∀ rest : Fn U R, SoundF Try.prog 26 rest → SoundF Try.prog 26 (e26 f26 rest)) (h30 : ∀ rest : Fn U R, SoundF Try.prog 30 rest → SoundF Try.prog 30 (e30 f30 rest)) (h31 : ∀ rest : Fn U R, SoundF Try.prog 31 rest → SoundF Try.prog 31 (e31 f31 rest)) (h63 : ∀ rest : Fn U R, SoundF Try.prog 63 rest → SoundF Try.prog 63 (e63 f63 rest)) (h85 : ∀ rest : Fn U R, SoundF Try.prog 85 rest → SoundF Try.prog 85 (e85 f85 rest)) (h99 : ∀ rest : Fn U R, SoundF Try.prog 99 rest → SoundF Try.prog 99 (e99 f99 rest)) (h113 : ∀ rest : Fn U R, SoundF Try.prog 113 rest → SoundF Try.prog 113 (e113 f113 rest)) {rest : Fn U R} (hr : SoundF Try.prog 111 rest) : SoundF Try.prog 111 (e111 (fun p0 => b111 f25 f26 f30 f31 f63 f85 f99 f113 (lp111_17 f25 f26 f30 f31 f63 f85 f99 f113 big) p0 some) rest) :=
  entw_sound uok mixed (by kernel_rfl) (fn := Try.f111) (by kernel_rfl) (by kernel_rfl) (hF111 f25 f26 f30 f31 f63 f85 f99 f113 h25 h26 h30 h31 h63 h85 h99 h113) (L := L111 (lp111_17 f25 f26 f30 f31 f63 f85 f99 f113 big)) (fn_loops (ls := [lpAt Try.f111 0]) (by kernel_rfl) (all_cons (lok111_17 f25 f26 f30 f31 f63 f85 f99 f113 h25 h26 h30 h31 h63 h85 h99 h113) all_nil)) hr (fun x κ => (n111 f25 f26 f30 f31 f63 f85 f99 f113 (lp111_17 f25 f26 f30 f31 f63 f85 f99 f113 big) (⟨x.2.1.1, x.2.1.2.1, x.2.1.2.2.1, x.2.1.2.2.2.1⟩ : S98) some _).trans (t111 f25 f26 f30 f31 f63 f85 f99 f113 (lp111_17 f25 f26 f30 f31 f63 f85 f99 f113 big) x κ).symm)
def F34 {R : Type} (f63 : Y63) : Nat → Fn U R := (Fc 63 (e63 f63 (Fz 63)) Fz)
def L34 {R : Type} : Hn U R := fun key σ k => none
theorem n34 {R S : Type} (f63 : Y63) (p0 : S98) (k : (S27 × Int × S98) → Option R) (K : R → Option S) : (b34 f63 p0 k).bind K = b34 f63 p0 (fun r => (k r).bind K) := by
  unfold b34
  simp only [bind_cond, bind_when, bind_elim, Option.bind_assoc, bind_none]
set_option maxRecDepth 100000 in
theorem t34 {R : Type} (f63 : Y63) (x : AX U tp34) (κ : U.D → List (List U.C) → Option R) : evFn (F34 f63) (L34) (U.ro 34) (U.rnew 34) Try.f34 (fillS tp34.a x.1) (fillB tp34.b x.2) κ
    = b34 f63 (⟨x.2.1.1, x.2.1.2.1, x.2.1.2.2.1, x.2.1.2.2.2.1⟩ : S98) (fun r => κ (.tup [.agg [.int .i64 r.1.c0, .int .i64 r.1.c1, .int .i64 r.1.c2, .str r.1.c3, .str r.1.c4, .sl 27 r.1.c5], .c (.int .i64 r.2.1)]) [[.sl 5 r.2.2.c0, .sl 51 r.2.2.c1, .int .i64 r.2.2.c2, .int .i64 r.2.2.c3]]) := by kernel_rfl
theorem hF34 {R : Type} (f63 : Y63) (h63 : ∀ rest : Fn U R, SoundF Try.prog 63 rest → SoundF Try.prog 63 (e63 f63 rest)) : ∀ g, Sound Try.prog (F34 f63 : Nat → Fn U R) g := (Fc_sound (h63 _ fz_sound) Fz_sound)
theorem q34 {R : Type} (f63 : Y63) (h63 : ∀ rest : Fn U R, SoundF Try.prog 63 rest → SoundF Try.prog 63 (e63 f63 rest)) {rest : Fn U R} (hr : SoundF Try.prog 34 rest) : SoundF Try.prog 34 (e34 (fun p0 => b34 f63 p0 some) rest) :=
  entw_sound uok mixed (by kernel_rfl) (fn := Try.f34) (by kernel_rfl) (by kernel_rfl) (hF34 f63 h63) (L := L34) (fn_loops (ls := []) (by kernel_rfl) all_nil) hr (fun x κ => (n34 f63 (⟨x.2.1.1, x.2.1.2.1, x.2.1.2.2.1, x.2.1.2.2.2.1⟩ : S98) some _).trans (t34 f63 x κ).symm)
def F105 {R : Type} (f34 : Y34) (f90 : Y90) : Nat → Fn U R := (Fc 34 (e34 f34 (Fz 34)) (Fc 90 (e90 f90 (Fz 90)) Fz))
def L105 {R : Type} : Hn U R := fun key σ k => none
theorem n105 {R S : Type} (f34 : Y34) (f90 : Y90) (p0 : S98) (p1 : S79) (k : (Int × S98 × S79) → Option R) (K : R → Option S) : (b105 f34 f90 p0 p1 k).bind K = b105 f34 f90 p0 p1 (fun r => (k r).bind K) := by
  unfold b105
  simp only [bind_cond, bind_when, bind_elim, Option.bind_assoc, bind_none]
set_option maxRecDepth 100000 in
theorem t105 {R : Type} (f34 : Y34) (f90 : Y90) (x : AX U tp105) (κ : U.D → List (List U.C) → Option R) : evFn (F105 f34 f90) (L105) (U.ro 105) (U.rnew 105) Try.f105 (fillS tp105.a x.1) (fillB tp105.b x.2) κ
    = b105 f34 f90 (⟨x.2.1.1, x.2.1.2.1, x.2.1.2.2.1, x.2.1.2.2.2.1⟩ : S98) (⟨x.2.2.1.1, x.2.2.1.2.1, x.2.2.1.2.2.1, x.2.2.1.2.2.2.1, x.2.2.1.2.2.2.2.1, x.2.2.1.2.2.2.2.2.1, x.2.2.1.2.2.2.2.2.2.1, x.2.2.1.2.2.2.2.2.2.2.1, x.2.2.1.2.2.2.2.2.2.2.2.1, x.2.2.1.2.2.2.2.2.2.2.2.2.1, x.2.2.1.2.2.2.2.2.2.2.2.2.2.1, x.2.2.1.2.2.2.2.2.2.2.2.2.2.2.1, x.2.2.1.2.2.2.2.2.2.2.2.2.2.2.2.1, x.2.2.1.2.2.2.2.2.2.2.2.2.2.2.2.2.1, x.2.2.1.2.2.2.2.2.2.2.2.2.2.2.2.2.2.1, x.2.2.1.2.2.2.2.2.2.2.2.2.2.2.2.2.2.2.1, x.2.2.1.2.2.2.2.2.2.2.2.2.2.2.2.2.2.2.2.1⟩ : S79) (fun r => κ (.v (.c (.int .i64 r.1))) [[.sl 5 r.2.1.c0, .sl 51 r.2.1.c1, .int .i64 r.2.1.c2, .int .i64 r.2.1.c3], [.int .i64 r.2.2.c0, .int .i64 r.2.2.c1, .str r.2.2.c2, .int .i64 r.2.2.c3, .bool r.2.2.c4, .bool r.2.2.c5, .str r.2.2.c6, .int .i64 r.2.2.c7, .int .i64 r.2.2.c8, .int .i64 r.2.2.c9, .int .i64 r.2.2.c10, .int .i64 r.2.2.c11, .str r.2.2.c12, .str r.2.2.c13, .sl 27 r.2.2.c14, .sl 79 r.2.2.c15, .sl 79 r.2.2.c16]]) := by kernel_rfl
theorem hF105 {R : Type} (f34 : Y34) (f90 : Y90) (h34 : ∀ rest : Fn U R, SoundF Try.prog 34 rest → SoundF Try.prog 34 (e34 f34 rest)) (h90 : ∀ rest : Fn U R, SoundF Try.prog 90 rest → SoundF Try.prog 90 (e90 f90 rest)) : ∀ g, Sound Try.prog (F105 f34 f90 : Nat → Fn U R) g := (Fc_sound (h34 _ fz_sound) (Fc_sound (h90 _ fz_sound) Fz_sound))
theorem q105 {R : Type} (f34 : Y34) (f90 : Y90) (h34 : ∀ rest : Fn U R, SoundF Try.prog 34 rest → SoundF Try.prog 34 (e34 f34 rest)) (h90 : ∀ rest : Fn U R, SoundF Try.prog 90 rest → SoundF Try.prog 90 (e90 f90 rest)) {rest : Fn U R} (hr : SoundF Try.prog 105 rest) : SoundF Try.prog 105 (e105 (fun p0 p1 => b105 f34 f90 p0 p1 some) rest) :=
  entw_sound uok mixed (by kernel_rfl) (fn := Try.f105) (by kernel_rfl) (by kernel_rfl) (hF105 f34 f90 h34 h90) (L := L105) (fn_loops (ls := []) (by kernel_rfl) all_nil) hr (fun x κ => (n105 f34 f90 (⟨x.2.1.1, x.2.1.2.1, x.2.1.2.2.1, x.2.1.2.2.2.1⟩ : S98) (⟨x.2.2.1.1, x.2.2.1.2.1, x.2.2.1.2.2.1, x.2.2.1.2.2.2.1, x.2.2.1.2.2.2.2.1, x.2.2.1.2.2.2.2.2.1, x.2.2.1.2.2.2.2.2.2.1, x.2.2.1.2.2.2.2.2.2.2.1, x.2.2.1.2.2.2.2.2.2.2.2.1, x.2.2.1.2.2.2.2.2.2.2.2.2.1, x.2.2.1.2.2.2.2.2.2.2.2.2.2.1, x.2.2.1.2.2.2.2.2.2.2.2.2.2.2.1, x.2.2.1.2.2.2.2.2.2.2.2.2.2.2.2.1, x.2.2.1.2.2.2.2.2.2.2.2.2.2.2.2.2.1, x.2.2.1.2.2.2.2.2.2.2.2.2.2.2.2.2.2.1, x.2.2.1.2.2.2.2.2.2.2.2.2.2.2.2.2.2.2.1, x.2.2.1.2.2.2.2.2.2.2.2.2.2.2.2.2.2.2.2.1⟩ : S79) some _).trans (t105 f34 f90 x κ).symm)
end Go.Proofs.Ytogfofcocidmkaa.Ev
