/- EV (ours), part X: shapes of states and of arguments, with holes for data; a loop and a function by their plain twins. -/
import Derived.Test.YtogfofcocidmkaaEvW
set_option linter.unusedVariables false
namespace Go.Proofs.Ytogfofcocidmkaa.Ev
open Go.RowKit
/-- A cell: a hole for data, or just that cell. -/
inductive H where
  | i (k : IntKind)
  | b
  | s
  | l (T : Nat)
  | q (T : Nat)
  | u
  | np
  | nn
  | fn (f : Nat)
  | p (b o : Nat)
  | o (T r : Nat)
inductive TD where
  | c (h : H)
  | a (hs : List H)
section
variable {U : Uni}
def pr {A B : Type} (o : Option A) (p : Option B) : Option (A × B) := match o, p with | some n, some x => some (n, x) | _, _ => none
theorem pr_ok {A B : Type} {o : Option A} {p : Option B} {x : A × B} (h : pr o p = some x) : o = some x.1 ∧ p = some x.2 := by
  unfold pr at h
  split at h
  · cases h; exact ⟨rfl, rfl⟩
  · cases h
def HL (U : Uni) : List H → Type
  | [] => Unit
  | .i _ :: t => Int × HL U t
  | .b :: t => Bool × HL U t
  | .s :: t => ByteArray × HL U t
  | .l T :: t => List (U.Ty T) × HL U t
  | .q T :: t => (List (U.Ty T) × List (U.Ty T)) × HL U t
  | .u :: t => HL U t
  | .np :: t => HL U t
  | .nn :: t => HL U t
  | .fn _ :: t => HL U t
  | .p _ _ :: t => HL U t
  | .o _ _ :: t => HL U t
def fillL : (t : List H) → HL U t → List U.C
  | [], _ => []
  | .i k :: t, x => .int k x.1 :: fillL t x.2
  | .b :: t, x => .bool x.1 :: fillL t x.2
  | .s :: t, x => .str x.1 :: fillL t x.2
  | .l T :: t, x => .sl T x.1 :: fillL t x.2
  | .q T :: t, x => .sp T x.1.1 x.1.2 :: fillL t x.2
  | .u :: t, x => .undef :: fillL t x
  | .np :: t, x => .nilp :: fillL t x
  | .nn :: t, x => .nils :: fillL t x
  | .fn f :: t, x => .fn f :: fillL t x
  | .p b o :: t, x => .ptr b o :: fillL t x
  | .o T r :: t, x => .own T r :: fillL t x
def rdI (k : IntKind) : U.C → Option Int
  | .int k' n => bif decide (k' = k) then some n else none
  | _ => none
def rdLs (T : Nat) : U.C → Option (List (U.Ty T))
  | .sl T' l => if h : T' = T then some (h ▸ l) else none
  | _ => none
def rdSp (T : Nat) : U.C → Option (List (U.Ty T) × List (U.Ty T))
  | .sp T' l m => if h : T' = T then some (h ▸ (l, m)) else none
  | _ => none
def isH : H → U.C → Bool
  | .u, .undef => true
  | .np, .nilp => true
  | .nn, .nils => true
  | .fn f, .fn g => Nat.beq g f
  | .p b o, .ptr b' o' => Nat.beq b' b && Nat.beq o' o
  | .o T r, .own T' r' => Nat.beq T' T && Nat.beq r' r
  | _, _ => false
def rdL : (t : List H) → List U.C → Option (HL U t)
  | [], [] => some ()
  | [], _ :: _ => none
  | _ :: _, [] => none
  | .i k :: t, c :: cs => pr (rdI k c) (rdL t cs)
  | .b :: t, c :: cs => pr (cbool c) (rdL t cs)
  | .s :: t, c :: cs => pr (cstr c) (rdL t cs)
  | .l T :: t, c :: cs => pr (rdLs T c) (rdL t cs)
  | .q T :: t, c :: cs => pr (rdSp T c) (rdL t cs)
  | .u :: t, c :: cs => bif isH .u c then rdL t cs else none
  | .np :: t, c :: cs => bif isH .np c then rdL t cs else none
  | .nn :: t, c :: cs => bif isH .nn c then rdL t cs else none
  | .fn f :: t, c :: cs => bif isH (.fn f) c then rdL t cs else none
  | .p b o :: t, c :: cs => bif isH (.p b o) c then rdL t cs else none
  | .o T r :: t, c :: cs => bif isH (.o T r) c then rdL t cs else none
theorem rdI_ok {k : IntKind} {c : U.C} {n : Int} (h : rdI k c = some n) : c = .int k n := by
  unfold rdI at h
  split at h
  · rename_i k' m
    cases hk : decide (k' = k) with
    | true => rw [hk] at h; simp only [cond_true, Option.some.injEq] at h; rw [of_decide_eq_true hk, h]
    | false => rw [hk] at h; cases h
  · cases h
theorem cbool_ok {c : U.C} {n : Bool} (h : cbool c = some n) : c = .bool n := by
  unfold cbool at h
  split at h
  · simp only [Option.some.injEq] at h; rw [h]
  · cases h
theorem cstr_ok {c : U.C} {n : ByteArray} (h : cstr c = some n) : c = .str n := by
  unfold cstr at h
  split at h
  · simp only [Option.some.injEq] at h; rw [h]
  · cases h
theorem rdLs_ok {T : Nat} {c : U.C} {n : List (U.Ty T)} (h : rdLs T c = some n) : c = .sl T n := by
  unfold rdLs at h
  split at h
  · rename_i T' l
    split at h
    · rename_i e
      subst e
      simp only [Option.some.injEq] at h
      rw [← h]
    · cases h
  · cases h
theorem rdSp_ok {T : Nat} {c : U.C} {n : List (U.Ty T) × List (U.Ty T)} (h : rdSp T c = some n) : c = .sp T n.1 n.2 := by
  unfold rdSp at h
  split at h
  · rename_i T' l m
    split at h
    · rename_i e
      subst e
      simp only [Option.some.injEq] at h
      rw [← h]
    · cases h
  · cases h
theorem isH_ok {h : H} {c : U.C} (e : isH h c = true) : match h with | .u => c = .undef | .np => c = .nilp | .nn => c = .nils | .fn f => c = .fn f | .p b o => c = .ptr b o | .o T r => c = .own T r | _ => False := by
  cases h <;> cases c <;> first | (exact absurd e (by decide)) | (simp only [isH, Bool.and_eq_true] at e ⊢; try simp_all) | trivial
theorem rdL_ok : ∀ (t : List H) (cs : List U.C) (x : HL U t), rdL t cs = some x → cs = fillL t x := by
  intro t
  induction t with
  | nil => intro cs x h; cases cs with | nil => rfl | cons _ _ => cases h
  | cons y t ih =>
    intro cs x h
    cases cs with
    | nil => cases y <;> cases h
    | cons c cs =>
      cases y with
      | i k => have h' : pr (rdI k c) (rdL t cs) = some x := h; obtain ⟨h1, h2⟩ := pr_ok h'; rw [rdI_ok h1, ih _ _ h2]; rfl
      | b => have h' : pr (cbool c) (rdL t cs) = some x := h; obtain ⟨h1, h2⟩ := pr_ok h'; rw [cbool_ok h1, ih _ _ h2]; rfl
      | s => have h' : pr (cstr c) (rdL t cs) = some x := h; obtain ⟨h1, h2⟩ := pr_ok h'; rw [cstr_ok h1, ih _ _ h2]; rfl
      | l T => have h' : pr (rdLs T c) (rdL t cs) = some x := h; obtain ⟨h1, h2⟩ := pr_ok h'; rw [rdLs_ok h1, ih _ _ h2]; rfl
      | q T => have h' : pr (rdSp T c) (rdL t cs) = some x := h; obtain ⟨h1, h2⟩ := pr_ok h'; rw [rdSp_ok h1, ih _ _ h2]; rfl
      | u => have h' : (bif isH .u c then rdL t cs else none) = some x := h; obtain ⟨hb, h2⟩ := bif_some h'; have e := isH_ok hb; simp only at e; rw [e, ih _ _ h2]; rfl
      | np => have h' : (bif isH .np c then rdL t cs else none) = some x := h; obtain ⟨hb, h2⟩ := bif_some h'; have e := isH_ok hb; simp only at e; rw [e, ih _ _ h2]; rfl
      | nn => have h' : (bif isH .nn c then rdL t cs else none) = some x := h; obtain ⟨hb, h2⟩ := bif_some h'; have e := isH_ok hb; simp only at e; rw [e, ih _ _ h2]; rfl
      | fn f => have h' : (bif isH (.fn f) c then rdL t cs else none) = some x := h; obtain ⟨hb, h2⟩ := bif_some h'; have e := isH_ok hb; simp only at e; rw [e, ih _ _ h2]; rfl
      | p b o => have h' : (bif isH (.p b o) c then rdL t cs else none) = some x := h; obtain ⟨hb, h2⟩ := bif_some h'; have e := isH_ok hb; simp only at e; rw [e, ih _ _ h2]; rfl
      | o T r => have h' : (bif isH (.o T r) c then rdL t cs else none) = some x := h; obtain ⟨hb, h2⟩ := bif_some h'; have e := isH_ok hb; simp only at e; rw [e, ih _ _ h2]; rfl

def SD (U : Uni) : List TD → Type
  | [] => Unit
  | .a hs :: t => HL U hs × SD U t
  | .c (.i _) :: t => Int × SD U t
  | .c .b :: t => Bool × SD U t
  | .c .s :: t => ByteArray × SD U t
  | .c (.l T) :: t => List (U.Ty T) × SD U t
  | .c (.q T) :: t => (List (U.Ty T) × List (U.Ty T)) × SD U t
  | .c .u :: t => SD U t
  | .c .np :: t => SD U t
  | .c .nn :: t => SD U t
  | .c (.fn _) :: t => SD U t
  | .c (.p _ _) :: t => SD U t
  | .c (.o _ _) :: t => SD U t
def fillS : (t : List TD) → SD U t → List U.D
  | [], _ => []
  | .a hs :: t, x => .v (.agg (fillL hs x.1)) :: fillS t x.2
  | .c (.i k) :: t, x => .v (.c (.int k x.1)) :: fillS t x.2
  | .c .b :: t, x => .v (.c (.bool x.1)) :: fillS t x.2
  | .c .s :: t, x => .v (.c (.str x.1)) :: fillS t x.2
  | .c (.l T) :: t, x => .v (.c (.sl T x.1)) :: fillS t x.2
  | .c (.q T) :: t, x => .v (.c (.sp T x.1.1 x.1.2)) :: fillS t x.2
  | .c .u :: t, x => .v (.c .undef) :: fillS t x
  | .c .np :: t, x => .v (.c .nilp) :: fillS t x
  | .c .nn :: t, x => .v (.c .nils) :: fillS t x
  | .c (.fn f) :: t, x => .v (.c (.fn f)) :: fillS t x
  | .c (.p b o) :: t, x => .v (.c (.ptr b o)) :: fillS t x
  | .c (.o T r) :: t, x => .v (.c (.own T r)) :: fillS t x
def cellD : U.D → Option U.C
  | .v (.c x) => some x
  | _ => none
theorem cellD_ok {d : U.D} {x : U.C} (h : cellD d = some x) : d = .v (.c x) := by
  unfold cellD at h
  split at h
  · simp only [Option.some.injEq] at h; rw [h]
  · cases h
def cellsD : U.D → Option (List U.C)
  | .v (.agg cs) => some cs
  | _ => none
theorem cellsD_ok {d : U.D} {x : List U.C} (h : cellsD d = some x) : d = .v (.agg x) := by
  unfold cellsD at h
  split at h
  · simp only [Option.some.injEq] at h; rw [h]
  · cases h
def isD (h : H) (d : U.D) : Bool := match cellD d with | some c => isH h c | none => false
theorem isD_ok {h : H} {d : U.D} (e : isD h d = true) : ∃ c, d = .v (.c c) ∧ isH h c = true := by
  unfold isD at e
  split at e
  · rename_i c hc; exact ⟨c, cellD_ok hc, e⟩
  · cases e
def rdS : (t : List TD) → List U.D → Option (SD U t)
  | [], [] => some ()
  | [], _ :: _ => none
  | _ :: _, [] => none
  | .a hs :: t, d :: ds => pr ((cellsD d).bind (rdL hs)) (rdS t ds)
  | .c (.i k) :: t, d :: ds => pr ((cellD d).bind (rdI k)) (rdS t ds)
  | .c .b :: t, d :: ds => pr ((cellD d).bind cbool) (rdS t ds)
  | .c .s :: t, d :: ds => pr ((cellD d).bind cstr) (rdS t ds)
  | .c (.l T) :: t, d :: ds => pr ((cellD d).bind (rdLs T)) (rdS t ds)
  | .c (.q T) :: t, d :: ds => pr ((cellD d).bind (rdSp T)) (rdS t ds)
  | .c .u :: t, d :: ds => bif isD .u d then rdS t ds else none
  | .c .np :: t, d :: ds => bif isD .np d then rdS t ds else none
  | .c .nn :: t, d :: ds => bif isD .nn d then rdS t ds else none
  | .c (.fn f) :: t, d :: ds => bif isD (.fn f) d then rdS t ds else none
  | .c (.p b o) :: t, d :: ds => bif isD (.p b o) d then rdS t ds else none
  | .c (.o T r) :: t, d :: ds => bif isD (.o T r) d then rdS t ds else none
theorem rdS_ok : ∀ (t : List TD) (ds : List U.D) (x : SD U t), rdS t ds = some x → ds = fillS t x := by
  intro t
  induction t with
  | nil => intro ds x h; cases ds with | nil => rfl | cons _ _ => cases h
  | cons y t ih =>
    intro ds x h
    cases ds with
    | nil => cases y with
      | a hs => cases h
      | c z => cases z <;> cases h
    | cons d ds =>
      cases y with
      | a hs => have h' : pr ((cellsD d).bind (rdL hs)) (rdS t ds) = some x := h; obtain ⟨h1, h2⟩ := pr_ok h'; obtain ⟨c, hc, h1⟩ := Option.bind_eq_some_iff.1 h1; rw [cellsD_ok hc, rdL_ok _ _ _ h1, ih _ _ h2]; rfl
      | c y =>
        cases y with
        | i k => have h' : pr ((cellD d).bind (rdI k)) (rdS t ds) = some x := h; obtain ⟨h1, h2⟩ := pr_ok h'; obtain ⟨c, hc, h1⟩ := Option.bind_eq_some_iff.1 h1; rw [cellD_ok hc, rdI_ok h1, ih _ _ h2]; rfl
        | b => have h' : pr ((cellD d).bind (cbool)) (rdS t ds) = some x := h; obtain ⟨h1, h2⟩ := pr_ok h'; obtain ⟨c, hc, h1⟩ := Option.bind_eq_some_iff.1 h1; rw [cellD_ok hc, cbool_ok h1, ih _ _ h2]; rfl
        | s => have h' : pr ((cellD d).bind (cstr)) (rdS t ds) = some x := h; obtain ⟨h1, h2⟩ := pr_ok h'; obtain ⟨c, hc, h1⟩ := Option.bind_eq_some_iff.1 h1; rw [cellD_ok hc, cstr_ok h1, ih _ _ h2]; rfl
        | l T => have h' : pr ((cellD d).bind (rdLs T)) (rdS t ds) = some x := h; obtain ⟨h1, h2⟩ := pr_ok h'; obtain ⟨c, hc, h1⟩ := Option.bind_eq_some_iff.1 h1; rw [cellD_ok hc, rdLs_ok h1, ih _ _ h2]; rfl
        | q T => have h' : pr ((cellD d).bind (rdSp T)) (rdS t ds) = some x := h; obtain ⟨h1, h2⟩ := pr_ok h'; obtain ⟨c, hc, h1⟩ := Option.bind_eq_some_iff.1 h1; rw [cellD_ok hc, rdSp_ok h1, ih _ _ h2]; rfl
        | u => have h' : (bif isD .u d then rdS t ds else none) = some x := h; obtain ⟨hb, h2⟩ := bif_some h'; obtain ⟨c, hc, hb⟩ := isD_ok hb; have e := isH_ok hb; simp only at e; rw [hc, e, ih _ _ h2]; rfl
        | np => have h' : (bif isD .np d then rdS t ds else none) = some x := h; obtain ⟨hb, h2⟩ := bif_some h'; obtain ⟨c, hc, hb⟩ := isD_ok hb; have e := isH_ok hb; simp only at e; rw [hc, e, ih _ _ h2]; rfl
        | nn => have h' : (bif isD .nn d then rdS t ds else none) = some x := h; obtain ⟨hb, h2⟩ := bif_some h'; obtain ⟨c, hc, hb⟩ := isD_ok hb; have e := isH_ok hb; simp only at e; rw [hc, e, ih _ _ h2]; rfl
        | fn f => have h' : (bif isD (.fn f) d then rdS t ds else none) = some x := h; obtain ⟨hb, h2⟩ := bif_some h'; obtain ⟨c, hc, hb⟩ := isD_ok hb; have e := isH_ok hb; simp only at e; rw [hc, e, ih _ _ h2]; rfl
        | p b o => have h' : (bif isD (.p b o) d then rdS t ds else none) = some x := h; obtain ⟨hb, h2⟩ := bif_some h'; obtain ⟨c, hc, hb⟩ := isD_ok hb; have e := isH_ok hb; simp only at e; rw [hc, e, ih _ _ h2]; rfl
        | o T r => have h' : (bif isD (.o T r) d then rdS t ds else none) = some x := h; obtain ⟨hb, h2⟩ := bif_some h'; obtain ⟨c, hc, hb⟩ := isD_ok hb; have e := isH_ok hb; simp only at e; rw [hc, e, ih _ _ h2]; rfl
def BD (U : Uni) : List (List H) → Type
  | [] => Unit
  | hs :: t => HL U hs × BD U t
def fillB : (t : List (List H)) → BD U t → List (List U.C)
  | [], _ => []
  | hs :: t, x => fillL hs x.1 :: fillB t x.2
def rdB : (t : List (List H)) → List (List U.C) → Option (BD U t)
  | [], [] => some ()
  | [], _ :: _ => none
  | _ :: _, [] => none
  | hs :: t, c :: cs => pr (rdL hs c) (rdB t cs)
theorem rdB_ok : ∀ (t : List (List H)) (cs : List (List U.C)) (x : BD U t), rdB t cs = some x → cs = fillB t x := by
  intro t
  induction t with
  | nil => intro cs x h; cases cs with | nil => rfl | cons _ _ => cases h
  | cons y t ih =>
    intro cs x h
    cases cs with
    | nil => cases h
    | cons c cs =>
      have h' : pr (rdL y c) (rdB t cs) = some x := h
      obtain ⟨h1, h2⟩ := pr_ok h'
      rw [rdL_ok _ _ _ h1, ih _ _ h2]
      rfl
def WD (U : Uni) : List (Option Nat) → Type
  | [] => Unit
  | some T :: t => List (U.Ty T) × WD U t
  | none :: t => WD U t
def fillW : (t : List (Option Nat)) → WD U t → List (Option (Row U))
  | [], _ => []
  | some T :: t, x => some ⟨T, x.1⟩ :: fillW t x.2
  | none :: t, x => none :: fillW t x
def rdR (T : Nat) : Option (Row U) → Option (List (U.Ty T))
  | some w => if h : w.T = T then some (h ▸ w.l) else none
  | none => none
theorem rdR_ok {T : Nat} {r : Option (Row U)} {l : List (U.Ty T)} (h : rdR T r = some l) : r = some ⟨T, l⟩ := by
  unfold rdR at h
  split at h
  · rename_i w
    split at h
    · rename_i e
      obtain ⟨T', l'⟩ := w
      simp only at e
      subst e
      simp only [Option.some.injEq] at h
      rw [← h]
    · cases h
  · cases h
def rdW : (t : List (Option Nat)) → List (Option (Row U)) → Option (WD U t)
  | [], [] => some ()
  | [], _ :: _ => none
  | _ :: _, [] => none
  | some T :: t, c :: cs => pr (rdR T c) (rdW t cs)
  | none :: t, c :: cs => bif c.isNone then rdW t cs else none
theorem rdW_ok : ∀ (t : List (Option Nat)) (cs : List (Option (Row U))) (x : WD U t), rdW t cs = some x → cs = fillW t x := by
  intro t
  induction t with
  | nil => intro cs x h; cases cs with | nil => rfl | cons _ _ => cases h
  | cons y t ih =>
    intro cs x h
    cases cs with
    | nil => cases y <;> cases h
    | cons c cs =>
      cases y with
      | none =>
        cases c with
        | some _ => cases h
        | none => have h' : rdW t cs = some x := h; rw [ih _ _ h']; rfl
      | some T =>
        have h' : pr (rdR T c) (rdW t cs) = some x := h
        obtain ⟨h1, h2⟩ := pr_ok h'
        rw [rdR_ok h1, ih _ _ h2]
        rfl
/-- A state's shape. -/
structure StT where
  s : List TD
  b : List (List H)
  r : List (Option Nat)
  lk : Nat
def SX (U : Uni) (t : StT) : Type := SD U t.s × BD U t.b × WD U t.r
def fillSt (t : StT) (x : SX U t) : St U := ⟨fillS t.s x.1, fillB t.b x.2.1, fillW t.r x.2.2, t.lk⟩
def rdSt (t : StT) (σ : St U) : Option (SX U t) :=
  bif Nat.beq σ.lk t.lk then pr (rdS t.s σ.slots) (pr (rdB t.b σ.boxes) (rdW t.r σ.rows)) else none
theorem rdSt_ok {t : StT} {σ : St U} {x : SX U t} (h : rdSt t σ = some x) : σ = fillSt t x := by
  obtain ⟨h0, h⟩ := bif_some h
  obtain ⟨h1, h⟩ := pr_ok h
  obtain ⟨h2, h3⟩ := pr_ok h
  obtain ⟨s, b, r, lk⟩ := σ
  unfold fillSt
  rw [← rdS_ok _ _ _ h1, ← rdB_ok _ _ _ h2, ← rdW_ok _ _ _ h3, ← Nat.eq_of_beq_eq_true h0]
/-- Arguments' shape. -/
structure AT where
  a : List TD
  b : List (List H)
def AX (U : Uni) (t : AT) : Type := SD U t.a × BD U t.b
def rdA (t : AT) (ds : List U.D) (bx : List (List U.C)) : Option (AX U t) := pr (rdS t.a ds) (rdB t.b bx)
theorem rdA_ok {t : AT} {ds : List U.D} {bx : List (List U.C)} {x : AX U t} (h : rdA t ds bx = some x) : ds = fillS t.a x.1 ∧ bx = fillB t.b x.2 := by
  obtain ⟨h1, h2⟩ := pr_ok h
  exact ⟨rdS_ok _ _ _ h1, rdB_ok _ _ _ h2⟩
variable {R : Type} {P : Program}
/-- A function's entry: by the arguments' shape, its plain twin; else what else there is of it. -/
def ent (t : AT) (f : AX U t → (U.D → List (List U.C) → Option R) → Option R) (rest : Fn U R) : Fn U R := fun ds bx κ =>
  match rdA t ds bx with
  | some x => f x κ
  | none => rest ds bx κ
/-- The variables that are lent, a nil slice as an empty list. -/
def rdLsw (T : Nat) : U.C → Option (List (U.Ty T))
  | .nils => some []
  | c => rdLs T c
def rdLw : (t : List H) → List U.C → Option (HL U t)
  | [], [] => some ()
  | [], _ :: _ => none
  | _ :: _, [] => none
  | .i k :: t, c :: cs => pr (rdI k c) (rdLw t cs)
  | .b :: t, c :: cs => pr (cbool c) (rdLw t cs)
  | .s :: t, c :: cs => pr (cstr c) (rdLw t cs)
  | .l T :: t, c :: cs => pr (rdLsw T c) (rdLw t cs)
  | .q T :: t, c :: cs => pr (rdSp T c) (rdLw t cs)
  | .u :: t, c :: cs => bif isH .u c then rdLw t cs else none
  | .np :: t, c :: cs => bif isH .np c then rdLw t cs else none
  | .nn :: t, c :: cs => bif isH .nn c then rdLw t cs else none
  | .fn f :: t, c :: cs => bif isH (.fn f) c then rdLw t cs else none
  | .p b o :: t, c :: cs => bif isH (.p b o) c then rdLw t cs else none
  | .o T r :: t, c :: cs => bif isH (.o T r) c then rdLw t cs else none
/-- The same cells, but that a nil slice may be told as an empty list. -/
inductive Can {U : Uni} : List U.C → List U.C → Prop where
  | nil : Can [] []
  | same {x : U.C} {us vs : List U.C} (h : Can us vs) : Can (x :: us) (x :: vs)
  | wide {T : Nat} {us vs : List U.C} (h : Can us vs) : Can (.nils :: us) (.sl T [] :: vs)
theorem rdLw_ok : ∀ (t : List H) (cs : List U.C) (x : HL U t), rdLw t cs = some x → Can cs (fillL t x) := by
  intro t
  induction t with
  | nil => intro cs x h; cases cs with | nil => exact .nil | cons _ _ => cases h
  | cons y t ih =>
    intro cs x h
    cases cs with
    | nil => cases y <;> cases h
    | cons c cs =>
      cases y with
      | i k => have h' : pr (rdI k c) (rdLw t cs) = some x := h; obtain ⟨h1, h2⟩ := pr_ok h'; rw [rdI_ok h1]; exact .same (ih _ _ h2)
      | b => have h' : pr (cbool c) (rdLw t cs) = some x := h; obtain ⟨h1, h2⟩ := pr_ok h'; rw [cbool_ok h1]; exact .same (ih _ _ h2)
      | s => have h' : pr (cstr c) (rdLw t cs) = some x := h; obtain ⟨h1, h2⟩ := pr_ok h'; rw [cstr_ok h1]; exact .same (ih _ _ h2)
      | l T =>
        have h' : pr (rdLsw T c) (rdLw t cs) = some x := h
        obtain ⟨h1, h2⟩ := pr_ok h'
        have key : (c = .nils ∧ x.1 = []) ∨ rdLs T c = some x.1 := by
          revert h1
          generalize x.1 = y1
          intro h1
          unfold rdLsw at h1
          split at h1
          · exact .inl ⟨rfl, (Option.some.inj h1).symm⟩
          · exact .inr h1
        rcases key with ⟨rfl, e⟩ | e
        · have : fillL (.l T :: t) x = .sl T [] :: fillL t x.2 := by show (.sl T x.1 :: fillL t x.2 : List U.C) = _; rw [e]
          rw [this]
          exact .wide (ih _ _ h2)
        · rw [rdLs_ok e]; exact .same (ih _ _ h2)
      | q T => have h' : pr (rdSp T c) (rdLw t cs) = some x := h; obtain ⟨h1, h2⟩ := pr_ok h'; rw [rdSp_ok h1]; exact .same (ih _ _ h2)
      | u => have h' : (bif isH .u c then rdLw t cs else none) = some x := h; obtain ⟨hb, h2⟩ := bif_some h'; have e := isH_ok hb; simp only at e; rw [e]; exact .same (ih _ _ h2)
      | np => have h' : (bif isH .np c then rdLw t cs else none) = some x := h; obtain ⟨hb, h2⟩ := bif_some h'; have e := isH_ok hb; simp only at e; rw [e]; exact .same (ih _ _ h2)
      | nn => have h' : (bif isH .nn c then rdLw t cs else none) = some x := h; obtain ⟨hb, h2⟩ := bif_some h'; have e := isH_ok hb; simp only at e; rw [e]; exact .same (ih _ _ h2)
      | fn f => have h' : (bif isH (.fn f) c then rdLw t cs else none) = some x := h; obtain ⟨hb, h2⟩ := bif_some h'; have e := isH_ok hb; simp only at e; rw [e]; exact .same (ih _ _ h2)
      | p b o => have h' : (bif isH (.p b o) c then rdLw t cs else none) = some x := h; obtain ⟨hb, h2⟩ := bif_some h'; have e := isH_ok hb; simp only at e; rw [e]; exact .same (ih _ _ h2)
      | o T r => have h' : (bif isH (.o T r) c then rdLw t cs else none) = some x := h; obtain ⟨hb, h2⟩ := bif_some h'; have e := isH_ok hb; simp only at e; rw [e]; exact .same (ih _ _ h2)
theorem Can.len {us vs : List U.C} (h : Can us vs) : us.length = vs.length := by induction h <;> simp_all
theorem Can.get {us vs : List U.C} (h : Can us vs) : ∀ (j : Nat) d, vs[j]? = some d → us[j]? = some d ∨ us[j]? = some .nils ∧ ∃ T, d = .sl T [] := by
  induction h with
  | nil => intro j d h; simp at h
  | same h ih =>
    intro j d hd
    cases j with
    | zero => exact .inl hd
    | succ j => exact ih j d hd
  | wide h ih =>
    intro j d hd
    cases j with
    | zero => simp only [List.getElem?_cons_zero, Option.some.injEq] at hd; subst hd; exact .inr ⟨rfl, _, rfl⟩
    | succ j => exact ih j d hd
theorem Can.plain {us vs : List U.C} (h : Can us vs) (hp : us.all plain = true) : vs.all plain = true := by
  induction h with
  | nil => rfl
  | same h ih => simp only [List.all_cons, Bool.and_eq_true] at hp ⊢; exact ⟨hp.1, ih hp.2⟩
  | wide h ih => simp only [List.all_cons, Bool.and_eq_true] at hp ⊢; exact ⟨rfl, ih hp.2⟩
theorem Can.box {w : World} {G : Gh} {us vs : List U.C} (h : Can us vs) {g p : Nat} (hb : BoxAt w G g p us) : BoxAt w G g p vs := by
  intro j x hx
  rcases h.get j x hx with h1 | ⟨h1, T, rfl⟩
  · exact hb j x h1
  · obtain ⟨u, k1, k2, k3, k4⟩ := hb j _ h1
    refine ⟨u, k1, k2, ?_, k4⟩
    cases (k3 : RepP w G.fz (.nils : U.C) u)
    exact (RepP.sl T [] none 0 (fun _ _ => undef) (Nat.le_refl _) (fun h => absurd h (by simp)) (fun i j x hi => absurd hi (by simp)) : RepP w G.fz (.sl T [] : U.C) (.slice none 0 0))
def rdBw : (t : List (List H)) → List (List U.C) → Option (BD U t)
  | [], [] => some ()
  | [], _ :: _ => none
  | _ :: _, [] => none
  | hs :: t, c :: cs => pr (rdLw hs c) (rdBw t cs)
inductive CanB {U : Uni} : List (List U.C) → List (List U.C) → Prop where
  | nil : CanB [] []
  | cons {u v : List U.C} {us vs : List (List U.C)} (h : Can u v) (hs : CanB us vs) : CanB (u :: us) (v :: vs)
theorem rdBw_ok : ∀ (t : List (List H)) (cs : List (List U.C)) (x : BD U t), rdBw t cs = some x → CanB cs (fillB t x) := by
  intro t
  induction t with
  | nil => intro cs x h; cases cs with | nil => exact .nil | cons _ _ => cases h
  | cons y t ih =>
    intro cs x h
    cases cs with
    | nil => cases h
    | cons c cs =>
      have h' : pr (rdLw y c) (rdBw t cs) = some x := h
      obtain ⟨h1, h2⟩ := pr_ok h'
      exact .cons (rdLw_ok _ _ _ h1) (ih _ _ h2)
theorem CanB.len {us vs : List (List U.C)} (h : CanB us vs) : us.length = vs.length := by induction h <;> simp_all
theorem CanB.get {us vs : List (List U.C)} (h : CanB us vs) : ∀ (b : Nat) v, vs[b]? = some v → ∃ u, us[b]? = some u ∧ Can u v := by
  induction h with
  | nil => intro b v h; simp at h
  | cons h hs ih =>
    intro b v hv
    cases b with
    | zero => simp only [List.getElem?_cons_zero, Option.some.injEq] at hv; subst hv; exact ⟨_, rfl, h⟩
    | succ b => exact ih b v hv
theorem CanB.lens {us vs : List (List U.C)} (h : CanB us vs) : ∀ b : Nat, (vs.getD b []).length = (us.getD b []).length := by
  induction h with
  | nil => intro b; rfl
  | cons h hs ih =>
    intro b
    cases b with
    | zero => exact h.len.symm
    | succ b => exact ih b
theorem Entry.wide {w : World} {fz : Nat → Prop} {bs : Nat → Option (Nat × Nat)} {ds : List U.D} {us vs : List (List U.C)} {l : List Value} (h : CanB us vs) (e : Entry U w fz bs ds us l) : Entry U w fz bs ds vs l := by
  refine ⟨e.len, e.arg, fun b cs hb => ?_, fun b q hq => h.len ▸ e.bdom b q hq, e.fzlt, e.bfz, e.bb⟩
  obtain ⟨u, hu, hc⟩ := h.get b cs hb
  obtain ⟨h1, h2, g, p, h3, h4⟩ := e.box b u hu
  refine ⟨fun e0 => h1 ?_, hc.plain h2, g, p, h3, hc.box h4⟩
  subst e0
  exact List.length_eq_zero_iff.1 hc.len
theorem Rel.recs {X : Beg U} {σ : St U} {a : Act} {w : World} {G : Gh} (c : Nat → List U.C) (h0 : X.lk = 0) (h : Rel X σ a w G) : Rel { X with cs := c } σ a w G :=
  ⟨h.n, h.slot, h.dfr, h.box, h.bdom, h.row, h.rdom, h.fzlt, h.bfz, h.bb, h.rfz, h.rr, ⟨h.fr.blt, h.fr.os, h.fr.tape, h.fr.output, h.fr.size, h.fr.blk, h.fr.out, h.fr.bs, h.fr.fz, h.fr.fznew, h.fr.bsnew⟩, h.lent, h.lk,
    fun b hb => absurd (h0 ▸ hb : b < 0) (Nat.not_lt_zero b), fun b hb => absurd (h0 ▸ hb : b < 0) (Nat.not_lt_zero b)⟩
theorem Exits.wide {w : World} {fz : Nat → Prop} {bs : Nat → Option (Nat × Nat)} {us vs : List (List U.C)} (h : CanB us vs) {d : U.D} {bx : List (List U.C)} {v : Value} {w' : World} (e : Exits (begOf w fz bs vs false) d bx v w') : Exits (begOf w fz bs us false) d bx v w' := by
  obtain ⟨h1, G, hR⟩ := e
  refine ⟨h1, G, ?_⟩
  have hl : (fun b => (vs.getD b []).length) = fun b => (us.getD b []).length := funext h.lens
  have := hR.recs (fun b => us.getD b []) rfl
  unfold begOf at this ⊢
  rw [hl] at this
  exact this
def rdAw (t : AT) (ds : List U.D) (bx : List (List U.C)) : Option (AX U t) := pr (rdS t.a ds) (rdBw t.b bx)
def entw (t : AT) (f : AX U t → (U.D → List (List U.C) → Option R) → Option R) (rest : Fn U R) : Fn U R := fun ds bx κ =>
  match rdAw t ds bx with
  | some x => f x κ
  | none => rest ds bx κ
def SoundF (P : Program) (g : Nat) (f : Fn U R) : Prop := Sound P (fun _ => f) g
def Fz : Nat → Fn U R := fun _ _ _ _ => none
def Fc (h : Nat) (f : Fn U R) (Z : Nat → Fn U R) : Nat → Fn U R := fun g => bif Nat.beq g h then f else Z g
/-- A slice's places behind its length, forgotten. -/
def wkC : U.C → U.C
  | .sp T l m => .sl T l
  | x => x
def wkD : U.D → U.D
  | .v (.c x) => .v (.c (wkC x))
  | x => x
def wkF (f : Fn U R) : Fn U R := fun ds bx κ => f (ds.map wkD) bx κ
theorem wkC_rep {w : World} {G : Gh} {x : U.C} {v : Value} (h : RepC w G x v) : RepC w G (wkC x) v := by
  cases x with
  | sp T l m =>
    have h' : RepP w G.fz (.sp T l m : U.C) v := h
    cases h' with
    | sp _ _ _ a c f hc ha hf =>
      have hl : (l ++ m).length = l.length + m.length := List.length_append
      refine RepC.ofP (RepP.sl T l a c f (by omega) (fun h0 => ?_) (fun i j x hi hx => hf i j x (by omega) ?_))
      · obtain ⟨ad, h1, h2, h3⟩ := ha (by omega)
        exact ⟨ad, h1, h2, fun i j hi hj => h3 i j (by omega) hj⟩
      · have e : (l ++ m).getD i (U.dflt T) = l.getD i (U.dflt T) := by
          simp only [List.getD_eq_getElem?_getD]
          rw [List.getElem?_append_left hi]
        rw [e]
        exact hx
  | _ => exact h
theorem wkD_rep {w : World} {G : Gh} {d : U.D} {v : Value} (h : RepD w G d v) : RepD w G (wkD d) v := by
  unfold wkD
  split
  · rename_i x
    refine ⟨wkC_rep h.1, fun hn => h.2 (fun e => hn ?_)⟩
    cases x <;> first | (cases e; done) | rfl
  · exact h
theorem wkF_sound {g : Nat} {f : Fn U R} (h : SoundF P g f) : SoundF P g (wkF f) := by
  intro ds bx κ r hr
  obtain ⟨h1, d, bx', h2, h3, h4, h5, h6⟩ := h (ds.map wkD) bx κ r hr
  refine ⟨h1, d, bx', h2, h3, h4, h5, fun w fz bs vs e => h6 w fz bs vs ?_⟩
  refine ⟨by rw [List.length_map]; exact e.len, fun i d hd => ?_, e.box, e.bdom, e.fzlt, e.bfz, e.bb⟩
  rw [List.getElem?_map] at hd
  cases hi : ds[i]? with
  | none => rw [hi] at hd; cases hd
  | some d0 =>
    rw [hi] at hd
    simp only [Option.map_some, Option.some.injEq] at hd
    subst hd
    obtain ⟨v, k1, k2⟩ := e.arg i d0 hi
    exact ⟨v, k1, wkD_rep k2⟩
theorem Fz_sound : ∀ g, Sound P (Fz : Nat → Fn U R) g := fun g ds bx κ r h => by cases h
theorem fz_sound {g : Nat} : SoundF P g (Fz g : Fn U R) := fun ds bx κ r h => by cases h
theorem Fc_sound {h : Nat} {f : Fn U R} {Z : Nat → Fn U R} (hf : SoundF P h f) (hZ : ∀ g, Sound P Z g) : ∀ g, Sound P (Fc h f Z) g := by
  intro g ds bx κ r hr
  unfold Fc at hr
  cases hb : Nat.beq g h with
  | true =>
    rw [hb] at hr
    have := Nat.eq_of_beq_eq_true hb
    subst this
    exact hf ds bx κ r hr
  | false =>
    rw [hb] at hr
    exact hZ g ds bx κ r hr
theorem ent_sound (hU : UOk P U) (hm : P.follows .mixedOrders = true) {g : Nat} {fn : Func} (h1 : P.funcs[g]? = some fn) (h2 : (fn.name == "runtime.NumGoroutine") = false)
    {F : Nat → Fn U R} (hF : ∀ g, Sound P F g) {L : Hn U R} (hL : ∀ c, fn.body = some c → ∀ c' ∈ loopsOf c, LoopOk P L c')
    {t : AT} {f : AX U t → (U.D → List (List U.C) → Option R) → Option R} {rest : Fn U R} (hr : SoundF P g rest)
    (hT : ∀ x κ, f x κ = evFn F L (U.ro g) (U.rnew g) fn (fillS t.a x.1) (fillB t.b x.2) κ) : SoundF P g (ent t f rest) := by
  intro ds bx κ r h
  replace h : (match rdA t ds bx with | some x => f x κ | none => rest ds bx κ) = some r := h
  split at h
  · rename_i x hx
    obtain ⟨e1, e2⟩ := rdA_ok hx
    rw [hT, ← e1, ← e2] at h
    exact fn_sound hU hF (draw_ok hU hF hm) hL h1 h2 h
  · exact hr ds bx κ r h
theorem ent_none {g : Nat} {t : AT} {f : AX U t → (U.D → List (List U.C) → Option R) → Option R} {rest : Fn U R} (hr : SoundF P g rest) (hf : ∀ x κ, f x κ = none) : SoundF P g (ent t f rest) := by
  intro ds bx κ r h
  replace h : (match rdA t ds bx with | some x => f x κ | none => rest ds bx κ) = some r := h
  split at h
  · rw [hf] at h; cases h
  · exact hr ds bx κ r h
theorem entw_sound (hU : UOk P U) (hm : P.follows .mixedOrders = true) {g : Nat} (hro : U.ro g = false) {fn : Func} (h1 : P.funcs[g]? = some fn) (h2 : (fn.name == "runtime.NumGoroutine") = false)
    {F : Nat → Fn U R} (hF : ∀ g, Sound P F g) {L : Hn U R} (hL : ∀ c, fn.body = some c → ∀ c' ∈ loopsOf c, LoopOk P L c')
    {t : AT} {f : AX U t → (U.D → List (List U.C) → Option R) → Option R} {rest : Fn U R} (hr : SoundF P g rest)
    (hT : ∀ x κ, f x κ = evFn F L (U.ro g) (U.rnew g) fn (fillS t.a x.1) (fillB t.b x.2) κ) : SoundF P g (entw t f rest) := by
  intro ds bx κ r h
  replace h : (match rdAw t ds bx with | some x => f x κ | none => rest ds bx κ) = some r := h
  split at h
  · rename_i x hx
    obtain ⟨hx1, hx2⟩ := pr_ok hx
    have e1 := rdS_ok _ _ _ hx1
    have e2 := rdBw_ok _ _ _ hx2
    rw [hT, ← e1] at h
    obtain ⟨k1, d, bx', k2, k3, k4, k5, k6⟩ := fn_sound hU hF (draw_ok hU hF hm) hL h1 h2 h
    have k3' : U.ro g = true → bx' = bx := fun h => by rw [hro] at h; cases h
    have k5' : bx.length ≤ bx'.length := by rw [e2.len]; exact k5
    refine ⟨k1, d, bx', k2, k3', k4, k5', fun w fz bs vs he => ?_⟩
    have := k6 w fz bs vs (he.wide e2)
    rw [hro] at this ⊢
    exact this.mono fun e w' ⟨v, e1, e3⟩ => ⟨v, e1, e3.wide e2⟩
  · exact hr ds bx κ r h
theorem entw_none {g : Nat} {t : AT} {f : AX U t → (U.D → List (List U.C) → Option R) → Option R} {rest : Fn U R} (hr : SoundF P g rest) (hf : ∀ x κ, f x κ = none) : SoundF P g (entw t f rest) := by
  intro ds bx κ r h
  replace h : (match rdAw t ds bx with | some x => f x κ | none => rest ds bx κ) = some r := h
  split at h
  · rw [hf] at h; cases h
  · exact hr ds bx κ r h
/-- What serves a loop. -/
def hnd (ws : List Wd) (t : StT) (f : SX U t → (Out → St U → Option R) → Option R) (σ : St U) (k : Out → St U → Option R) : Option R :=
  match σ.wds ws with
  | some σ0 => match rdSt t σ0 with
    | some x => f x k
    | none => none
  | none => none
theorem hnd_ok (hU : UOk P U) {F : Nat → Fn U R} (hF : ∀ g, Sound P F g) (hm : P.follows .mixedOrders = true) {L : Hn U R} {c : Code} (hL : ∀ c' ∈ loopsOf c, LoopOk P L c') {key : Nat} (hk : firstReg c = some key)
    {ws0 ws : List Wd} {keep : List Nat} {t : StT} {f : SX U t → (Out → St U → Option R) → Option R} (hLk : ∀ σ k, L key σ k = hnd ws0 t f σ k)
    {n : Nat} (hn : ∀ x k, f x k = loopN keep ws (fun σ k => ev F L c σ k) (fillSt t x) k n (fillSt t x)) : LoopOk P L c := by
  refine loop_intro hU hF (draw_ok hU hF hm) hL ?_
  intro key' hk' σ k r hr
  rw [hk] at hk'
  cases hk'
  rw [hLk] at hr
  unfold hnd at hr
  split at hr
  · rename_i σ0 h0
    split at hr
    · rename_i x hx
      rw [hn, ← rdSt_ok hx] at hr
      exact ⟨keep, ws0, ws, n, σ0, h0, hr⟩
    · cases hr
  · cases hr
theorem loop_none {L : Hn U R} {c : Code} {key : Nat} (hk : firstReg c = some key) (h : ∀ σ k, L key σ k = none) : LoopOk P L c := by
  intro key' hk' σ k r hr
  rw [hk] at hk'
  cases hk'
  rw [h] at hr
  cases hr
/-- The loops of a function, one behind the other. -/
def lpAt (fn : Func) (j : Nat) : Code := match fn.body with | some c => (loopsOf c).getD j .skip | none => .skip
def nLp (c : Code) : Nat := (loopsOf c).length
theorem mem_getD {α : Type} (d : α) {l : List α} {x : α} (h : x ∈ l) : ∃ j, j < l.length ∧ l.getD j d = x := by
  obtain ⟨j, hj, rfl⟩ := List.mem_iff_getElem.1 h
  exact ⟨j, hj, by simp [List.getD_eq_getElem?_getD, hj]⟩
theorem loops_nil {L : Hn U R} {c : Code} (h : nLp c = 0) : ∀ c' ∈ loopsOf c, LoopOk P L c' := by
  intro c' hc
  have := List.length_eq_zero_iff.1 h
  rw [this] at hc
  cases hc
theorem loops_of {L : Hn U R} {c : Code} {ls : List Code} (h : loopsOf c = ls) (hl : ∀ c' ∈ ls, LoopOk P L c') : ∀ c' ∈ loopsOf c, LoopOk P L c' := by rw [h]; exact hl
theorem fn_loops {L : Hn U R} {fn : Func} {ls : List Code} (h : (match fn.body with | some c => loopsOf c | none => []) = ls) (hl : ∀ c' ∈ ls, LoopOk P L c') : ∀ c, fn.body = some c → ∀ c' ∈ loopsOf c, LoopOk P L c' := by
  intro c hc
  have h' : loopsOf c = ls := by rw [hc] at h; exact h
  rw [h']
  exact hl
theorem all_nil {p : Code → Prop} : ∀ c' ∈ ([] : List Code), p c' := fun _ h => by cases h
theorem all_cons {p : Code → Prop} {c : Code} {l : List Code} (h : p c) (hl : ∀ c' ∈ l, p c') : ∀ c' ∈ c :: l, p c' := by
  intro c' hc
  cases hc with
  | head => exact h
  | tail _ hc => exact hl c' hc

theorem chain3 {α : Type} {a b b' c c' d : α} (h1 : a = b) (h2 : b' = c) (h3 : c' = d) (e1 : b = b') (e2 : c = c') : a = d := h1.trans (e1.trans (h2.trans (e2.trans h3)))
theorem kcast {a b : Prop} (h : a = b) (x : a) : b := h ▸ x
/-! what moves a continuation inwards -/
theorem bind_cond {α β : Type} (b : Bool) (x y : Option α) (k : α → Option β) : (cond b x y).bind k = cond b (x.bind k) (y.bind k) := by cases b <;> rfl
theorem bind_when {α β : Type} (b : Bool) (x : Option α) (k : α → Option β) : (when_ b x).bind k = when_ b (x.bind k) := by cases b <;> rfl
theorem bind_elim {α β γ δ : Type} (f : α → Option γ) (g : β → Option γ) (k : γ → Option δ) (o : α ⊕ β) : (Sum.elim f g o).bind k = Sum.elim (fun x => (f x).bind k) (fun x => (g x).bind k) o := by cases o <;> rfl
theorem bind_none {α β : Type} (k : α → Option β) : (none : Option α).bind k = none := rfl
theorem bind_some {α β : Type} (x : α) (k : α → Option β) : (some x).bind k = k x := rfl
end
#print axioms ent_sound
#print axioms hnd_ok
end Go.Proofs.Ytogfofcocidmkaa.Ev
