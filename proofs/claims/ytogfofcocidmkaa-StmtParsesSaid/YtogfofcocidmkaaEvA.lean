/-
  EV (ours), part A: an evaluator of the translation's code over plain data: lists for slices that are only read, rows for those that the call itself makes, boxes for variables in memory. Part B and on prove that it is right.
-/
import Derived.Calls
import Derived.Orders
import Derived.Below
import Derived.WalkKit
set_option linter.unusedVariables false
namespace Go.Proofs.Ytogfofcocidmkaa.Ev
open Go.RowKit

/-- One cell's value. sl: a slice that is only read; own: a row of the call's own; fat, oat: the address of a cell of an element; new: a row that is handed back; sp: a slice that is only read, its places behind its length told. -/
inductive Cell (Ty : Nat → Type) : Type where
  | undef
  | int (k : IntKind) (n : Int)
  | bool (b : Bool)
  | str (s : ByteArray)
  | nilp
  | nils
  | sl (T : Nat) (l : List (Ty T))
  | fn (f : Nat)
  | new (T : Nat) (l : List (Ty T))
  | ptr (b o : Nat)
  | own (T r : Nat)
  | fat (T : Nat) (l : List (Ty T)) (i o : Nat)
  | oat (T r i o : Nat)
  | sp (T : Nat) (l m : List (Ty T))
inductive Val (Ty : Nat → Type) : Type where
  | c (x : Cell Ty)
  | agg (cs : List (Cell Ty))
inductive Dat (Ty : Nat → Type) : Type where
  | v (x : Val Ty)
  | tup (l : List (Val Ty))

/-- What is told of a type: its cells, its bytes, is it a struct or an array. -/
structure TI where
  sz : Nat
  bytes : Nat
  ag : Bool
inductive Conv where
  | int (k : IntKind)
  | same
  | toStr (T : Nat)
  | toBytes (T : Nat)
  | mark (T : Nat)
/-- The types of a program, as far as they are told. -/
structure Uni where
  Ty : Nat → Type
  dflt : ∀ T, Ty T
  enc : ∀ T, Ty T → List (Cell Ty)
  dec : ∀ T, List (Cell Ty) → Option (Ty T)
  inf : Nat → Option TI
  zero : Nat → Option (List (Cell Ty))
  places : Nat → Option (List (Nat × Nat))
  elem : Nat → Option Nat
  ptee : Nat → Option Nat
  conv : Nat → Nat → Option Conv
  boolT : Nat → Bool
  strT : Nat → Bool
  intT : Nat → Option IntKind
  bytes : ∀ T, List (Ty T) → Option (List Int)
  ofBytes : ∀ T, List Int → Option (List (Ty T))
  ro : Nat → Bool
  eqT : Nat → Bool
  rnew : Nat → Bool

def Uni.field (U : Uni) (S f : Nat) : Option (Nat × Nat) := match U.places S with | some ps => ps[f]? | none => none
abbrev Uni.C (U : Uni) := Cell U.Ty
abbrev Uni.V (U : Uni) := Val U.Ty
abbrev Uni.D (U : Uni) := Dat U.Ty
structure Row (U : Uni) where
  T : Nat
  l : List (U.Ty T)
structure St (U : Uni) where
  slots : List U.D
  boxes : List (List U.C)
  rows : List (Option (Row U))
  lk : Nat

section
variable {U : Uni}

def sliceT {Ty : Nat → Type} (x : Cell Ty) (T : Nat) : Option (List (Ty T)) :=
  match x with
  | .sl T' l => if h : T' = T then some (h ▸ l) else none
  | .nils => some []
  | _ => none

def cint {Ty : Nat → Type} (k : IntKind) : Cell Ty → Option Int
  | .int k' n => bif decide (k' = k) then some n else none
  | _ => none
def cbool {Ty : Nat → Type} : Cell Ty → Option Bool
  | .bool b => some b
  | _ => none
def cstr {Ty : Nat → Type} : Cell Ty → Option ByteArray
  | .str b => some b
  | _ => none

def vcells : U.V → List U.C
  | .c x => [x]
  | .agg cs => cs
/-- The cells of a value that is known. -/
def vl : U.V → Option (List U.C)
  | .c .undef => none
  | .c x => some [x]
  | .agg cs => some cs
/-- The value of type T that these cells are. -/
def mkV (t : TI) (cs : List U.C) : Option U.V :=
  if t.ag then some (.agg cs) else match cs with | [x] => some (.c x) | _ => none

def litC : Value → U.C
  | .int k n => .int k n
  | .bool b => .bool b
  | .string s => .str s
  | .pointer none => .nilp
  | .slice none 0 0 => .nils
  | _ => .undef
def Dat.cell : U.C → U.D := fun x => .v (.c x)
def St.ev (σ : St U) : Operand → U.D
  | .tmp t => σ.slots.getD t (.v (.c .undef))
  | .const v => .v (.c (litC v))
  | .func f => .v (.c (.fn f))
  | .global _ => .v (.c .undef)

/-! cells, all over a state -/
def mapV (f : U.C → U.C) : U.V → U.V
  | .c x => .c (f x)
  | .agg cs => .agg (cs.map f)
def mapD (f : U.C → U.C) : U.D → U.D
  | .v x => .v (mapV f x)
  | .tup l => .tup (l.map (mapV f))
def St.mapC (f : U.C → U.C) (σ : St U) : St U := { σ with slots := σ.slots.map (mapD f), boxes := σ.boxes.map (·.map f) }
/-- Whatever names this row is forgotten: the row turns. -/
def killC (r : Nat) : U.C → U.C
  | .own T r' => bif r' == r then .undef else .own T r'
  | .oat T r' i o => bif r' == r then .undef else .oat T r' i o
  | x => x
/-- The row is only read from now on. -/
def frzC (r : Nat) (T : Nat) (l : List (U.Ty T)) : U.C → U.C
  | .own T' r' => bif r' == r then .sl T l else .own T' r'
  | .oat T' r' i o => bif r' == r then .undef else .oat T' r' i o
  | x => x
def St.kill (σ : St U) (r : Nat) : St U := σ.mapC (killC r)
def St.freeze (σ : St U) (r : Nat) : Option (St U) :=
  match σ.rows.getD r none with
  | some w => some { σ.mapC (frzC r w.T w.l) with rows := σ.rows.set r none }
  | none => none
/-- The rows that these cells name are only read from now on; the cells, told so. -/
def St.frz (σ : St U) : List U.C → Option (List U.C × St U)
  | [] => some ([], σ)
  | x :: cs =>
    match x with
    | .own _ r => match σ.rows.getD r none with
      | some w => match σ.freeze r with
        | some σ1 => match σ1.frz cs with
          | some (cs', σ2) => some (.sl w.T w.l :: cs', σ2)
          | none => none
        | none => none
      | none => none
    | x => match σ.frz cs with
      | some (cs', σ2) => some (x :: cs', σ2)
      | none => none
/-- Plain: no address, no row of the call's own. -/
def plain : U.C → Bool
  | .int _ _ | .bool _ | .str _ | .nilp | .nils | .sl _ _ | .fn _ | .sp _ _ _ => true
  | _ => false
def St.frzV (σ : St U) : U.V → Option (U.V × St U)
  | .c x => match σ.frz [x] with | some ([y], σ1) => some (.c y, σ1) | _ => none
  | .agg cs => match σ.frz cs with | some (cs', σ1) => some (.agg cs', σ1) | none => none

/-! ### operations -/
variable {R : Type}
abbrev Fn (U : Uni) (R : Type) := List U.D → List (List U.C) → (U.D → List (List U.C) → Option R) → Option R

def Uni.sz (U : Uni) (T : Nat) : Nat := match U.inf T with | some t => t.sz | none => 0
def when_ (b : Bool) (x : Option R) : Option R := cond b x none
def intBin (op : BinOp) (k : IntKind) (a b : Int) : Option U.C :=
  match op with
  | .add => some (.int k (k.wrap (a + b)))
  | .sub => some (.int k (k.wrap (a - b)))
  | .mul => some (.int k (k.wrap (a * b)))
  | .and => some (.int k (bits .and k a b))
  | .or => some (.int k (bits .or k a b))
  | .xor => some (.int k (bits .xor k a b))
  | .andNot => some (.int k (bits .andNot k a b))
  | .eql => some (.bool (a == b))
  | .neq => some (.bool (a != b))
  | .lss => some (.bool (decide (a < b)))
  | .leq => some (.bool (decide (a ≤ b)))
  | .gtr => some (.bool (decide (a > b)))
  | .geq => some (.bool (decide (a ≥ b)))
  | _ => none
def strBin (op : BinOp) (a b : ByteArray) : Option Bool :=
  match op with
  | .eql => some (a.toList == b.toList)
  | .neq => some (!(a.toList == b.toList))
  | .lss => some (Op.bytesLess a.toList b.toList)
  | .leq => some (Op.bytesLess a.toList b.toList || a.toList == b.toList)
  | .gtr => some (!(Op.bytesLess a.toList b.toList || a.toList == b.toList))
  | .geq => some (!Op.bytesLess a.toList b.toList)
  | _ => none
def bt (s : ByteArray) (i : Int) : Int := ((s.data.getD i.toNat 0).toNat : Int)
def strOf (l : List Int) : ByteArray := l.foldl (fun r n => r.push (UInt8.ofNat n.toNat)) ByteArray.empty
def bytesOf (s : ByteArray) : List Int := s.data.toList.map fun b => (b.toNat : Int)
/-- '==' of structs, cell by cell; none: there is a cell that isn't told so. -/
def eqCells : List U.C → List U.C → Option Bool
  | [], [] => some true
  | .int k a :: xs, .int k' b :: ys => match eqCells xs ys with | some r => bif decide (k = k') then some (a == b && r) else none | none => none
  | .bool a :: xs, .bool b :: ys => match eqCells xs ys with | some r => some (a == b && r) | none => none
  | .str a :: xs, .str b :: ys => match eqCells xs ys with | some r => some (a.toList == b.toList && r) | none => none
  | _, _ => none
def eqAg (U : Uni) (T : Nat) (xs ys : List U.C) : Option Bool :=
  match U.dec T xs, U.dec T ys with
  | some _, some _ => eqCells xs ys
  | _, _ => none
/-- The bool: what must hold, lest it panics. -/
def evBin (op : BinOp) (T : Nat) (x y : U.D) : Option (Bool × U.C) :=
  match x, y with
  | .v (.c (.int k1 a)), .v (.c (.int k2 b)) =>
    match op with
    | .quo => bif decide (k1 = k2) then some (!(b == 0), .int k1 (k1.wrap (a.tdiv b))) else none
    | .rem => bif decide (k1 = k2) then some (!(b == 0), .int k1 (a.tmod b)) else none
    | .shl => some (decide (0 ≤ b), .int k1 (k1.wrap (a * 2 ^ min b.toNat k1.bits)))
    | .shr => some (decide (0 ≤ b), .int k1 (a.fdiv (2 ^ min b.toNat k1.bits)))
    | op => bif decide (k1 = k2) then (match intBin (U := U) op k1 a b with | some c => some (true, c) | none => none) else none
  | .v (.c (.str a)), .v (.c (.str b)) =>
    match op with
    | .add => some (decide (a.size + b.size ≤ 9223372036854775807), .str (a ++ b))
    | op => match strBin op a b with | some r => some (true, .bool r) | none => none
  | .v (.c (.bool a)), .v (.c (.bool b)) =>
    bif U.boolT T then (match op with
    | .eql => some (true, .bool (a == b))
    | .neq => some (true, .bool (!(a == b)))
    | _ => none) else none
  | .v (.agg xs), .v (.agg ys) => bif U.eqT T then (match eqAg U T xs ys, op with
    | some b, .eql => some (true, .bool b)
    | some b, .neq => some (true, .bool (!b))
    | _, _ => none) else none
  | .v (.c .nilp), .v (.c .nilp) => match U.ptee T, op with | some _, .eql => some (true, .bool true) | some _, .neq => some (true, .bool false) | _, _ => none
  | .v (.c (.ptr _ _)), .v (.c .nilp) => match U.ptee T, op with | some _, .eql => some (true, .bool false) | some _, .neq => some (true, .bool true) | _, _ => none
  | _, _ => none
def evUn (op : UnOp) (x : U.D) : Option U.C :=
  match op, x with
  | .neg, .v (.c (.int k n)) => some (.int k (k.wrap (0 - n)))
  | .not, .v (.c (.bool b)) => some (.bool (!b))
  | .xor, .v (.c (.int k n)) => some (.int k (bits .xor k (if k.signed then -1 else k.max) n))
  | _, _ => none
def rowAt (σ : St U) (T r : Nat) : Option (List (U.Ty T)) :=
  match σ.rows.getD r none with
  | some w => if h : w.T = T then some (h ▸ w.l) else none
  | none => none
/-- The cells from o on, n of them. -/
def sub (cs : List U.C) (o n : Nat) : Option (List U.C) := bif (o + n).ble cs.length then some ((cs.drop o).take n) else none
def splice (cs : List U.C) (o : Nat) (ys : List U.C) : List U.C := cs.take o ++ ys ++ cs.drop (o + ys.length)
/-- The cells at an address. -/
def cellsAt (σ : St U) (n : Nat) : U.D → Option (List U.C)
  | .v (.c (.ptr b o)) => sub (σ.boxes.getD b []) o n
  | .v (.c (.fat T l i o)) => sub (U.enc T (l.getD i (U.dflt T))) o n
  | .v (.c (.oat T r i o)) => match rowAt σ T r with | some l => sub (U.enc T (l.getD i (U.dflt T))) o n | none => none
  | _ => none
def fillAt (cs : List U.C) : List (Nat × List U.C) → Option (List U.C)
  | [] => some cs
  | (o, ys) :: ps => bif (o + ys.length).ble cs.length then fillAt (splice cs o ys) ps else none
/-- The parts of a literal: where each goes, and its cells. -/
def partsOf (place : Nat → Option (Nat × Nat)) (σ : St U) : List (Nat × Operand) → Option (List (Nat × List U.C))
  | [] => some []
  | (i, x) :: ps => match place i, σ.ev x, partsOf place σ ps with
    | some (o, n), .v v, some r => match vl v with
      | some cs => bif cs.length.beq n then some ((o, cs) :: r) else none
      | none => none
    | _, _, _ => none
def decAll (T : Nat) (n : Nat) : Nat → List U.C → Option (List (U.Ty T))
  | 0, _ => some []
  | m + 1, cs => match U.dec T (cs.take n), decAll T n m (cs.drop n) with
    | some x, some l => some (x :: l)
    | _, _ => none
def St.put (σ : St U) (d : Option Nat) (x : U.D) : St U :=
  match d with
  | some d => { σ with slots := σ.slots.set d x }
  | none => σ
def St.newRow (σ : St U) (T : Nat) (l : List (U.Ty T)) : St U := { σ with rows := σ.rows ++ [some ⟨T, l⟩] }
def St.newBox (σ : St U) (cs : List U.C) : St U := { σ with boxes := σ.boxes ++ [cs] }
def St.setRow (σ : St U) (r T : Nat) (l : List (U.Ty T)) : St U := { σ with rows := σ.rows.set r (some ⟨T, l⟩) }

/-- How many elements of a type may lie in one slice. -/
def roomOf (t : TI) : Nat := 140737488355328 / t.bytes
/-- A slice's list, whoever's it is: a row of the call's own is only read from then on. -/
def St.list (σ : St U) (T : Nat) (x : U.D) : Option (List (U.Ty T) × St U) :=
  match x with
  | .v (.c (.own T' r)) => match rowAt σ T r, σ.freeze r with
    | some l, some σ1 => some (l, σ1)
    | _, _ => none
  | .v (.c x) => match sliceT x T with | some l => some (l, σ) | none => none
  | _ => none
def evAppend (σ : St U) (T : Nat) (t : TI) (s x : U.D) (k : U.D → St U → Option R) : Option R :=
  match s with
  | .v (.c (.own T' r)) =>
    match σ.list T x with
    | some (m, σ1) => match rowAt σ1 T r with
      | some l => when_ (decide (l.length + m.length ≤ roomOf t)) (k (.v (.c (.own T r))) ((σ1.kill r).setRow r T (l ++ m)))
      | none => none
    | none => none
  | .v (.c .nils) =>
    match σ.list T x with
    | some (m, σ1) => when_ (decide (m.length ≤ roomOf t)) (k (.v (.c (.own T σ1.rows.length))) (σ1.newRow T m))
    | none => none
  | _ => none
def lenOf (σ : St U) (t : Nat) (x : U.D) : Option Int :=
  match x with
  | .v (.c (.str s)) => bif U.strT t then some s.size else none
  | .v (.c (.sl _ l)) => bif (U.elem t).isSome then some l.length else none
  | .v (.c .nils) => bif (U.elem t).isSome then some 0 else none
  | .v (.c (.own T r)) => bif (U.elem t).isSome then (match rowAt σ T r with | some l => some l.length | none => none) else none
  | _ => none
def minMax (b : Builtin) (x : U.C) (y : U.D) : Option U.C :=
  match x, y with
  | .int k a, .v (.c (.int _ b')) => match b with
    | .max => some (.int k (if b' > a then b' else a))
    | .min => some (.int k (if b' < a then b' else a))
    | _ => none
  | _, _ => none
def foldMM (b : Builtin) : U.C → List U.D → Option U.C
  | x, [] => some x
  | x, y :: ys => match minMax (U := U) b x y with | some z => foldMM b z ys | none => none
/-- s[lo:hi], the bounds being told. -/
def cutAt (n : Int) (lo hi : Option U.D) : Option (Bool × Int × Int) :=
  match (match hi with | some (.v (.c (.int _ h))) => some h | some _ => none | none => some n), (match lo with | some (.v (.c (.int _ l))) => some l | some _ => none | none => some 0) with
  | some h, some l => some (decide (0 ≤ h) && decide (h ≤ n) && (decide (0 ≤ l) && decide (l ≤ h)), l, h)
  | _, _ => none

/-! ### calls -/
structure Lent where
  b : Nat
  o : Nat
  n : Nat
/-- A value of a type, told in the one way that it is told across calls. -/
def canonV (U : Uni) (t : Nat) : U.V → U.V
  | .c .nils => match U.elem t with | some T => .c (.sl T []) | none => .c .nils
  | .c x => .c x
  | .agg cs => match U.dec t cs with | some x => .agg (U.enc t x) | none => .agg cs
/-- The arguments as the callee sees them: what they name of ours is only read from now on; a variable that is pointed to is lent. -/
def prep (U : Uni) (σ : St U) (ts : List Nat) (j : Nat) : List U.D → Option (List U.D × List Lent × St U)
  | [] => some ([], [], σ)
  | d :: ds =>
    match d with
    | .v (.c (.ptr b o)) =>
      match U.ptee (ts.headD 0) with
      | some T => match U.inf T with
        | some t => match prep U σ ts.tail (j + 1) ds with
          | some (ds', ls, σ1) => some (.v (.c (.ptr j 0)) :: ds', ⟨b, o, t.sz⟩ :: ls, σ1)
          | none => none
        | none => none
      | none => none
    | .v v => match σ.frzV v with
      | some (v', σ1) => bif (vcells v').all plain then (match prep U σ1 ts.tail j ds with
        | some (ds', ls, σ2) => some (.v (canonV U (ts.headD 0) v') :: ds', ls, σ2)
        | none => none) else none
      | none => none
    | .tup _ => none
def distinct : List Lent → Bool
  | [] => true
  | l :: ls => ls.all (fun m => !(m.b == l.b)) && distinct ls
/-- What is lent, all its cells plain. -/
def lend (σ : St U) : List Lent → Option (List (List U.C) × St U)
  | [] => some ([], σ)
  | l :: ls =>
    match sub (σ.boxes.getD l.b []) l.o l.n with
    | some cs => match σ.frz cs with
      | some (_, σ1) => match sub (σ1.boxes.getD l.b []) l.o l.n with
        | some cs1 => bif cs1.all plain then (match lend σ1 ls with
          | some (r, σ2) => some (cs1 :: r, σ2)
          | none => none) else none
        | none => none
      | none => none
    | none => none
/-- What was lent comes back. -/
def back (σ : St U) : List Lent → List (List U.C) → Option (St U × List (List U.C))
  | [], bx => some (σ, bx)
  | l :: ls, cs :: bx => bif cs.length.beq l.n && cs.all plain then back { σ with boxes := σ.boxes.set l.b (splice (σ.boxes.getD l.b []) l.o cs) } ls bx else none
  | _ :: _, [] => none
/-- The rows that are handed back. -/
def newsC : U.C → List (Row U)
  | .new T l => [⟨T, l⟩]
  | _ => []
def newsV : U.V → List (Row U)
  | .c x => newsC x
  | .agg _ => []
def newsD : U.D → List (Row U)
  | .v v => newsV v
  | .tup l => l.flatMap newsV
/-- A result's cell, as the caller has it; n: the new row's number. -/
def recvC (ls : List Lent) (n : Nat) : U.C → U.C
  | .new T _ => .own T n
  | .ptr j o => match ls[j]? with
    | some l => .ptr l.b (l.o + o)
    | none => .undef
  | .own _ _ => .undef
  | .fat _ _ _ _ => .undef
  | .oat _ _ _ _ => .undef
  | x => x
def recvD (ls : List Lent) (σ : St U) (d : U.D) : Option (U.D × St U) :=
  match newsD d with
  | [] => some (mapD (recvC ls σ.rows.length) d, σ)
  | [R] => some (mapD (recvC ls σ.rows.length) d, σ.newRow R.T R.l)
  | _ => none
/-- Behind the call: what was lent, a variable that the callee made and handed back, the result. -/
def recv (ls : List Lent) (σ : St U) (d : U.D) (bx : List (List U.C)) : Option (U.D × St U) :=
  match back σ ls bx with
  | some (σ1, []) => recvD ls σ1 d
  | some (σ1, [cs]) => bif cs.all plain && !cs.isEmpty then recvD (ls ++ [⟨σ1.boxes.length, 0, cs.length⟩]) (σ1.newBox cs) d else none
  | _ => none
/-- Behind a call of a function that writes none of them. -/
def recvR (ls : List Lent) (σ : St U) (d : U.D) (bx : List (List U.C)) : Option (U.D × St U) :=
  bif bx.length.beq ls.length then recvD ls σ d else none
def evCall (F : Nat → Fn U R) (σ : St U) (g : Nat) (ts : List Nat) (ds : List U.D) (k : U.D → St U → Option R) : Option R :=
  match prep U σ ts 0 ds with
  | some (ds', ls, σ1) => bif distinct ls && (U.ro g || ls.all fun l => σ1.lk.ble l.b) then (match lend σ1 ls with
    | some (bx, σ2) => F g ds' bx fun d bx' => match (bif U.ro g then recvR ls σ2 d bx' else recv ls σ2 d bx') with
      | some (d', σ3) => k d' σ3
      | none => none
    | none => none) else none
  | none => none

/-! ### one operation -/
/-- An operation that leaves the state as it is: what must hold, lest it panics; its value. -/
def evV (op : Op) (σ : St U) : Option (Bool × U.D) :=
  let c (x : U.C) : Option (Bool × U.D) := some (true, .v (.c x))
  match op with
  | .move x | .assign x => some (true, σ.ev x)
  | .build T ps => match U.zero T, U.places T with
    | some cs, some pl => match partsOf (fun i => pl[i]?) σ ps.toList with
      | some ps' => match fillAt cs ps' with
        | some cs' => some (true, .v (.agg cs'))
        | none => none
      | none => none
    | _, _ => none
  | .load T a => match U.inf T with
    | some t => match cellsAt σ t.sz (σ.ev a) with
      | some cs => match mkV (U := U) t cs with
        | some v => some (true, .v v)
        | none => none
      | none => none
    | none => none
  | .nilCheck x => match σ.ev x with
    | .v (.c (.ptr b o)) => c (.ptr b o)
    | .v (.c (.fat T l i o)) => c (.fat T l i o)
    | .v (.c (.oat T r i o)) => c (.oat T r i o)
    | .v (.c (.fn f)) => c (.fn f)
    | _ => none
  | .binOp op T x y _ => match evBin op T (σ.ev x) (σ.ev y) with | some (b, z) => some (b, .v (.c z)) | none => none
  | .unOp op _ x => match evUn op (σ.ev x) with | some z => c z | none => none
  | .convert s d x => match U.conv s d, σ.ev x with
    | some (.int kd), .v (.c (.int _ n)) => c (.int kd (kd.wrap n))
    | some .same, .v (.c (.str s)) => c (.str s)
    | some (.toStr T), .v (.c x) => match sliceT x T with
      | some l => match U.bytes T l with
        | some bs => c (.str (strOf bs))
        | none => none
      | none => none
    | _, _ => none
  | .slice S x lo hi mx => match mx with
    | some _ => none
    | none => match σ.ev x with
      | .v (.c (.str s)) => bif U.strT S then (match cutAt s.size (lo.map σ.ev) (hi.map σ.ev) with | some (b, l, h) => some (b, .v (.c (.str (s.extract l.toNat h.toNat)))) | none => none) else none
      | .v (.c (.sp T' l m)) => match U.elem S with
        | some T => bif T'.beq T && (U.inf T).isSome then (match lo, hi.map σ.ev with
          | none, some (.v (.c (.int _ h))) => some (decide (0 ≤ h) && decide (h ≤ (l.length + m.length : Nat)), .v (.c (.sl T' ((l ++ m).take h.toNat))))
          | _, _ => none) else none
        | none => none
      | .v (.c x) => match U.elem S with
        | some T => match U.inf T, sliceT x T with
          | some _, some l => match cutAt l.length (lo.map σ.ev) (hi.map σ.ev) with | some (b, a, h) => some (b, .v (.c (.sl T ((l.take h.toNat).drop a.toNat)))) | none => none
          | _, _ => none
        | none => none
      | _ => none
  | .fieldAddr S x f => match U.field S f with
    | some (o, _) => match σ.ev x with
      | .v (.c (.ptr b p)) => c (.ptr b (p + o))
      | .v (.c (.fat T l i p)) => c (.fat T l i (p + o))
      | .v (.c (.oat T r i p)) => c (.oat T r i (p + o))
      | _ => none
    | none => none
  | .indexAddr S x i => match U.elem S, σ.ev i with
    | some T0, .v (.c (.int _ n)) => match σ.ev x with
      | .v (.c (.sl T l)) => bif T.beq T0 && (U.inf T).isSome then some (decide (0 ≤ n) && decide (n < l.length), .v (.c (.fat T l n.toNat 0))) else none
      | .v (.c (.own T r)) => bif T.beq T0 && (U.inf T).isSome then (match rowAt σ T r with
        | some l => some (decide (0 ≤ n) && decide (n < l.length), .v (.c (.oat T r n.toNat 0)))
        | none => none) else none
      | _ => none
    | _, _ => none
  | .index T x i => bif U.strT T then (match σ.ev x, σ.ev i with
    | .v (.c (.str s)), .v (.c (.int _ n)) => some (decide (0 ≤ n) && decide (n < s.size), .v (.c (.int .u8 (bt s n))))
    | _, _ => none) else none
  | .extract x i => match σ.ev x with
    | .tup l => match l[i]? with | some v => some (true, .v v) | none => none
    | _ => none
  | .call r =>
    match r.callee with
    | .builtin .len => match r.argTypes.toList, r.args.toList.map σ.ev with
      | [t], [x] => match lenOf σ t x with | some n => c (.int .i64 n) | none => none
      | _, _ => none
    | .builtin .max => match r.args.toList.map σ.ev with
      | .v (.c x) :: ys => match foldMM (U := U) .max x ys with | some z => c z | none => none
      | _ => none
    | .builtin .min => match r.args.toList.map σ.ev with
      | .v (.c x) :: ys => match foldMM (U := U) .min x ys with | some z => c z | none => none
      | _ => none
    | _ => none
  | _ => none
def evPick (σ : St U) (x a b : Operand) (k : U.D → Option R) : Option R :=
  match σ.ev x with
  | .v (.c (.bool t)) => match σ.ev a, σ.ev b with
    | .v (.c (.bool p)), .v (.c (.bool q)) => k (.v (.c (.bool (cond t p q))))
    | da, db => cond t (k da) (k db)
  | _ => none
def evVal (op : Op) (σ : St U) (k : U.D → Option R) : Option R :=
  match op with
  | .pick x a b => evPick σ x a b k
  | op => match evV op σ with
    | some (b, d) => when_ b (k d)
    | none => none
/-- The list that the parts of a literal make. -/
def litL (σ : St U) (T : Nat) (n : Nat) (ps : List (Nat × Operand)) : Option (List U.C) :=
  match U.inf T, U.zero T with
  | some t, some z => match partsOf (fun i => some (i * t.sz, t.sz)) σ ps with
    | some ps' => bif (n * t.sz).ble 16777216 then fillAt (List.replicate n z).flatten ps' else none
    | none => none
  | _, _ => none
/-- A store through a pointer to a variable: the variable's cells behind it. -/
def stoC (σ : St U) (n : Nat) (b o : Nat) (vs : List U.C) : Option (List U.C) :=
  bif vs.length.beq n && σ.lk.ble b && (o + n).ble (σ.boxes.getD b []).length then some (splice (σ.boxes.getD b []) o vs) else none
def evOp (F : Nat → Fn U R) (op : Op) (σ : St U) (k : U.D → St U → Option R) : Option R :=
  match op with
  | .alloc T => match U.zero T with
    | some (x :: cs) => k (.v (.c (.ptr σ.boxes.length 0))) (σ.newBox (x :: cs))
    | _ => none
  | .box T x => match U.inf T, σ.ev x with
    | some t, .v v => match vl v with
      | some (x :: cs) => bif (x :: cs).length.beq t.sz then k (.v (.c (.ptr σ.boxes.length 0))) (σ.newBox (x :: cs)) else none
      | _ => none
    | _, _ => none
  | .buildSlice S n ps => match U.elem S with
    | some T => match litL σ T n ps.toList with
      | some cs => match σ.frz cs with
        | some (cs', σ1) => match decAll T (U.sz T) n cs' with
          | some l => k (.v (.c (.own T σ1.rows.length))) (σ1.newRow T l)
          | none => none
        | none => none
      | none => none
    | none => none
  | .store T a x => match U.inf T, σ.ev x with
    | some t, .v v => match vl v with
      | none => none
      | some vs => match σ.ev a with
        | .v (.c (.ptr b o)) => match stoC σ t.sz b o vs with
          | some cs => k (.v (.c .undef)) { σ with boxes := σ.boxes.set b cs }
          | none => none
        | _ => none
    | _, _ => none
  | .slice S x lo hi mx => match σ.ev x with
    | .v (.c (.own T r)) => match σ.freeze r with
      | some σ1 => evVal (.slice S x lo hi mx) σ1 fun d => k d σ1
      | none => none
    | _ => evVal (.slice S x lo hi mx) σ fun d => k d σ
  | .convert s d x => match U.conv s d, σ.ev x with
    | some (.toBytes T), .v (.c (.str s)) => match U.ofBytes T (bytesOf s) with
      | some l => k (.v (.c (.sl T l))) σ
      | none => none
    | some (.mark T), .v (.c (.own T' r)) => match rowAt σ T r with
      | some (x :: l) => k (.v (.c (.sl T (x :: l)))) { σ.kill r with rows := σ.rows.set r none }
      | _ => none
    | _, .v (.c (.own T r)) => match σ.freeze r with
      | some σ1 => evVal (.convert s d x) σ1 fun d => k d σ1
      | none => none
    | _, _ => evVal (.convert s d x) σ fun d => k d σ
  | .call r =>
    match r.callee with
    | .builtin .append => match (r.args.toList.map σ.ev), r.argTypes.toList with
      | [s, x], [S, S'] => bif S.beq S' then (match U.elem S with
        | some T => match U.inf T with
          | some t => evAppend σ T t s x k
          | none => none
        | none => none) else none
      | _, _ => none
    | .value f => match σ.ev f with
      | .v (.c (.fn g)) => evCall F σ g r.argTypes.toList (r.args.toList.map σ.ev) k
      | _ => none
    | _ => evVal (.call r) σ fun d => k d σ
  | op => evVal op σ fun d => k d σ

/-! ### regions, code -/
/-- By a guard, as it is wanted. -/
def sel (b want : Bool) (x y : Option R) : Option R := cond want (cond b x y) (cond b y x)
theorem sel_eq (b want : Bool) (x y : Option R) : sel b want x y = cond (b == want) x y := by cases b <;> cases want <;> rfl
/-- The slots, laid out one by one (for the kernel's sake). -/
def frcL : List U.D → (List U.D → Option R) → Option R
  | [], k => k []
  | x :: xs, k => frcL xs fun ys => k (x :: ys)
def frcS (σ : St U) (k : St U → Option R) : Option R := frcL σ.slots fun s => k { σ with slots := s }
theorem frcL_eq : ∀ (l : List U.D) (k : List U.D → Option R), frcL l k = k l
  | [], k => rfl
  | x :: xs, k => frcL_eq xs _
theorem frcS_eq (σ : St U) (k : St U → Option R) : frcS σ k = k σ := frcL_eq _ _
def evOps (F : Nat → Fn U R) (ops : Array Oper) (σ : St U) (k : St U → Option R) : List Oper → Option R
  | [] => k σ
  | o :: os =>
    match o.guard with
    | none => evOp F o.op σ fun d σ1 => frcS (σ1.put o.dst d) fun σ2 => evOps F ops σ2 k os
    | some (j, want) =>
      match (ops[j]?).bind (·.dst) with
      | some t => match σ.slots.getD t (.v (.c .undef)) with
        | .v (.c (.bool b)) =>
          sel b want
            (evOp F o.op { σ with slots := σ.slots.set t (.v (.c (.bool want))) } fun d σ1 => frcS (σ1.put o.dst d) fun σ2 => evOps F ops σ2 k os)
            (frcS ({ σ with slots := σ.slots.set t (.v (.c (.bool (!want)))) }.put o.dst (.tup [])) fun σ2 => evOps F ops σ2 k os)
        | .tup [] => frcS (σ.put o.dst (.tup [])) fun σ2 => evOps F ops σ2 k os
        | _ => none
      | none => none
/-! ### a region that draws its order: the text's order, and a look whether another one would do the same -/
/-- What an operation did: its value, the variables' new cells, the variables it looked at. -/
structure Eff (U : Uni) where
  d : U.D
  bx : List (Nat × List U.C)
  r : List Nat
def setAll (bs : List (List U.C)) : List (Nat × List U.C) → List (List U.C)
  | [] => bs
  | (b, cs) :: ws => setAll (bs.set b cs) ws
def Eff.app (e : Eff U) (dst : Option Nat) (σ : St U) : St U := { σ with boxes := setAll σ.boxes e.bx }.put dst e.d
def plainD : U.D → Bool
  | .v v => (vcells v).all plain
  | .tup l => l.all fun v => (vcells v).all plain
def ptrOf : U.D → Option Nat
  | .v (.c (.ptr b _)) => some b
  | _ => none
def boxOf : U.D → List Nat
  | .v (.c (.ptr b _)) => [b]
  | _ => []
def evOpD (F : Nat → Fn U R) (op : Op) (pos : Nat) (σ : St U) (k : Eff U → Option R) : Option R :=
  match op with
  | .alloc T => match U.zero T, σ.boxes[pos]? with
    | some (x :: cs), some [] => k ⟨.v (.c (.ptr pos 0)), [(pos, x :: cs)], []⟩
    | _, _ => none
  | .buildSlice S n ps => match U.elem S with
    | some T => match litL σ T n ps.toList with
      | some cs => bif cs.all plain then (match decAll T (U.sz T) n cs with
        | some l => k ⟨.v (.c (.sl T l)), [], []⟩
        | none => none) else none
      | none => none
    | none => none
  | .store T a x => match U.inf T, σ.ev x with
    | some t, .v v => match vl v with
      | none => none
      | some vs => match σ.ev a with
        | .v (.c (.ptr b o)) => match stoC σ t.sz b o vs with
          | some cs => k ⟨.v (.c .undef), [(b, cs)], [b]⟩
          | none => none
        | _ => none
    | _, _ => none
  | .load T a => evVal (.load T a) σ fun d => k ⟨d, [], boxOf (σ.ev a)⟩
  | .call r =>
    match r.callee with
    | .value f => match σ.ev f with
      | .v (.c (.fn g)) =>
        bif (r.args.toList.map σ.ev).all (fun d => plainD d || (ptrOf d).isSome) && ((r.args.toList.map σ.ev).filterMap ptrOf).all (fun b => (σ.boxes.getD b []).all plain) then
          (evCall F σ g r.argTypes.toList (r.args.toList.map σ.ev) fun d σ' =>
            bif plainD d && σ'.boxes.length.beq σ.boxes.length then
              k ⟨d, bif U.ro g then [] else ((r.args.toList.map σ.ev).filterMap ptrOf).map fun b => (b, σ'.boxes.getD b []), (r.args.toList.map σ.ev).filterMap ptrOf⟩
            else none) else none
      | _ => none
    | _ => evVal (.call r) σ fun d => k ⟨d, [], []⟩
  | op => evVal op σ fun d => k ⟨d, [], []⟩
def isAlloc : Op → Bool
  | .alloc _ => true
  | _ => false
def evOpsD (F : Nat → Fn U R) (ops : Array Oper) (σ : St U) (pos : Nat) (es : List (Eff U)) (k : List (Eff U) → St U → Option R) : List Oper → Option R
  | [] => k es σ
  | o :: os =>
    match o.guard with
    | none => evOpD F o.op pos σ fun e => evOpsD F ops (e.app o.dst σ) (bif isAlloc o.op then pos + 1 else pos) (es ++ [e]) k os
    | some (j, want) =>
      match (ops[j]?).bind (·.dst) with
      | some t => match σ.slots.getD t (.v (.c .undef)) with
        | .v (.c (.bool b)) =>
          sel b want
            (evOpD F o.op pos { σ with slots := σ.slots.set t (.v (.c (.bool want))) } fun e => evOpsD F ops (e.app o.dst { σ with slots := σ.slots.set t (.v (.c (.bool want))) }) (bif isAlloc o.op then pos + 1 else pos) (es ++ [e]) k os)
            (evOpsD F ops ((⟨.tup [], [], []⟩ : Eff U).app o.dst { σ with slots := σ.slots.set t (.v (.c (.bool (!want)))) }) (bif isAlloc o.op then pos + 1 else pos) (es ++ [⟨.tup [], [], []⟩]) k os)
        | .tup [] => evOpsD F ops ((⟨.tup [], [], []⟩ : Eff U).app o.dst σ) (bif isAlloc o.op then pos + 1 else pos) (es ++ [⟨.tup [], [], []⟩]) k os
        | _ => none
      | none => none
def tmpsOf : List Operand → List Nat
  | [] => []
  | .tmp t :: xs => t :: tmpsOf xs
  | _ :: xs => tmpsOf xs
/-- The places in the frame that an operation reads. -/
def srcOps : Op → Option (List Operand)
  | .move x | .assign x | .load _ x | .nilCheck x | .unOp _ _ x | .convert _ _ x | .fieldAddr _ x _ | .extract x _ => some [x]
  | .pick x a b => some [x, a, b]
  | .build _ ps | .buildSlice _ _ ps => some (ps.toList.map (·.2))
  | .binOp _ _ x y _ => some [x, y]
  | .slice _ x lo hi none => some (x :: (lo.toList ++ hi.toList))
  | .indexAddr _ x i | .index _ x i => some [x, i]
  | .store _ a x => some [a, x]
  | .alloc _ => some []
  | .call r => match r.callee with
    | .builtin _ => some r.args.toList
    | .value f => some (f :: r.args.toList)
    | _ => none
  | _ => none
def srcs (ops : Array Oper) (o : Oper) : Option (List Nat) :=
  match srcOps o.op with
  | some l => match o.guard with
    | none => some (tmpsOf l)
    | some (j, _) => match (ops[j]?).bind (·.dst) with
      | some t => some (t :: tmpsOf l)
      | none => none
  | none => none
def maskOf (acc : List Nat) : List Edge → Nat
  | [] => 0
  | e :: es => bif Region.binds .any e && Nat.blt e.on acc.length then (2 ^ e.on ||| acc.getD e.on 0) ||| maskOf acc es else maskOf acc es
def masks : List Oper → List Nat → List Nat
  | [], acc => acc
  | o :: os, acc => masks os (acc ++ [maskOf acc o.after.toList])
def inB (x : Nat) : List Nat → Bool
  | [] => false
  | y :: ys => bif Nat.beq x y then true else inB x ys
def apartB (xs ys : List Nat) : Bool := xs.all fun x => !inB x ys
/-- What an operation touches: slots read, slots written, variables read, variables written. -/
structure Tch where
  sr : List Nat
  sw : List Nat
  br : List Nat
  bw : List Nat
def tch (ops : Array Oper) (o : Oper) (e : Eff U) : Option Tch := match srcs ops o with
  | some l => some ⟨l, o.dst.toList, e.r, e.bx.map (·.1)⟩
  | none => none
def tchs (ops : Array Oper) : List Oper → List (Eff U) → Option (List Tch)
  | [], [] => some []
  | o :: os, e :: es => match tch ops o e, tchs ops os es with | some t, some ts => some (t :: ts) | _, _ => none
  | _, _ => none
/-- t's writing stays away from s. -/
def Tch.away (t s : Tch) : Bool := apartB t.sw s.sr && apartB t.sw s.sw && apartB t.bw s.br && apartB t.bw s.bw
def awayAll (ms : List Nat) (j : Nat) (s : Tch) : Nat → List Tch → Bool
  | _, [] => true
  | i, t :: ts => (Nat.beq i j || Nat.testBit (ms.getD j 0) i || Nat.testBit (ms.getD i 0) j || t.away s) && awayAll ms j s (i + 1) ts
def awayAlls (ms : List Nat) (all : List Tch) : Nat → List Tch → Bool
  | _, [] => true
  | j, s :: ss => awayAll ms j s 0 all && awayAlls ms all (j + 1) ss
def edgesBack : Nat → List Oper → Bool
  | _, [] => true
  | j, o :: os => o.after.toList.all (fun e => !Region.binds .any e || Nat.blt e.on j) && edgesBack (j + 1) os
def okDraw (ops : Array Oper) (es : List (Eff U)) : Bool :=
  edgesBack 0 ops.toList && (match tchs ops ops.toList es with
  | some ts => awayAlls (masks ops.toList []) ts 0 ts
  | none => false)
def evDraw (F : Nat → Fn U R) (ops : Array Oper) (σ : St U) (k : St U → Option R) : Option R :=
  bif ops.toList.all (fun o => (srcs ops o).isSome) then
    evOpsD F ops { σ with boxes := σ.boxes ++ List.replicate (ops.toList.countP fun o => isAlloc o.op) [] } σ.boxes.length [] (fun es σ' => bif okDraw ops es then k σ' else none) ops.toList
  else none

inductive Out where
  | normal
  | exit (id : Nat)
  | ret
def okC (nb nr : Nat) : U.C → Bool
  | .ptr b _ => Nat.blt b nb
  | .own _ r => Nat.blt r nr
  | .oat _ r _ _ => Nat.blt r nr
  | _ => true
def okD (nb nr : Nat) : U.D → Bool
  | .v v => (vcells v).all (okC nb nr)
  | .tup l => l.all fun v => (vcells v).all (okC nb nr)
def isUndef : U.D → Bool
  | .v (.c .undef) => true
  | _ => false
/-- A cell's place: a slot, a cell of a slot's struct, a variable's cell. -/
inductive Pl where
  | s (i : Nat)
  | a (i j : Nat)
  | b (b j : Nat)
def St.cellP (σ : St U) : Pl → U.C
  | .s i => match σ.slots.getD i (.v (.c .undef)) with | .v (.c x) => x | _ => .undef
  | .a i j => match σ.slots.getD i (.v (.c .undef)) with | .v (.agg cs) => cs.getD j .undef | _ => .undef
  | .b b j => (σ.boxes.getD b []).getD j .undef
def St.setP (σ : St U) (p : Pl) (x : U.C) : St U :=
  match p with
  | .s i => { σ with slots := σ.slots.set i (.v (.c x)) }
  | .a i j => match σ.slots.getD i (.v (.c .undef)) with | .v (.agg cs) => { σ with slots := σ.slots.set i (.v (.agg (cs.set j x))) } | _ => σ
  | .b b j => { σ with boxes := σ.boxes.set b ((σ.boxes.getD b []).set j x) }
/-- Told less finely: a nil slice as an empty list, or as an empty row of our own; a row as a list; a slot not at all. -/
inductive Wd where
  | sl (p : Pl) (T : Nat)
  | own (p : Pl) (T : Nat)
  | frz (r : Nat)
  | drop (i : Nat)
def okP (σ : St U) : Pl → Bool
  | .b b _ => σ.lk.ble b
  | _ => true
def St.wd (σ : St U) : Wd → Option (St U)
  | .sl p T => match σ.cellP p with
    | .nils => bif okP σ p then some (σ.setP p (.sl T [])) else none
    | .sl _ _ => some σ
    | _ => none
  | .own p T => match σ.cellP p with
    | .nils => bif okP σ p then some ((σ.newRow T []).setP p (.own T σ.rows.length)) else none
    | .own _ _ => some σ
    | _ => none
  | .frz r => match σ.rows.getD r none with
    | some _ => σ.freeze r
    | none => some σ
  | .drop i => some { σ with slots := σ.slots.set i (.v (.c .undef)) }
def St.wds (σ : St U) : List Wd → Option (St U)
  | [] => some σ
  | w :: ws => match σ.wd w with | some σ1 => σ1.wds ws | none => none
def hasN (i : Nat) : List Nat → Bool
  | [] => false
  | j :: js => bif Nat.beq i j then true else hasN i js
def trimS (keep : List Nat) : Nat → List U.D → List U.D → List U.D
  | i, d0 :: l0, d :: l => (bif isUndef d0 && !hasN i keep then .v (.c .undef) else d) :: trimS keep (i + 1) l0 l
  | _, _, _ => []
/-- At a loop's head and behind it: what was not there when the loop was come to is forgotten (but for the slots of results). -/
def trim (keep : List Nat) (σ0 σ : St U) : Option (St U) :=
  let s : St U := { slots := trimS keep 0 σ0.slots σ.slots, boxes := σ.boxes.take σ0.boxes.length, rows := σ.rows.take σ0.rows.length, lk := σ0.lk }
  bif s.slots.all (okD σ0.boxes.length σ0.rows.length) && s.boxes.all (fun cs => cs.all (okC σ0.boxes.length σ0.rows.length)) && σ.slots.length.beq σ0.slots.length && s.boxes.length.beq σ0.boxes.length && s.rows.length.beq σ0.rows.length then some s else none
/-- A loop, n rounds at most; whatever end a round comes to, the state is told as ws and the head have it. -/
def loopN (keep : List Nat) (ws : List Wd) (f : St U → (Out → St U → Option R) → Option R) (σ0 : St U) (k : Out → St U → Option R) : Nat → St U → Option R
  | 0, _ => none
  | n + 1, σ => f σ fun e σ1 => match σ1.wds ws with
    | some σ2 => match trim keep σ0 σ2 with
      | some σ3 => (match e with
        | .normal => loopN keep ws f σ0 k n σ3
        | .exit j => k (.exit j) σ3
        | .ret => k .ret σ3)
      | none => none
    | none => none
/-- Where a piece of code begins: a loop's name. -/
def firstReg : Code → Option Nat
  | .region id _ _ => some id
  | .seq a b => match firstReg a with | some k => some k | none => firstReg b
  | .cond _ a b => match firstReg a with | some k => some k | none => firstReg b
  | .block _ c => firstReg c
  | .loop c => firstReg c
  | _ => none
/-- What serves loops: by the loop's name, the state at its head, what follows. -/
abbrev Hn (U : Uni) (R : Type) := Nat → St U → (Out → St U → Option R) → Option R
def ev (F : Nat → Fn U R) (L : Hn U R) : Code → St U → (Out → St U → Option R) → Option R
  | .skip, σ, k => k .normal σ
  | .region _ ops draw, σ, k => bif draw then evDraw F ops σ (fun σ1 => k .normal σ1) else evOps F ops σ (fun σ1 => k .normal σ1) ops.toList
  | .seq a b, σ, k => ev F L a σ fun e σ1 => match e with
    | .normal => ev F L b σ1 k
    | e => k e σ1
  | .cond c a b, σ, k => match σ.ev c with
    | .v (.c (.bool t)) => cond t (ev F L a σ k) (ev F L b σ k)
    | _ => none
  | .block id c, σ, k => ev F L c σ fun e σ1 => match e with
    | .exit j => bif j.beq id then k .normal σ1 else k (.exit j) σ1
    | e => k e σ1
  | .loop c, σ, k => match firstReg c with
    | some key => L key σ k
    | none => none
  | .exit id, σ, k => k (.exit id) σ
  | .label _, σ, k => k .normal σ
  | .ret, σ, k => k .ret σ
  | _, _, _ => none
/-- The loops' bodies in a piece of code. -/
def loopsOf : Code → List Code
  | .seq a b => loopsOf a ++ loopsOf b
  | .cond _ a b => loopsOf a ++ loopsOf b
  | .block _ c => loopsOf c
  | .loop c => c :: loopsOf c
  | _ => []

/-! ### a function -/
/-- The results, ahead of being handed back: what is in a struct is only read from then on; rn: is a row of our own handed over as one. -/
def frzRes (rn : Bool) (σ : St U) : List Nat → List U.V → Option (List U.V × St U)
  | _, [] => some ([], σ)
  | ts, v :: vs => match v with
    | .c .nils => match U.elem (ts.headD 0) with
      | some T => bif rn then (match frzRes rn (σ.newRow T []) ts.tail vs with | some (r, σ1) => some (.c (.own T σ.rows.length) :: r, σ1) | none => none)
        else (match frzRes rn σ ts.tail vs with | some (r, σ1) => some (.c (.sl T []) :: r, σ1) | none => none)
      | none => match frzRes rn σ ts.tail vs with | some (r, σ1) => some (.c .nils :: r, σ1) | none => none
    | .c (.own T q) => bif rn then (match frzRes rn σ ts.tail vs with | some (r, σ1) => some (.c (.own T q) :: r, σ1) | none => none)
      else (match rowAt σ T q, σ.freeze q with
        | some l, some σ1 => match frzRes rn σ1 ts.tail vs with | some (r, σ2) => some (.c (.sl T l) :: r, σ2) | none => none
        | _, _ => none)
    | .c x => match frzRes rn σ ts.tail vs with | some (r, σ1) => some (.c x :: r, σ1) | none => none
    | .agg cs => match σ.frz cs with
      | some (cs', σ1) => match frzRes rn σ1 ts.tail vs with | some (r, σ2) => some (canonV U (ts.headD 0) (.agg cs') :: r, σ2) | none => none
      | none => none
/-- A result's cell, as it is handed back; m: how many variables came in; mb: the one that was made here and is handed back. -/
def outC (σ : St U) (m : Nat) (mb : Option Nat) : U.C → Option U.C
  | .own T r => match rowAt σ T r with
    | some l => some (.new T l)
    | none => none
  | .ptr b o => bif Nat.blt b m then some (.ptr b o) else match mb with
    | some b' => bif Nat.beq b b' then some (.ptr m o) else none
    | none => none
  | .undef => none
  | .new _ _ => none
  | .fat _ _ _ _ => none
  | .oat _ _ _ _ => none
  | x => some x
def outV (σ : St U) (m : Nat) (mb : Option Nat) : U.V → Option U.V
  | .c x => match outC σ m mb x with | some y => some (.c y) | none => none
  | .agg cs => bif cs.all plain then some (.agg cs) else none
def outL (σ : St U) (m : Nat) (mb : Option Nat) : List U.V → Option (List U.V)
  | [] => some []
  | v :: vs => match outV σ m mb v, outL σ m mb vs with
    | some v', some vs' => some (v' :: vs')
    | _, _ => none
/-- The variables that came in, as they stand at the end. -/
def outB (σ : St U) : Nat → Nat → Option (List (List U.C) × St U)
  | _, 0 => some ([], σ)
  | j, m + 1 => match σ.frz (σ.boxes.getD j []) with
    | some (_, σ1) => bif (σ1.boxes.getD j []).all plain then (match outB σ1 (j + 1) m with
      | some (r, σ2) => some (σ1.boxes.getD j [] :: r, σ2)
      | none => none) else none
    | none => none
/-- The box that is handed back and was made here. -/
def madeBox (m : Nat) : List U.V → Option Nat
  | [] => none
  | .c (.ptr b _) :: vs => bif Nat.blt b m then madeBox m vs else some b
  | _ :: vs => madeBox m vs
def resV (σ : St U) : List ResultVar → Option (List U.V)
  | [] => some []
  | .tmp t :: rs => match σ.slots.getD t (.v (.c .undef)), resV σ rs with
    | .v v, some r => some (v :: r)
    | _, _ => none
  | .cell p T :: rs => match U.inf T, resV σ rs with
    | some t, some r => match cellsAt σ t.sz (σ.slots.getD p (.v (.c .undef))) with
      | some cs => match mkV (U := U) t cs with
        | some v => some (v :: r)
        | none => none
      | none => none
    | _, _ => none
def oneD : List U.V → U.D
  | [v] => .v v
  | vs => .tup vs
/-- The box that was made here, its cells plain. -/
def outM (σ : St U) : Option Nat → Option (List (List U.C) × St U)
  | none => some ([], σ)
  | some b => match σ.frz (σ.boxes.getD b []) with
    | some (_, σ1) => bif (σ1.boxes.getD b []).all plain && !(σ1.boxes.getD b []).isEmpty then some ([σ1.boxes.getD b []], σ1) else none
    | none => none
def finish (ro rn : Bool) (fn : Func) (bx0 : List (List U.C)) (σ : St U) (κ : U.D → List (List U.C) → Option R) : Option R :=
  match resV σ fn.results.toList with
  | some vs => match frzRes rn σ fn.resultTypes.toList vs with
    | some (vs1, σ1) => match (bif ro then some (bx0, σ1) else outB σ1 0 bx0.length) with
      | some (bx, σ2) => match outM σ2 (madeBox bx0.length vs1) with
        | some (mbx, σ3) => bif ro && !mbx.isEmpty then none else match outL σ3 bx0.length (madeBox bx0.length vs1) vs1 with
          | some vs' => bif (newsD (oneD vs')).length.ble 1 then κ (oneD vs') (bx ++ mbx) else none
          | none => none
        | none => none
      | none => none
    | none => none
  | none => none
def start (ro : Bool) (fn : Func) (args : List U.D) (bx : List (List U.C)) : St U :=
  { slots := args ++ List.replicate (fn.ntmps - args.length) (.v (.c .undef)), boxes := bx, rows := [], lk := bif ro then bx.length else 0 }
def evFn (F : Nat → Fn U R) (L : Hn U R) (ro rn : Bool) (fn : Func) : Fn U R := fun args bx κ =>
  match fn.body with
  | some c => ev F L c (start ro fn args bx) fun e σ => match e with
    | .exit _ => none
    | _ => finish ro rn fn bx σ κ
  | none => none
end
end Go.Proofs.Ytogfofcocidmkaa.Ev
