/- EV (ours): the types of this translation, as the evaluator's universe; printed by uni.py -/
import Derived.Test.YtogfofcocidmkaaEvA
set_option linter.unusedVariables false
namespace Go.Proofs.Ytogfofcocidmkaa.Ev
structure S27 where
  c0 : Int
  c1 : Int
  c2 : Int
  c3 : ByteArray
  c4 : ByteArray
  c5 : List S27
def z27 : S27 := ⟨0, 0, 0, ⟨#[]⟩, ⟨#[]⟩, []⟩
structure S51 where
  c0 : Int
  c1 : Int
  c2 : Int
def z51 : S51 := ⟨0, 0, 0⟩
structure S41 where
  c0 : ByteArray
  c1 : List S51
def z41 : S41 := ⟨⟨#[]⟩, []⟩
structure S58 where
  c0 : Int
  c1 : Int
  c2 : Int
  c3 : ByteArray
  c4 : ByteArray
  c5 : List S27
  c6 : Int
  c7 : Int
def z58 : S58 := ⟨0, 0, 0, ⟨#[]⟩, ⟨#[]⟩, [], 0, 0⟩
structure S72 where
  c0 : Bool
  c1 : Bool
  c2 : ByteArray
  c3 : Int
  c4 : Int
def z72 : S72 := ⟨false, false, ⟨#[]⟩, 0, 0⟩
structure S76 where
  c0 : Bool
  c1 : Bool
  c2 : ByteArray
  c3 : Int
  c4 : Int
  c5 : Int
  c6 : Int
def z76 : S76 := ⟨false, false, ⟨#[]⟩, 0, 0, 0, 0⟩
structure S79 where
  c0 : Int
  c1 : Int
  c2 : ByteArray
  c3 : Int
  c4 : Bool
  c5 : Bool
  c6 : ByteArray
  c7 : Int
  c8 : Int
  c9 : Int
  c10 : Int
  c11 : Int
  c12 : ByteArray
  c13 : ByteArray
  c14 : List S27
  c15 : List S79
  c16 : List S79
def z79 : S79 := ⟨0, 0, ⟨#[]⟩, 0, false, false, ⟨#[]⟩, 0, 0, 0, 0, 0, ⟨#[]⟩, ⟨#[]⟩, [], [], []⟩
structure S83 where
  c0 : Int
  c1 : Int
  c2 : ByteArray
  c3 : Int
  c4 : Bool
  c5 : Bool
  c6 : ByteArray
  c7 : Int
  c8 : Int
  c9 : Int
  c10 : Int
  c11 : Int
  c12 : ByteArray
  c13 : ByteArray
  c14 : List S27
  c15 : List S79
  c16 : List S79
  c17 : List S79
  c18 : Int
  c19 : Int
def z83 : S83 := ⟨0, 0, ⟨#[]⟩, 0, false, false, ⟨#[]⟩, 0, 0, 0, 0, 0, ⟨#[]⟩, ⟨#[]⟩, [], [], [], [], 0, 0⟩
structure S98 where
  c0 : List Int
  c1 : List S51
  c2 : Int
  c3 : Int
def z98 : S98 := ⟨[], [], 0, 0⟩
inductive K where
  | no | k2 | k3 | k4 | k5 | k9 | k22 | k25 | k27 | k39 | k41 | k51 | k58 | k62 | k72 | k76 | k79 | k83 | k98
def code (T : Nat) : K := bif Nat.beq T 2 then .k2 else bif Nat.beq T 3 then .k3 else bif Nat.beq T 4 then .k4 else bif Nat.beq T 5 then .k5 else bif Nat.beq T 9 then .k9 else bif Nat.beq T 22 then .k22 else bif Nat.beq T 25 then .k25 else bif Nat.beq T 27 then .k27 else bif Nat.beq T 39 then .k39 else bif Nat.beq T 41 then .k41 else bif Nat.beq T 51 then .k51 else bif Nat.beq T 58 then .k58 else bif Nat.beq T 62 then .k62 else bif Nat.beq T 72 then .k72 else bif Nat.beq T 76 then .k76 else bif Nat.beq T 79 then .k79 else bif Nat.beq T 83 then .k83 else bif Nat.beq T 98 then .k98 else .no
def KTy : K → Type
  | .no => Unit
  | .k2 => Int
  | .k3 => Int
  | .k4 => Bool
  | .k5 => Int
  | .k9 => ByteArray
  | .k22 => (List Int)
  | .k25 => (List S27)
  | .k27 => S27
  | .k39 => (List S51)
  | .k41 => S41
  | .k51 => S51
  | .k58 => S58
  | .k62 => (List S79)
  | .k72 => S72
  | .k76 => S76
  | .k79 => S79
  | .k83 => S83
  | .k98 => S98
def Ty (T : Nat) : Type := KTy (code T)
def kdflt : ∀ k, KTy k
  | .no => ()
  | .k2 => (0 : Int)
  | .k3 => (0 : Int)
  | .k4 => false
  | .k5 => (0 : Int)
  | .k9 => (⟨#[]⟩ : ByteArray)
  | .k22 => []
  | .k25 => []
  | .k27 => z27
  | .k39 => []
  | .k41 => z41
  | .k51 => z51
  | .k58 => z58
  | .k62 => []
  | .k72 => z72
  | .k76 => z76
  | .k79 => z79
  | .k83 => z83
  | .k98 => z98
def kenc : ∀ k, KTy k → List (Cell Ty)
  | .no, _ => []
  | .k2, x => [.int .i64 x]
  | .k3, x => [.int .i64 x]
  | .k4, x => [.bool x]
  | .k5, x => [.int .u8 x]
  | .k9, x => [.str x]
  | .k22, x => [.sl 5 x]
  | .k25, x => [.sl 27 x]
  | .k27, x => [.int .i64 x.c0, .int .i64 x.c1, .int .i64 x.c2, .str x.c3, .str x.c4, .sl 27 x.c5]
  | .k39, x => [.sl 51 x]
  | .k41, x => [.str x.c0, .sl 51 x.c1]
  | .k51, x => [.int .i64 x.c0, .int .i64 x.c1, .int .i64 x.c2]
  | .k58, x => [.int .i64 x.c0, .int .i64 x.c1, .int .i64 x.c2, .str x.c3, .str x.c4, .sl 27 x.c5, .int .i64 x.c6, .int .i64 x.c7]
  | .k62, x => [.sl 79 x]
  | .k72, x => [.bool x.c0, .bool x.c1, .str x.c2, .int .i64 x.c3, .int .i64 x.c4]
  | .k76, x => [.bool x.c0, .bool x.c1, .str x.c2, .int .i64 x.c3, .int .i64 x.c4, .int .i64 x.c5, .int .i64 x.c6]
  | .k79, x => [.int .i64 x.c0, .int .i64 x.c1, .str x.c2, .int .i64 x.c3, .bool x.c4, .bool x.c5, .str x.c6, .int .i64 x.c7, .int .i64 x.c8, .int .i64 x.c9, .int .i64 x.c10, .int .i64 x.c11, .str x.c12, .str x.c13, .sl 27 x.c14, .sl 79 x.c15, .sl 79 x.c16]
  | .k83, x => [.int .i64 x.c0, .int .i64 x.c1, .str x.c2, .int .i64 x.c3, .bool x.c4, .bool x.c5, .str x.c6, .int .i64 x.c7, .int .i64 x.c8, .int .i64 x.c9, .int .i64 x.c10, .int .i64 x.c11, .str x.c12, .str x.c13, .sl 27 x.c14, .sl 79 x.c15, .sl 79 x.c16, .sl 79 x.c17, .int .i64 x.c18, .int .i64 x.c19]
  | .k98, x => [.sl 5 x.c0, .sl 51 x.c1, .int .i64 x.c2, .int .i64 x.c3]
def kdec : ∀ k, List (Cell Ty) → Option (KTy k)
  | .no => fun _ => none
  | .k2 => fun cs => match cs with | [a0] => (cint .i64 a0).bind fun b0 => some b0 | _ => none
  | .k3 => fun cs => match cs with | [a0] => (cint .i64 a0).bind fun b0 => some b0 | _ => none
  | .k4 => fun cs => match cs with | [a0] => (cbool a0).bind fun b0 => some b0 | _ => none
  | .k5 => fun cs => match cs with | [a0] => (cint .u8 a0).bind fun b0 => some b0 | _ => none
  | .k9 => fun cs => match cs with | [a0] => (cstr a0).bind fun b0 => some b0 | _ => none
  | .k22 => fun cs => match cs with | [a0] => (sliceT a0 5).bind fun b0 => some b0 | _ => none
  | .k25 => fun cs => match cs with | [a0] => (sliceT a0 27).bind fun b0 => some b0 | _ => none
  | .k27 => fun cs => match cs with | [a0, a1, a2, a3, a4, a5] => (cint .i64 a0).bind fun b0 => (cint .i64 a1).bind fun b1 => (cint .i64 a2).bind fun b2 => (cstr a3).bind fun b3 => (cstr a4).bind fun b4 => (sliceT a5 27).bind fun b5 => some ⟨b0, b1, b2, b3, b4, b5⟩ | _ => none
  | .k39 => fun cs => match cs with | [a0] => (sliceT a0 51).bind fun b0 => some b0 | _ => none
  | .k41 => fun cs => match cs with | [a0, a1] => (cstr a0).bind fun b0 => (sliceT a1 51).bind fun b1 => some ⟨b0, b1⟩ | _ => none
  | .k51 => fun cs => match cs with | [a0, a1, a2] => (cint .i64 a0).bind fun b0 => (cint .i64 a1).bind fun b1 => (cint .i64 a2).bind fun b2 => some ⟨b0, b1, b2⟩ | _ => none
  | .k58 => fun cs => match cs with | [a0, a1, a2, a3, a4, a5, a6, a7] => (cint .i64 a0).bind fun b0 => (cint .i64 a1).bind fun b1 => (cint .i64 a2).bind fun b2 => (cstr a3).bind fun b3 => (cstr a4).bind fun b4 => (sliceT a5 27).bind fun b5 => (cint .i64 a6).bind fun b6 => (cint .i64 a7).bind fun b7 => some ⟨b0, b1, b2, b3, b4, b5, b6, b7⟩ | _ => none
  | .k62 => fun cs => match cs with | [a0] => (sliceT a0 79).bind fun b0 => some b0 | _ => none
  | .k72 => fun cs => match cs with | [a0, a1, a2, a3, a4] => (cbool a0).bind fun b0 => (cbool a1).bind fun b1 => (cstr a2).bind fun b2 => (cint .i64 a3).bind fun b3 => (cint .i64 a4).bind fun b4 => some ⟨b0, b1, b2, b3, b4⟩ | _ => none
  | .k76 => fun cs => match cs with | [a0, a1, a2, a3, a4, a5, a6] => (cbool a0).bind fun b0 => (cbool a1).bind fun b1 => (cstr a2).bind fun b2 => (cint .i64 a3).bind fun b3 => (cint .i64 a4).bind fun b4 => (cint .i64 a5).bind fun b5 => (cint .i64 a6).bind fun b6 => some ⟨b0, b1, b2, b3, b4, b5, b6⟩ | _ => none
  | .k79 => fun cs => match cs with | [a0, a1, a2, a3, a4, a5, a6, a7, a8, a9, a10, a11, a12, a13, a14, a15, a16] => (cint .i64 a0).bind fun b0 => (cint .i64 a1).bind fun b1 => (cstr a2).bind fun b2 => (cint .i64 a3).bind fun b3 => (cbool a4).bind fun b4 => (cbool a5).bind fun b5 => (cstr a6).bind fun b6 => (cint .i64 a7).bind fun b7 => (cint .i64 a8).bind fun b8 => (cint .i64 a9).bind fun b9 => (cint .i64 a10).bind fun b10 => (cint .i64 a11).bind fun b11 => (cstr a12).bind fun b12 => (cstr a13).bind fun b13 => (sliceT a14 27).bind fun b14 => (sliceT a15 79).bind fun b15 => (sliceT a16 79).bind fun b16 => some ⟨b0, b1, b2, b3, b4, b5, b6, b7, b8, b9, b10, b11, b12, b13, b14, b15, b16⟩ | _ => none
  | .k83 => fun cs => match cs with | [a0, a1, a2, a3, a4, a5, a6, a7, a8, a9, a10, a11, a12, a13, a14, a15, a16, a17, a18, a19] => (cint .i64 a0).bind fun b0 => (cint .i64 a1).bind fun b1 => (cstr a2).bind fun b2 => (cint .i64 a3).bind fun b3 => (cbool a4).bind fun b4 => (cbool a5).bind fun b5 => (cstr a6).bind fun b6 => (cint .i64 a7).bind fun b7 => (cint .i64 a8).bind fun b8 => (cint .i64 a9).bind fun b9 => (cint .i64 a10).bind fun b10 => (cint .i64 a11).bind fun b11 => (cstr a12).bind fun b12 => (cstr a13).bind fun b13 => (sliceT a14 27).bind fun b14 => (sliceT a15 79).bind fun b15 => (sliceT a16 79).bind fun b16 => (sliceT a17 79).bind fun b17 => (cint .i64 a18).bind fun b18 => (cint .i64 a19).bind fun b19 => some ⟨b0, b1, b2, b3, b4, b5, b6, b7, b8, b9, b10, b11, b12, b13, b14, b15, b16, b17, b18, b19⟩ | _ => none
  | .k98 => fun cs => match cs with | [a0, a1, a2, a3] => (sliceT a0 5).bind fun b0 => (sliceT a1 51).bind fun b1 => (cint .i64 a2).bind fun b2 => (cint .i64 a3).bind fun b3 => some ⟨b0, b1, b2, b3⟩ | _ => none
def inf (T : Nat) : Option TI := bif Nat.beq T 2 then some ⟨1, 8, false⟩ else bif Nat.beq T 3 then some ⟨1, 8, false⟩ else bif Nat.beq T 4 then some ⟨1, 1, false⟩ else bif Nat.beq T 5 then some ⟨1, 1, false⟩ else bif Nat.beq T 9 then some ⟨1, 16, false⟩ else bif Nat.beq T 22 then some ⟨1, 24, false⟩ else bif Nat.beq T 25 then some ⟨1, 24, false⟩ else bif Nat.beq T 27 then some ⟨6, 80, true⟩ else bif Nat.beq T 39 then some ⟨1, 24, false⟩ else bif Nat.beq T 41 then some ⟨2, 40, true⟩ else bif Nat.beq T 51 then some ⟨3, 24, true⟩ else bif Nat.beq T 58 then some ⟨8, 96, true⟩ else bif Nat.beq T 62 then some ⟨1, 24, false⟩ else bif Nat.beq T 72 then some ⟨5, 40, true⟩ else bif Nat.beq T 76 then some ⟨7, 56, true⟩ else bif Nat.beq T 79 then some ⟨17, 208, true⟩ else bif Nat.beq T 83 then some ⟨20, 248, true⟩ else bif Nat.beq T 98 then some ⟨4, 64, true⟩ else none
def zero (T : Nat) : Option (List (Cell Ty)) := bif Nat.beq T 2 then some [.int .i64 0] else bif Nat.beq T 3 then some [.int .i64 0] else bif Nat.beq T 4 then some [.bool false] else bif Nat.beq T 5 then some [.int .u8 0] else bif Nat.beq T 9 then some [.str ⟨#[]⟩] else bif Nat.beq T 22 then some [.nils] else bif Nat.beq T 25 then some [.nils] else bif Nat.beq T 27 then some [.int .i64 0, .int .i64 0, .int .i64 0, .str ⟨#[]⟩, .str ⟨#[]⟩, .nils] else bif Nat.beq T 39 then some [.nils] else bif Nat.beq T 41 then some [.str ⟨#[]⟩, .nils] else bif Nat.beq T 51 then some [.int .i64 0, .int .i64 0, .int .i64 0] else bif Nat.beq T 58 then some [.int .i64 0, .int .i64 0, .int .i64 0, .str ⟨#[]⟩, .str ⟨#[]⟩, .nils, .int .i64 0, .int .i64 0] else bif Nat.beq T 62 then some [.nils] else bif Nat.beq T 72 then some [.bool false, .bool false, .str ⟨#[]⟩, .int .i64 0, .int .i64 0] else bif Nat.beq T 76 then some [.bool false, .bool false, .str ⟨#[]⟩, .int .i64 0, .int .i64 0, .int .i64 0, .int .i64 0] else bif Nat.beq T 79 then some [.int .i64 0, .int .i64 0, .str ⟨#[]⟩, .int .i64 0, .bool false, .bool false, .str ⟨#[]⟩, .int .i64 0, .int .i64 0, .int .i64 0, .int .i64 0, .int .i64 0, .str ⟨#[]⟩, .str ⟨#[]⟩, .nils, .nils, .nils] else bif Nat.beq T 83 then some [.int .i64 0, .int .i64 0, .str ⟨#[]⟩, .int .i64 0, .bool false, .bool false, .str ⟨#[]⟩, .int .i64 0, .int .i64 0, .int .i64 0, .int .i64 0, .int .i64 0, .str ⟨#[]⟩, .str ⟨#[]⟩, .nils, .nils, .nils, .nils, .int .i64 0, .int .i64 0] else bif Nat.beq T 98 then some [.nils, .nils, .int .i64 0, .int .i64 0] else none
def places (T : Nat) : Option (List (Nat × Nat)) := bif Nat.beq T 27 then some [(0, 1), (1, 1), (2, 1), (3, 1), (4, 1), (5, 1)] else bif Nat.beq T 41 then some [(0, 1), (1, 1)] else bif Nat.beq T 51 then some [(0, 1), (1, 1), (2, 1)] else bif Nat.beq T 58 then some [(0, 6), (6, 1), (7, 1)] else bif Nat.beq T 72 then some [(0, 1), (1, 1), (2, 1), (3, 1), (4, 1)] else bif Nat.beq T 76 then some [(0, 5), (5, 1), (6, 1)] else bif Nat.beq T 79 then some [(0, 1), (1, 1), (2, 1), (3, 1), (4, 5), (9, 6), (15, 1), (16, 1)] else bif Nat.beq T 83 then some [(0, 17), (17, 1), (18, 1), (19, 1)] else bif Nat.beq T 98 then some [(0, 1), (1, 1), (2, 1), (3, 1)] else none
def elem (T : Nat) : Option Nat := bif Nat.beq T 22 then some 5 else bif Nat.beq T 25 then some 27 else bif Nat.beq T 39 then some 51 else bif Nat.beq T 62 then some 79 else bif Nat.beq T 116 then some 9 else none
def ptee (T : Nat) : Option Nat := bif Nat.beq T 43 then some 98 else bif Nat.beq T 106 then some 9 else bif Nat.beq T 108 then some 79 else none
def conv (s d : Nat) : Option Conv := bif Nat.beq s 5 && Nat.beq d 2 then some (.int .i64) else bif Nat.beq s 5 && Nat.beq d 3 then some (.int .i64) else bif Nat.beq s 9 && Nat.beq d 22 then some (.toBytes 5) else bif Nat.beq s 22 && Nat.beq d 9 then some (.toStr 5) else bif Nat.beq s 22 && Nat.beq d 22 then some (.mark 5) else none
def boolT (T : Nat) : Bool := bif Nat.beq T 4 then true else false
def strT (T : Nat) : Bool := bif Nat.beq T 9 then true else false
def intT (T : Nat) : Option IntKind := bif Nat.beq T 2 then some .i64 else bif Nat.beq T 3 then some .i64 else bif Nat.beq T 5 then some .u8 else none
def kbytes : ∀ k, List (KTy k) → Option (List Int)
  | .k5, l => some l
  | _, _ => none
def kofBytes : ∀ k, List Int → Option (List (KTy k))
  | .k5, l => some l
  | _, _ => none
def ro (g : Nat) : Bool := bif Nat.beq g 25 then true else bif Nat.beq g 26 then true else bif Nat.beq g 28 then true else bif Nat.beq g 29 then true else bif Nat.beq g 33 then true else false
def eqT (T : Nat) : Bool := bif Nat.beq T 72 then true else false
def rnew (g : Nat) : Bool := bif Nat.beq g 38 then true else bif Nat.beq g 48 then true else bif Nat.beq g 50 then true else bif Nat.beq g 54 then true else bif Nat.beq g 55 then true else bif Nat.beq g 57 then true else bif Nat.beq g 89 then true else false
def U : Uni where
  Ty := Ty
  dflt := fun T => kdflt (code T)
  enc := fun T => kenc (code T)
  dec := fun T => kdec (code T)
  inf := inf
  zero := zero
  places := places
  elem := elem
  ptee := ptee
  conv := conv
  boolT := boolT
  strT := strT
  intT := intT
  bytes := fun T => kbytes (code T)
  ofBytes := fun T => kofBytes (code T)
  ro := ro
  eqT := eqT
  rnew := rnew
end Go.Proofs.Ytogfofcocidmkaa.Ev
