/- EV (ours): the functions as plain Lean; printed by gen.py -/
import Derived.Test.YtogfofcocidmkaaEvUt
import Derived.Lib.Bytealg
set_option linter.unusedVariables false
set_option linter.unusedSimpArgs false
namespace Go.Proofs.Ytogfofcocidmkaa.Ev
open Go.RowKit Go.Proofs
def big : Nat := 9223372036854775807
abbrev w64 (x : Int) : Int := IntKind.wrap .i64 x
abbrev w8 (x : Int) : Int := IntKind.wrap .u8 x
abbrev Y56 : Type := List Int → Option (List Int)
abbrev Y107 : Type := ByteArray → Int → Option Int
def s56 : Y56 := fun p0 => when_ (decide (([] : List Int).length + p0.length ≤ 140737488355328)) (some p0)
def s107 : Y107 := fun p0 p1 => some (Lib.indexByte p0.data.toList p1.toNat.toUInt8)
abbrev Y79 : Type := Int → Option Bool
def b79 {R : Type} (p0 : Int) (k : Bool → Option R) : Option R :=
  cond (decide ((bits .or .u8 p0 32) ≥ 97))
  (
    cond (decide ((bits .or .u8 p0 32) ≤ 122))
    (
      k true)
    (
      k (p0 == 95)))
  (
    k (p0 == 95))
def s79 : Y79 := (fun p0 => b79 p0 some)
abbrev Y82 : Type := Int → Option Bool
def b82 {R : Type} (p0 : Int) (k : Bool → Option R) : Option R :=
  cond (decide (p0 ≥ 48))
  (
    k (decide (p0 ≤ 57)))
  (
    k false)
def s82 : Y82 := (fun p0 => b82 p0 some)
abbrev Y80_82 : Type := (List Int) → Option Int
abbrev Z80_82_2 : Type := List Int → Int → Option Int
def lb80_82_2 {R : Type} (f82 : Y82) (q4 : List Int) (c : Int → Option R) (e0 : Int → Option R) (v5 : Int) : Option R :=
  cond (decide (v5 < (q4.length : Int)))
  (
    when_ (decide (0 ≤ v5) && decide (v5 < (q4.length : Int))) (
      (f82 (q4.getD v5.toNat 0)).bind fun r6 =>
      cond r6
      (
        c (w64 (v5 + 1)))
      (
        e0 v5)))
  (
    e0 v5)
def lp80_82_2 (f82 : Y82) : Nat → Z80_82_2
  | 0 => fun _ _ => none
  | n + 1 => fun q4 v5 => lb80_82_2 f82 q4 (fun v5 => lp80_82_2 f82 n q4 v5) (fun o => some o) v5
def b80_82 {R : Type} (f82 : Y82) (l2 : Z80_82_2) (p0 : (List Int)) (k : Int → Option R) : Option R :=
  (l2 p0 0).bind fun r7_0 =>
  k r7_0
def s80_82 : Y80_82 := (fun p0 => b80_82 s82 (lp80_82_2 s82 big) p0 some)
abbrev Y93 : Type := Int → Option Bool
def b93 {R : Type} (p0 : Int) (k : Bool → Option R) : Option R :=
  cond (p0 == 32)
  (
    k true)
  (
    cond (p0 == 9)
    (
      k true)
    (
      cond (p0 == 10)
      (
        k true)
      (
        k (p0 == 13))))
def s93 : Y93 := (fun p0 => b93 p0 some)
abbrev Y80_93 : Type := (List Int) → Option Int
abbrev Z80_93_2 : Type := List Int → Int → Option Int
def lb80_93_2 {R : Type} (f93 : Y93) (q4 : List Int) (c : Int → Option R) (e0 : Int → Option R) (v5 : Int) : Option R :=
  cond (decide (v5 < (q4.length : Int)))
  (
    when_ (decide (0 ≤ v5) && decide (v5 < (q4.length : Int))) (
      (f93 (q4.getD v5.toNat 0)).bind fun r6 =>
      cond r6
      (
        c (w64 (v5 + 1)))
      (
        e0 v5)))
  (
    e0 v5)
def lp80_93_2 (f93 : Y93) : Nat → Z80_93_2
  | 0 => fun _ _ => none
  | n + 1 => fun q4 v5 => lb80_93_2 f93 q4 (fun v5 => lp80_93_2 f93 n q4 v5) (fun o => some o) v5
def b80_93 {R : Type} (f93 : Y93) (l2 : Z80_93_2) (p0 : (List Int)) (k : Int → Option R) : Option R :=
  (l2 p0 0).bind fun r7_0 =>
  k r7_0
def s80_93 : Y80_93 := (fun p0 => b80_93 s93 (lp80_93_2 s93 big) p0 some)
abbrev Y94 : Type := Int → Option Bool
def b94 {R : Type} (p0 : Int) (k : Bool → Option R) : Option R :=
  k (p0 != 10)
def s94 : Y94 := (fun p0 => b94 p0 some)
abbrev Y80_94 : Type := (List Int) → Option Int
abbrev Z80_94_2 : Type := List Int → Int → Option Int
def lb80_94_2 {R : Type} (f94 : Y94) (q4 : List Int) (c : Int → Option R) (e0 : Int → Option R) (v5 : Int) : Option R :=
  cond (decide (v5 < (q4.length : Int)))
  (
    when_ (decide (0 ≤ v5) && decide (v5 < (q4.length : Int))) (
      (f94 (q4.getD v5.toNat 0)).bind fun r6 =>
      cond r6
      (
        c (w64 (v5 + 1)))
      (
        e0 v5)))
  (
    e0 v5)
def lp80_94_2 (f94 : Y94) : Nat → Z80_94_2
  | 0 => fun _ _ => none
  | n + 1 => fun q4 v5 => lb80_94_2 f94 q4 (fun v5 => lp80_94_2 f94 n q4 v5) (fun o => some o) v5
def b80_94 {R : Type} (f94 : Y94) (l2 : Z80_94_2) (p0 : (List Int)) (k : Int → Option R) : Option R :=
  (l2 p0 0).bind fun r7_0 =>
  k r7_0
def s80_94 : Y80_94 := (fun p0 => b80_94 s94 (lp80_94_2 s94 big) p0 some)
abbrev Y95 : Type := Int → Option Bool
def b95 {R : Type} (f79 : Y79) (f82 : Y82) (p0 : Int) (k : Bool → Option R) : Option R :=
  (f79 p0).bind fun r1 =>
  cond r1
  (
    k true)
  (
    (f82 p0).bind fun r2 =>
    k r2)
def s95 : Y95 := (fun p0 => b95 s79 s82 p0 some)
abbrev Y80_95 : Type := (List Int) → Option Int
abbrev Z80_95_2 : Type := List Int → Int → Option Int
def lb80_95_2 {R : Type} (f95 : Y95) (q4 : List Int) (c : Int → Option R) (e0 : Int → Option R) (v5 : Int) : Option R :=
  cond (decide (v5 < (q4.length : Int)))
  (
    when_ (decide (0 ≤ v5) && decide (v5 < (q4.length : Int))) (
      (f95 (q4.getD v5.toNat 0)).bind fun r6 =>
      cond r6
      (
        c (w64 (v5 + 1)))
      (
        e0 v5)))
  (
    e0 v5)
def lp80_95_2 (f95 : Y95) : Nat → Z80_95_2
  | 0 => fun _ _ => none
  | n + 1 => fun q4 v5 => lb80_95_2 f95 q4 (fun v5 => lp80_95_2 f95 n q4 v5) (fun o => some o) v5
def b80_95 {R : Type} (f95 : Y95) (l2 : Z80_95_2) (p0 : (List Int)) (k : Int → Option R) : Option R :=
  (l2 p0 0).bind fun r7_0 =>
  k r7_0
def s80_95 : Y80_95 := (fun p0 => b80_95 s95 (lp80_95_2 s95 big) p0 some)
abbrev Y106 : Type := (List ByteArray) → ByteArray → Option Int
abbrev Z106_2 : Type := Int → List ByteArray → ByteArray → Int → Option ((Int × Int) ⊕ Int)
def lb106_2 {R : Type} (q7 : Int) (q5 : List ByteArray) (q6 : ByteArray) (c : Int → Option R) (e0 : (Int × Int) → Option R) (e1 : Int → Option R) (v8 : Int) : Option R :=
  cond (decide (v8 < q7))
  (
    when_ (decide (0 ≤ v8) && decide (v8 < (q5.length : Int))) (
      cond (q6.toList == (q5.getD v8.toNat (⟨#[]⟩ : ByteArray)).toList)
      (
        e0 (v8, v8))
      (
        c (w64 (v8 + 1)))))
  (
    e1 v8)
def lp106_2 : Nat → Z106_2
  | 0 => fun _ _ _ _ => none
  | n + 1 => fun q7 q5 q6 v8 => lb106_2 q7 q5 q6 (fun v8 => lp106_2 n q7 q5 q6 v8) (fun o => some (Sum.inl o)) (fun o => some (Sum.inr (o))) v8
def b106 {R : Type} (l2 : Z106_2) (p0 : (List ByteArray)) (p1 : ByteArray) (k : Int → Option R) : Option R :=
  (l2 (p0.length : Int) p0 p1 0).bind (Sum.elim (fun r9_0 =>
    k r9_0.2) (fun r9_1 =>
    k (-1)))
def s106 : Y106 := (fun p0 p1 => b106 (lp106_2 big) p0 p1 some)
abbrev Y96 : Type := (List ByteArray) → ByteArray → Option Bool
def b96 {R : Type} (f106 : Y106) (p0 : (List ByteArray)) (p1 : ByteArray) (k : Bool → Option R) : Option R :=
  (f106 p0 p1).bind fun r1 =>
  k (decide (r1 ≥ 0))
def s96 : Y96 := (fun p0 p1 => b96 s106 p0 p1 some)
abbrev Y97 : Type := ByteArray → Int → Option Int
def b97 {R : Type} (f107 : Y107) (p0 : ByteArray) (p1 : Int) (k : Int → Option R) : Option R :=
  (f107 p0 p1).bind fun r1 =>
  k r1
def s97 : Y97 := (fun p0 p1 => b97 s107 p0 p1 some)
abbrev Y76 : Type := (List Int) → Option (Int × Int)
def b76 {R : Type} (f79 : Y79) (f80_82 : Y80_82) (f80_93 : Y80_93) (f80_94 : Y80_94) (f80_95 : Y80_95) (f82 : Y82) (f93 : Y93) (f96 : Y96) (f97 : Y97) (p0 : (List Int)) (k : (Int × Int) → Option R) : Option R :=
  when_ (decide (0 ≤ 0) && decide (0 < (p0.length : Int))) (
    (f93 (p0.getD 0 0)).bind fun r1 =>
    cond r1
    (
      (f80_93 p0).bind fun r2 =>
      k (0, r2))
    (
      cond ((p0.getD 0 0) == 35)
      (
        (f80_94 p0).bind fun r3 =>
        k (1, r3))
      (
        (f79 (p0.getD 0 0)).bind fun r4 =>
        cond r4
        (
          (f80_95 p0).bind fun r5 =>
          k (2, r5))
        (
          (f82 (p0.getD 0 0)).bind fun r6 =>
          cond r6
          (
            (f80_82 p0).bind fun r7 =>
            k (3, r7))
          (
            cond (decide ((p0.length : Int) > 1))
            (
              when_ (decide ((0 : Int) ≤ 2) && decide (2 ≤ (p0.length : Int)) && (decide ((0 : Int) ≤ 0) && decide (0 ≤ 2))) (
                (f96 [(⟨#[61, 61]⟩ : ByteArray), (⟨#[38, 38]⟩ : ByteArray), (⟨#[124, 124]⟩ : ByteArray), (⟨#[64, 61]⟩ : ByteArray)] (strOf ((p0.take 2).drop 0))).bind fun r8 =>
                cond r8
                (
                  k (4, 2))
                (
                  when_ (decide (0 ≤ 0) && decide (0 < (p0.length : Int))) (
                    (f97 (⟨#[40, 41, 123, 125, 44, 59, 58, 46, 60, 43, 45, 42, 33, 61, 64, 47]⟩ : ByteArray) (p0.getD 0 0)).bind fun r9 =>
                    cond (decide (r9 ≥ 0))
                    (
                      k (4, 1))
                    (
                      k (5, 1))))))
            (
              when_ (decide (0 ≤ 0) && decide (0 < (p0.length : Int))) (
                (f97 (⟨#[40, 41, 123, 125, 44, 59, 58, 46, 60, 43, 45, 42, 33, 61, 64, 47]⟩ : ByteArray) (p0.getD 0 0)).bind fun r10 =>
                cond (decide (r10 ≥ 0))
                (
                  k (4, 1))
                (
                  k (5, 1)))))))))
def s76 : Y76 := (fun p0 => b76 s79 s80_82 s80_93 s80_94 s80_95 s82 s93 s96 s97 p0 some)
abbrev Y50 : Type := (List Int) → Option (List S51)
abbrev Z50_3 : Type := List Int → Int → List S51 → Option (Int × List S51)
def lb50_3 {R : Type} (f76 : Y76) (q8 : List Int) (c : Int → List S51 → Option R) (e0 : (Int × List S51) → Option R) (v9 : Int) (v10 : List S51) : Option R :=
  cond (decide (v9 < (q8.length : Int)))
  (
    when_ (decide ((0 : Int) ≤ (q8.length : Int)) && decide ((q8.length : Int) ≤ (q8.length : Int)) && (decide ((0 : Int) ≤ v9) && decide (v9 ≤ (q8.length : Int)))) (
      (f76 ((q8.take (q8.length : Int).toNat).drop v9.toNat)).bind fun r11 =>
      when_ (decide (v10.length + [(⟨r11.1, v9, w64 (v9 + r11.2)⟩ : S51)].length ≤ 5864062014805)) (
        c (w64 (v9 + r11.2)) (v10 ++ [(⟨r11.1, v9, w64 (v9 + r11.2)⟩ : S51)]))))
  (
    e0 (v9, v10))
def lp50_3 (f76 : Y76) : Nat → Z50_3
  | 0 => fun _ _ _ => none
  | n + 1 => fun q8 v9 v10 => lb50_3 f76 q8 (fun v9 v10 => lp50_3 f76 n q8 v9 v10) (fun o => some o) v9 v10
def b50 {R : Type} (f76 : Y76) (l3 : Z50_3) (p0 : (List Int)) (k : (List S51) → Option R) : Option R :=
  (l3 p0 0 []).bind fun r12_0 =>
  k r12_0.2
def s50 : Y50 := (fun p0 => b50 s76 (lp50_3 s76 big) p0 some)
abbrev Y57 : Type := (List S51) → Option (List S51)
abbrev Z57_3 : Type := Int → List S51 → Int → List S51 → Option (Int × List S51)
def lb57_3 {R : Type} (q9 : Int) (q8 : List S51) (c : Int → List S51 → Option R) (e0 : (Int × List S51) → Option R) (v10 : Int) (v11 : List S51) : Option R :=
  cond (decide (v10 < q9))
  (
    when_ (decide (0 ≤ v10) && decide (v10 < (q8.length : Int))) (
      cond ((q8.getD v10.toNat z51).c0 != 0)
      (
        cond ((q8.getD v10.toNat z51).c0 != 1)
        (
          when_ (decide (v11.length + [(q8.getD v10.toNat z51)].length ≤ 5864062014805)) (
            c (w64 (v10 + 1)) (v11 ++ [(q8.getD v10.toNat z51)])))
        (
          c (w64 (v10 + 1)) v11))
      (
        c (w64 (v10 + 1)) v11)))
  (
    e0 (v10, v11))
def lp57_3 : Nat → Z57_3
  | 0 => fun _ _ _ _ => none
  | n + 1 => fun q9 q8 v10 v11 => lb57_3 q9 q8 (fun v10 v11 => lp57_3 n q9 q8 v10 v11) (fun o => some o) v10 v11
def b57 {R : Type} (l3 : Z57_3) (p0 : (List S51)) (k : (List S51) → Option R) : Option R :=
  (l3 (p0.length : Int) p0 0 []).bind fun r12_0 =>
  k r12_0.2
def s57 : Y57 := (fun p0 => b57 (lp57_3 big) p0 some)
abbrev Y22 : Type := (List Int) → Option S98
def b22 {R : Type} (f50 : Y50) (f56 : Y56) (f57 : Y57) (p0 : (List Int)) (k : S98 → Option R) : Option R :=
  (f56 p0).bind fun r1 =>
  (f50 r1).bind fun r2 =>
  (f57 r2).bind fun r3 =>
  k (⟨r1, r3, 0, 0⟩ : S98)
def s22 : Y22 := (fun p0 => b22 s50 s56 s57 p0 some)
abbrev Y29 : Type := S98 → Option Bool
def b29 {R : Type} (p0 : S98) (k : Bool → Option R) : Option R :=
  k (decide (p0.c2 ≥ (p0.c1.length : Int)))
def s29 : Y29 := (fun p0 => b29 p0 some)
abbrev Y26 : Type := S98 → Option Int
def b26 {R : Type} (f29 : Y29) (p0 : S98) (k : Int → Option R) : Option R :=
  (f29 p0).bind fun r1 =>
  cond r1
  (
    k (p0.c0.length : Int))
  (
    when_ (decide (0 ≤ p0.c2) && decide (p0.c2 < (p0.c1.length : Int))) (
      k ((p0.c1.getD p0.c2.toNat z51).c1)))
def s26 : Y26 := (fun p0 => b26 s29 p0 some)
abbrev Y58 : Type := (List Int) → S51 → Option ByteArray
def b58 {R : Type} (p0 : (List Int)) (p1 : S51) (k : ByteArray → Option R) : Option R :=
  cond (decide (p1.c1 < 0))
  (
    k (⟨#[]⟩ : ByteArray))
  (
    cond (decide (p1.c1 > p1.c2))
    (
      k (⟨#[]⟩ : ByteArray))
    (
      cond (decide (p1.c2 > (p0.length : Int)))
      (
        k (⟨#[]⟩ : ByteArray))
      (
        when_ (decide ((0 : Int) ≤ p1.c2) && decide (p1.c2 ≤ (p0.length : Int)) && (decide ((0 : Int) ≤ p1.c1) && decide (p1.c1 ≤ p1.c2))) (
          k (strOf ((p0.take p1.c2.toNat).drop p1.c1.toNat))))))
def s58 : Y58 := (fun p0 p1 => b58 p0 p1 some)
abbrev Y25 : Type := S98 → Option ByteArray
def b25 {R : Type} (f29 : Y29) (f58 : Y58) (p0 : S98) (k : ByteArray → Option R) : Option R :=
  (f29 p0).bind fun r1 =>
  cond r1
  (
    k (⟨#[]⟩ : ByteArray))
  (
    when_ (decide (0 ≤ p0.c2) && decide (p0.c2 < (p0.c1.length : Int))) (
      (f58 p0.c0 (p0.c1.getD p0.c2.toNat z51)).bind fun r2 =>
      k r2))
def s25 : Y25 := (fun p0 => b25 s29 s58 p0 some)
abbrev Y30 : Type := ByteArray → S98 → Option (Bool × S98)
def b30 {R : Type} (f25 : Y25) (p1 : ByteArray) (p0 : S98) (k : (Bool × S98) → Option R) : Option R :=
  cond (p1.toList == (⟨#[]⟩ : ByteArray).toList)
  (
    k (false, p0))
  (
    (f25 p0).bind fun r1 =>
    cond (!(r1.toList == p1.toList))
    (
      k (false, p0))
    (
      k (true, (⟨p0.c0, p0.c1, w64 (p0.c2 + 1), p0.c3⟩ : S98))))
def s30 : Y30 := (fun p1 p0 => b30 s25 p1 p0 some)
abbrev Y78 : Type := ByteArray → Option Bool
def b78 {R : Type} (p0 : ByteArray) (k : Bool → Option R) : Option R :=
  cond (p0.toList == (⟨#[105, 109, 112, 111, 114, 116]⟩ : ByteArray).toList)
  (
    cond (p0.toList == (⟨#[105, 109, 112, 111, 114, 116]⟩ : ByteArray).toList)
    (
      k true)
    (
      k false))
  (
    cond (p0.toList == (⟨#[108, 97, 116, 116, 105, 99, 101]⟩ : ByteArray).toList)
    (
      cond (p0.toList == (⟨#[108, 97, 116, 116, 105, 99, 101]⟩ : ByteArray).toList)
      (
        k true)
      (
        k false))
    (
      cond (p0.toList == (⟨#[101, 102, 102, 101, 99, 116, 115]⟩ : ByteArray).toList)
      (
        cond (p0.toList == (⟨#[101, 102, 102, 101, 99, 116, 115]⟩ : ByteArray).toList)
        (
          k true)
        (
          k false))
      (
        cond (p0.toList == (⟨#[118, 97, 114]⟩ : ByteArray).toList)
        (
          cond (p0.toList == (⟨#[118, 97, 114]⟩ : ByteArray).toList)
          (
            k true)
          (
            k false))
        (
          cond (p0.toList == (⟨#[102, 110]⟩ : ByteArray).toList)
          (
            cond (p0.toList == (⟨#[102, 110]⟩ : ByteArray).toList)
            (
              k true)
            (
              k false))
          (
            cond (p0.toList == (⟨#[108, 101, 116]⟩ : ByteArray).toList)
            (
              cond (p0.toList == (⟨#[108, 101, 116]⟩ : ByteArray).toList)
              (
                k true)
              (
                k false))
            (
              cond (p0.toList == (⟨#[105, 102]⟩ : ByteArray).toList)
              (
                cond (p0.toList == (⟨#[105, 102]⟩ : ByteArray).toList)
                (
                  k true)
                (
                  k false))
              (
                cond (p0.toList == (⟨#[101, 108, 115, 101]⟩ : ByteArray).toList)
                (
                  cond (p0.toList == (⟨#[101, 108, 115, 101]⟩ : ByteArray).toList)
                  (
                    k true)
                  (
                    k false))
                (
                  cond (p0.toList == (⟨#[119, 104, 105, 108, 101]⟩ : ByteArray).toList)
                  (
                    cond (p0.toList == (⟨#[119, 104, 105, 108, 101]⟩ : ByteArray).toList)
                    (
                      k true)
                    (
                      k false))
                  (
                    cond (p0.toList == (⟨#[114, 101, 116, 117, 114, 110]⟩ : ByteArray).toList)
                    (
                      cond (p0.toList == (⟨#[114, 101, 116, 117, 114, 110]⟩ : ByteArray).toList)
                      (
                        k true)
                      (
                        k false))
                    (
                      cond (p0.toList == (⟨#[100, 111]⟩ : ByteArray).toList)
                      (
                        cond (p0.toList == (⟨#[100, 111]⟩ : ByteArray).toList)
                        (
                          k true)
                        (
                          k false))
                      (
                        cond (p0.toList == (⟨#[116, 114, 117, 101]⟩ : ByteArray).toList)
                        (
                          cond (p0.toList == (⟨#[116, 114, 117, 101]⟩ : ByteArray).toList)
                          (
                            k true)
                          (
                            k false))
                        (
                          cond (p0.toList == (⟨#[102, 97, 108, 115, 101]⟩ : ByteArray).toList)
                          (
                            cond (p0.toList == (⟨#[102, 97, 108, 115, 101]⟩ : ByteArray).toList)
                            (
                              k true)
                            (
                              k false))
                          (
                            cond (p0.toList == (⟨#[105, 110, 116]⟩ : ByteArray).toList)
                            (
                              cond (p0.toList == (⟨#[105, 110, 116]⟩ : ByteArray).toList)
                              (
                                k true)
                              (
                                k false))
                            (
                              cond (p0.toList == (⟨#[98, 111, 111, 108]⟩ : ByteArray).toList)
                              (
                                cond (p0.toList == (⟨#[98, 111, 111, 108]⟩ : ByteArray).toList)
                                (
                                  k true)
                                (
                                  k false))
                              (
                                cond (p0.toList == (⟨#[100, 101, 99, 108, 97, 115, 115, 105, 102, 121]⟩ : ByteArray).toList)
                                (
                                  k true)
                                (
                                  k false))))))))))))))))
def s78 : Y78 := (fun p0 => b78 p0 some)
abbrev Y81 : Type := Int → Option Bool
def b81 {R : Type} (f79 : Y79) (f82 : Y82) (p0 : Int) (k : Bool → Option R) : Option R :=
  (f79 p0).bind fun r1 =>
  cond r1
  (
    k true)
  (
    (f82 p0).bind fun r2 =>
    k r2)
def s81 : Y81 := (fun p0 => b81 s79 s82 p0 some)
abbrev Y80_81 : Type := (List Int) → Option Int
abbrev Z80_81_2 : Type := List Int → Int → Option Int
def lb80_81_2 {R : Type} (f81 : Y81) (q4 : List Int) (c : Int → Option R) (e0 : Int → Option R) (v5 : Int) : Option R :=
  cond (decide (v5 < (q4.length : Int)))
  (
    when_ (decide (0 ≤ v5) && decide (v5 < (q4.length : Int))) (
      (f81 (q4.getD v5.toNat 0)).bind fun r6 =>
      cond r6
      (
        c (w64 (v5 + 1)))
      (
        e0 v5)))
  (
    e0 v5)
def lp80_81_2 (f81 : Y81) : Nat → Z80_81_2
  | 0 => fun _ _ => none
  | n + 1 => fun q4 v5 => lb80_81_2 f81 q4 (fun v5 => lp80_81_2 f81 n q4 v5) (fun o => some o) v5
def b80_81 {R : Type} (f81 : Y81) (l2 : Z80_81_2) (p0 : (List Int)) (k : Int → Option R) : Option R :=
  (l2 p0 0).bind fun r7_0 =>
  k r7_0
def s80_81 : Y80_81 := (fun p0 => b80_81 s81 (lp80_81_2 s81 big) p0 some)
abbrev Y59 : Type := ByteArray → Option Bool
def b59 {R : Type} (f78 : Y78) (f79 : Y79) (f80_81 : Y80_81) (p0 : ByteArray) (k : Bool → Option R) : Option R :=
  cond (p0.toList == (⟨#[]⟩ : ByteArray).toList)
  (
    k false)
  (
    cond (decide ((p0.size : Int) > 24))
    (
      k false)
    (
      (f78 p0).bind fun r1 =>
      cond r1
      (
        k false)
      (
        when_ (decide (0 ≤ 0) && decide (0 < (p0.size : Int))) (
          (f79 (bt p0 0)).bind fun r2 =>
          cond (!r2)
          (
            k false)
          (
            (f80_81 (bytesOf p0)).bind fun r3 =>
            k (r3 == (p0.size : Int)))))))
def s59 : Y59 := (fun p0 => b59 s78 s79 s80_81 p0 some)
abbrev Y31 : Type := S98 → Option (ByteArray × Bool × S98)
def b31 {R : Type} (f25 : Y25) (f59 : Y59) (p0 : S98) (k : (ByteArray × Bool × S98) → Option R) : Option R :=
  (f25 p0).bind fun r1 =>
  (f59 r1).bind fun r2 =>
  cond (!r2)
  (
    k ((⟨#[]⟩ : ByteArray), false, p0))
  (
    k (r1, true, (⟨p0.c0, p0.c1, w64 (p0.c2 + 1), p0.c3⟩ : S98)))
def s31 : Y31 := (fun p0 => b31 s25 s59 p0 some)
abbrev Y68 : Type := S98 → ByteArray → Option (Int × S98 × ByteArray)
def b68 {R : Type} (f31 : Y31) (p0 : S98) (p1 : ByteArray) (k : (Int × S98 × ByteArray) → Option R) : Option R :=
  (f31 p0).bind fun r1 =>
  cond (!r1.2.1)
  (
    k (11, r1.2.2, r1.1))
  (
    k (0, r1.2.2, r1.1))
def s68 : Y68 := (fun p0 p1 => b68 s31 p0 p1 some)
abbrev Y41 : Type := S98 → Option (Int × Int × S98)
def b41 {R : Type} (f30 : Y30) (p0 : S98) (k : (Int × Int × S98) → Option R) : Option R :=
  (f30 (⟨#[105, 110, 116]⟩ : ByteArray) p0).bind fun r1 =>
  cond r1.1
  (
    k (0, 0, r1.2))
  (
    (f30 (⟨#[98, 111, 111, 108]⟩ : ByteArray) r1.2).bind fun r2 =>
    cond r2.1
    (
      k (1, 0, r2.2))
    (
      k (0, 11, r2.2)))
def s41 : Y41 := (fun p0 => b41 s30 p0 some)
abbrev Y33 : Type := S98 → Option Int
def b33 {R : Type} (p0 : S98) (k : Int → Option R) : Option R :=
  cond (p0.c2 == 0)
  (
    k 0)
  (
    when_ (decide (0 ≤ (w64 (p0.c2 - 1))) && decide ((w64 (p0.c2 - 1)) < (p0.c1.length : Int))) (
      k ((p0.c1.getD (w64 (p0.c2 - 1)).toNat z51).c2)))
def s33 : Y33 := (fun p0 => b33 p0 some)
abbrev Y43 : Type := S98 → Option (S72 × Int × S98)
def b43 {R : Type} (f26 : Y26) (f30 : Y30) (f33 : Y33) (f68 : Y68) (p0 : S98) (k : (S72 × Int × S98) → Option R) : Option R :=
  (f33 p0).bind fun r1 =>
  (f33 p0).bind fun r2 =>
  (f30 (⟨#[64, 61]⟩ : ByteArray) p0).bind fun r3 =>
  cond (!r3.1)
  (
    (f30 (⟨#[64]⟩ : ByteArray) r3.2).bind fun r4 =>
    cond (!r4.1)
    (
      k ((⟨false, r3.1, (⟨#[]⟩ : ByteArray), r1, r2⟩ : S72), 0, r4.2))
    (
      (f26 r4.2).bind fun r5 =>
      (f68 r4.2 (⟨#[]⟩ : ByteArray)).bind fun r6 =>
      cond (r6.1 != 0)
      (
        k ((⟨false, false, (⟨#[]⟩ : ByteArray), 0, 0⟩ : S72), r6.1, r6.2.1))
      (
        (f33 r6.2.1).bind fun r7 =>
        k ((⟨true, r3.1, r6.2.2, r5, r7⟩ : S72), 0, r6.2.1))))
  (
    (f26 r3.2).bind fun r8 =>
    (f68 r3.2 (⟨#[]⟩ : ByteArray)).bind fun r9 =>
    cond (r9.1 != 0)
    (
      k ((⟨false, false, (⟨#[]⟩ : ByteArray), 0, 0⟩ : S72), r9.1, r9.2.1))
    (
      (f33 r9.2.1).bind fun r10 =>
      k ((⟨true, r3.1, r9.2.2, r8, r10⟩ : S72), 0, r9.2.1)))
def s43 : Y43 := (fun p0 => b43 s26 s30 s33 s68 p0 some)
abbrev Y90 : Type := (List ByteArray) → S98 → Option (Int × S98)
abbrev Z90_2 : Type := Int → List ByteArray → Int → List Int → List S51 → Int → Int → Option ((Int × List Int × List S51 × Int × Int × Int) ⊕ (Int × List Int × List S51 × Int × Int))
def lb90_2 {R : Type} (f30 : Y30) (q7 : Int) (q6 : List ByteArray) (c : Int → List Int → List S51 → Int → Int → Option R) (e0 : (Int × List Int × List S51 × Int × Int × Int) → Option R) (e1 : (Int × List Int × List S51 × Int × Int) → Option R) (v8 : Int) (v9 : List Int) (v10 : List S51) (v11 : Int) (v12 : Int) : Option R :=
  cond (decide (v8 < q7))
  (
    when_ (decide (0 ≤ v8) && decide (v8 < (q6.length : Int))) (
      (f30 (q6.getD v8.toNat (⟨#[]⟩ : ByteArray)) (⟨v9, v10, v11, v12⟩ : S98)).bind fun r13 =>
      cond (!r13.1)
      (
        e0 (v8, r13.2.c0, r13.2.c1, r13.2.c2, r13.2.c3, 11))
      (
        c (w64 (v8 + 1)) r13.2.c0 r13.2.c1 r13.2.c2 r13.2.c3)))
  (
    e1 (v8, v9, v10, v11, v12))
def lp90_2 (f30 : Y30) : Nat → Z90_2
  | 0 => fun _ _ _ _ _ _ _ => none
  | n + 1 => fun q7 q6 v8 v9 v10 v11 v12 => lb90_2 f30 q7 q6 (fun v8 v9 v10 v11 v12 => lp90_2 f30 n q7 q6 v8 v9 v10 v11 v12) (fun o => some (Sum.inl o)) (fun o => some (Sum.inr (o))) v8 v9 v10 v11 v12
def b90 {R : Type} (f30 : Y30) (l2 : Z90_2) (p1 : (List ByteArray)) (p0 : S98) (k : (Int × S98) → Option R) : Option R :=
  (l2 (p1.length : Int) p1 0 p0.c0 p0.c1 p0.c2 p0.c3).bind (Sum.elim (fun r14_0 =>
    k (r14_0.2.2.2.2.2, (⟨r14_0.2.1, r14_0.2.2.1, r14_0.2.2.2.1, r14_0.2.2.2.2.1⟩ : S98))) (fun r14_1 =>
    k (0, (⟨r14_1.2.1, r14_1.2.2.1, r14_1.2.2.2.1, r14_1.2.2.2.2⟩ : S98))))
def s90 : Y90 := (fun p1 p0 => b90 s30 (lp90_2 s30 big) p1 p0 some)
abbrev Y17 : Type := S27 → Option Int
abbrev Z17_3 : Type := Int → List S27 → Int → Int → Option (Int × Int)
def lb17_3 {R : Type} (f17 : Y17) (q9 : Int) (q8 : List S27) (c : Int → Int → Option R) (e0 : (Int × Int) → Option R) (v7 : Int) (v10 : Int) : Option R :=
  cond (decide (v10 < q9))
  (
    when_ (decide (0 ≤ v10) && decide (v10 < (q8.length : Int))) (
      (f17 (⟨(q8.getD v10.toNat z27).c0, (q8.getD v10.toNat z27).c1, (q8.getD v10.toNat z27).c2, (q8.getD v10.toNat z27).c3, (q8.getD v10.toNat z27).c4, (q8.getD v10.toNat z27).c5⟩ : S27)).bind fun r12 =>
      c (if r12 > v7 then r12 else v7) (w64 (v10 + 1))))
  (
    e0 (v7, v10))
def lp17_3 (f17 : Y17) : Nat → Z17_3
  | 0 => fun _ _ _ _ => none
  | n + 1 => fun q9 q8 v7 v10 => lb17_3 f17 q9 q8 (fun v7 v10 => lp17_3 f17 n q9 q8 v7 v10) (fun o => some o) v7 v10
def b17 {R : Type} (f17 : Y17) (l3 : Z17_3) (p0 : S27) (k : Int → Option R) : Option R :=
  (l3 (p0.c5.length : Int) p0.c5 0 0).bind fun r13_0 =>
  k (w64 (r13_0.1 + 1))
structure G17 where
  f17 : Y17
def g17 : Nat → G17
  | 0 => ⟨fun _ => none⟩
  | n + 1 => ⟨(fun p0 => b17 (g17 n).f17 (lp17_3 (g17 n).f17 big) p0 some)⟩
def s17 : Y17 := (g17 big).f17
abbrev Y85 : Type := S27 → Int → S98 → Option (S27 × Int × S98)
def b85 {R : Type} (f17 : Y17) (p1 : S27) (p2 : Int) (p0 : S98) (k : (S27 × Int × S98) → Option R) : Option R :=
  (f17 (⟨p1.c0, p1.c1, p1.c2, p1.c3, p1.c4, p1.c5⟩ : S27)).bind fun r1 =>
  cond (decide (r1 > 32))
  (
    k ((⟨0, 0, 0, (⟨#[]⟩ : ByteArray), (⟨#[]⟩ : ByteArray), []⟩ : S27), 12, (⟨p0.c0, p0.c1, p2, p0.c3⟩ : S98)))
  (
    k ((⟨p1.c0, p1.c1, p1.c2, p1.c3, p1.c4, p1.c5⟩ : S27), 0, p0))
def s85 : Y85 := (fun p1 p2 p0 => b85 s17 p1 p2 p0 some)
abbrev Y28 : Type := S98 → Option Int
def b28 {R : Type} (f29 : Y29) (p0 : S98) (k : Int → Option R) : Option R :=
  (f29 p0).bind fun r1 =>
  cond r1
  (
    k 0)
  (
    when_ (decide (0 ≤ p0.c2) && decide (p0.c2 < (p0.c1.length : Int))) (
      k ((p0.c1.getD p0.c2.toNat z51).c0)))
def s28 : Y28 := (fun p0 => b28 s29 p0 some)
abbrev Y108 : Type := S98 → Option (S27 × Int × S98)
abbrev Z108_3 : Type := Int → List Int → Int → Int → Option ((Int × Int × Int × Int × Int × Int × ByteArray × ByteArray) ⊕ (Int × Int))
def lb108_3 {R : Type} (f25 : Y25) (f26 : Y26) (q14 : Int) (q13 : List Int) (c : Int → Int → Option R) (e0 : (Int × Int × Int × Int × Int × Int × ByteArray × ByteArray) → Option R) (e1 : (Int × Int) → Option R) (v12 : Int) (v15 : Int) : Option R :=
  cond (decide (v15 < q14))
  (
    when_ (decide (0 ≤ v15) && decide (v15 < (q13.length : Int))) (
      cond (decide (v12 > (w64 ((w64 (9223372036854775807 - (w64 ((w8 ((q13.getD v15.toNat 0) - 48)))))).tdiv 10))))
      (
        e0 (v12, v15, 18, 0, 0, 0, (⟨#[]⟩ : ByteArray), (⟨#[]⟩ : ByteArray)))
      (
        c (w64 ((w64 (10 * v12)) + (w64 ((w8 ((q13.getD v15.toNat 0) - 48)))))) (w64 (v15 + 1)))))
  (
    e1 (v12, v15))
def lp108_3 (f25 : Y25) (f26 : Y26) : Nat → Z108_3
  | 0 => fun _ _ _ _ => none
  | n + 1 => fun q14 q13 v12 v15 => lb108_3 f25 f26 q14 q13 (fun v12 v15 => lp108_3 f25 f26 n q14 q13 v12 v15) (fun o => some (Sum.inl o)) (fun o => some (Sum.inr (o))) v12 v15
def b108 {R : Type} (f25 : Y25) (f26 : Y26) (l3 : Z108_3) (p0 : S98) (k : (S27 × Int × S98) → Option R) : Option R :=
  (f25 p0).bind fun r1 =>
  (l3 ((bytesOf r1).length : Int) (bytesOf r1) 0 0).bind (Sum.elim (fun r22_0 =>
    k ((⟨r22_0.2.2.2.1, r22_0.2.2.2.2.1, r22_0.2.2.2.2.2.1, r22_0.2.2.2.2.2.2.1, r22_0.2.2.2.2.2.2.2, []⟩ : S27), r22_0.2.2.1, p0)) (fun r22_1 =>
    (f26 p0).bind fun r23 =>
    k ((⟨0, r23, r22_1.1, (⟨#[]⟩ : ByteArray), (⟨#[]⟩ : ByteArray), []⟩ : S27), 0, (⟨p0.c0, p0.c1, w64 (p0.c2 + 1), p0.c3⟩ : S98))))
def s108 : Y108 := (fun p0 => b108 s25 s26 (lp108_3 s25 s26 big) p0 some)
abbrev Y99 : Type := S98 → Option (Int × S98)
def b99 {R : Type} (p0 : S98) (k : (Int × S98) → Option R) : Option R :=
  cond (decide (p0.c3 ≥ 32))
  (
    k (12, p0))
  (
    k (0, (⟨p0.c0, p0.c1, w64 (p0.c2 + 1), w64 (p0.c3 + 1)⟩ : S98)))
def s99 : Y99 := (fun p0 => b99 p0 some)
abbrev Y113 : Type := S98 → Option (Int × S98)
def b113 {R : Type} (f30 : Y30) (p0 : S98) (k : (Int × S98) → Option R) : Option R :=
  (f30 (⟨#[41]⟩ : ByteArray) p0).bind fun r1 =>
  cond (!r1.1)
  (
    k (11, r1.2))
  (
    k (0, (⟨r1.2.c0, r1.2.c1, r1.2.c2, w64 (r1.2.c3 - 1)⟩ : S98)))
def s113 : Y113 := (fun p0 => b113 s30 p0 some)
abbrev Y84 : Type := ByteArray → Option Int
def b84 {R : Type} (p0 : ByteArray) (k : Int → Option R) : Option R :=
  cond (p0.toList == (⟨#[124, 124]⟩ : ByteArray).toList)
  (
    k 1)
  (
    cond (p0.toList == (⟨#[38, 38]⟩ : ByteArray).toList)
    (
      k 2)
    (
      cond (p0.toList == (⟨#[61, 61]⟩ : ByteArray).toList)
      (
        cond (p0.toList == (⟨#[61, 61]⟩ : ByteArray).toList)
        (
          k 3)
        (
          cond (p0.toList == (⟨#[43]⟩ : ByteArray).toList)
          (
            cond (p0.toList == (⟨#[43]⟩ : ByteArray).toList)
            (
              k 4)
            (
              cond (p0.toList == (⟨#[42]⟩ : ByteArray).toList)
              (
                k 5)
              (
                k 0)))
          (
            cond (p0.toList == (⟨#[45]⟩ : ByteArray).toList)
            (
              k 4)
            (
              cond (p0.toList == (⟨#[42]⟩ : ByteArray).toList)
              (
                k 5)
              (
                k 0)))))
      (
        cond (p0.toList == (⟨#[60]⟩ : ByteArray).toList)
        (
          k 3)
        (
          cond (p0.toList == (⟨#[43]⟩ : ByteArray).toList)
          (
            cond (p0.toList == (⟨#[43]⟩ : ByteArray).toList)
            (
              k 4)
            (
              cond (p0.toList == (⟨#[42]⟩ : ByteArray).toList)
              (
                k 5)
              (
                k 0)))
          (
            cond (p0.toList == (⟨#[45]⟩ : ByteArray).toList)
            (
              k 4)
            (
              cond (p0.toList == (⟨#[42]⟩ : ByteArray).toList)
              (
                k 5)
              (
                k 0)))))))
def s84 : Y84 := (fun p0 => b84 p0 some)
abbrev Y63 : Type := Int → S98 → Option (S27 × Int × S98)
abbrev Y83 : Type := S98 → Option (S27 × Int × S98)
abbrev Y98 : Type := S98 → Option (S27 × Int × S98)
abbrev Y109 : Type := S98 → Option (S27 × Int × S98)
abbrev Y110 : Type := S98 → Option (S27 × Int × S98)
abbrev Y111 : Type := S98 → Option (S27 × Int × S98)
abbrev Z63_4 : Type := Int → Int → List Int → List S51 → Int → Int → Int → Int → Int → ByteArray → ByteArray → List S27 → Option (Int × List Int × List S51 × Int × Int × Int × Int × Int × ByteArray × ByteArray × List S27)
def lb63_4 {R : Type} (f25 : Y25) (f63 : Y63) (f83 : Y83) (f84 : Y84) (f85 : Y85) (q17 : Int) (c : Int → List Int → List S51 → Int → Int → Int → Int → Int → ByteArray → ByteArray → List S27 → Option R) (e0 : (Int × List Int × List S51 × Int × Int × Int × Int × Int × ByteArray × ByteArray × List S27) → Option R) (v18 : Int) (v19 : List Int) (v20 : List S51) (v21 : Int) (v22 : Int) (v28 : Int) (v29 : Int) (v30 : Int) (v31 : ByteArray) (v32 : ByteArray) (v33 : List S27) : Option R :=
  cond (v18 == 0)
  (
    (f25 (⟨v19, v20, v21, v22⟩ : S98)).bind fun r34 =>
    (f84 r34).bind fun r35 =>
    cond (r35 == q17)
    (
      (f25 (⟨v19, v20, v21, v22⟩ : S98)).bind fun r36 =>
      (f63 (w64 (q17 + 1)) (⟨v19, v20, w64 (v21 + 1), v22⟩ : S98)).bind fun r37 =>
      cond (r37.2.1 == 0)
      (
        (f85 (⟨5, v29, 0, r36, (⟨#[]⟩ : ByteArray), [(⟨v28, v29, v30, v31, v32, v33⟩ : S27), (⟨r37.1.c0, r37.1.c1, r37.1.c2, r37.1.c3, r37.1.c4, r37.1.c5⟩ : S27)]⟩ : S27) v21 r37.2.2).bind fun r38 =>
        c r38.2.1 r38.2.2.c0 r38.2.2.c1 r38.2.2.c2 r38.2.2.c3 r38.1.c0 r38.1.c1 r38.1.c2 r38.1.c3 r38.1.c4 r38.1.c5)
      (
        c r37.2.1 r37.2.2.c0 r37.2.2.c1 r37.2.2.c2 r37.2.2.c3 v28 v29 v30 v31 v32 v33))
    (
      e0 (v18, v19, v20, v21, v22, v28, v29, v30, v31, v32, v33)))
  (
    e0 (v18, v19, v20, v21, v22, v28, v29, v30, v31, v32, v33))
def lp63_4 (f25 : Y25) (f63 : Y63) (f83 : Y83) (f84 : Y84) (f85 : Y85) : Nat → Z63_4
  | 0 => fun _ _ _ _ _ _ _ _ _ _ _ _ => none
  | n + 1 => fun q17 v18 v19 v20 v21 v22 v28 v29 v30 v31 v32 v33 => lb63_4 f25 f63 f83 f84 f85 q17 (fun v18 v19 v20 v21 v22 v28 v29 v30 v31 v32 v33 => lp63_4 f25 f63 f83 f84 f85 n q17 v18 v19 v20 v21 v22 v28 v29 v30 v31 v32 v33) (fun o => some o) v18 v19 v20 v21 v22 v28 v29 v30 v31 v32 v33
def b63 {R : Type} (f25 : Y25) (f63 : Y63) (f83 : Y83) (f84 : Y84) (f85 : Y85) (l4 : Z63_4) (p1 : Int) (p0 : S98) (k : (S27 × Int × S98) → Option R) : Option R :=
  cond (p1 == 6)
  (
    (f83 p0).bind fun r1 =>
    k ((⟨r1.1.c0, r1.1.c1, r1.1.c2, r1.1.c3, r1.1.c4, r1.1.c5⟩ : S27), r1.2.1, r1.2.2))
  (
    (f63 (w64 (p1 + 1)) p0).bind fun r2 =>
    (l4 p1 r2.2.1 r2.2.2.c0 r2.2.2.c1 r2.2.2.c2 r2.2.2.c3 r2.1.c0 r2.1.c1 r2.1.c2 r2.1.c3 r2.1.c4 r2.1.c5).bind fun r39_0 =>
    cond (r39_0.1 != 0)
    (
      k ((⟨0, 0, 0, (⟨#[]⟩ : ByteArray), (⟨#[]⟩ : ByteArray), []⟩ : S27), r39_0.1, (⟨r39_0.2.1, r39_0.2.2.1, r39_0.2.2.2.1, r39_0.2.2.2.2.1⟩ : S98)))
    (
      k ((⟨r39_0.2.2.2.2.2.1, r39_0.2.2.2.2.2.2.1, r39_0.2.2.2.2.2.2.2.1, r39_0.2.2.2.2.2.2.2.2.1, r39_0.2.2.2.2.2.2.2.2.2.1, r39_0.2.2.2.2.2.2.2.2.2.2⟩ : S27), 0, (⟨r39_0.2.1, r39_0.2.2.1, r39_0.2.2.2.1, r39_0.2.2.2.2.1⟩ : S98))))
def b83 {R : Type} (f25 : Y25) (f26 : Y26) (f83 : Y83) (f85 : Y85) (f98 : Y98) (f99 : Y99) (p0 : S98) (k : (S27 × Int × S98) → Option R) : Option R :=
  (f25 p0).bind fun r1 =>
  (f26 p0).bind fun r2 =>
  cond (!(r1.toList == (⟨#[33]⟩ : ByteArray).toList))
  (
    cond (!(r1.toList == (⟨#[45]⟩ : ByteArray).toList))
    (
      (f98 p0).bind fun r3 =>
      k ((⟨r3.1.c0, r3.1.c1, r3.1.c2, r3.1.c3, r3.1.c4, r3.1.c5⟩ : S27), r3.2.1, r3.2.2))
    (
      (f99 p0).bind fun r4 =>
      cond (r4.1 != 0)
      (
        k ((⟨0, 0, 0, (⟨#[]⟩ : ByteArray), (⟨#[]⟩ : ByteArray), []⟩ : S27), r4.1, r4.2))
      (
        (f83 r4.2).bind fun r5 =>
        cond (r5.2.1 != 0)
        (
          k ((⟨0, 0, 0, (⟨#[]⟩ : ByteArray), (⟨#[]⟩ : ByteArray), []⟩ : S27), r5.2.1, r5.2.2))
        (
          (f85 (⟨4, r2, 0, r1, (⟨#[]⟩ : ByteArray), [(⟨r5.1.c0, r5.1.c1, r5.1.c2, r5.1.c3, r5.1.c4, r5.1.c5⟩ : S27)]⟩ : S27) p0.c2 (⟨r5.2.2.c0, r5.2.2.c1, r5.2.2.c2, w64 (r5.2.2.c3 - 1)⟩ : S98)).bind fun r6 =>
          k ((⟨r6.1.c0, r6.1.c1, r6.1.c2, r6.1.c3, r6.1.c4, r6.1.c5⟩ : S27), r6.2.1, r6.2.2)))))
  (
    (f99 p0).bind fun r7 =>
    cond (r7.1 != 0)
    (
      k ((⟨0, 0, 0, (⟨#[]⟩ : ByteArray), (⟨#[]⟩ : ByteArray), []⟩ : S27), r7.1, r7.2))
    (
      (f83 r7.2).bind fun r8 =>
      cond (r8.2.1 != 0)
      (
        k ((⟨0, 0, 0, (⟨#[]⟩ : ByteArray), (⟨#[]⟩ : ByteArray), []⟩ : S27), r8.2.1, r8.2.2))
      (
        (f85 (⟨4, r2, 0, r1, (⟨#[]⟩ : ByteArray), [(⟨r8.1.c0, r8.1.c1, r8.1.c2, r8.1.c3, r8.1.c4, r8.1.c5⟩ : S27)]⟩ : S27) p0.c2 (⟨r8.2.2.c0, r8.2.2.c1, r8.2.2.c2, w64 (r8.2.2.c3 - 1)⟩ : S98)).bind fun r9 =>
        k ((⟨r9.1.c0, r9.1.c1, r9.1.c2, r9.1.c3, r9.1.c4, r9.1.c5⟩ : S27), r9.2.1, r9.2.2))))
def b98 {R : Type} (f25 : Y25) (f26 : Y26) (f28 : Y28) (f108 : Y108) (f109 : Y109) (f110 : Y110) (f111 : Y111) (p0 : S98) (k : (S27 × Int × S98) → Option R) : Option R :=
  (f26 p0).bind fun r1 =>
  (f25 p0).bind fun r2 =>
  (f28 p0).bind fun r3 =>
  cond (r3 == 3)
  (
    (f108 p0).bind fun r4 =>
    k ((⟨r4.1.c0, r4.1.c1, r4.1.c2, r4.1.c3, r4.1.c4, r4.1.c5⟩ : S27), r4.2.1, r4.2.2))
  (
    cond (r2.toList == (⟨#[116, 114, 117, 101]⟩ : ByteArray).toList)
    (
      cond (r2.toList == (⟨#[116, 114, 117, 101]⟩ : ByteArray).toList)
      (
        cond (r2.toList == (⟨#[116, 114, 117, 101]⟩ : ByteArray).toList)
        (
          k ((⟨1, r1, 1, (⟨#[]⟩ : ByteArray), (⟨#[]⟩ : ByteArray), []⟩ : S27), 0, (⟨p0.c0, p0.c1, w64 (p0.c2 + 1), p0.c3⟩ : S98)))
        (
          k ((⟨1, r1, 0, (⟨#[]⟩ : ByteArray), (⟨#[]⟩ : ByteArray), []⟩ : S27), 0, (⟨p0.c0, p0.c1, w64 (p0.c2 + 1), p0.c3⟩ : S98))))
      (
        cond (r2.toList == (⟨#[40]⟩ : ByteArray).toList)
        (
          (f109 p0).bind fun r5 =>
          k ((⟨r5.1.c0, r5.1.c1, r5.1.c2, r5.1.c3, r5.1.c4, r5.1.c5⟩ : S27), r5.2.1, r5.2.2))
        (
          cond (r2.toList == (⟨#[100, 101, 99, 108, 97, 115, 115, 105, 102, 121]⟩ : ByteArray).toList)
          (
            (f110 p0).bind fun r6 =>
            k ((⟨r6.1.c0, r6.1.c1, r6.1.c2, r6.1.c3, r6.1.c4, r6.1.c5⟩ : S27), r6.2.1, r6.2.2))
          (
            (f111 p0).bind fun r7 =>
            k ((⟨r7.1.c0, r7.1.c1, r7.1.c2, r7.1.c3, r7.1.c4, r7.1.c5⟩ : S27), r7.2.1, r7.2.2)))))
    (
      cond (r2.toList == (⟨#[102, 97, 108, 115, 101]⟩ : ByteArray).toList)
      (
        cond (r2.toList == (⟨#[116, 114, 117, 101]⟩ : ByteArray).toList)
        (
          k ((⟨1, r1, 1, (⟨#[]⟩ : ByteArray), (⟨#[]⟩ : ByteArray), []⟩ : S27), 0, (⟨p0.c0, p0.c1, w64 (p0.c2 + 1), p0.c3⟩ : S98)))
        (
          k ((⟨1, r1, 0, (⟨#[]⟩ : ByteArray), (⟨#[]⟩ : ByteArray), []⟩ : S27), 0, (⟨p0.c0, p0.c1, w64 (p0.c2 + 1), p0.c3⟩ : S98))))
      (
        cond (r2.toList == (⟨#[40]⟩ : ByteArray).toList)
        (
          (f109 p0).bind fun r8 =>
          k ((⟨r8.1.c0, r8.1.c1, r8.1.c2, r8.1.c3, r8.1.c4, r8.1.c5⟩ : S27), r8.2.1, r8.2.2))
        (
          cond (r2.toList == (⟨#[100, 101, 99, 108, 97, 115, 115, 105, 102, 121]⟩ : ByteArray).toList)
          (
            (f110 p0).bind fun r9 =>
            k ((⟨r9.1.c0, r9.1.c1, r9.1.c2, r9.1.c3, r9.1.c4, r9.1.c5⟩ : S27), r9.2.1, r9.2.2))
          (
            (f111 p0).bind fun r10 =>
            k ((⟨r10.1.c0, r10.1.c1, r10.1.c2, r10.1.c3, r10.1.c4, r10.1.c5⟩ : S27), r10.2.1, r10.2.2))))))
def b109 {R : Type} (f63 : Y63) (f99 : Y99) (f113 : Y113) (p0 : S98) (k : (S27 × Int × S98) → Option R) : Option R :=
  (f99 p0).bind fun r1 =>
  cond (r1.1 != 0)
  (
    k ((⟨0, 0, 0, (⟨#[]⟩ : ByteArray), (⟨#[]⟩ : ByteArray), []⟩ : S27), r1.1, r1.2))
  (
    (f63 1 r1.2).bind fun r2 =>
    cond (r2.2.1 == 0)
    (
      (f113 r2.2.2).bind fun r3 =>
      cond (r3.1 != 0)
      (
        k ((⟨0, 0, 0, (⟨#[]⟩ : ByteArray), (⟨#[]⟩ : ByteArray), []⟩ : S27), r3.1, r3.2))
      (
        k ((⟨r2.1.c0, r2.1.c1, r2.1.c2, r2.1.c3, r2.1.c4, r2.1.c5⟩ : S27), 0, r3.2)))
    (
      cond (r2.2.1 != 0)
      (
        k ((⟨0, 0, 0, (⟨#[]⟩ : ByteArray), (⟨#[]⟩ : ByteArray), []⟩ : S27), r2.2.1, r2.2.2))
      (
        k ((⟨r2.1.c0, r2.1.c1, r2.1.c2, r2.1.c3, r2.1.c4, r2.1.c5⟩ : S27), 0, r2.2.2))))
def b110 {R : Type} (f25 : Y25) (f26 : Y26) (f30 : Y30) (f31 : Y31) (f63 : Y63) (f85 : Y85) (f99 : Y99) (f113 : Y113) (p0 : S98) (k : (S27 × Int × S98) → Option R) : Option R :=
  (f26 p0).bind fun r1 =>
  (f25 (⟨p0.c0, p0.c1, w64 (p0.c2 + 1), p0.c3⟩ : S98)).bind fun r2 =>
  cond (!(r2.toList == (⟨#[40]⟩ : ByteArray).toList))
  (
    k ((⟨0, 0, 0, (⟨#[]⟩ : ByteArray), (⟨#[]⟩ : ByteArray), []⟩ : S27), 11, (⟨p0.c0, p0.c1, w64 (p0.c2 + 1), p0.c3⟩ : S98)))
  (
    (f99 (⟨p0.c0, p0.c1, w64 (p0.c2 + 1), p0.c3⟩ : S98)).bind fun r3 =>
    cond (r3.1 != 0)
    (
      k ((⟨0, 0, 0, (⟨#[]⟩ : ByteArray), (⟨#[]⟩ : ByteArray), []⟩ : S27), r3.1, r3.2))
    (
      (f63 1 r3.2).bind fun r4 =>
      cond (r4.2.1 != 0)
      (
        k ((⟨0, 0, 0, (⟨#[]⟩ : ByteArray), (⟨#[]⟩ : ByteArray), []⟩ : S27), r4.2.1, r4.2.2))
      (
        (f30 (⟨#[44]⟩ : ByteArray) r4.2.2).bind fun r5 =>
        cond r5.1
        (
          (f30 (⟨#[64]⟩ : ByteArray) r5.2).bind fun r6 =>
          cond r6.1
          (
            (f31 r6.2).bind fun r7 =>
            cond (!r7.2.1)
            (
              k ((⟨0, 0, 0, (⟨#[]⟩ : ByteArray), (⟨#[]⟩ : ByteArray), []⟩ : S27), 11, r7.2.2))
            (
              (f113 r7.2.2).bind fun r8 =>
              cond (r8.1 != 0)
              (
                k ((⟨0, 0, 0, (⟨#[]⟩ : ByteArray), (⟨#[]⟩ : ByteArray), []⟩ : S27), r8.1, r8.2))
              (
                (f85 (⟨6, r1, 0, (⟨#[]⟩ : ByteArray), r7.1, [(⟨r4.1.c0, r4.1.c1, r4.1.c2, r4.1.c3, r4.1.c4, r4.1.c5⟩ : S27)]⟩ : S27) p0.c2 r8.2).bind fun r9 =>
                k ((⟨r9.1.c0, r9.1.c1, r9.1.c2, r9.1.c3, r9.1.c4, r9.1.c5⟩ : S27), r9.2.1, r9.2.2))))
          (
            cond (!r6.1)
            (
              k ((⟨0, 0, 0, (⟨#[]⟩ : ByteArray), (⟨#[]⟩ : ByteArray), []⟩ : S27), 11, r6.2))
            (
              (f113 r6.2).bind fun r10 =>
              cond (r10.1 != 0)
              (
                k ((⟨0, 0, 0, (⟨#[]⟩ : ByteArray), (⟨#[]⟩ : ByteArray), []⟩ : S27), r10.1, r10.2))
              (
                (f85 (⟨6, r1, 0, (⟨#[]⟩ : ByteArray), (⟨#[]⟩ : ByteArray), [(⟨r4.1.c0, r4.1.c1, r4.1.c2, r4.1.c3, r4.1.c4, r4.1.c5⟩ : S27)]⟩ : S27) p0.c2 r10.2).bind fun r11 =>
                k ((⟨r11.1.c0, r11.1.c1, r11.1.c2, r11.1.c3, r11.1.c4, r11.1.c5⟩ : S27), r11.2.1, r11.2.2)))))
        (
          k ((⟨0, 0, 0, (⟨#[]⟩ : ByteArray), (⟨#[]⟩ : ByteArray), []⟩ : S27), 11, r5.2)))))
abbrev Z111_17 : Type := List Int → List S51 → Int → Int → List S27 → Option ((List Int × List S51 × Int × Int × List S27 × Int × Int × Int × Int × ByteArray × ByteArray) ⊕ (List Int × List S51 × Int × Int × List S27))
def lb111_17 {R : Type} (f25 : Y25) (f26 : Y26) (f30 : Y30) (f31 : Y31) (f63 : Y63) (f85 : Y85) (f99 : Y99) (f113 : Y113) (c : List Int → List S51 → Int → Int → List S27 → Option R) (e0 : (List Int × List S51 × Int × Int × List S27 × Int × Int × Int × Int × ByteArray × ByteArray) → Option R) (e1 : (List Int × List S51 × Int × Int × List S27) → Option R) (v42 : List Int) (v43 : List S51) (v44 : Int) (v45 : Int) (v56 : List S27) : Option R :=
  (f25 (⟨v42, v43, v44, v45⟩ : S98)).bind fun r57 =>
  cond (!(r57.toList == (⟨#[41]⟩ : ByteArray).toList))
  (
    cond (decide ((v56.length : Int) > 0))
    (
      (f30 (⟨#[44]⟩ : ByteArray) (⟨v42, v43, v44, v45⟩ : S98)).bind fun r58 =>
      cond (!r58.1)
      (
        e0 (r58.2.c0, r58.2.c1, r58.2.c2, r58.2.c3, v56, 11, 0, 0, 0, (⟨#[]⟩ : ByteArray), (⟨#[]⟩ : ByteArray)))
      (
        (f63 1 r58.2).bind fun r59 =>
        cond (r59.2.1 != 0)
        (
          e0 (r59.2.2.c0, r59.2.2.c1, r59.2.2.c2, r59.2.2.c3, v56, r59.2.1, 0, 0, 0, (⟨#[]⟩ : ByteArray), (⟨#[]⟩ : ByteArray)))
        (
          when_ (decide (v56.length + [(⟨r59.1.c0, r59.1.c1, r59.1.c2, r59.1.c3, r59.1.c4, r59.1.c5⟩ : S27)].length ≤ 1759218604441)) (
            c r59.2.2.c0 r59.2.2.c1 r59.2.2.c2 r59.2.2.c3 (v56 ++ [(⟨r59.1.c0, r59.1.c1, r59.1.c2, r59.1.c3, r59.1.c4, r59.1.c5⟩ : S27)])))))
    (
      (f63 1 (⟨v42, v43, v44, v45⟩ : S98)).bind fun r60 =>
      cond (r60.2.1 != 0)
      (
        e0 (r60.2.2.c0, r60.2.2.c1, r60.2.2.c2, r60.2.2.c3, v56, r60.2.1, 0, 0, 0, (⟨#[]⟩ : ByteArray), (⟨#[]⟩ : ByteArray)))
      (
        when_ (decide (v56.length + [(⟨r60.1.c0, r60.1.c1, r60.1.c2, r60.1.c3, r60.1.c4, r60.1.c5⟩ : S27)].length ≤ 1759218604441)) (
          c r60.2.2.c0 r60.2.2.c1 r60.2.2.c2 r60.2.2.c3 (v56 ++ [(⟨r60.1.c0, r60.1.c1, r60.1.c2, r60.1.c3, r60.1.c4, r60.1.c5⟩ : S27)])))))
  (
    e1 (v42, v43, v44, v45, v56))
def lp111_17 (f25 : Y25) (f26 : Y26) (f30 : Y30) (f31 : Y31) (f63 : Y63) (f85 : Y85) (f99 : Y99) (f113 : Y113) : Nat → Z111_17
  | 0 => fun _ _ _ _ _ => none
  | n + 1 => fun v42 v43 v44 v45 v56 => lb111_17 f25 f26 f30 f31 f63 f85 f99 f113  (fun v42 v43 v44 v45 v56 => lp111_17 f25 f26 f30 f31 f63 f85 f99 f113 n v42 v43 v44 v45 v56) (fun o => some (Sum.inl o)) (fun o => some (Sum.inr (o))) v42 v43 v44 v45 v56
def b111 {R : Type} (f25 : Y25) (f26 : Y26) (f30 : Y30) (f31 : Y31) (f63 : Y63) (f85 : Y85) (f99 : Y99) (f113 : Y113) (l17 : Z111_17) (p0 : S98) (k : (S27 × Int × S98) → Option R) : Option R :=
  (f26 p0).bind fun r1 =>
  (f31 p0).bind fun r2 =>
  cond (!r2.2.1)
  (
    k ((⟨0, 0, 0, (⟨#[]⟩ : ByteArray), (⟨#[]⟩ : ByteArray), []⟩ : S27), 11, r2.2.2))
  (
    (f30 (⟨#[46]⟩ : ByteArray) r2.2.2).bind fun r3 =>
    cond r3.1
    (
      (f31 r3.2).bind fun r4 =>
      cond (!r4.2.1)
      (
        k ((⟨0, 0, 0, (⟨#[]⟩ : ByteArray), (⟨#[]⟩ : ByteArray), []⟩ : S27), 11, r4.2.2))
      (
        when_ (decide ((⟨#[46]⟩ : ByteArray).size + r4.1.size ≤ 9223372036854775807)) (
          when_ (decide (r2.1.size + ((⟨#[46]⟩ : ByteArray) ++ r4.1).size ≤ 9223372036854775807)) (
            (f25 r4.2.2).bind fun r5 =>
            cond (!(r5.toList == (⟨#[40]⟩ : ByteArray).toList))
            (
              k ((⟨2, r1, 0, (r2.1 ++ ((⟨#[46]⟩ : ByteArray) ++ r4.1)), (⟨#[]⟩ : ByteArray), []⟩ : S27), 0, r4.2.2))
            (
              (f99 r4.2.2).bind fun r6 =>
              cond (r6.1 != 0)
              (
                k ((⟨0, 0, 0, (⟨#[]⟩ : ByteArray), (⟨#[]⟩ : ByteArray), []⟩ : S27), r6.1, r6.2))
              (
                (l17 r6.2.c0 r6.2.c1 r6.2.c2 r6.2.c3 []).bind (Sum.elim (fun r61_0 =>
                  k ((⟨r61_0.2.2.2.2.2.2.1, r61_0.2.2.2.2.2.2.2.1, r61_0.2.2.2.2.2.2.2.2.1, r61_0.2.2.2.2.2.2.2.2.2.1, r61_0.2.2.2.2.2.2.2.2.2.2, []⟩ : S27), r61_0.2.2.2.2.2.1, (⟨r61_0.1, r61_0.2.1, r61_0.2.2.1, r61_0.2.2.2.1⟩ : S98))) (fun r61_1 =>
                  (f113 (⟨r61_1.1, r61_1.2.1, r61_1.2.2.1, r61_1.2.2.2.1⟩ : S98)).bind fun r62 =>
                  cond (r62.1 != 0)
                  (
                    k ((⟨0, 0, 0, (⟨#[]⟩ : ByteArray), (⟨#[]⟩ : ByteArray), []⟩ : S27), r62.1, r62.2))
                  (
                    (f85 (⟨3, r1, 0, (r2.1 ++ ((⟨#[46]⟩ : ByteArray) ++ r4.1)), (⟨#[]⟩ : ByteArray), r61_1.2.2.2.2⟩ : S27) p0.c2 r62.2).bind fun r63 =>
                    k ((⟨r63.1.c0, r63.1.c1, r63.1.c2, r63.1.c3, r63.1.c4, r63.1.c5⟩ : S27), r63.2.1, r63.2.2))))))))))
    (
      (f25 r3.2).bind fun r64 =>
      cond (!(r64.toList == (⟨#[40]⟩ : ByteArray).toList))
      (
        k ((⟨2, r1, 0, r2.1, (⟨#[]⟩ : ByteArray), []⟩ : S27), 0, r3.2))
      (
        (f99 r3.2).bind fun r65 =>
        cond (r65.1 != 0)
        (
          k ((⟨0, 0, 0, (⟨#[]⟩ : ByteArray), (⟨#[]⟩ : ByteArray), []⟩ : S27), r65.1, r65.2))
        (
          (l17 r65.2.c0 r65.2.c1 r65.2.c2 r65.2.c3 []).bind (Sum.elim (fun r120_0 =>
            k ((⟨r120_0.2.2.2.2.2.2.1, r120_0.2.2.2.2.2.2.2.1, r120_0.2.2.2.2.2.2.2.2.1, r120_0.2.2.2.2.2.2.2.2.2.1, r120_0.2.2.2.2.2.2.2.2.2.2, []⟩ : S27), r120_0.2.2.2.2.2.1, (⟨r120_0.1, r120_0.2.1, r120_0.2.2.1, r120_0.2.2.2.1⟩ : S98))) (fun r120_1 =>
            (f113 (⟨r120_1.1, r120_1.2.1, r120_1.2.2.1, r120_1.2.2.2.1⟩ : S98)).bind fun r121 =>
            cond (r121.1 != 0)
            (
              k ((⟨0, 0, 0, (⟨#[]⟩ : ByteArray), (⟨#[]⟩ : ByteArray), []⟩ : S27), r121.1, r121.2))
            (
              (f85 (⟨3, r1, 0, r2.1, (⟨#[]⟩ : ByteArray), r120_1.2.2.2.2⟩ : S27) p0.c2 r121.2).bind fun r122 =>
              k ((⟨r122.1.c0, r122.1.c1, r122.1.c2, r122.1.c3, r122.1.c4, r122.1.c5⟩ : S27), r122.2.1, r122.2.2))))))))
structure G63 where
  f63 : Y63
  f83 : Y83
  f98 : Y98
  f109 : Y109
  f110 : Y110
  f111 : Y111
def g63 : Nat → G63
  | 0 => ⟨fun _ _ => none, fun _ => none, fun _ => none, fun _ => none, fun _ => none, fun _ => none⟩
  | n + 1 => ⟨(fun p1 p0 => b63 s25 (g63 n).f63 (g63 n).f83 s84 s85 (lp63_4 s25 (g63 n).f63 (g63 n).f83 s84 s85 big) p1 p0 some),
    (fun p0 => b83 s25 s26 (g63 n).f83 s85 (g63 n).f98 s99 p0 some),
    (fun p0 => b98 s25 s26 s28 s108 (g63 n).f109 (g63 n).f110 (g63 n).f111 p0 some),
    (fun p0 => b109 (g63 n).f63 s99 s113 p0 some),
    (fun p0 => b110 s25 s26 s30 s31 (g63 n).f63 s85 s99 s113 p0 some),
    (fun p0 => b111 s25 s26 s30 s31 (g63 n).f63 s85 s99 s113 (lp111_17 s25 s26 s30 s31 (g63 n).f63 s85 s99 s113 big) p0 some)⟩
def s63 : Y63 := (g63 big).f63
def s83 : Y83 := (g63 big).f83
def s98 : Y98 := (g63 big).f98
def s109 : Y109 := (g63 big).f109
def s110 : Y110 := (g63 big).f110
def s111 : Y111 := (g63 big).f111
abbrev Y34 : Type := S98 → Option (S27 × Int × S98)
def b34 {R : Type} (f63 : Y63) (p0 : S98) (k : (S27 × Int × S98) → Option R) : Option R :=
  (f63 1 p0).bind fun r1 =>
  k ((⟨r1.1.c0, r1.1.c1, r1.1.c2, r1.1.c3, r1.1.c4, r1.1.c5⟩ : S27), r1.2.1, (⟨r1.2.2.c0, r1.2.2.c1, r1.2.2.c2, p0.c3⟩ : S98))
def s34 : Y34 := (fun p0 => b34 s63 p0 some)
abbrev Y105 : Type := S98 → S79 → Option (Int × S98 × S79)
def b105 {R : Type} (f34 : Y34) (f90 : Y90) (p0 : S98) (p1 : S79) (k : (Int × S98 × S79) → Option R) : Option R :=
  (f90 [(⟨#[61]⟩ : ByteArray)] p0).bind fun r1 =>
  cond (r1.1 != 0)
  (
    k (r1.1, r1.2, (⟨p1.c0, p1.c1, p1.c2, p1.c3, p1.c4, p1.c5, p1.c6, p1.c7, p1.c8, p1.c9, p1.c10, p1.c11, p1.c12, p1.c13, p1.c14, p1.c15, p1.c16⟩ : S79)))
  (
    (f34 r1.2).bind fun r2 =>
    cond (r2.2.1 != 0)
    (
      k (r2.2.1, r2.2.2, (⟨p1.c0, p1.c1, p1.c2, p1.c3, p1.c4, p1.c5, p1.c6, p1.c7, p1.c8, r2.1.c0, r2.1.c1, r2.1.c2, r2.1.c3, r2.1.c4, r2.1.c5, p1.c15, p1.c16⟩ : S79)))
    (
      (f90 [(⟨#[59]⟩ : ByteArray)] r2.2.2).bind fun r3 =>
      k (r3.1, r3.2, (⟨p1.c0, p1.c1, p1.c2, p1.c3, p1.c4, p1.c5, p1.c6, p1.c7, p1.c8, r2.1.c0, r2.1.c1, r2.1.c2, r2.1.c3, r2.1.c4, r2.1.c5, p1.c15, p1.c16⟩ : S79))))
def s105 : Y105 := (fun p0 p1 => b105 s34 s90 p0 p1 some)
abbrev Y87 : Type := S98 → S79 → Option (Int × S98 × S79)
def b87 {R : Type} (f41 : Y41) (f43 : Y43) (f68 : Y68) (f90 : Y90) (f105 : Y105) (p0 : S98) (p1 : S79) (k : (Int × S98 × S79) → Option R) : Option R :=
  (f68 p0 p1.c2).bind fun r1 =>
  cond (r1.1 != 0)
  (
    k (r1.1, r1.2.1, (⟨p1.c0, p1.c1, r1.2.2, p1.c3, p1.c4, p1.c5, p1.c6, p1.c7, p1.c8, p1.c9, p1.c10, p1.c11, p1.c12, p1.c13, p1.c14, p1.c15, p1.c16⟩ : S79)))
  (
    (f90 [(⟨#[58]⟩ : ByteArray)] r1.2.1).bind fun r2 =>
    cond (r2.1 != 0)
    (
      k (r2.1, r2.2, (⟨p1.c0, p1.c1, r1.2.2, p1.c3, p1.c4, p1.c5, p1.c6, p1.c7, p1.c8, p1.c9, p1.c10, p1.c11, p1.c12, p1.c13, p1.c14, p1.c15, p1.c16⟩ : S79)))
    (
      (f41 r2.2).bind fun r3 =>
      cond (r3.2.1 != 0)
      (
        k (r3.2.1, r3.2.2, (⟨p1.c0, p1.c1, r1.2.2, r3.1, p1.c4, p1.c5, p1.c6, p1.c7, p1.c8, p1.c9, p1.c10, p1.c11, p1.c12, p1.c13, p1.c14, p1.c15, p1.c16⟩ : S79)))
      (
        (f43 r3.2.2).bind fun r4 =>
        cond (r4.2.1 != 0)
        (
          k (r4.2.1, r4.2.2, (⟨p1.c0, p1.c1, r1.2.2, r3.1, r4.1.c0, r4.1.c1, r4.1.c2, r4.1.c3, r4.1.c4, p1.c9, p1.c10, p1.c11, p1.c12, p1.c13, p1.c14, p1.c15, p1.c16⟩ : S79)))
        (
          (f105 r4.2.2 (⟨p1.c0, p1.c1, r1.2.2, r3.1, r4.1.c0, r4.1.c1, r4.1.c2, r4.1.c3, r4.1.c4, p1.c9, p1.c10, p1.c11, p1.c12, p1.c13, p1.c14, p1.c15, p1.c16⟩ : S79)).bind fun r5 =>
          k (r5.1, r5.2.1, (⟨r5.2.2.c0, r5.2.2.c1, r5.2.2.c2, r5.2.2.c3, r5.2.2.c4, r5.2.2.c5, r5.2.2.c6, r5.2.2.c7, r5.2.2.c8, r5.2.2.c9, r5.2.2.c10, r5.2.2.c11, r5.2.2.c12, r5.2.2.c13, r5.2.2.c14, r5.2.2.c15, r5.2.2.c16⟩ : S79))))))
def s87 : Y87 := (fun p0 p1 => b87 s41 s43 s68 s90 s105 p0 p1 some)
abbrev Y91 : Type := S98 → S79 → Option (Int × S98 × S79)
def b91 {R : Type} (f34 : Y34) (f90 : Y90) (f105 : Y105) (p0 : S98) (p1 : S79) (k : (Int × S98 × S79) → Option R) : Option R :=
  (f34 p0).bind fun r1 =>
  cond (r1.2.1 != 0)
  (
    k (r1.2.1, r1.2.2, (⟨p1.c0, p1.c1, p1.c2, p1.c3, p1.c4, p1.c5, p1.c6, p1.c7, p1.c8, p1.c9, p1.c10, p1.c11, p1.c12, p1.c13, p1.c14, p1.c15, p1.c16⟩ : S79)))
  (
    cond (r1.1.c0 == 2)
    (
      (f105 r1.2.2 (⟨1, p1.c1, r1.1.c3, p1.c3, p1.c4, p1.c5, p1.c6, p1.c7, p1.c8, p1.c9, p1.c10, p1.c11, p1.c12, p1.c13, p1.c14, p1.c15, p1.c16⟩ : S79)).bind fun r2 =>
      k (r2.1, r2.2.1, (⟨r2.2.2.c0, r2.2.2.c1, r2.2.2.c2, r2.2.2.c3, r2.2.2.c4, r2.2.2.c5, r2.2.2.c6, r2.2.2.c7, r2.2.2.c8, r2.2.2.c9, r2.2.2.c10, r2.2.2.c11, r2.2.2.c12, r2.2.2.c13, r2.2.2.c14, r2.2.2.c15, r2.2.2.c16⟩ : S79)))
    (
      cond (r1.1.c0 == 3)
      (
        (f90 [(⟨#[59]⟩ : ByteArray)] r1.2.2).bind fun r3 =>
        k (r3.1, r3.2, (⟨5, p1.c1, p1.c2, p1.c3, p1.c4, p1.c5, p1.c6, p1.c7, p1.c8, r1.1.c0, r1.1.c1, r1.1.c2, r1.1.c3, r1.1.c4, r1.1.c5, p1.c15, p1.c16⟩ : S79)))
      (
        k (11, r1.2.2, (⟨p1.c0, p1.c1, p1.c2, p1.c3, p1.c4, p1.c5, p1.c6, p1.c7, p1.c8, p1.c9, p1.c10, p1.c11, p1.c12, p1.c13, p1.c14, p1.c15, p1.c16⟩ : S79)))))
def s91 : Y91 := (fun p0 p1 => b91 s34 s90 s105 p0 p1 some)
abbrev Y45 : Type := Int → S98 → Option (S79 × Int × S98)
abbrev Y48 : Type := Int → S98 → Option (List S79 × Int × S98)
abbrev Y69 : Type := Int → S98 → S79 → Option (Int × S98 × S79)
abbrev Y88 : Type := Int → S98 → S79 → Option (Int × S98 × S79)
abbrev Y89 : Type := Int → S98 → Option (List S79 × Int × S98)
def b45 {R : Type} (f26 : Y26) (f69 : Y69) (p1 : Int) (p0 : S98) (k : (S79 × Int × S98) → Option R) : Option R :=
  (f26 p0).bind fun r1 =>
  (f69 p1 p0 (⟨0, r1, (⟨#[]⟩ : ByteArray), 0, false, false, (⟨#[]⟩ : ByteArray), 0, 0, 0, 0, 0, (⟨#[]⟩ : ByteArray), (⟨#[]⟩ : ByteArray), [], [], []⟩ : S79)).bind fun r2 =>
  cond (r2.1 != 0)
  (
    k ((⟨0, 0, (⟨#[]⟩ : ByteArray), 0, false, false, (⟨#[]⟩ : ByteArray), 0, 0, 0, 0, 0, (⟨#[]⟩ : ByteArray), (⟨#[]⟩ : ByteArray), [], [], []⟩ : S79), r2.1, r2.2.1))
  (
    k ((⟨r2.2.2.c0, r2.2.2.c1, r2.2.2.c2, r2.2.2.c3, r2.2.2.c4, r2.2.2.c5, r2.2.2.c6, r2.2.2.c7, r2.2.2.c8, r2.2.2.c9, r2.2.2.c10, r2.2.2.c11, r2.2.2.c12, r2.2.2.c13, r2.2.2.c14, r2.2.2.c15, r2.2.2.c16⟩ : S79), 0, r2.2.1))
abbrev Z48_4 : Type := Int → List Int → List S51 → Int → Int → List S79 → Option ((List Int × List S51 × Int × Int × List S79 × Int) ⊕ (List Int × List S51 × Int × Int × List S79))
def lb48_4 {R : Type} (f25 : Y25) (f29 : Y29) (f45 : Y45) (q14 : Int) (c : List Int → List S51 → Int → Int → List S79 → Option R) (e0 : (List Int × List S51 × Int × Int × List S79 × Int) → Option R) (e1 : (List Int × List S51 × Int × Int × List S79) → Option R) (v15 : List Int) (v16 : List S51) (v17 : Int) (v18 : Int) (v19 : List S79) : Option R :=
  (f29 (⟨v15, v16, v17, v18⟩ : S98)).bind fun r20 =>
  cond (!r20)
  (
    (f25 (⟨v15, v16, v17, v18⟩ : S98)).bind fun r21 =>
    cond (!(r21.toList == (⟨#[125]⟩ : ByteArray).toList))
    (
      (f25 (⟨v15, v16, v17, v18⟩ : S98)).bind fun r22 =>
      cond (!(r22.toList == (⟨#[114, 101, 116, 117, 114, 110]⟩ : ByteArray).toList))
      (
        (f45 q14 (⟨v15, v16, v17, v18⟩ : S98)).bind fun r23 =>
        cond (r23.2.1 != 0)
        (
          e0 (r23.2.2.c0, r23.2.2.c1, r23.2.2.c2, r23.2.2.c3, v19, r23.2.1))
        (
          when_ (decide (v19.length + [(⟨r23.1.c0, r23.1.c1, r23.1.c2, r23.1.c3, r23.1.c4, r23.1.c5, r23.1.c6, r23.1.c7, r23.1.c8, r23.1.c9, r23.1.c10, r23.1.c11, r23.1.c12, r23.1.c13, r23.1.c14, r23.1.c15, r23.1.c16⟩ : S79)].length ≤ 676622540169)) (
            c r23.2.2.c0 r23.2.2.c1 r23.2.2.c2 r23.2.2.c3 (v19 ++ [(⟨r23.1.c0, r23.1.c1, r23.1.c2, r23.1.c3, r23.1.c4, r23.1.c5, r23.1.c6, r23.1.c7, r23.1.c8, r23.1.c9, r23.1.c10, r23.1.c11, r23.1.c12, r23.1.c13, r23.1.c14, r23.1.c15, r23.1.c16⟩ : S79)]))))
      (
        e1 (v15, v16, v17, v18, v19)))
    (
      e1 (v15, v16, v17, v18, v19)))
  (
    e1 (v15, v16, v17, v18, v19))
def lp48_4 (f25 : Y25) (f29 : Y29) (f45 : Y45) : Nat → Z48_4
  | 0 => fun _ _ _ _ _ _ => none
  | n + 1 => fun q14 v15 v16 v17 v18 v19 => lb48_4 f25 f29 f45 q14 (fun v15 v16 v17 v18 v19 => lp48_4 f25 f29 f45 n q14 v15 v16 v17 v18 v19) (fun o => some (Sum.inl o)) (fun o => some (Sum.inr (o))) v15 v16 v17 v18 v19
def b48 {R : Type} (f25 : Y25) (f29 : Y29) (f45 : Y45) (l4 : Z48_4) (p1 : Int) (p0 : S98) (k : (List S79 × Int × S98) → Option R) : Option R :=
  (l4 p1 p0.c0 p0.c1 p0.c2 p0.c3 []).bind (Sum.elim (fun r24_0 =>
    k ([], r24_0.2.2.2.2.2, (⟨r24_0.1, r24_0.2.1, r24_0.2.2.1, r24_0.2.2.2.1⟩ : S98))) (fun r24_1 =>
    k (r24_1.2.2.2.2, 0, (⟨r24_1.1, r24_1.2.1, r24_1.2.2.1, r24_1.2.2.2.1⟩ : S98))))
def b69 {R : Type} (f30 : Y30) (f68 : Y68) (f87 : Y87) (f88 : Y88) (f89 : Y89) (f90 : Y90) (f91 : Y91) (p2 : Int) (p0 : S98) (p1 : S79) (k : (Int × S98 × S79) → Option R) : Option R :=
  (f30 (⟨#[108, 101, 116]⟩ : ByteArray) p0).bind fun r1 =>
  cond r1.1
  (
    (f87 r1.2 (⟨0, p1.c1, p1.c2, p1.c3, p1.c4, p1.c5, p1.c6, p1.c7, p1.c8, p1.c9, p1.c10, p1.c11, p1.c12, p1.c13, p1.c14, p1.c15, p1.c16⟩ : S79)).bind fun r2 =>
    k (r2.1, r2.2.1, (⟨r2.2.2.c0, r2.2.2.c1, r2.2.2.c2, r2.2.2.c3, r2.2.2.c4, r2.2.2.c5, r2.2.2.c6, r2.2.2.c7, r2.2.2.c8, r2.2.2.c9, r2.2.2.c10, r2.2.2.c11, r2.2.2.c12, r2.2.2.c13, r2.2.2.c14, r2.2.2.c15, r2.2.2.c16⟩ : S79)))
  (
    (f30 (⟨#[105, 102]⟩ : ByteArray) r1.2).bind fun r3 =>
    cond r3.1
    (
      (f88 p2 r3.2 (⟨2, p1.c1, p1.c2, p1.c3, p1.c4, p1.c5, p1.c6, p1.c7, p1.c8, p1.c9, p1.c10, p1.c11, p1.c12, p1.c13, p1.c14, p1.c15, p1.c16⟩ : S79)).bind fun r4 =>
      cond (r4.1 == 0)
      (
        (f30 (⟨#[101, 108, 115, 101]⟩ : ByteArray) r4.2.1).bind fun r5 =>
        cond r5.1
        (
          (f89 p2 r5.2).bind fun r6 =>
          k (r6.2.1, r6.2.2, (⟨r4.2.2.c0, r4.2.2.c1, r4.2.2.c2, r4.2.2.c3, r4.2.2.c4, r4.2.2.c5, r4.2.2.c6, r4.2.2.c7, r4.2.2.c8, r4.2.2.c9, r4.2.2.c10, r4.2.2.c11, r4.2.2.c12, r4.2.2.c13, r4.2.2.c14, r4.2.2.c15, r6.1⟩ : S79)))
        (
          k (r4.1, r5.2, (⟨r4.2.2.c0, r4.2.2.c1, r4.2.2.c2, r4.2.2.c3, r4.2.2.c4, r4.2.2.c5, r4.2.2.c6, r4.2.2.c7, r4.2.2.c8, r4.2.2.c9, r4.2.2.c10, r4.2.2.c11, r4.2.2.c12, r4.2.2.c13, r4.2.2.c14, r4.2.2.c15, r4.2.2.c16⟩ : S79))))
      (
        k (r4.1, r4.2.1, (⟨r4.2.2.c0, r4.2.2.c1, r4.2.2.c2, r4.2.2.c3, r4.2.2.c4, r4.2.2.c5, r4.2.2.c6, r4.2.2.c7, r4.2.2.c8, r4.2.2.c9, r4.2.2.c10, r4.2.2.c11, r4.2.2.c12, r4.2.2.c13, r4.2.2.c14, r4.2.2.c15, r4.2.2.c16⟩ : S79))))
    (
      (f30 (⟨#[119, 104, 105, 108, 101]⟩ : ByteArray) r3.2).bind fun r7 =>
      cond r7.1
      (
        (f88 p2 r7.2 (⟨3, p1.c1, p1.c2, p1.c3, p1.c4, p1.c5, p1.c6, p1.c7, p1.c8, p1.c9, p1.c10, p1.c11, p1.c12, p1.c13, p1.c14, p1.c15, p1.c16⟩ : S79)).bind fun r8 =>
        k (r8.1, r8.2.1, (⟨r8.2.2.c0, r8.2.2.c1, r8.2.2.c2, r8.2.2.c3, r8.2.2.c4, r8.2.2.c5, r8.2.2.c6, r8.2.2.c7, r8.2.2.c8, r8.2.2.c9, r8.2.2.c10, r8.2.2.c11, r8.2.2.c12, r8.2.2.c13, r8.2.2.c14, r8.2.2.c15, r8.2.2.c16⟩ : S79)))
      (
        (f30 (⟨#[100, 111]⟩ : ByteArray) r7.2).bind fun r9 =>
        cond r9.1
        (
          (f68 r9.2 p1.c2).bind fun r10 =>
          cond (r10.1 != 0)
          (
            k (r10.1, r10.2.1, (⟨4, p1.c1, r10.2.2, p1.c3, p1.c4, p1.c5, p1.c6, p1.c7, p1.c8, p1.c9, p1.c10, p1.c11, p1.c12, p1.c13, p1.c14, p1.c15, p1.c16⟩ : S79)))
          (
            (f90 [(⟨#[59]⟩ : ByteArray)] r10.2.1).bind fun r11 =>
            k (r11.1, r11.2, (⟨4, p1.c1, r10.2.2, p1.c3, p1.c4, p1.c5, p1.c6, p1.c7, p1.c8, p1.c9, p1.c10, p1.c11, p1.c12, p1.c13, p1.c14, p1.c15, p1.c16⟩ : S79))))
        (
          (f91 r9.2 (⟨p1.c0, p1.c1, p1.c2, p1.c3, p1.c4, p1.c5, p1.c6, p1.c7, p1.c8, p1.c9, p1.c10, p1.c11, p1.c12, p1.c13, p1.c14, p1.c15, p1.c16⟩ : S79)).bind fun r12 =>
          k (r12.1, r12.2.1, (⟨r12.2.2.c0, r12.2.2.c1, r12.2.2.c2, r12.2.2.c3, r12.2.2.c4, r12.2.2.c5, r12.2.2.c6, r12.2.2.c7, r12.2.2.c8, r12.2.2.c9, r12.2.2.c10, r12.2.2.c11, r12.2.2.c12, r12.2.2.c13, r12.2.2.c14, r12.2.2.c15, r12.2.2.c16⟩ : S79))))))
def b88 {R : Type} (f34 : Y34) (f89 : Y89) (f90 : Y90) (p2 : Int) (p0 : S98) (p1 : S79) (k : (Int × S98 × S79) → Option R) : Option R :=
  (f90 [(⟨#[40]⟩ : ByteArray)] p0).bind fun r1 =>
  cond (r1.1 != 0)
  (
    k (r1.1, r1.2, (⟨p1.c0, p1.c1, p1.c2, p1.c3, p1.c4, p1.c5, p1.c6, p1.c7, p1.c8, p1.c9, p1.c10, p1.c11, p1.c12, p1.c13, p1.c14, p1.c15, p1.c16⟩ : S79)))
  (
    (f34 r1.2).bind fun r2 =>
    cond (r2.2.1 != 0)
    (
      k (r2.2.1, r2.2.2, (⟨p1.c0, p1.c1, p1.c2, p1.c3, p1.c4, p1.c5, p1.c6, p1.c7, p1.c8, r2.1.c0, r2.1.c1, r2.1.c2, r2.1.c3, r2.1.c4, r2.1.c5, p1.c15, p1.c16⟩ : S79)))
    (
      (f90 [(⟨#[41]⟩ : ByteArray)] r2.2.2).bind fun r3 =>
      cond (r3.1 != 0)
      (
        k (r3.1, r3.2, (⟨p1.c0, p1.c1, p1.c2, p1.c3, p1.c4, p1.c5, p1.c6, p1.c7, p1.c8, r2.1.c0, r2.1.c1, r2.1.c2, r2.1.c3, r2.1.c4, r2.1.c5, p1.c15, p1.c16⟩ : S79)))
      (
        (f89 p2 r3.2).bind fun r4 =>
        k (r4.2.1, r4.2.2, (⟨p1.c0, p1.c1, p1.c2, p1.c3, p1.c4, p1.c5, p1.c6, p1.c7, p1.c8, r2.1.c0, r2.1.c1, r2.1.c2, r2.1.c3, r2.1.c4, r2.1.c5, r4.1, p1.c16⟩ : S79)))))
def b89 {R : Type} (f25 : Y25) (f48 : Y48) (f90 : Y90) (p1 : Int) (p0 : S98) (k : (List S79 × Int × S98) → Option R) : Option R :=
  (f25 p0).bind fun r1 =>
  cond (r1.toList == (⟨#[123]⟩ : ByteArray).toList)
  (
    cond (decide (p1 ≥ 32))
    (
      k ([], 12, p0))
    (
      (f90 [(⟨#[123]⟩ : ByteArray)] p0).bind fun r2 =>
      cond (r2.1 != 0)
      (
        k ([], r2.1, r2.2))
      (
        (f48 (w64 (p1 + 1)) r2.2).bind fun r3 =>
        cond (r3.2.1 == 0)
        (
          (f90 [(⟨#[125]⟩ : ByteArray)] r3.2.2).bind fun r4 =>
          cond (r4.1 != 0)
          (
            k ([], r4.1, r4.2))
          (
            k (r3.1, 0, r4.2)))
        (
          cond (r3.2.1 != 0)
          (
            k ([], r3.2.1, r3.2.2))
          (
            k (r3.1, 0, r3.2.2))))))
  (
    (f90 [(⟨#[123]⟩ : ByteArray)] p0).bind fun r5 =>
    cond (r5.1 != 0)
    (
      k ([], r5.1, r5.2))
    (
      (f48 (w64 (p1 + 1)) r5.2).bind fun r6 =>
      cond (r6.2.1 == 0)
      (
        (f90 [(⟨#[125]⟩ : ByteArray)] r6.2.2).bind fun r7 =>
        cond (r7.1 != 0)
        (
          k ([], r7.1, r7.2))
        (
          k (r6.1, 0, r7.2)))
      (
        cond (r6.2.1 != 0)
        (
          k ([], r6.2.1, r6.2.2))
        (
          k (r6.1, 0, r6.2.2)))))
structure G45 where
  f45 : Y45
  f48 : Y48
  f69 : Y69
  f88 : Y88
  f89 : Y89
def g45 : Nat → G45
  | 0 => ⟨fun _ _ => none, fun _ _ => none, fun _ _ _ => none, fun _ _ _ => none, fun _ _ => none⟩
  | n + 1 => ⟨(fun p1 p0 => b45 s26 (g45 n).f69 p1 p0 some),
    (fun p1 p0 => b48 s25 s29 (g45 n).f45 (lp48_4 s25 s29 (g45 n).f45 big) p1 p0 some),
    (fun p2 p0 p1 => b69 s30 s68 s87 (g45 n).f88 (g45 n).f89 s90 s91 p2 p0 p1 some),
    (fun p2 p0 p1 => b88 s34 (g45 n).f89 s90 p2 p0 p1 some),
    (fun p1 p0 => b89 s25 (g45 n).f48 s90 p1 p0 some)⟩
def s45 : Y45 := (g45 big).f45
def s48 : Y48 := (g45 big).f48
def s69 : Y69 := (g45 big).f69
def s88 : Y88 := (g45 big).f88
def s89 : Y89 := (g45 big).f89
abbrev Y75 : Type := S51 → Option Bool
def b75 {R : Type} (p0 : S51) (k : Bool → Option R) : Option R :=
  k (p0.c0 == 5)
def s75 : Y75 := (fun p0 => b75 p0 some)
abbrev Y74_75 : Type := (List S51) → Option Int
abbrev Z74_75_2 : Type := Int → List S51 → Int → Option ((Int × Int) ⊕ Int)
def lb74_75_2 {R : Type} (f75 : Y75) (q6 : Int) (q5 : List S51) (c : Int → Option R) (e0 : (Int × Int) → Option R) (e1 : Int → Option R) (v7 : Int) : Option R :=
  cond (decide (v7 < q6))
  (
    when_ (decide (0 ≤ v7) && decide (v7 < (q5.length : Int))) (
      (f75 (q5.getD v7.toNat z51)).bind fun r8 =>
      cond r8
      (
        e0 (v7, v7))
      (
        c (w64 (v7 + 1)))))
  (
    e1 v7)
def lp74_75_2 (f75 : Y75) : Nat → Z74_75_2
  | 0 => fun _ _ _ => none
  | n + 1 => fun q6 q5 v7 => lb74_75_2 f75 q6 q5 (fun v7 => lp74_75_2 f75 n q6 q5 v7) (fun o => some (Sum.inl o)) (fun o => some (Sum.inr (o))) v7
def b74_75 {R : Type} (f75 : Y75) (l2 : Z74_75_2) (p0 : (List S51)) (k : Int → Option R) : Option R :=
  (l2 (p0.length : Int) p0 0).bind (Sum.elim (fun r9_0 =>
    k r9_0.2) (fun r9_1 =>
    k (-1)))
def s74_75 : Y74_75 := (fun p0 => b74_75 s75 (lp74_75_2 s75 big) p0 some)
abbrev Y49 : Type := (List S51) → Option (S51 × Bool)
def b49 {R : Type} (f74_75 : Y74_75) (p0 : (List S51)) (k : (S51 × Bool) → Option R) : Option R :=
  (f74_75 p0).bind fun r1 =>
  cond (decide (r1 < 0))
  (
    k ((⟨0, 0, 0⟩ : S51), false))
  (
    when_ (decide (0 ≤ r1) && decide (r1 < (p0.length : Int))) (
      k (p0.getD r1.toNat z51, true)))
def s49 : Y49 := (fun p0 => b49 s74_75 p0 some)
abbrev Y38 : Type := (List Int) → Option (List S79 × Int × Int)
def b38 {R : Type} (f22 : Y22) (f26 : Y26) (f29 : Y29) (f48 : Y48) (f49 : Y49) (f50 : Y50) (p0 : (List Int)) (k : (List S79 × Int × Int) → Option R) : Option R :=
  (f50 p0).bind fun r1 =>
  (f49 r1).bind fun r2 =>
  cond r2.2
  (
    k ([], r2.1.c1, 10))
  (
    (f22 p0).bind fun r3 =>
    (f48 0 r3).bind fun r4 =>
    cond (r4.2.1 == 0)
    (
      (f29 r4.2.2).bind fun r5 =>
      cond (!r5)
      (
        (f26 r4.2.2).bind fun r6 =>
        k ([], r6, 11))
      (
        cond (r4.2.1 != 0)
        (
          (f26 r4.2.2).bind fun r7 =>
          k ([], r7, r4.2.1))
        (
          k (r4.1, (p0.length : Int), 0))))
    (
      cond (r4.2.1 != 0)
      (
        (f26 r4.2.2).bind fun r8 =>
        k ([], r8, r4.2.1))
      (
        k (r4.1, (p0.length : Int), 0))))
def s38 : Y38 := (fun p0 => b38 s22 s26 s29 s48 s49 s50 p0 some)
abbrev Y37 : Type := Option Bool
def b37 {R : Type} (f38 : Y38) (k : Bool → Option R) : Option R :=
  (f38 [108, 101, 116, 32, 120, 58, 32, 105, 110, 116, 32, 64, 108, 111, 119, 32, 61, 32, 49, 59]).bind fun r1 =>
  cond ((r1.1.length : Int) == 1)
  (
    cond (r1.2.1 == 20)
    (
      cond (r1.2.2 == 0)
      (
        when_ (decide (0 ≤ 0) && decide (0 < (r1.1.length : Int))) (
          cond ((r1.1.getD 0 z79).c0 == 0)
          (
            when_ (decide (0 ≤ 0) && decide (0 < (r1.1.length : Int))) (
              cond ((r1.1.getD 0 z79).c4)
              (
                when_ (decide (0 ≤ 0) && decide (0 < (r1.1.length : Int))) (
                  cond ((r1.1.getD 0 z79).c7 == 12)
                  (
                    when_ (decide (0 ≤ 0) && decide (0 < (r1.1.length : Int))) (
                      cond ((r1.1.getD 0 z79).c8 == 15)
                      (
                        when_ (decide (0 ≤ 0) && decide (0 < (r1.1.length : Int))) (
                          k ((r1.1.getD 0 z79).c11 == 1)))
                      (
                        k false)))
                  (
                    k false)))
              (
                k false)))
          (
            k false)))
      (
        k false))
    (
      k false))
  (
    k false)
def s37 : Y37 := (b37 s38 some)
abbrev Y16 : Type := S27 → S27 → Option Bool
abbrev Y52 : Type := (List S27) → (List S27) → Option Bool
def b16 {R : Type} (f52 : Y52) (p0 : S27) (p1 : S27) (k : Bool → Option R) : Option R :=
  cond (p0.c0 != p1.c0)
  (
    k false)
  (
    cond (p0.c1 != p1.c1)
    (
      k false)
    (
      cond (p0.c2 != p1.c2)
      (
        k false)
      (
        cond (!(p0.c3.toList == p1.c3.toList))
        (
          k false)
        (
          cond (!(p0.c4.toList == p1.c4.toList))
          (
            k false)
          (
            (f52 p0.c5 p1.c5).bind fun r1 =>
            k r1)))))
abbrev Z52_4 : Type := List S27 → List S27 → Int → Option ((Int × Bool) ⊕ Int)
def lb52_4 {R : Type} (f16 : Y16) (q5 : List S27) (q6 : List S27) (c : Int → Option R) (e0 : (Int × Bool) → Option R) (e1 : Int → Option R) (v7 : Int) : Option R :=
  cond (decide (v7 < (q5.length : Int)))
  (
    when_ (decide (0 ≤ v7) && decide (v7 < (q5.length : Int))) (
      when_ (decide (0 ≤ v7) && decide (v7 < (q6.length : Int))) (
        (f16 (⟨(q5.getD v7.toNat z27).c0, (q5.getD v7.toNat z27).c1, (q5.getD v7.toNat z27).c2, (q5.getD v7.toNat z27).c3, (q5.getD v7.toNat z27).c4, (q5.getD v7.toNat z27).c5⟩ : S27) (⟨(q6.getD v7.toNat z27).c0, (q6.getD v7.toNat z27).c1, (q6.getD v7.toNat z27).c2, (q6.getD v7.toNat z27).c3, (q6.getD v7.toNat z27).c4, (q6.getD v7.toNat z27).c5⟩ : S27)).bind fun r8 =>
        cond (!r8)
        (
          e0 (v7, false))
        (
          c (w64 (v7 + 1))))))
  (
    e1 v7)
def lp52_4 (f16 : Y16) : Nat → Z52_4
  | 0 => fun _ _ _ => none
  | n + 1 => fun q5 q6 v7 => lb52_4 f16 q5 q6 (fun v7 => lp52_4 f16 n q5 q6 v7) (fun o => some (Sum.inl o)) (fun o => some (Sum.inr (o))) v7
def b52 {R : Type} (f16 : Y16) (l4 : Z52_4) (p0 : (List S27)) (p1 : (List S27)) (k : Bool → Option R) : Option R :=
  cond ((p0.length : Int) != (p1.length : Int))
  (
    k false)
  (
    (l4 p0 p1 0).bind (Sum.elim (fun r9_0 =>
      k r9_0.2) (fun r9_1 =>
      k true)))
structure G16 where
  f16 : Y16
  f52 : Y52
def g16 : Nat → G16
  | 0 => ⟨fun _ _ => none, fun _ _ => none⟩
  | n + 1 => ⟨(fun p0 p1 => b16 (g16 n).f52 p0 p1 some),
    (fun p0 p1 => b52 (g16 n).f16 (lp52_4 (g16 n).f16 big) p0 p1 some)⟩
def s16 : Y16 := (g16 big).f16
def s52 : Y52 := (g16 big).f52
abbrev Y40 : Type := (List S79) → (List S79) → Option Bool
abbrev Z40_4 : Type := List S79 → List S79 → Int → Option ((Int × Bool) ⊕ Int)
def lb40_4 {R : Type} (f16 : Y16) (f40 : Y40) (q7 : List S79) (q8 : List S79) (c : Int → Option R) (e0 : (Int × Bool) → Option R) (e1 : Int → Option R) (v9 : Int) : Option R :=
  cond (decide (v9 < (q7.length : Int)))
  (
    when_ (decide (0 ≤ v9) && decide (v9 < (q7.length : Int))) (
      when_ (decide (0 ≤ v9) && decide (v9 < (q8.length : Int))) (
        cond ((q7.getD v9.toNat z79).c0 != (q8.getD v9.toNat z79).c0)
        (
          e0 (v9, false))
        (
          cond ((q7.getD v9.toNat z79).c1 != (q8.getD v9.toNat z79).c1)
          (
            e0 (v9, false))
          (
            cond (!(((q7.getD v9.toNat z79).c2).toList == ((q8.getD v9.toNat z79).c2).toList))
            (
              e0 (v9, false))
            (
              cond ((q7.getD v9.toNat z79).c3 != (q8.getD v9.toNat z79).c3)
              (
                e0 (v9, false))
              (
                cond (!(((q7.getD v9.toNat z79).c4 == (q8.getD v9.toNat z79).c4) && (((q7.getD v9.toNat z79).c5 == (q8.getD v9.toNat z79).c5) && ((((q7.getD v9.toNat z79).c6).toList == ((q8.getD v9.toNat z79).c6).toList) && (((q7.getD v9.toNat z79).c7 == (q8.getD v9.toNat z79).c7) && (((q7.getD v9.toNat z79).c8 == (q8.getD v9.toNat z79).c8) && true))))))
                (
                  e0 (v9, false))
                (
                  (f16 (⟨(q7.getD v9.toNat z79).c9, (q7.getD v9.toNat z79).c10, (q7.getD v9.toNat z79).c11, (q7.getD v9.toNat z79).c12, (q7.getD v9.toNat z79).c13, (q7.getD v9.toNat z79).c14⟩ : S27) (⟨(q8.getD v9.toNat z79).c9, (q8.getD v9.toNat z79).c10, (q8.getD v9.toNat z79).c11, (q8.getD v9.toNat z79).c12, (q8.getD v9.toNat z79).c13, (q8.getD v9.toNat z79).c14⟩ : S27)).bind fun r10 =>
                  cond (!r10)
                  (
                    e0 (v9, false))
                  (
                    (f40 ((q7.getD v9.toNat z79).c15) ((q8.getD v9.toNat z79).c15)).bind fun r11 =>
                    cond (!r11)
                    (
                      e0 (v9, false))
                    (
                      (f40 ((q7.getD v9.toNat z79).c16) ((q8.getD v9.toNat z79).c16)).bind fun r12 =>
                      cond (!r12)
                      (
                        e0 (v9, false))
                      (
                        c (w64 (v9 + 1)))))))))))))
  (
    e1 v9)
def lp40_4 (f16 : Y16) (f40 : Y40) : Nat → Z40_4
  | 0 => fun _ _ _ => none
  | n + 1 => fun q7 q8 v9 => lb40_4 f16 f40 q7 q8 (fun v9 => lp40_4 f16 f40 n q7 q8 v9) (fun o => some (Sum.inl o)) (fun o => some (Sum.inr (o))) v9
def b40 {R : Type} (f16 : Y16) (f40 : Y40) (l4 : Z40_4) (p0 : (List S79)) (p1 : (List S79)) (k : Bool → Option R) : Option R :=
  cond ((p0.length : Int) != (p1.length : Int))
  (
    k false)
  (
    (l4 p0 p1 0).bind (Sum.elim (fun r13_0 =>
      k r13_0.2) (fun r13_1 =>
      k true)))
structure G40 where
  f40 : Y40
def g40 : Nat → G40
  | 0 => ⟨fun _ _ => none⟩
  | n + 1 => ⟨(fun p0 p1 => b40 s16 (g40 n).f40 (lp40_4 s16 (g40 n).f40 big) p0 p1 some)⟩
def s40 : Y40 := (g40 big).f40
abbrev Y47 : Type := (List S79) → Option Int
abbrev Z47_3 : Type := List S79 → Int → Int → Option (Int × Int)
def lb47_3 {R : Type} (f47 : Y47) (q8 : List S79) (c : Int → Int → Option R) (e0 : (Int × Int) → Option R) (v9 : Int) (v10 : Int) : Option R :=
  cond (decide (v10 < (q8.length : Int)))
  (
    when_ (decide (0 ≤ v10) && decide (v10 < (q8.length : Int))) (
      cond ((q8.getD v10.toNat z79).c0 == 2)
      (
        when_ (decide (0 ≤ v10) && decide (v10 < (q8.length : Int))) (
          (f47 ((q8.getD v10.toNat z79).c15)).bind fun r13 =>
          when_ (decide (0 ≤ v10) && decide (v10 < (q8.length : Int))) (
            (f47 ((q8.getD v10.toNat z79).c16)).bind fun r14 =>
            c (if (w64 (1 + r14)) > (if (w64 (1 + r13)) > v9 then (w64 (1 + r13)) else v9) then (w64 (1 + r14)) else (if (w64 (1 + r13)) > v9 then (w64 (1 + r13)) else v9)) (w64 (v10 + 1)))))
      (
        when_ (decide (0 ≤ v10) && decide (v10 < (q8.length : Int))) (
          cond ((q8.getD v10.toNat z79).c0 == 3)
          (
            when_ (decide (0 ≤ v10) && decide (v10 < (q8.length : Int))) (
              (f47 ((q8.getD v10.toNat z79).c15)).bind fun r11 =>
              when_ (decide (0 ≤ v10) && decide (v10 < (q8.length : Int))) (
                (f47 ((q8.getD v10.toNat z79).c16)).bind fun r12 =>
                c (if (w64 (1 + r12)) > (if (w64 (1 + r11)) > v9 then (w64 (1 + r11)) else v9) then (w64 (1 + r12)) else (if (w64 (1 + r11)) > v9 then (w64 (1 + r11)) else v9)) (w64 (v10 + 1)))))
          (
            c v9 (w64 (v10 + 1)))))))
  (
    e0 (v9, v10))
def lp47_3 (f47 : Y47) : Nat → Z47_3
  | 0 => fun _ _ _ => none
  | n + 1 => fun q8 v9 v10 => lb47_3 f47 q8 (fun v9 v10 => lp47_3 f47 n q8 v9 v10) (fun o => some o) v9 v10
def b47 {R : Type} (f47 : Y47) (l3 : Z47_3) (p0 : (List S79)) (k : Int → Option R) : Option R :=
  (l3 p0 0 0).bind fun r15_0 =>
  k r15_0.1
structure G47 where
  f47 : Y47
def g47 : Nat → G47
  | 0 => ⟨fun _ => none⟩
  | n + 1 => ⟨(fun p0 => b47 (g47 n).f47 (lp47_3 (g47 n).f47 big) p0 some)⟩
def s47 : Y47 := (g47 big).f47
abbrev Y10 : Type := (List Int) → (List Int) → Option Bool
def b10 {R : Type} (f37 : Y37) (f38 : Y38) (f40 : Y40) (f47 : Y47) (p0 : (List Int)) (p1 : (List Int)) (k : Bool → Option R) : Option R :=
  cond (decide ((p0.length : Int) > 700))
  (
    (f37).bind fun r10 =>
    k r10)
  (
    cond (decide ((p1.length : Int) > 700))
    (
      (f37).bind fun r1 =>
      k r1)
    (
      (f38 p0).bind fun r2 =>
      (f38 p1).bind fun r3 =>
      (f47 r2.1).bind fun r4 =>
      cond (decide (r4 > 32))
      (
        k false)
      (
        cond (r2.2.2 != 0)
        (
          (f37).bind fun r9 =>
          k r9)
        (
          cond (r3.2.2 != 0)
          (
            (f37).bind fun r5 =>
            k r5)
          (
            when_ (decide (([] : List Int).length + p0.length ≤ 140737488355328)) (
              when_ (decide (([] ++ p0).length + [10].length ≤ 140737488355328)) (
                when_ (decide ((([] ++ p0) ++ [10]).length + p1.length ≤ 140737488355328)) (
                  (f38 ((([] ++ p0) ++ [10]) ++ p1)).bind fun r6 =>
                  cond (r6.2.2 == 0)
                  (
                    cond (r6.2.1 == (w64 ((w64 ((p0.length : Int) + 1)) + (p1.length : Int))))
                    (
                      cond ((r6.1.length : Int) == (w64 ((r2.1.length : Int) + (r3.1.length : Int))))
                      (
                        when_ (decide ((0 : Int) ≤ (r2.1.length : Int)) && decide ((r2.1.length : Int) ≤ (r6.1.length : Int)) && (decide ((0 : Int) ≤ 0) && decide (0 ≤ (r2.1.length : Int)))) (
                          (f40 ((r6.1.take (r2.1.length : Int).toNat).drop 0) r2.1).bind fun r7 =>
                          cond r7
                          (
                            (f37).bind fun r8 =>
                            k r8)
                          (
                            k false)))
                      (
                        k false))
                    (
                      k false))
                  (
                    k false)))))))))
def s10 : Y10 := (fun p0 p1 => b10 s37 s38 s40 s47 p0 p1 some)
end Go.Proofs.Ytogfofcocidmkaa.Ev
