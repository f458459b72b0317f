/- EV (ours): the functions as plain Lean; printed by gen.py -/
import Derived.Test.YtogfofcocidmkaaEvUt
import Derived.Lib.Bytealg
set_option linter.unusedVariables false
set_option linter.unusedSimpArgs false
namespace Go.Proofs.Ytogfofcocidmkaa.Ev
open Go.RowKit Go.Proofs
def big : Nat := 9223372036854775807
abbrev w64 (x : Int) : Int := IntKind.wrap .i64 x
abbrev w8 (x : Int) : Int := IntKind.wrap .u8 x
abbrev Y56 : Type := List Int → Option (List Int)
abbrev Y107 : Type := ByteArray → Int → Option Int
def s56 : Y56 := fun p0 => when_ (decide (([] : List Int).length + p0.length ≤ 140737488355328)) (some p0)
def s107 : Y107 := fun p0 p1 => some (Lib.indexByte p0.data.toList p1.toNat.toUInt8)
abbrev Y13 : Type := List Int → Option (List Int)
def s13 : Y13 := fun p0 => when_ (decide (p0.length + 3 ≤ 140737488355328)) (some p0)
abbrev Y53 : Type := (List Int) → (List Int) → Option Bool
abbrev Z53_4 : Type := List Int → List Int → Int → Option ((Int × Bool) ⊕ Int)
def lb53_4 {R : Type} (q4 : List Int) (q5 : List Int) (c : Int → Option R) (e0 : (Int × Bool) → Option R) (e1 : Int → Option R) (v6 : Int) : Option R :=
  cond (decide (v6 < (q4.length : Int)))
  (
    when_ (decide (0 ≤ v6) && decide (v6 < (q4.length : Int))) (
      when_ (decide (0 ≤ v6) && decide (v6 < (q5.length : Int))) (
        cond ((q4.getD v6.toNat 0) != (q5.getD v6.toNat 0))
        (
          e0 (v6, false))
        (
          c (w64 (v6 + 1))))))
  (
    e1 v6)
def lp53_4 : Nat → Z53_4
  | 0 => fun _ _ _ => none
  | n + 1 => fun q4 q5 v6 => lb53_4 q4 q5 (fun v6 => lp53_4 n q4 q5 v6) (fun o => some (Sum.inl o)) (fun o => some (Sum.inr (o))) v6
def b53 {R : Type} (l4 : Z53_4) (p0 : (List Int)) (p1 : (List Int)) (k : Bool → Option R) : Option R :=
  cond ((p0.length : Int) != (p1.length : Int))
  (
    k false)
  (
    (l4 p0 p1 0).bind (Sum.elim (fun r7_0 =>
      k r7_0.2) (fun r7_1 =>
      k true)))
def s53 : Y53 := (fun p0 p1 => b53 (lp53_4 big) p0 p1 some)
abbrev Y19 : Type := (List Int) → (List Int) → (List Int) → Option Bool
def b19 {R : Type} (f53 : Y53) (p0 : (List Int)) (p1 : (List Int)) (p90 : (List Int)) (k : Bool → Option R) : Option R :=
  when_ (decide (0 ≤ (w64 ((p1.length : Int) + 3))) && decide ((w64 ((p1.length : Int) + 3)) ≤ ((p0.length + p90.length : Nat) : Int))) (
    when_ (decide ((0 : Int) ≤ (p1.length : Int)) && decide ((p1.length : Int) ≤ (((p0 ++ p90).take (w64 ((p1.length : Int) + 3)).toNat).length : Int)) && (decide ((0 : Int) ≤ 0) && decide (0 ≤ (p1.length : Int)))) (
      (f53 ((((p0 ++ p90).take (w64 ((p1.length : Int) + 3)).toNat).take (p1.length : Int).toNat).drop 0) p1).bind fun r1 =>
      cond r1
      (
        when_ (decide (0 ≤ (p1.length : Int)) && decide ((p1.length : Int) < (((p0 ++ p90).take (w64 ((p1.length : Int) + 3)).toNat).length : Int))) (
          cond ((((p0 ++ p90).take (w64 ((p1.length : Int) + 3)).toNat).getD (p1.length : Int).toNat 0) == 77)
          (
            when_ (decide (0 ≤ (w64 ((p1.length : Int) + 1))) && decide ((w64 ((p1.length : Int) + 1)) < (((p0 ++ p90).take (w64 ((p1.length : Int) + 3)).toNat).length : Int))) (
              cond ((((p0 ++ p90).take (w64 ((p1.length : Int) + 3)).toNat).getD (w64 ((p1.length : Int) + 1)).toNat 0) == 78)
              (
                when_ (decide (0 ≤ (w64 ((p1.length : Int) + 2))) && decide ((w64 ((p1.length : Int) + 2)) < (((p0 ++ p90).take (w64 ((p1.length : Int) + 3)).toNat).length : Int))) (
                  k ((((p0 ++ p90).take (w64 ((p1.length : Int) + 3)).toNat).getD (w64 ((p1.length : Int) + 2)).toNat 0) == 79)))
              (
                k false)))
          (
            k false)))
      (
        k false)))
def s19 : Y19 := (fun p0 p1 p90 => b19 s53 p0 p1 p90 some)
abbrev Y79 : Type := Int → Option Bool
def b79 {R : Type} (p0 : Int) (k : Bool → Option R) : Option R :=
  cond (decide ((bits .or .u8 p0 32) ≥ 97))
  (
    cond (decide ((bits .or .u8 p0 32) ≤ 122))
    (
      k true)
    (
      k (p0 == 95)))
  (
    k (p0 == 95))
def s79 : Y79 := (fun p0 => b79 p0 some)
abbrev Y82 : Type := Int → Option Bool
def b82 {R : Type} (p0 : Int) (k : Bool → Option R) : Option R :=
  cond (decide (p0 ≥ 48))
  (
    k (decide (p0 ≤ 57)))
  (
    k false)
def s82 : Y82 := (fun p0 => b82 p0 some)
abbrev Y80_82 : Type := (List Int) → Option Int
abbrev Z80_82_2 : Type := List Int → Int → Option Int
def lb80_82_2 {R : Type} (f82 : Y82) (q4 : List Int) (c : Int → Option R) (e0 : Int → Option R) (v5 : Int) : Option R :=
  cond (decide (v5 < (q4.length : Int)))
  (
    when_ (decide (0 ≤ v5) && decide (v5 < (q4.length : Int))) (
      (f82 (q4.getD v5.toNat 0)).bind fun r6 =>
      cond r6
      (
        c (w64 (v5 + 1)))
      (
        e0 v5)))
  (
    e0 v5)
def lp80_82_2 (f82 : Y82) : Nat → Z80_82_2
  | 0 => fun _ _ => none
  | n + 1 => fun q4 v5 => lb80_82_2 f82 q4 (fun v5 => lp80_82_2 f82 n q4 v5) (fun o => some o) v5
def b80_82 {R : Type} (f82 : Y82) (l2 : Z80_82_2) (p0 : (List Int)) (k : Int → Option R) : Option R :=
  (l2 p0 0).bind fun r7_0 =>
  k r7_0
def s80_82 : Y80_82 := (fun p0 => b80_82 s82 (lp80_82_2 s82 big) p0 some)
abbrev Y93 : Type := Int → Option Bool
def b93 {R : Type} (p0 : Int) (k : Bool → Option R) : Option R :=
  cond (p0 == 32)
  (
    k true)
  (
    cond (p0 == 9)
    (
      k true)
    (
      cond (p0 == 10)
      (
        k true)
      (
        k (p0 == 13))))
def s93 : Y93 := (fun p0 => b93 p0 some)
abbrev Y80_93 : Type := (List Int) → Option Int
abbrev Z80_93_2 : Type := List Int → Int → Option Int
def lb80_93_2 {R : Type} (f93 : Y93) (q4 : List Int) (c : Int → Option R) (e0 : Int → Option R) (v5 : Int) : Option R :=
  cond (decide (v5 < (q4.length : Int)))
  (
    when_ (decide (0 ≤ v5) && decide (v5 < (q4.length : Int))) (
      (f93 (q4.getD v5.toNat 0)).bind fun r6 =>
      cond r6
      (
        c (w64 (v5 + 1)))
      (
        e0 v5)))
  (
    e0 v5)
def lp80_93_2 (f93 : Y93) : Nat → Z80_93_2
  | 0 => fun _ _ => none
  | n + 1 => fun q4 v5 => lb80_93_2 f93 q4 (fun v5 => lp80_93_2 f93 n q4 v5) (fun o => some o) v5
def b80_93 {R : Type} (f93 : Y93) (l2 : Z80_93_2) (p0 : (List Int)) (k : Int → Option R) : Option R :=
  (l2 p0 0).bind fun r7_0 =>
  k r7_0
def s80_93 : Y80_93 := (fun p0 => b80_93 s93 (lp80_93_2 s93 big) p0 some)
abbrev Y94 : Type := Int → Option Bool
def b94 {R : Type} (p0 : Int) (k : Bool → Option R) : Option R :=
  k (p0 != 10)
def s94 : Y94 := (fun p0 => b94 p0 some)
abbrev Y80_94 : Type := (List Int) → Option Int
abbrev Z80_94_2 : Type := List Int → Int → Option Int
def lb80_94_2 {R : Type} (f94 : Y94) (q4 : List Int) (c : Int → Option R) (e0 : Int → Option R) (v5 : Int) : Option R :=
  cond (decide (v5 < (q4.length : Int)))
  (
    when_ (decide (0 ≤ v5) && decide (v5 < (q4.length : Int))) (
      (f94 (q4.getD v5.toNat 0)).bind fun r6 =>
      cond r6
      (
        c (w64 (v5 + 1)))
      (
        e0 v5)))
  (
    e0 v5)
def lp80_94_2 (f94 : Y94) : Nat → Z80_94_2
  | 0 => fun _ _ => none
  | n + 1 => fun q4 v5 => lb80_94_2 f94 q4 (fun v5 => lp80_94_2 f94 n q4 v5) (fun o => some o) v5
def b80_94 {R : Type} (f94 : Y94) (l2 : Z80_94_2) (p0 : (List Int)) (k : Int → Option R) : Option R :=
  (l2 p0 0).bind fun r7_0 =>
  k r7_0
def s80_94 : Y80_94 := (fun p0 => b80_94 s94 (lp80_94_2 s94 big) p0 some)
abbrev Y95 : Type := Int → Option Bool
def b95 {R : Type} (f79 : Y79) (f82 : Y82) (p0 : Int) (k : Bool → Option R) : Option R :=
  (f79 p0).bind fun r1 =>
  cond r1
  (
    k true)
  (
    (f82 p0).bind fun r2 =>
    k r2)
def s95 : Y95 := (fun p0 => b95 s79 s82 p0 some)
abbrev Y80_95 : Type := (List Int) → Option Int
abbrev Z80_95_2 : Type := List Int → Int → Option Int
def lb80_95_2 {R : Type} (f95 : Y95) (q4 : List Int) (c : Int → Option R) (e0 : Int → Option R) (v5 : Int) : Option R :=
  cond (decide (v5 < (q4.length : Int)))
  (
    when_ (decide (0 ≤ v5) && decide (v5 < (q4.length : Int))) (
      (f95 (q4.getD v5.toNat 0)).bind fun r6 =>
      cond r6
      (
        c (w64 (v5 + 1)))
      (
        e0 v5)))
  (
    e0 v5)
def lp80_95_2 (f95 : Y95) : Nat → Z80_95_2
  | 0 => fun _ _ => none
  | n + 1 => fun q4 v5 => lb80_95_2 f95 q4 (fun v5 => lp80_95_2 f95 n q4 v5) (fun o => some o) v5
def b80_95 {R : Type} (f95 : Y95) (l2 : Z80_95_2) (p0 : (List Int)) (k : Int → Option R) : Option R :=
  (l2 p0 0).bind fun r7_0 =>
  k r7_0
def s80_95 : Y80_95 := (fun p0 => b80_95 s95 (lp80_95_2 s95 big) p0 some)
abbrev Y106 : Type := (List ByteArray) → ByteArray → Option Int
abbrev Z106_2 : Type := Int → List ByteArray → ByteArray → Int → Option ((Int × Int) ⊕ Int)
def lb106_2 {R : Type} (q7 : Int) (q5 : List ByteArray) (q6 : ByteArray) (c : Int → Option R) (e0 : (Int × Int) → Option R) (e1 : Int → Option R) (v8 : Int) : Option R :=
  cond (decide (v8 < q7))
  (
    when_ (decide (0 ≤ v8) && decide (v8 < (q5.length : Int))) (
      cond (q6.toList == (q5.getD v8.toNat (⟨#[]⟩ : ByteArray)).toList)
      (
        e0 (v8, v8))
      (
        c (w64 (v8 + 1)))))
  (
    e1 v8)
def lp106_2 : Nat → Z106_2
  | 0 => fun _ _ _ _ => none
  | n + 1 => fun q7 q5 q6 v8 => lb106_2 q7 q5 q6 (fun v8 => lp106_2 n q7 q5 q6 v8) (fun o => some (Sum.inl o)) (fun o => some (Sum.inr (o))) v8
def b106 {R : Type} (l2 : Z106_2) (p0 : (List ByteArray)) (p1 : ByteArray) (k : Int → Option R) : Option R :=
  (l2 (p0.length : Int) p0 p1 0).bind (Sum.elim (fun r9_0 =>
    k r9_0.2) (fun r9_1 =>
    k (-1)))
def s106 : Y106 := (fun p0 p1 => b106 (lp106_2 big) p0 p1 some)
abbrev Y96 : Type := (List ByteArray) → ByteArray → Option Bool
def b96 {R : Type} (f106 : Y106) (p0 : (List ByteArray)) (p1 : ByteArray) (k : Bool → Option R) : Option R :=
  (f106 p0 p1).bind fun r1 =>
  k (decide (r1 ≥ 0))
def s96 : Y96 := (fun p0 p1 => b96 s106 p0 p1 some)
abbrev Y97 : Type := ByteArray → Int → Option Int
def b97 {R : Type} (f107 : Y107) (p0 : ByteArray) (p1 : Int) (k : Int → Option R) : Option R :=
  (f107 p0 p1).bind fun r1 =>
  k r1
def s97 : Y97 := (fun p0 p1 => b97 s107 p0 p1 some)
abbrev Y76 : Type := (List Int) → Option (Int × Int)
def b76 {R : Type} (f79 : Y79) (f80_82 : Y80_82) (f80_93 : Y80_93) (f80_94 : Y80_94) (f80_95 : Y80_95) (f82 : Y82) (f93 : Y93) (f96 : Y96) (f97 : Y97) (p0 : (List Int)) (k : (Int × Int) → Option R) : Option R :=
  when_ (decide (0 ≤ 0) && decide (0 < (p0.length : Int))) (
    (f93 (p0.getD 0 0)).bind fun r1 =>
    cond r1
    (
      (f80_93 p0).bind fun r2 =>
      k (0, r2))
    (
      cond ((p0.getD 0 0) == 35)
      (
        (f80_94 p0).bind fun r3 =>
        k (1, r3))
      (
        (f79 (p0.getD 0 0)).bind fun r4 =>
        cond r4
        (
          (f80_95 p0).bind fun r5 =>
          k (2, r5))
        (
          (f82 (p0.getD 0 0)).bind fun r6 =>
          cond r6
          (
            (f80_82 p0).bind fun r7 =>
            k (3, r7))
          (
            cond (decide ((p0.length : Int) > 1))
            (
              when_ (decide ((0 : Int) ≤ 2) && decide (2 ≤ (p0.length : Int)) && (decide ((0 : Int) ≤ 0) && decide (0 ≤ 2))) (
                (f96 [(⟨#[61, 61]⟩ : ByteArray), (⟨#[38, 38]⟩ : ByteArray), (⟨#[124, 124]⟩ : ByteArray), (⟨#[64, 61]⟩ : ByteArray)] (strOf ((p0.take 2).drop 0))).bind fun r8 =>
                cond r8
                (
                  k (4, 2))
                (
                  when_ (decide (0 ≤ 0) && decide (0 < (p0.length : Int))) (
                    (f97 (⟨#[40, 41, 123, 125, 44, 59, 58, 46, 60, 43, 45, 42, 33, 61, 64, 47]⟩ : ByteArray) (p0.getD 0 0)).bind fun r9 =>
                    cond (decide (r9 ≥ 0))
                    (
                      k (4, 1))
                    (
                      k (5, 1))))))
            (
              when_ (decide (0 ≤ 0) && decide (0 < (p0.length : Int))) (
                (f97 (⟨#[40, 41, 123, 125, 44, 59, 58, 46, 60, 43, 45, 42, 33, 61, 64, 47]⟩ : ByteArray) (p0.getD 0 0)).bind fun r10 =>
                cond (decide (r10 ≥ 0))
                (
                  k (4, 1))
                (
                  k (5, 1)))))))))
def s76 : Y76 := (fun p0 => b76 s79 s80_82 s80_93 s80_94 s80_95 s82 s93 s96 s97 p0 some)
abbrev Y50 : Type := (List Int) → Option (List S51)
abbrev Z50_3 : Type := List Int → Int → List S51 → Option (Int × List S51)
def lb50_3 {R : Type} (f76 : Y76) (q8 : List Int) (c : Int → List S51 → Option R) (e0 : (Int × List S51) → Option R) (v9 : Int) (v10 : List S51) : Option R :=
  cond (decide (v9 < (q8.length : Int)))
  (
    when_ (decide ((0 : Int) ≤ (q8.length : Int)) && decide ((q8.length : Int) ≤ (q8.length : Int)) && (decide ((0 : Int) ≤ v9) && decide (v9 ≤ (q8.length : Int)))) (
      (f76 ((q8.take (q8.length : Int).toNat).drop v9.toNat)).bind fun r11 =>
      when_ (decide (v10.length + [(⟨r11.1, v9, w64 (v9 + r11.2)⟩ : S51)].length ≤ 5864062014805)) (
        c (w64 (v9 + r11.2)) (v10 ++ [(⟨r11.1, v9, w64 (v9 + r11.2)⟩ : S51)]))))
  (
    e0 (v9, v10))
def lp50_3 (f76 : Y76) : Nat → Z50_3
  | 0 => fun _ _ _ => none
  | n + 1 => fun q8 v9 v10 => lb50_3 f76 q8 (fun v9 v10 => lp50_3 f76 n q8 v9 v10) (fun o => some o) v9 v10
def b50 {R : Type} (f76 : Y76) (l3 : Z50_3) (p0 : (List Int)) (k : (List S51) → Option R) : Option R :=
  (l3 p0 0 []).bind fun r12_0 =>
  k r12_0.2
def s50 : Y50 := (fun p0 => b50 s76 (lp50_3 s76 big) p0 some)
abbrev Y57 : Type := (List S51) → Option (List S51)
abbrev Z57_3 : Type := Int → List S51 → Int → List S51 → Option (Int × List S51)
def lb57_3 {R : Type} (q9 : Int) (q8 : List S51) (c : Int → List S51 → Option R) (e0 : (Int × List S51) → Option R) (v10 : Int) (v11 : List S51) : Option R :=
  cond (decide (v10 < q9))
  (
    when_ (decide (0 ≤ v10) && decide (v10 < (q8.length : Int))) (
      cond ((q8.getD v10.toNat z51).c0 != 0)
      (
        cond ((q8.getD v10.toNat z51).c0 != 1)
        (
          when_ (decide (v11.length + [(q8.getD v10.toNat z51)].length ≤ 5864062014805)) (
            c (w64 (v10 + 1)) (v11 ++ [(q8.getD v10.toNat z51)])))
        (
          c (w64 (v10 + 1)) v11))
      (
        c (w64 (v10 + 1)) v11)))
  (
    e0 (v10, v11))
def lp57_3 : Nat → Z57_3
  | 0 => fun _ _ _ _ => none
  | n + 1 => fun q9 q8 v10 v11 => lb57_3 q9 q8 (fun v10 v11 => lp57_3 n q9 q8 v10 v11) (fun o => some o) v10 v11
def b57 {R : Type} (l3 : Z57_3) (p0 : (List S51)) (k : (List S51) → Option R) : Option R :=
  (l3 (p0.length : Int) p0 0 []).bind fun r12_0 =>
  k r12_0.2
def s57 : Y57 := (fun p0 => b57 (lp57_3 big) p0 some)
abbrev Y22 : Type := (List Int) → Option S98
def b22 {R : Type} (f50 : Y50) (f56 : Y56) (f57 : Y57) (p0 : (List Int)) (k : S98 → Option R) : Option R :=
  (f56 p0).bind fun r1 =>
  (f50 r1).bind fun r2 =>
  (f57 r2).bind fun r3 =>
  k (⟨r1, r3, 0, 0⟩ : S98)
def s22 : Y22 := (fun p0 => b22 s50 s56 s57 p0 some)
abbrev Y29 : Type := S98 → Option Bool
def b29 {R : Type} (p0 : S98) (k : Bool → Option R) : Option R :=
  k (decide (p0.c2 ≥ (p0.c1.length : Int)))
def s29 : Y29 := (fun p0 => b29 p0 some)
abbrev Y26 : Type := S98 → Option Int
def b26 {R : Type} (f29 : Y29) (p0 : S98) (k : Int → Option R) : Option R :=
  (f29 p0).bind fun r1 =>
  cond r1
  (
    k (p0.c0.length : Int))
  (
    when_ (decide (0 ≤ p0.c2) && decide (p0.c2 < (p0.c1.length : Int))) (
      k ((p0.c1.getD p0.c2.toNat z51).c1)))
def s26 : Y26 := (fun p0 => b26 s29 p0 some)
abbrev Y58 : Type := (List Int) → S51 → Option ByteArray
def b58 {R : Type} (p0 : (List Int)) (p1 : S51) (k : ByteArray → Option R) : Option R :=
  cond (decide (p1.c1 < 0))
  (
    k (⟨#[]⟩ : ByteArray))
  (
    cond (decide (p1.c1 > p1.c2))
    (
      k (⟨#[]⟩ : ByteArray))
    (
      cond (decide (p1.c2 > (p0.length : Int)))
      (
        k (⟨#[]⟩ : ByteArray))
      (
        when_ (decide ((0 : Int) ≤ p1.c2) && decide (p1.c2 ≤ (p0.length : Int)) && (decide ((0 : Int) ≤ p1.c1) && decide (p1.c1 ≤ p1.c2))) (
          k (strOf ((p0.take p1.c2.toNat).drop p1.c1.toNat))))))
def s58 : Y58 := (fun p0 p1 => b58 p0 p1 some)
abbrev Y25 : Type := S98 → Option ByteArray
def b25 {R : Type} (f29 : Y29) (f58 : Y58) (p0 : S98) (k : ByteArray → Option R) : Option R :=
  (f29 p0).bind fun r1 =>
  cond r1
  (
    k (⟨#[]⟩ : ByteArray))
  (
    when_ (decide (0 ≤ p0.c2) && decide (p0.c2 < (p0.c1.length : Int))) (
      (f58 p0.c0 (p0.c1.getD p0.c2.toNat z51)).bind fun r2 =>
      k r2))
def s25 : Y25 := (fun p0 => b25 s29 s58 p0 some)
abbrev Y30 : Type := ByteArray → S98 → Option (Bool × S98)
def b30 {R : Type} (f25 : Y25) (p1 : ByteArray) (p0 : S98) (k : (Bool × S98) → Option R) : Option R :=
  cond (p1.toList == (⟨#[]⟩ : ByteArray).toList)
  (
    k (false, p0))
  (
    (f25 p0).bind fun r1 =>
    cond (!(r1.toList == p1.toList))
    (
      k (false, p0))
    (
      k (true, (⟨p0.c0, p0.c1, w64 (p0.c2 + 1), p0.c3⟩ : S98))))
def s30 : Y30 := (fun p1 p0 => b30 s25 p1 p0 some)
abbrev Y78 : Type := ByteArray → Option Bool
def b78 {R : Type} (p0 : ByteArray) (k : Bool → Option R) : Option R :=
  cond (p0.toList == (⟨#[105, 109, 112, 111, 114, 116]⟩ : ByteArray).toList)
  (
    cond (p0.toList == (⟨#[105, 109, 112, 111, 114, 116]⟩ : ByteArray).toList)
    (
      k true)
    (
      k false))
  (
    cond (p0.toList == (⟨#[108, 97, 116, 116, 105, 99, 101]⟩ : ByteArray).toList)
    (
      cond (p0.toList == (⟨#[108, 97, 116, 116, 105, 99, 101]⟩ : ByteArray).toList)
      (
        k true)
      (
        k false))
    (
      cond (p0.toList == (⟨#[101, 102, 102, 101, 99, 116, 115]⟩ : ByteArray).toList)
      (
        cond (p0.toList == (⟨#[101, 102, 102, 101, 99, 116, 115]⟩ : ByteArray).toList)
        (
          k true)
        (
          k false))
      (
        cond (p0.toList == (⟨#[118, 97, 114]⟩ : ByteArray).toList)
        (
          cond (p0.toList == (⟨#[118, 97, 114]⟩ : ByteArray).toList)
          (
            k true)
          (
            k false))
        (
          cond (p0.toList == (⟨#[102, 110]⟩ : ByteArray).toList)
          (
            cond (p0.toList == (⟨#[102, 110]⟩ : ByteArray).toList)
            (
              k true)
            (
              k false))
          (
            cond (p0.toList == (⟨#[108, 101, 116]⟩ : ByteArray).toList)
            (
              cond (p0.toList == (⟨#[108, 101, 116]⟩ : ByteArray).toList)
              (
                k true)
              (
                k false))
            (
              cond (p0.toList == (⟨#[105, 102]⟩ : ByteArray).toList)
              (
                cond (p0.toList == (⟨#[105, 102]⟩ : ByteArray).toList)
                (
                  k true)
                (
                  k false))
              (
                cond (p0.toList == (⟨#[101, 108, 115, 101]⟩ : ByteArray).toList)
                (
                  cond (p0.toList == (⟨#[101, 108, 115, 101]⟩ : ByteArray).toList)
                  (
                    k true)
                  (
                    k false))
                (
                  cond (p0.toList == (⟨#[119, 104, 105, 108, 101]⟩ : ByteArray).toList)
                  (
                    cond (p0.toList == (⟨#[119, 104, 105, 108, 101]⟩ : ByteArray).toList)
                    (
                      k true)
                    (
                      k false))
                  (
                    cond (p0.toList == (⟨#[114, 101, 116, 117, 114, 110]⟩ : ByteArray).toList)
                    (
                      cond (p0.toList == (⟨#[114, 101, 116, 117, 114, 110]⟩ : ByteArray).toList)
                      (
                        k true)
                      (
                        k false))
                    (
                      cond (p0.toList == (⟨#[100, 111]⟩ : ByteArray).toList)
                      (
                        cond (p0.toList == (⟨#[100, 111]⟩ : ByteArray).toList)
                        (
                          k true)
                        (
                          k false))
                      (
                        cond (p0.toList == (⟨#[116, 114, 117, 101]⟩ : ByteArray).toList)
                        (
                          cond (p0.toList == (⟨#[116, 114, 117, 101]⟩ : ByteArray).toList)
                          (
                            k true)
                          (
                            k false))
                        (
                          cond (p0.toList == (⟨#[102, 97, 108, 115, 101]⟩ : ByteArray).toList)
                          (
                            cond (p0.toList == (⟨#[102, 97, 108, 115, 101]⟩ : ByteArray).toList)
                            (
                              k true)
                            (
                              k false))
                          (
                            cond (p0.toList == (⟨#[105, 110, 116]⟩ : ByteArray).toList)
                            (
                              cond (p0.toList == (⟨#[105, 110, 116]⟩ : ByteArray).toList)
                              (
                                k true)
                              (
                                k false))
                            (
                              cond (p0.toList == (⟨#[98, 111, 111, 108]⟩ : ByteArray).toList)
                              (
                                cond (p0.toList == (⟨#[98, 111, 111, 108]⟩ : ByteArray).toList)
                                (
                                  k true)
                                (
                                  k false))
                              (
                                cond (p0.toList == (⟨#[100, 101, 99, 108, 97, 115, 115, 105, 102, 121]⟩ : ByteArray).toList)
                                (
                                  k true)
                                (
                                  k false))))))))))))))))
def s78 : Y78 := (fun p0 => b78 p0 some)
abbrev Y81 : Type := Int → Option Bool
def b81 {R : Type} (f79 : Y79) (f82 : Y82) (p0 : Int) (k : Bool → Option R) : Option R :=
  (f79 p0).bind fun r1 =>
  cond r1
  (
    k true)
  (
    (f82 p0).bind fun r2 =>
    k r2)
def s81 : Y81 := (fun p0 => b81 s79 s82 p0 some)
abbrev Y80_81 : Type := (List Int) → Option Int
abbrev Z80_81_2 : Type := List Int → Int → Option Int
def lb80_81_2 {R : Type} (f81 : Y81) (q4 : List Int) (c : Int → Option R) (e0 : Int → Option R) (v5 : Int) : Option R :=
  cond (decide (v5 < (q4.length : Int)))
  (
    when_ (decide (0 ≤ v5) && decide (v5 < (q4.length : Int))) (
      (f81 (q4.getD v5.toNat 0)).bind fun r6 =>
      cond r6
      (
        c (w64 (v5 + 1)))
      (
        e0 v5)))
  (
    e0 v5)
def lp80_81_2 (f81 : Y81) : Nat → Z80_81_2
  | 0 => fun _ _ => none
  | n + 1 => fun q4 v5 => lb80_81_2 f81 q4 (fun v5 => lp80_81_2 f81 n q4 v5) (fun o => some o) v5
def b80_81 {R : Type} (f81 : Y81) (l2 : Z80_81_2) (p0 : (List Int)) (k : Int → Option R) : Option R :=
  (l2 p0 0).bind fun r7_0 =>
  k r7_0
def s80_81 : Y80_81 := (fun p0 => b80_81 s81 (lp80_81_2 s81 big) p0 some)
abbrev Y59 : Type := ByteArray → Option Bool
def b59 {R : Type} (f78 : Y78) (f79 : Y79) (f80_81 : Y80_81) (p0 : ByteArray) (k : Bool → Option R) : Option R :=
  cond (p0.toList == (⟨#[]⟩ : ByteArray).toList)
  (
    k false)
  (
    cond (decide ((p0.size : Int) > 24))
    (
      k false)
    (
      (f78 p0).bind fun r1 =>
      cond r1
      (
        k false)
      (
        when_ (decide (0 ≤ 0) && decide (0 < (p0.size : Int))) (
          (f79 (bt p0 0)).bind fun r2 =>
          cond (!r2)
          (
            k false)
          (
            (f80_81 (bytesOf p0)).bind fun r3 =>
            k (r3 == (p0.size : Int)))))))
def s59 : Y59 := (fun p0 => b59 s78 s79 s80_81 p0 some)
abbrev Y31 : Type := S98 → Option (ByteArray × Bool × S98)
def b31 {R : Type} (f25 : Y25) (f59 : Y59) (p0 : S98) (k : (ByteArray × Bool × S98) → Option R) : Option R :=
  (f25 p0).bind fun r1 =>
  (f59 r1).bind fun r2 =>
  cond (!r2)
  (
    k ((⟨#[]⟩ : ByteArray), false, p0))
  (
    k (r1, true, (⟨p0.c0, p0.c1, w64 (p0.c2 + 1), p0.c3⟩ : S98)))
def s31 : Y31 := (fun p0 => b31 s25 s59 p0 some)
abbrev Y68 : Type := S98 → ByteArray → Option (Int × S98 × ByteArray)
def b68 {R : Type} (f31 : Y31) (p0 : S98) (p1 : ByteArray) (k : (Int × S98 × ByteArray) → Option R) : Option R :=
  (f31 p0).bind fun r1 =>
  cond (!r1.2.1)
  (
    k (11, r1.2.2, r1.1))
  (
    k (0, r1.2.2, r1.1))
def s68 : Y68 := (fun p0 p1 => b68 s31 p0 p1 some)
abbrev Y41 : Type := S98 → Option (Int × Int × S98)
def b41 {R : Type} (f30 : Y30) (p0 : S98) (k : (Int × Int × S98) → Option R) : Option R :=
  (f30 (⟨#[105, 110, 116]⟩ : ByteArray) p0).bind fun r1 =>
  cond r1.1
  (
    k (0, 0, r1.2))
  (
    (f30 (⟨#[98, 111, 111, 108]⟩ : ByteArray) r1.2).bind fun r2 =>
    cond r2.1
    (
      k (1, 0, r2.2))
    (
      k (0, 11, r2.2)))
def s41 : Y41 := (fun p0 => b41 s30 p0 some)
abbrev Y33 : Type := S98 → Option Int
def b33 {R : Type} (p0 : S98) (k : Int → Option R) : Option R :=
  cond (p0.c2 == 0)
  (
    k 0)
  (
    when_ (decide (0 ≤ (w64 (p0.c2 - 1))) && decide ((w64 (p0.c2 - 1)) < (p0.c1.length : Int))) (
      k ((p0.c1.getD (w64 (p0.c2 - 1)).toNat z51).c2)))
def s33 : Y33 := (fun p0 => b33 p0 some)
abbrev Y43 : Type := S98 → Option (S72 × Int × S98)
def b43 {R : Type} (f26 : Y26) (f30 : Y30) (f33 : Y33) (f68 : Y68) (p0 : S98) (k : (S72 × Int × S98) → Option R) : Option R :=
  (f33 p0).bind fun r1 =>
  (f33 p0).bind fun r2 =>
  (f30 (⟨#[64, 61]⟩ : ByteArray) p0).bind fun r3 =>
  cond (!r3.1)
  (
    (f30 (⟨#[64]⟩ : ByteArray) r3.2).bind fun r4 =>
    cond (!r4.1)
    (
      k ((⟨false, r3.1, (⟨#[]⟩ : ByteArray), r1, r2⟩ : S72), 0, r4.2))
    (
      (f26 r4.2).bind fun r5 =>
      (f68 r4.2 (⟨#[]⟩ : ByteArray)).bind fun r6 =>
      cond (r6.1 != 0)
      (
        k ((⟨false, false, (⟨#[]⟩ : ByteArray), 0, 0⟩ : S72), r6.1, r6.2.1))
      (
        (f33 r6.2.1).bind fun r7 =>
        k ((⟨true, r3.1, r6.2.2, r5, r7⟩ : S72), 0, r6.2.1))))
  (
    (f26 r3.2).bind fun r8 =>
    (f68 r3.2 (⟨#[]⟩ : ByteArray)).bind fun r9 =>
    cond (r9.1 != 0)
    (
      k ((⟨false, false, (⟨#[]⟩ : ByteArray), 0, 0⟩ : S72), r9.1, r9.2.1))
    (
      (f33 r9.2.1).bind fun r10 =>
      k ((⟨true, r3.1, r9.2.2, r8, r10⟩ : S72), 0, r9.2.1)))
def s43 : Y43 := (fun p0 => b43 s26 s30 s33 s68 p0 some)
abbrev Y90 : Type := (List ByteArray) → S98 → Option (Int × S98)
abbrev Z90_2 : Type := Int → List ByteArray → Int → List Int → List S51 → Int → Int → Option ((Int × List Int × List S51 × Int × Int × Int) ⊕ (Int × List Int × List S51 × Int × Int))
def lb90_2 {R : Type} (f30 : Y30) (q7 : Int) (q6 : List ByteArray) (c : Int → List Int → List S51 → Int → Int → Option R) (e0 : (Int × List Int × List S51 × Int × Int × Int) → Option R) (e1 : (Int × List Int × List S51 × Int × Int) → Option R) (v8 : Int) (v9 : List Int) (v10 : List S51) (v11 : Int) (v12 : Int) : Option R :=
  cond (decide (v8 < q7))
  (
    when_ (decide (0 ≤ v8) && decide (v8 < (q6.length : Int))) (
      (f30 (q6.getD v8.toNat (⟨#[]⟩ : ByteArray)) (⟨v9, v10, v11, v12⟩ : S98)).bind fun r13 =>
      cond (!r13.1)
      (
        e0 (v8, r13.2.c0, r13.2.c1, r13.2.c2, r13.2.c3, 11))
      (
        c (w64 (v8 + 1)) r13.2.c0 r13.2.c1 r13.2.c2 r13.2.c3)))
  (
    e1 (v8, v9, v10, v11, v12))
def lp90_2 (f30 : Y30) : Nat → Z90_2
  | 0 => fun _ _ _ _ _ _ _ => none
  | n + 1 => fun q7 q6 v8 v9 v10 v11 v12 => lb90_2 f30 q7 q6 (fun v8 v9 v10 v11 v12 => lp90_2 f30 n q7 q6 v8 v9 v10 v11 v12) (fun o => some (Sum.inl o)) (fun o => some (Sum.inr (o))) v8 v9 v10 v11 v12
def b90 {R : Type} (f30 : Y30) (l2 : Z90_2) (p1 : (List ByteArray)) (p0 : S98) (k : (Int × S98) → Option R) : Option R :=
  (l2 (p1.length : Int) p1 0 p0.c0 p0.c1 p0.c2 p0.c3).bind (Sum.elim (fun r14_0 =>
    k (r14_0.2.2.2.2.2, (⟨r14_0.2.1, r14_0.2.2.1, r14_0.2.2.2.1, r14_0.2.2.2.2.1⟩ : S98))) (fun r14_1 =>
    k (0, (⟨r14_1.2.1, r14_1.2.2.1, r14_1.2.2.2.1, r14_1.2.2.2.2⟩ : S98))))
def s90 : Y90 := (fun p1 p0 => b90 s30 (lp90_2 s30 big) p1 p0 some)
abbrev Y17 : Type := S27 → Option Int
abbrev Z17_3 : Type := Int → List S27 → Int → Int → Option (Int × Int)
def lb17_3 {R : Type} (f17 : Y17) (q9 : Int) (q8 : List S27) (c : Int → Int → Option R) (e0 : (Int × Int) → Option R) (v7 : Int) (v10 : Int) : Option R :=
  cond (decide (v10 < q9))
  (
    when_ (decide (0 ≤ v10) && decide (v10 < (q8.length : Int))) (
      (f17 (⟨(q8.getD v10.toNat z27).c0, (q8.getD v10.toNat z27).c1, (q8.getD v10.toNat z27).c2, (q8.getD v10.toNat z27).c3, (q8.getD v10.toNat z27).c4, (q8.getD v10.toNat z27).c5⟩ : S27)).bind fun r12 =>
      c (if r12 > v7 then r12 else v7) (w64 (v10 + 1))))
  (
    e0 (v7, v10))
def lp17_3 (f17 : Y17) : Nat → Z17_3
  | 0 => fun _ _ _ _ => none
  | n + 1 => fun q9 q8 v7 v10 => lb17_3 f17 q9 q8 (fun v7 v10 => lp17_3 f17 n q9 q8 v7 v10) (fun o => some o) v7 v10
def b17 {R : Type} (f17 : Y17) (l3 : Z17_3) (p0 : S27) (k : Int → Option R) : Option R :=
  (l3 (p0.c5.length : Int) p0.c5 0 0).bind fun r13_0 =>
  k (w64 (r13_0.1 + 1))
structure G17 where
  f17 : Y17
def g17 : Nat → G17
  | 0 => ⟨fun _ => none⟩
  | n + 1 => ⟨(fun p0 => b17 (g17 n).f17 (lp17_3 (g17 n).f17 big) p0 some)⟩
def s17 : Y17 := (g17 big).f17
abbrev Y85 : Type := S27 → Int → S98 → Option (S27 × Int × S98)
def b85 {R : Type} (f17 : Y17) (p1 : S27) (p2 : Int) (p0 : S98) (k : (S27 × Int × S98) → Option R) : Option R :=
  (f17 (⟨p1.c0, p1.c1, p1.c2, p1.c3, p1.c4, p1.c5⟩ : S27)).bind fun r1 =>
  cond (decide (r1 > 32))
  (
    k ((⟨0, 0, 0, (⟨#[]⟩ : ByteArray), (⟨#[]⟩ : ByteArray), []⟩ : S27), 12, (⟨p0.c0, p0.c1, p2, p0.c3⟩ : S98)))
  (
    k ((⟨p1.c0, p1.c1, p1.c2, p1.c3, p1.c4, p1.c5⟩ : S27), 0, p0))
def s85 : Y85 := (fun p1 p2 p0 => b85 s17 p1 p2 p0 some)
abbrev Y28 : Type := S98 → Option Int
def b28 {R : Type} (f29 : Y29) (p0 : S98) (k : Int → Option R) : Option R :=
  (f29 p0).bind fun r1 =>
  cond r1
  (
    k 0)
  (
    when_ (decide (0 ≤ p0.c2) && decide (p0.c2 < (p0.c1.length : Int))) (
      k ((p0.c1.getD p0.c2.toNat z51).c0)))
def s28 : Y28 := (fun p0 => b28 s29 p0 some)
abbrev Y108 : Type := S98 → Option (S27 × Int × S98)
abbrev Z108_3 : Type := Int → List Int → Int → Int → Option ((Int × Int × Int × Int × Int × Int × ByteArray × ByteArray) ⊕ (Int × Int))
def lb108_3 {R : Type} (f25 : Y25) (f26 : Y26) (q14 : Int) (q13 : List Int) (c : Int → Int → Option R) (e0 : (Int × Int × Int × Int × Int × Int × ByteArray × ByteArray) → Option R) (e1 : (Int × Int) → Option R) (v12 : Int) (v15 : Int) : Option R :=
  cond (decide (v15 < q14))
  (
    when_ (decide (0 ≤ v15) && decide (v15 < (q13.length : Int))) (
      cond (decide (v12 > (w64 ((w64 (9223372036854775807 - (w64 ((w8 ((q13.getD v15.toNat 0) - 48)))))).tdiv 10))))
      (
        e0 (v12, v15, 18, 0, 0, 0, (⟨#[]⟩ : ByteArray), (⟨#[]⟩ : ByteArray)))
      (
        c (w64 ((w64 (10 * v12)) + (w64 ((w8 ((q13.getD v15.toNat 0) - 48)))))) (w64 (v15 + 1)))))
  (
    e1 (v12, v15))
def lp108_3 (f25 : Y25) (f26 : Y26) : Nat → Z108_3
  | 0 => fun _ _ _ _ => none
  | n + 1 => fun q14 q13 v12 v15 => lb108_3 f25 f26 q14 q13 (fun v12 v15 => lp108_3 f25 f26 n q14 q13 v12 v15) (fun o => some (Sum.inl o)) (fun o => some (Sum.inr (o))) v12 v15
def b108 {R : Type} (f25 : Y25) (f26 : Y26) (l3 : Z108_3) (p0 : S98) (k : (S27 × Int × S98) → Option R) : Option R :=
  (f25 p0).bind fun r1 =>
  (l3 ((bytesOf r1).length : Int) (bytesOf r1) 0 0).bind (Sum.elim (fun r22_0 =>
    k ((⟨r22_0.2.2.2.1, r22_0.2.2.2.2.1, r22_0.2.2.2.2.2.1, r22_0.2.2.2.2.2.2.1, r22_0.2.2.2.2.2.2.2, []⟩ : S27), r22_0.2.2.1, p0)) (fun r22_1 =>
    (f26 p0).bind fun r23 =>
    k ((⟨0, r23, r22_1.1, (⟨#[]⟩ : ByteArray), (⟨#[]⟩ : ByteArray), []⟩ : S27), 0, (⟨p0.c0, p0.c1, w64 (p0.c2 + 1), p0.c3⟩ : S98))))
def s108 : Y108 := (fun p0 => b108 s25 s26 (lp108_3 s25 s26 big) p0 some)
abbrev Y99 : Type := S98 → Option (Int × S98)
def b99 {R : Type} (p0 : S98) (k : (Int × S98) → Option R) : Option R :=
  cond (decide (p0.c3 ≥ 32))
  (
    k (12, p0))
  (
    k (0, (⟨p0.c0, p0.c1, w64 (p0.c2 + 1), w64 (p0.c3 + 1)⟩ : S98)))
def s99 : Y99 := (fun p0 => b99 p0 some)
abbrev Y113 : Type := S98 → Option (Int × S98)
def b113 {R : Type} (f30 : Y30) (p0 : S98) (k : (Int × S98) → Option R) : Option R :=
  (f30 (⟨#[41]⟩ : ByteArray) p0).bind fun r1 =>
  cond (!r1.1)
  (
    k (11, r1.2))
  (
    k (0, (⟨r1.2.c0, r1.2.c1, r1.2.c2, w64 (r1.2.c3 - 1)⟩ : S98)))
def s113 : Y113 := (fun p0 => b113 s30 p0 some)
abbrev Y84 : Type := ByteArray → Option Int
def b84 {R : Type} (p0 : ByteArray) (k : Int → Option R) : Option R :=
  cond (p0.toList == (⟨#[124, 124]⟩ : ByteArray).toList)
  (
    k 1)
  (
    cond (p0.toList == (⟨#[38, 38]⟩ : ByteArray).toList)
    (
      k 2)
    (
      cond (p0.toList == (⟨#[61, 61]⟩ : ByteArray).toList)
      (
        cond (p0.toList == (⟨#[61, 61]⟩ : ByteArray).toList)
        (
          k 3)
        (
          cond (p0.toList == (⟨#[43]⟩ : ByteArray).toList)
          (
            cond (p0.toList == (⟨#[43]⟩ : ByteArray).toList)
            (
              k 4)
            (
              cond (p0.toList == (⟨#[42]⟩ : ByteArray).toList)
              (
                k 5)
              (
                k 0)))
          (
            cond (p0.toList == (⟨#[45]⟩ : ByteArray).toList)
            (
              k 4)
            (
              cond (p0.toList == (⟨#[42]⟩ : ByteArray).toList)
              (
                k 5)
              (
                k 0)))))
      (
        cond (p0.toList == (⟨#[60]⟩ : ByteArray).toList)
        (
          k 3)
        (
          cond (p0.toList == (⟨#[43]⟩ : ByteArray).toList)
          (
            cond (p0.toList == (⟨#[43]⟩ : ByteArray).toList)
            (
              k 4)
            (
              cond (p0.toList == (⟨#[42]⟩ : ByteArray).toList)
              (
                k 5)
              (
                k 0)))
          (
            cond (p0.toList == (⟨#[45]⟩ : ByteArray).toList)
            (
              k 4)
            (
              cond (p0.toList == (⟨#[42]⟩ : ByteArray).toList)
              (
                k 5)
              (
                k 0)))))))
def s84 : Y84 := (fun p0 => b84 p0 some)
abbrev Y63 : Type := Int → S98 → Option (S27 × Int × S98)
abbrev Y83 : Type := S98 → Option (S27 × Int × S98)
abbrev Y98 : Type := S98 → Option (S27 × Int × S98)
abbrev Y109 : Type := S98 → Option (S27 × Int × S98)
abbrev Y110 : Type := S98 → Option (S27 × Int × S98)
abbrev Y111 : Type := S98 → Option (S27 × Int × S98)
abbrev Z63_4 : Type := Int → Int → List Int → List S51 → Int → Int → Int → Int → Int → ByteArray → ByteArray → List S27 → Option (Int × List Int × List S51 × Int × Int × Int × Int × Int × ByteArray × ByteArray × List S27)
def lb63_4 {R : Type} (f25 : Y25) (f63 : Y63) (f83 : Y83) (f84 : Y84) (f85 : Y85) (q17 : Int) (c : Int → List Int → List S51 → Int → Int → Int → Int → Int → ByteArray → ByteArray → List S27 → Option R) (e0 : (Int × List Int × List S51 × Int × Int × Int × Int × Int × ByteArray × ByteArray × List S27) → Option R) (v18 : Int) (v19 : List Int) (v20 : List S51) (v21 : Int) (v22 : Int) (v28 : Int) (v29 : Int) (v30 : Int) (v31 : ByteArray) (v32 : ByteArray) (v33 : List S27) : Option R :=
  cond (v18 == 0)
  (
    (f25 (⟨v19, v20, v21, v22⟩ : S98)).bind fun r34 =>
    (f84 r34).bind fun r35 =>
    cond (r35 == q17)
    (
      (f25 (⟨v19, v20, v21, v22⟩ : S98)).bind fun r36 =>
      (f63 (w64 (q17 + 1)) (⟨v19, v20, w64 (v21 + 1), v22⟩ : S98)).bind fun r37 =>
      cond (r37.2.1 == 0)
      (
        (f85 (⟨5, v29, 0, r36, (⟨#[]⟩ : ByteArray), [(⟨v28, v29, v30, v31, v32, v33⟩ : S27), (⟨r37.1.c0, r37.1.c1, r37.1.c2, r37.1.c3, r37.1.c4, r37.1.c5⟩ : S27)]⟩ : S27) v21 r37.2.2).bind fun r38 =>
        c r38.2.1 r38.2.2.c0 r38.2.2.c1 r38.2.2.c2 r38.2.2.c3 r38.1.c0 r38.1.c1 r38.1.c2 r38.1.c3 r38.1.c4 r38.1.c5)
      (
        c r37.2.1 r37.2.2.c0 r37.2.2.c1 r37.2.2.c2 r37.2.2.c3 v28 v29 v30 v31 v32 v33))
    (
      e0 (v18, v19, v20, v21, v22, v28, v29, v30, v31, v32, v33)))
  (
    e0 (v18, v19, v20, v21, v22, v28, v29, v30, v31, v32, v33))
def lp63_4 (f25 : Y25) (f63 : Y63) (f83 : Y83) (f84 : Y84) (f85 : Y85) : Nat → Z63_4
  | 0 => fun _ _ _ _ _ _ _ _ _ _ _ _ => none
  | n + 1 => fun q17 v18 v19 v20 v21 v22 v28 v29 v30 v31 v32 v33 => lb63_4 f25 f63 f83 f84 f85 q17 (fun v18 v19 v20 v21 v22 v28 v29 v30 v31 v32 v33 => lp63_4 f25 f63 f83 f84 f85 n q17 v18 v19 v20 v21 v22 v28 v29 v30 v31 v32 v33) (fun o => some o) v18 v19 v20 v21 v22 v28 v29 v30 v31 v32 v33
def b63 {R : Type} (f25 : Y25) (f63 : Y63) (f83 : Y83) (f84 : Y84) (f85 : Y85) (l4 : Z63_4) (p1 : Int) (p0 : S98) (k : (S27 × Int × S98) → Option R) : Option R :=
  cond (p1 == 6)
  (
    (f83 p0).bind fun r1 =>
    k ((⟨r1.1.c0, r1.1.c1, r1.1.c2, r1.1.c3, r1.1.c4, r1.1.c5⟩ : S27), r1.2.1, r1.2.2))
  (
    (f63 (w64 (p1 + 1)) p0).bind fun r2 =>
    (l4 p1 r2.2.1 r2.2.2.c0 r2.2.2.c1 r2.2.2.c2 r2.2.2.c3 r2.1.c0 r2.1.c1 r2.1.c2 r2.1.c3 r2.1.c4 r2.1.c5).bind fun r39_0 =>
    cond (r39_0.1 != 0)
    (
      k ((⟨0, 0, 0, (⟨#[]⟩ : ByteArray), (⟨#[]⟩ : ByteArray), []⟩ : S27), r39_0.1, (⟨r39_0.2.1, r39_0.2.2.1, r39_0.2.2.2.1, r39_0.2.2.2.2.1⟩ : S98)))
    (
      k ((⟨r39_0.2.2.2.2.2.1, r39_0.2.2.2.2.2.2.1, r39_0.2.2.2.2.2.2.2.1, r39_0.2.2.2.2.2.2.2.2.1, r39_0.2.2.2.2.2.2.2.2.2.1, r39_0.2.2.2.2.2.2.2.2.2.2⟩ : S27), 0, (⟨r39_0.2.1, r39_0.2.2.1, r39_0.2.2.2.1, r39_0.2.2.2.2.1⟩ : S98))))
def b83 {R : Type} (f25 : Y25) (f26 : Y26) (f83 : Y83) (f85 : Y85) (f98 : Y98) (f99 : Y99) (p0 : S98) (k : (S27 × Int × S98) → Option R) : Option R :=
  (f25 p0).bind fun r1 =>
  (f26 p0).bind fun r2 =>
  cond (!(r1.toList == (⟨#[33]⟩ : ByteArray).toList))
  (
    cond (!(r1.toList == (⟨#[45]⟩ : ByteArray).toList))
    (
      (f98 p0).bind fun r3 =>
      k ((⟨r3.1.c0, r3.1.c1, r3.1.c2, r3.1.c3, r3.1.c4, r3.1.c5⟩ : S27), r3.2.1, r3.2.2))
    (
      (f99 p0).bind fun r4 =>
      cond (r4.1 != 0)
      (
        k ((⟨0, 0, 0, (⟨#[]⟩ : ByteArray), (⟨#[]⟩ : ByteArray), []⟩ : S27), r4.1, r4.2))
      (
        (f83 r4.2).bind fun r5 =>
        cond (r5.2.1 != 0)
        (
          k ((⟨0, 0, 0, (⟨#[]⟩ : ByteArray), (⟨#[]⟩ : ByteArray), []⟩ : S27), r5.2.1, r5.2.2))
        (
          (f85 (⟨4, r2, 0, r1, (⟨#[]⟩ : ByteArray), [(⟨r5.1.c0, r5.1.c1, r5.1.c2, r5.1.c3, r5.1.c4, r5.1.c5⟩ : S27)]⟩ : S27) p0.c2 (⟨r5.2.2.c0, r5.2.2.c1, r5.2.2.c2, w64 (r5.2.2.c3 - 1)⟩ : S98)).bind fun r6 =>
          k ((⟨r6.1.c0, r6.1.c1, r6.1.c2, r6.1.c3, r6.1.c4, r6.1.c5⟩ : S27), r6.2.1, r6.2.2)))))
  (
    (f99 p0).bind fun r7 =>
    cond (r7.1 != 0)
    (
      k ((⟨0, 0, 0, (⟨#[]⟩ : ByteArray), (⟨#[]⟩ : ByteArray), []⟩ : S27), r7.1, r7.2))
    (
      (f83 r7.2).bind fun r8 =>
      cond (r8.2.1 != 0)
      (
        k ((⟨0, 0, 0, (⟨#[]⟩ : ByteArray), (⟨#[]⟩ : ByteArray), []⟩ : S27), r8.2.1, r8.2.2))
      (
        (f85 (⟨4, r2, 0, r1, (⟨#[]⟩ : ByteArray), [(⟨r8.1.c0, r8.1.c1, r8.1.c2, r8.1.c3, r8.1.c4, r8.1.c5⟩ : S27)]⟩ : S27) p0.c2 (⟨r8.2.2.c0, r8.2.2.c1, r8.2.2.c2, w64 (r8.2.2.c3 - 1)⟩ : S98)).bind fun r9 =>
        k ((⟨r9.1.c0, r9.1.c1, r9.1.c2, r9.1.c3, r9.1.c4, r9.1.c5⟩ : S27), r9.2.1, r9.2.2))))
def b98 {R : Type} (f25 : Y25) (f26 : Y26) (f28 : Y28) (f108 : Y108) (f109 : Y109) (f110 : Y110) (f111 : Y111) (p0 : S98) (k : (S27 × Int × S98) → Option R) : Option R :=
  (f26 p0).bind fun r1 =>
  (f25 p0).bind fun r2 =>
  (f28 p0).bind fun r3 =>
  cond (r3 == 3)
  (
    (f108 p0).bind fun r4 =>
    k ((⟨r4.1.c0, r4.1.c1, r4.1.c2, r4.1.c3, r4.1.c4, r4.1.c5⟩ : S27), r4.2.1, r4.2.2))
  (
    cond (r2.toList == (⟨#[116, 114, 117, 101]⟩ : ByteArray).toList)
    (
      cond (r2.toList == (⟨#[116, 114, 117, 101]⟩ : ByteArray).toList)
      (
        cond (r2.toList == (⟨#[116, 114, 117, 101]⟩ : ByteArray).toList)
        (
          k ((⟨1, r1, 1, (⟨#[]⟩ : ByteArray), (⟨#[]⟩ : ByteArray), []⟩ : S27), 0, (⟨p0.c0, p0.c1, w64 (p0.c2 + 1), p0.c3⟩ : S98)))
        (
          k ((⟨1, r1, 0, (⟨#[]⟩ : ByteArray), (⟨#[]⟩ : ByteArray), []⟩ : S27), 0, (⟨p0.c0, p0.c1, w64 (p0.c2 + 1), p0.c3⟩ : S98))))
      (
        cond (r2.toList == (⟨#[40]⟩ : ByteArray).toList)
        (
          (f109 p0).bind fun r5 =>
          k ((⟨r5.1.c0, r5.1.c1, r5.1.c2, r5.1.c3, r5.1.c4, r5.1.c5⟩ : S27), r5.2.1, r5.2.2))
        (
          cond (r2.toList == (⟨#[100, 101, 99, 108, 97, 115, 115, 105, 102, 121]⟩ : ByteArray).toList)
          (
            (f110 p0).bind fun r6 =>
            k ((⟨r6.1.c0, r6.1.c1, r6.1.c2, r6.1.c3, r6.1.c4, r6.1.c5⟩ : S27), r6.2.1, r6.2.2))
          (
            (f111 p0).bind fun r7 =>
            k ((⟨r7.1.c0, r7.1.c1, r7.1.c2, r7.1.c3, r7.1.c4, r7.1.c5⟩ : S27), r7.2.1, r7.2.2)))))
    (
      cond (r2.toList == (⟨#[102, 97, 108, 115, 101]⟩ : ByteArray).toList)
      (
        cond (r2.toList == (⟨#[116, 114, 117, 101]⟩ : ByteArray).toList)
        (
          k ((⟨1, r1, 1, (⟨#[]⟩ : ByteArray), (⟨#[]⟩ : ByteArray), []⟩ : S27), 0, (⟨p0.c0, p0.c1, w64 (p0.c2 + 1), p0.c3⟩ : S98)))
        (
          k ((⟨1, r1, 0, (⟨#[]⟩ : ByteArray), (⟨#[]⟩ : ByteArray), []⟩ : S27), 0, (⟨p0.c0, p0.c1, w64 (p0.c2 + 1), p0.c3⟩ : S98))))
      (
        cond (r2.toList == (⟨#[40]⟩ : ByteArray).toList)
        (
          (f109 p0).bind fun r8 =>
          k ((⟨r8.1.c0, r8.1.c1, r8.1.c2, r8.1.c3, r8.1.c4, r8.1.c5⟩ : S27), r8.2.1, r8.2.2))
        (
          cond (r2.toList == (⟨#[100, 101, 99, 108, 97, 115, 115, 105, 102, 121]⟩ : ByteArray).toList)
          (
            (f110 p0).bind fun r9 =>
            k ((⟨r9.1.c0, r9.1.c1, r9.1.c2, r9.1.c3, r9.1.c4, r9.1.c5⟩ : S27), r9.2.1, r9.2.2))
          (
            (f111 p0).bind fun r10 =>
            k ((⟨r10.1.c0, r10.1.c1, r10.1.c2, r10.1.c3, r10.1.c4, r10.1.c5⟩ : S27), r10.2.1, r10.2.2))))))
def b109 {R : Type} (f63 : Y63) (f99 : Y99) (f113 : Y113) (p0 : S98) (k : (S27 × Int × S98) → Option R) : Option R :=
  (f99 p0).bind fun r1 =>
  cond (r1.1 != 0)
  (
    k ((⟨0, 0, 0, (⟨#[]⟩ : ByteArray), (⟨#[]⟩ : ByteArray), []⟩ : S27), r1.1, r1.2))
  (
    (f63 1 r1.2).bind fun r2 =>
    cond (r2.2.1 == 0)
    (
      (f113 r2.2.2).bind fun r3 =>
      cond (r3.1 != 0)
      (
        k ((⟨0, 0, 0, (⟨#[]⟩ : ByteArray), (⟨#[]⟩ : ByteArray), []⟩ : S27), r3.1, r3.2))
      (
        k ((⟨r2.1.c0, r2.1.c1, r2.1.c2, r2.1.c3, r2.1.c4, r2.1.c5⟩ : S27), 0, r3.2)))
    (
      cond (r2.2.1 != 0)
      (
        k ((⟨0, 0, 0, (⟨#[]⟩ : ByteArray), (⟨#[]⟩ : ByteArray), []⟩ : S27), r2.2.1, r2.2.2))
      (
        k ((⟨r2.1.c0, r2.1.c1, r2.1.c2, r2.1.c3, r2.1.c4, r2.1.c5⟩ : S27), 0, r2.2.2))))
def b110 {R : Type} (f25 : Y25) (f26 : Y26) (f30 : Y30) (f31 : Y31) (f63 : Y63) (f85 : Y85) (f99 : Y99) (f113 : Y113) (p0 : S98) (k : (S27 × Int × S98) → Option R) : Option R :=
  (f26 p0).bind fun r1 =>
  (f25 (⟨p0.c0, p0.c1, w64 (p0.c2 + 1), p0.c3⟩ : S98)).bind fun r2 =>
  cond (!(r2.toList == (⟨#[40]⟩ : ByteArray).toList))
  (
    k ((⟨0, 0, 0, (⟨#[]⟩ : ByteArray), (⟨#[]⟩ : ByteArray), []⟩ : S27), 11, (⟨p0.c0, p0.c1, w64 (p0.c2 + 1), p0.c3⟩ : S98)))
  (
    (f99 (⟨p0.c0, p0.c1, w64 (p0.c2 + 1), p0.c3⟩ : S98)).bind fun r3 =>
    cond (r3.1 != 0)
    (
      k ((⟨0, 0, 0, (⟨#[]⟩ : ByteArray), (⟨#[]⟩ : ByteArray), []⟩ : S27), r3.1, r3.2))
    (
      (f63 1 r3.2).bind fun r4 =>
      cond (r4.2.1 != 0)
      (
        k ((⟨0, 0, 0, (⟨#[]⟩ : ByteArray), (⟨#[]⟩ : ByteArray), []⟩ : S27), r4.2.1, r4.2.2))
      (
        (f30 (⟨#[44]⟩ : ByteArray) r4.2.2).bind fun r5 =>
        cond r5.1
        (
          (f30 (⟨#[64]⟩ : ByteArray) r5.2).bind fun r6 =>
          cond r6.1
          (
            (f31 r6.2).bind fun r7 =>
            cond (!r7.2.1)
            (
              k ((⟨0, 0, 0, (⟨#[]⟩ : ByteArray), (⟨#[]⟩ : ByteArray), []⟩ : S27), 11, r7.2.2))
            (
              (f113 r7.2.2).bind fun r8 =>
              cond (r8.1 != 0)
              (
                k ((⟨0, 0, 0, (⟨#[]⟩ : ByteArray), (⟨#[]⟩ : ByteArray), []⟩ : S27), r8.1, r8.2))
              (
                (f85 (⟨6, r1, 0, (⟨#[]⟩ : ByteArray), r7.1, [(⟨r4.1.c0, r4.1.c1, r4.1.c2, r4.1.c3, r4.1.c4, r4.1.c5⟩ : S27)]⟩ : S27) p0.c2 r8.2).bind fun r9 =>
                k ((⟨r9.1.c0, r9.1.c1, r9.1.c2, r9.1.c3, r9.1.c4, r9.1.c5⟩ : S27), r9.2.1, r9.2.2))))
          (
            cond (!r6.1)
            (
              k ((⟨0, 0, 0, (⟨#[]⟩ : ByteArray), (⟨#[]⟩ : ByteArray), []⟩ : S27), 11, r6.2))
            (
              (f113 r6.2).bind fun r10 =>
              cond (r10.1 != 0)
              (
                k ((⟨0, 0, 0, (⟨#[]⟩ : ByteArray), (⟨#[]⟩ : ByteArray), []⟩ : S27), r10.1, r10.2))
              (
                (f85 (⟨6, r1, 0, (⟨#[]⟩ : ByteArray), (⟨#[]⟩ : ByteArray), [(⟨r4.1.c0, r4.1.c1, r4.1.c2, r4.1.c3, r4.1.c4, r4.1.c5⟩ : S27)]⟩ : S27) p0.c2 r10.2).bind fun r11 =>
                k ((⟨r11.1.c0, r11.1.c1, r11.1.c2, r11.1.c3, r11.1.c4, r11.1.c5⟩ : S27), r11.2.1, r11.2.2)))))
        (
          k ((⟨0, 0, 0, (⟨#[]⟩ : ByteArray), (⟨#[]⟩ : ByteArray), []⟩ : S27), 11, r5.2)))))
abbrev Z111_17 : Type := List Int → List S51 → Int → Int → List S27 → Option ((List Int × List S51 × Int × Int × List S27 × Int × Int × Int × Int × ByteArray × ByteArray) ⊕ (List Int × List S51 × Int × Int × List S27))
def lb111_17 {R : Type} (f25 : Y25) (f26 : Y26) (f30 : Y30) (f31 : Y31) (f63 : Y63) (f85 : Y85) (f99 : Y99) (f113 : Y113) (c : List Int → List S51 → Int → Int → List S27 → Option R) (e0 : (List Int × List S51 × Int × Int × List S27 × Int × Int × Int × Int × ByteArray × ByteArray) → Option R) (e1 : (List Int × List S51 × Int × Int × List S27) → Option R) (v42 : List Int) (v43 : List S51) (v44 : Int) (v45 : Int) (v56 : List S27) : Option R :=
  (f25 (⟨v42, v43, v44, v45⟩ : S98)).bind fun r57 =>
  cond (!(r57.toList == (⟨#[41]⟩ : ByteArray).toList))
  (
    cond (decide ((v56.length : Int) > 0))
    (
      (f30 (⟨#[44]⟩ : ByteArray) (⟨v42, v43, v44, v45⟩ : S98)).bind fun r58 =>
      cond (!r58.1)
      (
        e0 (r58.2.c0, r58.2.c1, r58.2.c2, r58.2.c3, v56, 11, 0, 0, 0, (⟨#[]⟩ : ByteArray), (⟨#[]⟩ : ByteArray)))
      (
        (f63 1 r58.2).bind fun r59 =>
        cond (r59.2.1 != 0)
        (
          e0 (r59.2.2.c0, r59.2.2.c1, r59.2.2.c2, r59.2.2.c3, v56, r59.2.1, 0, 0, 0, (⟨#[]⟩ : ByteArray), (⟨#[]⟩ : ByteArray)))
        (
          when_ (decide (v56.length + [(⟨r59.1.c0, r59.1.c1, r59.1.c2, r59.1.c3, r59.1.c4, r59.1.c5⟩ : S27)].length ≤ 1759218604441)) (
            c r59.2.2.c0 r59.2.2.c1 r59.2.2.c2 r59.2.2.c3 (v56 ++ [(⟨r59.1.c0, r59.1.c1, r59.1.c2, r59.1.c3, r59.1.c4, r59.1.c5⟩ : S27)])))))
    (
      (f63 1 (⟨v42, v43, v44, v45⟩ : S98)).bind fun r60 =>
      cond (r60.2.1 != 0)
      (
        e0 (r60.2.2.c0, r60.2.2.c1, r60.2.2.c2, r60.2.2.c3, v56, r60.2.1, 0, 0, 0, (⟨#[]⟩ : ByteArray), (⟨#[]⟩ : ByteArray)))
      (
        when_ (decide (v56.length + [(⟨r60.1.c0, r60.1.c1, r60.1.c2, r60.1.c3, r60.1.c4, r60.1.c5⟩ : S27)].length ≤ 1759218604441)) (
          c r60.2.2.c0 r60.2.2.c1 r60.2.2.c2 r60.2.2.c3 (v56 ++ [(⟨r60.1.c0, r60.1.c1, r60.1.c2, r60.1.c3, r60.1.c4, r60.1.c5⟩ : S27)])))))
  (
    e1 (v42, v43, v44, v45, v56))
def lp111_17 (f25 : Y25) (f26 : Y26) (f30 : Y30) (f31 : Y31) (f63 : Y63) (f85 : Y85) (f99 : Y99) (f113 : Y113) : Nat → Z111_17
  | 0 => fun _ _ _ _ _ => none
  | n + 1 => fun v42 v43 v44 v45 v56 => lb111_17 f25 f26 f30 f31 f63 f85 f99 f113  (fun v42 v43 v44 v45 v56 => lp111_17 f25 f26 f30 f31 f63 f85 f99 f113 n v42 v43 v44 v45 v56) (fun o => some (Sum.inl o)) (fun o => some (Sum.inr (o))) v42 v43 v44 v45 v56
def b111 {R : Type} (f25 : Y25) (f26 : Y26) (f30 : Y30) (f31 : Y31) (f63 : Y63) (f85 : Y85) (f99 : Y99) (f113 : Y113) (l17 : Z111_17) (p0 : S98) (k : (S27 × Int × S98) → Option R) : Option R :=
  (f26 p0).bind fun r1 =>
  (f31 p0).bind fun r2 =>
  cond (!r2.2.1)
  (
    k ((⟨0, 0, 0, (⟨#[]⟩ : ByteArray), (⟨#[]⟩ : ByteArray), []⟩ : S27), 11, r2.2.2))
  (
    (f30 (⟨#[46]⟩ : ByteArray) r2.2.2).bind fun r3 =>
    cond r3.1
    (
      (f31 r3.2).bind fun r4 =>
      cond (!r4.2.1)
      (
        k ((⟨0, 0, 0, (⟨#[]⟩ : ByteArray), (⟨#[]⟩ : ByteArray), []⟩ : S27), 11, r4.2.2))
      (
        when_ (decide ((⟨#[46]⟩ : ByteArray).size + r4.1.size ≤ 9223372036854775807)) (
          when_ (decide (r2.1.size + ((⟨#[46]⟩ : ByteArray) ++ r4.1).size ≤ 9223372036854775807)) (
            (f25 r4.2.2).bind fun r5 =>
            cond (!(r5.toList == (⟨#[40]⟩ : ByteArray).toList))
            (
              k ((⟨2, r1, 0, (r2.1 ++ ((⟨#[46]⟩ : ByteArray) ++ r4.1)), (⟨#[]⟩ : ByteArray), []⟩ : S27), 0, r4.2.2))
            (
              (f99 r4.2.2).bind fun r6 =>
              cond (r6.1 != 0)
              (
                k ((⟨0, 0, 0, (⟨#[]⟩ : ByteArray), (⟨#[]⟩ : ByteArray), []⟩ : S27), r6.1, r6.2))
              (
                (l17 r6.2.c0 r6.2.c1 r6.2.c2 r6.2.c3 []).bind (Sum.elim (fun r61_0 =>
                  k ((⟨r61_0.2.2.2.2.2.2.1, r61_0.2.2.2.2.2.2.2.1, r61_0.2.2.2.2.2.2.2.2.1, r61_0.2.2.2.2.2.2.2.2.2.1, r61_0.2.2.2.2.2.2.2.2.2.2, []⟩ : S27), r61_0.2.2.2.2.2.1, (⟨r61_0.1, r61_0.2.1, r61_0.2.2.1, r61_0.2.2.2.1⟩ : S98))) (fun r61_1 =>
                  (f113 (⟨r61_1.1, r61_1.2.1, r61_1.2.2.1, r61_1.2.2.2.1⟩ : S98)).bind fun r62 =>
                  cond (r62.1 != 0)
                  (
                    k ((⟨0, 0, 0, (⟨#[]⟩ : ByteArray), (⟨#[]⟩ : ByteArray), []⟩ : S27), r62.1, r62.2))
                  (
                    (f85 (⟨3, r1, 0, (r2.1 ++ ((⟨#[46]⟩ : ByteArray) ++ r4.1)), (⟨#[]⟩ : ByteArray), r61_1.2.2.2.2⟩ : S27) p0.c2 r62.2).bind fun r63 =>
                    k ((⟨r63.1.c0, r63.1.c1, r63.1.c2, r63.1.c3, r63.1.c4, r63.1.c5⟩ : S27), r63.2.1, r63.2.2))))))))))
    (
      (f25 r3.2).bind fun r64 =>
      cond (!(r64.toList == (⟨#[40]⟩ : ByteArray).toList))
      (
        k ((⟨2, r1, 0, r2.1, (⟨#[]⟩ : ByteArray), []⟩ : S27), 0, r3.2))
      (
        (f99 r3.2).bind fun r65 =>
        cond (r65.1 != 0)
        (
          k ((⟨0, 0, 0, (⟨#[]⟩ : ByteArray), (⟨#[]⟩ : ByteArray), []⟩ : S27), r65.1, r65.2))
        (
          (l17 r65.2.c0 r65.2.c1 r65.2.c2 r65.2.c3 []).bind (Sum.elim (fun r120_0 =>
            k ((⟨r120_0.2.2.2.2.2.2.1, r120_0.2.2.2.2.2.2.2.1, r120_0.2.2.2.2.2.2.2.2.1, r120_0.2.2.2.2.2.2.2.2.2.1, r120_0.2.2.2.2.2.2.2.2.2.2, []⟩ : S27), r120_0.2.2.2.2.2.1, (⟨r120_0.1, r120_0.2.1, r120_0.2.2.1, r120_0.2.2.2.1⟩ : S98))) (fun r120_1 =>
            (f113 (⟨r120_1.1, r120_1.2.1, r120_1.2.2.1, r120_1.2.2.2.1⟩ : S98)).bind fun r121 =>
            cond (r121.1 != 0)
            (
              k ((⟨0, 0, 0, (⟨#[]⟩ : ByteArray), (⟨#[]⟩ : ByteArray), []⟩ : S27), r121.1, r121.2))
            (
              (f85 (⟨3, r1, 0, r2.1, (⟨#[]⟩ : ByteArray), r120_1.2.2.2.2⟩ : S27) p0.c2 r121.2).bind fun r122 =>
              k ((⟨r122.1.c0, r122.1.c1, r122.1.c2, r122.1.c3, r122.1.c4, r122.1.c5⟩ : S27), r122.2.1, r122.2.2))))))))
structure G63 where
  f63 : Y63
  f83 : Y83
  f98 : Y98
  f109 : Y109
  f110 : Y110
  f111 : Y111
def g63 : Nat → G63
  | 0 => ⟨fun _ _ => none, fun _ => none, fun _ => none, fun _ => none, fun _ => none, fun _ => none⟩
  | n + 1 => ⟨(fun p1 p0 => b63 s25 (g63 n).f63 (g63 n).f83 s84 s85 (lp63_4 s25 (g63 n).f63 (g63 n).f83 s84 s85 big) p1 p0 some),
    (fun p0 => b83 s25 s26 (g63 n).f83 s85 (g63 n).f98 s99 p0 some),
    (fun p0 => b98 s25 s26 s28 s108 (g63 n).f109 (g63 n).f110 (g63 n).f111 p0 some),
    (fun p0 => b109 (g63 n).f63 s99 s113 p0 some),
    (fun p0 => b110 s25 s26 s30 s31 (g63 n).f63 s85 s99 s113 p0 some),
    (fun p0 => b111 s25 s26 s30 s31 (g63 n).f63 s85 s99 s113 (lp111_17 s25 s26 s30 s31 (g63 n).f63 s85 s99 s113 big) p0 some)⟩
def s63 : Y63 := (g63 big).f63
def s83 : Y83 := (g63 big).f83
def s98 : Y98 := (g63 big).f98
def s109 : Y109 := (g63 big).f109
def s110 : Y110 := (g63 big).f110
def s111 : Y111 := (g63 big).f111
abbrev Y34 : Type := S98 → Option (S27 × Int × S98)
def b34 {R : Type} (f63 : Y63) (p0 : S98) (k : (S27 × Int × S98) → Option R) : Option R :=
  (f63 1 p0).bind fun r1 =>
  k ((⟨r1.1.c0, r1.1.c1, r1.1.c2, r1.1.c3, r1.1.c4, r1.1.c5⟩ : S27), r1.2.1, (⟨r1.2.2.c0, r1.2.2.c1, r1.2.2.c2, p0.c3⟩ : S98))
def s34 : Y34 := (fun p0 => b34 s63 p0 some)
abbrev Y105 : Type := S98 → S79 → Option (Int × S98 × S79)
def b105 {R : Type} (f34 : Y34) (f90 : Y90) (p0 : S98) (p1 : S79) (k : (Int × S98 × S79) → Option R) : Option R :=
  (f90 [(⟨#[61]⟩ : ByteArray)] p0).bind fun r1 =>
  cond (r1.1 != 0)
  (
    k (r1.1, r1.2, (⟨p1.c0, p1.c1, p1.c2, p1.c3, p1.c4, p1.c5, p1.c6, p1.c7, p1.c8, p1.c9, p1.c10, p1.c11, p1.c12, p1.c13, p1.c14, p1.c15, p1.c16⟩ : S79)))
  (
    (f34 r1.2).bind fun r2 =>
    cond (r2.2.1 != 0)
    (
      k (r2.2.1, r2.2.2, (⟨p1.c0, p1.c1, p1.c2, p1.c3, p1.c4, p1.c5, p1.c6, p1.c7, p1.c8, r2.1.c0, r2.1.c1, r2.1.c2, r2.1.c3, r2.1.c4, r2.1.c5, p1.c15, p1.c16⟩ : S79)))
    (
      (f90 [(⟨#[59]⟩ : ByteArray)] r2.2.2).bind fun r3 =>
      k (r3.1, r3.2, (⟨p1.c0, p1.c1, p1.c2, p1.c3, p1.c4, p1.c5, p1.c6, p1.c7, p1.c8, r2.1.c0, r2.1.c1, r2.1.c2, r2.1.c3, r2.1.c4, r2.1.c5, p1.c15, p1.c16⟩ : S79))))
def s105 : Y105 := (fun p0 p1 => b105 s34 s90 p0 p1 some)
abbrev Y87 : Type := S98 → S79 → Option (Int × S98 × S79)
def b87 {R : Type} (f41 : Y41) (f43 : Y43) (f68 : Y68) (f90 : Y90) (f105 : Y105) (p0 : S98) (p1 : S79) (k : (Int × S98 × S79) → Option R) : Option R :=
  (f68 p0 p1.c2).bind fun r1 =>
  cond (r1.1 != 0)
  (
    k (r1.1, r1.2.1, (⟨p1.c0, p1.c1, r1.2.2, p1.c3, p1.c4, p1.c5, p1.c6, p1.c7, p1.c8, p1.c9, p1.c10, p1.c11, p1.c12, p1.c13, p1.c14, p1.c15, p1.c16⟩ : S79)))
  (
    (f90 [(⟨#[58]⟩ : ByteArray)] r1.2.1).bind fun r2 =>
    cond (r2.1 != 0)
    (
      k (r2.1, r2.2, (⟨p1.c0, p1.c1, r1.2.2, p1.c3, p1.c4, p1.c5, p1.c6, p1.c7, p1.c8, p1.c9, p1.c10, p1.c11, p1.c12, p1.c13, p1.c14, p1.c15, p1.c16⟩ : S79)))
    (
      (f41 r2.2).bind fun r3 =>
      cond (r3.2.1 != 0)
      (
        k (r3.2.1, r3.2.2, (⟨p1.c0, p1.c1, r1.2.2, r3.1, p1.c4, p1.c5, p1.c6, p1.c7, p1.c8, p1.c9, p1.c10, p1.c11, p1.c12, p1.c13, p1.c14, p1.c15, p1.c16⟩ : S79)))
      (
        (f43 r3.2.2).bind fun r4 =>
        cond (r4.2.1 != 0)
        (
          k (r4.2.1, r4.2.2, (⟨p1.c0, p1.c1, r1.2.2, r3.1, r4.1.c0, r4.1.c1, r4.1.c2, r4.1.c3, r4.1.c4, p1.c9, p1.c10, p1.c11, p1.c12, p1.c13, p1.c14, p1.c15, p1.c16⟩ : S79)))
        (
          (f105 r4.2.2 (⟨p1.c0, p1.c1, r1.2.2, r3.1, r4.1.c0, r4.1.c1, r4.1.c2, r4.1.c3, r4.1.c4, p1.c9, p1.c10, p1.c11, p1.c12, p1.c13, p1.c14, p1.c15, p1.c16⟩ : S79)).bind fun r5 =>
          k (r5.1, r5.2.1, (⟨r5.2.2.c0, r5.2.2.c1, r5.2.2.c2, r5.2.2.c3, r5.2.2.c4, r5.2.2.c5, r5.2.2.c6, r5.2.2.c7, r5.2.2.c8, r5.2.2.c9, r5.2.2.c10, r5.2.2.c11, r5.2.2.c12, r5.2.2.c13, r5.2.2.c14, r5.2.2.c15, r5.2.2.c16⟩ : S79))))))
def s87 : Y87 := (fun p0 p1 => b87 s41 s43 s68 s90 s105 p0 p1 some)
abbrev Y91 : Type := S98 → S79 → Option (Int × S98 × S79)
def b91 {R : Type} (f34 : Y34) (f90 : Y90) (f105 : Y105) (p0 : S98) (p1 : S79) (k : (Int × S98 × S79) → Option R) : Option R :=
  (f34 p0).bind fun r1 =>
  cond (r1.2.1 != 0)
  (
    k (r1.2.1, r1.2.2, (⟨p1.c0, p1.c1, p1.c2, p1.c3, p1.c4, p1.c5, p1.c6, p1.c7, p1.c8, p1.c9, p1.c10, p1.c11, p1.c12, p1.c13, p1.c14, p1.c15, p1.c16⟩ : S79)))
  (
    cond (r1.1.c0 == 2)
    (
      (f105 r1.2.2 (⟨1, p1.c1, r1.1.c3, p1.c3, p1.c4, p1.c5, p1.c6, p1.c7, p1.c8, p1.c9, p1.c10, p1.c11, p1.c12, p1.c13, p1.c14, p1.c15, p1.c16⟩ : S79)).bind fun r2 =>
      k (r2.1, r2.2.1, (⟨r2.2.2.c0, r2.2.2.c1, r2.2.2.c2, r2.2.2.c3, r2.2.2.c4, r2.2.2.c5, r2.2.2.c6, r2.2.2.c7, r2.2.2.c8, r2.2.2.c9, r2.2.2.c10, r2.2.2.c11, r2.2.2.c12, r2.2.2.c13, r2.2.2.c14, r2.2.2.c15, r2.2.2.c16⟩ : S79)))
    (
      cond (r1.1.c0 == 3)
      (
        (f90 [(⟨#[59]⟩ : ByteArray)] r1.2.2).bind fun r3 =>
        k (r3.1, r3.2, (⟨5, p1.c1, p1.c2, p1.c3, p1.c4, p1.c5, p1.c6, p1.c7, p1.c8, r1.1.c0, r1.1.c1, r1.1.c2, r1.1.c3, r1.1.c4, r1.1.c5, p1.c15, p1.c16⟩ : S79)))
      (
        k (11, r1.2.2, (⟨p1.c0, p1.c1, p1.c2, p1.c3, p1.c4, p1.c5, p1.c6, p1.c7, p1.c8, p1.c9, p1.c10, p1.c11, p1.c12, p1.c13, p1.c14, p1.c15, p1.c16⟩ : S79)))))
def s91 : Y91 := (fun p0 p1 => b91 s34 s90 s105 p0 p1 some)
abbrev Y45 : Type := Int → S98 → Option (S79 × Int × S98)
abbrev Y48 : Type := Int → S98 → Option (List S79 × Int × S98)
abbrev Y69 : Type := Int → S98 → S79 → Option (Int × S98 × S79)
abbrev Y88 : Type := Int → S98 → S79 → Option (Int × S98 × S79)
abbrev Y89 : Type := Int → S98 → Option (List S79 × Int × S98)
def b45 {R : Type} (f26 : Y26) (f69 : Y69) (p1 : Int) (p0 : S98) (k : (S79 × Int × S98) → Option R) : Option R :=
  (f26 p0).bind fun r1 =>
  (f69 p1 p0 (⟨0, r1, (⟨#[]⟩ : ByteArray), 0, false, false, (⟨#[]⟩ : ByteArray), 0, 0, 0, 0, 0, (⟨#[]⟩ : ByteArray), (⟨#[]⟩ : ByteArray), [], [], []⟩ : S79)).bind fun r2 =>
  cond (r2.1 != 0)
  (
    k ((⟨0, 0, (⟨#[]⟩ : ByteArray), 0, false, false, (⟨#[]⟩ : ByteArray), 0, 0, 0, 0, 0, (⟨#[]⟩ : ByteArray), (⟨#[]⟩ : ByteArray), [], [], []⟩ : S79), r2.1, r2.2.1))
  (
    k ((⟨r2.2.2.c0, r2.2.2.c1, r2.2.2.c2, r2.2.2.c3, r2.2.2.c4, r2.2.2.c5, r2.2.2.c6, r2.2.2.c7, r2.2.2.c8, r2.2.2.c9, r2.2.2.c10, r2.2.2.c11, r2.2.2.c12, r2.2.2.c13, r2.2.2.c14, r2.2.2.c15, r2.2.2.c16⟩ : S79), 0, r2.2.1))
abbrev Z48_4 : Type := Int → List Int → List S51 → Int → Int → List S79 → Option ((List Int × List S51 × Int × Int × List S79 × Int) ⊕ (List Int × List S51 × Int × Int × List S79))
def lb48_4 {R : Type} (f25 : Y25) (f29 : Y29) (f45 : Y45) (q14 : Int) (c : List Int → List S51 → Int → Int → List S79 → Option R) (e0 : (List Int × List S51 × Int × Int × List S79 × Int) → Option R) (e1 : (List Int × List S51 × Int × Int × List S79) → Option R) (v15 : List Int) (v16 : List S51) (v17 : Int) (v18 : Int) (v19 : List S79) : Option R :=
  (f29 (⟨v15, v16, v17, v18⟩ : S98)).bind fun r20 =>
  cond (!r20)
  (
    (f25 (⟨v15, v16, v17, v18⟩ : S98)).bind fun r21 =>
    cond (!(r21.toList == (⟨#[125]⟩ : ByteArray).toList))
    (
      (f25 (⟨v15, v16, v17, v18⟩ : S98)).bind fun r22 =>
      cond (!(r22.toList == (⟨#[114, 101, 116, 117, 114, 110]⟩ : ByteArray).toList))
      (
        (f45 q14 (⟨v15, v16, v17, v18⟩ : S98)).bind fun r23 =>
        cond (r23.2.1 != 0)
        (
          e0 (r23.2.2.c0, r23.2.2.c1, r23.2.2.c2, r23.2.2.c3, v19, r23.2.1))
        (
          when_ (decide (v19.length + [(⟨r23.1.c0, r23.1.c1, r23.1.c2, r23.1.c3, r23.1.c4, r23.1.c5, r23.1.c6, r23.1.c7, r23.1.c8, r23.1.c9, r23.1.c10, r23.1.c11, r23.1.c12, r23.1.c13, r23.1.c14, r23.1.c15, r23.1.c16⟩ : S79)].length ≤ 676622540169)) (
            c r23.2.2.c0 r23.2.2.c1 r23.2.2.c2 r23.2.2.c3 (v19 ++ [(⟨r23.1.c0, r23.1.c1, r23.1.c2, r23.1.c3, r23.1.c4, r23.1.c5, r23.1.c6, r23.1.c7, r23.1.c8, r23.1.c9, r23.1.c10, r23.1.c11, r23.1.c12, r23.1.c13, r23.1.c14, r23.1.c15, r23.1.c16⟩ : S79)]))))
      (
        e1 (v15, v16, v17, v18, v19)))
    (
      e1 (v15, v16, v17, v18, v19)))
  (
    e1 (v15, v16, v17, v18, v19))
def lp48_4 (f25 : Y25) (f29 : Y29) (f45 : Y45) : Nat → Z48_4
  | 0 => fun _ _ _ _ _ _ => none
  | n + 1 => fun q14 v15 v16 v17 v18 v19 => lb48_4 f25 f29 f45 q14 (fun v15 v16 v17 v18 v19 => lp48_4 f25 f29 f45 n q14 v15 v16 v17 v18 v19) (fun o => some (Sum.inl o)) (fun o => some (Sum.inr (o))) v15 v16 v17 v18 v19
def b48 {R : Type} (f25 : Y25) (f29 : Y29) (f45 : Y45) (l4 : Z48_4) (p1 : Int) (p0 : S98) (k : (List S79 × Int × S98) → Option R) : Option R :=
  (l4 p1 p0.c0 p0.c1 p0.c2 p0.c3 []).bind (Sum.elim (fun r24_0 =>
    k ([], r24_0.2.2.2.2.2, (⟨r24_0.1, r24_0.2.1, r24_0.2.2.1, r24_0.2.2.2.1⟩ : S98))) (fun r24_1 =>
    k (r24_1.2.2.2.2, 0, (⟨r24_1.1, r24_1.2.1, r24_1.2.2.1, r24_1.2.2.2.1⟩ : S98))))
def b69 {R : Type} (f30 : Y30) (f68 : Y68) (f87 : Y87) (f88 : Y88) (f89 : Y89) (f90 : Y90) (f91 : Y91) (p2 : Int) (p0 : S98) (p1 : S79) (k : (Int × S98 × S79) → Option R) : Option R :=
  (f30 (⟨#[108, 101, 116]⟩ : ByteArray) p0).bind fun r1 =>
  cond r1.1
  (
    (f87 r1.2 (⟨0, p1.c1, p1.c2, p1.c3, p1.c4, p1.c5, p1.c6, p1.c7, p1.c8, p1.c9, p1.c10, p1.c11, p1.c12, p1.c13, p1.c14, p1.c15, p1.c16⟩ : S79)).bind fun r2 =>
    k (r2.1, r2.2.1, (⟨r2.2.2.c0, r2.2.2.c1, r2.2.2.c2, r2.2.2.c3, r2.2.2.c4, r2.2.2.c5, r2.2.2.c6, r2.2.2.c7, r2.2.2.c8, r2.2.2.c9, r2.2.2.c10, r2.2.2.c11, r2.2.2.c12, r2.2.2.c13, r2.2.2.c14, r2.2.2.c15, r2.2.2.c16⟩ : S79)))
  (
    (f30 (⟨#[105, 102]⟩ : ByteArray) r1.2).bind fun r3 =>
    cond r3.1
    (
      (f88 p2 r3.2 (⟨2, p1.c1, p1.c2, p1.c3, p1.c4, p1.c5, p1.c6, p1.c7, p1.c8, p1.c9, p1.c10, p1.c11, p1.c12, p1.c13, p1.c14, p1.c15, p1.c16⟩ : S79)).bind fun r4 =>
      cond (r4.1 == 0)
      (
        (f30 (⟨#[101, 108, 115, 101]⟩ : ByteArray) r4.2.1).bind fun r5 =>
        cond r5.1
        (
          (f89 p2 r5.2).bind fun r6 =>
          k (r6.2.1, r6.2.2, (⟨r4.2.2.c0, r4.2.2.c1, r4.2.2.c2, r4.2.2.c3, r4.2.2.c4, r4.2.2.c5, r4.2.2.c6, r4.2.2.c7, r4.2.2.c8, r4.2.2.c9, r4.2.2.c10, r4.2.2.c11, r4.2.2.c12, r4.2.2.c13, r4.2.2.c14, r4.2.2.c15, r6.1⟩ : S79)))
        (
          k (r4.1, r5.2, (⟨r4.2.2.c0, r4.2.2.c1, r4.2.2.c2, r4.2.2.c3, r4.2.2.c4, r4.2.2.c5, r4.2.2.c6, r4.2.2.c7, r4.2.2.c8, r4.2.2.c9, r4.2.2.c10, r4.2.2.c11, r4.2.2.c12, r4.2.2.c13, r4.2.2.c14, r4.2.2.c15, r4.2.2.c16⟩ : S79))))
      (
        k (r4.1, r4.2.1, (⟨r4.2.2.c0, r4.2.2.c1, r4.2.2.c2, r4.2.2.c3, r4.2.2.c4, r4.2.2.c5, r4.2.2.c6, r4.2.2.c7, r4.2.2.c8, r4.2.2.c9, r4.2.2.c10, r4.2.2.c11, r4.2.2.c12, r4.2.2.c13, r4.2.2.c14, r4.2.2.c15, r4.2.2.c16⟩ : S79))))
    (
      (f30 (⟨#[119, 104, 105, 108, 101]⟩ : ByteArray) r3.2).bind fun r7 =>
      cond r7.1
      (
        (f88 p2 r7.2 (⟨3, p1.c1, p1.c2, p1.c3, p1.c4, p1.c5, p1.c6, p1.c7, p1.c8, p1.c9, p1.c10, p1.c11, p1.c12, p1.c13, p1.c14, p1.c15, p1.c16⟩ : S79)).bind fun r8 =>
        k (r8.1, r8.2.1, (⟨r8.2.2.c0, r8.2.2.c1, r8.2.2.c2, r8.2.2.c3, r8.2.2.c4, r8.2.2.c5, r8.2.2.c6, r8.2.2.c7, r8.2.2.c8, r8.2.2.c9, r8.2.2.c10, r8.2.2.c11, r8.2.2.c12, r8.2.2.c13, r8.2.2.c14, r8.2.2.c15, r8.2.2.c16⟩ : S79)))
      (
        (f30 (⟨#[100, 111]⟩ : ByteArray) r7.2).bind fun r9 =>
        cond r9.1
        (
          (f68 r9.2 p1.c2).bind fun r10 =>
          cond (r10.1 != 0)
          (
            k (r10.1, r10.2.1, (⟨4, p1.c1, r10.2.2, p1.c3, p1.c4, p1.c5, p1.c6, p1.c7, p1.c8, p1.c9, p1.c10, p1.c11, p1.c12, p1.c13, p1.c14, p1.c15, p1.c16⟩ : S79)))
          (
            (f90 [(⟨#[59]⟩ : ByteArray)] r10.2.1).bind fun r11 =>
            k (r11.1, r11.2, (⟨4, p1.c1, r10.2.2, p1.c3, p1.c4, p1.c5, p1.c6, p1.c7, p1.c8, p1.c9, p1.c10, p1.c11, p1.c12, p1.c13, p1.c14, p1.c15, p1.c16⟩ : S79))))
        (
          (f91 r9.2 (⟨p1.c0, p1.c1, p1.c2, p1.c3, p1.c4, p1.c5, p1.c6, p1.c7, p1.c8, p1.c9, p1.c10, p1.c11, p1.c12, p1.c13, p1.c14, p1.c15, p1.c16⟩ : S79)).bind fun r12 =>
          k (r12.1, r12.2.1, (⟨r12.2.2.c0, r12.2.2.c1, r12.2.2.c2, r12.2.2.c3, r12.2.2.c4, r12.2.2.c5, r12.2.2.c6, r12.2.2.c7, r12.2.2.c8, r12.2.2.c9, r12.2.2.c10, r12.2.2.c11, r12.2.2.c12, r12.2.2.c13, r12.2.2.c14, r12.2.2.c15, r12.2.2.c16⟩ : S79))))))
def b88 {R : Type} (f34 : Y34) (f89 : Y89) (f90 : Y90) (p2 : Int) (p0 : S98) (p1 : S79) (k : (Int × S98 × S79) → Option R) : Option R :=
  (f90 [(⟨#[40]⟩ : ByteArray)] p0).bind fun r1 =>
  cond (r1.1 != 0)
  (
    k (r1.1, r1.2, (⟨p1.c0, p1.c1, p1.c2, p1.c3, p1.c4, p1.c5, p1.c6, p1.c7, p1.c8, p1.c9, p1.c10, p1.c11, p1.c12, p1.c13, p1.c14, p1.c15, p1.c16⟩ : S79)))
  (
    (f34 r1.2).bind fun r2 =>
    cond (r2.2.1 != 0)
    (
      k (r2.2.1, r2.2.2, (⟨p1.c0, p1.c1, p1.c2, p1.c3, p1.c4, p1.c5, p1.c6, p1.c7, p1.c8, r2.1.c0, r2.1.c1, r2.1.c2, r2.1.c3, r2.1.c4, r2.1.c5, p1.c15, p1.c16⟩ : S79)))
    (
      (f90 [(⟨#[41]⟩ : ByteArray)] r2.2.2).bind fun r3 =>
      cond (r3.1 != 0)
      (
        k (r3.1, r3.2, (⟨p1.c0, p1.c1, p1.c2, p1.c3, p1.c4, p1.c5, p1.c6, p1.c7, p1.c8, r2.1.c0, r2.1.c1, r2.1.c2, r2.1.c3, r2.1.c4, r2.1.c5, p1.c15, p1.c16⟩ : S79)))
      (
        (f89 p2 r3.2).bind fun r4 =>
        k (r4.2.1, r4.2.2, (⟨p1.c0, p1.c1, p1.c2, p1.c3, p1.c4, p1.c5, p1.c6, p1.c7, p1.c8, r2.1.c0, r2.1.c1, r2.1.c2, r2.1.c3, r2.1.c4, r2.1.c5, r4.1, p1.c16⟩ : S79)))))
def b89 {R : Type} (f25 : Y25) (f48 : Y48) (f90 : Y90) (p1 : Int) (p0 : S98) (k : (List S79 × Int × S98) → Option R) : Option R :=
  (f25 p0).bind fun r1 =>
  cond (r1.toList == (⟨#[123]⟩ : ByteArray).toList)
  (
    cond (decide (p1 ≥ 32))
    (
      k ([], 12, p0))
    (
      (f90 [(⟨#[123]⟩ : ByteArray)] p0).bind fun r2 =>
      cond (r2.1 != 0)
      (
        k ([], r2.1, r2.2))
      (
        (f48 (w64 (p1 + 1)) r2.2).bind fun r3 =>
        cond (r3.2.1 == 0)
        (
          (f90 [(⟨#[125]⟩ : ByteArray)] r3.2.2).bind fun r4 =>
          cond (r4.1 != 0)
          (
            k ([], r4.1, r4.2))
          (
            k (r3.1, 0, r4.2)))
        (
          cond (r3.2.1 != 0)
          (
            k ([], r3.2.1, r3.2.2))
          (
            k (r3.1, 0, r3.2.2))))))
  (
    (f90 [(⟨#[123]⟩ : ByteArray)] p0).bind fun r5 =>
    cond (r5.1 != 0)
    (
      k ([], r5.1, r5.2))
    (
      (f48 (w64 (p1 + 1)) r5.2).bind fun r6 =>
      cond (r6.2.1 == 0)
      (
        (f90 [(⟨#[125]⟩ : ByteArray)] r6.2.2).bind fun r7 =>
        cond (r7.1 != 0)
        (
          k ([], r7.1, r7.2))
        (
          k (r6.1, 0, r7.2)))
      (
        cond (r6.2.1 != 0)
        (
          k ([], r6.2.1, r6.2.2))
        (
          k (r6.1, 0, r6.2.2)))))
structure G45 where
  f45 : Y45
  f48 : Y48
  f69 : Y69
  f88 : Y88
  f89 : Y89
def g45 : Nat → G45
  | 0 => ⟨fun _ _ => none, fun _ _ => none, fun _ _ _ => none, fun _ _ _ => none, fun _ _ => none⟩
  | n + 1 => ⟨(fun p1 p0 => b45 s26 (g45 n).f69 p1 p0 some),
    (fun p1 p0 => b48 s25 s29 (g45 n).f45 (lp48_4 s25 s29 (g45 n).f45 big) p1 p0 some),
    (fun p2 p0 p1 => b69 s30 s68 s87 (g45 n).f88 (g45 n).f89 s90 s91 p2 p0 p1 some),
    (fun p2 p0 p1 => b88 s34 (g45 n).f89 s90 p2 p0 p1 some),
    (fun p1 p0 => b89 s25 (g45 n).f48 s90 p1 p0 some)⟩
def s45 : Y45 := (g45 big).f45
def s48 : Y48 := (g45 big).f48
def s69 : Y69 := (g45 big).f69
def s88 : Y88 := (g45 big).f88
def s89 : Y89 := (g45 big).f89
abbrev Y75 : Type := S51 → Option Bool
def b75 {R : Type} (p0 : S51) (k : Bool → Option R) : Option R :=
  k (p0.c0 == 5)
def s75 : Y75 := (fun p0 => b75 p0 some)
abbrev Y74_75 : Type := (List S51) → Option Int
abbrev Z74_75_2 : Type := Int → List S51 → Int → Option ((Int × Int) ⊕ Int)
def lb74_75_2 {R : Type} (f75 : Y75) (q6 : Int) (q5 : List S51) (c : Int → Option R) (e0 : (Int × Int) → Option R) (e1 : Int → Option R) (v7 : Int) : Option R :=
  cond (decide (v7 < q6))
  (
    when_ (decide (0 ≤ v7) && decide (v7 < (q5.length : Int))) (
      (f75 (q5.getD v7.toNat z51)).bind fun r8 =>
      cond r8
      (
        e0 (v7, v7))
      (
        c (w64 (v7 + 1)))))
  (
    e1 v7)
def lp74_75_2 (f75 : Y75) : Nat → Z74_75_2
  | 0 => fun _ _ _ => none
  | n + 1 => fun q6 q5 v7 => lb74_75_2 f75 q6 q5 (fun v7 => lp74_75_2 f75 n q6 q5 v7) (fun o => some (Sum.inl o)) (fun o => some (Sum.inr (o))) v7
def b74_75 {R : Type} (f75 : Y75) (l2 : Z74_75_2) (p0 : (List S51)) (k : Int → Option R) : Option R :=
  (l2 (p0.length : Int) p0 0).bind (Sum.elim (fun r9_0 =>
    k r9_0.2) (fun r9_1 =>
    k (-1)))
def s74_75 : Y74_75 := (fun p0 => b74_75 s75 (lp74_75_2 s75 big) p0 some)
abbrev Y49 : Type := (List S51) → Option (S51 × Bool)
def b49 {R : Type} (f74_75 : Y74_75) (p0 : (List S51)) (k : (S51 × Bool) → Option R) : Option R :=
  (f74_75 p0).bind fun r1 =>
  cond (decide (r1 < 0))
  (
    k ((⟨0, 0, 0⟩ : S51), false))
  (
    when_ (decide (0 ≤ r1) && decide (r1 < (p0.length : Int))) (
      k (p0.getD r1.toNat z51, true)))
def s49 : Y49 := (fun p0 => b49 s74_75 p0 some)
abbrev Y38 : Type := (List Int) → Option (List S79 × Int × Int)
def b38 {R : Type} (f22 : Y22) (f26 : Y26) (f29 : Y29) (f48 : Y48) (f49 : Y49) (f50 : Y50) (p0 : (List Int)) (k : (List S79 × Int × Int) → Option R) : Option R :=
  (f50 p0).bind fun r1 =>
  (f49 r1).bind fun r2 =>
  cond r2.2
  (
    k ([], r2.1.c1, 10))
  (
    (f22 p0).bind fun r3 =>
    (f48 0 r3).bind fun r4 =>
    cond (r4.2.1 == 0)
    (
      (f29 r4.2.2).bind fun r5 =>
      cond (!r5)
      (
        (f26 r4.2.2).bind fun r6 =>
        k ([], r6, 11))
      (
        cond (r4.2.1 != 0)
        (
          (f26 r4.2.2).bind fun r7 =>
          k ([], r7, r4.2.1))
        (
          k (r4.1, (p0.length : Int), 0))))
    (
      cond (r4.2.1 != 0)
      (
        (f26 r4.2.2).bind fun r8 =>
        k ([], r8, r4.2.1))
      (
        k (r4.1, (p0.length : Int), 0))))
def s38 : Y38 := (fun p0 => b38 s22 s26 s29 s48 s49 s50 p0 some)
abbrev Y37 : Type := Option Bool
def b37 {R : Type} (f38 : Y38) (k : Bool → Option R) : Option R :=
  (f38 [108, 101, 116, 32, 120, 58, 32, 105, 110, 116, 32, 64, 108, 111, 119, 32, 61, 32, 49, 59]).bind fun r1 =>
  cond ((r1.1.length : Int) == 1)
  (
    cond (r1.2.1 == 20)
    (
      cond (r1.2.2 == 0)
      (
        when_ (decide (0 ≤ 0) && decide (0 < (r1.1.length : Int))) (
          cond ((r1.1.getD 0 z79).c0 == 0)
          (
            when_ (decide (0 ≤ 0) && decide (0 < (r1.1.length : Int))) (
              cond ((r1.1.getD 0 z79).c4)
              (
                when_ (decide (0 ≤ 0) && decide (0 < (r1.1.length : Int))) (
                  cond ((r1.1.getD 0 z79).c7 == 12)
                  (
                    when_ (decide (0 ≤ 0) && decide (0 < (r1.1.length : Int))) (
                      cond ((r1.1.getD 0 z79).c8 == 15)
                      (
                        when_ (decide (0 ≤ 0) && decide (0 < (r1.1.length : Int))) (
                          k ((r1.1.getD 0 z79).c11 == 1)))
                      (
                        k false)))
                  (
                    k false)))
              (
                k false)))
          (
            k false)))
      (
        k false))
    (
      k false))
  (
    k false)
def s37 : Y37 := (b37 s38 some)
abbrev Y54 : Type := (List S51) → Option (List S51)
abbrev Z54_3 : Type := List S51 → Int → List S51 → Option (Int × List S51)
def lb54_3 {R : Type} (q6 : List S51) (c : Int → List S51 → Option R) (e0 : (Int × List S51) → Option R) (v7 : Int) (v8 : List S51) : Option R :=
  cond (decide (v7 < (q6.length : Int)))
  (
    when_ (decide (0 ≤ v7) && decide (v7 < (q6.length : Int))) (
      cond (decide ((q6.getD v7.toNat z51).c0 > 1))
      (
        when_ (decide (0 ≤ v7) && decide (v7 < (q6.length : Int))) (
          when_ (decide (v8.length + [(q6.getD v7.toNat z51)].length ≤ 5864062014805)) (
            c (w64 (v7 + 1)) (v8 ++ [(q6.getD v7.toNat z51)]))))
      (
        when_ (decide (0 ≤ v7) && decide (v7 < (q6.length : Int))) (
          cond (decide ((q6.getD v7.toNat z51).c0 < 0))
          (
            when_ (decide (0 ≤ v7) && decide (v7 < (q6.length : Int))) (
              when_ (decide (v8.length + [(q6.getD v7.toNat z51)].length ≤ 5864062014805)) (
                c (w64 (v7 + 1)) (v8 ++ [(q6.getD v7.toNat z51)]))))
          (
            c (w64 (v7 + 1)) v8)))))
  (
    e0 (v7, v8))
def lp54_3 : Nat → Z54_3
  | 0 => fun _ _ _ => none
  | n + 1 => fun q6 v7 v8 => lb54_3 q6 (fun v7 v8 => lp54_3 n q6 v7 v8) (fun o => some o) v7 v8
def b54 {R : Type} (l3 : Z54_3) (p0 : (List S51)) (k : (List S51) → Option R) : Option R :=
  (l3 p0 0 []).bind fun r9_0 =>
  k r9_0.2
def s54 : Y54 := (fun p0 => b54 (lp54_3 big) p0 some)
abbrev Y60 : Type := Int → Option Bool
def b60 {R : Type} (p0 : Int) (k : Bool → Option R) : Option R :=
  cond (decide (p0 ≥ 97))
  (
    cond (decide (p0 ≤ 122))
    (
      k true)
    (
      cond (decide (p0 ≥ 65))
      (
        cond (decide (p0 ≤ 90))
        (
          k true)
        (
          k (p0 == 95)))
      (
        k (p0 == 95))))
  (
    cond (decide (p0 ≥ 65))
    (
      cond (decide (p0 ≤ 90))
      (
        k true)
      (
        k (p0 == 95)))
    (
      k (p0 == 95)))
def s60 : Y60 := (fun p0 => b60 p0 some)
abbrev Y61 : Type := Int → Option Bool
def b61 {R : Type} (p0 : Int) (k : Bool → Option R) : Option R :=
  cond (decide (p0 ≥ 48))
  (
    k (decide (p0 ≤ 57)))
  (
    k false)
def s61 : Y61 := (fun p0 => b61 p0 some)
abbrev Y77 : Type := ByteArray → Option Int
abbrev Z77_9 : Type := ByteArray → ByteArray → Int → Option ((Int × Int) ⊕ Int)
def lb77_9 {R : Type} (q13 : ByteArray) (q12 : ByteArray) (c : Int → Option R) (e0 : (Int × Int) → Option R) (e1 : Int → Option R) (v14 : Int) : Option R :=
  cond (decide (v14 < (q13.size : Int)))
  (
    cond (decide ((q12.size : Int) ≥ 1))
    (
      when_ (decide (0 ≤ 0) && decide (0 < (q12.size : Int))) (
        when_ (decide (0 ≤ v14) && decide (v14 < (q13.size : Int))) (
          cond ((bt q12 0) == (bt q13 v14))
          (
            e0 (v14, 1))
          (
            c (w64 (v14 + 1))))))
    (
      c (w64 (v14 + 1))))
  (
    e1 v14)
def lp77_9 : Nat → Z77_9
  | 0 => fun _ _ _ => none
  | n + 1 => fun q13 q12 v14 => lb77_9 q13 q12 (fun v14 => lp77_9 n q13 q12 v14) (fun o => some (Sum.inl o)) (fun o => some (Sum.inr (o))) v14
abbrev Z77_3 : Type := List ByteArray → ByteArray → Int → Option ((Int × Int) ⊕ Int)
def lb77_3 {R : Type} (q6 : List ByteArray) (q4 : ByteArray) (c : Int → Option R) (e0 : (Int × Int) → Option R) (e1 : Int → Option R) (v5 : Int) : Option R :=
  cond (decide (v5 < (q6.length : Int)))
  (
    cond (decide ((q4.size : Int) ≥ 2))
    (
      when_ (decide ((0 : Int) ≤ 2) && decide (2 ≤ (q4.size : Int)) && (decide ((0 : Int) ≤ 0) && decide (0 ≤ 2))) (
        when_ (decide (0 ≤ v5) && decide (v5 < (q6.length : Int))) (
          cond ((q4.extract 0 2).toList == (q6.getD v5.toNat (⟨#[]⟩ : ByteArray)).toList)
          (
            e0 (v5, 2))
          (
            c (w64 (v5 + 1))))))
    (
      c (w64 (v5 + 1))))
  (
    e1 v5)
def lp77_3 : Nat → Z77_3
  | 0 => fun _ _ _ => none
  | n + 1 => fun q6 q4 v5 => lb77_3 q6 q4 (fun v5 => lp77_3 n q6 q4 v5) (fun o => some (Sum.inl o)) (fun o => some (Sum.inr (o))) v5
def b77 {R : Type} (l3 : Z77_3) (l9 : Z77_9) (p0 : ByteArray) (k : Int → Option R) : Option R :=
  (l3 [(⟨#[61, 61]⟩ : ByteArray), (⟨#[38, 38]⟩ : ByteArray), (⟨#[124, 124]⟩ : ByteArray), (⟨#[64, 61]⟩ : ByteArray)] p0 0).bind (Sum.elim (fun r7_0 =>
    k r7_0.2) (fun r7_1 =>
    (l9 (⟨#[40, 41, 123, 125, 44, 59, 58, 46, 60, 43, 45, 42, 33, 61, 64, 47]⟩ : ByteArray) p0 0).bind (Sum.elim (fun r16_0 =>
      k r16_0.2) (fun r16_1 =>
      k 0))))
def s77 : Y77 := (fun p0 => b77 (lp77_3 big) (lp77_9 big) p0 some)
abbrev Y55 : Type := ByteArray → Option (List S51)
abbrev Z55_21 : Type := ByteArray → Int → Option Int
def lb55_21 {R : Type} (f60 : Y60) (f61 : Y61) (f77 : Y77) (q212 : ByteArray) (c : Int → Option R) (e0 : Int → Option R) (v214 : Int) : Option R :=
  cond (decide (v214 < (q212.size : Int)))
  (
    when_ (decide (0 ≤ v214) && decide (v214 < (q212.size : Int))) (
      (f61 (bt q212 v214)).bind fun r217 =>
      cond r217
      (
        c (w64 (v214 + 1)))
      (
        e0 v214)))
  (
    e0 v214)
def lp55_21 (f60 : Y60) (f61 : Y61) (f77 : Y77) : Nat → Z55_21
  | 0 => fun _ _ => none
  | n + 1 => fun q212 v214 => lb55_21 f60 f61 f77 q212 (fun v214 => lp55_21 f60 f61 f77 n q212 v214) (fun o => some o) v214
abbrev Z55_17 : Type := ByteArray → Int → Option Int
def lb55_17 {R : Type} (f60 : Y60) (f61 : Y61) (f77 : Y77) (q197 : ByteArray) (c : Int → Option R) (e0 : Int → Option R) (v199 : Int) : Option R :=
  cond (decide (v199 < (q197.size : Int)))
  (
    when_ (decide (0 ≤ v199) && decide (v199 < (q197.size : Int))) (
      (f60 (bt q197 v199)).bind fun r202 =>
      cond r202
      (
        c (w64 (v199 + 1)))
      (
        when_ (decide (0 ≤ v199) && decide (v199 < (q197.size : Int))) (
          (f61 (bt q197 v199)).bind fun r203 =>
          cond r203
          (
            c (w64 (v199 + 1)))
          (
            e0 v199)))))
  (
    e0 v199)
def lp55_17 (f60 : Y60) (f61 : Y61) (f77 : Y77) : Nat → Z55_17
  | 0 => fun _ _ => none
  | n + 1 => fun q197 v199 => lb55_17 f60 f61 f77 q197 (fun v199 => lp55_17 f60 f61 f77 n q197 v199) (fun o => some o) v199
abbrev Z55_13 : Type := ByteArray → Int → Option Int
def lb55_13 {R : Type} (f60 : Y60) (f61 : Y61) (f77 : Y77) (q183 : ByteArray) (c : Int → Option R) (e0 : Int → Option R) (v185 : Int) : Option R :=
  cond (decide (v185 < (q183.size : Int)))
  (
    when_ (decide (0 ≤ v185) && decide (v185 < (q183.size : Int))) (
      cond ((bt q183 v185) != 10)
      (
        c (w64 (v185 + 1)))
      (
        e0 v185)))
  (
    e0 v185)
def lp55_13 (f60 : Y60) (f61 : Y61) (f77 : Y77) : Nat → Z55_13
  | 0 => fun _ _ => none
  | n + 1 => fun q183 v185 => lb55_13 f60 f61 f77 q183 (fun v185 => lp55_13 f60 f61 f77 n q183 v185) (fun o => some o) v185
abbrev Z55_9 : Type := ByteArray → Int → Option Int
def lb55_9 {R : Type} (f60 : Y60) (f61 : Y61) (f77 : Y77) (q172 : ByteArray) (c : Int → Option R) (e0 : Int → Option R) (v174 : Int) : Option R :=
  cond (decide (v174 < (q172.size : Int)))
  (
    when_ (decide (0 ≤ v174) && decide (v174 < (q172.size : Int))) (
      cond ((bt q172 v174) == 32)
      (
        c (w64 (v174 + 1)))
      (
        when_ (decide (0 ≤ v174) && decide (v174 < (q172.size : Int))) (
          cond ((bt q172 v174) == 9)
          (
            c (w64 (v174 + 1)))
          (
            when_ (decide (0 ≤ v174) && decide (v174 < (q172.size : Int))) (
              cond ((bt q172 v174) == 10)
              (
                c (w64 (v174 + 1)))
              (
                when_ (decide (0 ≤ v174) && decide (v174 < (q172.size : Int))) (
                  cond ((bt q172 v174) == 13)
                  (
                    c (w64 (v174 + 1)))
                  (
                    e0 v174)))))))))
  (
    e0 v174)
def lp55_9 (f60 : Y60) (f61 : Y61) (f77 : Y77) : Nat → Z55_9
  | 0 => fun _ _ => none
  | n + 1 => fun q172 v174 => lb55_9 f60 f61 f77 q172 (fun v174 => lp55_9 f60 f61 f77 n q172 v174) (fun o => some o) v174
abbrev Z55_3 : Type := ByteArray → Int → List S51 → Option (Int × List S51)
def lb55_3 {R : Type} (f60 : Y60) (f61 : Y61) (f77 : Y77) (l9 : Z55_9) (l13 : Z55_13) (l17 : Z55_17) (l21 : Z55_21) (q164 : ByteArray) (c : Int → List S51 → Option R) (e0 : (Int × List S51) → Option R) (v165 : Int) (v166 : List S51) : Option R :=
  cond (decide (v165 < (q164.size : Int)))
  (
    when_ (decide (0 ≤ v165) && decide (v165 < (q164.size : Int))) (
      cond ((bt q164 v165) == 32)
      (
        (l9 q164 (w64 (v165 + 1))).bind fun r252_0 =>
        when_ (decide (v166.length + [(⟨0, v165, r252_0⟩ : S51)].length ≤ 5864062014805)) (
          c r252_0 (v166 ++ [(⟨0, v165, r252_0⟩ : S51)])))
      (
        cond ((bt q164 v165) == 9)
        (
          (l9 q164 (w64 (v165 + 1))).bind fun r241_0 =>
          when_ (decide (v166.length + [(⟨0, v165, r241_0⟩ : S51)].length ≤ 5864062014805)) (
            c r241_0 (v166 ++ [(⟨0, v165, r241_0⟩ : S51)])))
        (
          cond ((bt q164 v165) == 10)
          (
            (l9 q164 (w64 (v165 + 1))).bind fun r230_0 =>
            when_ (decide (v166.length + [(⟨0, v165, r230_0⟩ : S51)].length ≤ 5864062014805)) (
              c r230_0 (v166 ++ [(⟨0, v165, r230_0⟩ : S51)])))
          (
            cond ((bt q164 v165) == 13)
            (
              (l9 q164 (w64 (v165 + 1))).bind fun r177_0 =>
              when_ (decide (v166.length + [(⟨0, v165, r177_0⟩ : S51)].length ≤ 5864062014805)) (
                c r177_0 (v166 ++ [(⟨0, v165, r177_0⟩ : S51)])))
            (
              cond ((bt q164 v165) == 35)
              (
                (l13 q164 (w64 (v165 + 1))).bind fun r188_0 =>
                when_ (decide (v166.length + [(⟨1, v165, r188_0⟩ : S51)].length ≤ 5864062014805)) (
                  c r188_0 (v166 ++ [(⟨1, v165, r188_0⟩ : S51)])))
              (
                (f60 (bt q164 v165)).bind fun r189 =>
                cond r189
                (
                  (l17 q164 (w64 (v165 + 1))).bind fun r204_0 =>
                  when_ (decide (v166.length + [(⟨2, v165, r204_0⟩ : S51)].length ≤ 5864062014805)) (
                    c r204_0 (v166 ++ [(⟨2, v165, r204_0⟩ : S51)])))
                (
                  (f61 (bt q164 v165)).bind fun r205 =>
                  cond r205
                  (
                    (l21 q164 (w64 (v165 + 1))).bind fun r218_0 =>
                    when_ (decide (v166.length + [(⟨3, v165, r218_0⟩ : S51)].length ≤ 5864062014805)) (
                      c r218_0 (v166 ++ [(⟨3, v165, r218_0⟩ : S51)])))
                  (
                    when_ (decide ((0 : Int) ≤ (q164.size : Int)) && decide ((q164.size : Int) ≤ (q164.size : Int)) && (decide ((0 : Int) ≤ v165) && decide (v165 ≤ (q164.size : Int)))) (
                      (f77 (q164.extract v165.toNat (q164.size : Int).toNat)).bind fun r219 =>
                      cond (decide (r219 > 0))
                      (
                        when_ (decide (v166.length + [(⟨4, v165, w64 (v165 + r219)⟩ : S51)].length ≤ 5864062014805)) (
                          c (w64 (v165 + r219)) (v166 ++ [(⟨4, v165, w64 (v165 + r219)⟩ : S51)])))
                      (
                        when_ (decide (v166.length + [(⟨5, v165, w64 (v165 + 1)⟩ : S51)].length ≤ 5864062014805)) (
                          c (w64 (v165 + 1)) (v166 ++ [(⟨5, v165, w64 (v165 + 1)⟩ : S51)])))))))))))))
  (
    e0 (v165, v166))
def lp55_3 (f60 : Y60) (f61 : Y61) (f77 : Y77) (l9 : Z55_9) (l13 : Z55_13) (l17 : Z55_17) (l21 : Z55_21) : Nat → Z55_3
  | 0 => fun _ _ _ => none
  | n + 1 => fun q164 v165 v166 => lb55_3 f60 f61 f77 l9 l13 l17 l21 q164 (fun v165 v166 => lp55_3 f60 f61 f77 l9 l13 l17 l21 n q164 v165 v166) (fun o => some o) v165 v166
def b55 {R : Type} (f60 : Y60) (f61 : Y61) (f77 : Y77) (l3 : Z55_3) (l9 : Z55_9) (l13 : Z55_13) (l17 : Z55_17) (l21 : Z55_21) (p0 : ByteArray) (k : (List S51) → Option R) : Option R :=
  (l3 p0 0 []).bind fun r253_0 =>
  k r253_0.2
def s55 : Y55 := (fun p0 => b55 s60 s61 s77 (lp55_3 s60 s61 s77 (lp55_9 s60 s61 s77 big) (lp55_13 s60 s61 s77 big) (lp55_17 s60 s61 s77 big) (lp55_21 s60 s61 s77 big) big) (lp55_9 s60 s61 s77 big) (lp55_13 s60 s61 s77 big) (lp55_17 s60 s61 s77 big) (lp55_21 s60 s61 s77 big) p0 some)
abbrev Y21 : Type := ByteArray → Option S41
def b21 {R : Type} (f54 : Y54) (f55 : Y55) (p0 : ByteArray) (k : S41 → Option R) : Option R :=
  (f55 p0).bind fun r1 =>
  (f54 r1).bind fun r2 =>
  k (⟨p0, r2⟩ : S41)
def s21 : Y21 := (fun p0 => b21 s54 s55 p0 some)
abbrev Y27 : Type := S41 → Int → Option Int
def b27 {R : Type} (p0 : S41) (p1 : Int) (k : Int → Option R) : Option R :=
  cond (decide (p1 ≥ (p0.c1.length : Int)))
  (
    k (p0.c0.size : Int))
  (
    when_ (decide (0 ≤ p1) && decide (p1 < (p0.c1.length : Int))) (
      k ((p0.c1.getD p1.toNat z51).c1)))
def s27 : Y27 := (fun p0 p1 => b27 p0 p1 some)
abbrev Y51 : Type := ByteArray → Option Int
abbrev Z51_3 : Type := List S51 → Int → Option ((Int × Int) ⊕ Int)
def lb51_3 {R : Type} (f55 : Y55) (q5 : List S51) (c : Int → Option R) (e0 : (Int × Int) → Option R) (e1 : Int → Option R) (v4 : Int) : Option R :=
  cond (decide (v4 < (q5.length : Int)))
  (
    when_ (decide (0 ≤ v4) && decide (v4 < (q5.length : Int))) (
      cond ((q5.getD v4.toNat z51).c0 == 5)
      (
        when_ (decide (0 ≤ v4) && decide (v4 < (q5.length : Int))) (
          e0 (v4, (q5.getD v4.toNat z51).c1)))
      (
        c (w64 (v4 + 1)))))
  (
    e1 v4)
def lp51_3 (f55 : Y55) : Nat → Z51_3
  | 0 => fun _ _ => none
  | n + 1 => fun q5 v4 => lb51_3 f55 q5 (fun v4 => lp51_3 f55 n q5 v4) (fun o => some (Sum.inl o)) (fun o => some (Sum.inr (o))) v4
def b51 {R : Type} (f55 : Y55) (l3 : Z51_3) (p0 : ByteArray) (k : Int → Option R) : Option R :=
  (f55 p0).bind fun r1 =>
  (l3 r1 0).bind (Sum.elim (fun r6_0 =>
    k r6_0.2) (fun r6_1 =>
    k (-1)))
def s51 : Y51 := (fun p0 => b51 s55 (lp51_3 s55 big) p0 some)
abbrev Y24 : Type := S41 → Int → Option ByteArray
def b24 {R : Type} (p0 : S41) (p1 : Int) (k : ByteArray → Option R) : Option R :=
  cond (decide (p1 < 0))
  (
    k (⟨#[]⟩ : ByteArray))
  (
    cond (decide (p1 ≥ (p0.c1.length : Int)))
    (
      k (⟨#[]⟩ : ByteArray))
    (
      when_ (decide (0 ≤ p1) && decide (p1 < (p0.c1.length : Int))) (
        when_ (decide (0 ≤ p1) && decide (p1 < (p0.c1.length : Int))) (
          when_ (decide ((0 : Int) ≤ (p0.c1.getD p1.toNat z51).c2) && decide ((p0.c1.getD p1.toNat z51).c2 ≤ (p0.c0.size : Int)) && (decide ((0 : Int) ≤ (p0.c1.getD p1.toNat z51).c1) && decide ((p0.c1.getD p1.toNat z51).c1 ≤ (p0.c1.getD p1.toNat z51).c2))) (
            k (p0.c0.extract ((p0.c1.getD p1.toNat z51).c1).toNat ((p0.c1.getD p1.toNat z51).c2).toNat))))))
def s24 : Y24 := (fun p0 p1 => b24 p0 p1 some)
abbrev Y62 : Type := ByteArray → Option Bool
abbrev Z62_3 : Type := List ByteArray → ByteArray → Int → Option ((Int × Bool) ⊕ Int)
def lb62_3 {R : Type} (q6 : List ByteArray) (q4 : ByteArray) (c : Int → Option R) (e0 : (Int × Bool) → Option R) (e1 : Int → Option R) (v5 : Int) : Option R :=
  cond (decide (v5 < (q6.length : Int)))
  (
    when_ (decide (0 ≤ v5) && decide (v5 < (q6.length : Int))) (
      cond ((q6.getD v5.toNat (⟨#[]⟩ : ByteArray)).toList == q4.toList)
      (
        e0 (v5, true))
      (
        c (w64 (v5 + 1)))))
  (
    e1 v5)
def lp62_3 : Nat → Z62_3
  | 0 => fun _ _ _ => none
  | n + 1 => fun q6 q4 v5 => lb62_3 q6 q4 (fun v5 => lp62_3 n q6 q4 v5) (fun o => some (Sum.inl o)) (fun o => some (Sum.inr (o))) v5
def b62 {R : Type} (l3 : Z62_3) (p0 : ByteArray) (k : Bool → Option R) : Option R :=
  (l3 [(⟨#[105, 109, 112, 111, 114, 116]⟩ : ByteArray), (⟨#[108, 97, 116, 116, 105, 99, 101]⟩ : ByteArray), (⟨#[101, 102, 102, 101, 99, 116, 115]⟩ : ByteArray), (⟨#[118, 97, 114]⟩ : ByteArray), (⟨#[102, 110]⟩ : ByteArray), (⟨#[108, 101, 116]⟩ : ByteArray), (⟨#[105, 102]⟩ : ByteArray), (⟨#[101, 108, 115, 101]⟩ : ByteArray), (⟨#[119, 104, 105, 108, 101]⟩ : ByteArray), (⟨#[114, 101, 116, 117, 114, 110]⟩ : ByteArray), (⟨#[100, 111]⟩ : ByteArray), (⟨#[116, 114, 117, 101]⟩ : ByteArray), (⟨#[102, 97, 108, 115, 101]⟩ : ByteArray), (⟨#[105, 110, 116]⟩ : ByteArray), (⟨#[98, 111, 111, 108]⟩ : ByteArray), (⟨#[100, 101, 99, 108, 97, 115, 115, 105, 102, 121]⟩ : ByteArray)] p0 0).bind (Sum.elim (fun r7_0 =>
    k r7_0.2) (fun r7_1 =>
    k false))
def s62 : Y62 := (fun p0 => b62 (lp62_3 big) p0 some)
abbrev Y32 : Type := ByteArray → Option Bool
abbrev Z32_2 : Type := ByteArray → Int → Option ((Int × Bool) ⊕ Int)
def lb32_2 {R : Type} (f60 : Y60) (f61 : Y61) (f62 : Y62) (q5 : ByteArray) (c : Int → Option R) (e0 : (Int × Bool) → Option R) (e1 : Int → Option R) (v6 : Int) : Option R :=
  cond (decide (v6 < (q5.size : Int)))
  (
    when_ (decide (0 ≤ v6) && decide (v6 < (q5.size : Int))) (
      (f60 (bt q5 v6)).bind fun r7 =>
      cond (!r7)
      (
        cond (v6 == 0)
        (
          e0 (v6, false))
        (
          when_ (decide (0 ≤ v6) && decide (v6 < (q5.size : Int))) (
            (f61 (bt q5 v6)).bind fun r8 =>
            cond (!r8)
            (
              e0 (v6, false))
            (
              c (w64 (v6 + 1))))))
      (
        c (w64 (v6 + 1)))))
  (
    e1 v6)
def lp32_2 (f60 : Y60) (f61 : Y61) (f62 : Y62) : Nat → Z32_2
  | 0 => fun _ _ => none
  | n + 1 => fun q5 v6 => lb32_2 f60 f61 f62 q5 (fun v6 => lp32_2 f60 f61 f62 n q5 v6) (fun o => some (Sum.inl o)) (fun o => some (Sum.inr (o))) v6
def b32 {R : Type} (f60 : Y60) (f61 : Y61) (f62 : Y62) (l2 : Z32_2) (p0 : ByteArray) (k : Bool → Option R) : Option R :=
  (l2 p0 0).bind (Sum.elim (fun r9_0 =>
    k r9_0.2) (fun r9_1 =>
    cond (decide ((p0.size : Int) ≥ 1))
    (
      cond (decide ((p0.size : Int) ≤ 24))
      (
        (f62 p0).bind fun r10 =>
        k (!r10))
      (
        k false))
    (
      k false)))
def s32 : Y32 := (fun p0 => b32 s60 s61 s62 (lp32_2 s60 s61 s62 big) p0 some)
abbrev Y18 : Type := S27 → Option Int
abbrev Z18_3 : Type := S27 → Int → Int → Option (Int × Int)
def lb18_3 {R : Type} (f18 : Y18) (q7 : S27) (c : Int → Int → Option R) (e0 : (Int × Int) → Option R) (v5 : Int) (v6 : Int) : Option R :=
  cond (decide (v6 < (q7.c5.length : Int)))
  (
    when_ (decide (0 ≤ v6) && decide (v6 < (q7.c5.length : Int))) (
      (f18 (⟨(q7.c5.getD v6.toNat z27).c0, (q7.c5.getD v6.toNat z27).c1, (q7.c5.getD v6.toNat z27).c2, (q7.c5.getD v6.toNat z27).c3, (q7.c5.getD v6.toNat z27).c4, (q7.c5.getD v6.toNat z27).c5⟩ : S27)).bind fun r8 =>
      c (if r8 > v5 then r8 else v5) (w64 (v6 + 1))))
  (
    e0 (v5, v6))
def lp18_3 (f18 : Y18) : Nat → Z18_3
  | 0 => fun _ _ _ => none
  | n + 1 => fun q7 v5 v6 => lb18_3 f18 q7 (fun v5 v6 => lp18_3 f18 n q7 v5 v6) (fun o => some o) v5 v6
def b18 {R : Type} (f18 : Y18) (l3 : Z18_3) (p0 : S27) (k : Int → Option R) : Option R :=
  (l3 (⟨p0.c0, p0.c1, p0.c2, p0.c3, p0.c4, p0.c5⟩ : S27) 0 0).bind fun r9_0 =>
  k (w64 (r9_0.1 + 1))
structure G18 where
  f18 : Y18
def g18 : Nat → G18
  | 0 => ⟨fun _ => none⟩
  | n + 1 => ⟨(fun p0 => b18 (g18 n).f18 (lp18_3 (g18 n).f18 big) p0 some)⟩
def s18 : Y18 := (g18 big).f18
abbrev Y66 : Type := S27 → Int → Int → Option S58
def b66 {R : Type} (f18 : Y18) (p0 : S27) (p1 : Int) (p2 : Int) (k : S58 → Option R) : Option R :=
  (f18 (⟨p0.c0, p0.c1, p0.c2, p0.c3, p0.c4, p0.c5⟩ : S27)).bind fun r1 =>
  cond (decide (r1 > 32))
  (
    k (⟨0, 0, 0, (⟨#[]⟩ : ByteArray), (⟨#[]⟩ : ByteArray), [], p2, 12⟩ : S58))
  (
    k (⟨p0.c0, p0.c1, p0.c2, p0.c3, p0.c4, p0.c5, p1, 0⟩ : S58))
def s66 : Y66 := (fun p0 p1 p2 => b66 s18 p0 p1 p2 some)
abbrev Y100 : Type := S41 → Int → Option Bool
def b100 {R : Type} (p0 : S41) (p1 : Int) (k : Bool → Option R) : Option R :=
  cond (decide (p1 < (p0.c1.length : Int)))
  (
    when_ (decide (0 ≤ p1) && decide (p1 < (p0.c1.length : Int))) (
      k ((p0.c1.getD p1.toNat z51).c0 == 3)))
  (
    k false)
def s100 : Y100 := (fun p0 p1 => b100 p0 p1 some)
abbrev Y101 : Type := Int → Int → Option (Int × Bool)
def b101 {R : Type} (p0 : Int) (p1 : Int) (k : (Int × Bool) → Option R) : Option R :=
  cond (p0 == 0)
  (
    k (0, true))
  (
    cond (p1 == 0)
    (
      k (0, true))
    (
      cond (decide (p0 > 0))
      (
        cond (decide (p1 > 0))
        (
          when_ (!(p1 == 0)) (
            cond (decide (p0 > (w64 (((9223372036854775807 : Int).tdiv p1)))))
            (
              k (0, false))
            (
              cond (decide (p0 > 0))
              (
                cond (decide (p1 < 0))
                (
                  when_ (!(p0 == 0)) (
                    cond (decide (p1 < (w64 ((((-9223372036854775808) : Int).tdiv p0)))))
                    (
                      k (0, false))
                    (
                      cond (decide (p0 < 0))
                      (
                        cond (decide (p1 > 0))
                        (
                          when_ (!(p1 == 0)) (
                            cond (decide (p0 < (w64 ((((-9223372036854775808) : Int).tdiv p1)))))
                            (
                              k (0, false))
                            (
                              cond (decide (p0 < 0))
                              (
                                cond (decide (p1 < 0))
                                (
                                  when_ (!(p1 == 0)) (
                                    cond (decide (p0 < (w64 (((9223372036854775807 : Int).tdiv p1)))))
                                    (
                                      k (0, false))
                                    (
                                      k (w64 (p0 * p1), true))))
                                (
                                  k (w64 (p0 * p1), true)))
                              (
                                k (w64 (p0 * p1), true)))))
                        (
                          cond (decide (p0 < 0))
                          (
                            cond (decide (p1 < 0))
                            (
                              when_ (!(p1 == 0)) (
                                cond (decide (p0 < (w64 (((9223372036854775807 : Int).tdiv p1)))))
                                (
                                  k (0, false))
                                (
                                  k (w64 (p0 * p1), true))))
                            (
                              k (w64 (p0 * p1), true)))
                          (
                            k (w64 (p0 * p1), true))))
                      (
                        cond (decide (p0 < 0))
                        (
                          cond (decide (p1 < 0))
                          (
                            when_ (!(p1 == 0)) (
                              cond (decide (p0 < (w64 (((9223372036854775807 : Int).tdiv p1)))))
                              (
                                k (0, false))
                              (
                                k (w64 (p0 * p1), true))))
                          (
                            k (w64 (p0 * p1), true)))
                        (
                          k (w64 (p0 * p1), true))))))
                (
                  cond (decide (p0 < 0))
                  (
                    cond (decide (p1 > 0))
                    (
                      when_ (!(p1 == 0)) (
                        cond (decide (p0 < (w64 ((((-9223372036854775808) : Int).tdiv p1)))))
                        (
                          k (0, false))
                        (
                          cond (decide (p0 < 0))
                          (
                            cond (decide (p1 < 0))
                            (
                              when_ (!(p1 == 0)) (
                                cond (decide (p0 < (w64 (((9223372036854775807 : Int).tdiv p1)))))
                                (
                                  k (0, false))
                                (
                                  k (w64 (p0 * p1), true))))
                            (
                              k (w64 (p0 * p1), true)))
                          (
                            k (w64 (p0 * p1), true)))))
                    (
                      cond (decide (p0 < 0))
                      (
                        cond (decide (p1 < 0))
                        (
                          when_ (!(p1 == 0)) (
                            cond (decide (p0 < (w64 (((9223372036854775807 : Int).tdiv p1)))))
                            (
                              k (0, false))
                            (
                              k (w64 (p0 * p1), true))))
                        (
                          k (w64 (p0 * p1), true)))
                      (
                        k (w64 (p0 * p1), true))))
                  (
                    cond (decide (p0 < 0))
                    (
                      cond (decide (p1 < 0))
                      (
                        when_ (!(p1 == 0)) (
                          cond (decide (p0 < (w64 (((9223372036854775807 : Int).tdiv p1)))))
                          (
                            k (0, false))
                          (
                            k (w64 (p0 * p1), true))))
                      (
                        k (w64 (p0 * p1), true)))
                    (
                      k (w64 (p0 * p1), true)))))
              (
                cond (decide (p0 < 0))
                (
                  cond (decide (p1 > 0))
                  (
                    when_ (!(p1 == 0)) (
                      cond (decide (p0 < (w64 ((((-9223372036854775808) : Int).tdiv p1)))))
                      (
                        k (0, false))
                      (
                        cond (decide (p0 < 0))
                        (
                          cond (decide (p1 < 0))
                          (
                            when_ (!(p1 == 0)) (
                              cond (decide (p0 < (w64 (((9223372036854775807 : Int).tdiv p1)))))
                              (
                                k (0, false))
                              (
                                k (w64 (p0 * p1), true))))
                          (
                            k (w64 (p0 * p1), true)))
                        (
                          k (w64 (p0 * p1), true)))))
                  (
                    cond (decide (p0 < 0))
                    (
                      cond (decide (p1 < 0))
                      (
                        when_ (!(p1 == 0)) (
                          cond (decide (p0 < (w64 (((9223372036854775807 : Int).tdiv p1)))))
                          (
                            k (0, false))
                          (
                            k (w64 (p0 * p1), true))))
                      (
                        k (w64 (p0 * p1), true)))
                    (
                      k (w64 (p0 * p1), true))))
                (
                  cond (decide (p0 < 0))
                  (
                    cond (decide (p1 < 0))
                    (
                      when_ (!(p1 == 0)) (
                        cond (decide (p0 < (w64 (((9223372036854775807 : Int).tdiv p1)))))
                        (
                          k (0, false))
                        (
                          k (w64 (p0 * p1), true))))
                    (
                      k (w64 (p0 * p1), true)))
                  (
                    k (w64 (p0 * p1), true)))))))
        (
          cond (decide (p0 > 0))
          (
            cond (decide (p1 < 0))
            (
              when_ (!(p0 == 0)) (
                cond (decide (p1 < (w64 ((((-9223372036854775808) : Int).tdiv p0)))))
                (
                  k (0, false))
                (
                  cond (decide (p0 < 0))
                  (
                    cond (decide (p1 > 0))
                    (
                      when_ (!(p1 == 0)) (
                        cond (decide (p0 < (w64 ((((-9223372036854775808) : Int).tdiv p1)))))
                        (
                          k (0, false))
                        (
                          cond (decide (p0 < 0))
                          (
                            cond (decide (p1 < 0))
                            (
                              when_ (!(p1 == 0)) (
                                cond (decide (p0 < (w64 (((9223372036854775807 : Int).tdiv p1)))))
                                (
                                  k (0, false))
                                (
                                  k (w64 (p0 * p1), true))))
                            (
                              k (w64 (p0 * p1), true)))
                          (
                            k (w64 (p0 * p1), true)))))
                    (
                      cond (decide (p0 < 0))
                      (
                        cond (decide (p1 < 0))
                        (
                          when_ (!(p1 == 0)) (
                            cond (decide (p0 < (w64 (((9223372036854775807 : Int).tdiv p1)))))
                            (
                              k (0, false))
                            (
                              k (w64 (p0 * p1), true))))
                        (
                          k (w64 (p0 * p1), true)))
                      (
                        k (w64 (p0 * p1), true))))
                  (
                    cond (decide (p0 < 0))
                    (
                      cond (decide (p1 < 0))
                      (
                        when_ (!(p1 == 0)) (
                          cond (decide (p0 < (w64 (((9223372036854775807 : Int).tdiv p1)))))
                          (
                            k (0, false))
                          (
                            k (w64 (p0 * p1), true))))
                      (
                        k (w64 (p0 * p1), true)))
                    (
                      k (w64 (p0 * p1), true))))))
            (
              cond (decide (p0 < 0))
              (
                cond (decide (p1 > 0))
                (
                  when_ (!(p1 == 0)) (
                    cond (decide (p0 < (w64 ((((-9223372036854775808) : Int).tdiv p1)))))
                    (
                      k (0, false))
                    (
                      cond (decide (p0 < 0))
                      (
                        cond (decide (p1 < 0))
                        (
                          when_ (!(p1 == 0)) (
                            cond (decide (p0 < (w64 (((9223372036854775807 : Int).tdiv p1)))))
                            (
                              k (0, false))
                            (
                              k (w64 (p0 * p1), true))))
                        (
                          k (w64 (p0 * p1), true)))
                      (
                        k (w64 (p0 * p1), true)))))
                (
                  cond (decide (p0 < 0))
                  (
                    cond (decide (p1 < 0))
                    (
                      when_ (!(p1 == 0)) (
                        cond (decide (p0 < (w64 (((9223372036854775807 : Int).tdiv p1)))))
                        (
                          k (0, false))
                        (
                          k (w64 (p0 * p1), true))))
                    (
                      k (w64 (p0 * p1), true)))
                  (
                    k (w64 (p0 * p1), true))))
              (
                cond (decide (p0 < 0))
                (
                  cond (decide (p1 < 0))
                  (
                    when_ (!(p1 == 0)) (
                      cond (decide (p0 < (w64 (((9223372036854775807 : Int).tdiv p1)))))
                      (
                        k (0, false))
                      (
                        k (w64 (p0 * p1), true))))
                  (
                    k (w64 (p0 * p1), true)))
                (
                  k (w64 (p0 * p1), true)))))
          (
            cond (decide (p0 < 0))
            (
              cond (decide (p1 > 0))
              (
                when_ (!(p1 == 0)) (
                  cond (decide (p0 < (w64 ((((-9223372036854775808) : Int).tdiv p1)))))
                  (
                    k (0, false))
                  (
                    cond (decide (p0 < 0))
                    (
                      cond (decide (p1 < 0))
                      (
                        when_ (!(p1 == 0)) (
                          cond (decide (p0 < (w64 (((9223372036854775807 : Int).tdiv p1)))))
                          (
                            k (0, false))
                          (
                            k (w64 (p0 * p1), true))))
                      (
                        k (w64 (p0 * p1), true)))
                    (
                      k (w64 (p0 * p1), true)))))
              (
                cond (decide (p0 < 0))
                (
                  cond (decide (p1 < 0))
                  (
                    when_ (!(p1 == 0)) (
                      cond (decide (p0 < (w64 (((9223372036854775807 : Int).tdiv p1)))))
                      (
                        k (0, false))
                      (
                        k (w64 (p0 * p1), true))))
                  (
                    k (w64 (p0 * p1), true)))
                (
                  k (w64 (p0 * p1), true))))
            (
              cond (decide (p0 < 0))
              (
                cond (decide (p1 < 0))
                (
                  when_ (!(p1 == 0)) (
                    cond (decide (p0 < (w64 (((9223372036854775807 : Int).tdiv p1)))))
                    (
                      k (0, false))
                    (
                      k (w64 (p0 * p1), true))))
                (
                  k (w64 (p0 * p1), true)))
              (
                k (w64 (p0 * p1), true))))))
      (
        cond (decide (p0 > 0))
        (
          cond (decide (p1 < 0))
          (
            when_ (!(p0 == 0)) (
              cond (decide (p1 < (w64 ((((-9223372036854775808) : Int).tdiv p0)))))
              (
                k (0, false))
              (
                cond (decide (p0 < 0))
                (
                  cond (decide (p1 > 0))
                  (
                    when_ (!(p1 == 0)) (
                      cond (decide (p0 < (w64 ((((-9223372036854775808) : Int).tdiv p1)))))
                      (
                        k (0, false))
                      (
                        cond (decide (p0 < 0))
                        (
                          cond (decide (p1 < 0))
                          (
                            when_ (!(p1 == 0)) (
                              cond (decide (p0 < (w64 (((9223372036854775807 : Int).tdiv p1)))))
                              (
                                k (0, false))
                              (
                                k (w64 (p0 * p1), true))))
                          (
                            k (w64 (p0 * p1), true)))
                        (
                          k (w64 (p0 * p1), true)))))
                  (
                    cond (decide (p0 < 0))
                    (
                      cond (decide (p1 < 0))
                      (
                        when_ (!(p1 == 0)) (
                          cond (decide (p0 < (w64 (((9223372036854775807 : Int).tdiv p1)))))
                          (
                            k (0, false))
                          (
                            k (w64 (p0 * p1), true))))
                      (
                        k (w64 (p0 * p1), true)))
                    (
                      k (w64 (p0 * p1), true))))
                (
                  cond (decide (p0 < 0))
                  (
                    cond (decide (p1 < 0))
                    (
                      when_ (!(p1 == 0)) (
                        cond (decide (p0 < (w64 (((9223372036854775807 : Int).tdiv p1)))))
                        (
                          k (0, false))
                        (
                          k (w64 (p0 * p1), true))))
                    (
                      k (w64 (p0 * p1), true)))
                  (
                    k (w64 (p0 * p1), true))))))
          (
            cond (decide (p0 < 0))
            (
              cond (decide (p1 > 0))
              (
                when_ (!(p1 == 0)) (
                  cond (decide (p0 < (w64 ((((-9223372036854775808) : Int).tdiv p1)))))
                  (
                    k (0, false))
                  (
                    cond (decide (p0 < 0))
                    (
                      cond (decide (p1 < 0))
                      (
                        when_ (!(p1 == 0)) (
                          cond (decide (p0 < (w64 (((9223372036854775807 : Int).tdiv p1)))))
                          (
                            k (0, false))
                          (
                            k (w64 (p0 * p1), true))))
                      (
                        k (w64 (p0 * p1), true)))
                    (
                      k (w64 (p0 * p1), true)))))
              (
                cond (decide (p0 < 0))
                (
                  cond (decide (p1 < 0))
                  (
                    when_ (!(p1 == 0)) (
                      cond (decide (p0 < (w64 (((9223372036854775807 : Int).tdiv p1)))))
                      (
                        k (0, false))
                      (
                        k (w64 (p0 * p1), true))))
                  (
                    k (w64 (p0 * p1), true)))
                (
                  k (w64 (p0 * p1), true))))
            (
              cond (decide (p0 < 0))
              (
                cond (decide (p1 < 0))
                (
                  when_ (!(p1 == 0)) (
                    cond (decide (p0 < (w64 (((9223372036854775807 : Int).tdiv p1)))))
                    (
                      k (0, false))
                    (
                      k (w64 (p0 * p1), true))))
                (
                  k (w64 (p0 * p1), true)))
              (
                k (w64 (p0 * p1), true)))))
        (
          cond (decide (p0 < 0))
          (
            cond (decide (p1 > 0))
            (
              when_ (!(p1 == 0)) (
                cond (decide (p0 < (w64 ((((-9223372036854775808) : Int).tdiv p1)))))
                (
                  k (0, false))
                (
                  cond (decide (p0 < 0))
                  (
                    cond (decide (p1 < 0))
                    (
                      when_ (!(p1 == 0)) (
                        cond (decide (p0 < (w64 (((9223372036854775807 : Int).tdiv p1)))))
                        (
                          k (0, false))
                        (
                          k (w64 (p0 * p1), true))))
                    (
                      k (w64 (p0 * p1), true)))
                  (
                    k (w64 (p0 * p1), true)))))
            (
              cond (decide (p0 < 0))
              (
                cond (decide (p1 < 0))
                (
                  when_ (!(p1 == 0)) (
                    cond (decide (p0 < (w64 (((9223372036854775807 : Int).tdiv p1)))))
                    (
                      k (0, false))
                    (
                      k (w64 (p0 * p1), true))))
                (
                  k (w64 (p0 * p1), true)))
              (
                k (w64 (p0 * p1), true))))
          (
            cond (decide (p0 < 0))
            (
              cond (decide (p1 < 0))
              (
                when_ (!(p1 == 0)) (
                  cond (decide (p0 < (w64 (((9223372036854775807 : Int).tdiv p1)))))
                  (
                    k (0, false))
                  (
                    k (w64 (p0 * p1), true))))
              (
                k (w64 (p0 * p1), true)))
            (
              k (w64 (p0 * p1), true)))))))
def s101 : Y101 := (fun p0 p1 => b101 p0 p1 some)
abbrev Y102 : Type := Int → Int → Option (Int × Bool)
def b102 {R : Type} (p0 : Int) (p1 : Int) (k : (Int × Bool) → Option R) : Option R :=
  cond (decide (p1 > 0))
  (
    cond (decide (p0 > (w64 (9223372036854775807 - p1))))
    (
      k (0, false))
    (
      cond (decide (p1 < 0))
      (
        cond (decide (p0 < (w64 ((-9223372036854775808) - p1))))
        (
          k (0, false))
        (
          k (w64 (p0 + p1), true)))
      (
        k (w64 (p0 + p1), true))))
  (
    cond (decide (p1 < 0))
    (
      cond (decide (p0 < (w64 ((-9223372036854775808) - p1))))
      (
        k (0, false))
      (
        k (w64 (p0 + p1), true)))
    (
      k (w64 (p0 + p1), true)))
def s102 : Y102 := (fun p0 p1 => b102 p0 p1 some)
abbrev Y65 : Type := S41 → Int → Int → Option Bool
def b65 {R : Type} (f24 : Y24) (p0 : S41) (p1 : Int) (p2 : Int) (k : Bool → Option R) : Option R :=
  (f24 p0 p1).bind fun r1 =>
  cond (p2 == 1)
  (
    k (r1.toList == (⟨#[124, 124]⟩ : ByteArray).toList))
  (
    cond (p2 == 2)
    (
      k (r1.toList == (⟨#[38, 38]⟩ : ByteArray).toList))
    (
      cond (p2 == 3)
      (
        cond (r1.toList == (⟨#[61, 61]⟩ : ByteArray).toList)
        (
          k true)
        (
          k (r1.toList == (⟨#[60]⟩ : ByteArray).toList)))
      (
        cond (p2 == 4)
        (
          cond (r1.toList == (⟨#[43]⟩ : ByteArray).toList)
          (
            k true)
          (
            k (r1.toList == (⟨#[45]⟩ : ByteArray).toList)))
        (
          k (r1.toList == (⟨#[42]⟩ : ByteArray).toList)))))
def s65 : Y65 := (fun p0 p1 p2 => b65 s24 p0 p1 p2 some)
abbrev Y35 : Type := S41 → Int → Int → Int → Option S58
abbrev Y64 : Type := S41 → Int → Int → Option S58
abbrev Y86 : Type := S41 → Int → Int → Option S58
abbrev Y103 : Type := S41 → Int → Int → Option S58
abbrev Y104 : Type := S41 → Int → Int → Option S58
abbrev Z35_4 : Type := S41 → Int → Int → Int → Int → Int → ByteArray → ByteArray → List S27 → Int → Int → Option ((Int × Int × Int × ByteArray × ByteArray × List S27 × Int × Int × Int × Int × Int × ByteArray × ByteArray × List S27 × Int × Int) ⊕ (Int × Int × Int × ByteArray × ByteArray × List S27 × Int × Int))
def lb35_4 {R : Type} (f24 : Y24) (f35 : Y35) (f64 : Y64) (f65 : Y65) (f66 : Y66) (q42 : S41) (q40 : Int) (q41 : Int) (c : Int → Int → Int → ByteArray → ByteArray → List S27 → Int → Int → Option R) (e0 : (Int × Int × Int × ByteArray × ByteArray × List S27 × Int × Int × Int × Int × Int × ByteArray × ByteArray × List S27 × Int × Int) → Option R) (e1 : (Int × Int × Int × ByteArray × ByteArray × List S27 × Int × Int) → Option R) (v51 : Int) (v52 : Int) (v53 : Int) (v54 : ByteArray) (v55 : ByteArray) (v56 : List S27) (v57 : Int) (v58 : Int) : Option R :=
  cond (v58 == 0)
  (
    (f65 q42 v57 q40).bind fun r59 =>
    cond r59
    (
      (f35 q42 (w64 (v57 + 1)) (w64 (q40 + 1)) q41).bind fun r60 =>
      cond (r60.c7 != 0)
      (
        e0 (v51, v52, v53, v54, v55, v56, v57, v58, r60.c0, r60.c1, r60.c2, r60.c3, r60.c4, r60.c5, r60.c6, r60.c7))
      (
        (f24 q42 v57).bind fun r61 =>
        (f66 (⟨5, v52, 0, r61, (⟨#[]⟩ : ByteArray), [(⟨v51, v52, v53, v54, v55, v56⟩ : S27), (⟨r60.c0, r60.c1, r60.c2, r60.c3, r60.c4, r60.c5⟩ : S27)]⟩ : S27) r60.c6 v57).bind fun r62 =>
        c r62.c0 r62.c1 r62.c2 r62.c3 r62.c4 r62.c5 r62.c6 r62.c7))
    (
      e1 (v51, v52, v53, v54, v55, v56, v57, v58)))
  (
    e1 (v51, v52, v53, v54, v55, v56, v57, v58))
def lp35_4 (f24 : Y24) (f35 : Y35) (f64 : Y64) (f65 : Y65) (f66 : Y66) : Nat → Z35_4
  | 0 => fun _ _ _ _ _ _ _ _ _ _ _ => none
  | n + 1 => fun q42 q40 q41 v51 v52 v53 v54 v55 v56 v57 v58 => lb35_4 f24 f35 f64 f65 f66 q42 q40 q41 (fun v51 v52 v53 v54 v55 v56 v57 v58 => lp35_4 f24 f35 f64 f65 f66 n q42 q40 q41 v51 v52 v53 v54 v55 v56 v57 v58) (fun o => some (Sum.inl o)) (fun o => some (Sum.inr (o))) v51 v52 v53 v54 v55 v56 v57 v58
def b35 {R : Type} (f24 : Y24) (f35 : Y35) (f64 : Y64) (f65 : Y65) (f66 : Y66) (l4 : Z35_4) (p0 : S41) (p1 : Int) (p2 : Int) (p3 : Int) (k : S58 → Option R) : Option R :=
  cond (decide (p2 > 5))
  (
    (f64 p0 p1 p3).bind fun r1 =>
    k r1)
  (
    (f35 p0 p1 (w64 (p2 + 1)) p3).bind fun r2 =>
    (l4 p0 p2 p3 r2.c0 r2.c1 r2.c2 r2.c3 r2.c4 r2.c5 r2.c6 r2.c7).bind (Sum.elim (fun r63_0 =>
      k (⟨r63_0.2.2.2.2.2.2.2.2.1, r63_0.2.2.2.2.2.2.2.2.2.1, r63_0.2.2.2.2.2.2.2.2.2.2.1, r63_0.2.2.2.2.2.2.2.2.2.2.2.1, r63_0.2.2.2.2.2.2.2.2.2.2.2.2.1, r63_0.2.2.2.2.2.2.2.2.2.2.2.2.2.1, r63_0.2.2.2.2.2.2.2.2.2.2.2.2.2.2.1, r63_0.2.2.2.2.2.2.2.2.2.2.2.2.2.2.2⟩ : S58)) (fun r63_1 =>
      k (⟨r63_1.1, r63_1.2.1, r63_1.2.2.1, r63_1.2.2.2.1, r63_1.2.2.2.2.1, r63_1.2.2.2.2.2.1, r63_1.2.2.2.2.2.2.1, r63_1.2.2.2.2.2.2.2⟩ : S58))))
def b64 {R : Type} (f24 : Y24) (f27 : Y27) (f64 : Y64) (f66 : Y66) (f86 : Y86) (p0 : S41) (p1 : Int) (p2 : Int) (k : S58 → Option R) : Option R :=
  (f24 p0 p1).bind fun r1 =>
  cond (!(r1.toList == (⟨#[33]⟩ : ByteArray).toList))
  (
    cond (!(r1.toList == (⟨#[45]⟩ : ByteArray).toList))
    (
      (f86 p0 p1 p2).bind fun r2 =>
      k r2)
    (
      cond (decide (p2 ≥ 32))
      (
        k (⟨0, 0, 0, (⟨#[]⟩ : ByteArray), (⟨#[]⟩ : ByteArray), [], p1, 12⟩ : S58))
      (
        (f64 p0 (w64 (p1 + 1)) (w64 (p2 + 1))).bind fun r3 =>
        cond (r3.c7 != 0)
        (
          k r3)
        (
          (f27 p0 p1).bind fun r4 =>
          (f66 (⟨4, r4, 0, r1, (⟨#[]⟩ : ByteArray), [(⟨r3.c0, r3.c1, r3.c2, r3.c3, r3.c4, r3.c5⟩ : S27)]⟩ : S27) r3.c6 p1).bind fun r5 =>
          k r5))))
  (
    cond (decide (p2 ≥ 32))
    (
      k (⟨0, 0, 0, (⟨#[]⟩ : ByteArray), (⟨#[]⟩ : ByteArray), [], p1, 12⟩ : S58))
    (
      (f64 p0 (w64 (p1 + 1)) (w64 (p2 + 1))).bind fun r6 =>
      cond (r6.c7 != 0)
      (
        k r6)
      (
        (f27 p0 p1).bind fun r7 =>
        (f66 (⟨4, r7, 0, r1, (⟨#[]⟩ : ByteArray), [(⟨r6.c0, r6.c1, r6.c2, r6.c3, r6.c4, r6.c5⟩ : S27)]⟩ : S27) r6.c6 p1).bind fun r8 =>
        k r8)))
abbrev Z86_5 : Type := ByteArray → Int → Int → Int → Option ((Int × Int × Int × Int × Int × ByteArray × ByteArray × Int × Int) ⊕ (Int × Int))
def lb86_5 {R : Type} (f24 : Y24) (f27 : Y27) (f35 : Y35) (f100 : Y100) (f101 : Y101) (f102 : Y102) (f103 : Y103) (f104 : Y104) (q18 : ByteArray) (q17 : Int) (c : Int → Int → Option R) (e0 : (Int × Int × Int × Int × Int × ByteArray × ByteArray × Int × Int) → Option R) (e1 : (Int × Int) → Option R) (v19 : Int) (v20 : Int) : Option R :=
  cond (decide (v20 < (q18.size : Int)))
  (
    (f101 v19 10).bind fun r29 =>
    when_ (decide (0 ≤ v20) && decide (v20 < (q18.size : Int))) (
      (f102 r29.1 (w64 ((w64 ((bt q18 v20))) - 48))).bind fun r30 =>
      cond (!r29.2)
      (
        e0 (v19, v20, 0, 0, 0, (⟨#[]⟩ : ByteArray), (⟨#[]⟩ : ByteArray), q17, 18))
      (
        cond (!r30.2)
        (
          e0 (v19, v20, 0, 0, 0, (⟨#[]⟩ : ByteArray), (⟨#[]⟩ : ByteArray), q17, 18))
        (
          c r30.1 (w64 (v20 + 1))))))
  (
    e1 (v19, v20))
def lp86_5 (f24 : Y24) (f27 : Y27) (f35 : Y35) (f100 : Y100) (f101 : Y101) (f102 : Y102) (f103 : Y103) (f104 : Y104) : Nat → Z86_5
  | 0 => fun _ _ _ _ => none
  | n + 1 => fun q18 q17 v19 v20 => lb86_5 f24 f27 f35 f100 f101 f102 f103 f104 q18 q17 (fun v19 v20 => lp86_5 f24 f27 f35 f100 f101 f102 f103 f104 n q18 q17 v19 v20) (fun o => some (Sum.inl o)) (fun o => some (Sum.inr (o))) v19 v20
def b86 {R : Type} (f24 : Y24) (f27 : Y27) (f35 : Y35) (f100 : Y100) (f101 : Y101) (f102 : Y102) (f103 : Y103) (f104 : Y104) (l5 : Z86_5) (p0 : S41) (p1 : Int) (p2 : Int) (k : S58 → Option R) : Option R :=
  (f24 p0 p1).bind fun r1 =>
  (f100 p0 p1).bind fun r2 =>
  cond r2
  (
    (l5 r1 p1 0 0).bind (Sum.elim (fun r31_0 =>
      k (⟨r31_0.2.2.1, r31_0.2.2.2.1, r31_0.2.2.2.2.1, r31_0.2.2.2.2.2.1, r31_0.2.2.2.2.2.2.1, [], r31_0.2.2.2.2.2.2.2.1, r31_0.2.2.2.2.2.2.2.2⟩ : S58)) (fun r31_1 =>
      (f27 p0 p1).bind fun r32 =>
      k (⟨0, r32, r31_1.1, (⟨#[]⟩ : ByteArray), (⟨#[]⟩ : ByteArray), [], w64 (p1 + 1), 0⟩ : S58))))
  (
    cond (r1.toList == (⟨#[116, 114, 117, 101]⟩ : ByteArray).toList)
    (
      (f27 p0 p1).bind fun r33 =>
      k (⟨1, r33, 1, (⟨#[]⟩ : ByteArray), (⟨#[]⟩ : ByteArray), [], w64 (p1 + 1), 0⟩ : S58))
    (
      cond (r1.toList == (⟨#[102, 97, 108, 115, 101]⟩ : ByteArray).toList)
      (
        (f27 p0 p1).bind fun r34 =>
        k (⟨1, r34, 0, (⟨#[]⟩ : ByteArray), (⟨#[]⟩ : ByteArray), [], w64 (p1 + 1), 0⟩ : S58))
      (
        cond (r1.toList == (⟨#[40]⟩ : ByteArray).toList)
        (
          cond (decide (p2 ≥ 32))
          (
            k (⟨0, 0, 0, (⟨#[]⟩ : ByteArray), (⟨#[]⟩ : ByteArray), [], p1, 12⟩ : S58))
          (
            (f35 p0 (w64 (p1 + 1)) 1 (w64 (p2 + 1))).bind fun r35 =>
            cond (r35.c7 == 0)
            (
              (f24 p0 r35.c6).bind fun r36 =>
              cond (!(r36.toList == (⟨#[41]⟩ : ByteArray).toList))
              (
                k (⟨0, 0, 0, (⟨#[]⟩ : ByteArray), (⟨#[]⟩ : ByteArray), [], r35.c6, 11⟩ : S58))
              (
                k (⟨r35.c0, r35.c1, r35.c2, r35.c3, r35.c4, r35.c5, w64 (r35.c6 + (w64 (1 - (if r35.c7 < 1 then r35.c7 else 1)))), r35.c7⟩ : S58)))
            (
              k (⟨r35.c0, r35.c1, r35.c2, r35.c3, r35.c4, r35.c5, w64 (r35.c6 + (w64 (1 - (if r35.c7 < 1 then r35.c7 else 1)))), r35.c7⟩ : S58))))
        (
          cond (r1.toList == (⟨#[100, 101, 99, 108, 97, 115, 115, 105, 102, 121]⟩ : ByteArray).toList)
          (
            (f103 p0 p1 p2).bind fun r37 =>
            k r37)
          (
            (f104 p0 p1 p2).bind fun r38 =>
            k r38)))))
abbrev Z103_11 : Type := S41 → List ByteArray → Int → Int → Option ((Int × Int × Int × Int × Int × ByteArray × ByteArray × Int × Int) ⊕ (Int × Int))
def lb103_11 {R : Type} (f24 : Y24) (f27 : Y27) (f32 : Y32) (f35 : Y35) (f66 : Y66) (q20 : S41) (q29 : List ByteArray) (c : Int → Int → Option R) (e0 : (Int × Int × Int × Int × Int × ByteArray × ByteArray × Int × Int) → Option R) (e1 : (Int × Int) → Option R) (v18 : Int) (v19 : Int) : Option R :=
  cond (decide (v19 < 2))
  (
    (f24 q20 v18).bind fun r30 =>
    when_ (decide (0 ≤ v19) && decide (v19 < (q29.length : Int))) (
      cond (!(r30.toList == (q29.getD v19.toNat (⟨#[]⟩ : ByteArray)).toList))
      (
        e0 (v18, v19, 0, 0, 0, (⟨#[]⟩ : ByteArray), (⟨#[]⟩ : ByteArray), v18, 11))
      (
        c (w64 (v18 + 1)) (w64 (v19 + 1)))))
  (
    e1 (v18, v19))
def lp103_11 (f24 : Y24) (f27 : Y27) (f32 : Y32) (f35 : Y35) (f66 : Y66) : Nat → Z103_11
  | 0 => fun _ _ _ _ => none
  | n + 1 => fun q20 q29 v18 v19 => lb103_11 f24 f27 f32 f35 f66 q20 q29 (fun v18 v19 => lp103_11 f24 f27 f32 f35 f66 n q20 q29 v18 v19) (fun o => some (Sum.inl o)) (fun o => some (Sum.inr (o))) v18 v19
def b103 {R : Type} (f24 : Y24) (f27 : Y27) (f32 : Y32) (f35 : Y35) (f66 : Y66) (l11 : Z103_11) (p0 : S41) (p1 : Int) (p2 : Int) (k : S58 → Option R) : Option R :=
  (f24 p0 (w64 (p1 + 1))).bind fun r1 =>
  cond (!(r1.toList == (⟨#[40]⟩ : ByteArray).toList))
  (
    k (⟨0, 0, 0, (⟨#[]⟩ : ByteArray), (⟨#[]⟩ : ByteArray), [], w64 (p1 + 1), 11⟩ : S58))
  (
    cond (decide (p2 ≥ 32))
    (
      k (⟨0, 0, 0, (⟨#[]⟩ : ByteArray), (⟨#[]⟩ : ByteArray), [], w64 (p1 + 1), 12⟩ : S58))
    (
      (f35 p0 (w64 (p1 + 2)) 1 (w64 (p2 + 1))).bind fun r2 =>
      cond (r2.c7 != 0)
      (
        k r2)
      (
        (l11 p0 [(⟨#[44]⟩ : ByteArray), (⟨#[64]⟩ : ByteArray)] r2.c6 0).bind (Sum.elim (fun r31_0 =>
          k (⟨r31_0.2.2.1, r31_0.2.2.2.1, r31_0.2.2.2.2.1, r31_0.2.2.2.2.2.1, r31_0.2.2.2.2.2.2.1, [], r31_0.2.2.2.2.2.2.2.1, r31_0.2.2.2.2.2.2.2.2⟩ : S58)) (fun r31_1 =>
          (f24 p0 r31_1.1).bind fun r32 =>
          (f32 r32).bind fun r33 =>
          cond (!r33)
          (
            k (⟨0, 0, 0, (⟨#[]⟩ : ByteArray), (⟨#[]⟩ : ByteArray), [], r31_1.1, 11⟩ : S58))
          (
            (f24 p0 (w64 (r31_1.1 + 1))).bind fun r34 =>
            cond (!(r34.toList == (⟨#[41]⟩ : ByteArray).toList))
            (
              k (⟨0, 0, 0, (⟨#[]⟩ : ByteArray), (⟨#[]⟩ : ByteArray), [], w64 (r31_1.1 + 1), 11⟩ : S58))
            (
              (f27 p0 p1).bind fun r35 =>
              (f66 (⟨6, r35, 0, (⟨#[]⟩ : ByteArray), r32, [(⟨r2.c0, r2.c1, r2.c2, r2.c3, r2.c4, r2.c5⟩ : S27)]⟩ : S27) (w64 (r31_1.1 + 2)) p1).bind fun r36 =>
              k r36)))))))
abbrev Z104_16 : Type := S41 → Int → Int → List S27 → Option ((Int × List S27 × Int × Int × Int × ByteArray × ByteArray × List S27 × Int × Int) ⊕ (Int × List S27))
def lb104_16 {R : Type} (f24 : Y24) (f27 : Y27) (f32 : Y32) (f35 : Y35) (f66 : Y66) (q73 : S41) (q71 : Int) (c : Int → List S27 → Option R) (e0 : (Int × List S27 × Int × Int × Int × ByteArray × ByteArray × List S27 × Int × Int) → Option R) (e1 : (Int × List S27) → Option R) (v72 : Int) (v87 : List S27) : Option R :=
  (f24 q73 v72).bind fun r88 =>
  cond (!(r88.toList == (⟨#[41]⟩ : ByteArray).toList))
  (
    cond (decide ((v87.length : Int) > 0))
    (
      (f24 q73 v72).bind fun r89 =>
      cond (!(r89.toList == (⟨#[44]⟩ : ByteArray).toList))
      (
        e0 (v72, v87, 0, 0, 0, (⟨#[]⟩ : ByteArray), (⟨#[]⟩ : ByteArray), [], v72, 11))
      (
        (f35 q73 (w64 (v72 + 1)) 1 (w64 (q71 + 1))).bind fun r90 =>
        cond (r90.c7 != 0)
        (
          e0 (w64 (v72 + 1), v87, r90.c0, r90.c1, r90.c2, r90.c3, r90.c4, r90.c5, r90.c6, r90.c7))
        (
          when_ (decide (v87.length + [(⟨r90.c0, r90.c1, r90.c2, r90.c3, r90.c4, r90.c5⟩ : S27)].length ≤ 1759218604441)) (
            c r90.c6 (v87 ++ [(⟨r90.c0, r90.c1, r90.c2, r90.c3, r90.c4, r90.c5⟩ : S27)])))))
    (
      (f35 q73 v72 1 (w64 (q71 + 1))).bind fun r91 =>
      cond (r91.c7 != 0)
      (
        e0 (v72, v87, r91.c0, r91.c1, r91.c2, r91.c3, r91.c4, r91.c5, r91.c6, r91.c7))
      (
        when_ (decide (v87.length + [(⟨r91.c0, r91.c1, r91.c2, r91.c3, r91.c4, r91.c5⟩ : S27)].length ≤ 1759218604441)) (
          c r91.c6 (v87 ++ [(⟨r91.c0, r91.c1, r91.c2, r91.c3, r91.c4, r91.c5⟩ : S27)])))))
  (
    e1 (v72, v87))
def lp104_16 (f24 : Y24) (f27 : Y27) (f32 : Y32) (f35 : Y35) (f66 : Y66) : Nat → Z104_16
  | 0 => fun _ _ _ _ => none
  | n + 1 => fun q73 q71 v72 v87 => lb104_16 f24 f27 f32 f35 f66 q73 q71 (fun v72 v87 => lp104_16 f24 f27 f32 f35 f66 n q73 q71 v72 v87) (fun o => some (Sum.inl o)) (fun o => some (Sum.inr (o))) v72 v87
def b104 {R : Type} (f24 : Y24) (f27 : Y27) (f32 : Y32) (f35 : Y35) (f66 : Y66) (l16 : Z104_16) (p0 : S41) (p1 : Int) (p2 : Int) (k : S58 → Option R) : Option R :=
  (f24 p0 p1).bind fun r1 =>
  (f32 r1).bind fun r2 =>
  cond (!r2)
  (
    k (⟨0, 0, 0, (⟨#[]⟩ : ByteArray), (⟨#[]⟩ : ByteArray), [], p1, 11⟩ : S58))
  (
    (f24 p0 (w64 (p1 + 1))).bind fun r3 =>
    cond (r3.toList == (⟨#[46]⟩ : ByteArray).toList)
    (
      (f24 p0 (w64 ((w64 (p1 + 1)) + 1))).bind fun r4 =>
      (f32 r4).bind fun r5 =>
      cond (!r5)
      (
        k (⟨0, 0, 0, (⟨#[]⟩ : ByteArray), (⟨#[]⟩ : ByteArray), [], w64 ((w64 (p1 + 1)) + 1), 11⟩ : S58))
      (
        when_ (decide (r1.size + (⟨#[46]⟩ : ByteArray).size ≤ 9223372036854775807)) (
          (f24 p0 (w64 ((w64 (p1 + 1)) + 1))).bind fun r6 =>
          when_ (decide ((r1 ++ (⟨#[46]⟩ : ByteArray)).size + r6.size ≤ 9223372036854775807)) (
            (f24 p0 (w64 ((w64 (p1 + 1)) + 2))).bind fun r7 =>
            cond (!(r7.toList == (⟨#[40]⟩ : ByteArray).toList))
            (
              (f27 p0 p1).bind fun r8 =>
              k (⟨2, r8, 0, ((r1 ++ (⟨#[46]⟩ : ByteArray)) ++ r6), (⟨#[]⟩ : ByteArray), [], w64 ((w64 (p1 + 1)) + 2), 0⟩ : S58))
            (
              cond (decide (p2 ≥ 32))
              (
                k (⟨0, 0, 0, (⟨#[]⟩ : ByteArray), (⟨#[]⟩ : ByteArray), [], w64 ((w64 (p1 + 1)) + 2), 12⟩ : S58))
              (
                (f27 p0 p1).bind fun r9 =>
                (l16 p0 p2 (w64 ((w64 ((w64 (p1 + 1)) + 2)) + 1)) []).bind (Sum.elim (fun r92_0 =>
                  k (⟨r92_0.2.2.1, r92_0.2.2.2.1, r92_0.2.2.2.2.1, r92_0.2.2.2.2.2.1, r92_0.2.2.2.2.2.2.1, r92_0.2.2.2.2.2.2.2.1, r92_0.2.2.2.2.2.2.2.2.1, r92_0.2.2.2.2.2.2.2.2.2⟩ : S58)) (fun r92_1 =>
                  (f66 (⟨3, r9, 0, ((r1 ++ (⟨#[46]⟩ : ByteArray)) ++ r6), (⟨#[]⟩ : ByteArray), r92_1.2⟩ : S27) (w64 (r92_1.1 + 1)) p1).bind fun r93 =>
                  k r93))))))))
    (
      (f24 p0 (w64 (p1 + 1))).bind fun r94 =>
      cond (!(r94.toList == (⟨#[40]⟩ : ByteArray).toList))
      (
        (f27 p0 p1).bind fun r95 =>
        k (⟨2, r95, 0, r1, (⟨#[]⟩ : ByteArray), [], w64 (p1 + 1), 0⟩ : S58))
      (
        cond (decide (p2 ≥ 32))
        (
          k (⟨0, 0, 0, (⟨#[]⟩ : ByteArray), (⟨#[]⟩ : ByteArray), [], w64 (p1 + 1), 12⟩ : S58))
        (
          (f27 p0 p1).bind fun r96 =>
          (l16 p0 p2 (w64 ((w64 (p1 + 1)) + 1)) []).bind (Sum.elim (fun r179_0 =>
            k (⟨r179_0.2.2.1, r179_0.2.2.2.1, r179_0.2.2.2.2.1, r179_0.2.2.2.2.2.1, r179_0.2.2.2.2.2.2.1, r179_0.2.2.2.2.2.2.2.1, r179_0.2.2.2.2.2.2.2.2.1, r179_0.2.2.2.2.2.2.2.2.2⟩ : S58)) (fun r179_1 =>
            (f66 (⟨3, r96, 0, r1, (⟨#[]⟩ : ByteArray), r179_1.2⟩ : S27) (w64 (r179_1.1 + 1)) p1).bind fun r180 =>
            k r180))))))
structure G35 where
  f35 : Y35
  f64 : Y64
  f86 : Y86
  f103 : Y103
  f104 : Y104
def g35 : Nat → G35
  | 0 => ⟨fun _ _ _ _ => none, fun _ _ _ => none, fun _ _ _ => none, fun _ _ _ => none, fun _ _ _ => none⟩
  | n + 1 => ⟨(fun p0 p1 p2 p3 => b35 s24 (g35 n).f35 (g35 n).f64 s65 s66 (lp35_4 s24 (g35 n).f35 (g35 n).f64 s65 s66 big) p0 p1 p2 p3 some),
    (fun p0 p1 p2 => b64 s24 s27 (g35 n).f64 s66 (g35 n).f86 p0 p1 p2 some),
    (fun p0 p1 p2 => b86 s24 s27 (g35 n).f35 s100 s101 s102 (g35 n).f103 (g35 n).f104 (lp86_5 s24 s27 (g35 n).f35 s100 s101 s102 (g35 n).f103 (g35 n).f104 big) p0 p1 p2 some),
    (fun p0 p1 p2 => b103 s24 s27 s32 (g35 n).f35 s66 (lp103_11 s24 s27 s32 (g35 n).f35 s66 big) p0 p1 p2 some),
    (fun p0 p1 p2 => b104 s24 s27 s32 (g35 n).f35 s66 (lp104_16 s24 s27 s32 (g35 n).f35 s66 big) p0 p1 p2 some)⟩
def s35 : Y35 := (g35 big).f35
def s64 : Y64 := (g35 big).f64
def s86 : Y86 := (g35 big).f86
def s103 : Y103 := (g35 big).f103
def s104 : Y104 := (g35 big).f104
abbrev Y42 : Type := S41 → Int → Option Int
def b42 {R : Type} (f24 : Y24) (p0 : S41) (p1 : Int) (k : Int → Option R) : Option R :=
  (f24 p0 p1).bind fun r1 =>
  cond (r1.toList == (⟨#[105, 110, 116]⟩ : ByteArray).toList)
  (
    k 0)
  (
    (f24 p0 p1).bind fun r2 =>
    cond (r2.toList == (⟨#[98, 111, 111, 108]⟩ : ByteArray).toList)
    (
      k 1)
    (
      k (-1)))
def s42 : Y42 := (fun p0 p1 => b42 s24 p0 p1 some)
abbrev Y44 : Type := S41 → Int → Option S76
def b44 {R : Type} (f24 : Y24) (f32 : Y32) (p0 : S41) (p1 : Int) (k : S76 → Option R) : Option R :=
  cond (decide (p1 > 0))
  (
    when_ (decide (0 ≤ (w64 (p1 - 1))) && decide ((w64 (p1 - 1)) < (p0.c1.length : Int))) (
      (f24 p0 p1).bind fun r1 =>
      cond (!(r1.toList == (⟨#[64]⟩ : ByteArray).toList))
      (
        cond (!(r1.toList == (⟨#[64, 61]⟩ : ByteArray).toList))
        (
          k (⟨false, false, (⟨#[]⟩ : ByteArray), (p0.c1.getD (w64 (p1 - 1)).toNat z51).c2, (p0.c1.getD (w64 (p1 - 1)).toNat z51).c2, p1, 0⟩ : S76))
        (
          (f24 p0 (w64 (p1 + 1))).bind fun r2 =>
          (f32 r2).bind fun r3 =>
          cond (!r3)
          (
            k (⟨false, false, (⟨#[]⟩ : ByteArray), 0, 0, w64 (p1 + 1), 11⟩ : S76))
          (
            (f24 p0 (w64 (p1 + 1))).bind fun r4 =>
            when_ (decide (0 ≤ (w64 (p1 + 1))) && decide ((w64 (p1 + 1)) < (p0.c1.length : Int))) (
              when_ (decide (0 ≤ (w64 (p1 + 1))) && decide ((w64 (p1 + 1)) < (p0.c1.length : Int))) (
                k (⟨true, (r1.toList == (⟨#[64, 61]⟩ : ByteArray).toList), r4, (p0.c1.getD (w64 (p1 + 1)).toNat z51).c1, (p0.c1.getD (w64 (p1 + 1)).toNat z51).c2, w64 (p1 + 2), 0⟩ : S76))))))
      (
        (f24 p0 (w64 (p1 + 1))).bind fun r5 =>
        (f32 r5).bind fun r6 =>
        cond (!r6)
        (
          k (⟨false, false, (⟨#[]⟩ : ByteArray), 0, 0, w64 (p1 + 1), 11⟩ : S76))
        (
          (f24 p0 (w64 (p1 + 1))).bind fun r7 =>
          when_ (decide (0 ≤ (w64 (p1 + 1))) && decide ((w64 (p1 + 1)) < (p0.c1.length : Int))) (
            when_ (decide (0 ≤ (w64 (p1 + 1))) && decide ((w64 (p1 + 1)) < (p0.c1.length : Int))) (
              k (⟨true, (r1.toList == (⟨#[64, 61]⟩ : ByteArray).toList), r7, (p0.c1.getD (w64 (p1 + 1)).toNat z51).c1, (p0.c1.getD (w64 (p1 + 1)).toNat z51).c2, w64 (p1 + 2), 0⟩ : S76)))))))
  (
    (f24 p0 p1).bind fun r8 =>
    cond (!(r8.toList == (⟨#[64]⟩ : ByteArray).toList))
    (
      cond (!(r8.toList == (⟨#[64, 61]⟩ : ByteArray).toList))
      (
        k (⟨false, false, (⟨#[]⟩ : ByteArray), 0, 0, p1, 0⟩ : S76))
      (
        (f24 p0 (w64 (p1 + 1))).bind fun r9 =>
        (f32 r9).bind fun r10 =>
        cond (!r10)
        (
          k (⟨false, false, (⟨#[]⟩ : ByteArray), 0, 0, w64 (p1 + 1), 11⟩ : S76))
        (
          (f24 p0 (w64 (p1 + 1))).bind fun r11 =>
          when_ (decide (0 ≤ (w64 (p1 + 1))) && decide ((w64 (p1 + 1)) < (p0.c1.length : Int))) (
            when_ (decide (0 ≤ (w64 (p1 + 1))) && decide ((w64 (p1 + 1)) < (p0.c1.length : Int))) (
              k (⟨true, (r8.toList == (⟨#[64, 61]⟩ : ByteArray).toList), r11, (p0.c1.getD (w64 (p1 + 1)).toNat z51).c1, (p0.c1.getD (w64 (p1 + 1)).toNat z51).c2, w64 (p1 + 2), 0⟩ : S76))))))
    (
      (f24 p0 (w64 (p1 + 1))).bind fun r12 =>
      (f32 r12).bind fun r13 =>
      cond (!r13)
      (
        k (⟨false, false, (⟨#[]⟩ : ByteArray), 0, 0, w64 (p1 + 1), 11⟩ : S76))
      (
        (f24 p0 (w64 (p1 + 1))).bind fun r14 =>
        when_ (decide (0 ≤ (w64 (p1 + 1))) && decide ((w64 (p1 + 1)) < (p0.c1.length : Int))) (
          when_ (decide (0 ≤ (w64 (p1 + 1))) && decide ((w64 (p1 + 1)) < (p0.c1.length : Int))) (
            k (⟨true, (r8.toList == (⟨#[64, 61]⟩ : ByteArray).toList), r14, (p0.c1.getD (w64 (p1 + 1)).toNat z51).c1, (p0.c1.getD (w64 (p1 + 1)).toNat z51).c2, w64 (p1 + 2), 0⟩ : S76))))))
def s44 : Y44 := (fun p0 p1 => b44 s24 s32 p0 p1 some)
abbrev Y72 : Type := S41 → S79 → Int → Option S83
def b72 {R : Type} (f24 : Y24) (p0 : S41) (p1 : S79) (p2 : Int) (k : S83 → Option R) : Option R :=
  (f24 p0 p2).bind fun r1 =>
  cond (!(r1.toList == (⟨#[59]⟩ : ByteArray).toList))
  (
    k (⟨0, 0, (⟨#[]⟩ : ByteArray), 0, false, false, (⟨#[]⟩ : ByteArray), 0, 0, 0, 0, 0, (⟨#[]⟩ : ByteArray), (⟨#[]⟩ : ByteArray), [], [], [], [], p2, 11⟩ : S83))
  (
    k (⟨p1.c0, p1.c1, p1.c2, p1.c3, p1.c4, p1.c5, p1.c6, p1.c7, p1.c8, p1.c9, p1.c10, p1.c11, p1.c12, p1.c13, p1.c14, p1.c15, p1.c16, [], w64 (p2 + 1), 0⟩ : S83))
def s72 : Y72 := (fun p0 p1 p2 => b72 s24 p0 p1 p2 some)
abbrev Y73 : Type := S41 → S79 → Int → Option S83
def b73 {R : Type} (f24 : Y24) (f35 : Y35) (f72 : Y72) (p0 : S41) (p1 : S79) (p2 : Int) (k : S83 → Option R) : Option R :=
  (f24 p0 p2).bind fun r1 =>
  cond (!(r1.toList == (⟨#[61]⟩ : ByteArray).toList))
  (
    k (⟨0, 0, (⟨#[]⟩ : ByteArray), 0, false, false, (⟨#[]⟩ : ByteArray), 0, 0, 0, 0, 0, (⟨#[]⟩ : ByteArray), (⟨#[]⟩ : ByteArray), [], [], [], [], p2, 11⟩ : S83))
  (
    (f35 p0 (w64 (p2 + 1)) 1 0).bind fun r2 =>
    cond (r2.c7 != 0)
    (
      k (⟨0, 0, (⟨#[]⟩ : ByteArray), 0, false, false, (⟨#[]⟩ : ByteArray), 0, 0, 0, 0, 0, (⟨#[]⟩ : ByteArray), (⟨#[]⟩ : ByteArray), [], [], [], [], r2.c6, r2.c7⟩ : S83))
    (
      (f72 p0 (⟨p1.c0, p1.c1, p1.c2, p1.c3, p1.c4, p1.c5, p1.c6, p1.c7, p1.c8, r2.c0, r2.c1, r2.c2, r2.c3, r2.c4, r2.c5, p1.c15, p1.c16⟩ : S79) r2.c6).bind fun r3 =>
      k r3))
def s73 : Y73 := (fun p0 p1 p2 => b73 s24 s35 s72 p0 p1 p2 some)
abbrev Y70 : Type := S41 → S79 → Int → Option S83
def b70 {R : Type} (f24 : Y24) (f32 : Y32) (f42 : Y42) (f44 : Y44) (f73 : Y73) (p0 : S41) (p1 : S79) (p2 : Int) (k : S83 → Option R) : Option R :=
  (f24 p0 p2).bind fun r1 =>
  (f32 r1).bind fun r2 =>
  cond (!r2)
  (
    k (⟨0, 0, (⟨#[]⟩ : ByteArray), 0, false, false, (⟨#[]⟩ : ByteArray), 0, 0, 0, 0, 0, (⟨#[]⟩ : ByteArray), (⟨#[]⟩ : ByteArray), [], [], [], [], p2, 11⟩ : S83))
  (
    (f24 p0 (w64 (p2 + 1))).bind fun r3 =>
    cond (!(r3.toList == (⟨#[58]⟩ : ByteArray).toList))
    (
      k (⟨0, 0, (⟨#[]⟩ : ByteArray), 0, false, false, (⟨#[]⟩ : ByteArray), 0, 0, 0, 0, 0, (⟨#[]⟩ : ByteArray), (⟨#[]⟩ : ByteArray), [], [], [], [], w64 (p2 + 1), 11⟩ : S83))
    (
      (f42 p0 (w64 (p2 + 2))).bind fun r4 =>
      cond (decide (r4 < 0))
      (
        k (⟨0, 0, (⟨#[]⟩ : ByteArray), 0, false, false, (⟨#[]⟩ : ByteArray), 0, 0, 0, 0, 0, (⟨#[]⟩ : ByteArray), (⟨#[]⟩ : ByteArray), [], [], [], [], w64 (p2 + 2), 11⟩ : S83))
      (
        (f44 p0 (w64 (p2 + 3))).bind fun r5 =>
        cond (r5.c6 != 0)
        (
          k (⟨0, 0, (⟨#[]⟩ : ByteArray), 0, false, false, (⟨#[]⟩ : ByteArray), 0, 0, 0, 0, 0, (⟨#[]⟩ : ByteArray), (⟨#[]⟩ : ByteArray), [], [], [], [], r5.c5, r5.c6⟩ : S83))
        (
          (f73 p0 (⟨p1.c0, p1.c1, r1, r4, r5.c0, r5.c1, r5.c2, r5.c3, r5.c4, p1.c9, p1.c10, p1.c11, p1.c12, p1.c13, p1.c14, p1.c15, p1.c16⟩ : S79) r5.c5).bind fun r6 =>
          k r6))))
def s70 : Y70 := (fun p0 p1 p2 => b70 s24 s32 s42 s44 s73 p0 p1 p2 some)
abbrev Y46 : Type := S41 → Int → Int → Option S83
abbrev Y67 : Type := S41 → Int → Int → Option S83
abbrev Y71 : Type := S41 → S79 → Int → Int → Option S83
abbrev Y92 : Type := S41 → Int → Int → Option S83
def b46 {R : Type} (f24 : Y24) (f27 : Y27) (f32 : Y32) (f35 : Y35) (f70 : Y70) (f71 : Y71) (f72 : Y72) (f73 : Y73) (p0 : S41) (p1 : Int) (p2 : Int) (k : S83 → Option R) : Option R :=
  (f27 p0 p1).bind fun r1 =>
  (f24 p0 p1).bind fun r2 =>
  cond (r2.toList == (⟨#[108, 101, 116]⟩ : ByteArray).toList)
  (
    (f70 p0 (⟨0, r1, (⟨#[]⟩ : ByteArray), 0, false, false, (⟨#[]⟩ : ByteArray), 0, 0, 0, 0, 0, (⟨#[]⟩ : ByteArray), (⟨#[]⟩ : ByteArray), [], [], []⟩ : S79) (w64 (p1 + 1))).bind fun r3 =>
    k r3)
  (
    cond (r2.toList == (⟨#[105, 102]⟩ : ByteArray).toList)
    (
      (f71 p0 (⟨2, r1, (⟨#[]⟩ : ByteArray), 0, false, false, (⟨#[]⟩ : ByteArray), 0, 0, 0, 0, 0, (⟨#[]⟩ : ByteArray), (⟨#[]⟩ : ByteArray), [], [], []⟩ : S79) (w64 (p1 + 1)) p2).bind fun r4 =>
      k r4)
    (
      cond (r2.toList == (⟨#[119, 104, 105, 108, 101]⟩ : ByteArray).toList)
      (
        (f71 p0 (⟨3, r1, (⟨#[]⟩ : ByteArray), 0, false, false, (⟨#[]⟩ : ByteArray), 0, 0, 0, 0, 0, (⟨#[]⟩ : ByteArray), (⟨#[]⟩ : ByteArray), [], [], []⟩ : S79) (w64 (p1 + 1)) p2).bind fun r5 =>
        k r5)
      (
        cond (r2.toList == (⟨#[100, 111]⟩ : ByteArray).toList)
        (
          (f24 p0 (w64 (p1 + 1))).bind fun r6 =>
          (f32 r6).bind fun r7 =>
          cond (!r7)
          (
            k (⟨0, 0, (⟨#[]⟩ : ByteArray), 0, false, false, (⟨#[]⟩ : ByteArray), 0, 0, 0, 0, 0, (⟨#[]⟩ : ByteArray), (⟨#[]⟩ : ByteArray), [], [], [], [], w64 (p1 + 1), 11⟩ : S83))
          (
            (f72 p0 (⟨4, r1, r6, 0, false, false, (⟨#[]⟩ : ByteArray), 0, 0, 0, 0, 0, (⟨#[]⟩ : ByteArray), (⟨#[]⟩ : ByteArray), [], [], []⟩ : S79) (w64 (p1 + 2))).bind fun r8 =>
            k r8))
        (
          (f35 p0 p1 1 0).bind fun r9 =>
          cond (r9.c7 != 0)
          (
            k (⟨0, 0, (⟨#[]⟩ : ByteArray), 0, false, false, (⟨#[]⟩ : ByteArray), 0, 0, 0, 0, 0, (⟨#[]⟩ : ByteArray), (⟨#[]⟩ : ByteArray), [], [], [], [], r9.c6, r9.c7⟩ : S83))
          (
            cond (r9.c0 == 2)
            (
              (f73 p0 (⟨1, r1, r9.c3, 0, false, false, (⟨#[]⟩ : ByteArray), 0, 0, 0, 0, 0, (⟨#[]⟩ : ByteArray), (⟨#[]⟩ : ByteArray), [], [], []⟩ : S79) r9.c6).bind fun r10 =>
              k r10)
            (
              cond (r9.c0 == 3)
              (
                (f72 p0 (⟨5, r1, (⟨#[]⟩ : ByteArray), 0, false, false, (⟨#[]⟩ : ByteArray), 0, 0, r9.c0, r9.c1, r9.c2, r9.c3, r9.c4, r9.c5, [], []⟩ : S79) r9.c6).bind fun r11 =>
                k r11)
              (
                k (⟨0, 0, (⟨#[]⟩ : ByteArray), 0, false, false, (⟨#[]⟩ : ByteArray), 0, 0, 0, 0, 0, (⟨#[]⟩ : ByteArray), (⟨#[]⟩ : ByteArray), [], [], [], [], r9.c6, 11⟩ : S83))))))))
abbrev Z67_2 : Type := S41 → Int → Int → List S79 → Option ((Int × List S79 × Int × Int × ByteArray × Int × Bool × Bool × ByteArray × Int × Int × Int × Int × Int × ByteArray × ByteArray × Int × Int) ⊕ (Int × List S79))
def lb67_2 {R : Type} (f24 : Y24) (f46 : Y46) (q48 : S41) (q47 : Int) (c : Int → List S79 → Option R) (e0 : (Int × List S79 × Int × Int × ByteArray × Int × Bool × Bool × ByteArray × Int × Int × Int × Int × Int × ByteArray × ByteArray × Int × Int) → Option R) (e1 : (Int × List S79) → Option R) (v46 : Int) (v65 : List S79) : Option R :=
  cond (decide (v46 < (q48.c1.length : Int)))
  (
    (f24 q48 v46).bind fun r66 =>
    cond (!(r66.toList == (⟨#[125]⟩ : ByteArray).toList))
    (
      (f24 q48 v46).bind fun r67 =>
      cond (!(r67.toList == (⟨#[114, 101, 116, 117, 114, 110]⟩ : ByteArray).toList))
      (
        (f46 q48 v46 q47).bind fun r68 =>
        cond (r68.c19 != 0)
        (
          e0 (v46, v65, 0, 0, (⟨#[]⟩ : ByteArray), 0, false, false, (⟨#[]⟩ : ByteArray), 0, 0, 0, 0, 0, (⟨#[]⟩ : ByteArray), (⟨#[]⟩ : ByteArray), r68.c18, r68.c19))
        (
          when_ (decide (v65.length + [(⟨r68.c0, r68.c1, r68.c2, r68.c3, r68.c4, r68.c5, r68.c6, r68.c7, r68.c8, r68.c9, r68.c10, r68.c11, r68.c12, r68.c13, r68.c14, r68.c15, r68.c16⟩ : S79)].length ≤ 676622540169)) (
            c r68.c18 (v65 ++ [(⟨r68.c0, r68.c1, r68.c2, r68.c3, r68.c4, r68.c5, r68.c6, r68.c7, r68.c8, r68.c9, r68.c10, r68.c11, r68.c12, r68.c13, r68.c14, r68.c15, r68.c16⟩ : S79)]))))
      (
        e1 (v46, v65)))
    (
      e1 (v46, v65)))
  (
    e1 (v46, v65))
def lp67_2 (f24 : Y24) (f46 : Y46) : Nat → Z67_2
  | 0 => fun _ _ _ _ => none
  | n + 1 => fun q48 q47 v46 v65 => lb67_2 f24 f46 q48 q47 (fun v46 v65 => lp67_2 f24 f46 n q48 q47 v46 v65) (fun o => some (Sum.inl o)) (fun o => some (Sum.inr (o))) v46 v65
def b67 {R : Type} (f24 : Y24) (f46 : Y46) (l2 : Z67_2) (p0 : S41) (p1 : Int) (p2 : Int) (k : S83 → Option R) : Option R :=
  (l2 p0 p2 p1 []).bind (Sum.elim (fun r69_0 =>
    k (⟨r69_0.2.2.1, r69_0.2.2.2.1, r69_0.2.2.2.2.1, r69_0.2.2.2.2.2.1, r69_0.2.2.2.2.2.2.1, r69_0.2.2.2.2.2.2.2.1, r69_0.2.2.2.2.2.2.2.2.1, r69_0.2.2.2.2.2.2.2.2.2.1, r69_0.2.2.2.2.2.2.2.2.2.2.1, r69_0.2.2.2.2.2.2.2.2.2.2.2.1, r69_0.2.2.2.2.2.2.2.2.2.2.2.2.1, r69_0.2.2.2.2.2.2.2.2.2.2.2.2.2.1, r69_0.2.2.2.2.2.2.2.2.2.2.2.2.2.2.1, r69_0.2.2.2.2.2.2.2.2.2.2.2.2.2.2.2.1, [], [], [], [], r69_0.2.2.2.2.2.2.2.2.2.2.2.2.2.2.2.2.1, r69_0.2.2.2.2.2.2.2.2.2.2.2.2.2.2.2.2.2⟩ : S83)) (fun r69_1 =>
    k (⟨0, 0, (⟨#[]⟩ : ByteArray), 0, false, false, (⟨#[]⟩ : ByteArray), 0, 0, 0, 0, 0, (⟨#[]⟩ : ByteArray), (⟨#[]⟩ : ByteArray), [], [], [], r69_1.2, r69_1.1, 0⟩ : S83)))
def b71 {R : Type} (f24 : Y24) (f35 : Y35) (f92 : Y92) (p0 : S41) (p1 : S79) (p2 : Int) (p3 : Int) (k : S83 → Option R) : Option R :=
  (f24 p0 p2).bind fun r1 =>
  cond (!(r1.toList == (⟨#[40]⟩ : ByteArray).toList))
  (
    k (⟨0, 0, (⟨#[]⟩ : ByteArray), 0, false, false, (⟨#[]⟩ : ByteArray), 0, 0, 0, 0, 0, (⟨#[]⟩ : ByteArray), (⟨#[]⟩ : ByteArray), [], [], [], [], p2, 11⟩ : S83))
  (
    (f35 p0 (w64 (p2 + 1)) 1 0).bind fun r2 =>
    cond (r2.c7 != 0)
    (
      k (⟨0, 0, (⟨#[]⟩ : ByteArray), 0, false, false, (⟨#[]⟩ : ByteArray), 0, 0, 0, 0, 0, (⟨#[]⟩ : ByteArray), (⟨#[]⟩ : ByteArray), [], [], [], [], r2.c6, r2.c7⟩ : S83))
    (
      (f24 p0 r2.c6).bind fun r3 =>
      cond (!(r3.toList == (⟨#[41]⟩ : ByteArray).toList))
      (
        k (⟨0, 0, (⟨#[]⟩ : ByteArray), 0, false, false, (⟨#[]⟩ : ByteArray), 0, 0, 0, 0, 0, (⟨#[]⟩ : ByteArray), (⟨#[]⟩ : ByteArray), [], [], [], [], r2.c6, 11⟩ : S83))
      (
        (f92 p0 (w64 (r2.c6 + 1)) p3).bind fun r4 =>
        cond (r4.c19 != 0)
        (
          k r4)
        (
          cond (p1.c0 == 2)
          (
            (f24 p0 r4.c18).bind fun r5 =>
            cond (r5.toList == (⟨#[101, 108, 115, 101]⟩ : ByteArray).toList)
            (
              (f92 p0 (w64 (r4.c18 + 1)) p3).bind fun r6 =>
              cond (r6.c19 != 0)
              (
                k r6)
              (
                k (⟨p1.c0, p1.c1, p1.c2, p1.c3, p1.c4, p1.c5, p1.c6, p1.c7, p1.c8, r2.c0, r2.c1, r2.c2, r2.c3, r2.c4, r2.c5, r4.c17, r6.c17, [], r6.c18, 0⟩ : S83)))
            (
              k (⟨p1.c0, p1.c1, p1.c2, p1.c3, p1.c4, p1.c5, p1.c6, p1.c7, p1.c8, r2.c0, r2.c1, r2.c2, r2.c3, r2.c4, r2.c5, r4.c17, p1.c16, [], r4.c18, 0⟩ : S83)))
          (
            k (⟨p1.c0, p1.c1, p1.c2, p1.c3, p1.c4, p1.c5, p1.c6, p1.c7, p1.c8, r2.c0, r2.c1, r2.c2, r2.c3, r2.c4, r2.c5, r4.c17, p1.c16, [], r4.c18, 0⟩ : S83))))))
def b92 {R : Type} (f24 : Y24) (f67 : Y67) (p0 : S41) (p1 : Int) (p2 : Int) (k : S83 → Option R) : Option R :=
  (f24 p0 p1).bind fun r1 =>
  cond (!(r1.toList == (⟨#[123]⟩ : ByteArray).toList))
  (
    k (⟨0, 0, (⟨#[]⟩ : ByteArray), 0, false, false, (⟨#[]⟩ : ByteArray), 0, 0, 0, 0, 0, (⟨#[]⟩ : ByteArray), (⟨#[]⟩ : ByteArray), [], [], [], [], p1, 11⟩ : S83))
  (
    cond (decide (p2 ≥ 32))
    (
      k (⟨0, 0, (⟨#[]⟩ : ByteArray), 0, false, false, (⟨#[]⟩ : ByteArray), 0, 0, 0, 0, 0, (⟨#[]⟩ : ByteArray), (⟨#[]⟩ : ByteArray), [], [], [], [], p1, 12⟩ : S83))
    (
      (f67 p0 (w64 (p1 + 1)) (w64 (p2 + 1))).bind fun r2 =>
      cond (r2.c19 != 0)
      (
        k r2)
      (
        (f24 p0 r2.c18).bind fun r3 =>
        cond (!(r3.toList == (⟨#[125]⟩ : ByteArray).toList))
        (
          k (⟨0, 0, (⟨#[]⟩ : ByteArray), 0, false, false, (⟨#[]⟩ : ByteArray), 0, 0, 0, 0, 0, (⟨#[]⟩ : ByteArray), (⟨#[]⟩ : ByteArray), [], [], [], [], r2.c18, 11⟩ : S83))
        (
          k (⟨r2.c0, r2.c1, r2.c2, r2.c3, r2.c4, r2.c5, r2.c6, r2.c7, r2.c8, r2.c9, r2.c10, r2.c11, r2.c12, r2.c13, r2.c14, r2.c15, r2.c16, r2.c17, w64 (r2.c18 + 1), r2.c19⟩ : S83)))))
structure G46 where
  f46 : Y46
  f67 : Y67
  f71 : Y71
  f92 : Y92
def g46 : Nat → G46
  | 0 => ⟨fun _ _ _ => none, fun _ _ _ => none, fun _ _ _ _ => none, fun _ _ _ => none⟩
  | n + 1 => ⟨(fun p0 p1 p2 => b46 s24 s27 s32 s35 s70 (g46 n).f71 s72 s73 p0 p1 p2 some),
    (fun p0 p1 p2 => b67 s24 (g46 n).f46 (lp67_2 s24 (g46 n).f46 big) p0 p1 p2 some),
    (fun p0 p1 p2 p3 => b71 s24 s35 (g46 n).f92 p0 p1 p2 p3 some),
    (fun p0 p1 p2 => b92 s24 (g46 n).f67 p0 p1 p2 some)⟩
def s46 : Y46 := (g46 big).f46
def s67 : Y67 := (g46 big).f67
def s71 : Y71 := (g46 big).f71
def s92 : Y92 := (g46 big).f92
abbrev Y39 : Type := ByteArray → Option ((List S79) × Int × Int)
def b39 {R : Type} (f21 : Y21) (f27 : Y27) (f51 : Y51) (f67 : Y67) (p0 : ByteArray) (k : ((List S79) × Int × Int) → Option R) : Option R :=
  (f51 p0).bind fun r1 =>
  cond (decide (r1 ≥ 0))
  (
    k ([], r1, 10))
  (
    (f21 p0).bind fun r2 =>
    (f67 r2 0 0).bind fun r3 =>
    cond (r3.c19 != 0)
    (
      (f27 r2 r3.c18).bind fun r4 =>
      k ([], r4, r3.c19))
    (
      cond (decide (r3.c18 < (r2.c1.length : Int)))
      (
        (f27 r2 r3.c18).bind fun r5 =>
        k ([], r5, 11))
      (
        k (r3.c17, (p0.size : Int), 0))))
def s39 : Y39 := (fun p0 => b39 s21 s27 s51 s67 p0 some)
abbrev Y16 : Type := S27 → S27 → Option Bool
abbrev Y52 : Type := (List S27) → (List S27) → Option Bool
def b16 {R : Type} (f52 : Y52) (p0 : S27) (p1 : S27) (k : Bool → Option R) : Option R :=
  cond (p0.c0 != p1.c0)
  (
    k false)
  (
    cond (p0.c1 != p1.c1)
    (
      k false)
    (
      cond (p0.c2 != p1.c2)
      (
        k false)
      (
        cond (!(p0.c3.toList == p1.c3.toList))
        (
          k false)
        (
          cond (!(p0.c4.toList == p1.c4.toList))
          (
            k false)
          (
            (f52 p0.c5 p1.c5).bind fun r1 =>
            k r1)))))
abbrev Z52_4 : Type := List S27 → List S27 → Int → Option ((Int × Bool) ⊕ Int)
def lb52_4 {R : Type} (f16 : Y16) (q5 : List S27) (q6 : List S27) (c : Int → Option R) (e0 : (Int × Bool) → Option R) (e1 : Int → Option R) (v7 : Int) : Option R :=
  cond (decide (v7 < (q5.length : Int)))
  (
    when_ (decide (0 ≤ v7) && decide (v7 < (q5.length : Int))) (
      when_ (decide (0 ≤ v7) && decide (v7 < (q6.length : Int))) (
        (f16 (⟨(q5.getD v7.toNat z27).c0, (q5.getD v7.toNat z27).c1, (q5.getD v7.toNat z27).c2, (q5.getD v7.toNat z27).c3, (q5.getD v7.toNat z27).c4, (q5.getD v7.toNat z27).c5⟩ : S27) (⟨(q6.getD v7.toNat z27).c0, (q6.getD v7.toNat z27).c1, (q6.getD v7.toNat z27).c2, (q6.getD v7.toNat z27).c3, (q6.getD v7.toNat z27).c4, (q6.getD v7.toNat z27).c5⟩ : S27)).bind fun r8 =>
        cond (!r8)
        (
          e0 (v7, false))
        (
          c (w64 (v7 + 1))))))
  (
    e1 v7)
def lp52_4 (f16 : Y16) : Nat → Z52_4
  | 0 => fun _ _ _ => none
  | n + 1 => fun q5 q6 v7 => lb52_4 f16 q5 q6 (fun v7 => lp52_4 f16 n q5 q6 v7) (fun o => some (Sum.inl o)) (fun o => some (Sum.inr (o))) v7
def b52 {R : Type} (f16 : Y16) (l4 : Z52_4) (p0 : (List S27)) (p1 : (List S27)) (k : Bool → Option R) : Option R :=
  cond ((p0.length : Int) != (p1.length : Int))
  (
    k false)
  (
    (l4 p0 p1 0).bind (Sum.elim (fun r9_0 =>
      k r9_0.2) (fun r9_1 =>
      k true)))
structure G16 where
  f16 : Y16
  f52 : Y52
def g16 : Nat → G16
  | 0 => ⟨fun _ _ => none, fun _ _ => none⟩
  | n + 1 => ⟨(fun p0 p1 => b16 (g16 n).f52 p0 p1 some),
    (fun p0 p1 => b52 (g16 n).f16 (lp52_4 (g16 n).f16 big) p0 p1 some)⟩
def s16 : Y16 := (g16 big).f16
def s52 : Y52 := (g16 big).f52
abbrev Y40 : Type := (List S79) → (List S79) → Option Bool
abbrev Z40_4 : Type := List S79 → List S79 → Int → Option ((Int × Bool) ⊕ Int)
def lb40_4 {R : Type} (f16 : Y16) (f40 : Y40) (q7 : List S79) (q8 : List S79) (c : Int → Option R) (e0 : (Int × Bool) → Option R) (e1 : Int → Option R) (v9 : Int) : Option R :=
  cond (decide (v9 < (q7.length : Int)))
  (
    when_ (decide (0 ≤ v9) && decide (v9 < (q7.length : Int))) (
      when_ (decide (0 ≤ v9) && decide (v9 < (q8.length : Int))) (
        cond ((q7.getD v9.toNat z79).c0 != (q8.getD v9.toNat z79).c0)
        (
          e0 (v9, false))
        (
          cond ((q7.getD v9.toNat z79).c1 != (q8.getD v9.toNat z79).c1)
          (
            e0 (v9, false))
          (
            cond (!(((q7.getD v9.toNat z79).c2).toList == ((q8.getD v9.toNat z79).c2).toList))
            (
              e0 (v9, false))
            (
              cond ((q7.getD v9.toNat z79).c3 != (q8.getD v9.toNat z79).c3)
              (
                e0 (v9, false))
              (
                cond (!(((q7.getD v9.toNat z79).c4 == (q8.getD v9.toNat z79).c4) && (((q7.getD v9.toNat z79).c5 == (q8.getD v9.toNat z79).c5) && ((((q7.getD v9.toNat z79).c6).toList == ((q8.getD v9.toNat z79).c6).toList) && (((q7.getD v9.toNat z79).c7 == (q8.getD v9.toNat z79).c7) && (((q7.getD v9.toNat z79).c8 == (q8.getD v9.toNat z79).c8) && true))))))
                (
                  e0 (v9, false))
                (
                  (f16 (⟨(q7.getD v9.toNat z79).c9, (q7.getD v9.toNat z79).c10, (q7.getD v9.toNat z79).c11, (q7.getD v9.toNat z79).c12, (q7.getD v9.toNat z79).c13, (q7.getD v9.toNat z79).c14⟩ : S27) (⟨(q8.getD v9.toNat z79).c9, (q8.getD v9.toNat z79).c10, (q8.getD v9.toNat z79).c11, (q8.getD v9.toNat z79).c12, (q8.getD v9.toNat z79).c13, (q8.getD v9.toNat z79).c14⟩ : S27)).bind fun r10 =>
                  cond (!r10)
                  (
                    e0 (v9, false))
                  (
                    (f40 ((q7.getD v9.toNat z79).c15) ((q8.getD v9.toNat z79).c15)).bind fun r11 =>
                    cond (!r11)
                    (
                      e0 (v9, false))
                    (
                      (f40 ((q7.getD v9.toNat z79).c16) ((q8.getD v9.toNat z79).c16)).bind fun r12 =>
                      cond (!r12)
                      (
                        e0 (v9, false))
                      (
                        c (w64 (v9 + 1)))))))))))))
  (
    e1 v9)
def lp40_4 (f16 : Y16) (f40 : Y40) : Nat → Z40_4
  | 0 => fun _ _ _ => none
  | n + 1 => fun q7 q8 v9 => lb40_4 f16 f40 q7 q8 (fun v9 => lp40_4 f16 f40 n q7 q8 v9) (fun o => some (Sum.inl o)) (fun o => some (Sum.inr (o))) v9
def b40 {R : Type} (f16 : Y16) (f40 : Y40) (l4 : Z40_4) (p0 : (List S79)) (p1 : (List S79)) (k : Bool → Option R) : Option R :=
  cond ((p0.length : Int) != (p1.length : Int))
  (
    k false)
  (
    (l4 p0 p1 0).bind (Sum.elim (fun r13_0 =>
      k r13_0.2) (fun r13_1 =>
      k true)))
structure G40 where
  f40 : Y40
def g40 : Nat → G40
  | 0 => ⟨fun _ _ => none⟩
  | n + 1 => ⟨(fun p0 p1 => b40 s16 (g40 n).f40 (lp40_4 s16 (g40 n).f40 big) p0 p1 some)⟩
def s40 : Y40 := (g40 big).f40
abbrev Y8 : Type := (List Int) → Option Bool
def b8 {R : Type} (f13 : Y13) (f19 : Y19) (f37 : Y37) (f38 : Y38) (f39 : Y39) (f40 : Y40) (p0 : (List Int)) (k : Bool → Option R) : Option R :=
  cond (decide ((p0.length : Int) > 1500))
  (
    (f37).bind fun r1 =>
    k r1)
  (
    (f13 p0).bind fun r2 =>
    (f38 r2).bind fun r3 =>
    (f39 (strOf p0)).bind fun r4 =>
    (f40 r3.1 r4.1).bind fun r5 =>
    cond r5
    (
      cond (r3.2.1 == r4.2.1)
      (
        cond (r3.2.2 == r4.2.2)
        (
          (f19 r2 p0 ([77, 78, 79] : List Int)).bind fun r6 =>
          cond r6
          (
            (f37).bind fun r7 =>
            k r7)
          (
            k false))
        (
          k false))
      (
        k false))
    (
      k false))
def s8 : Y8 := (fun p0 => b8 s13 s19 s37 s38 s39 s40 p0 some)
end Go.Proofs.Ytogfofcocidmkaa.Ev
