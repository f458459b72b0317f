/- EV (ours): the functions' entries; printed by gen.py -/
import Derived.Test.YtogfofcocidmkaaEvPl
import Derived.Test.YtogfofcocidmkaaEvX
set_option linter.unusedVariables false
set_option linter.unusedSimpArgs false
namespace Go.Proofs.Ytogfofcocidmkaa.Ev
open Go.RowKit Go.Proofs
abbrev ud : U.D := .v (.c .undef)
def tp56 : AT := ⟨[.c (.l 5)], []⟩
def e56 {R : Type} (f : Y56) (rest : Fn U R) : Fn U R := ent tp56 (fun x κ => (f x.1.1).bind fun r => κ (.v (.c (.sl 5 r))) []) rest
def tp107 : AT := ⟨[.c .s, .c (.i .u8)], []⟩
def e107 {R : Type} (f : Y107) (rest : Fn U R) : Fn U R := ent tp107 (fun x κ => (f x.1.1 x.1.2.1).bind fun r => κ (.v (.c (.int .i64 r))) []) rest
def tp13 : AT := ⟨[.c (.l 5)], []⟩
def e13 {R : Type} (f : Y13) (rest : Fn U R) : Fn U R := ent tp13 (fun x κ => (f x.1.1).bind fun r => κ (.v (.c (.sp 5 r ([77, 78, 79] : List Int)))) []) rest
def tp53 : AT := ⟨[.c (.l 5), .c (.l 5)], []⟩
def e53 {R : Type} (f : Y53) (rest : Fn U R) : Fn U R := ent tp53 (fun x κ => (f x.1.1 x.1.2.1).bind fun r => κ (.v (.c (.bool r))) []) rest
def tp19 : AT := ⟨[.c (.q 5), .c (.l 5)], []⟩
def e19 {R : Type} (f : Y19) (rest : Fn U R) : Fn U R := ent tp19 (fun x κ => (f x.1.1.1 x.1.2.1 x.1.1.2).bind fun r => κ (.v (.c (.bool r))) []) rest
def tp79 : AT := ⟨[.c (.i .u8)], []⟩
def e79 {R : Type} (f : Y79) (rest : Fn U R) : Fn U R := ent tp79 (fun x κ => (f x.1.1).bind fun r => κ (.v (.c (.bool r))) []) rest
def tp82 : AT := ⟨[.c (.i .u8)], []⟩
def e82 {R : Type} (f : Y82) (rest : Fn U R) : Fn U R := ent tp82 (fun x κ => (f x.1.1).bind fun r => κ (.v (.c (.bool r))) []) rest
def tp80_82 : AT := ⟨[.c (.l 5), .c (.fn 82)], []⟩
def e80_82 {R : Type} (f : Y80_82) (rest : Fn U R) : Fn U R := ent tp80_82 (fun x κ => (f x.1.1).bind fun r => κ (.v (.c (.int .i64 r))) []) rest
def tp93 : AT := ⟨[.c (.i .u8)], []⟩
def e93 {R : Type} (f : Y93) (rest : Fn U R) : Fn U R := ent tp93 (fun x κ => (f x.1.1).bind fun r => κ (.v (.c (.bool r))) []) rest
def tp80_93 : AT := ⟨[.c (.l 5), .c (.fn 93)], []⟩
def e80_93 {R : Type} (f : Y80_93) (rest : Fn U R) : Fn U R := ent tp80_93 (fun x κ => (f x.1.1).bind fun r => κ (.v (.c (.int .i64 r))) []) rest
def tp94 : AT := ⟨[.c (.i .u8)], []⟩
def e94 {R : Type} (f : Y94) (rest : Fn U R) : Fn U R := ent tp94 (fun x κ => (f x.1.1).bind fun r => κ (.v (.c (.bool r))) []) rest
def tp80_94 : AT := ⟨[.c (.l 5), .c (.fn 94)], []⟩
def e80_94 {R : Type} (f : Y80_94) (rest : Fn U R) : Fn U R := ent tp80_94 (fun x κ => (f x.1.1).bind fun r => κ (.v (.c (.int .i64 r))) []) rest
def tp95 : AT := ⟨[.c (.i .u8)], []⟩
def e95 {R : Type} (f : Y95) (rest : Fn U R) : Fn U R := ent tp95 (fun x κ => (f x.1.1).bind fun r => κ (.v (.c (.bool r))) []) rest
def tp80_95 : AT := ⟨[.c (.l 5), .c (.fn 95)], []⟩
def e80_95 {R : Type} (f : Y80_95) (rest : Fn U R) : Fn U R := ent tp80_95 (fun x κ => (f x.1.1).bind fun r => κ (.v (.c (.int .i64 r))) []) rest
def tp106 : AT := ⟨[.c (.l 9), .c .s], []⟩
def e106 {R : Type} (f : Y106) (rest : Fn U R) : Fn U R := ent tp106 (fun x κ => (f x.1.1 x.1.2.1).bind fun r => κ (.v (.c (.int .i64 r))) []) rest
def tp96 : AT := ⟨[.c (.l 9), .c .s], []⟩
def e96 {R : Type} (f : Y96) (rest : Fn U R) : Fn U R := ent tp96 (fun x κ => (f x.1.1 x.1.2.1).bind fun r => κ (.v (.c (.bool r))) []) rest
def tp97 : AT := ⟨[.c .s, .c (.i .u8)], []⟩
def e97 {R : Type} (f : Y97) (rest : Fn U R) : Fn U R := ent tp97 (fun x κ => (f x.1.1 x.1.2.1).bind fun r => κ (.v (.c (.int .i64 r))) []) rest
def tp76 : AT := ⟨[.c (.l 5)], []⟩
def e76 {R : Type} (f : Y76) (rest : Fn U R) : Fn U R := ent tp76 (fun x κ => (f x.1.1).bind fun r => κ (.tup [.c (.int .i64 r.1), .c (.int .i64 r.2)]) []) rest
def tp50 : AT := ⟨[.c (.l 5)], []⟩
def e50 {R : Type} (f : Y50) (rest : Fn U R) : Fn U R := ent tp50 (fun x κ => (f x.1.1).bind fun r => κ (.v (.c (.new 51 r))) []) rest
def tp57 : AT := ⟨[.c (.l 51)], []⟩
def e57 {R : Type} (f : Y57) (rest : Fn U R) : Fn U R := ent tp57 (fun x κ => (f x.1.1).bind fun r => κ (.v (.c (.new 51 r))) []) rest
def tp22 : AT := ⟨[.c (.l 5)], []⟩
def e22 {R : Type} (f : Y22) (rest : Fn U R) : Fn U R := ent tp22 (fun x κ => (f x.1.1).bind fun r => κ (.v (.c (.ptr 0 0))) [[.sl 5 r.c0, .sl 51 r.c1, .int .i64 r.c2, .int .i64 r.c3]]) rest
def tp29 : AT := ⟨[.c (.p 0 0)], [[.l 5, .l 51, .i .i64, .i .i64]]⟩
def e29 {R : Type} (f : Y29) (rest : Fn U R) : Fn U R := ent tp29 (fun x κ => (f (⟨x.2.1.1, x.2.1.2.1, x.2.1.2.2.1, x.2.1.2.2.2.1⟩ : S98)).bind fun r => κ (.v (.c (.bool r))) (fillB tp29.b x.2)) rest
def tp26 : AT := ⟨[.c (.p 0 0)], [[.l 5, .l 51, .i .i64, .i .i64]]⟩
def e26 {R : Type} (f : Y26) (rest : Fn U R) : Fn U R := ent tp26 (fun x κ => (f (⟨x.2.1.1, x.2.1.2.1, x.2.1.2.2.1, x.2.1.2.2.2.1⟩ : S98)).bind fun r => κ (.v (.c (.int .i64 r))) (fillB tp26.b x.2)) rest
def tp58 : AT := ⟨[.c (.l 5), .a [.i .i64, .i .i64, .i .i64]], []⟩
def e58 {R : Type} (f : Y58) (rest : Fn U R) : Fn U R := ent tp58 (fun x κ => (f x.1.1 (⟨x.1.2.1.1, x.1.2.1.2.1, x.1.2.1.2.2.1⟩ : S51)).bind fun r => κ (.v (.c (.str r))) []) rest
def tp25 : AT := ⟨[.c (.p 0 0)], [[.l 5, .l 51, .i .i64, .i .i64]]⟩
def e25 {R : Type} (f : Y25) (rest : Fn U R) : Fn U R := ent tp25 (fun x κ => (f (⟨x.2.1.1, x.2.1.2.1, x.2.1.2.2.1, x.2.1.2.2.2.1⟩ : S98)).bind fun r => κ (.v (.c (.str r))) (fillB tp25.b x.2)) rest
def tp30 : AT := ⟨[.c (.p 0 0), .c .s], [[.l 5, .l 51, .i .i64, .i .i64]]⟩
def e30 {R : Type} (f : Y30) (rest : Fn U R) : Fn U R := entw tp30 (fun x κ => (f x.1.1 (⟨x.2.1.1, x.2.1.2.1, x.2.1.2.2.1, x.2.1.2.2.2.1⟩ : S98)).bind fun r => κ (.v (.c (.bool r.1))) [[.sl 5 r.2.c0, .sl 51 r.2.c1, .int .i64 r.2.c2, .int .i64 r.2.c3]]) rest
def tp78 : AT := ⟨[.c .s], []⟩
def e78 {R : Type} (f : Y78) (rest : Fn U R) : Fn U R := ent tp78 (fun x κ => (f x.1.1).bind fun r => κ (.v (.c (.bool r))) []) rest
def tp81 : AT := ⟨[.c (.i .u8)], []⟩
def e81 {R : Type} (f : Y81) (rest : Fn U R) : Fn U R := ent tp81 (fun x κ => (f x.1.1).bind fun r => κ (.v (.c (.bool r))) []) rest
def tp80_81 : AT := ⟨[.c (.l 5), .c (.fn 81)], []⟩
def e80_81 {R : Type} (f : Y80_81) (rest : Fn U R) : Fn U R := ent tp80_81 (fun x κ => (f x.1.1).bind fun r => κ (.v (.c (.int .i64 r))) []) rest
def tp59 : AT := ⟨[.c .s], []⟩
def e59 {R : Type} (f : Y59) (rest : Fn U R) : Fn U R := ent tp59 (fun x κ => (f x.1.1).bind fun r => κ (.v (.c (.bool r))) []) rest
def tp31 : AT := ⟨[.c (.p 0 0)], [[.l 5, .l 51, .i .i64, .i .i64]]⟩
def e31 {R : Type} (f : Y31) (rest : Fn U R) : Fn U R := entw tp31 (fun x κ => (f (⟨x.2.1.1, x.2.1.2.1, x.2.1.2.2.1, x.2.1.2.2.2.1⟩ : S98)).bind fun r => κ (.tup [.c (.str r.1), .c (.bool r.2.1)]) [[.sl 5 r.2.2.c0, .sl 51 r.2.2.c1, .int .i64 r.2.2.c2, .int .i64 r.2.2.c3]]) rest
def tp68 : AT := ⟨[.c (.p 0 0), .c (.p 1 0)], [[.l 5, .l 51, .i .i64, .i .i64], [.s]]⟩
def e68 {R : Type} (f : Y68) (rest : Fn U R) : Fn U R := entw tp68 (fun x κ => (f (⟨x.2.1.1, x.2.1.2.1, x.2.1.2.2.1, x.2.1.2.2.2.1⟩ : S98) x.2.2.1.1).bind fun r => κ (.v (.c (.int .i64 r.1))) [[.sl 5 r.2.1.c0, .sl 51 r.2.1.c1, .int .i64 r.2.1.c2, .int .i64 r.2.1.c3], [.str r.2.2]]) rest
def tp41 : AT := ⟨[.c (.p 0 0)], [[.l 5, .l 51, .i .i64, .i .i64]]⟩
def e41 {R : Type} (f : Y41) (rest : Fn U R) : Fn U R := entw tp41 (fun x κ => (f (⟨x.2.1.1, x.2.1.2.1, x.2.1.2.2.1, x.2.1.2.2.2.1⟩ : S98)).bind fun r => κ (.tup [.c (.int .i64 r.1), .c (.int .i64 r.2.1)]) [[.sl 5 r.2.2.c0, .sl 51 r.2.2.c1, .int .i64 r.2.2.c2, .int .i64 r.2.2.c3]]) rest
def tp33 : AT := ⟨[.c (.p 0 0)], [[.l 5, .l 51, .i .i64, .i .i64]]⟩
def e33 {R : Type} (f : Y33) (rest : Fn U R) : Fn U R := ent tp33 (fun x κ => (f (⟨x.2.1.1, x.2.1.2.1, x.2.1.2.2.1, x.2.1.2.2.2.1⟩ : S98)).bind fun r => κ (.v (.c (.int .i64 r))) (fillB tp33.b x.2)) rest
def tp43 : AT := ⟨[.c (.p 0 0)], [[.l 5, .l 51, .i .i64, .i .i64]]⟩
def e43 {R : Type} (f : Y43) (rest : Fn U R) : Fn U R := entw tp43 (fun x κ => (f (⟨x.2.1.1, x.2.1.2.1, x.2.1.2.2.1, x.2.1.2.2.2.1⟩ : S98)).bind fun r => κ (.tup [.agg [.bool r.1.c0, .bool r.1.c1, .str r.1.c2, .int .i64 r.1.c3, .int .i64 r.1.c4], .c (.int .i64 r.2.1)]) [[.sl 5 r.2.2.c0, .sl 51 r.2.2.c1, .int .i64 r.2.2.c2, .int .i64 r.2.2.c3]]) rest
def tp90 : AT := ⟨[.c (.p 0 0), .c (.l 9)], [[.l 5, .l 51, .i .i64, .i .i64]]⟩
def e90 {R : Type} (f : Y90) (rest : Fn U R) : Fn U R := entw tp90 (fun x κ => (f x.1.1 (⟨x.2.1.1, x.2.1.2.1, x.2.1.2.2.1, x.2.1.2.2.2.1⟩ : S98)).bind fun r => κ (.v (.c (.int .i64 r.1))) [[.sl 5 r.2.c0, .sl 51 r.2.c1, .int .i64 r.2.c2, .int .i64 r.2.c3]]) rest
def tp17 : AT := ⟨[.a [.i .i64, .i .i64, .i .i64, .s, .s, .l 27]], []⟩
def e17 {R : Type} (f : Y17) (rest : Fn U R) : Fn U R := ent tp17 (fun x κ => (f (⟨x.1.1.1, x.1.1.2.1, x.1.1.2.2.1, x.1.1.2.2.2.1, x.1.1.2.2.2.2.1, x.1.1.2.2.2.2.2.1⟩ : S27)).bind fun r => κ (.v (.c (.int .i64 r))) []) rest
def tp85 : AT := ⟨[.c (.p 0 0), .a [.i .i64, .i .i64, .i .i64, .s, .s, .l 27], .c (.i .i64)], [[.l 5, .l 51, .i .i64, .i .i64]]⟩
def e85 {R : Type} (f : Y85) (rest : Fn U R) : Fn U R := entw tp85 (fun x κ => (f (⟨x.1.1.1, x.1.1.2.1, x.1.1.2.2.1, x.1.1.2.2.2.1, x.1.1.2.2.2.2.1, x.1.1.2.2.2.2.2.1⟩ : S27) x.1.2.1 (⟨x.2.1.1, x.2.1.2.1, x.2.1.2.2.1, x.2.1.2.2.2.1⟩ : S98)).bind fun r => κ (.tup [.agg [.int .i64 r.1.c0, .int .i64 r.1.c1, .int .i64 r.1.c2, .str r.1.c3, .str r.1.c4, .sl 27 r.1.c5], .c (.int .i64 r.2.1)]) [[.sl 5 r.2.2.c0, .sl 51 r.2.2.c1, .int .i64 r.2.2.c2, .int .i64 r.2.2.c3]]) rest
def tp28 : AT := ⟨[.c (.p 0 0)], [[.l 5, .l 51, .i .i64, .i .i64]]⟩
def e28 {R : Type} (f : Y28) (rest : Fn U R) : Fn U R := ent tp28 (fun x κ => (f (⟨x.2.1.1, x.2.1.2.1, x.2.1.2.2.1, x.2.1.2.2.2.1⟩ : S98)).bind fun r => κ (.v (.c (.int .i64 r))) (fillB tp28.b x.2)) rest
def tp108 : AT := ⟨[.c (.p 0 0)], [[.l 5, .l 51, .i .i64, .i .i64]]⟩
def e108 {R : Type} (f : Y108) (rest : Fn U R) : Fn U R := entw tp108 (fun x κ => (f (⟨x.2.1.1, x.2.1.2.1, x.2.1.2.2.1, x.2.1.2.2.2.1⟩ : S98)).bind fun r => κ (.tup [.agg [.int .i64 r.1.c0, .int .i64 r.1.c1, .int .i64 r.1.c2, .str r.1.c3, .str r.1.c4, .sl 27 r.1.c5], .c (.int .i64 r.2.1)]) [[.sl 5 r.2.2.c0, .sl 51 r.2.2.c1, .int .i64 r.2.2.c2, .int .i64 r.2.2.c3]]) rest
def tp99 : AT := ⟨[.c (.p 0 0)], [[.l 5, .l 51, .i .i64, .i .i64]]⟩
def e99 {R : Type} (f : Y99) (rest : Fn U R) : Fn U R := entw tp99 (fun x κ => (f (⟨x.2.1.1, x.2.1.2.1, x.2.1.2.2.1, x.2.1.2.2.2.1⟩ : S98)).bind fun r => κ (.v (.c (.int .i64 r.1))) [[.sl 5 r.2.c0, .sl 51 r.2.c1, .int .i64 r.2.c2, .int .i64 r.2.c3]]) rest
def tp113 : AT := ⟨[.c (.p 0 0)], [[.l 5, .l 51, .i .i64, .i .i64]]⟩
def e113 {R : Type} (f : Y113) (rest : Fn U R) : Fn U R := entw tp113 (fun x κ => (f (⟨x.2.1.1, x.2.1.2.1, x.2.1.2.2.1, x.2.1.2.2.2.1⟩ : S98)).bind fun r => κ (.v (.c (.int .i64 r.1))) [[.sl 5 r.2.c0, .sl 51 r.2.c1, .int .i64 r.2.c2, .int .i64 r.2.c3]]) rest
def tp84 : AT := ⟨[.c .s], []⟩
def e84 {R : Type} (f : Y84) (rest : Fn U R) : Fn U R := ent tp84 (fun x κ => (f x.1.1).bind fun r => κ (.v (.c (.int .i64 r))) []) rest
def tp63 : AT := ⟨[.c (.p 0 0), .c (.i .i64)], [[.l 5, .l 51, .i .i64, .i .i64]]⟩
def e63 {R : Type} (f : Y63) (rest : Fn U R) : Fn U R := entw tp63 (fun x κ => (f x.1.1 (⟨x.2.1.1, x.2.1.2.1, x.2.1.2.2.1, x.2.1.2.2.2.1⟩ : S98)).bind fun r => κ (.tup [.agg [.int .i64 r.1.c0, .int .i64 r.1.c1, .int .i64 r.1.c2, .str r.1.c3, .str r.1.c4, .sl 27 r.1.c5], .c (.int .i64 r.2.1)]) [[.sl 5 r.2.2.c0, .sl 51 r.2.2.c1, .int .i64 r.2.2.c2, .int .i64 r.2.2.c3]]) rest
def tp83 : AT := ⟨[.c (.p 0 0)], [[.l 5, .l 51, .i .i64, .i .i64]]⟩
def e83 {R : Type} (f : Y83) (rest : Fn U R) : Fn U R := entw tp83 (fun x κ => (f (⟨x.2.1.1, x.2.1.2.1, x.2.1.2.2.1, x.2.1.2.2.2.1⟩ : S98)).bind fun r => κ (.tup [.agg [.int .i64 r.1.c0, .int .i64 r.1.c1, .int .i64 r.1.c2, .str r.1.c3, .str r.1.c4, .sl 27 r.1.c5], .c (.int .i64 r.2.1)]) [[.sl 5 r.2.2.c0, .sl 51 r.2.2.c1, .int .i64 r.2.2.c2, .int .i64 r.2.2.c3]]) rest
def tp98 : AT := ⟨[.c (.p 0 0)], [[.l 5, .l 51, .i .i64, .i .i64]]⟩
def e98 {R : Type} (f : Y98) (rest : Fn U R) : Fn U R := entw tp98 (fun x κ => (f (⟨x.2.1.1, x.2.1.2.1, x.2.1.2.2.1, x.2.1.2.2.2.1⟩ : S98)).bind fun r => κ (.tup [.agg [.int .i64 r.1.c0, .int .i64 r.1.c1, .int .i64 r.1.c2, .str r.1.c3, .str r.1.c4, .sl 27 r.1.c5], .c (.int .i64 r.2.1)]) [[.sl 5 r.2.2.c0, .sl 51 r.2.2.c1, .int .i64 r.2.2.c2, .int .i64 r.2.2.c3]]) rest
def tp109 : AT := ⟨[.c (.p 0 0)], [[.l 5, .l 51, .i .i64, .i .i64]]⟩
def e109 {R : Type} (f : Y109) (rest : Fn U R) : Fn U R := entw tp109 (fun x κ => (f (⟨x.2.1.1, x.2.1.2.1, x.2.1.2.2.1, x.2.1.2.2.2.1⟩ : S98)).bind fun r => κ (.tup [.agg [.int .i64 r.1.c0, .int .i64 r.1.c1, .int .i64 r.1.c2, .str r.1.c3, .str r.1.c4, .sl 27 r.1.c5], .c (.int .i64 r.2.1)]) [[.sl 5 r.2.2.c0, .sl 51 r.2.2.c1, .int .i64 r.2.2.c2, .int .i64 r.2.2.c3]]) rest
def tp110 : AT := ⟨[.c (.p 0 0)], [[.l 5, .l 51, .i .i64, .i .i64]]⟩
def e110 {R : Type} (f : Y110) (rest : Fn U R) : Fn U R := entw tp110 (fun x κ => (f (⟨x.2.1.1, x.2.1.2.1, x.2.1.2.2.1, x.2.1.2.2.2.1⟩ : S98)).bind fun r => κ (.tup [.agg [.int .i64 r.1.c0, .int .i64 r.1.c1, .int .i64 r.1.c2, .str r.1.c3, .str r.1.c4, .sl 27 r.1.c5], .c (.int .i64 r.2.1)]) [[.sl 5 r.2.2.c0, .sl 51 r.2.2.c1, .int .i64 r.2.2.c2, .int .i64 r.2.2.c3]]) rest
def tp111 : AT := ⟨[.c (.p 0 0)], [[.l 5, .l 51, .i .i64, .i .i64]]⟩
def e111 {R : Type} (f : Y111) (rest : Fn U R) : Fn U R := entw tp111 (fun x κ => (f (⟨x.2.1.1, x.2.1.2.1, x.2.1.2.2.1, x.2.1.2.2.2.1⟩ : S98)).bind fun r => κ (.tup [.agg [.int .i64 r.1.c0, .int .i64 r.1.c1, .int .i64 r.1.c2, .str r.1.c3, .str r.1.c4, .sl 27 r.1.c5], .c (.int .i64 r.2.1)]) [[.sl 5 r.2.2.c0, .sl 51 r.2.2.c1, .int .i64 r.2.2.c2, .int .i64 r.2.2.c3]]) rest
def tp34 : AT := ⟨[.c (.p 0 0)], [[.l 5, .l 51, .i .i64, .i .i64]]⟩
def e34 {R : Type} (f : Y34) (rest : Fn U R) : Fn U R := entw tp34 (fun x κ => (f (⟨x.2.1.1, x.2.1.2.1, x.2.1.2.2.1, x.2.1.2.2.2.1⟩ : S98)).bind fun r => κ (.tup [.agg [.int .i64 r.1.c0, .int .i64 r.1.c1, .int .i64 r.1.c2, .str r.1.c3, .str r.1.c4, .sl 27 r.1.c5], .c (.int .i64 r.2.1)]) [[.sl 5 r.2.2.c0, .sl 51 r.2.2.c1, .int .i64 r.2.2.c2, .int .i64 r.2.2.c3]]) rest
def tp105 : AT := ⟨[.c (.p 0 0), .c (.p 1 0)], [[.l 5, .l 51, .i .i64, .i .i64], [.i .i64, .i .i64, .s, .i .i64, .b, .b, .s, .i .i64, .i .i64, .i .i64, .i .i64, .i .i64, .s, .s, .l 27, .l 79, .l 79]]⟩
def e105 {R : Type} (f : Y105) (rest : Fn U R) : Fn U R := entw tp105 (fun x κ => (f (⟨x.2.1.1, x.2.1.2.1, x.2.1.2.2.1, x.2.1.2.2.2.1⟩ : S98) (⟨x.2.2.1.1, x.2.2.1.2.1, x.2.2.1.2.2.1, x.2.2.1.2.2.2.1, x.2.2.1.2.2.2.2.1, x.2.2.1.2.2.2.2.2.1, x.2.2.1.2.2.2.2.2.2.1, x.2.2.1.2.2.2.2.2.2.2.1, x.2.2.1.2.2.2.2.2.2.2.2.1, x.2.2.1.2.2.2.2.2.2.2.2.2.1, x.2.2.1.2.2.2.2.2.2.2.2.2.2.1, x.2.2.1.2.2.2.2.2.2.2.2.2.2.2.1, x.2.2.1.2.2.2.2.2.2.2.2.2.2.2.2.1, x.2.2.1.2.2.2.2.2.2.2.2.2.2.2.2.2.1, x.2.2.1.2.2.2.2.2.2.2.2.2.2.2.2.2.2.1, x.2.2.1.2.2.2.2.2.2.2.2.2.2.2.2.2.2.2.1, x.2.2.1.2.2.2.2.2.2.2.2.2.2.2.2.2.2.2.2.1⟩ : S79)).bind fun r => κ (.v (.c (.int .i64 r.1))) [[.sl 5 r.2.1.c0, .sl 51 r.2.1.c1, .int .i64 r.2.1.c2, .int .i64 r.2.1.c3], [.int .i64 r.2.2.c0, .int .i64 r.2.2.c1, .str r.2.2.c2, .int .i64 r.2.2.c3, .bool r.2.2.c4, .bool r.2.2.c5, .str r.2.2.c6, .int .i64 r.2.2.c7, .int .i64 r.2.2.c8, .int .i64 r.2.2.c9, .int .i64 r.2.2.c10, .int .i64 r.2.2.c11, .str r.2.2.c12, .str r.2.2.c13, .sl 27 r.2.2.c14, .sl 79 r.2.2.c15, .sl 79 r.2.2.c16]]) rest
def tp87 : AT := ⟨[.c (.p 0 0), .c (.p 1 0)], [[.l 5, .l 51, .i .i64, .i .i64], [.i .i64, .i .i64, .s, .i .i64, .b, .b, .s, .i .i64, .i .i64, .i .i64, .i .i64, .i .i64, .s, .s, .l 27, .l 79, .l 79]]⟩
def e87 {R : Type} (f : Y87) (rest : Fn U R) : Fn U R := entw tp87 (fun x κ => (f (⟨x.2.1.1, x.2.1.2.1, x.2.1.2.2.1, x.2.1.2.2.2.1⟩ : S98) (⟨x.2.2.1.1, x.2.2.1.2.1, x.2.2.1.2.2.1, x.2.2.1.2.2.2.1, x.2.2.1.2.2.2.2.1, x.2.2.1.2.2.2.2.2.1, x.2.2.1.2.2.2.2.2.2.1, x.2.2.1.2.2.2.2.2.2.2.1, x.2.2.1.2.2.2.2.2.2.2.2.1, x.2.2.1.2.2.2.2.2.2.2.2.2.1, x.2.2.1.2.2.2.2.2.2.2.2.2.2.1, x.2.2.1.2.2.2.2.2.2.2.2.2.2.2.1, x.2.2.1.2.2.2.2.2.2.2.2.2.2.2.2.1, x.2.2.1.2.2.2.2.2.2.2.2.2.2.2.2.2.1, x.2.2.1.2.2.2.2.2.2.2.2.2.2.2.2.2.2.1, x.2.2.1.2.2.2.2.2.2.2.2.2.2.2.2.2.2.2.1, x.2.2.1.2.2.2.2.2.2.2.2.2.2.2.2.2.2.2.2.1⟩ : S79)).bind fun r => κ (.v (.c (.int .i64 r.1))) [[.sl 5 r.2.1.c0, .sl 51 r.2.1.c1, .int .i64 r.2.1.c2, .int .i64 r.2.1.c3], [.int .i64 r.2.2.c0, .int .i64 r.2.2.c1, .str r.2.2.c2, .int .i64 r.2.2.c3, .bool r.2.2.c4, .bool r.2.2.c5, .str r.2.2.c6, .int .i64 r.2.2.c7, .int .i64 r.2.2.c8, .int .i64 r.2.2.c9, .int .i64 r.2.2.c10, .int .i64 r.2.2.c11, .str r.2.2.c12, .str r.2.2.c13, .sl 27 r.2.2.c14, .sl 79 r.2.2.c15, .sl 79 r.2.2.c16]]) rest
def tp91 : AT := ⟨[.c (.p 0 0), .c (.p 1 0)], [[.l 5, .l 51, .i .i64, .i .i64], [.i .i64, .i .i64, .s, .i .i64, .b, .b, .s, .i .i64, .i .i64, .i .i64, .i .i64, .i .i64, .s, .s, .l 27, .l 79, .l 79]]⟩
def e91 {R : Type} (f : Y91) (rest : Fn U R) : Fn U R := entw tp91 (fun x κ => (f (⟨x.2.1.1, x.2.1.2.1, x.2.1.2.2.1, x.2.1.2.2.2.1⟩ : S98) (⟨x.2.2.1.1, x.2.2.1.2.1, x.2.2.1.2.2.1, x.2.2.1.2.2.2.1, x.2.2.1.2.2.2.2.1, x.2.2.1.2.2.2.2.2.1, x.2.2.1.2.2.2.2.2.2.1, x.2.2.1.2.2.2.2.2.2.2.1, x.2.2.1.2.2.2.2.2.2.2.2.1, x.2.2.1.2.2.2.2.2.2.2.2.2.1, x.2.2.1.2.2.2.2.2.2.2.2.2.2.1, x.2.2.1.2.2.2.2.2.2.2.2.2.2.2.1, x.2.2.1.2.2.2.2.2.2.2.2.2.2.2.2.1, x.2.2.1.2.2.2.2.2.2.2.2.2.2.2.2.2.1, x.2.2.1.2.2.2.2.2.2.2.2.2.2.2.2.2.2.1, x.2.2.1.2.2.2.2.2.2.2.2.2.2.2.2.2.2.2.1, x.2.2.1.2.2.2.2.2.2.2.2.2.2.2.2.2.2.2.2.1⟩ : S79)).bind fun r => κ (.v (.c (.int .i64 r.1))) [[.sl 5 r.2.1.c0, .sl 51 r.2.1.c1, .int .i64 r.2.1.c2, .int .i64 r.2.1.c3], [.int .i64 r.2.2.c0, .int .i64 r.2.2.c1, .str r.2.2.c2, .int .i64 r.2.2.c3, .bool r.2.2.c4, .bool r.2.2.c5, .str r.2.2.c6, .int .i64 r.2.2.c7, .int .i64 r.2.2.c8, .int .i64 r.2.2.c9, .int .i64 r.2.2.c10, .int .i64 r.2.2.c11, .str r.2.2.c12, .str r.2.2.c13, .sl 27 r.2.2.c14, .sl 79 r.2.2.c15, .sl 79 r.2.2.c16]]) rest
def tp45 : AT := ⟨[.c (.p 0 0), .c (.i .i64)], [[.l 5, .l 51, .i .i64, .i .i64]]⟩
def e45 {R : Type} (f : Y45) (rest : Fn U R) : Fn U R := entw tp45 (fun x κ => (f x.1.1 (⟨x.2.1.1, x.2.1.2.1, x.2.1.2.2.1, x.2.1.2.2.2.1⟩ : S98)).bind fun r => κ (.tup [.agg [.int .i64 r.1.c0, .int .i64 r.1.c1, .str r.1.c2, .int .i64 r.1.c3, .bool r.1.c4, .bool r.1.c5, .str r.1.c6, .int .i64 r.1.c7, .int .i64 r.1.c8, .int .i64 r.1.c9, .int .i64 r.1.c10, .int .i64 r.1.c11, .str r.1.c12, .str r.1.c13, .sl 27 r.1.c14, .sl 79 r.1.c15, .sl 79 r.1.c16], .c (.int .i64 r.2.1)]) [[.sl 5 r.2.2.c0, .sl 51 r.2.2.c1, .int .i64 r.2.2.c2, .int .i64 r.2.2.c3]]) rest
def tp48 : AT := ⟨[.c (.p 0 0), .c (.i .i64)], [[.l 5, .l 51, .i .i64, .i .i64]]⟩
def e48 {R : Type} (f : Y48) (rest : Fn U R) : Fn U R := entw tp48 (fun x κ => (f x.1.1 (⟨x.2.1.1, x.2.1.2.1, x.2.1.2.2.1, x.2.1.2.2.2.1⟩ : S98)).bind fun r => κ (.tup [.c (.new 79 r.1), .c (.int .i64 r.2.1)]) [[.sl 5 r.2.2.c0, .sl 51 r.2.2.c1, .int .i64 r.2.2.c2, .int .i64 r.2.2.c3]]) rest
def tp69 : AT := ⟨[.c (.p 0 0), .c (.p 1 0), .c (.i .i64)], [[.l 5, .l 51, .i .i64, .i .i64], [.i .i64, .i .i64, .s, .i .i64, .b, .b, .s, .i .i64, .i .i64, .i .i64, .i .i64, .i .i64, .s, .s, .l 27, .l 79, .l 79]]⟩
def e69 {R : Type} (f : Y69) (rest : Fn U R) : Fn U R := entw tp69 (fun x κ => (f x.1.1 (⟨x.2.1.1, x.2.1.2.1, x.2.1.2.2.1, x.2.1.2.2.2.1⟩ : S98) (⟨x.2.2.1.1, x.2.2.1.2.1, x.2.2.1.2.2.1, x.2.2.1.2.2.2.1, x.2.2.1.2.2.2.2.1, x.2.2.1.2.2.2.2.2.1, x.2.2.1.2.2.2.2.2.2.1, x.2.2.1.2.2.2.2.2.2.2.1, x.2.2.1.2.2.2.2.2.2.2.2.1, x.2.2.1.2.2.2.2.2.2.2.2.2.1, x.2.2.1.2.2.2.2.2.2.2.2.2.2.1, x.2.2.1.2.2.2.2.2.2.2.2.2.2.2.1, x.2.2.1.2.2.2.2.2.2.2.2.2.2.2.2.1, x.2.2.1.2.2.2.2.2.2.2.2.2.2.2.2.2.1, x.2.2.1.2.2.2.2.2.2.2.2.2.2.2.2.2.2.1, x.2.2.1.2.2.2.2.2.2.2.2.2.2.2.2.2.2.2.1, x.2.2.1.2.2.2.2.2.2.2.2.2.2.2.2.2.2.2.2.1⟩ : S79)).bind fun r => κ (.v (.c (.int .i64 r.1))) [[.sl 5 r.2.1.c0, .sl 51 r.2.1.c1, .int .i64 r.2.1.c2, .int .i64 r.2.1.c3], [.int .i64 r.2.2.c0, .int .i64 r.2.2.c1, .str r.2.2.c2, .int .i64 r.2.2.c3, .bool r.2.2.c4, .bool r.2.2.c5, .str r.2.2.c6, .int .i64 r.2.2.c7, .int .i64 r.2.2.c8, .int .i64 r.2.2.c9, .int .i64 r.2.2.c10, .int .i64 r.2.2.c11, .str r.2.2.c12, .str r.2.2.c13, .sl 27 r.2.2.c14, .sl 79 r.2.2.c15, .sl 79 r.2.2.c16]]) rest
def tp88 : AT := ⟨[.c (.p 0 0), .c (.p 1 0), .c (.i .i64)], [[.l 5, .l 51, .i .i64, .i .i64], [.i .i64, .i .i64, .s, .i .i64, .b, .b, .s, .i .i64, .i .i64, .i .i64, .i .i64, .i .i64, .s, .s, .l 27, .l 79, .l 79]]⟩
def e88 {R : Type} (f : Y88) (rest : Fn U R) : Fn U R := entw tp88 (fun x κ => (f x.1.1 (⟨x.2.1.1, x.2.1.2.1, x.2.1.2.2.1, x.2.1.2.2.2.1⟩ : S98) (⟨x.2.2.1.1, x.2.2.1.2.1, x.2.2.1.2.2.1, x.2.2.1.2.2.2.1, x.2.2.1.2.2.2.2.1, x.2.2.1.2.2.2.2.2.1, x.2.2.1.2.2.2.2.2.2.1, x.2.2.1.2.2.2.2.2.2.2.1, x.2.2.1.2.2.2.2.2.2.2.2.1, x.2.2.1.2.2.2.2.2.2.2.2.2.1, x.2.2.1.2.2.2.2.2.2.2.2.2.2.1, x.2.2.1.2.2.2.2.2.2.2.2.2.2.2.1, x.2.2.1.2.2.2.2.2.2.2.2.2.2.2.2.1, x.2.2.1.2.2.2.2.2.2.2.2.2.2.2.2.2.1, x.2.2.1.2.2.2.2.2.2.2.2.2.2.2.2.2.2.1, x.2.2.1.2.2.2.2.2.2.2.2.2.2.2.2.2.2.2.1, x.2.2.1.2.2.2.2.2.2.2.2.2.2.2.2.2.2.2.2.1⟩ : S79)).bind fun r => κ (.v (.c (.int .i64 r.1))) [[.sl 5 r.2.1.c0, .sl 51 r.2.1.c1, .int .i64 r.2.1.c2, .int .i64 r.2.1.c3], [.int .i64 r.2.2.c0, .int .i64 r.2.2.c1, .str r.2.2.c2, .int .i64 r.2.2.c3, .bool r.2.2.c4, .bool r.2.2.c5, .str r.2.2.c6, .int .i64 r.2.2.c7, .int .i64 r.2.2.c8, .int .i64 r.2.2.c9, .int .i64 r.2.2.c10, .int .i64 r.2.2.c11, .str r.2.2.c12, .str r.2.2.c13, .sl 27 r.2.2.c14, .sl 79 r.2.2.c15, .sl 79 r.2.2.c16]]) rest
def tp89 : AT := ⟨[.c (.p 0 0), .c (.i .i64)], [[.l 5, .l 51, .i .i64, .i .i64]]⟩
def e89 {R : Type} (f : Y89) (rest : Fn U R) : Fn U R := entw tp89 (fun x κ => (f x.1.1 (⟨x.2.1.1, x.2.1.2.1, x.2.1.2.2.1, x.2.1.2.2.2.1⟩ : S98)).bind fun r => κ (.tup [.c (.new 79 r.1), .c (.int .i64 r.2.1)]) [[.sl 5 r.2.2.c0, .sl 51 r.2.2.c1, .int .i64 r.2.2.c2, .int .i64 r.2.2.c3]]) rest
def tp75 : AT := ⟨[.a [.i .i64, .i .i64, .i .i64]], []⟩
def e75 {R : Type} (f : Y75) (rest : Fn U R) : Fn U R := ent tp75 (fun x κ => (f (⟨x.1.1.1, x.1.1.2.1, x.1.1.2.2.1⟩ : S51)).bind fun r => κ (.v (.c (.bool r))) []) rest
def tp74_75 : AT := ⟨[.c (.l 51), .c (.fn 75)], []⟩
def e74_75 {R : Type} (f : Y74_75) (rest : Fn U R) : Fn U R := ent tp74_75 (fun x κ => (f x.1.1).bind fun r => κ (.v (.c (.int .i64 r))) []) rest
def tp49 : AT := ⟨[.c (.l 51)], []⟩
def e49 {R : Type} (f : Y49) (rest : Fn U R) : Fn U R := ent tp49 (fun x κ => (f x.1.1).bind fun r => κ (.tup [.agg [.int .i64 r.1.c0, .int .i64 r.1.c1, .int .i64 r.1.c2], .c (.bool r.2)]) []) rest
def tp38 : AT := ⟨[.c (.l 5)], []⟩
def e38 {R : Type} (f : Y38) (rest : Fn U R) : Fn U R := ent tp38 (fun x κ => (f x.1.1).bind fun r => κ (.tup [.c (.new 79 r.1), .c (.int .i64 r.2.1), .c (.int .i64 r.2.2)]) []) rest
def tp37 : AT := ⟨[], []⟩
def e37 {R : Type} (f : Y37) (rest : Fn U R) : Fn U R := ent tp37 (fun x κ => (f ).bind fun r => κ (.v (.c (.bool r))) []) rest
def tp54 : AT := ⟨[.c (.l 51)], []⟩
def e54 {R : Type} (f : Y54) (rest : Fn U R) : Fn U R := ent tp54 (fun x κ => (f x.1.1).bind fun r => κ (.v (.c (.new 51 r))) []) rest
def tp60 : AT := ⟨[.c (.i .u8)], []⟩
def e60 {R : Type} (f : Y60) (rest : Fn U R) : Fn U R := ent tp60 (fun x κ => (f x.1.1).bind fun r => κ (.v (.c (.bool r))) []) rest
def tp61 : AT := ⟨[.c (.i .u8)], []⟩
def e61 {R : Type} (f : Y61) (rest : Fn U R) : Fn U R := ent tp61 (fun x κ => (f x.1.1).bind fun r => κ (.v (.c (.bool r))) []) rest
def tp77 : AT := ⟨[.c .s], []⟩
def e77 {R : Type} (f : Y77) (rest : Fn U R) : Fn U R := ent tp77 (fun x κ => (f x.1.1).bind fun r => κ (.v (.c (.int .i64 r))) []) rest
def tp55 : AT := ⟨[.c .s], []⟩
def e55 {R : Type} (f : Y55) (rest : Fn U R) : Fn U R := ent tp55 (fun x κ => (f x.1.1).bind fun r => κ (.v (.c (.new 51 r))) []) rest
def tp21 : AT := ⟨[.c .s], []⟩
def e21 {R : Type} (f : Y21) (rest : Fn U R) : Fn U R := ent tp21 (fun x κ => (f x.1.1).bind fun r => κ (.v (.agg [.str r.c0, .sl 51 r.c1])) []) rest
def tp27 : AT := ⟨[.a [.s, .l 51], .c (.i .i64)], []⟩
def e27 {R : Type} (f : Y27) (rest : Fn U R) : Fn U R := ent tp27 (fun x κ => (f (⟨x.1.1.1, x.1.1.2.1⟩ : S41) x.1.2.1).bind fun r => κ (.v (.c (.int .i64 r))) []) rest
def tp51 : AT := ⟨[.c .s], []⟩
def e51 {R : Type} (f : Y51) (rest : Fn U R) : Fn U R := ent tp51 (fun x κ => (f x.1.1).bind fun r => κ (.v (.c (.int .i64 r))) []) rest
def tp24 : AT := ⟨[.a [.s, .l 51], .c (.i .i64)], []⟩
def e24 {R : Type} (f : Y24) (rest : Fn U R) : Fn U R := ent tp24 (fun x κ => (f (⟨x.1.1.1, x.1.1.2.1⟩ : S41) x.1.2.1).bind fun r => κ (.v (.c (.str r))) []) rest
def tp62 : AT := ⟨[.c .s], []⟩
def e62 {R : Type} (f : Y62) (rest : Fn U R) : Fn U R := ent tp62 (fun x κ => (f x.1.1).bind fun r => κ (.v (.c (.bool r))) []) rest
def tp32 : AT := ⟨[.c .s], []⟩
def e32 {R : Type} (f : Y32) (rest : Fn U R) : Fn U R := ent tp32 (fun x κ => (f x.1.1).bind fun r => κ (.v (.c (.bool r))) []) rest
def tp18 : AT := ⟨[.a [.i .i64, .i .i64, .i .i64, .s, .s, .l 27]], []⟩
def e18 {R : Type} (f : Y18) (rest : Fn U R) : Fn U R := ent tp18 (fun x κ => (f (⟨x.1.1.1, x.1.1.2.1, x.1.1.2.2.1, x.1.1.2.2.2.1, x.1.1.2.2.2.2.1, x.1.1.2.2.2.2.2.1⟩ : S27)).bind fun r => κ (.v (.c (.int .i64 r))) []) rest
def tp66 : AT := ⟨[.a [.i .i64, .i .i64, .i .i64, .s, .s, .l 27], .c (.i .i64), .c (.i .i64)], []⟩
def e66 {R : Type} (f : Y66) (rest : Fn U R) : Fn U R := ent tp66 (fun x κ => (f (⟨x.1.1.1, x.1.1.2.1, x.1.1.2.2.1, x.1.1.2.2.2.1, x.1.1.2.2.2.2.1, x.1.1.2.2.2.2.2.1⟩ : S27) x.1.2.1 x.1.2.2.1).bind fun r => κ (.v (.agg [.int .i64 r.c0, .int .i64 r.c1, .int .i64 r.c2, .str r.c3, .str r.c4, .sl 27 r.c5, .int .i64 r.c6, .int .i64 r.c7])) []) rest
def tp100 : AT := ⟨[.a [.s, .l 51], .c (.i .i64)], []⟩
def e100 {R : Type} (f : Y100) (rest : Fn U R) : Fn U R := ent tp100 (fun x κ => (f (⟨x.1.1.1, x.1.1.2.1⟩ : S41) x.1.2.1).bind fun r => κ (.v (.c (.bool r))) []) rest
def tp101 : AT := ⟨[.c (.i .i64), .c (.i .i64)], []⟩
def e101 {R : Type} (f : Y101) (rest : Fn U R) : Fn U R := ent tp101 (fun x κ => (f x.1.1 x.1.2.1).bind fun r => κ (.tup [.c (.int .i64 r.1), .c (.bool r.2)]) []) rest
def tp102 : AT := ⟨[.c (.i .i64), .c (.i .i64)], []⟩
def e102 {R : Type} (f : Y102) (rest : Fn U R) : Fn U R := ent tp102 (fun x κ => (f x.1.1 x.1.2.1).bind fun r => κ (.tup [.c (.int .i64 r.1), .c (.bool r.2)]) []) rest
def tp65 : AT := ⟨[.a [.s, .l 51], .c (.i .i64), .c (.i .i64)], []⟩
def e65 {R : Type} (f : Y65) (rest : Fn U R) : Fn U R := ent tp65 (fun x κ => (f (⟨x.1.1.1, x.1.1.2.1⟩ : S41) x.1.2.1 x.1.2.2.1).bind fun r => κ (.v (.c (.bool r))) []) rest
def tp35 : AT := ⟨[.a [.s, .l 51], .c (.i .i64), .c (.i .i64), .c (.i .i64)], []⟩
def e35 {R : Type} (f : Y35) (rest : Fn U R) : Fn U R := ent tp35 (fun x κ => (f (⟨x.1.1.1, x.1.1.2.1⟩ : S41) x.1.2.1 x.1.2.2.1 x.1.2.2.2.1).bind fun r => κ (.v (.agg [.int .i64 r.c0, .int .i64 r.c1, .int .i64 r.c2, .str r.c3, .str r.c4, .sl 27 r.c5, .int .i64 r.c6, .int .i64 r.c7])) []) rest
def tp64 : AT := ⟨[.a [.s, .l 51], .c (.i .i64), .c (.i .i64)], []⟩
def e64 {R : Type} (f : Y64) (rest : Fn U R) : Fn U R := ent tp64 (fun x κ => (f (⟨x.1.1.1, x.1.1.2.1⟩ : S41) x.1.2.1 x.1.2.2.1).bind fun r => κ (.v (.agg [.int .i64 r.c0, .int .i64 r.c1, .int .i64 r.c2, .str r.c3, .str r.c4, .sl 27 r.c5, .int .i64 r.c6, .int .i64 r.c7])) []) rest
def tp86 : AT := ⟨[.a [.s, .l 51], .c (.i .i64), .c (.i .i64)], []⟩
def e86 {R : Type} (f : Y86) (rest : Fn U R) : Fn U R := ent tp86 (fun x κ => (f (⟨x.1.1.1, x.1.1.2.1⟩ : S41) x.1.2.1 x.1.2.2.1).bind fun r => κ (.v (.agg [.int .i64 r.c0, .int .i64 r.c1, .int .i64 r.c2, .str r.c3, .str r.c4, .sl 27 r.c5, .int .i64 r.c6, .int .i64 r.c7])) []) rest
def tp103 : AT := ⟨[.a [.s, .l 51], .c (.i .i64), .c (.i .i64)], []⟩
def e103 {R : Type} (f : Y103) (rest : Fn U R) : Fn U R := ent tp103 (fun x κ => (f (⟨x.1.1.1, x.1.1.2.1⟩ : S41) x.1.2.1 x.1.2.2.1).bind fun r => κ (.v (.agg [.int .i64 r.c0, .int .i64 r.c1, .int .i64 r.c2, .str r.c3, .str r.c4, .sl 27 r.c5, .int .i64 r.c6, .int .i64 r.c7])) []) rest
def tp104 : AT := ⟨[.a [.s, .l 51], .c (.i .i64), .c (.i .i64)], []⟩
def e104 {R : Type} (f : Y104) (rest : Fn U R) : Fn U R := ent tp104 (fun x κ => (f (⟨x.1.1.1, x.1.1.2.1⟩ : S41) x.1.2.1 x.1.2.2.1).bind fun r => κ (.v (.agg [.int .i64 r.c0, .int .i64 r.c1, .int .i64 r.c2, .str r.c3, .str r.c4, .sl 27 r.c5, .int .i64 r.c6, .int .i64 r.c7])) []) rest
def tp42 : AT := ⟨[.a [.s, .l 51], .c (.i .i64)], []⟩
def e42 {R : Type} (f : Y42) (rest : Fn U R) : Fn U R := ent tp42 (fun x κ => (f (⟨x.1.1.1, x.1.1.2.1⟩ : S41) x.1.2.1).bind fun r => κ (.v (.c (.int .i64 r))) []) rest
def tp44 : AT := ⟨[.a [.s, .l 51], .c (.i .i64)], []⟩
def e44 {R : Type} (f : Y44) (rest : Fn U R) : Fn U R := ent tp44 (fun x κ => (f (⟨x.1.1.1, x.1.1.2.1⟩ : S41) x.1.2.1).bind fun r => κ (.v (.agg [.bool r.c0, .bool r.c1, .str r.c2, .int .i64 r.c3, .int .i64 r.c4, .int .i64 r.c5, .int .i64 r.c6])) []) rest
def tp72 : AT := ⟨[.a [.s, .l 51], .a [.i .i64, .i .i64, .s, .i .i64, .b, .b, .s, .i .i64, .i .i64, .i .i64, .i .i64, .i .i64, .s, .s, .l 27, .l 79, .l 79], .c (.i .i64)], []⟩
def e72 {R : Type} (f : Y72) (rest : Fn U R) : Fn U R := ent tp72 (fun x κ => (f (⟨x.1.1.1, x.1.1.2.1⟩ : S41) (⟨x.1.2.1.1, x.1.2.1.2.1, x.1.2.1.2.2.1, x.1.2.1.2.2.2.1, x.1.2.1.2.2.2.2.1, x.1.2.1.2.2.2.2.2.1, x.1.2.1.2.2.2.2.2.2.1, x.1.2.1.2.2.2.2.2.2.2.1, x.1.2.1.2.2.2.2.2.2.2.2.1, x.1.2.1.2.2.2.2.2.2.2.2.2.1, x.1.2.1.2.2.2.2.2.2.2.2.2.2.1, x.1.2.1.2.2.2.2.2.2.2.2.2.2.2.1, x.1.2.1.2.2.2.2.2.2.2.2.2.2.2.2.1, x.1.2.1.2.2.2.2.2.2.2.2.2.2.2.2.2.1, x.1.2.1.2.2.2.2.2.2.2.2.2.2.2.2.2.2.1, x.1.2.1.2.2.2.2.2.2.2.2.2.2.2.2.2.2.2.1, x.1.2.1.2.2.2.2.2.2.2.2.2.2.2.2.2.2.2.2.1⟩ : S79) x.1.2.2.1).bind fun r => κ (.v (.agg [.int .i64 r.c0, .int .i64 r.c1, .str r.c2, .int .i64 r.c3, .bool r.c4, .bool r.c5, .str r.c6, .int .i64 r.c7, .int .i64 r.c8, .int .i64 r.c9, .int .i64 r.c10, .int .i64 r.c11, .str r.c12, .str r.c13, .sl 27 r.c14, .sl 79 r.c15, .sl 79 r.c16, .sl 79 r.c17, .int .i64 r.c18, .int .i64 r.c19])) []) rest
def tp73 : AT := ⟨[.a [.s, .l 51], .a [.i .i64, .i .i64, .s, .i .i64, .b, .b, .s, .i .i64, .i .i64, .i .i64, .i .i64, .i .i64, .s, .s, .l 27, .l 79, .l 79], .c (.i .i64)], []⟩
def e73 {R : Type} (f : Y73) (rest : Fn U R) : Fn U R := ent tp73 (fun x κ => (f (⟨x.1.1.1, x.1.1.2.1⟩ : S41) (⟨x.1.2.1.1, x.1.2.1.2.1, x.1.2.1.2.2.1, x.1.2.1.2.2.2.1, x.1.2.1.2.2.2.2.1, x.1.2.1.2.2.2.2.2.1, x.1.2.1.2.2.2.2.2.2.1, x.1.2.1.2.2.2.2.2.2.2.1, x.1.2.1.2.2.2.2.2.2.2.2.1, x.1.2.1.2.2.2.2.2.2.2.2.2.1, x.1.2.1.2.2.2.2.2.2.2.2.2.2.1, x.1.2.1.2.2.2.2.2.2.2.2.2.2.2.1, x.1.2.1.2.2.2.2.2.2.2.2.2.2.2.2.1, x.1.2.1.2.2.2.2.2.2.2.2.2.2.2.2.2.1, x.1.2.1.2.2.2.2.2.2.2.2.2.2.2.2.2.2.1, x.1.2.1.2.2.2.2.2.2.2.2.2.2.2.2.2.2.2.1, x.1.2.1.2.2.2.2.2.2.2.2.2.2.2.2.2.2.2.2.1⟩ : S79) x.1.2.2.1).bind fun r => κ (.v (.agg [.int .i64 r.c0, .int .i64 r.c1, .str r.c2, .int .i64 r.c3, .bool r.c4, .bool r.c5, .str r.c6, .int .i64 r.c7, .int .i64 r.c8, .int .i64 r.c9, .int .i64 r.c10, .int .i64 r.c11, .str r.c12, .str r.c13, .sl 27 r.c14, .sl 79 r.c15, .sl 79 r.c16, .sl 79 r.c17, .int .i64 r.c18, .int .i64 r.c19])) []) rest
def tp70 : AT := ⟨[.a [.s, .l 51], .a [.i .i64, .i .i64, .s, .i .i64, .b, .b, .s, .i .i64, .i .i64, .i .i64, .i .i64, .i .i64, .s, .s, .l 27, .l 79, .l 79], .c (.i .i64)], []⟩
def e70 {R : Type} (f : Y70) (rest : Fn U R) : Fn U R := ent tp70 (fun x κ => (f (⟨x.1.1.1, x.1.1.2.1⟩ : S41) (⟨x.1.2.1.1, x.1.2.1.2.1, x.1.2.1.2.2.1, x.1.2.1.2.2.2.1, x.1.2.1.2.2.2.2.1, x.1.2.1.2.2.2.2.2.1, x.1.2.1.2.2.2.2.2.2.1, x.1.2.1.2.2.2.2.2.2.2.1, x.1.2.1.2.2.2.2.2.2.2.2.1, x.1.2.1.2.2.2.2.2.2.2.2.2.1, x.1.2.1.2.2.2.2.2.2.2.2.2.2.1, x.1.2.1.2.2.2.2.2.2.2.2.2.2.2.1, x.1.2.1.2.2.2.2.2.2.2.2.2.2.2.2.1, x.1.2.1.2.2.2.2.2.2.2.2.2.2.2.2.2.1, x.1.2.1.2.2.2.2.2.2.2.2.2.2.2.2.2.2.1, x.1.2.1.2.2.2.2.2.2.2.2.2.2.2.2.2.2.2.1, x.1.2.1.2.2.2.2.2.2.2.2.2.2.2.2.2.2.2.2.1⟩ : S79) x.1.2.2.1).bind fun r => κ (.v (.agg [.int .i64 r.c0, .int .i64 r.c1, .str r.c2, .int .i64 r.c3, .bool r.c4, .bool r.c5, .str r.c6, .int .i64 r.c7, .int .i64 r.c8, .int .i64 r.c9, .int .i64 r.c10, .int .i64 r.c11, .str r.c12, .str r.c13, .sl 27 r.c14, .sl 79 r.c15, .sl 79 r.c16, .sl 79 r.c17, .int .i64 r.c18, .int .i64 r.c19])) []) rest
def tp46 : AT := ⟨[.a [.s, .l 51], .c (.i .i64), .c (.i .i64)], []⟩
def e46 {R : Type} (f : Y46) (rest : Fn U R) : Fn U R := ent tp46 (fun x κ => (f (⟨x.1.1.1, x.1.1.2.1⟩ : S41) x.1.2.1 x.1.2.2.1).bind fun r => κ (.v (.agg [.int .i64 r.c0, .int .i64 r.c1, .str r.c2, .int .i64 r.c3, .bool r.c4, .bool r.c5, .str r.c6, .int .i64 r.c7, .int .i64 r.c8, .int .i64 r.c9, .int .i64 r.c10, .int .i64 r.c11, .str r.c12, .str r.c13, .sl 27 r.c14, .sl 79 r.c15, .sl 79 r.c16, .sl 79 r.c17, .int .i64 r.c18, .int .i64 r.c19])) []) rest
def tp67 : AT := ⟨[.a [.s, .l 51], .c (.i .i64), .c (.i .i64)], []⟩
def e67 {R : Type} (f : Y67) (rest : Fn U R) : Fn U R := ent tp67 (fun x κ => (f (⟨x.1.1.1, x.1.1.2.1⟩ : S41) x.1.2.1 x.1.2.2.1).bind fun r => κ (.v (.agg [.int .i64 r.c0, .int .i64 r.c1, .str r.c2, .int .i64 r.c3, .bool r.c4, .bool r.c5, .str r.c6, .int .i64 r.c7, .int .i64 r.c8, .int .i64 r.c9, .int .i64 r.c10, .int .i64 r.c11, .str r.c12, .str r.c13, .sl 27 r.c14, .sl 79 r.c15, .sl 79 r.c16, .sl 79 r.c17, .int .i64 r.c18, .int .i64 r.c19])) []) rest
def tp71 : AT := ⟨[.a [.s, .l 51], .a [.i .i64, .i .i64, .s, .i .i64, .b, .b, .s, .i .i64, .i .i64, .i .i64, .i .i64, .i .i64, .s, .s, .l 27, .l 79, .l 79], .c (.i .i64), .c (.i .i64)], []⟩
def e71 {R : Type} (f : Y71) (rest : Fn U R) : Fn U R := ent tp71 (fun x κ => (f (⟨x.1.1.1, x.1.1.2.1⟩ : S41) (⟨x.1.2.1.1, x.1.2.1.2.1, x.1.2.1.2.2.1, x.1.2.1.2.2.2.1, x.1.2.1.2.2.2.2.1, x.1.2.1.2.2.2.2.2.1, x.1.2.1.2.2.2.2.2.2.1, x.1.2.1.2.2.2.2.2.2.2.1, x.1.2.1.2.2.2.2.2.2.2.2.1, x.1.2.1.2.2.2.2.2.2.2.2.2.1, x.1.2.1.2.2.2.2.2.2.2.2.2.2.1, x.1.2.1.2.2.2.2.2.2.2.2.2.2.2.1, x.1.2.1.2.2.2.2.2.2.2.2.2.2.2.2.1, x.1.2.1.2.2.2.2.2.2.2.2.2.2.2.2.2.1, x.1.2.1.2.2.2.2.2.2.2.2.2.2.2.2.2.2.1, x.1.2.1.2.2.2.2.2.2.2.2.2.2.2.2.2.2.2.1, x.1.2.1.2.2.2.2.2.2.2.2.2.2.2.2.2.2.2.2.1⟩ : S79) x.1.2.2.1 x.1.2.2.2.1).bind fun r => κ (.v (.agg [.int .i64 r.c0, .int .i64 r.c1, .str r.c2, .int .i64 r.c3, .bool r.c4, .bool r.c5, .str r.c6, .int .i64 r.c7, .int .i64 r.c8, .int .i64 r.c9, .int .i64 r.c10, .int .i64 r.c11, .str r.c12, .str r.c13, .sl 27 r.c14, .sl 79 r.c15, .sl 79 r.c16, .sl 79 r.c17, .int .i64 r.c18, .int .i64 r.c19])) []) rest
def tp92 : AT := ⟨[.a [.s, .l 51], .c (.i .i64), .c (.i .i64)], []⟩
def e92 {R : Type} (f : Y92) (rest : Fn U R) : Fn U R := ent tp92 (fun x κ => (f (⟨x.1.1.1, x.1.1.2.1⟩ : S41) x.1.2.1 x.1.2.2.1).bind fun r => κ (.v (.agg [.int .i64 r.c0, .int .i64 r.c1, .str r.c2, .int .i64 r.c3, .bool r.c4, .bool r.c5, .str r.c6, .int .i64 r.c7, .int .i64 r.c8, .int .i64 r.c9, .int .i64 r.c10, .int .i64 r.c11, .str r.c12, .str r.c13, .sl 27 r.c14, .sl 79 r.c15, .sl 79 r.c16, .sl 79 r.c17, .int .i64 r.c18, .int .i64 r.c19])) []) rest
def tp39 : AT := ⟨[.c .s], []⟩
def e39 {R : Type} (f : Y39) (rest : Fn U R) : Fn U R := ent tp39 (fun x κ => (f x.1.1).bind fun r => κ (.tup [.c (.sl 79 r.1), .c (.int .i64 r.2.1), .c (.int .i64 r.2.2)]) []) rest
def tp16 : AT := ⟨[.a [.i .i64, .i .i64, .i .i64, .s, .s, .l 27], .a [.i .i64, .i .i64, .i .i64, .s, .s, .l 27]], []⟩
def e16 {R : Type} (f : Y16) (rest : Fn U R) : Fn U R := ent tp16 (fun x κ => (f (⟨x.1.1.1, x.1.1.2.1, x.1.1.2.2.1, x.1.1.2.2.2.1, x.1.1.2.2.2.2.1, x.1.1.2.2.2.2.2.1⟩ : S27) (⟨x.1.2.1.1, x.1.2.1.2.1, x.1.2.1.2.2.1, x.1.2.1.2.2.2.1, x.1.2.1.2.2.2.2.1, x.1.2.1.2.2.2.2.2.1⟩ : S27)).bind fun r => κ (.v (.c (.bool r))) []) rest
def tp52 : AT := ⟨[.c (.l 27), .c (.l 27)], []⟩
def e52 {R : Type} (f : Y52) (rest : Fn U R) : Fn U R := ent tp52 (fun x κ => (f x.1.1 x.1.2.1).bind fun r => κ (.v (.c (.bool r))) []) rest
def tp40 : AT := ⟨[.c (.l 79), .c (.l 79)], []⟩
def e40 {R : Type} (f : Y40) (rest : Fn U R) : Fn U R := ent tp40 (fun x κ => (f x.1.1 x.1.2.1).bind fun r => κ (.v (.c (.bool r))) []) rest
def tp8 : AT := ⟨[.c (.l 5)], []⟩
def e8 {R : Type} (f : Y8) (rest : Fn U R) : Fn U R := ent tp8 (fun x κ => (f x.1.1).bind fun r => κ (.v (.c (.bool r))) []) rest
end Go.Proofs.Ytogfofcocidmkaa.Ev
