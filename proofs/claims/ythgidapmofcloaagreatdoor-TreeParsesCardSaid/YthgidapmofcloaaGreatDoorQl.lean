/- The code of the functions that are reached, printed by a program (Gen). Walking abstract code with symbols: rules. The entry: what is read as data, as abstract values. Trees over the abstract store, and how a store grows. -/
import Derived.Test.YthgidapmofcloaaGreatDoorQk
set_option linter.unusedSimpArgs false
set_option linter.unusedVariables false
namespace Go.Proofs.C1
open Go Go.Dn
set_option maxRecDepth 100000
abbrev _root_.Go.Dn.DOp.m (n : Nat) : DOp := .mv (.t n)
abbrev _root_.Go.Dn.DOp.l (n : Nat) : DOp := .ld false 1 (.t n)
abbrev nz : SI := ⟨none,0,some 0,true⟩
abbrev _root_.Go.Dn.DOpd.k (n : Int) : DOpd := .c (.int .i64 n)

/-- emend/emendlaw3.TreeParses -/
def F9 : DF := ⟨2,
(.seq
(.reg [
.s 4 (.mv (.c (.bool false)))] [0,1])
(.seq
(.seq
(.reg [
.s 11 (.m 0),
.s 12 (.lenS (.t 11)),
.s 13 (.bin .gtr none (.t 12) (.k 4000))] [0,1,13])
(.cnd (.t 13)
(.reg [
.s 14 (.m 0),
.s 15 (.slS (.t 14) none (some (.k 4000))),
.s 0 (.m 15)] [0,1])
.skip))
(.seq
(.reg [
.s 16 (.m 0),
.s 17 (.m 0),
.s 18 (.m 1),
.s 19 (.m 0),
.s 20 (.lenS (.t 19)),
.s 21 (.call 39 [(.t 18),(.k 0),(.t 20)]),
.s 22 (.slS (.t 17) none (some (.t 21))),
.s 23 (.bldT 9 1 2 (.str []) [(0,(.t 16)),(1,(.t 22))]),
.s 5 (.m 23)] [5])
(.seq
(.seq
(.reg [
.s 6 (.mv (.k 0))] [5,6])
(.blk 0
(.seq
(.trim [5,6])
(.lop
(.seq
(.seq
(.seq
(.reg [
.s 24 (.m 6),
.s 25 (.m 5),
.s 26 (.len (.t 25)),
.s 27 (.bin .lss none (.t 24) (.t 26))] [5,6,27])
(.cnd (.t 27)
.skip
(.exit 0)))
(.seq
(.blk 1
(.seq
(.reg [
.s 31 (.m 5),
.s 32 (.m 6),
.s 33 (.ia 1 (.t 31) (.t 32)),
.s 34 (.l 33),
.s 35 (.call 19 [(.t 34)]),
.s 30 (.m 35),
.s 36 (.ext (.t 30) 0),
.s 37 (.ext (.t 30) 1),
.s 7 (.alL [(.int .i64 0),(.str []),(.sl 1 nz []),(.sl 4 nz [])]),
.n (.st 4 (.t 7) (.t 36)),
.s 8 (.m 37)] [5,6,7,8])
(.seq
(.reg [
.s 39 (.m 5),
.s 40 (.m 6),
.s 41 (.ia 1 (.t 39) (.t 40)),
.s 42 (.l 41),
.s 43 (.call 40 [(.t 42),(.c (.bool true))]),
.s 38 (.m 43),
.s 44 (.ext (.t 38) 0),
.s 45 (.ext (.t 38) 1),
.s 9 (.alL [(.int .i64 0),(.str []),(.sl 1 nz []),(.sl 4 nz [])]),
.s 10 (.alL [(.int .i64 0),(.int .i64 0)]),
.n (.st 4 (.t 9) (.t 44)),
.n (.st 2 (.t 10) (.t 45))] [5,6,7,8,9,10])
(.seq
(.reg [
.s 46 (.m 8),
.s 47 (.ld true 2 (.t 10)),
.s 48 (.call 41 [(.t 46),(.t 47)]),
.s 49 (.un .not (.t 48)),
.s 50 (.m 49),
.g 51 (.ld true 4 (.t 7)) 50 false,
.g 52 (.ld true 4 (.t 9)) 50 false,
.g 53 (.call 32 [(.t 51),(.t 52)]) 50 false,
.g 54 (.un .not (.t 53)) 50 false,
.s 55 (.pick (.t 50) (.c (.bool true)) (.t 54))] [5,6,55])
(.cnd (.t 55)
(.seq
(.reg [
.s 4 (.mv (.c (.bool false)))] [4])
.ret)
.skip)))))
(.reg [
.s 28 (.m 6),
.s 29 (.bin .add none (.t 28) (.k 1)),
.s 6 (.m 29)] [5,6])))
(.trim [5,6]))))))
(.seq
(.reg [
.s 56 (.call 3 []),
.s 4 (.m 56)] [4])
.ret))))),
[.tmp 4]⟩

/-- emend/tree.Right -/
def F16 : DF := ⟨1,
(.seq
(.reg [
.s 1 (.bxL (.t 0)),
.s 2 (.mv (.k 0))] [1])
(.seq
(.blk 0
(.seq
(.reg [
.s 4 (.ld true 4 (.t 1)),
.s 5 (.call 18 [(.t 4)]),
.s 6 (.bin .gtr none (.t 5) (.k 64)),
.s 3 (.m 6)] [1,3])
(.cnd (.t 3)
(.seq
(.reg [
.s 2 (.mv (.k 4))] [2])
.ret)
(.seq
(.reg [
.s 8 (.ld true 4 (.t 1)),
.s 9 (.call 17 [(.t 8)]),
.s 10 (.bin .gtr none (.t 9) (.k 4096)),
.s 7 (.m 10)] [1,7])
(.cnd (.t 7)
(.seq
(.reg [
.s 2 (.mv (.k 3))] [2])
.ret)
(.seq
(.reg [
.s 12 (.ld true 4 (.t 1)),
.s 13 (.call 50 [(.t 12)]),
.s 14 (.un .not (.t 13)),
.s 11 (.m 14)] [11])
(.cnd (.t 11)
(.seq
(.reg [
.s 2 (.mv (.k 1))] [2])
.ret)
.skip)))))))
(.seq
(.reg [
.s 2 (.mv (.k 0))] [2])
.ret))),
[.tmp 2]⟩
/-- emend/tree.Size -/
def F17 : DF := ⟨1,
(.seq
(.reg [
.s 1 (.bxL (.t 0)),
.s 2 (.mv (.k 0))] [1])
(.seq
(.reg [
.s 3 (.mv (.k 1))] [1,3])
(.seq
(.seq
(.reg [
.s 6 (.fa 3 (.t 1)),
.s 7 (.l 6),
.s 8 (.len (.t 7)),
.s 9 (.mv (.k 0))] [3,7,8,9])
(.blk 0
(.seq
(.trim [3,7,8,9])
(.lop
(.seq
(.seq
(.reg [
.s 10 (.bin .lss none (.t 9) (.t 8))] [3,7,8,9,10])
(.seq
(.cnd (.t 10)
.skip
(.exit 0))
(.seq
(.blk 1
(.seq
(.reg [
.s 11 (.ia 4 (.t 7) (.t 9)),
.s 12 (.ld true 4 (.t 11)),
.s 5 (.alL [(.int .i64 0),(.str []),(.sl 1 nz []),(.sl 4 nz [])]),
.n (.st 4 (.t 5) (.t 12))] [3,5,7,8,9])
(.reg [
.s 13 (.m 3),
.s 14 (.ld true 4 (.t 5)),
.s 15 (.call 17 [(.t 14)]),
.s 16 (.bin .add none (.t 13) (.t 15)),
.s 3 (.m 16)] [3,7,8,9])))
(.reg [
.s 17 (.bin .add none (.t 9) (.k 1)),
.s 9 (.m 17)] [3,7,8,9]))))
(.trim [3,7,8,9]))))))
(.seq
(.reg [
.s 18 (.m 3),
.s 2 (.m 18)] [2])
.ret)))),
[.tmp 2]⟩
/-- emend/tree.Depth -/
def F18 : DF := ⟨1,
(.seq
(.reg [
.s 1 (.bxL (.t 0)),
.s 2 (.mv (.k 0))] [1])
(.seq
(.reg [
.s 3 (.mv (.k 0))] [1,3])
(.seq
(.seq
(.reg [
.s 6 (.fa 3 (.t 1)),
.s 7 (.l 6),
.s 8 (.len (.t 7)),
.s 9 (.mv (.k 0))] [3,7,8,9])
(.blk 0
(.seq
(.trim [3,7,8,9])
(.lop
(.seq
(.seq
(.reg [
.s 10 (.bin .lss none (.t 9) (.t 8))] [3,7,8,9,10])
(.seq
(.cnd (.t 10)
.skip
(.exit 0))
(.seq
(.blk 1
(.seq
(.reg [
.s 11 (.ia 4 (.t 7) (.t 9)),
.s 12 (.ld true 4 (.t 11)),
.s 5 (.alL [(.int .i64 0),(.str []),(.sl 1 nz []),(.sl 4 nz [])]),
.n (.st 4 (.t 5) (.t 12))] [3,5,7,8,9])
(.reg [
.s 13 (.m 3),
.s 14 (.ld true 4 (.t 5)),
.s 15 (.call 18 [(.t 14)]),
.s 16 (.mx [(.t 13),(.t 15)]),
.s 3 (.m 16)] [3,7,8,9])))
(.reg [
.s 17 (.bin .add none (.t 9) (.k 1)),
.s 9 (.m 17)] [3,7,8,9]))))
(.trim [3,7,8,9]))))))
(.seq
(.reg [
.s 18 (.m 3),
.s 19 (.bin .add none (.t 18) (.k 1)),
.s 2 (.m 19)] [2])
.ret)))),
[.tmp 2]⟩
/-- emend/tree.Parse -/
def F19 : DF := ⟨1,
(.seq
(.reg [
.s 1 (.bxH 9 (.t 0)),
.s 2 (.alL [(.int .i64 0),(.str []),(.sl 1 nz []),(.sl 4 nz [])]),
.s 3 (.mv (.c .nilif))] [1,2])
(.seq
(.reg [
.s 4 (.alH 25 [(.int .i64 0),(.str []),(.sl 1 nz []),(.sl 4 nz [])])] [1,2,4])
(.seq
(.reg [
.s 6 (.l 1),
.s 7 (.mkf 52 [] [(.t 4),(.t 1)]),
.s 8 (.call 51 [(.t 6),(.t 7)]),
.s 5 (.m 8)] [2,4,5])
(.seq
(.seq
(.reg [
.s 9 (.m 5),
.s 10 (.bin .neq (some .ifc) (.t 9) (.c .nilif))] [2,4,5,10])
(.cnd (.t 10)
(.seq
(.reg [
.s 11 (.bld [(.int .i64 0),(.str []),(.sl 1 nz []),(.sl 4 nz [])] []),
.s 12 (.m 5),
.n (.st 4 (.t 2) (.t 11)),
.s 3 (.m 12)] [2,3])
.ret)
.skip))
(.seq
(.reg [
.s 13 (.ld true 4 (.t 4)),
.n (.st 4 (.t 2) (.t 13)),
.s 3 (.mv (.c .nilif))] [2,3])
.ret))))),
[.cell 2 true 4,.tmp 3]⟩

/-- emend/tree.Get -/
def F21 : DF := ⟨2,
(.seq
(.reg [
.s 2 (.bxL (.t 0)),
.s 4 (.alL [(.int .i64 0),(.str []),(.sl 1 nz []),(.sl 4 nz [])]),
.s 5 (.mv (.c (.bool false)))] [1,2,4])
(.seq
(.seq
(.reg [
.s 9 (.m 1),
.s 10 (.len (.t 9)),
.s 11 (.mv (.k 0))] [2,4,9,10,11])
(.blk 0
(.seq
(.trim [2,4,9,10,11])
(.lop
(.seq
(.seq
(.reg [
.s 12 (.bin .lss none (.t 11) (.t 10))] [2,4,9,10,11,12])
(.seq
(.cnd (.t 12)
.skip
(.exit 0))
(.seq
(.blk 1
(.seq
(.reg [
.s 13 (.ia 2 (.t 9) (.t 11)),
.s 14 (.ld true 2 (.t 13)),
.s 7 (.alL [(.str []),(.int .i64 0)]),
.n (.st 2 (.t 7) (.t 14))] [2,4,7,9,10,11])
(.seq
(.reg [
.s 15 (.ld true 4 (.t 2)),
.s 16 (.ld true 2 (.t 7)),
.s 17 (.call 56 [(.t 15),(.t 16)]),
.s 8 (.m 17)] [2,4,8,9,10,11])
(.seq
(.seq
(.reg [
.s 18 (.m 8),
.s 19 (.bin .lss none (.t 18) (.k 0))] [2,4,8,9,10,11,19])
(.cnd (.t 19)
(.seq
(.reg [
.s 20 (.bld [(.int .i64 0),(.str []),(.sl 1 nz []),(.sl 4 nz [])] []),
.n (.st 4 (.t 4) (.t 20)),
.s 5 (.mv (.c (.bool false)))] [4,5])
.ret)
.skip))
(.reg [
.s 21 (.fa 3 (.t 2)),
.s 22 (.l 21),
.s 23 (.m 8),
.s 24 (.ia 4 (.t 22) (.t 23)),
.s 25 (.ld true 4 (.t 24)),
.n (.st 4 (.t 2) (.t 25))] [2,4,9,10,11])))))
(.reg [
.s 26 (.bin .add none (.t 11) (.k 1)),
.s 11 (.m 26)] [2,4,9,10,11]))))
(.trim [2,4,9,10,11]))))))
(.seq
(.reg [
.s 27 (.ld true 4 (.t 2)),
.s 28 (.call 31 [(.t 27)]),
.n (.st 4 (.t 4) (.t 28)),
.s 5 (.mv (.c (.bool true)))] [4,5])
.ret))),
[.cell 4 true 4,.tmp 5]⟩

/-- emend/tree.Set -/
def F23 : DF := ⟨3,
(.seq
(.reg [
.s 3 (.bxL (.t 0)),
.s 4 (.bxL (.t 1)),
.s 6 (.alL [(.int .i64 0),(.str []),(.sl 1 nz []),(.sl 4 nz [])]),
.s 7 (.mv (.k 0))] [2,3,4,6])
(.seq
(.reg [
.s 11 (.ld true 4 (.t 3)),
.s 12 (.ld true 4 (.t 4)),
.s 13 (.m 2),
.s 14 (.call 57 [(.t 11),(.t 12),(.t 13)]),
.s 10 (.m 14),
.s 15 (.ext (.t 10) 0),
.s 16 (.ext (.t 10) 1),
.s 8 (.alL [(.int .i64 0),(.str []),(.sl 1 nz []),(.sl 4 nz [])]),
.n (.st 4 (.t 8) (.t 15)),
.s 9 (.m 16)] [6,8,9])
(.seq
(.seq
(.reg [
.s 17 (.m 9),
.s 18 (.un .not (.t 17))] [6,8,18])
(.cnd (.t 18)
(.seq
(.reg [
.s 19 (.bld [(.int .i64 0),(.str []),(.sl 1 nz []),(.sl 4 nz [])] []),
.n (.st 4 (.t 6) (.t 19)),
.s 7 (.mv (.k 1))] [6,7])
.ret)
.skip))
(.seq
(.reg [
.s 20 (.ld true 4 (.t 8)),
.n (.st 4 (.t 6) (.t 20)),
.s 7 (.mv (.k 0))] [6,7])
.ret)))),
[.cell 6 true 4,.tmp 7]⟩

/-- emend/tree.Copy -/
def F31 : DF := ⟨1,
(.seq
(.reg [
.s 1 (.bxL (.t 0)),
.s 2 (.alL [(.int .i64 0),(.str []),(.sl 1 nz []),(.sl 4 nz [])])] [1,2])
(.seq
(.reg [
.s 6 (.fa 0 (.t 1)),
.s 7 (.l 6),
.s 8 (.fa 1 (.t 1)),
.s 9 (.l 8),
.s 10 (.bld [(.int .i64 0),(.str []),(.sl 1 nz []),(.sl 4 nz [])] [(0,1,(.t 7)),(1,1,(.t 9))]),
.s 3 (.alL [(.int .i64 0),(.str []),(.sl 1 nz []),(.sl 4 nz [])]),
.n (.st 4 (.t 3) (.t 10))] [1,2,3])
(.seq
(.reg [
.s 11 (.fa 2 (.t 3)),
.s 12 (.l 11),
.s 13 (.fa 2 (.t 1)),
.s 14 (.l 13),
.s 15 (.app false 9 1 16 (.t 12) (.t 14)),
.s 16 (.fa 2 (.t 3)),
.n (.st 1 (.t 16) (.t 15))] [1,2,3])
(.seq
(.seq
(.reg [
.s 17 (.fa 3 (.t 1)),
.s 18 (.l 17),
.s 19 (.len (.t 18)),
.s 20 (.mv (.k 0))] [2,3,18,19,20])
(.blk 0
(.seq
(.trim [2,3,18,19,20])
(.lop
(.seq
(.seq
(.reg [
.s 21 (.bin .lss none (.t 20) (.t 19))] [2,3,18,19,20,21])
(.seq
(.cnd (.t 21)
.skip
(.exit 0))
(.seq
(.blk 1
(.seq
(.reg [
.s 22 (.ia 4 (.t 18) (.t 20)),
.s 23 (.ld true 4 (.t 22)),
.s 5 (.alL [(.int .i64 0),(.str []),(.sl 1 nz []),(.sl 4 nz [])]),
.n (.st 4 (.t 5) (.t 23))] [2,3,5,18,19,20])
(.drw [
((.s 24 (.fa 3 (.t 3)),(some 3)),[]),
((.s 25 (.l 24),(some 3)),[]),
((.s 26 (.ld true 4 (.t 5)),(some 5)),[]),
((.s 27 (.call 31 [(.t 26)]),none),[]),
((.s 28 (.bldS 4 1 (.agg [(.int .i64 0),(.str []),(.sl 1 nz []),(.sl 4 nz [])]) [(0,(.t 27))]),none),[]),
((.s 29 (.app true 25 4 72 (.t 25) (.t 28)),none),[]),
((.s 30 (.fa 3 (.t 3)),(some 3)),[]),
((.n (.st 1 (.t 30) (.t 29)),(some 3)),[])] [2,3,18,19,20])))
(.reg [
.s 31 (.bin .add none (.t 20) (.k 1)),
.s 20 (.m 31)] [2,3,18,19,20]))))
(.trim [2,3,18,19,20]))))))
(.seq
(.reg [
.s 32 (.ld true 4 (.t 3)),
.n (.st 4 (.t 2) (.t 32))] [2])
.ret))))),
[.cell 2 true 4]⟩
/-- emend/emendref3.Plain -/
def F32 : DF := ⟨2,
(.seq
(.reg [
.s 2 (.bxL (.t 0)),
.s 3 (.bxL (.t 1)),
.s 4 (.mv (.c (.bool false)))] [2,3])
(.seq
(.seq
(.reg [
.s 7 (.fa 0 (.t 2)),
.s 8 (.l 7),
.s 9 (.fa 0 (.t 3)),
.s 10 (.l 9),
.s 11 (.bin .neq (some .int) (.t 8) (.t 10)),
.s 12 (.m 11),
.g 13 (.fa 1 (.t 2)) 12 false,
.g 14 (.l 13) 12 false,
.g 15 (.fa 1 (.t 3)) 12 false,
.g 16 (.l 15) 12 false,
.g 17 (.bin .neq (some .str) (.t 14) (.t 16)) 12 false,
.s 18 (.pick (.t 12) (.c (.bool true)) (.t 17)),
.s 19 (.m 18),
.g 20 (.fa 2 (.t 2)) 19 false,
.g 21 (.l 20) 19 false,
.g 22 (.len (.t 21)) 19 false,
.g 23 (.fa 2 (.t 3)) 19 false,
.g 24 (.l 23) 19 false,
.g 25 (.len (.t 24)) 19 false,
.g 26 (.bin .neq (some .int) (.t 22) (.t 25)) 19 false,
.s 27 (.pick (.t 19) (.c (.bool true)) (.t 26)),
.s 28 (.m 27),
.g 29 (.fa 3 (.t 2)) 28 false,
.g 30 (.l 29) 28 false,
.g 31 (.len (.t 30)) 28 false,
.g 32 (.fa 3 (.t 3)) 28 false,
.g 33 (.l 32) 28 false,
.g 34 (.len (.t 33)) 28 false,
.g 35 (.bin .neq (some .int) (.t 31) (.t 34)) 28 false,
.s 36 (.pick (.t 28) (.c (.bool true)) (.t 35))] [2,3,36])
(.cnd (.t 36)
(.seq
(.reg [
.s 4 (.mv (.c (.bool false)))] [4])
.ret)
.skip))
(.seq
(.seq
(.reg [
.s 5 (.mv (.k 0))] [2,3,5])
(.blk 0
(.seq
(.trim [2,3,5])
(.lop
(.seq
(.seq
(.seq
(.reg [
.s 37 (.m 5),
.s 38 (.fa 2 (.t 2)),
.s 39 (.l 38),
.s 40 (.len (.t 39)),
.s 41 (.bin .lss none (.t 37) (.t 40))] [2,3,5,41])
(.cnd (.t 41)
.skip
(.exit 0)))
(.seq
(.blk 1
(.seq
(.drw [
((.s 44 (.fa 2 (.t 2)),(some 2)),[]),
((.s 45 (.l 44),(some 2)),[]),
((.s 46 (.m 5),none),[]),
((.s 47 (.ia 1 (.t 45) (.t 46)),none),[]),
((.s 48 (.l 47),none),[]),
((.s 49 (.fa 2 (.t 3)),(some 3)),[]),
((.s 50 (.l 49),(some 3)),[]),
((.s 51 (.m 5),none),[]),
((.s 52 (.ia 1 (.t 50) (.t 51)),none),[]),
((.s 53 (.l 52),none),[]),
((.s 54 (.bin .neq (some .str) (.t 48) (.t 53)),none),[])] [2,3,5,54])
(.cnd (.t 54)
(.seq
(.reg [
.s 4 (.mv (.c (.bool false)))] [4])
.ret)
.skip)))
(.reg [
.s 42 (.m 5),
.s 43 (.bin .add none (.t 42) (.k 1)),
.s 5 (.m 43)] [2,3,5])))
(.trim [2,3,5]))))))
(.seq
(.seq
(.reg [
.s 6 (.mv (.k 0))] [2,3,6])
(.blk 2
(.seq
(.trim [2,3,6])
(.lop
(.seq
(.seq
(.seq
(.reg [
.s 55 (.m 6),
.s 56 (.fa 3 (.t 2)),
.s 57 (.l 56),
.s 58 (.len (.t 57)),
.s 59 (.bin .lss none (.t 55) (.t 58))] [2,3,6,59])
(.cnd (.t 59)
.skip
(.exit 2)))
(.seq
(.blk 3
(.seq
(.drw [
((.s 62 (.fa 3 (.t 2)),(some 2)),[]),
((.s 63 (.l 62),(some 2)),[]),
((.s 64 (.m 6),none),[]),
((.s 65 (.ia 4 (.t 63) (.t 64)),none),[]),
((.s 66 (.ld true 4 (.t 65)),none),[]),
((.s 67 (.fa 3 (.t 3)),(some 3)),[]),
((.s 68 (.l 67),(some 3)),[]),
((.s 69 (.m 6),none),[]),
((.s 70 (.ia 4 (.t 68) (.t 69)),none),[]),
((.s 71 (.ld true 4 (.t 70)),none),[]),
((.s 72 (.call 32 [(.t 66),(.t 71)]),none),[]),
((.s 73 (.un .not (.t 72)),none),[])] [2,3,6,73])
(.cnd (.t 73)
(.seq
(.reg [
.s 4 (.mv (.c (.bool false)))] [4])
.ret)
.skip)))
(.reg [
.s 60 (.m 6),
.s 61 (.bin .add none (.t 60) (.k 1)),
.s 6 (.m 61)] [2,3,6])))
(.trim [2,3,6]))))))
(.seq
(.reg [
.s 4 (.mv (.c (.bool true)))] [4])
.ret))))),
[.tmp 4]⟩

/-- emend/emendbook.Within -/
def F39 : DF := ⟨3,
(.seq
(.reg [
.s 6 (.mv (.k 0))] [0,1,2])
(.seq
(.reg [
.s 7 (.m 0),
.s 8 (.m 2),
.s 9 (.m 1),
.s 10 (.bin .sub none (.t 8) (.t 9)),
.s 11 (.bin .add none (.t 10) (.k 1)),
.s 12 (.bin .rem none (.t 7) (.t 11)),
.s 0 (.m 12)] [0,1,2])
(.seq
(.seq
(.reg [
.s 13 (.m 0),
.s 14 (.bin .lss none (.t 13) (.k 0))] [0,1,2,14])
(.cnd (.t 14)
(.reg [
.s 15 (.m 0),
.s 16 (.m 2),
.s 17 (.bin .add none (.t 15) (.t 16)),
.s 18 (.m 1),
.s 19 (.bin .sub none (.t 17) (.t 18)),
.s 20 (.bin .add none (.t 19) (.k 1)),
.s 0 (.m 20)] [0,1])
.skip))
(.seq
(.reg [
.s 21 (.m 1),
.s 22 (.m 0),
.s 23 (.bin .add none (.t 21) (.t 22)),
.s 6 (.m 23)] [6])
.ret)))),
[.tmp 6]⟩
/-- emend/emendref3.Parse -/
def F40 : DF := ⟨2,
(.seq
(.reg [
.s 4 (.alL [(.int .i64 0),(.str []),(.sl 1 nz []),(.sl 4 nz [])]),
.s 5 (.alL [(.int .i64 0),(.int .i64 0)])] [0,1,4,5])
(.seq
(.reg [
.s 8 (.m 0),
.s 9 (.m 1),
.s 10 (.call 69 [(.t 8),(.t 9)]),
.s 6 (.m 10)] [0,4,5,6])
(.seq
(.reg [
.s 11 (.m 6),
.s 12 (.call 70 [(.t 11)])] [0,4,5,6])
(.seq
(.reg [
.s 13 (.m 6),
.s 14 (.call 71 [(.t 13),(.k 1)]),
.s 7 (.alL [(.int .i64 0),(.str []),(.sl 1 nz []),(.sl 4 nz [])]),
.n (.st 4 (.t 7) (.t 14))] [0,4,5,6,7])
(.seq
(.reg [
.s 15 (.m 6),
.s 16 (.call 70 [(.t 15)])] [0,4,5,6,7])
(.seq
(.seq
(.reg [
.s 17 (.m 6),
.s 18 (.call 72 [(.t 17)]),
.s 19 (.m 18),
.g 20 (.m 6) 19 true,
.g 21 (.nilc (.t 20)) 19 true,
.g 22 (.fa 1 (.t 21)) 19 true,
.g 23 (.l 22) 19 true,
.g 24 (.m 0) 19 true,
.g 25 (.lenS (.t 24)) 19 true,
.g 26 (.bin .lss none (.t 23) (.t 25)) 19 true,
.s 27 (.pick (.t 19) (.t 26) (.c (.bool false)))] [4,5,6,7,27])
(.cnd (.t 27)
(.reg [
.s 28 (.m 6),
.s 29 (.m 6),
.s 30 (.nilc (.t 29)),
.s 31 (.fa 1 (.t 30)),
.s 32 (.l 31),
.s 33 (.call 73 [(.t 28),(.k 13),(.t 32)])] [4,5,6,7])
.skip))
(.seq
(.seq
(.reg [
.s 34 (.m 6),
.s 35 (.call 72 [(.t 34)]),
.s 36 (.un .not (.t 35))] [4,5,6,7,36])
(.cnd (.t 36)
(.seq
(.drw [
((.s 37 (.bld [(.int .i64 0),(.str []),(.sl 1 nz []),(.sl 4 nz [])] []),none),[]),
((.s 38 (.m 6),none),[]),
((.s 39 (.nilc (.t 38)),none),[]),
((.s 40 (.fa 2 (.t 39)),none),[]),
((.s 41 (.ld true 2 (.t 40)),none),[]),
((.n (.st 4 (.t 4) (.t 37)),(some 4)),[]),
((.n (.st 2 (.t 5) (.t 41)),(some 5)),[])] [4,5])
.ret)
.skip))
(.seq
(.reg [
.s 42 (.ld true 4 (.t 7)),
.s 43 (.bld [(.int .i64 0),(.int .i64 0)] []),
.n (.st 4 (.t 4) (.t 42)),
.n (.st 2 (.t 5) (.t 43))] [4,5])
.ret)))))))),
[.cell 4 true 4,.cell 5 true 2]⟩
/-- emend/emendlaw3.refused -/
def F41 : DF := ⟨2,
(.seq
(.reg [
.s 3 (.bxL (.t 1)),
.s 4 (.mv (.c (.bool false)))] [0,3])
(.seq
(.seq
(.reg [
.s 6 (.fa 1 (.t 3)),
.s 7 (.l 6),
.s 8 (.bin .eql (some .int) (.t 7) (.k 0))] [0,3,8])
(.cnd (.t 8)
(.seq
(.reg [
.s 9 (.m 0),
.s 10 (.bin .eql (some .ifc) (.t 9) (.c .nilif)),
.s 4 (.m 10)] [4])
.ret)
.skip))
(.seq
(.reg [
.s 5 (.alH 105 [.nilp])] [0,3,5])
(.seq
(.drw [
((.s 11 (.m 0),none),[]),
((.s 12 (.bin .neq (some .ifc) (.t 11) (.c .nilif)),none),[]),
((.s 13 (.m 12),none),[]),
((.g 14 (.m 0) 13 true,none),[]),
((.g 15 (.mki 107 (.t 5)) 13 true,none),[]),
((.g 16 (.call 74 [(.t 14),(.t 15)]) 13 true,none),[]),
((.s 17 (.pick (.t 13) (.t 16) (.c (.bool false))),none),[]),
((.s 18 (.m 17),none),[]),
((.g 19 (.l 5) 18 true,none),[]),
((.g 20 (.bin .neq (some .ptr) (.t 19) (.c .nilp)) 18 true,none),[]),
((.s 21 (.pick (.t 18) (.t 20) (.c (.bool false))),none),[]),
((.s 22 (.m 21),none),[]),
((.g 23 (.l 5) 22 true,none),[]),
((.g 24 (.nilc (.t 23)) 22 true,none),[]),
((.g 25 (.fa 0 (.t 24)) 22 true,none),[]),
((.g 26 (.ld true 1 (.t 25)) 22 true,none),[]),
((.g 28 (.fa 0 (.t 3)) 22 true,(some 3)),[]),
((.g 29 (.l 28) 22 true,(some 3)),[]),
((.g 27 (.call 75 [(.t 26)]) 22 true,none),[]),
((.g 30 (.bin .eql (some .int) (.t 27) (.t 29)) 22 true,none),[]),
((.s 31 (.pick (.t 22) (.t 30) (.c (.bool false))),none),[]),
((.s 32 (.m 31),none),[]),
((.g 33 (.l 5) 32 true,none),[]),
((.g 34 (.nilc (.t 33)) 32 true,none),[]),
((.g 35 (.fa 1 (.t 34)) 32 true,none),[]),
((.g 36 (.l 35) 32 true,none),[]),
((.g 37 (.fa 1 (.t 3)) 32 true,(some 3)),[]),
((.g 38 (.l 37) 32 true,(some 3)),[]),
((.g 39 (.bin .eql (some .int) (.t 36) (.t 38)) 32 true,none),[]),
((.s 40 (.pick (.t 32) (.t 39) (.c (.bool false))),none),[]),
((.s 41 (.m 40),none),[]),
((.g 42 (.m 0) 41 true,none),[]),
((.g 43 (.l 5) 41 true,none),[]),
((.g 44 (.nilc (.t 43)) 41 true,none),[]),
((.g 45 (.fa 1 (.t 44)) 41 true,none),[]),
((.g 46 (.l 45) 41 true,none),[]),
((.g 47 (.mki 26 (.t 46)) 41 true,none),[]),
((.g 48 (.call 76 [(.t 42),(.t 47)]) 41 true,none),[]),
((.s 49 (.pick (.t 41) (.t 48) (.c (.bool false))),none),[]),
((.s 4 (.m 49),none),[])] [4])
.ret)))),
[.tmp 4]⟩

/-- emend/tree.formed -/
def F50 : DF := ⟨1,
(.seq
(.reg [
.s 1 (.bxL (.t 0)),
.s 2 (.mv (.c (.bool false)))] [1])
(.seq
(.seq
(.reg [
.s 8 (.fa 3 (.t 1)),
.s 9 (.l 8),
.s 10 (.len (.t 9)),
.s 11 (.mv (.k 0))] [1,9,10,11])
(.blk 0
(.seq
(.trim [1,9,10,11])
(.lop
(.seq
(.seq
(.reg [
.s 12 (.bin .lss none (.t 11) (.t 10))] [1,9,10,11,12])
(.seq
(.cnd (.t 12)
.skip
(.exit 0))
(.seq
(.blk 1
(.seq
(.reg [
.s 13 (.ia 4 (.t 9) (.t 11)),
.s 14 (.ld true 4 (.t 13)),
.s 4 (.alL [(.int .i64 0),(.str []),(.sl 1 nz []),(.sl 4 nz [])]),
.n (.st 4 (.t 4) (.t 14))] [1,4,9,10,11])
(.seq
(.reg [
.s 15 (.ld true 4 (.t 4)),
.s 16 (.call 50 [(.t 15)]),
.s 17 (.un .not (.t 16))] [1,9,10,11,17])
(.cnd (.t 17)
(.seq
(.reg [
.s 2 (.mv (.c (.bool false)))] [2])
.ret)
.skip))))
(.reg [
.s 18 (.bin .add none (.t 11) (.k 1)),
.s 11 (.m 18)] [1,9,10,11]))))
(.trim [1,9,10,11]))))))
(.seq
(.reg [
.s 19 (.fa 2 (.t 1)),
.s 20 (.l 19),
.s 21 (.len (.t 20)),
.s 22 (.bin .eql (some .int) (.t 21) (.k 0)),
.s 23 (.m 22),
.g 24 (.fa 3 (.t 1)) 23 true,
.g 25 (.l 24) 23 true,
.g 26 (.len (.t 25)) 23 true,
.g 27 (.bin .eql (some .int) (.t 26) (.k 0)) 23 true,
.s 28 (.pick (.t 23) (.t 27) (.c (.bool false))),
.s 5 (.m 28)] [1,5])
(.seq
(.seq
(.reg [
.s 29 (.fa 0 (.t 1)),
.s 30 (.l 29)] [1,5,30])
(.blk 2
(.seq
(.reg [
.s 32 (.bin .eql (some .int) (.t 30) (.k 1)),
.s 31 (.m 32)] [1,5,30,31])
(.cnd (.t 31)
(.seq
(.reg [
.s 33 (.m 5),
.s 34 (.m 33),
.g 35 (.fa 1 (.t 1)) 34 true,
.g 36 (.l 35) 34 true,
.g 37 (.bin .eql (some .str) (.t 36) (.c (.str []))) 34 true,
.s 38 (.pick (.t 34) (.t 37) (.c (.bool false))),
.s 2 (.m 38)] [2])
.ret)
(.seq
(.reg [
.s 40 (.bin .eql (some .int) (.t 30) (.k 2)),
.s 39 (.m 40)] [1,5,30,39])
(.cnd (.t 39)
(.seq
(.reg [
.s 41 (.m 5),
.s 42 (.m 41),
.g 43 (.fa 1 (.t 1)) 42 true,
.g 44 (.l 43) 42 true,
.g 45 (.bin .eql (some .str) (.t 44) (.c (.str [116,114,117,101]))) 42 true,
.g 46 (.m 45) 42 true,
.g 47 (.fa 1 (.t 1)) 46 false,
.g 48 (.l 47) 46 false,
.g 49 (.bin .eql (some .str) (.t 48) (.c (.str [102,97,108,115,101]))) 46 false,
.g 50 (.pick (.t 46) (.c (.bool true)) (.t 49)) 42 true,
.s 51 (.pick (.t 42) (.t 50) (.c (.bool false))),
.s 2 (.m 51)] [2])
.ret)
(.seq
(.reg [
.s 53 (.bin .eql (some .int) (.t 30) (.k 3)),
.s 52 (.m 53)] [1,5,30,52])
(.cnd (.t 52)
(.seq
(.reg [
.s 55 (.fa 1 (.t 1)),
.s 56 (.l 55),
.s 57 (.call 81 [(.t 56)]),
.s 54 (.m 57),
.s 58 (.ext (.t 54) 0),
.s 59 (.ext (.t 54) 1),
.s 6 (.m 58),
.s 7 (.m 59)] [1,5,6,7])
(.seq
(.reg [
.s 60 (.m 5),
.s 61 (.m 60),
.g 62 (.m 7) 61 true,
.g 63 (.bin .eql (some .int) (.t 62) (.k 0)) 61 true,
.s 64 (.pick (.t 61) (.t 63) (.c (.bool false))),
.s 65 (.m 64),
.g 66 (.m 6) 65 true,
.g 67 (.fa 1 (.t 1)) 65 true,
.g 68 (.l 67) 65 true,
.g 69 (.bin .eql (some .str) (.t 66) (.t 68)) 65 true,
.s 70 (.pick (.t 65) (.t 69) (.c (.bool false))),
.s 2 (.m 70)] [2])
.ret))
(.seq
(.reg [
.s 72 (.bin .eql (some .int) (.t 30) (.k 4)),
.s 71 (.m 72)] [1,5,30,71])
(.cnd (.t 71)
(.seq
(.reg [
.s 73 (.m 5),
.s 74 (.m 73),
.g 75 (.fa 1 (.t 1)) 74 true,
.g 76 (.l 75) 74 true,
.g 77 (.call 82 [(.t 76)]) 74 true,
.s 78 (.pick (.t 74) (.t 77) (.c (.bool false))),
.s 2 (.m 78)] [2])
.ret)
(.seq
(.reg [
.s 80 (.bin .eql (some .int) (.t 30) (.k 5)),
.s 79 (.m 80)] [1,5,30,79])
(.cnd (.t 79)
(.seq
(.reg [
.s 81 (.m 5),
.s 82 (.m 81),
.g 83 (.fa 1 (.t 1)) 82 true,
.g 84 (.l 83) 82 true,
.g 85 (.call 83 [(.t 84)]) 82 true,
.s 86 (.pick (.t 82) (.t 85) (.c (.bool false))),
.s 2 (.m 86)] [2])
.ret)
(.seq
(.reg [
.s 88 (.bin .eql (some .int) (.t 30) (.k 6)),
.s 87 (.m 88)] [1,30,87])
(.cnd (.t 87)
(.seq
(.reg [
.s 89 (.fa 1 (.t 1)),
.s 90 (.l 89),
.s 91 (.bin .eql (some .str) (.t 90) (.c (.str []))),
.s 92 (.m 91),
.g 93 (.fa 2 (.t 1)) 92 true,
.g 94 (.l 93) 92 true,
.g 95 (.len (.t 94)) 92 true,
.g 96 (.bin .eql (some .int) (.t 95) (.k 0)) 92 true,
.s 97 (.pick (.t 92) (.t 96) (.c (.bool false))),
.s 2 (.m 97)] [2])
.ret)
(.seq
(.reg [
.s 99 (.bin .eql (some .int) (.t 30) (.k 7)),
.s 98 (.m 99)] [1,98])
(.cnd (.t 98)
(.seq
(.reg [
.s 100 (.fa 1 (.t 1)),
.s 101 (.l 100),
.s 102 (.bin .eql (some .str) (.t 101) (.c (.str []))),
.s 103 (.m 102),
.g 104 (.fa 2 (.t 1)) 103 true,
.g 105 (.l 104) 103 true,
.g 106 (.len (.t 105)) 103 true,
.g 107 (.fa 3 (.t 1)) 103 true,
.g 108 (.l 107) 103 true,
.g 109 (.len (.t 108)) 103 true,
.g 110 (.bin .eql (some .int) (.t 106) (.t 109)) 103 true,
.s 111 (.pick (.t 103) (.t 110) (.c (.bool false))),
.s 112 (.m 111),
.g 113 (.fa 2 (.t 1)) 112 true,
.g 114 (.l 113) 112 true,
.g 115 (.call 84 [(.t 114)]) 112 true,
.s 116 (.pick (.t 112) (.t 115) (.c (.bool false))),
.s 2 (.m 116)] [2])
.ret)
.skip))))))))))))))))
(.seq
(.reg [
.s 2 (.mv (.c (.bool false)))] [2])
.ret))))),
[.tmp 2]⟩
/-- emend/tree.Read -/
def F51 : DD := ⟨2,
(.seq
(.reg [
.s 4 (.alH 32 [.nilif])] [0,1,4])
(.seq
(.reg [
.s 6 (.m 0),
.s 7 (.lenS (.t 6)),
.s 8 (.bin .gtr none (.t 7) (.k 65536))] [0,1,4,8])
(.seq
(.cnd (.t 8)
(.seq
(.reg [
.s 9 (.call 85 [(.k 0),(.k 2)]),
.s 10 (.mki 105 (.t 9)),
.n (.st 1 (.t 4) (.t 10))] [4])
.ret)
.skip)
(.seq
(.reg [
.s 11 (.m 0),
.s 12 (.call 86 [(.t 11)]),
.s 5 (.m 12)] [0,1,4,5])
(.seq
(.reg [
.s 13 (.m 5),
.s 14 (.bin .geq none (.t 13) (.k 0))] [0,1,4,5,14])
(.seq
(.cnd (.t 14)
(.seq
(.reg [
.s 15 (.m 5),
.s 16 (.call 85 [(.t 15),(.k 10)]),
.s 17 (.mki 105 (.t 16)),
.n (.st 1 (.t 4) (.t 17))] [4])
.ret)
.skip)
.skip)))))),
[.s 18 (.mkf 87 [] [(.t 4)])],18,[0,1,4],
(.seq
(.reg [
.s 19 (.m 1),
.s 20 (.m 0),
.s 21 (.bld [(.str []),(.int .i64 0),(.int .i64 0)] [(0,1,(.t 20))]),
.s 22 (.bxH 88 (.t 21)),
.s 23 (.callv (.t 19) [(.t 22)])] [4])
(.seq
(.reg [
.n (.st 1 (.t 4) (.c .nilif))] [4])
(.seq
.ret
.skip))),
[.cell 4 false 1],[4]⟩
/-- emend/tree.Parse$1 -/
def F52 : DF := ⟨3,
(.seq
(.reg [
.s 5 (.m 0),
.s 6 (.bld [.nilp] [(0,1,(.t 5))]),
.s 4 (.alL [.nilp]),
.n (.st 1 (.t 4) (.t 6))] [1,2,4])
(.seq
(.reg [
.s 7 (.ld true 1 (.t 4)),
.s 8 (.call 53 [(.t 7)])] [1,2,4])
(.seq
(.reg [
.s 9 (.ld true 1 (.t 4)),
.s 10 (.call 54 [(.t 9),(.k 1)]),
.n (.st 4 (.t 1) (.t 10))] [2,4])
(.seq
(.reg [
.s 11 (.ld true 1 (.t 4)),
.s 12 (.call 53 [(.t 11)])] [2,4])
(.seq
(.drw [
((.s 13 (.fa 0 (.t 4)),(some 4)),[]),
((.s 14 (.l 13),(some 4)),[]),
((.s 15 (.nilc (.t 14)),none),[]),
((.s 16 (.fa 1 (.t 15)),none),[]),
((.s 17 (.l 16),none),[]),
((.s 18 (.l 2),none),[]),
((.s 19 (.lenS (.t 18)),none),[]),
((.s 20 (.bin .lss none (.t 17) (.t 19)),none),[])] [4,20])
(.cnd (.t 20)
(.reg [
.s 21 (.fa 0 (.t 4)),
.s 22 (.l 21),
.s 23 (.call 55 [(.t 22)])] [])
.skip)))))),
[]⟩
/-- (emend/tree.parser).blanks -/
def F53 : DF := ⟨1,
(.seq
(.reg [
.s 1 (.bxL (.t 0))] [1])
(.reg [
.s 2 (.fa 0 (.t 1)),
.s 3 (.l 2),
.s 4 (.call 88 [(.t 3),(.f 89)])] [])),
[]⟩
/-- (emend/tree.parser).tree -/
def F54 : DF := ⟨2,
(.seq
(.reg [
.s 2 (.bxL (.t 0)),
.s 4 (.alL [(.int .i64 0),(.str []),(.sl 1 nz []),(.sl 4 nz [])])] [1,2,4])
(.seq
(.reg [
.s 8 (.fa 0 (.t 2)),
.s 9 (.l 8),
.s 10 (.nilc (.t 9)),
.s 11 (.fa 1 (.t 10)),
.s 12 (.l 11),
.s 5 (.m 12)] [1,2,4,5])
(.seq
(.blk 0
(.seq
(.reg [
.s 14 (.fa 0 (.t 2)),
.s 15 (.l 14),
.s 16 (.call 90 [(.t 15),(.c (.int .u8 34))]),
.s 13 (.m 16)] [1,2,4,5,13])
(.cnd (.t 13)
(.seq
(.reg [
.s 17 (.fa 0 (.t 2)),
.s 18 (.l 17),
.s 19 (.m 5),
.s 20 (.m 1),
.s 21 (.call 91 [(.t 18),(.t 19),(.t 20),(.k 1)])] [2,4])
(.seq
(.reg [
.s 22 (.fa 0 (.t 2)),
.s 23 (.l 22),
.s 24 (.call 92 [(.t 23)]),
.s 25 (.bld [(.int .i64 0),(.str []),(.sl 1 nz []),(.sl 4 nz [])] [(0,1,(.k 4)),(1,1,(.t 24))]),
.n (.st 4 (.t 4) (.t 25))] [4])
.ret))
(.seq
(.reg [
.s 27 (.fa 0 (.t 2)),
.s 28 (.l 27),
.s 29 (.call 90 [(.t 28),(.c (.int .u8 91))]),
.s 26 (.m 29)] [1,2,4,5,26])
(.cnd (.t 26)
(.seq
(.reg [
.s 30 (.fa 0 (.t 2)),
.s 31 (.l 30),
.s 32 (.m 5),
.s 33 (.m 1),
.s 34 (.call 91 [(.t 31),(.t 32),(.t 33),(.k 1)])] [1,2,4])
(.seq
(.reg [
.s 35 (.ld true 1 (.t 2)),
.s 36 (.m 1),
.s 37 (.call 93 [(.t 35),(.t 36)]),
.n (.st 4 (.t 4) (.t 37))] [4])
.ret))
(.seq
(.reg [
.s 39 (.fa 0 (.t 2)),
.s 40 (.l 39),
.s 41 (.call 90 [(.t 40),(.c (.int .u8 123))]),
.s 38 (.m 41)] [1,2,4,5,38])
(.cnd (.t 38)
(.seq
(.reg [
.s 42 (.fa 0 (.t 2)),
.s 43 (.l 42),
.s 44 (.m 5),
.s 45 (.m 1),
.s 46 (.call 91 [(.t 43),(.t 44),(.t 45),(.k 1)])] [1,2,4])
(.seq
(.reg [
.s 47 (.ld true 1 (.t 2)),
.s 48 (.m 1),
.s 49 (.call 94 [(.t 47),(.t 48)]),
.n (.st 4 (.t 4) (.t 49))] [4])
.ret))
(.seq
(.reg [
.s 51 (.fa 0 (.t 2)),
.s 52 (.l 51),
.s 53 (.call 90 [(.t 52),(.c (.int .u8 64))]),
.s 50 (.m 53)] [1,2,4,5,50])
(.cnd (.t 50)
(.seq
(.reg [
.s 54 (.fa 0 (.t 2)),
.s 55 (.l 54),
.s 56 (.nilc (.t 55)),
.s 57 (.fa 1 (.t 56)),
.s 58 (.l 57),
.s 59 (.bin .add none (.t 58) (.k 1)),
.s 60 (.nilc (.t 55)),
.s 61 (.fa 1 (.t 60)),
.n (.st 1 (.t 61) (.t 59))] [1,2,4,5])
(.seq
(.reg [
.s 62 (.fa 0 (.t 2)),
.s 63 (.l 62),
.s 64 (.call 88 [(.t 63),(.f 95)]),
.s 6 (.m 64)] [1,2,4,5,6])
(.seq
(.seq
(.reg [
.s 65 (.m 6),
.s 66 (.call 83 [(.t 65)]),
.s 67 (.un .not (.t 66))] [1,2,4,5,6,67])
(.cnd (.t 67)
(.reg [
.s 68 (.m 5),
.s 69 (.call 97 [(.t 68),(.k 20)])] [1,2,4,5,6])
.skip))
(.seq
(.reg [
.s 70 (.fa 0 (.t 2)),
.s 71 (.l 70),
.s 72 (.m 5),
.s 73 (.m 1),
.s 74 (.call 91 [(.t 71),(.t 72),(.t 73),(.k 1)])] [4,6])
(.seq
(.reg [
.s 75 (.m 6),
.s 76 (.bld [(.int .i64 0),(.str []),(.sl 1 nz []),(.sl 4 nz [])] [(0,1,(.k 5)),(1,1,(.t 75))]),
.n (.st 4 (.t 4) (.t 76))] [4])
.ret)))))
.skip)))))))))
(.seq
(.reg [
.s 77 (.fa 0 (.t 2)),
.s 78 (.l 77),
.s 79 (.call 98 [(.t 78)]),
.s 7 (.alL [(.int .i64 0),(.str []),(.sl 1 nz []),(.sl 4 nz [])]),
.n (.st 4 (.t 7) (.t 79))] [1,2,4,5,7])
(.seq
(.reg [
.s 80 (.fa 0 (.t 2)),
.s 81 (.l 80),
.s 82 (.m 5),
.s 83 (.m 1),
.s 84 (.call 91 [(.t 81),(.t 82),(.t 83),(.k 1)])] [4,7])
(.seq
(.reg [
.s 85 (.ld true 4 (.t 7)),
.n (.st 4 (.t 4) (.t 85))] [4])
.ret)))))),
[.cell 4 true 4]⟩
/-- (*emend/tree.Place).Bad -/
def F55 : DF := ⟨1,
(.seq
(.seq
(.drw [
((.s 2 (.m 0),none),[]),
((.s 3 (.nilc (.t 2)),none),[]),
((.s 4 (.fa 1 (.t 3)),none),[]),
((.s 5 (.l 4),none),[]),
((.s 6 (.m 0),none),[]),
((.s 7 (.nilc (.t 6)),none),[]),
((.s 8 (.fa 0 (.t 7)),none),[]),
((.s 9 (.l 8),none),[]),
((.s 10 (.lenS (.t 9)),none),[]),
((.s 11 (.bin .geq none (.t 5) (.t 10)),none),[])] [0,11])
(.cnd (.t 11)
(.reg [
.s 12 (.m 0),
.s 13 (.nilc (.t 12)),
.s 14 (.fa 0 (.t 13)),
.s 15 (.l 14),
.s 16 (.lenS (.t 15)),
.s 17 (.call 97 [(.t 16),(.k 14)])] [0])
.skip))
(.reg [
.s 18 (.m 0),
.s 19 (.nilc (.t 18)),
.s 20 (.fa 1 (.t 19)),
.s 21 (.l 20),
.s 22 (.call 97 [(.t 21),(.k 13)])] [])),
[]⟩
/-- emend/tree.part -/
def F56 : DF := ⟨2,
(.seq
(.reg [
.s 2 (.bxL (.t 0)),
.s 3 (.bxL (.t 1)),
.s 4 (.mv (.k 0))] [2,3])
(.seq
(.seq
(.reg [
.s 6 (.fa 0 (.t 2)),
.s 7 (.l 6)] [2,3,7])
(.blk 0
(.seq
(.reg [
.s 9 (.bin .eql (some .int) (.t 7) (.k 6)),
.s 8 (.m 9)] [2,3,7,8])
(.cnd (.t 8)
(.seq
(.reg [
.s 10 (.fa 0 (.t 3)),
.s 11 (.l 10),
.s 12 (.bin .eql (some .str) (.t 11) (.c (.str []))),
.s 13 (.m 12),
.g 14 (.fa 1 (.t 3)) 13 true,
.g 15 (.l 14) 13 true,
.g 16 (.bin .geq none (.t 15) (.k 0)) 13 true,
.s 17 (.pick (.t 13) (.t 16) (.c (.bool false))),
.s 18 (.m 17),
.g 19 (.fa 1 (.t 3)) 18 true,
.g 20 (.l 19) 18 true,
.g 21 (.fa 3 (.t 2)) 18 true,
.g 22 (.l 21) 18 true,
.g 23 (.len (.t 22)) 18 true,
.g 24 (.bin .lss none (.t 20) (.t 23)) 18 true,
.s 25 (.pick (.t 18) (.t 24) (.c (.bool false)))] [3,25])
(.cnd (.t 25)
(.seq
(.reg [
.s 26 (.fa 1 (.t 3)),
.s 27 (.l 26),
.s 4 (.m 27)] [4])
.ret)
.skip))
(.seq
(.reg [
.s 29 (.bin .eql (some .int) (.t 7) (.k 7)),
.s 28 (.m 29)] [2,3,28])
(.cnd (.t 28)
(.seq
(.reg [
.s 30 (.fa 2 (.t 2)),
.s 31 (.l 30),
.s 32 (.fa 0 (.t 3)),
.s 33 (.l 32),
.s 34 (.call 99 [(.t 31),(.t 33)]),
.s 5 (.m 34)] [2,3,5])
(.seq
(.reg [
.s 35 (.ld true 2 (.t 3)),
.s 36 (.fa 0 (.t 3)),
.s 37 (.l 36),
.s 38 (.bld [(.str []),(.int .i64 0)] [(0,1,(.t 37))]),
.s 39 (.bin .eql (some (.st [(0,.str),(1,.int)])) (.t 35) (.t 38)),
.s 40 (.m 39),
.g 41 (.m 5) 40 true,
.g 42 (.fa 3 (.t 2)) 40 true,
.g 43 (.l 42) 40 true,
.g 44 (.len (.t 43)) 40 true,
.g 45 (.bin .lss none (.t 41) (.t 44)) 40 true,
.s 46 (.pick (.t 40) (.t 45) (.c (.bool false)))] [5,46])
(.cnd (.t 46)
(.seq
(.reg [
.s 47 (.m 5),
.s 4 (.m 47)] [4])
.ret)
.skip)))
.skip))))))
(.seq
(.reg [
.s 4 (.mv (.k (-1)))] [4])
.ret))),
[.tmp 4]⟩
/-- emend/tree.set -/
def F57 : DF := ⟨3,
(.seq
(.reg [
.s 3 (.bxL (.t 0)),
.s 4 (.bxL (.t 1)),
.s 6 (.alL [(.int .i64 0),(.str []),(.sl 1 nz []),(.sl 4 nz [])]),
.s 7 (.mv (.c (.bool false)))] [2,3,4,6])
(.seq
(.seq
(.reg [
.s 14 (.m 2),
.s 15 (.len (.t 14)),
.s 16 (.bin .eql (some .int) (.t 15) (.k 0))] [2,3,4,6,16])
(.cnd (.t 16)
(.seq
(.reg [
.s 17 (.ld true 4 (.t 4)),
.s 18 (.call 31 [(.t 17)]),
.n (.st 4 (.t 6) (.t 18)),
.s 7 (.mv (.c (.bool true)))] [6,7])
.ret)
.skip))
(.seq
(.drw [
((.s 19 (.ld true 4 (.t 3)),(some 3)),[]),
((.s 20 (.m 2),none),[]),
((.s 21 (.ia 2 (.t 20) (.k 0)),none),[]),
((.s 22 (.ld true 2 (.t 21)),none),[]),
((.s 23 (.call 56 [(.t 19),(.t 22)]),none),[]),
((.s 8 (.m 23),none),[])] [2,3,4,6,8])
(.seq
(.seq
(.reg [
.s 24 (.m 8),
.s 25 (.bin .lss none (.t 24) (.k 0))] [2,3,4,6,8,25])
(.cnd (.t 25)
(.seq
(.reg [
.s 26 (.bld [(.int .i64 0),(.str []),(.sl 1 nz []),(.sl 4 nz [])] []),
.n (.st 4 (.t 6) (.t 26)),
.s 7 (.mv (.c (.bool false)))] [6,7])
.ret)
.skip))
(.seq
(.drw [
((.s 28 (.fa 3 (.t 3)),(some 3)),[]),
((.s 29 (.l 28),(some 3)),[]),
((.s 30 (.m 8),none),[]),
((.s 31 (.ia 4 (.t 29) (.t 30)),none),[]),
((.s 32 (.ld true 4 (.t 31)),none),[]),
((.s 33 (.ld true 4 (.t 4)),(some 4)),[]),
((.s 34 (.m 2),none),[]),
((.s 35 (.slA 2 (.t 34) (some (.k 1)) none none),none),[]),
((.s 9 (.alL [(.int .i64 0),(.str []),(.sl 1 nz []),(.sl 4 nz [])]),none),[]),
((.s 36 (.call 57 [(.t 32),(.t 33),(.t 35)]),none),[]),
((.s 27 (.m 36),none),[]),
((.s 37 (.ext (.t 27) 0),none),[]),
((.s 38 (.ext (.t 27) 1),none),[]),
((.n (.st 4 (.t 9) (.t 37)),(some 9)),[]),
((.s 10 (.m 38),none),[])] [3,6,8,9,10])
(.seq
(.seq
(.reg [
.s 39 (.m 10),
.s 40 (.un .not (.t 39))] [3,6,8,9,40])
(.cnd (.t 40)
(.seq
(.reg [
.s 41 (.bld [(.int .i64 0),(.str []),(.sl 1 nz []),(.sl 4 nz [])] []),
.n (.st 4 (.t 6) (.t 41)),
.s 7 (.mv (.c (.bool false)))] [6,7])
.ret)
.skip))
(.seq
(.reg [
.s 42 (.fa 0 (.t 3)),
.s 43 (.l 42),
.s 44 (.fa 1 (.t 3)),
.s 45 (.l 44),
.s 46 (.bld [(.int .i64 0),(.str []),(.sl 1 nz []),(.sl 4 nz [])] [(0,1,(.t 43)),(1,1,(.t 45))]),
.s 11 (.alL [(.int .i64 0),(.str []),(.sl 1 nz []),(.sl 4 nz [])]),
.n (.st 4 (.t 11) (.t 46))] [3,6,8,9,11])
(.seq
(.reg [
.s 47 (.fa 2 (.t 11)),
.s 48 (.l 47),
.s 49 (.fa 2 (.t 3)),
.s 50 (.l 49),
.s 51 (.app false 9 1 16 (.t 48) (.t 50)),
.s 52 (.fa 2 (.t 11)),
.n (.st 1 (.t 52) (.t 51))] [3,6,8,9,11])
(.seq
(.seq
(.reg [
.s 53 (.fa 3 (.t 3)),
.s 54 (.l 53),
.s 55 (.len (.t 54)),
.s 56 (.mv (.k 0))] [6,8,9,11,54,55,56])
(.blk 0
(.seq
(.trim [6,8,9,11,54,55,56])
(.lop
(.seq
(.seq
(.reg [
.s 57 (.bin .lss none (.t 56) (.t 55))] [6,8,9,11,54,55,56,57])
(.seq
(.cnd (.t 57)
.skip
(.exit 0))
(.seq
(.blk 1
(.seq
(.reg [
.s 58 (.m 56),
.s 59 (.ia 4 (.t 54) (.t 56)),
.s 60 (.ld true 4 (.t 59)),
.s 13 (.alL [(.int .i64 0),(.str []),(.sl 1 nz []),(.sl 4 nz [])]),
.s 12 (.m 58),
.n (.st 4 (.t 13) (.t 60))] [6,8,9,11,12,13,54,55,56])
(.seq
(.reg [
.s 61 (.m 12),
.s 62 (.m 8),
.s 63 (.bin .eql (some .int) (.t 61) (.t 62))] [6,8,9,11,13,54,55,56,63])
(.cnd (.t 63)
(.reg [
.s 64 (.fa 3 (.t 11)),
.s 65 (.l 64),
.s 66 (.ld true 4 (.t 9)),
.s 67 (.bldT 25 4 1 (.agg [(.int .i64 0),(.str []),(.sl 1 nz []),(.sl 4 nz [])]) [(0,(.t 66))]),
.s 68 (.app true 25 4 72 (.t 65) (.t 67)),
.s 69 (.fa 3 (.t 11)),
.n (.st 1 (.t 69) (.t 68))] [6,8,9,11,54,55,56])
(.drw [
((.s 70 (.fa 3 (.t 11)),(some 11)),[]),
((.s 71 (.l 70),(some 11)),[]),
((.s 72 (.ld true 4 (.t 13)),(some 13)),[]),
((.s 73 (.call 31 [(.t 72)]),none),[]),
((.s 74 (.bldS 4 1 (.agg [(.int .i64 0),(.str []),(.sl 1 nz []),(.sl 4 nz [])]) [(0,(.t 73))]),none),[]),
((.s 75 (.app true 25 4 72 (.t 71) (.t 74)),none),[]),
((.s 76 (.fa 3 (.t 11)),(some 11)),[]),
((.n (.st 1 (.t 76) (.t 75)),(some 11)),[])] [6,8,9,11,54,55,56])))))
(.reg [
.s 77 (.bin .add none (.t 56) (.k 1)),
.s 56 (.m 77)] [6,8,9,11,54,55,56]))))
(.trim [6,8,9,11,54,55,56]))))))
(.seq
(.reg [
.s 78 (.ld true 4 (.t 11)),
.n (.st 4 (.t 6) (.t 78)),
.s 7 (.mv (.c (.bool true)))] [6,7])
.ret)))))))))),
[.cell 6 true 4,.tmp 7]⟩

/-- emend/emendref2.Normal -/
def F61 : DF := ⟨1,
(.seq
(.reg [
.s 2 (.mv (.c (.str []))),
.s 3 (.mv (.k 0))] [0])
(.seq
(.reg [
.s 7 (.m 0),
.s 8 (.call 106 [(.t 7)]),
.s 6 (.m 8),
.s 9 (.ext (.t 6) 0),
.s 10 (.ext (.t 6) 1),
.s 4 (.alL [(.bool false),(.str []),(.int .i64 0)]),
.n (.st 3 (.t 4) (.t 9)),
.s 5 (.m 10)] [4,5])
(.seq
(.seq
(.reg [
.s 11 (.m 5),
.s 12 (.bin .neq (some .int) (.t 11) (.k 0))] [4,5,12])
(.cnd (.t 12)
(.seq
(.reg [
.s 13 (.m 5),
.s 2 (.mv (.c (.str []))),
.s 3 (.m 13)] [2,3])
.ret)
.skip))
(.seq
(.reg [
.s 14 (.ld true 3 (.t 4)),
.s 15 (.call 107 [(.t 14)]),
.s 16 (.ext (.t 15) 0),
.s 17 (.ext (.t 15) 1),
.s 2 (.m 16),
.s 3 (.m 17)] [2,3])
.ret)))),
[.tmp 2,.tmp 3]⟩
/-- emend/emendref3.Time -/
def F63 : DF := ⟨1,
(.seq
(.reg [
.s 2 (.mv (.c (.bool false)))] [0])
(.seq
(.seq
(.reg [
.s 7 (.m 0),
.s 8 (.call 109 [(.t 7)]),
.s 9 (.m 8),
.g 10 (.m 0) 9 false,
.g 11 (.call 110 [(.t 10)]) 9 false,
.s 12 (.pick (.t 9) (.c (.bool true)) (.t 11))] [0,12])
(.cnd (.t 12)
(.seq
(.reg [
.s 2 (.mv (.c (.bool true)))] [2])
.ret)
.skip))
(.seq
(.seq
(.reg [
.s 13 (.m 0),
.s 14 (.lenS (.t 13)),
.s 15 (.bin .lss none (.t 14) (.k 19)),
.s 16 (.m 15),
.g 17 (.m 0) 16 false,
.g 18 (.ixS (.t 17) (.k 10)) 16 false,
.g 19 (.bin .neq (some .int) (.t 18) (.c (.int .u8 84))) 16 false,
.s 20 (.pick (.t 16) (.c (.bool true)) (.t 19)),
.s 21 (.m 20),
.g 22 (.m 0) 21 false,
.g 23 (.slS (.t 22) none (some (.k 10))) 21 false,
.g 24 (.call 109 [(.t 23)]) 21 false,
.g 25 (.un .not (.t 24)) 21 false,
.s 26 (.pick (.t 21) (.c (.bool true)) (.t 25))] [0,26])
(.cnd (.t 26)
(.seq
(.reg [
.s 2 (.mv (.c (.bool false)))] [2])
.ret)
.skip))
(.seq
(.reg [
.s 27 (.m 0),
.s 28 (.slS (.t 27) (some (.k 11)) none),
.s 3 (.m 28)] [3])
(.seq
(.seq
(.reg [
.s 29 (.m 3),
.s 30 (.call 110 [(.t 29)])] [3,30])
(.cnd (.t 30)
(.seq
(.reg [
.s 2 (.mv (.c (.bool true)))] [2])
.ret)
.skip))
(.seq
(.reg [
.s 31 (.m 3),
.s 32 (.lenS (.t 31)),
.s 4 (.m 32)] [3,4])
(.seq
(.seq
(.reg [
.s 33 (.m 3),
.s 34 (.m 4),
.s 35 (.bin .sub none (.t 34) (.k 1)),
.s 36 (.ixS (.t 33) (.t 35)),
.s 37 (.bin .eql (some .int) (.t 36) (.c (.int .u8 90)))] [3,4,37])
(.cnd (.t 37)
(.seq
(.reg [
.s 38 (.m 3),
.s 39 (.m 4),
.s 40 (.bin .sub none (.t 39) (.k 1)),
.s 41 (.slS (.t 38) none (some (.t 40))),
.s 42 (.call 110 [(.t 41)]),
.s 2 (.m 42)] [2])
.ret)
.skip))
(.seq
(.seq
(.reg [
.s 43 (.m 4),
.s 44 (.bin .lss none (.t 43) (.k 14)),
.s 45 (.m 44),
.g 46 (.m 3) 45 false,
.g 47 (.m 4) 45 false,
.g 48 (.bin .sub none (.t 47) (.k 6)) 45 false,
.g 49 (.ixS (.t 46) (.t 48)) 45 false,
.g 50 (.bin .neq (some .int) (.t 49) (.c (.int .u8 43))) 45 false,
.g 51 (.m 50) 45 false,
.g 52 (.m 3) 51 true,
.g 53 (.m 4) 51 true,
.g 54 (.bin .sub none (.t 53) (.k 6)) 51 true,
.g 55 (.ixS (.t 52) (.t 54)) 51 true,
.g 56 (.bin .neq (some .int) (.t 55) (.c (.int .u8 45))) 51 true,
.g 57 (.pick (.t 51) (.t 56) (.c (.bool false))) 45 false,
.s 58 (.pick (.t 45) (.c (.bool true)) (.t 57)),
.s 59 (.m 58),
.g 60 (.m 3) 59 false,
.g 61 (.m 4) 59 false,
.g 62 (.bin .sub none (.t 61) (.k 3)) 59 false,
.g 63 (.ixS (.t 60) (.t 62)) 59 false,
.g 64 (.bin .neq (some .int) (.t 63) (.c (.int .u8 58))) 59 false,
.s 65 (.pick (.t 59) (.c (.bool true)) (.t 64))] [3,4,65])
(.cnd (.t 65)
(.seq
(.reg [
.s 2 (.mv (.c (.bool false)))] [2])
.ret)
.skip))
(.seq
(.reg [
.s 66 (.m 3),
.s 67 (.m 4),
.s 68 (.bin .sub none (.t 67) (.k 5)),
.s 69 (.call 111 [(.t 66),(.t 68),(.k 2)]),
.s 5 (.m 69)] [3,4,5])
(.seq
(.reg [
.s 70 (.m 3),
.s 71 (.m 4),
.s 72 (.bin .sub none (.t 71) (.k 2)),
.s 73 (.call 111 [(.t 70),(.t 72),(.k 2)]),
.s 6 (.m 73)] [3,4,5,6])
(.seq
(.reg [
.s 74 (.m 5),
.s 75 (.bin .geq none (.t 74) (.k 0)),
.s 76 (.m 75),
.g 77 (.m 5) 76 true,
.g 78 (.bin .leq none (.t 77) (.k 23)) 76 true,
.s 79 (.pick (.t 76) (.t 78) (.c (.bool false))),
.s 80 (.m 79),
.g 81 (.m 6) 80 true,
.g 82 (.bin .geq none (.t 81) (.k 0)) 80 true,
.s 83 (.pick (.t 80) (.t 82) (.c (.bool false))),
.s 84 (.m 83),
.g 85 (.m 6) 84 true,
.g 86 (.bin .leq none (.t 85) (.k 59)) 84 true,
.s 87 (.pick (.t 84) (.t 86) (.c (.bool false))),
.s 88 (.m 87),
.g 89 (.m 3) 88 true,
.g 90 (.m 4) 88 true,
.g 91 (.bin .sub none (.t 90) (.k 6)) 88 true,
.g 92 (.slS (.t 89) none (some (.t 91))) 88 true,
.g 93 (.call 110 [(.t 92)]) 88 true,
.s 94 (.pick (.t 88) (.t 93) (.c (.bool false))),
.s 2 (.m 94)] [2])
.ret))))))))))),
[.tmp 2]⟩

/-- emend/emendref3.Begin -/
def F69 : DF := ⟨2,
(.seq
(.reg [
.s 4 (.mv (.c .nilp))] [0,1])
(.seq
(.reg [
.s 8 (.m 0),
.s 9 (.m 1),
.s 10 (.bld [(.str []),(.int .i64 0),(.int .i64 0),(.int .i64 0),(.int .i64 0),(.bool false)] [(0,1,(.t 8)),(5,1,(.t 9))]),
.s 11 (.bxH 103 (.t 10)),
.s 5 (.m 11)] [0,5])
(.seq
(.seq
(.reg [
.s 12 (.m 0),
.s 13 (.lenS (.t 12)),
.s 14 (.bin .gtr none (.t 13) (.k 65536))] [0,5,14])
(.cnd (.t 14)
(.seq
(.reg [
.s 15 (.m 5),
.s 16 (.bld [(.int .i64 0),(.int .i64 0)] [(0,1,(.k 0)),(1,1,(.k 2))]),
.s 17 (.nilc (.t 15)),
.s 18 (.fa 2 (.t 17)),
.n (.st 2 (.t 18) (.t 16))] [5])
(.seq
(.reg [
.s 19 (.m 5),
.s 4 (.m 19)] [4])
.ret))
.skip))
(.seq
(.reg [
.s 21 (.m 0),
.s 22 (.call 108 [(.t 21)]),
.s 20 (.m 22),
.s 23 (.ext (.t 20) 0),
.s 24 (.ext (.t 20) 1),
.s 7 (.alL [(.int .i64 0),(.int .i64 0)]),
.s 6 (.m 23),
.n (.st 2 (.t 7) (.t 24))] [5,7])
(.seq
(.reg [
.s 25 (.m 5),
.s 26 (.ld true 2 (.t 7)),
.s 27 (.nilc (.t 25)),
.s 28 (.fa 2 (.t 27)),
.n (.st 2 (.t 28) (.t 26))] [5])
(.seq
(.reg [
.s 29 (.m 5),
.s 4 (.m 29)] [4])
.ret)))))),
[.tmp 4]⟩
/-- (*emend/emendref3.Reader).Blanks -/
def F70 : DF := ⟨1,
(.blk 0
(.seq
(.trim [0])
(.lop
(.seq
(.seq
(.seq
(.drw [
((.s 2 (.m 0),none),[]),
((.s 3 (.nilc (.t 2)),none),[]),
((.s 4 (.fa 1 (.t 3)),none),[]),
((.s 5 (.l 4),none),[]),
((.s 6 (.m 0),none),[]),
((.s 7 (.nilc (.t 6)),none),[]),
((.s 8 (.fa 0 (.t 7)),none),[]),
((.s 9 (.l 8),none),[]),
((.s 10 (.lenS (.t 9)),none),[]),
((.s 11 (.bin .lss none (.t 5) (.t 10)),none),[]),
((.s 12 (.m 11),none),[]),
((.g 13 (.m 0) 12 true,none),[]),
((.g 14 (.nilc (.t 13)) 12 true,none),[]),
((.g 15 (.fa 0 (.t 14)) 12 true,none),[]),
((.g 16 (.l 15) 12 true,none),[]),
((.g 17 (.m 0) 12 true,none),[]),
((.g 18 (.nilc (.t 17)) 12 true,none),[]),
((.g 19 (.fa 1 (.t 18)) 12 true,none),[]),
((.g 20 (.l 19) 12 true,none),[]),
((.g 21 (.ixS (.t 16) (.t 20)) 12 true,none),[]),
((.g 22 (.bin .eql (some .int) (.t 21) (.c (.int .u8 9))) 12 true,none),[]),
((.g 23 (.m 22) 12 true,none),[]),
((.g 24 (.m 0) 23 false,none),[]),
((.g 25 (.nilc (.t 24)) 23 false,none),[]),
((.g 26 (.fa 0 (.t 25)) 23 false,none),[]),
((.g 27 (.l 26) 23 false,none),[]),
((.g 28 (.m 0) 23 false,none),[]),
((.g 29 (.nilc (.t 28)) 23 false,none),[]),
((.g 30 (.fa 1 (.t 29)) 23 false,none),[]),
((.g 31 (.l 30) 23 false,none),[]),
((.g 32 (.ixS (.t 27) (.t 31)) 23 false,none),[]),
((.g 33 (.bin .eql (some .int) (.t 32) (.c (.int .u8 10))) 23 false,none),[]),
((.g 34 (.pick (.t 23) (.c (.bool true)) (.t 33)) 12 true,none),[]),
((.g 35 (.m 34) 12 true,none),[]),
((.g 36 (.m 0) 35 false,none),[]),
((.g 37 (.nilc (.t 36)) 35 false,none),[]),
((.g 38 (.fa 0 (.t 37)) 35 false,none),[]),
((.g 39 (.l 38) 35 false,none),[]),
((.g 40 (.m 0) 35 false,none),[]),
((.g 41 (.nilc (.t 40)) 35 false,none),[]),
((.g 42 (.fa 1 (.t 41)) 35 false,none),[]),
((.g 43 (.l 42) 35 false,none),[]),
((.g 44 (.ixS (.t 39) (.t 43)) 35 false,none),[]),
((.g 45 (.bin .eql (some .int) (.t 44) (.c (.int .u8 13))) 35 false,none),[]),
((.g 46 (.pick (.t 35) (.c (.bool true)) (.t 45)) 12 true,none),[]),
((.g 47 (.m 46) 12 true,none),[]),
((.g 48 (.m 0) 47 false,none),[]),
((.g 49 (.nilc (.t 48)) 47 false,none),[]),
((.g 50 (.fa 0 (.t 49)) 47 false,none),[]),
((.g 51 (.l 50) 47 false,none),[]),
((.g 52 (.m 0) 47 false,none),[]),
((.g 53 (.nilc (.t 52)) 47 false,none),[]),
((.g 54 (.fa 1 (.t 53)) 47 false,none),[]),
((.g 55 (.l 54) 47 false,none),[]),
((.g 56 (.ixS (.t 51) (.t 55)) 47 false,none),[]),
((.g 57 (.bin .eql (some .int) (.t 56) (.c (.int .u8 32))) 47 false,none),[]),
((.g 58 (.pick (.t 47) (.c (.bool true)) (.t 57)) 12 true,none),[]),
((.s 59 (.pick (.t 12) (.t 58) (.c (.bool false))),none),[])] [0,59])
(.cnd (.t 59)
.skip
(.exit 0)))
(.blk 1
(.reg [
.s 60 (.m 0),
.s 61 (.nilc (.t 60)),
.s 62 (.fa 1 (.t 61)),
.s 63 (.l 62),
.s 64 (.bin .add none (.t 63) (.k 1)),
.s 65 (.nilc (.t 60)),
.s 66 (.fa 1 (.t 65)),
.n (.st 1 (.t 66) (.t 64))] [0])))
(.trim [0]))))),
[]⟩
/-- (*emend/emendref3.Reader).Value -/
def F71 : DF := ⟨2,
(.seq
(.reg [
.s 4 (.alL [(.int .i64 0),(.str []),(.sl 1 nz []),(.sl 4 nz [])])] [0,1,4])
(.seq
(.seq
(.reg [
.s 10 (.m 0),
.s 11 (.call 72 [(.t 10)]),
.s 12 (.un .not (.t 11))] [0,1,4,12])
(.cnd (.t 12)
(.seq
(.reg [
.s 13 (.bld [(.int .i64 0),(.str []),(.sl 1 nz []),(.sl 4 nz [])] []),
.n (.st 4 (.t 4) (.t 13))] [4])
.ret)
.skip))
(.seq
(.reg [
.s 14 (.m 0),
.s 15 (.nilc (.t 14)),
.s 16 (.fa 1 (.t 15)),
.s 17 (.l 16),
.s 5 (.m 17)] [0,1,4,5])
(.seq
(.seq
(.reg [
.s 18 (.m 0),
.s 19 (.call 116 [(.t 18)]),
.s 20 (.un .not (.t 19))] [0,1,4,5,20])
(.cnd (.t 20)
(.seq
(.reg [
.s 21 (.m 0),
.s 22 (.m 5),
.s 23 (.call 73 [(.t 21),(.k 13),(.t 22)])] [4])
(.seq
(.reg [
.s 24 (.bld [(.int .i64 0),(.str []),(.sl 1 nz []),(.sl 4 nz [])] []),
.n (.st 4 (.t 4) (.t 24))] [4])
.ret))
.skip))
(.seq
(.reg [
.s 25 (.m 0),
.s 26 (.nilc (.t 25)),
.s 27 (.fa 0 (.t 26)),
.s 28 (.l 27),
.s 29 (.m 5),
.s 30 (.ixS (.t 28) (.t 29)),
.s 6 (.m 30)] [0,1,4,5,6])
(.seq
(.seq
(.reg [
.s 31 (.m 6),
.s 32 (.call 117 [(.t 31)])] [0,1,4,5,6,32])
(.cnd (.t 32)
(.seq
(.reg [
.s 33 (.m 5),
.s 7 (.m 33)] [0,1,4,5,6,7])
(.seq
(.blk 0
(.seq
(.trim [0,1,4,5,6,7])
(.lop
(.seq
(.seq
(.seq
(.reg [
.s 34 (.m 7),
.s 35 (.m 0),
.s 36 (.nilc (.t 35)),
.s 37 (.fa 0 (.t 36)),
.s 38 (.l 37),
.s 39 (.lenS (.t 38)),
.s 40 (.bin .lss none (.t 34) (.t 39)),
.s 41 (.m 40),
.g 42 (.m 0) 41 true,
.g 43 (.nilc (.t 42)) 41 true,
.g 44 (.fa 0 (.t 43)) 41 true,
.g 45 (.l 44) 41 true,
.g 46 (.m 7) 41 true,
.g 47 (.ixS (.t 45) (.t 46)) 41 true,
.g 48 (.call 117 [(.t 47)]) 41 true,
.s 49 (.pick (.t 41) (.t 48) (.c (.bool false)))] [0,1,4,5,6,7,49])
(.cnd (.t 49)
.skip
(.exit 0)))
(.blk 1
(.reg [
.s 50 (.m 7),
.s 51 (.bin .add none (.t 50) (.k 1)),
.s 7 (.m 51)] [0,1,4,5,6,7])))
(.trim [0,1,4,5,6,7])))))
(.seq
(.reg [
.s 52 (.m 0),
.s 53 (.nilc (.t 52)),
.s 54 (.fa 0 (.t 53)),
.s 55 (.l 54),
.s 56 (.m 5),
.s 57 (.m 7),
.s 58 (.slS (.t 55) (some (.t 56)) (some (.t 57))),
.s 8 (.m 58)] [0,1,4,5,6,8])
(.seq
(.reg [
.s 59 (.m 8),
.s 60 (.bin .neq (some .str) (.t 59) (.c (.str [110,117,108,108]))),
.s 61 (.m 60),
.g 62 (.m 8) 61 true,
.g 63 (.bin .neq (some .str) (.t 62) (.c (.str [116,114,117,101]))) 61 true,
.s 64 (.pick (.t 61) (.t 63) (.c (.bool false))),
.s 65 (.m 64),
.g 66 (.m 8) 65 true,
.g 67 (.bin .neq (some .str) (.t 66) (.c (.str [102,97,108,115,101]))) 65 true,
.s 68 (.pick (.t 65) (.t 67) (.c (.bool false)))] [0,1,4,5,6,68])
(.cnd (.t 68)
(.seq
(.reg [
.s 69 (.m 0),
.s 70 (.m 5),
.s 71 (.call 73 [(.t 69),(.k 13),(.t 70)])] [4])
(.seq
(.reg [
.s 72 (.bld [(.int .i64 0),(.str []),(.sl 1 nz []),(.sl 4 nz [])] []),
.n (.st 4 (.t 4) (.t 72))] [4])
.ret))
.skip)))))
.skip))
(.seq
(.reg [
.s 73 (.m 0),
.s 74 (.m 6),
.s 75 (.m 5),
.s 76 (.call 118 [(.t 73),(.t 74),(.t 75)]),
.s 9 (.alL [(.int .i64 0),(.str []),(.sl 1 nz []),(.sl 4 nz [])]),
.n (.st 4 (.t 9) (.t 76))] [0,1,4,5,6,9])
(.seq
(.seq
(.reg [
.s 77 (.m 0),
.s 78 (.call 72 [(.t 77)]),
.s 79 (.un .not (.t 78))] [0,1,4,5,6,9,79])
(.cnd (.t 79)
(.seq
(.reg [
.s 80 (.bld [(.int .i64 0),(.str []),(.sl 1 nz []),(.sl 4 nz [])] []),
.n (.st 4 (.t 4) (.t 80))] [4])
.ret)
.skip))
(.seq
(.seq
(.reg [
.s 81 (.m 1),
.s 82 (.bin .gtr none (.t 81) (.k 64))] [0,1,4,5,6,9,82])
(.cnd (.t 82)
(.seq
(.reg [
.s 83 (.m 0),
.s 84 (.m 5),
.s 85 (.call 73 [(.t 83),(.k 4),(.t 84)])] [4])
(.seq
(.reg [
.s 86 (.bld [(.int .i64 0),(.str []),(.sl 1 nz []),(.sl 4 nz [])] []),
.n (.st 4 (.t 4) (.t 86))] [4])
.ret))
.skip))
(.seq
(.seq
(.reg [
.s 87 (.m 0),
.s 88 (.nilc (.t 87)),
.s 89 (.fa 4 (.t 88)),
.s 90 (.l 89),
.s 91 (.bin .eql (some .int) (.t 90) (.k 4096))] [0,1,4,5,6,9,91])
(.cnd (.t 91)
(.seq
(.reg [
.s 92 (.m 0),
.s 93 (.m 5),
.s 94 (.call 73 [(.t 92),(.k 3),(.t 93)])] [4])
(.seq
(.reg [
.s 95 (.bld [(.int .i64 0),(.str []),(.sl 1 nz []),(.sl 4 nz [])] []),
.n (.st 4 (.t 4) (.t 95))] [4])
.ret))
.skip))
(.seq
(.reg [
.s 96 (.m 0),
.s 97 (.nilc (.t 96)),
.s 98 (.fa 4 (.t 97)),
.s 99 (.l 98),
.s 100 (.bin .add none (.t 99) (.k 1)),
.s 101 (.nilc (.t 96)),
.s 102 (.fa 4 (.t 101)),
.n (.st 1 (.t 102) (.t 100))] [0,1,4,6,9])
(.seq
(.seq
(.reg [
.s 103 (.m 6)] [0,1,4,9,103])
(.blk 2
(.seq
(.reg [
.s 105 (.bin .eql (some .int) (.t 103) (.c (.int .u8 34))),
.s 104 (.m 105)] [0,1,4,9,103,104])
(.cnd (.t 104)
(.seq
(.reg [
.s 106 (.m 0),
.s 107 (.call 119 [(.t 106)]),
.s 108 (.bld [(.int .i64 0),(.str []),(.sl 1 nz []),(.sl 4 nz [])] [(0,1,(.k 4)),(1,1,(.t 107))]),
.n (.st 4 (.t 4) (.t 108))] [4])
.ret)
(.seq
(.reg [
.s 110 (.bin .eql (some .int) (.t 103) (.c (.int .u8 91))),
.s 109 (.m 110)] [0,1,4,9,103,109])
(.cnd (.t 109)
(.seq
(.reg [
.s 111 (.m 0),
.s 112 (.m 1),
.s 113 (.call 120 [(.t 111),(.t 112)]),
.n (.st 4 (.t 4) (.t 113))] [4])
.ret)
(.seq
(.reg [
.s 115 (.bin .eql (some .int) (.t 103) (.c (.int .u8 123))),
.s 114 (.m 115)] [0,1,4,9,114])
(.cnd (.t 114)
(.seq
(.reg [
.s 116 (.m 0),
.s 117 (.m 1),
.s 118 (.call 121 [(.t 116),(.t 117)]),
.n (.st 4 (.t 4) (.t 118))] [4])
.ret)
.skip))))))))
(.seq
(.reg [
.s 119 (.ld true 4 (.t 9)),
.n (.st 4 (.t 4) (.t 119))] [4])
.ret))))))))))))),
[.cell 4 true 4]⟩
/-- (*emend/emendref3.Reader).OK -/
def F72 : DF := ⟨1,
(.seq
(.reg [
.s 2 (.mv (.c (.bool false)))] [0])
(.seq
(.reg [
.s 3 (.m 0),
.s 4 (.nilc (.t 3)),
.s 5 (.fa 2 (.t 4)),
.s 6 (.fa 1 (.t 5)),
.s 7 (.l 6),
.s 8 (.bin .eql (some .int) (.t 7) (.k 0)),
.s 2 (.m 8)] [2])
.ret)),
[.tmp 2]⟩
/-- (*emend/emendref3.Reader).Fail -/
def F73 : DF := ⟨3,
(.seq
(.seq
(.reg [
.s 6 (.m 0),
.s 7 (.nilc (.t 6)),
.s 8 (.fa 2 (.t 7)),
.s 9 (.fa 1 (.t 8)),
.s 10 (.l 9),
.s 11 (.bin .neq (some .int) (.t 10) (.k 0))] [0,1,2,11])
(.cnd (.t 11)
.ret
.skip))
(.seq
(.seq
(.reg [
.s 12 (.m 1),
.s 13 (.bin .eql (some .int) (.t 12) (.k 13)),
.s 14 (.m 13),
.g 15 (.m 2) 14 true,
.g 16 (.m 0) 14 true,
.g 17 (.nilc (.t 16)) 14 true,
.g 18 (.fa 0 (.t 17)) 14 true,
.g 19 (.l 18) 14 true,
.g 20 (.lenS (.t 19)) 14 true,
.g 21 (.bin .geq none (.t 15) (.t 20)) 14 true,
.s 22 (.pick (.t 14) (.t 21) (.c (.bool false)))] [0,1,2,22])
(.cnd (.t 22)
(.seq
(.reg [
.s 1 (.mv (.k 14))] [0,1])
(.reg [
.s 23 (.m 0),
.s 24 (.nilc (.t 23)),
.s 25 (.fa 0 (.t 24)),
.s 26 (.l 25),
.s 27 (.lenS (.t 26)),
.s 2 (.m 27)] [0,1,2]))
.skip))
(.reg [
.s 28 (.m 0),
.s 29 (.m 2),
.s 30 (.m 1),
.s 31 (.bld [(.int .i64 0),(.int .i64 0)] [(0,1,(.t 29)),(1,1,(.t 30))]),
.s 32 (.nilc (.t 28)),
.s 33 (.fa 2 (.t 32)),
.n (.st 2 (.t 33) (.t 31))] []))),
[]⟩
/-- (emend/api.Place).Where -/
def F75 : DF := ⟨1,
(.seq
(.reg [
.s 1 (.bxL (.t 0)),
.s 2 (.mv (.k 0))] [1])
(.seq
(.reg [
.s 3 (.fa 0 (.t 1)),
.s 4 (.l 3),
.s 2 (.m 4)] [2])
.ret)),
[.tmp 2]⟩

/-- emend/num.Normal -/
def F81 : DF := ⟨1,
(.seq
(.reg [
.s 2 (.mv (.c (.str []))),
.s 3 (.mv (.k 0))] [0])
(.seq
(.reg [
.s 7 (.m 0),
.s 8 (.call 132 [(.t 7)]),
.s 6 (.m 8),
.s 9 (.ext (.t 6) 0),
.s 10 (.ext (.t 6) 1),
.s 4 (.alL [(.bool false),(.str []),(.int .i64 0)]),
.n (.st 3 (.t 4) (.t 9)),
.s 5 (.m 10)] [4,5])
(.seq
(.seq
(.reg [
.s 11 (.m 5),
.s 12 (.bin .neq (some .int) (.t 11) (.k 0))] [4,5,12])
(.cnd (.t 12)
(.seq
(.reg [
.s 13 (.m 5),
.s 2 (.mv (.c (.str []))),
.s 3 (.m 13)] [2,3])
.ret)
.skip))
(.seq
(.reg [
.s 14 (.ld true 3 (.t 4)),
.s 15 (.call 133 [(.t 14)]),
.s 16 (.ext (.t 15) 0),
.s 17 (.ext (.t 15) 1),
.s 2 (.m 16),
.s 3 (.m 17)] [2,3])
.ret)))),
[.tmp 2,.tmp 3]⟩
/-- emend/text.Valid -/
def F82 : DF := ⟨1,
(.seq
(.reg [
.s 2 (.mv (.c (.bool false)))] [0])
(.seq
(.reg [
.s 3 (.m 0),
.s 4 (.call 86 [(.t 3)]),
.s 5 (.bin .lss none (.t 4) (.k 0)),
.s 2 (.m 5)] [2])
.ret)),
[.tmp 2]⟩
/-- emend/tree.Time -/
def F83 : DF := ⟨1,
(.seq
(.reg [
.s 2 (.mv (.c (.bool false)))] [0])
(.seq
(.seq
(.reg [
.s 6 (.m 0),
.s 7 (.call 134 [(.t 6)]),
.s 8 (.m 7),
.g 9 (.m 0) 8 false,
.g 10 (.call 135 [(.t 9)]) 8 false,
.s 11 (.pick (.t 8) (.c (.bool true)) (.t 10))] [0,11])
(.cnd (.t 11)
(.seq
(.reg [
.s 2 (.mv (.c (.bool true)))] [2])
.ret)
.skip))
(.seq
(.reg [
.s 13 (.m 0),
.s 14 (.call 136 [(.t 13)]),
.s 12 (.m 14),
.s 15 (.ext (.t 12) 0),
.s 16 (.ext (.t 12) 1),
.s 0 (.m 15)] [0])
(.seq
(.reg [
.s 18 (.m 0),
.s 19 (.call 137 [(.t 18),(.c (.str [84]))]),
.s 17 (.m 19),
.s 20 (.ext (.t 17) 0),
.s 21 (.ext (.t 17) 1),
.s 22 (.ext (.t 17) 2),
.s 3 (.m 20),
.s 4 (.m 21),
.s 5 (.m 22)] [3,4,5])
(.seq
(.reg [
.s 23 (.m 5),
.s 24 (.m 23),
.g 25 (.m 3) 24 true,
.g 26 (.call 134 [(.t 25)]) 24 true,
.s 27 (.pick (.t 24) (.t 26) (.c (.bool false))),
.s 28 (.m 27),
.g 29 (.m 4) 28 true,
.g 30 (.call 135 [(.t 29)]) 28 true,
.s 31 (.pick (.t 28) (.t 30) (.c (.bool false))),
.s 2 (.m 31)] [2])
.ret))))),
[.tmp 2]⟩
/-- emend/tree.unlike -/
def F84 : DF := ⟨1,
(.seq
(.reg [
.s 2 (.mv (.c (.bool false)))] [0])
(.seq
(.reg [
.s 6 (.mkm),
.s 3 (.m 6)] [0,3])
(.seq
(.seq
(.reg [
.s 7 (.m 0),
.s 8 (.len (.t 7)),
.s 9 (.mv (.k 0))] [3,7,8,9])
(.blk 0
(.seq
(.trim [3,7,8,9])
(.lop
(.seq
(.seq
(.reg [
.s 10 (.bin .lss none (.t 9) (.t 8))] [3,7,8,9,10])
(.seq
(.cnd (.t 10)
.skip
(.exit 0))
(.seq
(.blk 1
(.seq
(.reg [
.s 11 (.ia 1 (.t 7) (.t 9)),
.s 12 (.l 11),
.s 5 (.m 12)] [3,5,7,8,9])
(.seq
(.reg [
.s 13 (.m 3),
.s 14 (.m 5),
.s 15 (.lkp .str (.int .i64 0) (.t 13) (.t 14) false),
.s 16 (.bin .add none (.t 15) (.k 1)),
.n (.mup .str (.t 13) (.t 14) (.t 16))] [3,5,7,8,9])
(.seq
(.reg [
.s 17 (.m 3),
.s 18 (.m 5),
.s 19 (.lkp .str (.int .i64 0) (.t 17) (.t 18) false),
.s 20 (.bin .gtr none (.t 19) (.k 1)),
.s 21 (.m 20),
.g 22 (.m 5) 21 false,
.g 23 (.call 82 [(.t 22)]) 21 false,
.g 24 (.un .not (.t 23)) 21 false,
.s 25 (.pick (.t 21) (.c (.bool true)) (.t 24))] [3,7,8,9,25])
(.cnd (.t 25)
(.seq
(.reg [
.s 2 (.mv (.c (.bool false)))] [2])
.ret)
.skip)))))
(.reg [
.s 26 (.bin .add none (.t 9) (.k 1)),
.s 9 (.m 26)] [3,7,8,9]))))
(.trim [3,7,8,9]))))))
(.seq
(.reg [
.s 2 (.mv (.c (.bool true)))] [2])
.ret)))),
[.tmp 2]⟩
/-- emend/text.Wrong -/
def F85 : DF := ⟨2,
(.seq
(.reg [
.s 4 (.mv (.c .nilp))] [0,1])
(.seq
(.reg [
.s 5 (.m 0),
.s 6 (.bld [(.int .i64 0)] [(0,1,(.t 5))]),
.s 7 (.m 1),
.s 8 (.bld [(.int .i64 0),(.int .i64 0)] [(0,1,(.t 6)),(1,1,(.t 7))]),
.s 9 (.bxH 111 (.t 8)),
.s 4 (.m 9)] [4])
.ret)),
[.tmp 4]⟩
/-- emend/text.Bad -/
def F86 : DF := ⟨1,
(.seq
(.reg [
.s 2 (.mv (.k 0))] [0])
(.seq
(.seq
(.reg [
.s 3 (.mv (.k 0))] [0,3])
(.blk 0
(.seq
(.trim [0,3])
(.lop
(.seq
(.seq
(.seq
(.reg [
.s 6 (.m 3),
.s 7 (.m 0),
.s 8 (.lenS (.t 7)),
.s 9 (.bin .lss none (.t 6) (.t 8))] [0,3,9])
(.cnd (.t 9)
.skip
(.exit 0)))
(.blk 1
(.seq
(.reg [
.s 11 (.m 0),
.s 12 (.m 3),
.s 13 (.slS (.t 11) (some (.t 12)) none),
.s 14 (.call 138 [(.t 13)]),
.s 10 (.m 14),
.s 15 (.ext (.t 10) 0),
.s 16 (.ext (.t 10) 1),
.s 4 (.m 15),
.s 5 (.m 16)] [0,3,5])
(.seq
(.seq
(.reg [
.s 17 (.m 5),
.s 18 (.bin .eql (some .int) (.t 17) (.k 0))] [0,3,5,18])
(.cnd (.t 18)
(.seq
(.reg [
.s 19 (.m 3),
.s 2 (.m 19)] [2])
.ret)
.skip))
(.reg [
.s 20 (.m 3),
.s 21 (.m 5),
.s 22 (.bin .add none (.t 20) (.t 21)),
.s 3 (.m 22)] [0,3])))))
(.trim [0,3]))))))
(.seq
(.reg [
.s 2 (.mv (.k (-1)))] [2])
.ret))),
[.tmp 2]⟩
/-- emend/tree.Read$1 -/
def F87 : DG := ⟨1,4,
[.s 1 (.m 4)],[0,1],
(.seq
(.reg [
.s 5 (.m 1),
.s 6 (.bin .eql (some .ifc) (.t 5) (.c .nilif))] [0,1,6])
(.seq
(.cnd (.t 6)
.ret
.skip)
(.seq
(.reg [
.s 8 (.m 1),
.s 9 (.tas true 105 .nilp (.t 8)),
.s 7 (.m 9),
.s 10 (.ext (.t 7) 0),
.s 11 (.ext (.t 7) 1),
.s 2 (.m 10),
.s 3 (.m 11)] [0,1,2,3])
(.seq
(.reg [
.s 12 (.m 3),
.s 13 (.un .not (.t 12))] [0,1,2,13])
(.seq
(.cnd (.t 13)
(.reg [
.s 14 (.m 1),
.n (.pnc (.t 14))] [0,2])
.skip)
(.seq
(.reg [
.s 15 (.m 2),
.s 16 (.mki 105 (.t 15)),
.n (.st 1 (.t 0) (.t 16))] [])
.skip))))))⟩
/-- (*emend/tree.Place).Row -/
def F88 : DF := ⟨2,
(.seq
(.reg [
.s 4 (.mv (.c (.str [])))] [0,1])
(.seq
(.reg [
.s 6 (.m 0),
.s 7 (.nilc (.t 6)),
.s 8 (.fa 1 (.t 7)),
.s 9 (.l 8),
.s 5 (.m 9)] [0,1,5])
(.seq
(.blk 0
(.seq
(.trim [0,1,5])
(.lop
(.seq
(.seq
(.seq
(.drw [
((.s 10 (.m 0),none),[]),
((.s 11 (.nilc (.t 10)),none),[]),
((.s 12 (.fa 1 (.t 11)),none),[]),
((.s 13 (.l 12),none),[]),
((.s 14 (.m 0),none),[]),
((.s 15 (.nilc (.t 14)),none),[]),
((.s 16 (.fa 0 (.t 15)),none),[]),
((.s 17 (.l 16),none),[]),
((.s 18 (.lenS (.t 17)),none),[]),
((.s 19 (.bin .lss none (.t 13) (.t 18)),none),[]),
((.s 20 (.m 19),none),[]),
((.g 21 (.m 1) 20 true,none),[]),
((.g 22 (.m 0) 20 true,none),[]),
((.g 23 (.nilc (.t 22)) 20 true,none),[]),
((.g 24 (.fa 0 (.t 23)) 20 true,none),[]),
((.g 25 (.l 24) 20 true,none),[]),
((.g 26 (.m 0) 20 true,none),[]),
((.g 27 (.nilc (.t 26)) 20 true,none),[]),
((.g 28 (.fa 1 (.t 27)) 20 true,none),[]),
((.g 29 (.l 28) 20 true,none),[]),
((.g 30 (.ixS (.t 25) (.t 29)) 20 true,none),[]),
((.g 31 (.callv (.t 21) [(.t 30)]) 20 true,none),[]),
((.s 32 (.pick (.t 20) (.t 31) (.c (.bool false))),none),[])] [0,1,5,32])
(.cnd (.t 32)
.skip
(.exit 0)))
(.blk 1
(.reg [
.s 33 (.m 0),
.s 34 (.nilc (.t 33)),
.s 35 (.fa 1 (.t 34)),
.s 36 (.l 35),
.s 37 (.bin .add none (.t 36) (.k 1)),
.s 38 (.nilc (.t 33)),
.s 39 (.fa 1 (.t 38)),
.n (.st 1 (.t 39) (.t 37))] [0,1,5])))
(.trim [0,1,5])))))
(.seq
(.drw [
((.s 40 (.m 0),none),[]),
((.s 41 (.nilc (.t 40)),none),[]),
((.s 42 (.fa 0 (.t 41)),none),[]),
((.s 43 (.l 42),none),[]),
((.s 44 (.m 5),none),[]),
((.s 45 (.m 0),none),[]),
((.s 46 (.nilc (.t 45)),none),[]),
((.s 47 (.fa 1 (.t 46)),none),[]),
((.s 48 (.l 47),none),[]),
((.s 49 (.slS (.t 43) (some (.t 44)) (some (.t 48))),none),[]),
((.s 4 (.m 49),none),[])] [4])
.ret)))),
[.tmp 4]⟩
/-- emend/tree.Blank -/
def F89 : DF := ⟨1,
(.seq
(.reg [
.s 2 (.mv (.c (.bool false)))] [0])
(.seq
(.reg [
.s 3 (.m 0),
.s 4 (.bin .eql (some .int) (.t 3) (.c (.int .u8 9))),
.s 5 (.m 4),
.g 6 (.m 0) 5 false,
.g 7 (.bin .eql (some .int) (.t 6) (.c (.int .u8 10))) 5 false,
.s 8 (.pick (.t 5) (.c (.bool true)) (.t 7)),
.s 9 (.m 8),
.g 10 (.m 0) 9 false,
.g 11 (.bin .eql (some .int) (.t 10) (.c (.int .u8 13))) 9 false,
.s 12 (.pick (.t 9) (.c (.bool true)) (.t 11)),
.s 13 (.m 12),
.g 14 (.m 0) 13 false,
.g 15 (.bin .eql (some .int) (.t 14) (.c (.int .u8 32))) 13 false,
.s 16 (.pick (.t 13) (.c (.bool true)) (.t 15)),
.s 2 (.m 16)] [2])
.ret)),
[.tmp 2]⟩
/-- (*emend/tree.Place).Is -/
def F90 : DF := ⟨2,
(.seq
(.reg [
.s 4 (.mv (.c (.bool false)))] [0,1])
(.seq
(.drw [
((.s 5 (.m 0),none),[]),
((.s 6 (.nilc (.t 5)),none),[]),
((.s 7 (.fa 1 (.t 6)),none),[]),
((.s 8 (.l 7),none),[]),
((.s 9 (.m 0),none),[]),
((.s 10 (.nilc (.t 9)),none),[]),
((.s 11 (.fa 0 (.t 10)),none),[]),
((.s 12 (.l 11),none),[]),
((.s 13 (.lenS (.t 12)),none),[]),
((.s 14 (.bin .lss none (.t 8) (.t 13)),none),[]),
((.s 15 (.m 14),none),[]),
((.g 16 (.m 0) 15 true,none),[]),
((.g 17 (.nilc (.t 16)) 15 true,none),[]),
((.g 18 (.fa 0 (.t 17)) 15 true,none),[]),
((.g 19 (.l 18) 15 true,none),[]),
((.g 20 (.m 0) 15 true,none),[]),
((.g 21 (.nilc (.t 20)) 15 true,none),[]),
((.g 22 (.fa 1 (.t 21)) 15 true,none),[]),
((.g 23 (.l 22) 15 true,none),[]),
((.g 24 (.ixS (.t 19) (.t 23)) 15 true,none),[]),
((.g 25 (.m 1) 15 true,none),[]),
((.g 26 (.bin .eql (some .int) (.t 24) (.t 25)) 15 true,none),[]),
((.s 27 (.pick (.t 15) (.t 26) (.c (.bool false))),none),[]),
((.s 4 (.m 27),none),[])] [4])
.ret)),
[.tmp 4]⟩
/-- (*emend/tree.Place).Node -/
def F91 : DF := ⟨4,
(.seq
(.seq
(.reg [
.s 8 (.m 2),
.s 9 (.bin .gtr none (.t 8) (.k 64))] [0,1,3,9])
(.cnd (.t 9)
(.reg [
.s 10 (.m 1),
.s 11 (.call 97 [(.t 10),(.k 4)])] [0,1,3])
.skip))
(.seq
(.reg [
.s 12 (.m 0),
.s 13 (.nilc (.t 12)),
.s 14 (.fa 2 (.t 13)),
.s 15 (.l 14),
.s 16 (.m 3),
.s 17 (.bin .add none (.t 15) (.t 16)),
.s 18 (.nilc (.t 12)),
.s 19 (.fa 2 (.t 18)),
.n (.st 1 (.t 19) (.t 17))] [0,1])
(.seq
(.reg [
.s 20 (.m 0),
.s 21 (.nilc (.t 20)),
.s 22 (.fa 2 (.t 21)),
.s 23 (.l 22),
.s 24 (.bin .gtr none (.t 23) (.k 4096))] [1,24])
(.cnd (.t 24)
(.reg [
.s 25 (.m 1),
.s 26 (.call 97 [(.t 25),(.k 3)])] [])
.skip)))),
[]⟩
/-- (*emend/tree.Place).Quoted -/
def F92 : DF := ⟨1,
(.seq
(.reg [
.s 2 (.mv (.c (.str [])))] [0])
(.seq
(.drw [
((.s 7 (.m 0),none),[]),
((.s 8 (.nilc (.t 7)),none),[]),
((.s 9 (.fa 0 (.t 8)),none),[]),
((.s 10 (.l 9),none),[]),
((.s 11 (.m 0),none),[]),
((.s 12 (.nilc (.t 11)),none),[]),
((.s 13 (.fa 1 (.t 12)),none),[]),
((.s 14 (.l 13),none),[]),
((.s 15 (.slS (.t 10) (some (.t 14)) none),none),[]),
((.s 16 (.call 139 [(.t 15)]),none),[]),
((.s 6 (.m 16),none),[]),
((.s 17 (.ext (.t 6) 0),none),[]),
((.s 18 (.ext (.t 6) 1),none),[]),
((.s 19 (.ext (.t 6) 2),none),[]),
((.s 3 (.m 17),none),[]),
((.s 4 (.m 18),none),[]),
((.s 5 (.m 19),none),[])] [0,3,4,5])
(.seq
(.seq
(.reg [
.s 20 (.m 5),
.s 21 (.bin .neq (some .ptr) (.t 20) (.c .nilp))] [0,3,4,5,21])
(.cnd (.t 21)
(.drw [
((.s 22 (.m 0),none),[]),
((.s 23 (.nilc (.t 22)),none),[]),
((.s 24 (.fa 1 (.t 23)),none),[]),
((.s 25 (.l 24),none),[]),
((.s 26 (.m 5),none),[]),
((.s 27 (.nilc (.t 26)),none),[]),
((.s 28 (.fa 0 (.t 27)),none),[]),
((.s 29 (.fa 0 (.t 28)),none),[]),
((.s 30 (.l 29),none),[]),
((.s 31 (.bin .add none (.t 25) (.t 30)),none),[]),
((.s 32 (.m 5),none),[]),
((.s 33 (.nilc (.t 32)),none),[]),
((.s 34 (.fa 1 (.t 33)),none),[]),
((.s 35 (.l 34),none),[]),
((.s 36 (.call 97 [(.t 31),(.t 35)]),none),[])] [0,3,4])
.skip))
(.seq
(.reg [
.s 37 (.m 0),
.s 38 (.nilc (.t 37)),
.s 39 (.fa 1 (.t 38)),
.s 40 (.l 39),
.s 41 (.m 4),
.s 42 (.bin .add none (.t 40) (.t 41)),
.s 43 (.nilc (.t 37)),
.s 44 (.fa 1 (.t 43)),
.n (.st 1 (.t 44) (.t 42))] [3])
(.seq
(.reg [
.s 45 (.m 3),
.s 2 (.m 45)] [2])
.ret))))),
[.tmp 2]⟩
/-- (emend/tree.parser).list -/
def F93 : DF := ⟨2,
(.seq
(.reg [
.s 2 (.bxL (.t 0)),
.s 4 (.alL [(.int .i64 0),(.str []),(.sl 1 nz []),(.sl 4 nz [])])] [1,2,4])
(.seq
(.reg [
.s 6 (.bld [(.int .i64 0),(.str []),(.sl 1 nz []),(.sl 4 nz [])] [(0,1,(.k 6))]),
.s 5 (.alL [(.int .i64 0),(.str []),(.sl 1 nz []),(.sl 4 nz [])]),
.n (.st 4 (.t 5) (.t 6))] [1,2,4,5])
(.seq
(.reg [
.s 7 (.fa 0 (.t 2)),
.s 8 (.l 7),
.s 9 (.call 140 [(.t 8),(.c (.int .u8 91))])] [1,2,4,5])
(.seq
(.seq
(.reg [
.s 10 (.ld true 1 (.t 2)),
.s 11 (.call 53 [(.t 10)])] [1,2,4,5])
(.seq
(.reg [
.s 12 (.fa 0 (.t 2)),
.s 13 (.l 12),
.s 14 (.call 90 [(.t 13),(.c (.int .u8 93))])] [1,2,4,5,14])
(.cnd (.t 14)
(.seq
(.reg [
.s 15 (.fa 0 (.t 2)),
.s 16 (.l 15),
.s 17 (.nilc (.t 16)),
.s 18 (.fa 1 (.t 17)),
.s 19 (.l 18),
.s 20 (.bin .add none (.t 19) (.k 1)),
.s 21 (.nilc (.t 16)),
.s 22 (.fa 1 (.t 21)),
.n (.st 1 (.t 22) (.t 20))] [4,5])
(.seq
(.reg [
.s 23 (.ld true 4 (.t 5)),
.n (.st 4 (.t 4) (.t 23))] [4])
.ret))
.skip)))
(.blk 0
(.seq
(.trim [1,2,4,5])
(.lop
(.seq
(.blk 1
(.seq
(.reg [
.s 24 (.ld true 1 (.t 2)),
.s 25 (.call 53 [(.t 24)])] [1,2,4,5])
(.seq
(.drw [
((.s 26 (.fa 3 (.t 5)),(some 5)),[]),
((.s 27 (.l 26),(some 5)),[]),
((.s 28 (.ld true 1 (.t 2)),(some 2)),[]),
((.s 29 (.m 1),none),[]),
((.s 30 (.bin .add none (.t 29) (.k 1)),none),[]),
((.s 31 (.call 54 [(.t 28),(.t 30)]),none),[]),
((.s 32 (.bldS 4 1 (.agg [(.int .i64 0),(.str []),(.sl 1 nz []),(.sl 4 nz [])]) [(0,(.t 31))]),none),[]),
((.s 33 (.app true 25 4 72 (.t 27) (.t 32)),none),[]),
((.s 34 (.fa 3 (.t 5)),(some 5)),[]),
((.n (.st 1 (.t 34) (.t 33)),(some 5)),[])] [1,2,4,5])
(.seq
(.reg [
.s 35 (.ld true 1 (.t 2)),
.s 36 (.call 53 [(.t 35)])] [1,2,4,5])
(.seq
(.seq
(.reg [
.s 37 (.fa 0 (.t 2)),
.s 38 (.l 37),
.s 39 (.call 90 [(.t 38),(.c (.int .u8 44))]),
.s 40 (.un .not (.t 39))] [1,2,4,5,40])
(.cnd (.t 40)
(.seq
(.reg [
.s 41 (.fa 0 (.t 2)),
.s 42 (.l 41),
.s 43 (.call 140 [(.t 42),(.c (.int .u8 93))])] [4,5])
(.seq
(.reg [
.s 44 (.ld true 4 (.t 5)),
.n (.st 4 (.t 4) (.t 44))] [4])
.ret))
.skip))
(.reg [
.s 45 (.fa 0 (.t 2)),
.s 46 (.l 45),
.s 47 (.nilc (.t 46)),
.s 48 (.fa 1 (.t 47)),
.s 49 (.l 48),
.s 50 (.bin .add none (.t 49) (.k 1)),
.s 51 (.nilc (.t 46)),
.s 52 (.fa 1 (.t 51)),
.n (.st 1 (.t 52) (.t 50))] [1,2,4,5]))))))
(.trim [1,2,4,5]))))))))),
[.cell 4 true 4]⟩
/-- (emend/tree.parser).record -/
def F94 : DF := ⟨2,
(.seq
(.reg [
.s 2 (.bxL (.t 0)),
.s 4 (.alL [(.int .i64 0),(.str []),(.sl 1 nz []),(.sl 4 nz [])])] [1,2,4])
(.seq
(.reg [
.s 9 (.bld [(.int .i64 0),(.str []),(.sl 1 nz []),(.sl 4 nz [])] [(0,1,(.k 7))]),
.s 5 (.alL [(.int .i64 0),(.str []),(.sl 1 nz []),(.sl 4 nz [])]),
.n (.st 4 (.t 5) (.t 9))] [1,2,4,5])
(.seq
(.reg [
.s 10 (.mkm),
.s 6 (.m 10)] [1,2,4,5,6])
(.seq
(.reg [
.s 11 (.fa 0 (.t 2)),
.s 12 (.l 11),
.s 13 (.call 140 [(.t 12),(.c (.int .u8 123))])] [1,2,4,5,6])
(.seq
(.seq
(.reg [
.s 14 (.ld true 1 (.t 2)),
.s 15 (.call 53 [(.t 14)])] [1,2,4,5,6])
(.seq
(.reg [
.s 16 (.fa 0 (.t 2)),
.s 17 (.l 16),
.s 18 (.call 90 [(.t 17),(.c (.int .u8 125))])] [1,2,4,5,6,18])
(.cnd (.t 18)
(.seq
(.reg [
.s 19 (.fa 0 (.t 2)),
.s 20 (.l 19),
.s 21 (.nilc (.t 20)),
.s 22 (.fa 1 (.t 21)),
.s 23 (.l 22),
.s 24 (.bin .add none (.t 23) (.k 1)),
.s 25 (.nilc (.t 20)),
.s 26 (.fa 1 (.t 25)),
.n (.st 1 (.t 26) (.t 24))] [4,5])
(.seq
(.reg [
.s 27 (.ld true 4 (.t 5)),
.n (.st 4 (.t 4) (.t 27))] [4])
.ret))
.skip)))
(.blk 0
(.seq
(.trim [1,2,4,5,6])
(.lop
(.seq
(.blk 1
(.seq
(.reg [
.s 28 (.ld true 1 (.t 2)),
.s 29 (.call 53 [(.t 28)])] [1,2,4,5,6])
(.seq
(.reg [
.s 30 (.fa 0 (.t 2)),
.s 31 (.l 30),
.s 32 (.nilc (.t 31)),
.s 33 (.fa 1 (.t 32)),
.s 34 (.l 33),
.s 7 (.m 34)] [1,2,4,5,6,7])
(.seq
(.seq
(.reg [
.s 35 (.fa 0 (.t 2)),
.s 36 (.l 35),
.s 37 (.call 90 [(.t 36),(.c (.int .u8 34))]),
.s 38 (.un .not (.t 37))] [1,2,4,5,6,7,38])
(.cnd (.t 38)
(.reg [
.s 39 (.fa 0 (.t 2)),
.s 40 (.l 39),
.s 41 (.call 55 [(.t 40)])] [1,2,4,5,6,7])
.skip))
(.seq
(.reg [
.s 42 (.fa 0 (.t 2)),
.s 43 (.l 42),
.s 44 (.call 92 [(.t 43)]),
.s 8 (.m 44)] [1,2,4,5,6,7,8])
(.seq
(.seq
(.reg [
.s 45 (.m 6),
.s 46 (.m 8),
.s 47 (.lkp .str (.int .i64 0) (.t 45) (.t 46) false),
.s 48 (.bin .add none (.t 47) (.k 1)),
.n (.mup .str (.t 45) (.t 46) (.t 48))] [1,2,4,5,6,7,8])
(.seq
(.reg [
.s 49 (.m 6),
.s 50 (.m 8),
.s 51 (.lkp .str (.int .i64 0) (.t 49) (.t 50) false),
.s 52 (.bin .gtr none (.t 51) (.k 1))] [1,2,4,5,6,7,8,52])
(.cnd (.t 52)
(.reg [
.s 53 (.m 7),
.s 54 (.call 97 [(.t 53),(.k 15)])] [1,2,4,5,6,8])
.skip)))
(.seq
(.reg [
.s 55 (.ld true 1 (.t 2)),
.s 56 (.call 53 [(.t 55)])] [1,2,4,5,6,8])
(.seq
(.reg [
.s 57 (.fa 0 (.t 2)),
.s 58 (.l 57),
.s 59 (.call 140 [(.t 58),(.c (.int .u8 58))])] [1,2,4,5,6,8])
(.seq
(.reg [
.s 60 (.ld true 1 (.t 2)),
.s 61 (.call 53 [(.t 60)])] [1,2,4,5,6,8])
(.seq
(.reg [
.s 62 (.fa 2 (.t 5)),
.s 63 (.l 62),
.s 64 (.m 8),
.s 65 (.bldT 9 1 1 (.str []) [(0,(.t 64))]),
.s 66 (.app false 9 1 16 (.t 63) (.t 65)),
.s 67 (.fa 2 (.t 5)),
.n (.st 1 (.t 67) (.t 66))] [1,2,4,5,6])
(.seq
(.drw [
((.s 68 (.fa 3 (.t 5)),(some 5)),[]),
((.s 69 (.l 68),(some 5)),[]),
((.s 70 (.ld true 1 (.t 2)),(some 2)),[]),
((.s 71 (.m 1),none),[]),
((.s 72 (.bin .add none (.t 71) (.k 1)),none),[]),
((.s 73 (.call 54 [(.t 70),(.t 72)]),none),[]),
((.s 74 (.bldS 4 1 (.agg [(.int .i64 0),(.str []),(.sl 1 nz []),(.sl 4 nz [])]) [(0,(.t 73))]),none),[]),
((.s 75 (.app true 25 4 72 (.t 69) (.t 74)),none),[]),
((.s 76 (.fa 3 (.t 5)),(some 5)),[]),
((.n (.st 1 (.t 76) (.t 75)),(some 5)),[])] [1,2,4,5,6])
(.seq
(.reg [
.s 77 (.ld true 1 (.t 2)),
.s 78 (.call 53 [(.t 77)])] [1,2,4,5,6])
(.seq
(.seq
(.reg [
.s 79 (.fa 0 (.t 2)),
.s 80 (.l 79),
.s 81 (.call 90 [(.t 80),(.c (.int .u8 44))]),
.s 82 (.un .not (.t 81))] [1,2,4,5,6,82])
(.cnd (.t 82)
(.seq
(.reg [
.s 83 (.fa 0 (.t 2)),
.s 84 (.l 83),
.s 85 (.call 140 [(.t 84),(.c (.int .u8 125))])] [4,5])
(.seq
(.reg [
.s 86 (.ld true 4 (.t 5)),
.n (.st 4 (.t 4) (.t 86))] [4])
.ret))
.skip))
(.reg [
.s 87 (.fa 0 (.t 2)),
.s 88 (.l 87),
.s 89 (.nilc (.t 88)),
.s 90 (.fa 1 (.t 89)),
.s 91 (.l 90),
.s 92 (.bin .add none (.t 91) (.k 1)),
.s 93 (.nilc (.t 88)),
.s 94 (.fa 1 (.t 93)),
.n (.st 1 (.t 94) (.t 92))] [1,2,4,5,6]))))))))))))))
(.trim [1,2,4,5,6])))))))))),
[.cell 4 true 4]⟩
/-- (emend/tree.parser).tree$1 -/
def F95 : DF := ⟨1,
(.seq
(.reg [
.s 2 (.mv (.c (.bool false)))] [0])
(.seq
(.reg [
.s 3 (.m 0),
.s 4 (.call 96 [(.t 3)]),
.s 5 (.m 4),
.g 6 (.m 0) 5 false,
.g 7 (.bin .eql (some .int) (.t 6) (.c (.int .u8 58))) 5 false,
.s 8 (.pick (.t 5) (.c (.bool true)) (.t 7)),
.s 2 (.m 8)] [2])
.ret)),
[.tmp 2]⟩
/-- emend/tree.InNumber -/
def F96 : DF := ⟨1,
(.seq
(.reg [
.s 2 (.mv (.c (.bool false)))] [0])
(.seq
(.reg [
.s 3 (.m 0),
.s 4 (.call 141 [(.t 3)]),
.s 5 (.m 4),
.g 6 (.m 0) 5 false,
.g 7 (.call 142 [(.t 6)]) 5 false,
.s 8 (.pick (.t 5) (.c (.bool true)) (.t 7)),
.s 9 (.m 8),
.g 10 (.m 0) 9 false,
.g 11 (.bin .eql (some .int) (.t 10) (.c (.int .u8 43))) 9 false,
.s 12 (.pick (.t 9) (.c (.bool true)) (.t 11)),
.s 13 (.m 12),
.g 14 (.m 0) 13 false,
.g 15 (.bin .eql (some .int) (.t 14) (.c (.int .u8 45))) 13 false,
.s 16 (.pick (.t 13) (.c (.bool true)) (.t 15)),
.s 17 (.m 16),
.g 18 (.m 0) 17 false,
.g 19 (.bin .eql (some .int) (.t 18) (.c (.int .u8 46))) 17 false,
.s 20 (.pick (.t 17) (.c (.bool true)) (.t 19)),
.s 2 (.m 20)] [2])
.ret)),
[.tmp 2]⟩
/-- emend/tree.Fail -/
def F97 : DF := ⟨2,
(.reg [
.s 4 (.m 0),
.s 5 (.m 1),
.s 6 (.call 85 [(.t 4),(.t 5)]),
.s 7 (.mki 105 (.t 6)),
.n (.pnc (.t 7))] []),
[]⟩
/-- (*emend/tree.Place).Scalar -/
def F98 : DF := ⟨1,
(.seq
(.reg [
.s 2 (.alL [(.int .i64 0),(.str []),(.sl 1 nz []),(.sl 4 nz [])])] [0,2])
(.seq
(.reg [
.s 7 (.m 0),
.s 8 (.nilc (.t 7)),
.s 9 (.fa 1 (.t 8)),
.s 10 (.l 9),
.s 3 (.m 10)] [0,2,3])
(.seq
(.blk 0
(.seq
(.drw [
((.s 12 (.m 0),none),[]),
((.s 13 (.nilc (.t 12)),none),[]),
((.s 14 (.fa 1 (.t 13)),none),[]),
((.s 15 (.l 14),none),[]),
((.s 16 (.m 0),none),[]),
((.s 17 (.nilc (.t 16)),none),[]),
((.s 18 (.fa 0 (.t 17)),none),[]),
((.s 19 (.l 18),none),[]),
((.s 20 (.lenS (.t 19)),none),[]),
((.s 21 (.bin .lss none (.t 15) (.t 20)),none),[]),
((.s 22 (.m 21),none),[]),
((.g 23 (.m 0) 22 true,none),[]),
((.g 24 (.nilc (.t 23)) 22 true,none),[]),
((.g 25 (.fa 0 (.t 24)) 22 true,none),[]),
((.g 26 (.l 25) 22 true,none),[]),
((.g 27 (.m 0) 22 true,none),[]),
((.g 28 (.nilc (.t 27)) 22 true,none),[]),
((.g 29 (.fa 1 (.t 28)) 22 true,none),[]),
((.g 30 (.l 29) 22 true,none),[]),
((.g 31 (.ixS (.t 26) (.t 30)) 22 true,none),[]),
((.g 32 (.call 141 [(.t 31)]) 22 true,none),[]),
((.g 33 (.m 32) 22 true,none),[]),
((.g 34 (.m 0) 33 false,none),[]),
((.g 35 (.nilc (.t 34)) 33 false,none),[]),
((.g 36 (.fa 0 (.t 35)) 33 false,none),[]),
((.g 37 (.l 36) 33 false,none),[]),
((.g 38 (.m 0) 33 false,none),[]),
((.g 39 (.nilc (.t 38)) 33 false,none),[]),
((.g 40 (.fa 1 (.t 39)) 33 false,none),[]),
((.g 41 (.l 40) 33 false,none),[]),
((.g 42 (.ixS (.t 37) (.t 41)) 33 false,none),[]),
((.g 43 (.bin .eql (some .int) (.t 42) (.c (.int .u8 45))) 33 false,none),[]),
((.g 44 (.pick (.t 33) (.c (.bool true)) (.t 43)) 22 true,none),[]),
((.s 45 (.pick (.t 22) (.t 44) (.c (.bool false))),none),[]),
((.s 11 (.m 45),none),[])] [0,2,3,11])
(.cnd (.t 11)
(.seq
(.reg [
.s 47 (.m 0),
.s 48 (.call 88 [(.t 47),(.f 96)]),
.s 49 (.call 81 [(.t 48)]),
.s 46 (.m 49),
.s 50 (.ext (.t 46) 0),
.s 51 (.ext (.t 46) 1),
.s 4 (.m 50),
.s 5 (.m 51)] [2,3,4,5])
(.seq
(.seq
(.reg [
.s 52 (.m 5),
.s 53 (.bin .neq (some .int) (.t 52) (.k 0))] [2,3,4,5,53])
(.cnd (.t 53)
(.reg [
.s 54 (.m 3),
.s 55 (.m 5),
.s 56 (.call 97 [(.t 54),(.t 55)])] [2,4])
.skip))
(.seq
(.reg [
.s 57 (.m 4),
.s 58 (.bld [(.int .i64 0),(.str []),(.sl 1 nz []),(.sl 4 nz [])] [(0,1,(.k 3)),(1,1,(.t 57))]),
.n (.st 4 (.t 2) (.t 58))] [2])
.ret)))
(.seq
(.drw [
((.s 60 (.m 0),none),[]),
((.s 61 (.nilc (.t 60)),none),[]),
((.s 62 (.fa 1 (.t 61)),none),[]),
((.s 63 (.l 62),none),[]),
((.s 64 (.m 0),none),[]),
((.s 65 (.nilc (.t 64)),none),[]),
((.s 66 (.fa 0 (.t 65)),none),[]),
((.s 67 (.l 66),none),[]),
((.s 68 (.lenS (.t 67)),none),[]),
((.s 69 (.bin .lss none (.t 63) (.t 68)),none),[]),
((.s 70 (.m 69),none),[]),
((.g 71 (.m 0) 70 true,none),[]),
((.g 72 (.nilc (.t 71)) 70 true,none),[]),
((.g 73 (.fa 0 (.t 72)) 70 true,none),[]),
((.g 74 (.l 73) 70 true,none),[]),
((.g 75 (.m 0) 70 true,none),[]),
((.g 76 (.nilc (.t 75)) 70 true,none),[]),
((.g 77 (.fa 1 (.t 76)) 70 true,none),[]),
((.g 78 (.l 77) 70 true,none),[]),
((.g 79 (.ixS (.t 74) (.t 78)) 70 true,none),[]),
((.g 80 (.call 142 [(.t 79)]) 70 true,none),[]),
((.s 81 (.pick (.t 70) (.t 80) (.c (.bool false))),none),[]),
((.s 59 (.m 81),none),[])] [0,2,3,59])
(.cnd (.t 59)
(.seq
(.seq
(.reg [
.s 82 (.m 0),
.s 83 (.call 88 [(.t 82),(.f 142)]),
.s 6 (.m 83)] [0,2,3,6])
(.seq
(.reg [
.s 84 (.m 6)] [0,2,3,6,84])
(.blk 1
(.seq
(.reg [
.s 86 (.bin .eql (some .str) (.t 84) (.c (.str [110,117,108,108]))),
.s 85 (.m 86)] [0,2,3,6,84,85])
(.cnd (.t 85)
(.seq
(.reg [
.s 87 (.bld [(.int .i64 0),(.str []),(.sl 1 nz []),(.sl 4 nz [])] [(0,1,(.k 1))]),
.n (.st 4 (.t 2) (.t 87))] [2])
.ret)
(.seq
(.seq
(.reg [
.s 89 (.bin .eql (some .str) (.t 84) (.c (.str [116,114,117,101]))),
.s 88 (.m 89)] [0,2,3,6,84,88])
(.cnd (.t 88)
.skip
(.reg [
.s 90 (.bin .eql (some .str) (.t 84) (.c (.str [102,97,108,115,101]))),
.s 88 (.m 90)] [0,2,3,6,88])))
(.cnd (.t 88)
(.seq
(.reg [
.s 91 (.m 6),
.s 92 (.bld [(.int .i64 0),(.str []),(.sl 1 nz []),(.sl 4 nz [])] [(0,1,(.k 2)),(1,1,(.t 91))]),
.n (.st 4 (.t 2) (.t 92))] [2])
.ret)
.skip)))))))
(.reg [
.s 93 (.m 3),
.s 94 (.call 97 [(.t 93),(.k 13)])] [0,2]))
.skip)))))
(.seq
(.reg [
.s 95 (.m 0),
.s 96 (.call 55 [(.t 95)])] [2])
(.seq
(.reg [
.s 97 (.bld [(.int .i64 0),(.str []),(.sl 1 nz []),(.sl 4 nz [])] []),
.n (.st 4 (.t 2) (.t 97))] [2])
.ret))))),
[.cell 2 true 4]⟩
/-- slices.Index[[]string,string] -/
def F99 : DF := ⟨2,
(.seq
(.reg [
.s 4 (.mv (.k 0))] [0,1])
(.seq
(.seq
(.reg [
.s 6 (.m 0),
.s 7 (.len (.t 6)),
.s 8 (.mv (.k 0))] [0,1,7,8])
(.blk 0
(.seq
(.trim [0,1,7,8])
(.lop
(.seq
(.seq
(.reg [
.s 9 (.bin .lss none (.t 8) (.t 7))] [0,1,7,8,9])
(.seq
(.cnd (.t 9)
.skip
(.exit 0))
(.seq
(.blk 1
(.seq
(.reg [
.s 10 (.m 8),
.s 5 (.m 10)] [0,1,5,7,8])
(.seq
(.reg [
.s 11 (.m 1),
.s 12 (.m 0),
.s 13 (.m 5),
.s 14 (.ia 1 (.t 12) (.t 13)),
.s 15 (.l 14),
.s 16 (.bin .eql (some .str) (.t 11) (.t 15))] [0,1,5,7,8,16])
(.cnd (.t 16)
(.seq
(.reg [
.s 17 (.m 5),
.s 4 (.m 17)] [4])
.ret)
.skip))))
(.reg [
.s 18 (.bin .add none (.t 8) (.k 1)),
.s 8 (.m 18)] [0,1,7,8]))))
(.trim [0,1,7,8]))))))
(.seq
(.reg [
.s 4 (.mv (.k (-1)))] [4])
.ret))),
[.tmp 4]⟩

/-- emend/emendref2.Split -/
def F106 : DF := ⟨1,
(.seq
(.reg [
.s 2 (.alL [(.bool false),(.str []),(.int .i64 0)]),
.s 3 (.mv (.k 0))] [0,2])
(.seq
(.reg [
.s 4 (.mv (.k 0))] [0,2,4])
(.seq
(.seq
(.reg [
.s 15 (.m 4),
.s 16 (.m 0),
.s 17 (.lenS (.t 16)),
.s 18 (.bin .lss none (.t 15) (.t 17)),
.s 19 (.m 18),
.g 20 (.m 0) 19 true,
.g 21 (.m 4) 19 true,
.g 22 (.ixS (.t 20) (.t 21)) 19 true,
.g 23 (.bin .eql (some .int) (.t 22) (.c (.int .u8 45))) 19 true,
.s 24 (.pick (.t 19) (.t 23) (.c (.bool false)))] [0,2,4,24])
(.cnd (.t 24)
(.reg [
.s 25 (.m 4),
.s 26 (.bin .add none (.t 25) (.k 1)),
.s 4 (.m 26)] [0,2,4])
.skip))
(.seq
(.reg [
.s 27 (.m 0),
.s 28 (.m 4),
.s 29 (.call 146 [(.t 27),(.t 28)]),
.s 5 (.m 29)] [0,2,4,5])
(.seq
(.seq
(.reg [
.s 30 (.m 5),
.s 31 (.m 4),
.s 32 (.bin .eql (some .int) (.t 30) (.t 31)),
.s 33 (.m 32),
.g 34 (.m 0) 33 false,
.g 35 (.m 4) 33 false,
.g 36 (.ixS (.t 34) (.t 35)) 33 false,
.g 37 (.bin .eql (some .int) (.t 36) (.c (.int .u8 48))) 33 false,
.g 38 (.m 37) 33 false,
.g 39 (.m 5) 38 true,
.g 40 (.m 4) 38 true,
.g 41 (.bin .add none (.t 40) (.k 1)) 38 true,
.g 42 (.bin .gtr none (.t 39) (.t 41)) 38 true,
.g 43 (.pick (.t 38) (.t 42) (.c (.bool false))) 33 false,
.s 44 (.pick (.t 33) (.c (.bool true)) (.t 43))] [0,2,4,5,44])
(.cnd (.t 44)
(.seq
(.reg [
.s 45 (.bld [(.bool false),(.str []),(.int .i64 0)] []),
.n (.st 3 (.t 2) (.t 45)),
.s 3 (.mv (.k 12))] [2,3])
.ret)
.skip))
(.seq
(.reg [
.s 46 (.m 0),
.s 47 (.m 4),
.s 48 (.m 5),
.s 49 (.slS (.t 46) (some (.t 47)) (some (.t 48))),
.s 6 (.m 49)] [0,2,5,6])
(.seq
(.reg [
.s 7 (.mv (.c (.str [])))] [0,2,5,6,7])
(.seq
(.seq
(.reg [
.s 50 (.m 5),
.s 51 (.m 0),
.s 52 (.lenS (.t 51)),
.s 53 (.bin .lss none (.t 50) (.t 52)),
.s 54 (.m 53),
.g 55 (.m 0) 54 true,
.g 56 (.m 5) 54 true,
.g 57 (.ixS (.t 55) (.t 56)) 54 true,
.g 58 (.bin .eql (some .int) (.t 57) (.c (.int .u8 46))) 54 true,
.s 59 (.pick (.t 54) (.t 58) (.c (.bool false)))] [0,2,5,6,7,59])
(.cnd (.t 59)
(.seq
(.reg [
.s 60 (.m 0),
.s 61 (.m 5),
.s 62 (.bin .add none (.t 61) (.k 1)),
.s 63 (.call 146 [(.t 60),(.t 62)]),
.s 8 (.m 63)] [0,2,5,6,8])
(.seq
(.seq
(.reg [
.s 64 (.m 8),
.s 65 (.m 5),
.s 66 (.bin .add none (.t 65) (.k 1)),
.s 67 (.bin .eql (some .int) (.t 64) (.t 66))] [0,2,5,6,8,67])
(.cnd (.t 67)
(.seq
(.reg [
.s 68 (.bld [(.bool false),(.str []),(.int .i64 0)] []),
.n (.st 3 (.t 2) (.t 68)),
.s 3 (.mv (.k 12))] [2,3])
.ret)
.skip))
(.seq
(.reg [
.s 69 (.m 0),
.s 70 (.m 5),
.s 71 (.bin .add none (.t 70) (.k 1)),
.s 72 (.m 8),
.s 73 (.slS (.t 69) (some (.t 71)) (some (.t 72))),
.s 7 (.m 73)] [0,2,6,7,8])
(.reg [
.s 74 (.m 8),
.s 5 (.m 74)] [0,2,5,6,7]))))
.skip))
(.seq
(.reg [
.s 9 (.mv (.c (.str [])))] [0,2,5,6,7,9])
(.seq
(.reg [
.s 10 (.mv (.c (.bool false)))] [0,2,5,6,7,9,10])
(.seq
(.seq
(.reg [
.s 75 (.m 5),
.s 76 (.m 0),
.s 77 (.lenS (.t 76)),
.s 78 (.bin .lss none (.t 75) (.t 77)),
.s 79 (.m 78),
.g 80 (.m 0) 79 true,
.g 81 (.m 5) 79 true,
.g 82 (.ixS (.t 80) (.t 81)) 79 true,
.g 83 (.bin .eql (some .int) (.t 82) (.c (.int .u8 101))) 79 true,
.g 84 (.m 83) 79 true,
.g 85 (.m 0) 84 false,
.g 86 (.m 5) 84 false,
.g 87 (.ixS (.t 85) (.t 86)) 84 false,
.g 88 (.bin .eql (some .int) (.t 87) (.c (.int .u8 69))) 84 false,
.g 89 (.pick (.t 84) (.c (.bool true)) (.t 88)) 79 true,
.s 90 (.pick (.t 79) (.t 89) (.c (.bool false)))] [0,2,5,6,7,9,10,90])
(.cnd (.t 90)
(.seq
(.reg [
.s 91 (.m 5),
.s 92 (.bin .add none (.t 91) (.k 1)),
.s 5 (.m 92)] [0,2,5,6,7,10])
(.seq
(.seq
(.reg [
.s 93 (.m 5),
.s 94 (.m 0),
.s 95 (.lenS (.t 94)),
.s 96 (.bin .lss none (.t 93) (.t 95)),
.s 97 (.m 96),
.g 98 (.m 0) 97 true,
.g 99 (.m 5) 97 true,
.g 100 (.ixS (.t 98) (.t 99)) 97 true,
.g 101 (.bin .eql (some .int) (.t 100) (.c (.int .u8 43))) 97 true,
.g 102 (.m 101) 97 true,
.g 103 (.m 0) 102 false,
.g 104 (.m 5) 102 false,
.g 105 (.ixS (.t 103) (.t 104)) 102 false,
.g 106 (.bin .eql (some .int) (.t 105) (.c (.int .u8 45))) 102 false,
.g 107 (.pick (.t 102) (.c (.bool true)) (.t 106)) 97 true,
.s 108 (.pick (.t 97) (.t 107) (.c (.bool false)))] [0,2,5,6,7,10,108])
(.cnd (.t 108)
(.seq
(.reg [
.s 109 (.m 0),
.s 110 (.m 5),
.s 111 (.ixS (.t 109) (.t 110)),
.s 112 (.bin .eql (some .int) (.t 111) (.c (.int .u8 45))),
.s 10 (.m 112)] [0,2,5,6,7,10])
(.reg [
.s 113 (.m 5),
.s 114 (.bin .add none (.t 113) (.k 1)),
.s 5 (.m 114)] [0,2,5,6,7,10]))
.skip))
(.seq
(.reg [
.s 115 (.m 0),
.s 116 (.m 5),
.s 117 (.call 146 [(.t 115),(.t 116)]),
.s 11 (.m 117)] [0,2,5,6,7,10,11])
(.seq
(.seq
(.reg [
.s 118 (.m 11),
.s 119 (.m 5),
.s 120 (.bin .eql (some .int) (.t 118) (.t 119))] [0,2,5,6,7,10,11,120])
(.cnd (.t 120)
(.seq
(.reg [
.s 121 (.bld [(.bool false),(.str []),(.int .i64 0)] []),
.n (.st 3 (.t 2) (.t 121)),
.s 3 (.mv (.k 12))] [2,3])
.ret)
.skip))
(.seq
(.reg [
.s 122 (.m 0),
.s 123 (.m 5),
.s 124 (.m 11),
.s 125 (.slS (.t 122) (some (.t 123)) (some (.t 124))),
.s 9 (.m 125)] [0,2,6,7,9,10,11])
(.reg [
.s 126 (.m 11),
.s 5 (.m 126)] [0,2,5,6,7,9,10]))))))
.skip))
(.seq
(.seq
(.reg [
.s 127 (.m 5),
.s 128 (.m 0),
.s 129 (.lenS (.t 128)),
.s 130 (.bin .neq (some .int) (.t 127) (.t 129))] [0,2,6,7,9,10,130])
(.cnd (.t 130)
(.seq
(.reg [
.s 131 (.bld [(.bool false),(.str []),(.int .i64 0)] []),
.n (.st 3 (.t 2) (.t 131)),
.s 3 (.mv (.k 12))] [2,3])
.ret)
.skip))
(.seq
(.seq
(.reg [
.s 132 (.m 0),
.s 133 (.lenS (.t 132)),
.s 134 (.bin .gtr none (.t 133) (.k 1000))] [0,2,6,7,9,10,134])
(.cnd (.t 134)
(.seq
(.reg [
.s 135 (.bld [(.bool false),(.str []),(.int .i64 0)] []),
.n (.st 3 (.t 2) (.t 135)),
.s 3 (.mv (.k 2))] [2,3])
.ret)
.skip))
(.seq
(.blk 0
(.seq
(.trim [0,2,6,7,9,10])
(.lop
(.seq
(.seq
(.seq
(.reg [
.s 136 (.m 9),
.s 137 (.lenS (.t 136)),
.s 138 (.bin .gtr none (.t 137) (.k 0)),
.s 139 (.m 138),
.g 140 (.m 9) 139 true,
.g 141 (.ixS (.t 140) (.k 0)) 139 true,
.g 142 (.bin .eql (some .int) (.t 141) (.c (.int .u8 48))) 139 true,
.s 143 (.pick (.t 139) (.t 142) (.c (.bool false)))] [0,2,6,7,9,10,143])
(.cnd (.t 143)
.skip
(.exit 0)))
(.blk 1
(.reg [
.s 144 (.m 9),
.s 145 (.slS (.t 144) (some (.k 1)) none),
.s 9 (.m 145)] [0,2,6,7,9,10])))
(.trim [0,2,6,7,9,10])))))
(.seq
(.seq
(.reg [
.s 146 (.m 9),
.s 147 (.lenS (.t 146)),
.s 148 (.bin .gtr none (.t 147) (.k 6))] [0,2,6,7,9,10,148])
(.cnd (.t 148)
(.seq
(.reg [
.s 149 (.bld [(.bool false),(.str []),(.int .i64 0)] []),
.n (.st 3 (.t 2) (.t 149)),
.s 3 (.mv (.k 5))] [2,3])
.ret)
.skip))
(.seq
(.reg [
.s 12 (.mv (.k 0))] [0,2,6,7,9,10,12])
(.seq
(.seq
(.reg [
.s 13 (.mv (.k 0))] [0,2,6,7,9,10,12,13])
(.blk 2
(.seq
(.trim [0,2,6,7,9,10,12,13])
(.lop
(.seq
(.seq
(.seq
(.reg [
.s 150 (.m 13),
.s 151 (.m 9),
.s 152 (.lenS (.t 151)),
.s 153 (.bin .lss none (.t 150) (.t 152))] [0,2,6,7,9,10,12,13,153])
(.cnd (.t 153)
.skip
(.exit 2)))
(.seq
(.blk 3
(.reg [
.s 156 (.m 12),
.s 157 (.bin .mul none (.t 156) (.k 10)),
.s 158 (.m 9),
.s 159 (.m 13),
.s 160 (.ixS (.t 158) (.t 159)),
.s 161 (.bin .sub none (.t 160) (.c (.int .u8 48))),
.s 162 (.cvI .i64 (.t 161)),
.s 163 (.bin .add none (.t 157) (.t 162)),
.s 12 (.m 163)] [0,2,6,7,9,10,12,13]))
(.reg [
.s 154 (.m 13),
.s 155 (.bin .add none (.t 154) (.k 1)),
.s 13 (.m 155)] [0,2,6,7,9,10,12,13])))
(.trim [0,2,6,7,9,10,12,13]))))))
(.seq
(.seq
(.reg [
.s 164 (.m 10)] [0,2,6,7,12,164])
(.cnd (.t 164)
(.reg [
.s 165 (.m 12),
.s 166 (.un .neg (.t 165)),
.s 12 (.m 166)] [0,2,6,7,12])
.skip))
(.seq
(.reg [
.s 167 (.m 12),
.s 168 (.m 7),
.s 169 (.lenS (.t 168)),
.s 170 (.bin .sub none (.t 167) (.t 169)),
.s 12 (.m 170)] [0,2,6,7,12])
(.seq
(.reg [
.s 171 (.m 6),
.s 172 (.m 7),
.s 173 (.bin .add none (.t 171) (.t 172)),
.s 14 (.m 173)] [0,2,12,14])
(.seq
(.blk 4
(.seq
(.trim [0,2,12,14])
(.lop
(.seq
(.seq
(.seq
(.reg [
.s 174 (.m 14),
.s 175 (.lenS (.t 174)),
.s 176 (.bin .gtr none (.t 175) (.k 0)),
.s 177 (.m 176),
.g 178 (.m 14) 177 true,
.g 179 (.m 14) 177 true,
.g 180 (.lenS (.t 179)) 177 true,
.g 181 (.bin .sub none (.t 180) (.k 1)) 177 true,
.g 182 (.ixS (.t 178) (.t 181)) 177 true,
.g 183 (.bin .eql (some .int) (.t 182) (.c (.int .u8 48))) 177 true,
.s 184 (.pick (.t 177) (.t 183) (.c (.bool false)))] [0,2,12,14,184])
(.cnd (.t 184)
.skip
(.exit 4)))
(.blk 5
(.seq
(.reg [
.s 185 (.m 14),
.s 186 (.m 14),
.s 187 (.lenS (.t 186)),
.s 188 (.bin .sub none (.t 187) (.k 1)),
.s 189 (.slS (.t 185) none (some (.t 188))),
.s 14 (.m 189)] [0,2,12,14])
(.reg [
.s 190 (.m 12),
.s 191 (.bin .add none (.t 190) (.k 1)),
.s 12 (.m 191)] [0,2,12,14]))))
(.trim [0,2,12,14])))))
(.seq
(.blk 6
(.seq
(.trim [0,2,12,14])
(.lop
(.seq
(.seq
(.seq
(.reg [
.s 192 (.m 14),
.s 193 (.lenS (.t 192)),
.s 194 (.bin .gtr none (.t 193) (.k 0)),
.s 195 (.m 194),
.g 196 (.m 14) 195 true,
.g 197 (.ixS (.t 196) (.k 0)) 195 true,
.g 198 (.bin .eql (some .int) (.t 197) (.c (.int .u8 48))) 195 true,
.s 199 (.pick (.t 195) (.t 198) (.c (.bool false)))] [0,2,12,14,199])
(.cnd (.t 199)
.skip
(.exit 6)))
(.blk 7
(.reg [
.s 200 (.m 14),
.s 201 (.slS (.t 200) (some (.k 1)) none),
.s 14 (.m 201)] [0,2,12,14])))
(.trim [0,2,12,14])))))
(.seq
(.seq
(.reg [
.s 202 (.m 14),
.s 203 (.bin .eql (some .str) (.t 202) (.c (.str [])))] [0,2,12,14,203])
(.cnd (.t 203)
(.seq
(.reg [
.s 204 (.bld [(.bool false),(.str []),(.int .i64 0)] []),
.n (.st 3 (.t 2) (.t 204)),
.s 3 (.mv (.k 0))] [2,3])
.ret)
.skip))
(.seq
(.reg [
.s 205 (.m 0),
.s 206 (.ixS (.t 205) (.k 0)),
.s 207 (.bin .eql (some .int) (.t 206) (.c (.int .u8 45))),
.s 208 (.m 14),
.s 209 (.m 12),
.s 210 (.bld [(.bool false),(.str []),(.int .i64 0)] [(0,1,(.t 207)),(1,1,(.t 208)),(2,1,(.t 209))]),
.n (.st 3 (.t 2) (.t 210)),
.s 3 (.mv (.k 0))] [2,3])
.ret)))))))))))))))))))))))),
[.cell 2 true 3,.tmp 3]⟩
/-- emend/emendref2.Join -/
def F107 : DF := ⟨1,
(.seq
(.reg [
.s 1 (.bxL (.t 0)),
.s 2 (.mv (.c (.str []))),
.s 3 (.mv (.k 0))] [1])
(.seq
(.reg [
.s 7 (.fa 1 (.t 1)),
.s 8 (.l 7),
.s 9 (.lenS (.t 8)),
.s 4 (.m 9)] [1,4])
(.seq
(.seq
(.reg [
.s 5 (.mv (.k 0))] [1,4,5])
(.blk 0
(.seq
(.trim [1,4,5])
(.lop
(.seq
(.seq
(.seq
(.reg [
.s 10 (.m 5),
.s 11 (.m 4),
.s 12 (.bin .lss none (.t 10) (.t 11))] [1,4,5,12])
(.cnd (.t 12)
.skip
(.exit 0)))
(.seq
(.blk 1
(.seq
(.reg [
.s 15 (.fa 1 (.t 1)),
.s 16 (.l 15),
.s 17 (.m 5),
.s 18 (.ixS (.t 16) (.t 17)),
.s 19 (.call 147 [(.t 18)]),
.s 20 (.un .not (.t 19))] [1,4,5,20])
(.cnd (.t 20)
(.seq
(.reg [
.s 2 (.mv (.c (.str []))),
.s 3 (.mv (.k 1))] [2,3])
.ret)
.skip)))
(.reg [
.s 13 (.m 5),
.s 14 (.bin .add none (.t 13) (.k 1)),
.s 5 (.m 14)] [1,4,5])))
(.trim [1,4,5]))))))
(.seq
(.seq
(.reg [
.s 21 (.m 4),
.s 22 (.bin .eql (some .int) (.t 21) (.k 0)),
.s 23 (.m 22),
.g 24 (.fa 2 (.t 1)) 23 true,
.g 25 (.l 24) 23 true,
.g 26 (.bin .neq (some .int) (.t 25) (.k 0)) 23 true,
.g 27 (.m 26) 23 true,
.g 28 (.fa 0 (.t 1)) 27 false,
.g 29 (.l 28) 27 false,
.g 30 (.pick (.t 27) (.c (.bool true)) (.t 29)) 23 true,
.s 31 (.pick (.t 23) (.t 30) (.c (.bool false))),
.s 32 (.m 31),
.g 33 (.m 4) 32 false,
.g 34 (.bin .gtr none (.t 33) (.k 0)) 32 false,
.g 35 (.m 34) 32 false,
.g 36 (.fa 1 (.t 1)) 35 true,
.g 37 (.l 36) 35 true,
.g 38 (.ixS (.t 37) (.k 0)) 35 true,
.g 39 (.bin .eql (some .int) (.t 38) (.c (.int .u8 48))) 35 true,
.g 40 (.m 39) 35 true,
.g 41 (.fa 1 (.t 1)) 40 false,
.g 42 (.l 41) 40 false,
.g 43 (.m 4) 40 false,
.g 44 (.bin .sub none (.t 43) (.k 1)) 40 false,
.g 45 (.ixS (.t 42) (.t 44)) 40 false,
.g 46 (.bin .eql (some .int) (.t 45) (.c (.int .u8 48))) 40 false,
.g 47 (.pick (.t 40) (.c (.bool true)) (.t 46)) 35 true,
.g 48 (.pick (.t 35) (.t 47) (.c (.bool false))) 32 false,
.s 49 (.pick (.t 32) (.c (.bool true)) (.t 48))] [1,4,49])
(.cnd (.t 49)
(.seq
(.reg [
.s 2 (.mv (.c (.str []))),
.s 3 (.mv (.k 1))] [2,3])
.ret)
.skip))
(.seq
(.seq
(.reg [
.s 50 (.fa 2 (.t 1)),
.s 51 (.l 50),
.s 52 (.bin .gtr none (.t 51) (.k 999999)),
.s 53 (.m 52),
.g 54 (.fa 2 (.t 1)) 53 false,
.g 55 (.l 54) 53 false,
.g 56 (.bin .lss none (.t 55) (.k (-999999))) 53 false,
.s 57 (.pick (.t 53) (.c (.bool true)) (.t 56))] [1,4,57])
(.cnd (.t 57)
(.seq
(.reg [
.s 2 (.mv (.c (.str []))),
.s 3 (.mv (.k 5))] [2,3])
.ret)
.skip))
(.seq
(.seq
(.reg [
.s 58 (.m 4),
.s 59 (.bin .eql (some .int) (.t 58) (.k 0))] [1,59])
(.cnd (.t 59)
(.seq
(.reg [
.s 2 (.mv (.c (.str [48]))),
.s 3 (.mv (.k 0))] [2,3])
.ret)
.skip))
(.seq
(.reg [
.s 60 (.fa 1 (.t 1)),
.s 61 (.l 60),
.s 6 (.m 61)] [1,6])
(.seq
(.seq
(.reg [
.s 62 (.fa 0 (.t 1)),
.s 63 (.l 62)] [1,6,63])
(.cnd (.t 63)
(.reg [
.s 64 (.m 6),
.s 65 (.bin .add none (.c (.str [45])) (.t 64)),
.s 6 (.m 65)] [1,6])
.skip))
(.seq
(.seq
(.reg [
.s 66 (.fa 2 (.t 1)),
.s 67 (.l 66),
.s 68 (.bin .neq (some .int) (.t 67) (.k 0))] [1,6,68])
(.cnd (.t 68)
(.reg [
.s 69 (.m 6),
.s 70 (.bin .add none (.t 69) (.c (.str [101]))),
.s 71 (.fa 2 (.t 1)),
.s 72 (.l 71),
.s 73 (.call 148 [(.t 72)]),
.s 74 (.bin .add none (.t 70) (.t 73)),
.s 6 (.m 74)] [6])
.skip))
(.seq
(.seq
(.reg [
.s 75 (.m 6),
.s 76 (.lenS (.t 75)),
.s 77 (.bin .gtr none (.t 76) (.k 1000))] [6,77])
(.cnd (.t 77)
(.seq
(.reg [
.s 2 (.mv (.c (.str []))),
.s 3 (.mv (.k 2))] [2,3])
.ret)
.skip))
(.seq
(.reg [
.s 78 (.m 6),
.s 2 (.m 78),
.s 3 (.mv (.k 0))] [2,3])
.ret))))))))))),
[.tmp 2,.tmp 3]⟩
/-- emend/emendref1.Runes -/
def F108 : DF := ⟨1,
(.seq
(.reg [
.s 2 (.mv (.c (.sl 1 nz []))),
.s 3 (.alL [(.int .i64 0),(.int .i64 0)])] [0,3])
(.seq
(.reg [
.s 4 (.mv (.c (.sl 1 nz [])))] [0,3,4])
(.seq
(.seq
(.reg [
.s 5 (.mv (.k 0))] [0,3,4,5])
(.blk 0
(.seq
(.trim [0,3,4,5])
(.lop
(.seq
(.seq
(.seq
(.reg [
.s 8 (.m 5),
.s 9 (.m 0),
.s 10 (.lenS (.t 9)),
.s 11 (.bin .lss none (.t 8) (.t 10))] [0,3,4,5,11])
(.cnd (.t 11)
.skip
(.exit 0)))
(.blk 1
(.seq
(.reg [
.s 13 (.m 0),
.s 14 (.m 5),
.s 15 (.call 149 [(.t 13),(.t 14)]),
.s 12 (.m 15),
.s 16 (.ext (.t 12) 0),
.s 17 (.ext (.t 12) 1),
.s 6 (.m 16),
.s 7 (.m 17)] [0,3,4,5,6,7])
(.seq
(.seq
(.reg [
.s 18 (.m 7),
.s 19 (.bin .eql (some .int) (.t 18) (.k 0))] [0,3,4,5,6,7,19])
(.cnd (.t 19)
(.seq
(.reg [
.s 20 (.m 5),
.s 21 (.bld [(.int .i64 0),(.int .i64 0)] [(0,1,(.t 20)),(1,1,(.k 10))]),
.s 2 (.mv (.c (.sl 1 nz []))),
.n (.st 2 (.t 3) (.t 21))] [2,3])
.ret)
.skip))
(.seq
(.reg [
.s 22 (.m 4),
.s 23 (.m 6),
.s 24 (.bldT 3 1 1 (.int .i64 0) [(0,(.t 23))]),
.s 25 (.app false 3 1 8 (.t 22) (.t 24)),
.s 4 (.m 25)] [0,3,4,5,7])
(.reg [
.s 26 (.m 5),
.s 27 (.m 7),
.s 28 (.bin .add none (.t 26) (.t 27)),
.s 5 (.m 28)] [0,3,4,5]))))))
(.trim [0,3,4,5]))))))
(.seq
(.reg [
.s 29 (.m 4),
.s 30 (.bld [(.int .i64 0),(.int .i64 0)] []),
.s 2 (.m 29),
.n (.st 2 (.t 3) (.t 30))] [2,3])
.ret)))),
[.tmp 2,.cell 3 true 2]⟩
/-- emend/emendref3.date -/
def F109 : DF := ⟨1,
(.seq
(.reg [
.s 2 (.mv (.c (.bool false)))] [0])
(.seq
(.seq
(.reg [
.s 7 (.m 0),
.s 8 (.lenS (.t 7)),
.s 9 (.bin .neq (some .int) (.t 8) (.k 10)),
.s 10 (.m 9),
.g 11 (.m 0) 10 false,
.g 12 (.ixS (.t 11) (.k 4)) 10 false,
.g 13 (.bin .neq (some .int) (.t 12) (.c (.int .u8 45))) 10 false,
.s 14 (.pick (.t 10) (.c (.bool true)) (.t 13)),
.s 15 (.m 14),
.g 16 (.m 0) 15 false,
.g 17 (.ixS (.t 16) (.k 7)) 15 false,
.g 18 (.bin .neq (some .int) (.t 17) (.c (.int .u8 45))) 15 false,
.s 19 (.pick (.t 15) (.c (.bool true)) (.t 18))] [0,19])
(.cnd (.t 19)
(.seq
(.reg [
.s 2 (.mv (.c (.bool false)))] [2])
.ret)
.skip))
(.seq
(.reg [
.s 20 (.m 0),
.s 21 (.call 111 [(.t 20),(.k 0),(.k 4)]),
.s 3 (.m 21)] [0,3])
(.seq
(.reg [
.s 22 (.m 0),
.s 23 (.call 111 [(.t 22),(.k 5),(.k 2)]),
.s 4 (.m 23)] [0,3,4])
(.seq
(.reg [
.s 24 (.m 0),
.s 25 (.call 111 [(.t 24),(.k 8),(.k 2)]),
.s 5 (.m 25)] [3,4,5])
(.seq
(.seq
(.reg [
.s 26 (.m 3),
.s 27 (.bin .lss none (.t 26) (.k 0)),
.s 28 (.m 27),
.g 29 (.m 4) 28 false,
.g 30 (.bin .lss none (.t 29) (.k 1)) 28 false,
.s 31 (.pick (.t 28) (.c (.bool true)) (.t 30)),
.s 32 (.m 31),
.g 33 (.m 4) 32 false,
.g 34 (.bin .gtr none (.t 33) (.k 12)) 32 false,
.s 35 (.pick (.t 32) (.c (.bool true)) (.t 34)),
.s 36 (.m 35),
.g 37 (.m 5) 36 false,
.g 38 (.bin .lss none (.t 37) (.k 1)) 36 false,
.s 39 (.pick (.t 36) (.c (.bool true)) (.t 38))] [3,4,5,39])
(.cnd (.t 39)
(.seq
(.reg [
.s 2 (.mv (.c (.bool false)))] [2])
.ret)
.skip))
(.seq
(.reg [
.s 6 (.mv (.k 31))] [3,4,5,6])
(.seq
(.seq
(.reg [
.s 40 (.m 4),
.s 41 (.bin .eql (some .int) (.t 40) (.k 4)),
.s 42 (.m 41),
.g 43 (.m 4) 42 false,
.g 44 (.bin .eql (some .int) (.t 43) (.k 6)) 42 false,
.s 45 (.pick (.t 42) (.c (.bool true)) (.t 44)),
.s 46 (.m 45),
.g 47 (.m 4) 46 false,
.g 48 (.bin .eql (some .int) (.t 47) (.k 9)) 46 false,
.s 49 (.pick (.t 46) (.c (.bool true)) (.t 48)),
.s 50 (.m 49),
.g 51 (.m 4) 50 false,
.g 52 (.bin .eql (some .int) (.t 51) (.k 11)) 50 false,
.s 53 (.pick (.t 50) (.c (.bool true)) (.t 52))] [3,4,5,6,53])
(.cnd (.t 53)
(.reg [
.s 6 (.mv (.k 30))] [3,4,5,6])
.skip))
(.seq
(.seq
(.reg [
.s 54 (.m 4),
.s 55 (.bin .eql (some .int) (.t 54) (.k 2))] [3,5,6,55])
(.cnd (.t 55)
(.seq
(.reg [
.s 6 (.mv (.k 28))] [3,5,6])
(.seq
(.reg [
.s 56 (.m 3),
.s 57 (.bin .rem none (.t 56) (.k 4)),
.s 58 (.bin .eql (some .int) (.t 57) (.k 0)),
.s 59 (.m 58),
.g 60 (.m 3) 59 true,
.g 61 (.bin .rem none (.t 60) (.k 100)) 59 true,
.g 62 (.bin .neq (some .int) (.t 61) (.k 0)) 59 true,
.g 63 (.m 62) 59 true,
.g 64 (.m 3) 63 false,
.g 65 (.bin .rem none (.t 64) (.k 400)) 63 false,
.g 66 (.bin .eql (some .int) (.t 65) (.k 0)) 63 false,
.g 67 (.pick (.t 63) (.c (.bool true)) (.t 66)) 59 true,
.s 68 (.pick (.t 59) (.t 67) (.c (.bool false)))] [5,6,68])
(.cnd (.t 68)
(.reg [
.s 6 (.mv (.k 29))] [5,6])
.skip)))
.skip))
(.seq
(.reg [
.s 69 (.m 5),
.s 70 (.m 6),
.s 71 (.bin .leq none (.t 69) (.t 70)),
.s 2 (.m 71)] [2])
.ret)))))))))),
[.tmp 2]⟩
/-- emend/emendref3.clock -/
def F110 : DF := ⟨1,
(.seq
(.reg [
.s 2 (.mv (.c (.bool false)))] [0])
(.seq
(.seq
(.reg [
.s 6 (.m 0),
.s 7 (.lenS (.t 6)),
.s 8 (.bin .lss none (.t 7) (.k 8)),
.s 9 (.m 8),
.g 10 (.m 0) 9 false,
.g 11 (.ixS (.t 10) (.k 2)) 9 false,
.g 12 (.bin .neq (some .int) (.t 11) (.c (.int .u8 58))) 9 false,
.s 13 (.pick (.t 9) (.c (.bool true)) (.t 12)),
.s 14 (.m 13),
.g 15 (.m 0) 14 false,
.g 16 (.ixS (.t 15) (.k 5)) 14 false,
.g 17 (.bin .neq (some .int) (.t 16) (.c (.int .u8 58))) 14 false,
.s 18 (.pick (.t 14) (.c (.bool true)) (.t 17))] [0,18])
(.cnd (.t 18)
(.seq
(.reg [
.s 2 (.mv (.c (.bool false)))] [2])
.ret)
.skip))
(.seq
(.reg [
.s 19 (.m 0),
.s 20 (.call 111 [(.t 19),(.k 0),(.k 2)]),
.s 3 (.m 20)] [0,3])
(.seq
(.reg [
.s 21 (.m 0),
.s 22 (.call 111 [(.t 21),(.k 3),(.k 2)]),
.s 4 (.m 22)] [0,3,4])
(.seq
(.reg [
.s 23 (.m 0),
.s 24 (.call 111 [(.t 23),(.k 6),(.k 2)]),
.s 5 (.m 24)] [0,3,4,5])
(.seq
(.seq
(.reg [
.s 25 (.m 3),
.s 26 (.bin .lss none (.t 25) (.k 0)),
.s 27 (.m 26),
.g 28 (.m 3) 27 false,
.g 29 (.bin .gtr none (.t 28) (.k 23)) 27 false,
.s 30 (.pick (.t 27) (.c (.bool true)) (.t 29)),
.s 31 (.m 30),
.g 32 (.m 4) 31 false,
.g 33 (.bin .lss none (.t 32) (.k 0)) 31 false,
.s 34 (.pick (.t 31) (.c (.bool true)) (.t 33)),
.s 35 (.m 34),
.g 36 (.m 4) 35 false,
.g 37 (.bin .gtr none (.t 36) (.k 59)) 35 false,
.s 38 (.pick (.t 35) (.c (.bool true)) (.t 37)),
.s 39 (.m 38),
.g 40 (.m 5) 39 false,
.g 41 (.bin .lss none (.t 40) (.k 0)) 39 false,
.s 42 (.pick (.t 39) (.c (.bool true)) (.t 41)),
.s 43 (.m 42),
.g 44 (.m 5) 43 false,
.g 45 (.bin .gtr none (.t 44) (.k 59)) 43 false,
.s 46 (.pick (.t 43) (.c (.bool true)) (.t 45))] [0,46])
(.cnd (.t 46)
(.seq
(.reg [
.s 2 (.mv (.c (.bool false)))] [2])
.ret)
.skip))
(.seq
(.seq
(.reg [
.s 47 (.m 0),
.s 48 (.lenS (.t 47)),
.s 49 (.bin .eql (some .int) (.t 48) (.k 8))] [0,49])
(.cnd (.t 49)
(.seq
(.reg [
.s 2 (.mv (.c (.bool true)))] [2])
.ret)
.skip))
(.seq
(.reg [
.s 50 (.m 0),
.s 51 (.ixS (.t 50) (.k 8)),
.s 52 (.bin .eql (some .int) (.t 51) (.c (.int .u8 46))),
.s 53 (.m 52),
.g 54 (.m 0) 53 true,
.g 55 (.lenS (.t 54)) 53 true,
.g 56 (.bin .geq none (.t 55) (.k 10)) 53 true,
.s 57 (.pick (.t 53) (.t 56) (.c (.bool false))),
.s 58 (.m 57),
.g 59 (.m 0) 58 true,
.g 60 (.lenS (.t 59)) 58 true,
.g 61 (.bin .leq none (.t 60) (.k 18)) 58 true,
.s 62 (.pick (.t 58) (.t 61) (.c (.bool false))),
.s 63 (.m 62),
.g 64 (.m 0) 63 true,
.g 65 (.m 0) 63 true,
.g 66 (.lenS (.t 65)) 63 true,
.g 67 (.bin .sub none (.t 66) (.k 9)) 63 true,
.g 68 (.call 111 [(.t 64),(.k 9),(.t 67)]) 63 true,
.g 69 (.bin .geq none (.t 68) (.k 0)) 63 true,
.s 70 (.pick (.t 63) (.t 69) (.c (.bool false))),
.s 2 (.m 70)] [2])
.ret)))))))),
[.tmp 2]⟩
/-- emend/emendref3.digits -/
def F111 : DF := ⟨3,
(.seq
(.reg [
.s 6 (.mv (.k 0))] [0,1,2])
(.seq
(.reg [
.s 7 (.mv (.k 0))] [0,1,2,7])
(.seq
(.seq
(.reg [
.s 9 (.m 1),
.s 8 (.m 9)] [0,1,2,7,8])
(.blk 0
(.seq
(.trim [0,1,2,7,8])
(.lop
(.seq
(.seq
(.seq
(.reg [
.s 10 (.m 8),
.s 11 (.m 1),
.s 12 (.m 2),
.s 13 (.bin .add none (.t 11) (.t 12)),
.s 14 (.bin .lss none (.t 10) (.t 13))] [0,1,2,7,8,14])
(.cnd (.t 14)
.skip
(.exit 0)))
(.seq
(.blk 1
(.seq
(.seq
(.reg [
.s 17 (.m 8),
.s 18 (.m 0),
.s 19 (.lenS (.t 18)),
.s 20 (.bin .geq none (.t 17) (.t 19)),
.s 21 (.m 20),
.g 22 (.m 0) 21 false,
.g 23 (.m 8) 21 false,
.g 24 (.ixS (.t 22) (.t 23)) 21 false,
.g 25 (.bin .lss none (.t 24) (.c (.int .u8 48))) 21 false,
.s 26 (.pick (.t 21) (.c (.bool true)) (.t 25)),
.s 27 (.m 26),
.g 28 (.m 0) 27 false,
.g 29 (.m 8) 27 false,
.g 30 (.ixS (.t 28) (.t 29)) 27 false,
.g 31 (.bin .gtr none (.t 30) (.c (.int .u8 57))) 27 false,
.s 32 (.pick (.t 27) (.c (.bool true)) (.t 31))] [0,1,2,7,8,32])
(.cnd (.t 32)
(.seq
(.reg [
.s 6 (.mv (.k (-1)))] [6])
.ret)
.skip))
(.reg [
.s 33 (.m 7),
.s 34 (.bin .mul none (.t 33) (.k 10)),
.s 35 (.m 0),
.s 36 (.m 8),
.s 37 (.ixS (.t 35) (.t 36)),
.s 38 (.bin .sub none (.t 37) (.c (.int .u8 48))),
.s 39 (.cvI .i64 (.t 38)),
.s 40 (.bin .add none (.t 34) (.t 39)),
.s 7 (.m 40)] [0,1,2,7,8])))
(.reg [
.s 15 (.m 8),
.s 16 (.bin .add none (.t 15) (.k 1)),
.s 8 (.m 16)] [0,1,2,7,8])))
(.trim [0,1,2,7,8]))))))
(.seq
(.reg [
.s 41 (.m 7),
.s 6 (.m 41)] [6])
.ret)))),
[.tmp 6]⟩

/-- (*emend/emendref3.Reader).begins -/
def F116 : DF := ⟨1,
(.seq
(.reg [
.s 2 (.mv (.c (.bool false)))] [0])
(.seq
(.seq
(.drw [
((.s 4 (.m 0),none),[]),
((.s 5 (.nilc (.t 4)),none),[]),
((.s 6 (.fa 1 (.t 5)),none),[]),
((.s 7 (.l 6),none),[]),
((.s 8 (.m 0),none),[]),
((.s 9 (.nilc (.t 8)),none),[]),
((.s 10 (.fa 0 (.t 9)),none),[]),
((.s 11 (.l 10),none),[]),
((.s 12 (.lenS (.t 11)),none),[]),
((.s 13 (.bin .geq none (.t 7) (.t 12)),none),[])] [0,13])
(.cnd (.t 13)
(.seq
(.reg [
.s 2 (.mv (.c (.bool false)))] [2])
.ret)
.skip))
(.seq
(.drw [
((.s 14 (.m 0),none),[]),
((.s 15 (.nilc (.t 14)),none),[]),
((.s 16 (.fa 0 (.t 15)),none),[]),
((.s 17 (.l 16),none),[]),
((.s 18 (.m 0),none),[]),
((.s 19 (.nilc (.t 18)),none),[]),
((.s 20 (.fa 1 (.t 19)),none),[]),
((.s 21 (.l 20),none),[]),
((.s 22 (.ixS (.t 17) (.t 21)),none),[]),
((.s 3 (.m 22),none),[])] [0,3])
(.seq
(.reg [
.s 23 (.m 3),
.s 24 (.call 117 [(.t 23)]),
.s 25 (.m 24),
.g 26 (.m 3) 25 false,
.g 27 (.call 152 [(.t 26)]) 25 false,
.s 28 (.pick (.t 25) (.c (.bool true)) (.t 27)),
.s 29 (.m 28),
.g 30 (.m 3) 29 false,
.g 31 (.bin .eql (some .int) (.t 30) (.c (.int .u8 45))) 29 false,
.s 32 (.pick (.t 29) (.c (.bool true)) (.t 31)),
.s 33 (.m 32),
.g 34 (.m 3) 33 false,
.g 35 (.bin .eql (some .int) (.t 34) (.c (.int .u8 34))) 33 false,
.s 36 (.pick (.t 33) (.c (.bool true)) (.t 35)),
.s 37 (.m 36),
.g 38 (.m 3) 37 false,
.g 39 (.bin .eql (some .int) (.t 38) (.c (.int .u8 91))) 37 false,
.s 40 (.pick (.t 37) (.c (.bool true)) (.t 39)),
.s 41 (.m 40),
.g 42 (.m 3) 41 false,
.g 43 (.bin .eql (some .int) (.t 42) (.c (.int .u8 123))) 41 false,
.s 44 (.pick (.t 41) (.c (.bool true)) (.t 43)),
.s 45 (.m 44),
.g 46 (.m 3) 45 false,
.g 47 (.bin .eql (some .int) (.t 46) (.c (.int .u8 64))) 45 false,
.g 48 (.m 47) 45 false,
.g 49 (.m 0) 48 true,
.g 50 (.nilc (.t 49)) 48 true,
.g 51 (.fa 5 (.t 50)) 48 true,
.g 52 (.l 51) 48 true,
.g 53 (.pick (.t 48) (.t 52) (.c (.bool false))) 45 false,
.s 54 (.pick (.t 45) (.c (.bool true)) (.t 53)),
.s 2 (.m 54)] [2])
.ret)))),
[.tmp 2]⟩
/-- emend/emendref3.Letter -/
def F117 : DF := ⟨1,
(.seq
(.reg [
.s 2 (.mv (.c (.bool false)))] [0])
(.seq
(.reg [
.s 3 (.m 0),
.s 4 (.bin .geq none (.t 3) (.c (.int .u8 97))),
.s 5 (.m 4),
.g 6 (.m 0) 5 true,
.g 7 (.bin .leq none (.t 6) (.c (.int .u8 122))) 5 true,
.s 8 (.pick (.t 5) (.t 7) (.c (.bool false))),
.s 9 (.m 8),
.g 10 (.m 0) 9 false,
.g 11 (.bin .geq none (.t 10) (.c (.int .u8 65))) 9 false,
.g 12 (.m 11) 9 false,
.g 13 (.m 0) 12 true,
.g 14 (.bin .leq none (.t 13) (.c (.int .u8 90))) 12 true,
.g 15 (.pick (.t 12) (.t 14) (.c (.bool false))) 9 false,
.s 16 (.pick (.t 9) (.c (.bool true)) (.t 15)),
.s 2 (.m 16)] [2])
.ret)),
[.tmp 2]⟩
/-- (*emend/emendref3.Reader).plain -/
def F118 : DF := ⟨3,
(.seq
(.reg [
.s 6 (.alL [(.int .i64 0),(.str []),(.sl 1 nz []),(.sl 4 nz [])])] [0,1,2,6])
(.seq
(.blk 0
(.seq
(.reg [
.s 13 (.m 1),
.s 14 (.call 117 [(.t 13)]),
.s 12 (.m 14)] [0,1,2,6,12])
(.cnd (.t 12)
(.seq
(.blk 1
(.seq
(.trim [0,2,6])
(.lop
(.seq
(.seq
(.seq
(.drw [
((.s 15 (.m 0),none),[]),
((.s 16 (.nilc (.t 15)),none),[]),
((.s 17 (.fa 1 (.t 16)),none),[]),
((.s 18 (.l 17),none),[]),
((.s 19 (.m 0),none),[]),
((.s 20 (.nilc (.t 19)),none),[]),
((.s 21 (.fa 0 (.t 20)),none),[]),
((.s 22 (.l 21),none),[]),
((.s 23 (.lenS (.t 22)),none),[]),
((.s 24 (.bin .lss none (.t 18) (.t 23)),none),[]),
((.s 25 (.m 24),none),[]),
((.g 26 (.m 0) 25 true,none),[]),
((.g 27 (.nilc (.t 26)) 25 true,none),[]),
((.g 28 (.fa 0 (.t 27)) 25 true,none),[]),
((.g 29 (.l 28) 25 true,none),[]),
((.g 30 (.m 0) 25 true,none),[]),
((.g 31 (.nilc (.t 30)) 25 true,none),[]),
((.g 32 (.fa 1 (.t 31)) 25 true,none),[]),
((.g 33 (.l 32) 25 true,none),[]),
((.g 34 (.ixS (.t 29) (.t 33)) 25 true,none),[]),
((.g 35 (.call 117 [(.t 34)]) 25 true,none),[]),
((.s 36 (.pick (.t 25) (.t 35) (.c (.bool false))),none),[])] [0,2,6,36])
(.cnd (.t 36)
.skip
(.exit 1)))
(.blk 2
(.reg [
.s 37 (.m 0),
.s 38 (.nilc (.t 37)),
.s 39 (.fa 1 (.t 38)),
.s 40 (.l 39),
.s 41 (.bin .add none (.t 40) (.k 1)),
.s 42 (.nilc (.t 37)),
.s 43 (.fa 1 (.t 42)),
.n (.st 1 (.t 43) (.t 41))] [0,2,6])))
(.trim [0,2,6])))))
(.seq
(.drw [
((.s 44 (.m 0),none),[]),
((.s 45 (.nilc (.t 44)),none),[]),
((.s 46 (.fa 0 (.t 45)),none),[]),
((.s 47 (.l 46),none),[]),
((.s 48 (.m 2),none),[]),
((.s 49 (.m 0),none),[]),
((.s 50 (.nilc (.t 49)),none),[]),
((.s 51 (.fa 1 (.t 50)),none),[]),
((.s 52 (.l 51),none),[]),
((.s 53 (.slS (.t 47) (some (.t 48)) (some (.t 52))),none),[]),
((.s 7 (.m 53),none),[])] [6,7])
(.seq
(.seq
(.reg [
.s 54 (.m 7),
.s 55 (.bin .eql (some .str) (.t 54) (.c (.str [110,117,108,108])))] [6,7,55])
(.cnd (.t 55)
(.seq
(.reg [
.s 56 (.bld [(.int .i64 0),(.str []),(.sl 1 nz []),(.sl 4 nz [])] [(0,1,(.k 1))]),
.n (.st 4 (.t 6) (.t 56))] [6])
.ret)
.skip))
(.seq
(.reg [
.s 57 (.m 7),
.s 58 (.bld [(.int .i64 0),(.str []),(.sl 1 nz []),(.sl 4 nz [])] [(0,1,(.k 2)),(1,1,(.t 57))]),
.n (.st 4 (.t 6) (.t 58))] [6])
.ret))))
(.seq
(.reg [
.s 60 (.m 1),
.s 61 (.call 152 [(.t 60)]),
.s 62 (.m 61),
.g 63 (.m 1) 62 false,
.g 64 (.bin .eql (some .int) (.t 63) (.c (.int .u8 45))) 62 false,
.s 65 (.pick (.t 62) (.c (.bool true)) (.t 64)),
.s 59 (.m 65)] [0,1,2,6,59])
(.cnd (.t 59)
(.seq
(.reg [
.s 66 (.m 0),
.s 67 (.m 2),
.s 68 (.call 153 [(.t 66),(.t 67),(.c (.str [43,45,46]))]),
.s 8 (.m 68)] [0,2,6,8])
(.seq
(.reg [
.s 70 (.m 0),
.s 71 (.nilc (.t 70)),
.s 72 (.fa 0 (.t 71)),
.s 73 (.l 72),
.s 74 (.m 2),
.s 75 (.m 8),
.s 76 (.slS (.t 73) (some (.t 74)) (some (.t 75))),
.s 77 (.call 61 [(.t 76)]),
.s 69 (.m 77),
.s 78 (.ext (.t 69) 0),
.s 79 (.ext (.t 69) 1),
.s 9 (.m 78),
.s 10 (.m 79)] [0,2,6,8,9,10])
(.seq
(.seq
(.reg [
.s 80 (.m 10),
.s 81 (.bin .neq (some .int) (.t 80) (.k 0))] [0,2,6,8,9,10,81])
(.cnd (.t 81)
(.seq
(.reg [
.s 82 (.m 0),
.s 83 (.m 10),
.s 84 (.m 2),
.s 85 (.call 73 [(.t 82),(.t 83),(.t 84)])] [6])
(.seq
(.reg [
.s 86 (.bld [(.int .i64 0),(.str []),(.sl 1 nz []),(.sl 4 nz [])] []),
.n (.st 4 (.t 6) (.t 86))] [6])
.ret))
.skip))
(.seq
(.reg [
.s 87 (.m 0),
.s 88 (.m 8),
.s 89 (.nilc (.t 87)),
.s 90 (.fa 1 (.t 89)),
.n (.st 1 (.t 90) (.t 88))] [6,9])
(.seq
(.reg [
.s 91 (.m 9),
.s 92 (.bld [(.int .i64 0),(.str []),(.sl 1 nz []),(.sl 4 nz [])] [(0,1,(.k 3)),(1,1,(.t 91))]),
.n (.st 4 (.t 6) (.t 92))] [6])
.ret)))))
(.seq
(.reg [
.s 94 (.m 1),
.s 95 (.bin .eql (some .int) (.t 94) (.c (.int .u8 64))),
.s 93 (.m 95)] [0,2,6,93])
(.cnd (.t 93)
(.seq
(.reg [
.s 96 (.m 0),
.s 97 (.m 2),
.s 98 (.bin .add none (.t 97) (.k 1)),
.s 99 (.call 153 [(.t 96),(.t 98),(.c (.str [43,45,46,58]))]),
.s 11 (.m 99)] [0,2,6,11])
(.seq
(.seq
(.reg [
.s 100 (.m 0),
.s 101 (.nilc (.t 100)),
.s 102 (.fa 0 (.t 101)),
.s 103 (.l 102),
.s 104 (.m 2),
.s 105 (.bin .add none (.t 104) (.k 1)),
.s 106 (.m 11),
.s 107 (.slS (.t 103) (some (.t 105)) (some (.t 106))),
.s 108 (.call 63 [(.t 107)]),
.s 109 (.un .not (.t 108))] [0,2,6,11,109])
(.cnd (.t 109)
(.seq
(.reg [
.s 110 (.m 0),
.s 111 (.m 2),
.s 112 (.call 73 [(.t 110),(.k 20),(.t 111)])] [6])
(.seq
(.reg [
.s 113 (.bld [(.int .i64 0),(.str []),(.sl 1 nz []),(.sl 4 nz [])] []),
.n (.st 4 (.t 6) (.t 113))] [6])
.ret))
.skip))
(.seq
(.reg [
.s 114 (.m 0),
.s 115 (.m 11),
.s 116 (.nilc (.t 114)),
.s 117 (.fa 1 (.t 116)),
.n (.st 1 (.t 117) (.t 115))] [0,2,6,11])
(.seq
(.reg [
.s 118 (.m 0),
.s 119 (.nilc (.t 118)),
.s 120 (.fa 0 (.t 119)),
.s 121 (.l 120),
.s 122 (.m 2),
.s 123 (.bin .add none (.t 122) (.k 1)),
.s 124 (.m 11),
.s 125 (.slS (.t 121) (some (.t 123)) (some (.t 124))),
.s 126 (.bld [(.int .i64 0),(.str []),(.sl 1 nz []),(.sl 4 nz [])] [(0,1,(.k 5)),(1,1,(.t 125))]),
.n (.st 4 (.t 6) (.t 126))] [6])
.ret))))
.skip)))))))
(.seq
(.reg [
.s 127 (.bld [(.int .i64 0),(.str []),(.sl 1 nz []),(.sl 4 nz [])] []),
.n (.st 4 (.t 6) (.t 127))] [6])
.ret))),
[.cell 6 true 4]⟩
/-- (*emend/emendref3.Reader).Quoted -/
def F119 : DF := ⟨1,
(.seq
(.reg [
.s 2 (.mv (.c (.str [])))] [0])
(.seq
(.drw [
((.s 7 (.m 0),none),[]),
((.s 8 (.nilc (.t 7)),none),[]),
((.s 9 (.fa 0 (.t 8)),none),[]),
((.s 10 (.l 9),none),[]),
((.s 11 (.m 0),none),[]),
((.s 12 (.nilc (.t 11)),none),[]),
((.s 13 (.fa 1 (.t 12)),none),[]),
((.s 14 (.l 13),none),[]),
((.s 5 (.alL [(.int .i64 0),(.int .i64 0)]),none),[]),
((.s 15 (.call 154 [(.t 10),(.t 14)]),none),[]),
((.s 6 (.m 15),none),[]),
((.s 16 (.ext (.t 6) 0),none),[]),
((.s 17 (.ext (.t 6) 1),none),[]),
((.s 18 (.ext (.t 6) 2),none),[]),
((.s 3 (.m 16),none),[]),
((.s 4 (.m 17),none),[]),
((.n (.st 2 (.t 5) (.t 18)),(some 5)),[])] [0,3,4,5])
(.seq
(.seq
(.reg [
.s 19 (.fa 1 (.t 5)),
.s 20 (.l 19),
.s 21 (.bin .neq (some .int) (.t 20) (.k 0))] [0,3,4,5,21])
(.cnd (.t 21)
(.seq
(.seq
(.reg [
.s 22 (.m 0),
.s 23 (.nilc (.t 22)),
.s 24 (.fa 2 (.t 23)),
.s 25 (.fa 1 (.t 24)),
.s 26 (.l 25),
.s 27 (.bin .eql (some .int) (.t 26) (.k 0))] [0,5,27])
(.cnd (.t 27)
(.reg [
.s 28 (.m 0),
.s 29 (.ld true 2 (.t 5)),
.s 30 (.nilc (.t 28)),
.s 31 (.fa 2 (.t 30)),
.n (.st 2 (.t 31) (.t 29))] [])
.skip))
(.seq
(.reg [
.s 2 (.mv (.c (.str [])))] [2])
.ret))
.skip))
(.seq
(.reg [
.s 32 (.m 0),
.s 33 (.m 4),
.s 34 (.nilc (.t 32)),
.s 35 (.fa 1 (.t 34)),
.n (.st 1 (.t 35) (.t 33))] [3])
(.seq
(.reg [
.s 36 (.m 3),
.s 2 (.m 36)] [2])
.ret))))),
[.tmp 2]⟩
/-- (*emend/emendref3.Reader).list -/
def F120 : DF := ⟨2,
(.seq
(.reg [
.s 4 (.alL [(.int .i64 0),(.str []),(.sl 1 nz []),(.sl 4 nz [])])] [0,1,4])
(.seq
(.reg [
.s 6 (.bld [(.int .i64 0),(.str []),(.sl 1 nz []),(.sl 4 nz [])] [(0,1,(.k 6))]),
.s 5 (.alL [(.int .i64 0),(.str []),(.sl 1 nz []),(.sl 4 nz [])]),
.n (.st 4 (.t 5) (.t 6))] [0,1,4,5])
(.seq
(.reg [
.s 7 (.m 0),
.s 8 (.call 155 [(.t 7),(.c (.int .u8 91))])] [0,1,4,5])
(.seq
(.reg [
.s 9 (.m 0),
.s 10 (.call 70 [(.t 9)])] [0,1,4,5])
(.seq
(.blk 0
(.seq
(.trim [0,1,4,5])
(.lop
(.seq
(.seq
(.seq
(.reg [
.s 11 (.m 0),
.s 12 (.call 72 [(.t 11)]),
.s 13 (.m 12),
.g 14 (.m 0) 13 true,
.g 15 (.call 156 [(.t 14),(.c (.int .u8 93))]) 13 true,
.g 16 (.un .not (.t 15)) 13 true,
.s 17 (.pick (.t 13) (.t 16) (.c (.bool false)))] [0,1,4,5,17])
(.cnd (.t 17)
.skip
(.exit 0)))
(.blk 1
(.seq
(.seq
(.reg [
.s 18 (.fa 3 (.t 5)),
.s 19 (.l 18),
.s 20 (.len (.t 19)),
.s 21 (.bin .gtr none (.t 20) (.k 0))] [0,1,4,5,21])
(.cnd (.t 21)
(.seq
(.reg [
.s 22 (.m 0),
.s 23 (.call 155 [(.t 22),(.c (.int .u8 44))])] [0,1,4,5])
(.reg [
.s 24 (.m 0),
.s 25 (.call 70 [(.t 24)])] [0,1,4,5]))
.skip))
(.seq
(.drw [
((.s 26 (.fa 3 (.t 5)),(some 5)),[]),
((.s 27 (.l 26),(some 5)),[]),
((.s 28 (.m 0),none),[]),
((.s 29 (.m 1),none),[]),
((.s 30 (.bin .add none (.t 29) (.k 1)),none),[]),
((.s 31 (.call 71 [(.t 28),(.t 30)]),none),[]),
((.s 32 (.bldS 4 1 (.agg [(.int .i64 0),(.str []),(.sl 1 nz []),(.sl 4 nz [])]) [(0,(.t 31))]),none),[]),
((.s 33 (.app true 25 4 72 (.t 27) (.t 32)),none),[]),
((.s 34 (.fa 3 (.t 5)),(some 5)),[]),
((.n (.st 1 (.t 34) (.t 33)),(some 5)),[])] [0,1,4,5])
(.reg [
.s 35 (.m 0),
.s 36 (.call 70 [(.t 35)])] [0,1,4,5])))))
(.trim [0,1,4,5])))))
(.seq
(.reg [
.s 37 (.m 0),
.s 38 (.call 155 [(.t 37),(.c (.int .u8 93))])] [4,5])
(.seq
(.reg [
.s 39 (.ld true 4 (.t 5)),
.n (.st 4 (.t 4) (.t 39))] [4])
.ret))))))),
[.cell 4 true 4]⟩
/-- (*emend/emendref3.Reader).record -/
def F121 : DF := ⟨2,
(.seq
(.reg [
.s 4 (.alL [(.int .i64 0),(.str []),(.sl 1 nz []),(.sl 4 nz [])])] [0,1,4])
(.seq
(.reg [
.s 9 (.bld [(.int .i64 0),(.str []),(.sl 1 nz []),(.sl 4 nz [])] [(0,1,(.k 7))]),
.s 5 (.alL [(.int .i64 0),(.str []),(.sl 1 nz []),(.sl 4 nz [])]),
.n (.st 4 (.t 5) (.t 9))] [0,1,4,5])
(.seq
(.reg [
.s 10 (.mkm),
.s 6 (.m 10)] [0,1,4,5,6])
(.seq
(.reg [
.s 11 (.m 0),
.s 12 (.call 155 [(.t 11),(.c (.int .u8 123))])] [0,1,4,5,6])
(.seq
(.reg [
.s 13 (.m 0),
.s 14 (.call 70 [(.t 13)])] [0,1,4,5,6])
(.seq
(.blk 0
(.seq
(.trim [0,1,4,5,6])
(.lop
(.seq
(.seq
(.seq
(.reg [
.s 15 (.m 0),
.s 16 (.call 72 [(.t 15)]),
.s 17 (.m 16),
.g 18 (.m 0) 17 true,
.g 19 (.call 156 [(.t 18),(.c (.int .u8 125))]) 17 true,
.g 20 (.un .not (.t 19)) 17 true,
.s 21 (.pick (.t 17) (.t 20) (.c (.bool false)))] [0,1,4,5,6,21])
(.cnd (.t 21)
.skip
(.exit 0)))
(.blk 1
(.seq
(.seq
(.reg [
.s 22 (.fa 3 (.t 5)),
.s 23 (.l 22),
.s 24 (.len (.t 23)),
.s 25 (.bin .gtr none (.t 24) (.k 0))] [0,1,4,5,6,25])
(.cnd (.t 25)
(.seq
(.reg [
.s 26 (.m 0),
.s 27 (.call 155 [(.t 26),(.c (.int .u8 44))])] [0,1,4,5,6])
(.reg [
.s 28 (.m 0),
.s 29 (.call 70 [(.t 28)])] [0,1,4,5,6]))
.skip))
(.seq
(.reg [
.s 30 (.m 0),
.s 31 (.nilc (.t 30)),
.s 32 (.fa 1 (.t 31)),
.s 33 (.l 32),
.s 7 (.m 33)] [0,1,4,5,6,7])
(.seq
(.seq
(.reg [
.s 34 (.m 0),
.s 35 (.call 156 [(.t 34),(.c (.int .u8 34))]),
.s 36 (.un .not (.t 35))] [0,1,4,5,6,7,36])
(.cnd (.t 36)
(.seq
(.reg [
.s 37 (.m 0),
.s 38 (.m 7),
.s 39 (.call 73 [(.t 37),(.k 13),(.t 38)])] [4,5])
(.seq
(.reg [
.s 40 (.ld true 4 (.t 5)),
.n (.st 4 (.t 4) (.t 40))] [4])
.ret))
.skip))
(.seq
(.reg [
.s 41 (.m 0),
.s 42 (.call 119 [(.t 41)]),
.s 8 (.m 42)] [0,1,4,5,6,7,8])
(.seq
(.seq
(.reg [
.s 43 (.m 0),
.s 44 (.call 72 [(.t 43)]),
.s 45 (.m 44),
.g 46 (.m 6) 45 true,
.g 47 (.m 8) 45 true,
.g 48 (.lkp .str (.int .i64 0) (.t 46) (.t 47) false) 45 true,
.g 49 (.bin .gtr none (.t 48) (.k 0)) 45 true,
.s 50 (.pick (.t 45) (.t 49) (.c (.bool false)))] [0,1,4,5,6,7,8,50])
(.cnd (.t 50)
(.seq
(.reg [
.s 51 (.m 0),
.s 52 (.m 7),
.s 53 (.call 73 [(.t 51),(.k 15),(.t 52)])] [4,5])
(.seq
(.reg [
.s 54 (.ld true 4 (.t 5)),
.n (.st 4 (.t 4) (.t 54))] [4])
.ret))
.skip))
(.seq
(.reg [
.s 55 (.m 6),
.s 56 (.m 8),
.n (.mup .str (.t 55) (.t 56) (.k 1))] [0,1,4,5,6,8])
(.seq
(.reg [
.s 57 (.m 0),
.s 58 (.call 70 [(.t 57)])] [0,1,4,5,6,8])
(.seq
(.reg [
.s 59 (.m 0),
.s 60 (.call 155 [(.t 59),(.c (.int .u8 58))])] [0,1,4,5,6,8])
(.seq
(.reg [
.s 61 (.m 0),
.s 62 (.call 70 [(.t 61)])] [0,1,4,5,6,8])
(.seq
(.reg [
.s 63 (.fa 2 (.t 5)),
.s 64 (.l 63),
.s 65 (.m 8),
.s 66 (.bldT 9 1 1 (.str []) [(0,(.t 65))]),
.s 67 (.app false 9 1 16 (.t 64) (.t 66)),
.s 68 (.fa 2 (.t 5)),
.n (.st 1 (.t 68) (.t 67))] [0,1,4,5,6])
(.seq
(.drw [
((.s 69 (.fa 3 (.t 5)),(some 5)),[]),
((.s 70 (.l 69),(some 5)),[]),
((.s 71 (.m 0),none),[]),
((.s 72 (.m 1),none),[]),
((.s 73 (.bin .add none (.t 72) (.k 1)),none),[]),
((.s 74 (.call 71 [(.t 71),(.t 73)]),none),[]),
((.s 75 (.bldS 4 1 (.agg [(.int .i64 0),(.str []),(.sl 1 nz []),(.sl 4 nz [])]) [(0,(.t 74))]),none),[]),
((.s 76 (.app true 25 4 72 (.t 70) (.t 75)),none),[]),
((.s 77 (.fa 3 (.t 5)),(some 5)),[]),
((.n (.st 1 (.t 77) (.t 76)),(some 5)),[])] [0,1,4,5,6])
(.reg [
.s 78 (.m 0),
.s 79 (.call 70 [(.t 78)])] [0,1,4,5,6]))))))))))))))
(.trim [0,1,4,5,6])))))
(.seq
(.reg [
.s 80 (.m 0),
.s 81 (.call 155 [(.t 80),(.c (.int .u8 125))])] [4,5])
(.seq
(.reg [
.s 82 (.ld true 4 (.t 5)),
.n (.st 4 (.t 4) (.t 82))] [4])
.ret)))))))),
[.cell 4 true 4]⟩

/-- emend/num.Split -/
def F132 : DF := ⟨1,
(.seq
(.reg [
.s 2 (.alL [(.bool false),(.str []),(.int .i64 0)]),
.s 3 (.mv (.k 0))] [0,2])
(.seq
(.reg [
.s 13 (.m 0),
.s 14 (.call 160 [(.t 13)]),
.s 12 (.m 14),
.s 15 (.ext (.t 12) 0),
.s 16 (.ext (.t 12) 1),
.s 17 (.ext (.t 12) 2),
.s 18 (.ext (.t 12) 3),
.s 19 (.ext (.t 12) 4),
.s 4 (.m 15),
.s 5 (.m 16),
.s 6 (.m 17),
.s 7 (.m 18),
.s 8 (.m 19)] [0,2,4,5,6,7,8])
(.seq
(.seq
(.reg [
.s 20 (.m 8),
.s 21 (.un .not (.t 20))] [0,2,4,5,6,7,21])
(.cnd (.t 21)
(.seq
(.reg [
.s 22 (.bld [(.bool false),(.str []),(.int .i64 0)] []),
.n (.st 3 (.t 2) (.t 22)),
.s 3 (.mv (.k 12))] [2,3])
.ret)
.skip))
(.seq
(.seq
(.reg [
.s 23 (.m 0),
.s 24 (.lenS (.t 23)),
.s 25 (.bin .gtr none (.t 24) (.k 1000))] [2,4,5,6,7,25])
(.cnd (.t 25)
(.seq
(.reg [
.s 26 (.bld [(.bool false),(.str []),(.int .i64 0)] []),
.n (.st 3 (.t 2) (.t 26)),
.s 3 (.mv (.k 2))] [2,3])
.ret)
.skip))
(.seq
(.reg [
.s 28 (.m 7),
.s 29 (.call 161 [(.t 28)]),
.s 27 (.m 29),
.s 30 (.ext (.t 27) 0),
.s 31 (.ext (.t 27) 1),
.s 9 (.m 30),
.s 8 (.m 31)] [2,4,5,6,8,9])
(.seq
(.seq
(.reg [
.s 32 (.m 8),
.s 33 (.un .not (.t 32))] [2,4,5,6,9,33])
(.cnd (.t 33)
(.seq
(.reg [
.s 34 (.bld [(.bool false),(.str []),(.int .i64 0)] []),
.n (.st 3 (.t 2) (.t 34)),
.s 3 (.mv (.k 5))] [2,3])
.ret)
.skip))
(.seq
(.reg [
.s 35 (.m 5),
.s 36 (.m 6),
.s 37 (.bin .add none (.t 35) (.t 36)),
.s 38 (.call 162 [(.t 37),(.c (.str [48]))]),
.s 10 (.m 38)] [2,4,6,9,10])
(.seq
(.reg [
.s 39 (.m 9),
.s 40 (.m 6),
.s 41 (.lenS (.t 40)),
.s 42 (.bin .sub none (.t 39) (.t 41)),
.s 9 (.m 42)] [2,4,9,10])
(.seq
(.reg [
.s 43 (.m 10),
.s 44 (.call 163 [(.t 43),(.c (.str [48]))]),
.s 11 (.m 44)] [2,4,9,10,11])
(.seq
(.reg [
.s 45 (.m 9),
.s 46 (.m 10),
.s 47 (.lenS (.t 46)),
.s 48 (.m 11),
.s 49 (.lenS (.t 48)),
.s 50 (.bin .sub none (.t 47) (.t 49)),
.s 51 (.bin .add none (.t 45) (.t 50)),
.s 9 (.m 51)] [2,4,9,11])
(.seq
(.seq
(.reg [
.s 52 (.m 11),
.s 53 (.bin .eql (some .str) (.t 52) (.c (.str [])))] [2,4,9,11,53])
(.cnd (.t 53)
(.seq
(.reg [
.s 54 (.bld [(.bool false),(.str []),(.int .i64 0)] []),
.n (.st 3 (.t 2) (.t 54)),
.s 3 (.mv (.k 0))] [2,3])
.ret)
.skip))
(.seq
(.reg [
.s 55 (.m 4),
.s 56 (.m 11),
.s 57 (.m 9),
.s 58 (.bld [(.bool false),(.str []),(.int .i64 0)] [(0,1,(.t 55)),(1,1,(.t 56)),(2,1,(.t 57))]),
.n (.st 3 (.t 2) (.t 58)),
.s 3 (.mv (.k 0))] [2,3])
.ret)))))))))))),
[.cell 2 true 3,.tmp 3]⟩
/-- emend/num.Join -/
def F133 : DF := ⟨1,
(.seq
(.reg [
.s 1 (.bxL (.t 0)),
.s 2 (.mv (.c (.str []))),
.s 3 (.mv (.k 0))] [1])
(.seq
(.reg [
.s 6 (.fa 1 (.t 1)),
.s 7 (.l 6),
.s 8 (.lenS (.t 7)),
.s 4 (.m 8)] [1,4])
(.seq
(.blk 0
(.seq
(.seq
(.reg [
.s 10 (.fa 1 (.t 1)),
.s 11 (.l 10),
.s 12 (.call 164 [(.t 11)]),
.s 13 (.m 4),
.s 14 (.bin .lss none (.t 12) (.t 13)),
.s 9 (.m 14)] [1,4,9])
(.cnd (.t 9)
.skip
(.seq
(.reg [
.s 15 (.m 4),
.s 16 (.bin .gtr none (.t 15) (.k 0)),
.s 17 (.m 16),
.g 18 (.fa 1 (.t 1)) 17 true,
.g 19 (.l 18) 17 true,
.g 20 (.ixS (.t 19) (.k 0)) 17 true,
.g 21 (.bin .eql (some .int) (.t 20) (.c (.int .u8 48))) 17 true,
.g 22 (.m 21) 17 true,
.g 23 (.fa 1 (.t 1)) 22 false,
.g 24 (.l 23) 22 false,
.g 25 (.m 4) 22 false,
.g 26 (.bin .sub none (.t 25) (.k 1)) 22 false,
.g 27 (.ixS (.t 24) (.t 26)) 22 false,
.g 28 (.bin .eql (some .int) (.t 27) (.c (.int .u8 48))) 22 false,
.g 29 (.pick (.t 22) (.c (.bool true)) (.t 28)) 17 true,
.s 30 (.pick (.t 17) (.t 29) (.c (.bool false))),
.s 9 (.m 30)] [1,4,9])
(.cnd (.t 9)
.skip
(.reg [
.s 31 (.m 4),
.s 32 (.bin .eql (some .int) (.t 31) (.k 0)),
.s 33 (.m 32),
.g 34 (.fa 2 (.t 1)) 33 true,
.g 35 (.l 34) 33 true,
.g 36 (.bin .neq (some .int) (.t 35) (.k 0)) 33 true,
.g 37 (.m 36) 33 true,
.g 38 (.fa 0 (.t 1)) 37 false,
.g 39 (.l 38) 37 false,
.g 40 (.pick (.t 37) (.c (.bool true)) (.t 39)) 33 true,
.s 41 (.pick (.t 33) (.t 40) (.c (.bool false))),
.s 9 (.m 41)] [1,4,9])))))
(.cnd (.t 9)
(.seq
(.reg [
.s 2 (.mv (.c (.str []))),
.s 3 (.mv (.k 1))] [2,3])
.ret)
(.seq
(.reg [
.s 43 (.fa 2 (.t 1)),
.s 44 (.l 43),
.s 45 (.bin .lss none (.t 44) (.k (-999999))),
.s 46 (.m 45),
.g 47 (.fa 2 (.t 1)) 46 false,
.g 48 (.l 47) 46 false,
.g 49 (.bin .gtr none (.t 48) (.k 999999)) 46 false,
.s 50 (.pick (.t 46) (.c (.bool true)) (.t 49)),
.s 42 (.m 50)] [1,4,42])
(.cnd (.t 42)
(.seq
(.reg [
.s 2 (.mv (.c (.str []))),
.s 3 (.mv (.k 5))] [2,3])
.ret)
(.seq
(.reg [
.s 52 (.m 4),
.s 53 (.bin .eql (some .int) (.t 52) (.k 0)),
.s 51 (.m 53)] [1,51])
(.cnd (.t 51)
(.seq
(.reg [
.s 2 (.mv (.c (.str [48]))),
.s 3 (.mv (.k 0))] [2,3])
.ret)
.skip)))))))
(.seq
(.reg [
.s 54 (.fa 1 (.t 1)),
.s 55 (.l 54),
.s 5 (.m 55)] [1,5])
(.seq
(.seq
(.reg [
.s 56 (.fa 0 (.t 1)),
.s 57 (.l 56)] [1,5,57])
(.cnd (.t 57)
(.reg [
.s 58 (.m 5),
.s 59 (.bin .add none (.c (.str [45])) (.t 58)),
.s 5 (.m 59)] [1,5])
.skip))
(.seq
(.seq
(.reg [
.s 60 (.fa 2 (.t 1)),
.s 61 (.l 60),
.s 62 (.bin .neq (some .int) (.t 61) (.k 0))] [1,5,62])
(.cnd (.t 62)
(.reg [
.s 63 (.m 5),
.s 64 (.fa 2 (.t 1)),
.s 65 (.l 64),
.s 66 (.call 165 [(.t 65)]),
.s 67 (.bin .add none (.c (.str [101])) (.t 66)),
.s 68 (.bin .add none (.t 63) (.t 67)),
.s 5 (.m 68)] [5])
.skip))
(.seq
(.seq
(.reg [
.s 69 (.m 5),
.s 70 (.lenS (.t 69)),
.s 71 (.bin .gtr none (.t 70) (.k 1000))] [5,71])
(.cnd (.t 71)
(.seq
(.reg [
.s 2 (.mv (.c (.str []))),
.s 3 (.mv (.k 2))] [2,3])
.ret)
.skip))
(.seq
(.reg [
.s 72 (.m 5),
.s 2 (.m 72),
.s 3 (.mv (.k 0))] [2,3])
.ret)))))))),
[.tmp 2,.tmp 3]⟩
/-- emend/tree.date -/
def F134 : DF := ⟨1,
(.seq
(.reg [
.s 2 (.mv (.c (.bool false)))] [0])
(.seq
(.seq
(.reg [
.s 3 (.m 0),
.s 4 (.lenS (.t 3)),
.s 5 (.bin .neq (some .int) (.t 4) (.k 10)),
.s 6 (.m 5),
.g 7 (.m 0) 6 false,
.g 8 (.ixS (.t 7) (.k 4)) 6 false,
.g 9 (.bin .neq (some .int) (.t 8) (.c (.int .u8 45))) 6 false,
.s 10 (.pick (.t 6) (.c (.bool true)) (.t 9)),
.s 11 (.m 10),
.g 12 (.m 0) 11 false,
.g 13 (.ixS (.t 12) (.k 7)) 11 false,
.g 14 (.bin .neq (some .int) (.t 13) (.c (.int .u8 45))) 11 false,
.s 15 (.pick (.t 11) (.c (.bool true)) (.t 14)),
.s 16 (.m 15),
.g 17 (.m 0) 16 false,
.g 18 (.slS (.t 17) none (some (.k 2))) 16 false,
.g 19 (.call 166 [(.t 18)]) 16 false,
.g 20 (.bin .lss none (.t 19) (.k 0)) 16 false,
.s 21 (.pick (.t 16) (.c (.bool true)) (.t 20)),
.s 22 (.m 21),
.g 23 (.m 0) 22 false,
.g 24 (.slS (.t 23) (some (.k 2)) (some (.k 4))) 22 false,
.g 25 (.call 166 [(.t 24)]) 22 false,
.g 26 (.bin .lss none (.t 25) (.k 0)) 22 false,
.s 27 (.pick (.t 22) (.c (.bool true)) (.t 26)),
.s 28 (.m 27),
.g 29 (.m 0) 28 false,
.g 30 (.slS (.t 29) (some (.k 5)) (some (.k 7))) 28 false,
.g 31 (.call 167 [(.t 30),(.k 1),(.k 12)]) 28 false,
.g 32 (.un .not (.t 31)) 28 false,
.s 33 (.pick (.t 28) (.c (.bool true)) (.t 32))] [0,33])
(.cnd (.t 33)
(.seq
(.reg [
.s 2 (.mv (.c (.bool false)))] [2])
.ret)
.skip))
(.seq
(.drw [
((.s 34 (.m 0),none),[]),
((.s 35 (.slS (.t 34) (some (.k 8)) none),none),[]),
((.s 36 (.m 0),none),[]),
((.s 37 (.slS (.t 36) none (some (.k 2))),none),[]),
((.s 40 (.m 0),none),[]),
((.s 41 (.slS (.t 40) (some (.k 2)) (some (.k 4))),none),[]),
((.s 44 (.m 0),none),[]),
((.s 45 (.slS (.t 44) (some (.k 5)) (some (.k 7))),none),[]),
((.s 38 (.call 166 [(.t 37)]),none),[]),
((.s 39 (.bin .mul none (.t 38) (.k 100)),none),[]),
((.s 42 (.call 166 [(.t 41)]),none),[]),
((.s 43 (.bin .add none (.t 39) (.t 42)),none),[]),
((.s 46 (.call 166 [(.t 45)]),none),[]),
((.s 47 (.call 168 [(.t 43),(.t 46)]),none),[]),
((.s 48 (.call 167 [(.t 35),(.k 1),(.t 47)]),none),[]),
((.s 2 (.m 48),none),[])] [2])
.ret))),
[.tmp 2]⟩
/-- emend/tree.clock -/
def F135 : DF := ⟨1,
(.seq
(.reg [
.s 2 (.mv (.c (.bool false)))] [0])
(.seq
(.seq
(.reg [
.s 4 (.m 0),
.s 5 (.lenS (.t 4)),
.s 6 (.bin .lss none (.t 5) (.k 8)),
.s 7 (.m 6),
.g 8 (.m 0) 7 false,
.g 9 (.ixS (.t 8) (.k 2)) 7 false,
.g 10 (.bin .neq (some .int) (.t 9) (.c (.int .u8 58))) 7 false,
.s 11 (.pick (.t 7) (.c (.bool true)) (.t 10)),
.s 12 (.m 11),
.g 13 (.m 0) 12 false,
.g 14 (.ixS (.t 13) (.k 5)) 12 false,
.g 15 (.bin .neq (some .int) (.t 14) (.c (.int .u8 58))) 12 false,
.s 16 (.pick (.t 12) (.c (.bool true)) (.t 15)),
.s 17 (.m 16),
.g 18 (.m 0) 17 false,
.g 19 (.slS (.t 18) none (some (.k 2))) 17 false,
.g 20 (.call 167 [(.t 19),(.k 0),(.k 23)]) 17 false,
.g 21 (.un .not (.t 20)) 17 false,
.s 22 (.pick (.t 17) (.c (.bool true)) (.t 21)),
.s 23 (.m 22),
.g 24 (.m 0) 23 false,
.g 25 (.slS (.t 24) (some (.k 3)) (some (.k 5))) 23 false,
.g 26 (.call 167 [(.t 25),(.k 0),(.k 59)]) 23 false,
.g 27 (.un .not (.t 26)) 23 false,
.s 28 (.pick (.t 23) (.c (.bool true)) (.t 27)),
.s 29 (.m 28),
.g 30 (.m 0) 29 false,
.g 31 (.slS (.t 30) (some (.k 6)) (some (.k 8))) 29 false,
.g 32 (.call 167 [(.t 31),(.k 0),(.k 59)]) 29 false,
.g 33 (.un .not (.t 32)) 29 false,
.s 34 (.pick (.t 29) (.c (.bool true)) (.t 33))] [0,34])
(.cnd (.t 34)
(.seq
(.reg [
.s 2 (.mv (.c (.bool false)))] [2])
.ret)
.skip))
(.seq
(.seq
(.reg [
.s 35 (.m 0),
.s 36 (.lenS (.t 35)),
.s 37 (.bin .eql (some .int) (.t 36) (.k 8))] [0,37])
(.cnd (.t 37)
(.seq
(.reg [
.s 2 (.mv (.c (.bool true)))] [2])
.ret)
.skip))
(.seq
(.reg [
.s 38 (.m 0),
.s 39 (.slS (.t 38) (some (.k 9)) none),
.s 3 (.m 39)] [0,3])
(.seq
(.reg [
.s 40 (.m 0),
.s 41 (.ixS (.t 40) (.k 8)),
.s 42 (.bin .eql (some .int) (.t 41) (.c (.int .u8 46))),
.s 43 (.m 42),
.g 44 (.m 3) 43 true,
.g 45 (.lenS (.t 44)) 43 true,
.g 46 (.bin .geq none (.t 45) (.k 1)) 43 true,
.s 47 (.pick (.t 43) (.t 46) (.c (.bool false))),
.s 48 (.m 47),
.g 49 (.m 3) 48 true,
.g 50 (.lenS (.t 49)) 48 true,
.g 51 (.bin .leq none (.t 50) (.k 9)) 48 true,
.s 52 (.pick (.t 48) (.t 51) (.c (.bool false))),
.s 53 (.m 52),
.g 54 (.m 3) 53 true,
.g 55 (.call 169 [(.t 54),(.c (.str [48,49,50,51,52,53,54,55,56,57]))]) 53 true,
.g 56 (.bin .eql (some .str) (.t 55) (.c (.str []))) 53 true,
.s 57 (.pick (.t 53) (.t 56) (.c (.bool false))),
.s 2 (.m 57)] [2])
.ret))))),
[.tmp 2]⟩
/-- emend/tree.zone -/
def F136 : DF := ⟨1,
(.seq
(.reg [
.s 2 (.mv (.c (.str []))),
.s 3 (.mv (.c (.str [])))] [0])
(.seq
(.seq
(.reg [
.s 5 (.m 0),
.s 6 (.call 170 [(.t 5),(.c (.str [90]))])] [0,6])
(.cnd (.t 6)
(.seq
(.reg [
.s 7 (.m 0),
.s 8 (.m 0),
.s 9 (.lenS (.t 8)),
.s 10 (.bin .sub none (.t 9) (.k 1)),
.s 11 (.slS (.t 7) none (some (.t 10))),
.s 2 (.m 11),
.s 3 (.mv (.c (.str [90])))] [2,3])
.ret)
.skip))
(.seq
(.seq
(.reg [
.s 12 (.m 0),
.s 13 (.lenS (.t 12)),
.s 14 (.bin .lss none (.t 13) (.k 6)),
.s 15 (.m 14),
.g 16 (.m 0) 15 false,
.g 17 (.m 0) 15 false,
.g 18 (.lenS (.t 17)) 15 false,
.g 19 (.bin .sub none (.t 18) (.k 6)) 15 false,
.g 20 (.ixS (.t 16) (.t 19)) 15 false,
.g 21 (.bin .neq (some .int) (.t 20) (.c (.int .u8 43))) 15 false,
.g 22 (.m 21) 15 false,
.g 23 (.m 0) 22 true,
.g 24 (.m 0) 22 true,
.g 25 (.lenS (.t 24)) 22 true,
.g 26 (.bin .sub none (.t 25) (.k 6)) 22 true,
.g 27 (.ixS (.t 23) (.t 26)) 22 true,
.g 28 (.bin .neq (some .int) (.t 27) (.c (.int .u8 45))) 22 true,
.g 29 (.pick (.t 22) (.t 28) (.c (.bool false))) 15 false,
.s 30 (.pick (.t 15) (.c (.bool true)) (.t 29))] [0,30])
(.cnd (.t 30)
(.seq
(.reg [
.s 31 (.m 0),
.s 2 (.m 31),
.s 3 (.mv (.c (.str [])))] [2,3])
.ret)
.skip))
(.seq
(.reg [
.s 32 (.m 0),
.s 33 (.m 0),
.s 34 (.lenS (.t 33)),
.s 35 (.bin .sub none (.t 34) (.k 6)),
.s 36 (.slS (.t 32) (some (.t 35)) none),
.s 4 (.m 36)] [0,4])
(.seq
(.seq
(.reg [
.s 37 (.m 4),
.s 38 (.ixS (.t 37) (.k 3)),
.s 39 (.bin .neq (some .int) (.t 38) (.c (.int .u8 58))),
.s 40 (.m 39),
.g 41 (.m 4) 40 false,
.g 42 (.slS (.t 41) (some (.k 1)) (some (.k 3))) 40 false,
.g 43 (.call 167 [(.t 42),(.k 0),(.k 23)]) 40 false,
.g 44 (.un .not (.t 43)) 40 false,
.s 45 (.pick (.t 40) (.c (.bool true)) (.t 44)),
.s 46 (.m 45),
.g 47 (.m 4) 46 false,
.g 48 (.slS (.t 47) (some (.k 4)) none) 46 false,
.g 49 (.call 167 [(.t 48),(.k 0),(.k 59)]) 46 false,
.g 50 (.un .not (.t 49)) 46 false,
.s 51 (.pick (.t 46) (.c (.bool true)) (.t 50))] [0,4,51])
(.cnd (.t 51)
(.seq
(.reg [
.s 52 (.m 0),
.s 2 (.m 52),
.s 3 (.mv (.c (.str [])))] [2,3])
.ret)
.skip))
(.seq
(.reg [
.s 53 (.m 0),
.s 54 (.m 0),
.s 55 (.lenS (.t 54)),
.s 56 (.bin .sub none (.t 55) (.k 6)),
.s 57 (.slS (.t 53) none (some (.t 56))),
.s 58 (.m 4),
.s 2 (.m 57),
.s 3 (.m 58)] [2,3])
.ret)))))),
[.tmp 2,.tmp 3]⟩
/-- strings.Cut -/
def F137 : DF := ⟨2,
(.seq
(.reg [
.s 4 (.mv (.c (.str []))),
.s 5 (.mv (.c (.str []))),
.s 6 (.mv (.c (.bool false)))] [0,1])
(.seq
(.reg [
.s 7 (.m 0),
.s 8 (.m 1),
.s 9 (.call 171 [(.t 7),(.t 8)]),
.s 10 (.ext (.t 9) 0),
.s 11 (.ext (.t 9) 1),
.s 12 (.ext (.t 9) 2),
.s 4 (.m 10),
.s 5 (.m 11),
.s 6 (.m 12)] [4,5,6])
.ret)),
[.tmp 4,.tmp 5,.tmp 6]⟩
/-- emend/text.First -/
def F138 : DF := ⟨1,
(.seq
(.reg [
.s 2 (.mv (.k 0)),
.s 3 (.mv (.k 0))] [0])
(.seq
(.seq
(.reg [
.s 6 (.m 0),
.s 7 (.bin .eql (some .str) (.t 6) (.c (.str [])))] [0,7])
(.cnd (.t 7)
(.seq
(.reg [
.s 2 (.mv (.k 0)),
.s 3 (.mv (.k 0))] [2,3])
.ret)
.skip))
(.seq
(.reg [
.s 9 (.m 0),
.s 10 (.ixS (.t 9) (.k 0)),
.s 11 (.call 172 [(.t 10)]),
.s 8 (.m 11),
.s 12 (.ext (.t 8) 0),
.s 13 (.ext (.t 8) 1),
.s 14 (.ext (.t 8) 2),
.s 3 (.m 12),
.s 2 (.m 13),
.s 4 (.m 14)] [0,2,3,4])
(.seq
(.seq
(.reg [
.s 15 (.m 3),
.s 16 (.bin .eql (some .int) (.t 15) (.k 0)),
.s 17 (.m 16),
.g 18 (.m 3) 17 false,
.g 19 (.m 0) 17 false,
.g 20 (.lenS (.t 19)) 17 false,
.g 21 (.bin .gtr none (.t 18) (.t 20)) 17 false,
.s 22 (.pick (.t 17) (.c (.bool true)) (.t 21))] [0,2,3,4,22])
(.cnd (.t 22)
(.seq
(.reg [
.s 2 (.mv (.k 0)),
.s 3 (.mv (.k 0))] [2,3])
.ret)
.skip))
(.seq
(.seq
(.reg [
.s 5 (.mv (.k 1))] [0,2,3,4,5])
(.blk 0
(.seq
(.trim [0,2,3,4,5])
(.lop
(.seq
(.seq
(.seq
(.reg [
.s 23 (.m 5),
.s 24 (.m 3),
.s 25 (.bin .lss none (.t 23) (.t 24))] [0,2,3,4,5,25])
(.cnd (.t 25)
.skip
(.exit 0)))
(.seq
(.blk 1
(.seq
(.seq
(.reg [
.s 28 (.m 0),
.s 29 (.m 5),
.s 30 (.ixS (.t 28) (.t 29)),
.s 31 (.bin .shr none (.t 30) (.c (.int .u64 6))),
.s 32 (.bin .neq (some .int) (.t 31) (.c (.int .u8 2)))] [0,2,3,4,5,32])
(.cnd (.t 32)
(.seq
(.reg [
.s 2 (.mv (.k 0)),
.s 3 (.mv (.k 0))] [2,3])
.ret)
.skip))
(.reg [
.s 33 (.m 2),
.s 34 (.bin .shl none (.t 33) (.c (.int .u64 6))),
.s 35 (.m 0),
.s 36 (.m 5),
.s 37 (.ixS (.t 35) (.t 36)),
.s 38 (.bin .and none (.t 37) (.c (.int .u8 63))),
.s 39 (.cvI .i64 (.t 38)),
.s 40 (.bin .or none (.t 34) (.t 39)),
.s 2 (.m 40)] [0,2,3,4,5])))
(.reg [
.s 26 (.m 5),
.s 27 (.bin .add none (.t 26) (.k 1)),
.s 5 (.m 27)] [0,2,3,4,5])))
(.trim [0,2,3,4,5]))))))
(.seq
(.seq
(.reg [
.s 41 (.m 2),
.s 42 (.m 4),
.s 43 (.bin .lss none (.t 41) (.t 42)),
.s 44 (.m 43),
.g 45 (.m 2) 44 false,
.g 46 (.call 173 [(.t 45)]) 44 false,
.g 47 (.un .not (.t 46)) 44 false,
.s 48 (.pick (.t 44) (.c (.bool true)) (.t 47))] [2,3,48])
(.cnd (.t 48)
(.seq
(.reg [
.s 2 (.mv (.k 0)),
.s 3 (.mv (.k 0))] [2,3])
.ret)
.skip))
(.seq
(.reg [
.s 49 (.m 2),
.s 50 (.m 3),
.s 2 (.m 49),
.s 3 (.m 50)] [2,3])
.ret))))))),
[.tmp 2,.tmp 3]⟩
/-- emend/text.Quoted -/
def F139 : DF := ⟨1,
(.seq
(.reg [
.s 2 (.mv (.c (.str []))),
.s 3 (.mv (.k 0)),
.s 4 (.mv (.c .nilp))] [0])
(.seq
(.seq
(.reg [
.s 10 (.m 0),
.s 11 (.bin .eql (some .str) (.t 10) (.c (.str [])))] [0,11])
(.cnd (.t 11)
(.seq
(.reg [
.s 12 (.call 85 [(.k 0),(.k 14)]),
.s 2 (.mv (.c (.str []))),
.s 3 (.mv (.k 0)),
.s 4 (.m 12)] [2,3,4])
.ret)
.skip))
(.seq
(.seq
(.reg [
.s 13 (.m 0),
.s 14 (.ixS (.t 13) (.k 0)),
.s 15 (.bin .neq (some .int) (.t 14) (.c (.int .u8 34)))] [0,15])
(.cnd (.t 15)
(.seq
(.reg [
.s 16 (.call 85 [(.k 0),(.k 13)]),
.s 2 (.mv (.c (.str []))),
.s 3 (.mv (.k 0)),
.s 4 (.m 16)] [2,3,4])
.ret)
.skip))
(.seq
(.reg [
.s 5 (.mv (.c (.sl 1 nz [])))] [0,5])
(.seq
(.seq
(.reg [
.s 6 (.mv (.k 1))] [0,5,6])
(.blk 0
(.seq
(.trim [0,5,6])
(.lop
(.seq
(.seq
(.seq
(.reg [
.s 17 (.m 6),
.s 18 (.m 0),
.s 19 (.lenS (.t 18)),
.s 20 (.bin .lss none (.t 17) (.t 19))] [0,5,6,20])
(.cnd (.t 20)
.skip
(.exit 0)))
(.blk 1
(.seq
(.reg [
.s 21 (.m 0),
.s 22 (.m 6),
.s 23 (.ixS (.t 21) (.t 22)),
.s 7 (.m 23)] [0,5,6,7])
(.blk 2
(.seq
(.reg [
.s 31 (.m 7),
.s 32 (.bin .eql (some .int) (.t 31) (.c (.int .u8 34))),
.s 30 (.m 32)] [0,5,6,7,30])
(.cnd (.t 30)
(.seq
(.reg [
.s 33 (.m 5),
.s 34 (.cvBS (.t 33)),
.s 35 (.m 6),
.s 36 (.bin .add none (.t 35) (.k 1)),
.s 2 (.m 34),
.s 3 (.m 36),
.s 4 (.mv (.c .nilp))] [2,3,4])
.ret)
(.seq
(.reg [
.s 38 (.m 7),
.s 39 (.bin .lss none (.t 38) (.c (.int .u8 32))),
.s 37 (.m 39)] [0,5,6,7,37])
(.cnd (.t 37)
(.seq
(.reg [
.s 40 (.m 6),
.s 41 (.call 85 [(.t 40),(.k 13)]),
.s 2 (.mv (.c (.str []))),
.s 3 (.mv (.k 0)),
.s 4 (.m 41)] [2,3,4])
.ret)
(.seq
(.reg [
.s 43 (.m 7),
.s 44 (.bin .eql (some .int) (.t 43) (.c (.int .u8 92))),
.s 42 (.m 44)] [0,5,6,7,42])
(.cnd (.t 42)
(.seq
(.reg [
.s 46 (.m 0),
.s 47 (.m 6),
.s 48 (.bin .add none (.t 47) (.k 1)),
.s 49 (.slS (.t 46) (some (.t 48)) none),
.s 50 (.call 174 [(.t 49)]),
.s 45 (.m 50),
.s 51 (.ext (.t 45) 0),
.s 52 (.ext (.t 45) 1),
.s 8 (.m 51),
.s 9 (.m 52)] [0,5,6,8,9])
(.seq
(.seq
(.reg [
.s 53 (.m 9),
.s 54 (.bin .eql (some .int) (.t 53) (.k 0))] [0,5,6,8,9,54])
(.cnd (.t 54)
(.seq
(.reg [
.s 55 (.m 6),
.s 56 (.call 85 [(.t 55),(.k 11)]),
.s 2 (.mv (.c (.str []))),
.s 3 (.mv (.k 0)),
.s 4 (.m 56)] [2,3,4])
.ret)
.skip))
(.seq
(.reg [
.s 57 (.m 5),
.s 58 (.m 8),
.s 59 (.call 175 [(.t 57),(.t 58)]),
.s 5 (.m 59)] [0,5,6,9])
(.reg [
.s 60 (.m 6),
.s 61 (.m 9),
.s 62 (.bin .add none (.k 1) (.t 61)),
.s 63 (.bin .add none (.t 60) (.t 62)),
.s 6 (.m 63)] [0,5,6]))))
(.seq
(.reg [
.s 24 (.m 5),
.s 25 (.m 7),
.s 26 (.bldT 5 1 1 (.int .u8 0) [(0,(.t 25))]),
.s 27 (.app false 5 1 1 (.t 24) (.t 26)),
.s 5 (.m 27)] [0,5,6])
(.reg [
.s 28 (.m 6),
.s 29 (.bin .add none (.t 28) (.k 1)),
.s 6 (.m 29)] [0,5,6]))))))))))))
(.trim [0,5,6]))))))
(.seq
(.reg [
.s 64 (.m 0),
.s 65 (.lenS (.t 64)),
.s 66 (.call 85 [(.t 65),(.k 14)]),
.s 2 (.mv (.c (.str []))),
.s 3 (.mv (.k 0)),
.s 4 (.m 66)] [2,3,4])
.ret)))))),
[.tmp 2,.tmp 3,.tmp 4]⟩
/-- (*emend/tree.Place).Must -/
def F140 : DF := ⟨2,
(.seq
(.seq
(.reg [
.s 4 (.m 0),
.s 5 (.m 1),
.s 6 (.call 90 [(.t 4),(.t 5)]),
.s 7 (.un .not (.t 6))] [0,7])
(.cnd (.t 7)
(.reg [
.s 8 (.m 0),
.s 9 (.call 55 [(.t 8)])] [0])
.skip))
(.reg [
.s 10 (.m 0),
.s 11 (.nilc (.t 10)),
.s 12 (.fa 1 (.t 11)),
.s 13 (.l 12),
.s 14 (.bin .add none (.t 13) (.k 1)),
.s 15 (.nilc (.t 10)),
.s 16 (.fa 1 (.t 15)),
.n (.st 1 (.t 16) (.t 14))] [])),
[]⟩
/-- emend/tree.Digit -/
def F141 : DF := ⟨1,
(.seq
(.reg [
.s 2 (.mv (.c (.bool false)))] [0])
(.seq
(.reg [
.s 3 (.m 0),
.s 4 (.bin .geq none (.t 3) (.c (.int .u8 48))),
.s 5 (.m 4),
.g 6 (.m 0) 5 true,
.g 7 (.bin .leq none (.t 6) (.c (.int .u8 57))) 5 true,
.s 8 (.pick (.t 5) (.t 7) (.c (.bool false))),
.s 2 (.m 8)] [2])
.ret)),
[.tmp 2]⟩
/-- emend/tree.Letter -/
def F142 : DF := ⟨1,
(.seq
(.reg [
.s 2 (.mv (.c (.bool false)))] [0])
(.seq
(.reg [
.s 3 (.m 0),
.s 4 (.bin .geq none (.t 3) (.c (.int .u8 97))),
.s 5 (.m 4),
.g 6 (.m 0) 5 true,
.g 7 (.bin .leq none (.t 6) (.c (.int .u8 122))) 5 true,
.s 8 (.pick (.t 5) (.t 7) (.c (.bool false))),
.s 9 (.m 8),
.g 10 (.m 0) 9 false,
.g 11 (.bin .geq none (.t 10) (.c (.int .u8 65))) 9 false,
.g 12 (.m 11) 9 false,
.g 13 (.m 0) 12 true,
.g 14 (.bin .leq none (.t 13) (.c (.int .u8 90))) 12 true,
.g 15 (.pick (.t 12) (.t 14) (.c (.bool false))) 9 false,
.s 16 (.pick (.t 9) (.c (.bool true)) (.t 15)),
.s 2 (.m 16)] [2])
.ret)),
[.tmp 2]⟩

/-- emend/emendref2.run -/
def F146 : DF := ⟨2,
(.seq
(.reg [
.s 4 (.mv (.k 0))] [0,1])
(.seq
(.blk 0
(.seq
(.trim [0,1])
(.lop
(.seq
(.seq
(.seq
(.reg [
.s 5 (.m 1),
.s 6 (.m 0),
.s 7 (.lenS (.t 6)),
.s 8 (.bin .lss none (.t 5) (.t 7)),
.s 9 (.m 8),
.g 10 (.m 0) 9 true,
.g 11 (.m 1) 9 true,
.g 12 (.ixS (.t 10) (.t 11)) 9 true,
.g 13 (.call 147 [(.t 12)]) 9 true,
.s 14 (.pick (.t 9) (.t 13) (.c (.bool false)))] [0,1,14])
(.cnd (.t 14)
.skip
(.exit 0)))
(.blk 1
(.reg [
.s 15 (.m 1),
.s 16 (.bin .add none (.t 15) (.k 1)),
.s 1 (.m 16)] [0,1])))
(.trim [0,1])))))
(.seq
(.reg [
.s 17 (.m 1),
.s 4 (.m 17)] [4])
.ret))),
[.tmp 4]⟩
/-- emend/emendref2.digit -/
def F147 : DF := ⟨1,
(.seq
(.reg [
.s 2 (.mv (.c (.bool false)))] [0])
(.seq
(.reg [
.s 3 (.m 0),
.s 4 (.bin .geq none (.t 3) (.c (.int .u8 48))),
.s 5 (.m 4),
.g 6 (.m 0) 5 true,
.g 7 (.bin .leq none (.t 6) (.c (.int .u8 57))) 5 true,
.s 8 (.pick (.t 5) (.t 7) (.c (.bool false))),
.s 2 (.m 8)] [2])
.ret)),
[.tmp 2]⟩
/-- emend/emendref2.Decimal -/
def F148 : DF := ⟨1,
(.seq
(.reg [
.s 2 (.mv (.c (.str [])))] [0])
(.seq
(.seq
(.reg [
.s 5 (.m 0),
.s 6 (.bin .geq none (.t 5) (.k 0))] [0,6])
(.cnd (.t 6)
(.seq
(.reg [
.s 7 (.m 0),
.s 8 (.call 178 [(.t 7)]),
.s 2 (.m 8)] [2])
.ret)
.skip))
(.seq
(.reg [
.s 9 (.m 0),
.s 10 (.cvI .u64 (.t 9)),
.s 11 (.bin .sub none (.c (.int .u64 0)) (.t 10)),
.s 3 (.m 11)] [3])
(.seq
(.reg [
.s 12 (.m 3),
.s 13 (.bin .rem none (.t 12) (.c (.int .u64 10))),
.s 14 (.cvI .i64 (.t 13)),
.s 15 (.call 178 [(.t 14)]),
.s 4 (.m 15)] [3,4])
(.seq
(.seq
(.reg [
.s 16 (.m 3),
.s 17 (.bin .geq none (.t 16) (.c (.int .u64 10)))] [3,4,17])
(.cnd (.t 17)
(.reg [
.s 18 (.m 3),
.s 19 (.bin .quo none (.t 18) (.c (.int .u64 10))),
.s 20 (.cvI .i64 (.t 19)),
.s 21 (.call 178 [(.t 20)]),
.s 22 (.m 4),
.s 23 (.bin .add none (.t 21) (.t 22)),
.s 4 (.m 23)] [4])
.skip))
(.seq
(.reg [
.s 24 (.m 4),
.s 25 (.bin .add none (.c (.str [45])) (.t 24)),
.s 2 (.m 25)] [2])
.ret)))))),
[.tmp 2]⟩
/-- emend/emendref1.One -/
def F149 : DF := ⟨2,
(.seq
(.reg [
.s 4 (.mv (.k 0)),
.s 5 (.mv (.k 0))] [0,1])
(.seq
(.reg [
.s 12 (.m 0),
.s 13 (.m 1),
.s 14 (.ixS (.t 12) (.t 13)),
.s 15 (.cvI .i64 (.t 14)),
.s 6 (.m 15)] [0,1,6])
(.seq
(.seq
(.reg [
.s 16 (.m 6),
.s 17 (.bin .lss none (.t 16) (.k 128))] [0,1,6,17])
(.cnd (.t 17)
(.seq
(.reg [
.s 18 (.m 6),
.s 4 (.m 18),
.s 5 (.mv (.k 1))] [4,5])
.ret)
.skip))
(.seq
(.reg [
.s 7 (.mv (.k 0))] [0,1,6,7])
(.seq
(.reg [
.s 8 (.mv (.k 0))] [0,1,6,7,8])
(.seq
(.reg [
.s 9 (.mv (.k 0))] [0,1,6,7,8,9])
(.seq
(.blk 0
(.seq
(.reg [
.s 20 (.m 6),
.s 21 (.bin .geq none (.t 20) (.k 192)),
.s 22 (.m 21),
.g 23 (.m 6) 22 true,
.g 24 (.bin .lss none (.t 23) (.k 224)) 22 true,
.s 25 (.pick (.t 22) (.t 24) (.c (.bool false))),
.s 19 (.m 25)] [0,1,6,7,8,9,19])
(.cnd (.t 19)
(.seq
(.reg [
.s 7 (.mv (.k 2))] [0,1,6,7])
(.seq
(.reg [
.s 8 (.mv (.k 128))] [0,1,6,7,8])
(.reg [
.s 26 (.m 6),
.s 27 (.bin .sub none (.t 26) (.k 192)),
.s 9 (.m 27)] [0,1,7,8,9])))
(.seq
(.reg [
.s 29 (.m 6),
.s 30 (.bin .geq none (.t 29) (.k 224)),
.s 31 (.m 30),
.g 32 (.m 6) 31 true,
.g 33 (.bin .lss none (.t 32) (.k 240)) 31 true,
.s 34 (.pick (.t 31) (.t 33) (.c (.bool false))),
.s 28 (.m 34)] [0,1,6,7,8,9,28])
(.cnd (.t 28)
(.seq
(.reg [
.s 7 (.mv (.k 3))] [0,1,6,7])
(.seq
(.reg [
.s 8 (.mv (.k 2048))] [0,1,6,7,8])
(.reg [
.s 35 (.m 6),
.s 36 (.bin .sub none (.t 35) (.k 224)),
.s 9 (.m 36)] [0,1,7,8,9])))
(.seq
(.reg [
.s 38 (.m 6),
.s 39 (.bin .geq none (.t 38) (.k 240)),
.s 40 (.m 39),
.g 41 (.m 6) 40 true,
.g 42 (.bin .lss none (.t 41) (.k 248)) 40 true,
.s 43 (.pick (.t 40) (.t 42) (.c (.bool false))),
.s 37 (.m 43)] [0,1,6,7,8,9,37])
(.cnd (.t 37)
(.seq
(.reg [
.s 7 (.mv (.k 4))] [0,1,6,7])
(.seq
(.reg [
.s 8 (.mv (.k 65536))] [0,1,6,7,8])
(.reg [
.s 44 (.m 6),
.s 45 (.bin .sub none (.t 44) (.k 240)),
.s 9 (.m 45)] [0,1,7,8,9])))
.skip)))))))
(.seq
(.seq
(.reg [
.s 46 (.m 7),
.s 47 (.bin .eql (some .int) (.t 46) (.k 0)),
.s 48 (.m 47),
.g 49 (.m 1) 48 false,
.g 50 (.m 7) 48 false,
.g 51 (.bin .add none (.t 49) (.t 50)) 48 false,
.g 52 (.m 0) 48 false,
.g 53 (.lenS (.t 52)) 48 false,
.g 54 (.bin .gtr none (.t 51) (.t 53)) 48 false,
.s 55 (.pick (.t 48) (.c (.bool true)) (.t 54))] [0,1,7,8,9,55])
(.cnd (.t 55)
(.seq
(.reg [
.s 4 (.mv (.k 0)),
.s 5 (.mv (.k 0))] [4,5])
.ret)
.skip))
(.seq
(.seq
(.reg [
.s 10 (.mv (.k 1))] [0,1,7,8,9,10])
(.blk 1
(.seq
(.trim [0,1,7,8,9,10])
(.lop
(.seq
(.seq
(.seq
(.reg [
.s 56 (.m 10),
.s 57 (.m 7),
.s 58 (.bin .lss none (.t 56) (.t 57))] [0,1,7,8,9,10,58])
(.cnd (.t 58)
.skip
(.exit 1)))
(.seq
(.blk 2
(.seq
(.reg [
.s 61 (.m 0),
.s 62 (.m 1),
.s 63 (.m 10),
.s 64 (.bin .add none (.t 62) (.t 63)),
.s 65 (.ixS (.t 61) (.t 64)),
.s 66 (.cvI .i64 (.t 65)),
.s 11 (.m 66)] [0,1,7,8,9,10,11])
(.seq
(.seq
(.reg [
.s 67 (.m 11),
.s 68 (.bin .lss none (.t 67) (.k 128)),
.s 69 (.m 68),
.g 70 (.m 11) 69 false,
.g 71 (.bin .geq none (.t 70) (.k 192)) 69 false,
.s 72 (.pick (.t 69) (.c (.bool true)) (.t 71))] [0,1,7,8,9,10,11,72])
(.cnd (.t 72)
(.seq
(.reg [
.s 4 (.mv (.k 0)),
.s 5 (.mv (.k 0))] [4,5])
.ret)
.skip))
(.reg [
.s 73 (.m 9),
.s 74 (.bin .mul none (.t 73) (.k 64)),
.s 75 (.m 11),
.s 76 (.bin .add none (.t 74) (.t 75)),
.s 77 (.bin .sub none (.t 76) (.k 128)),
.s 9 (.m 77)] [0,1,7,8,9,10]))))
(.reg [
.s 59 (.m 10),
.s 60 (.bin .add none (.t 59) (.k 1)),
.s 10 (.m 60)] [0,1,7,8,9,10])))
(.trim [0,1,7,8,9,10]))))))
(.seq
(.seq
(.reg [
.s 78 (.m 9),
.s 79 (.m 8),
.s 80 (.bin .lss none (.t 78) (.t 79)),
.s 81 (.m 80),
.g 82 (.m 9) 81 false,
.g 83 (.call 179 [(.t 82)]) 81 false,
.g 84 (.un .not (.t 83)) 81 false,
.s 85 (.pick (.t 81) (.c (.bool true)) (.t 84))] [7,9,85])
(.cnd (.t 85)
(.seq
(.reg [
.s 4 (.mv (.k 0)),
.s 5 (.mv (.k 0))] [4,5])
.ret)
.skip))
(.seq
(.reg [
.s 86 (.m 9),
.s 87 (.m 7),
.s 4 (.m 86),
.s 5 (.m 87)] [4,5])
.ret))))))))))),
[.tmp 4,.tmp 5]⟩

/-- emend/emendref3.Digit -/
def F152 : DF := ⟨1,
(.seq
(.reg [
.s 2 (.mv (.c (.bool false)))] [0])
(.seq
(.reg [
.s 3 (.m 0),
.s 4 (.bin .geq none (.t 3) (.c (.int .u8 48))),
.s 5 (.m 4),
.g 6 (.m 0) 5 true,
.g 7 (.bin .leq none (.t 6) (.c (.int .u8 57))) 5 true,
.s 8 (.pick (.t 5) (.t 7) (.c (.bool false))),
.s 2 (.m 8)] [2])
.ret)),
[.tmp 2]⟩
/-- (*emend/emendref3.Reader).row -/
def F153 : DF := ⟨3,
(.seq
(.reg [
.s 6 (.mv (.k 0))] [0,1,2])
(.seq
(.blk 0
(.seq
(.trim [0,1,2])
(.lop
(.seq
(.seq
(.seq
(.reg [
.s 9 (.m 1),
.s 10 (.m 0),
.s 11 (.nilc (.t 10)),
.s 12 (.fa 0 (.t 11)),
.s 13 (.l 12),
.s 14 (.lenS (.t 13)),
.s 15 (.bin .lss none (.t 9) (.t 14))] [0,1,2,15])
(.cnd (.t 15)
.skip
(.exit 0)))
(.blk 1
(.seq
(.reg [
.s 16 (.m 0),
.s 17 (.nilc (.t 16)),
.s 18 (.fa 0 (.t 17)),
.s 19 (.l 18),
.s 20 (.m 1),
.s 21 (.ixS (.t 19) (.t 20)),
.s 22 (.call 117 [(.t 21)]),
.s 23 (.m 22),
.g 24 (.m 0) 23 false,
.g 25 (.nilc (.t 24)) 23 false,
.g 26 (.fa 0 (.t 25)) 23 false,
.g 27 (.l 26) 23 false,
.g 28 (.m 1) 23 false,
.g 29 (.ixS (.t 27) (.t 28)) 23 false,
.g 30 (.call 152 [(.t 29)]) 23 false,
.s 31 (.pick (.t 23) (.c (.bool true)) (.t 30)),
.s 7 (.m 31)] [0,1,2,7])
(.seq
(.seq
(.reg [
.s 8 (.mv (.k 0))] [0,1,2,7,8])
(.blk 2
(.seq
(.trim [0,1,2,7,8])
(.lop
(.seq
(.seq
(.seq
(.reg [
.s 32 (.m 8),
.s 33 (.m 2),
.s 34 (.lenS (.t 33)),
.s 35 (.bin .lss none (.t 32) (.t 34)),
.s 36 (.m 35),
.g 37 (.m 7) 36 true,
.g 38 (.un .not (.t 37)) 36 true,
.s 39 (.pick (.t 36) (.t 38) (.c (.bool false)))] [0,1,2,7,8,39])
(.cnd (.t 39)
.skip
(.exit 2)))
(.seq
(.blk 3
(.drw [
((.s 42 (.m 0),none),[]),
((.s 43 (.nilc (.t 42)),none),[]),
((.s 44 (.fa 0 (.t 43)),none),[]),
((.s 45 (.l 44),none),[]),
((.s 46 (.m 1),none),[]),
((.s 47 (.ixS (.t 45) (.t 46)),none),[]),
((.s 48 (.m 2),none),[]),
((.s 49 (.m 8),none),[]),
((.s 50 (.ixS (.t 48) (.t 49)),none),[]),
((.s 51 (.bin .eql (some .int) (.t 47) (.t 50)),none),[]),
((.s 7 (.m 51),none),[])] [0,1,2,7,8]))
(.reg [
.s 40 (.m 8),
.s 41 (.bin .add none (.t 40) (.k 1)),
.s 8 (.m 41)] [0,1,2,7,8])))
(.trim [0,1,2,7,8]))))))
(.seq
(.seq
(.reg [
.s 52 (.m 7),
.s 53 (.un .not (.t 52))] [0,1,2,53])
(.cnd (.t 53)
(.seq
(.reg [
.s 54 (.m 1),
.s 6 (.m 54)] [6])
.ret)
.skip))
(.reg [
.s 55 (.m 1),
.s 56 (.bin .add none (.t 55) (.k 1)),
.s 1 (.m 56)] [0,1,2]))))))
(.trim [0,1,2])))))
(.seq
(.reg [
.s 57 (.m 1),
.s 6 (.m 57)] [6])
.ret))),
[.tmp 6]⟩
/-- emend/emendref1.Within -/
def F154 : DF := ⟨2,
(.seq
(.reg [
.s 4 (.mv (.c (.str []))),
.s 5 (.mv (.k 0)),
.s 6 (.alL [(.int .i64 0),(.int .i64 0)])] [0,1,6])
(.seq
(.reg [
.s 12 (.mks 5 1 1 (.int .u8 0) (.k 0) (.k 0)),
.s 7 (.m 12)] [0,1,6,7])
(.seq
(.seq
(.reg [
.s 13 (.m 1),
.s 14 (.bin .add none (.t 13) (.k 1)),
.s 8 (.m 14)] [0,6,7,8])
(.blk 0
(.seq
(.trim [0,6,7,8])
(.lop
(.seq
(.seq
(.seq
(.reg [
.s 15 (.m 8),
.s 16 (.m 0),
.s 17 (.lenS (.t 16)),
.s 18 (.bin .lss none (.t 15) (.t 17))] [0,6,7,8,18])
(.cnd (.t 18)
.skip
(.exit 0)))
(.blk 1
(.seq
(.reg [
.s 19 (.m 0),
.s 20 (.m 8),
.s 21 (.ixS (.t 19) (.t 20)),
.s 9 (.m 21)] [0,6,7,8,9])
(.blk 2
(.seq
(.reg [
.s 29 (.m 9),
.s 30 (.bin .eql (some .int) (.t 29) (.c (.int .u8 34))),
.s 28 (.m 30)] [0,6,7,8,9,28])
(.cnd (.t 28)
(.seq
(.reg [
.s 31 (.m 7),
.s 32 (.cvBS (.t 31)),
.s 33 (.m 8),
.s 34 (.bin .add none (.t 33) (.k 1)),
.s 35 (.bld [(.int .i64 0),(.int .i64 0)] []),
.s 4 (.m 32),
.s 5 (.m 34),
.n (.st 2 (.t 6) (.t 35))] [4,5,6])
.ret)
(.seq
(.reg [
.s 37 (.m 9),
.s 38 (.bin .eql (some .int) (.t 37) (.c (.int .u8 92))),
.s 36 (.m 38)] [0,6,7,8,9,36])
(.cnd (.t 36)
(.seq
(.reg [
.s 40 (.m 0),
.s 41 (.m 8),
.s 42 (.call 182 [(.t 40),(.t 41)]),
.s 39 (.m 42),
.s 43 (.ext (.t 39) 0),
.s 44 (.ext (.t 39) 1),
.s 10 (.m 43),
.s 11 (.m 44)] [0,6,7,8,10,11])
(.seq
(.seq
(.reg [
.s 45 (.m 11),
.s 46 (.bin .eql (some .int) (.t 45) (.k 0))] [0,6,7,8,10,11,46])
(.cnd (.t 46)
(.seq
(.reg [
.s 47 (.m 8),
.s 48 (.bld [(.int .i64 0),(.int .i64 0)] [(0,1,(.t 47)),(1,1,(.k 11))]),
.s 4 (.mv (.c (.str []))),
.s 5 (.mv (.k 0)),
.n (.st 2 (.t 6) (.t 48))] [4,5,6])
.ret)
.skip))
(.seq
(.reg [
.s 49 (.m 7),
.s 50 (.m 10),
.s 51 (.call 183 [(.t 50)]),
.s 52 (.app false 5 1 1 (.t 49) (.t 51)),
.s 7 (.m 52)] [0,6,7,8,11])
(.reg [
.s 53 (.m 8),
.s 54 (.m 11),
.s 55 (.bin .add none (.t 53) (.t 54)),
.s 8 (.m 55)] [0,6,7,8]))))
(.seq
(.reg [
.s 57 (.m 9),
.s 58 (.bin .lss none (.t 57) (.c (.int .u8 32))),
.s 56 (.m 58)] [0,6,7,8,9,56])
(.cnd (.t 56)
(.seq
(.reg [
.s 59 (.m 8),
.s 60 (.bld [(.int .i64 0),(.int .i64 0)] [(0,1,(.t 59)),(1,1,(.k 13))]),
.s 4 (.mv (.c (.str []))),
.s 5 (.mv (.k 0)),
.n (.st 2 (.t 6) (.t 60))] [4,5,6])
.ret)
(.seq
(.reg [
.s 22 (.m 7),
.s 23 (.m 9),
.s 24 (.bldT 5 1 1 (.int .u8 0) [(0,(.t 23))]),
.s 25 (.app false 5 1 1 (.t 22) (.t 24)),
.s 7 (.m 25)] [0,6,7,8])
(.reg [
.s 26 (.m 8),
.s 27 (.bin .add none (.t 26) (.k 1)),
.s 8 (.m 27)] [0,6,7,8]))))))))))))
(.trim [0,6,7,8]))))))
(.seq
(.reg [
.s 61 (.m 0),
.s 62 (.lenS (.t 61)),
.s 63 (.bld [(.int .i64 0),(.int .i64 0)] [(0,1,(.t 62)),(1,1,(.k 14))]),
.s 4 (.mv (.c (.str []))),
.s 5 (.mv (.k 0)),
.n (.st 2 (.t 6) (.t 63))] [4,5,6])
.ret)))),
[.tmp 4,.tmp 5,.cell 6 true 2]⟩
/-- (*emend/emendref3.Reader).Take -/
def F155 : DF := ⟨2,
(.seq
(.seq
(.reg [
.s 4 (.m 0),
.s 5 (.m 1),
.s 6 (.call 156 [(.t 4),(.t 5)]),
.s 7 (.un .not (.t 6))] [0,7])
(.cnd (.t 7)
(.seq
(.reg [
.s 8 (.m 0),
.s 9 (.m 0),
.s 10 (.nilc (.t 9)),
.s 11 (.fa 1 (.t 10)),
.s 12 (.l 11),
.s 13 (.call 73 [(.t 8),(.k 13),(.t 12)])] [])
.ret)
.skip))
(.reg [
.s 14 (.m 0),
.s 15 (.nilc (.t 14)),
.s 16 (.fa 1 (.t 15)),
.s 17 (.l 16),
.s 18 (.bin .add none (.t 17) (.k 1)),
.s 19 (.nilc (.t 14)),
.s 20 (.fa 1 (.t 19)),
.n (.st 1 (.t 20) (.t 18))] [])),
[]⟩
/-- (*emend/emendref3.Reader).Is -/
def F156 : DF := ⟨2,
(.seq
(.reg [
.s 4 (.mv (.c (.bool false)))] [0,1])
(.seq
(.drw [
((.s 5 (.m 0),none),[]),
((.s 6 (.call 72 [(.t 5)]),none),[]),
((.s 7 (.m 6),none),[]),
((.g 8 (.m 0) 7 true,none),[]),
((.g 9 (.nilc (.t 8)) 7 true,none),[]),
((.g 10 (.fa 1 (.t 9)) 7 true,none),[]),
((.g 11 (.l 10) 7 true,none),[]),
((.g 12 (.m 0) 7 true,none),[]),
((.g 13 (.nilc (.t 12)) 7 true,none),[]),
((.g 14 (.fa 0 (.t 13)) 7 true,none),[]),
((.g 15 (.l 14) 7 true,none),[]),
((.g 16 (.lenS (.t 15)) 7 true,none),[]),
((.g 17 (.bin .lss none (.t 11) (.t 16)) 7 true,none),[]),
((.s 18 (.pick (.t 7) (.t 17) (.c (.bool false))),none),[]),
((.s 19 (.m 18),none),[]),
((.g 20 (.m 0) 19 true,none),[]),
((.g 21 (.nilc (.t 20)) 19 true,none),[]),
((.g 22 (.fa 0 (.t 21)) 19 true,none),[]),
((.g 23 (.l 22) 19 true,none),[]),
((.g 24 (.m 0) 19 true,none),[]),
((.g 25 (.nilc (.t 24)) 19 true,none),[]),
((.g 26 (.fa 1 (.t 25)) 19 true,none),[]),
((.g 27 (.l 26) 19 true,none),[]),
((.g 28 (.ixS (.t 23) (.t 27)) 19 true,none),[]),
((.g 29 (.m 1) 19 true,none),[]),
((.g 30 (.bin .eql (some .int) (.t 28) (.t 29)) 19 true,none),[]),
((.s 31 (.pick (.t 19) (.t 30) (.c (.bool false))),none),[]),
((.s 4 (.m 31),none),[])] [4])
.ret)),
[.tmp 4]⟩

/-- emend/num.cut -/
def F160 : DF := ⟨1,
(.seq
(.reg [
.s 2 (.mv (.c (.bool false))),
.s 3 (.mv (.c (.str []))),
.s 4 (.mv (.c (.str []))),
.s 5 (.mv (.c (.str []))),
.s 6 (.mv (.c (.bool false)))] [0,4])
(.seq
(.reg [
.s 10 (.m 0),
.s 7 (.m 10)] [4,7])
(.seq
(.seq
(.reg [
.s 11 (.m 7),
.s 12 (.call 185 [(.t 11),(.c (.str [45]))]),
.s 2 (.m 12)] [2,4,7])
(.seq
(.reg [
.s 13 (.m 2)] [2,4,7,13])
(.cnd (.t 13)
(.reg [
.s 14 (.m 7),
.s 15 (.slS (.t 14) (some (.k 1)) none),
.s 7 (.m 15)] [2,4,7])
.skip)))
(.seq
(.reg [
.s 16 (.m 7),
.s 17 (.call 164 [(.t 16)]),
.s 8 (.m 17)] [2,4,7,8])
(.seq
(.seq
(.reg [
.s 18 (.m 8),
.s 19 (.bin .eql (some .int) (.t 18) (.k 0)),
.s 20 (.m 19),
.g 21 (.m 8) 20 false,
.g 22 (.bin .gtr none (.t 21) (.k 1)) 20 false,
.g 23 (.m 22) 20 false,
.g 24 (.m 7) 23 true,
.g 25 (.ixS (.t 24) (.k 0)) 23 true,
.g 26 (.bin .eql (some .int) (.t 25) (.c (.int .u8 48))) 23 true,
.g 27 (.pick (.t 23) (.t 26) (.c (.bool false))) 20 false,
.s 28 (.pick (.t 20) (.c (.bool true)) (.t 27))] [2,4,7,8,28])
(.cnd (.t 28)
(.seq
(.reg [
.s 2 (.mv (.c (.bool false))),
.s 3 (.mv (.c (.str []))),
.s 4 (.mv (.c (.str []))),
.s 5 (.mv (.c (.str []))),
.s 6 (.mv (.c (.bool false)))] [2,3,4,5,6])
.ret)
.skip))
(.seq
(.drw [
((.s 29 (.m 7),none),[]),
((.s 30 (.m 8),none),[]),
((.s 31 (.slS (.t 29) none (some (.t 30))),none),[]),
((.s 32 (.m 7),none),[]),
((.s 33 (.m 8),none),[]),
((.s 34 (.slS (.t 32) (some (.t 33)) none),none),[]),
((.s 3 (.m 31),none),[]),
((.s 7 (.m 34),none),[])] [2,3,4,7])
(.seq
(.seq
(.reg [
.s 35 (.m 7),
.s 36 (.call 185 [(.t 35),(.c (.str [46]))])] [2,3,4,7,36])
(.cnd (.t 36)
(.seq
(.seq
(.reg [
.s 37 (.m 7),
.s 38 (.slS (.t 37) (some (.k 1)) none),
.s 39 (.call 164 [(.t 38)]),
.s 8 (.m 39)] [2,3,7,8])
(.seq
(.reg [
.s 40 (.m 8),
.s 41 (.bin .eql (some .int) (.t 40) (.k 0))] [2,3,7,8,41])
(.cnd (.t 41)
(.seq
(.reg [
.s 2 (.mv (.c (.bool false))),
.s 3 (.mv (.c (.str []))),
.s 4 (.mv (.c (.str []))),
.s 5 (.mv (.c (.str []))),
.s 6 (.mv (.c (.bool false)))] [2,3,4,5,6])
.ret)
.skip)))
(.drw [
((.s 42 (.m 7),none),[]),
((.s 43 (.m 8),none),[]),
((.s 44 (.bin .add none (.k 1) (.t 43)),none),[]),
((.s 45 (.slS (.t 42) (some (.k 1)) (some (.t 44))),none),[]),
((.s 46 (.m 7),none),[]),
((.s 47 (.m 8),none),[]),
((.s 48 (.bin .add none (.k 1) (.t 47)),none),[]),
((.s 49 (.slS (.t 46) (some (.t 48)) none),none),[]),
((.s 4 (.m 45),none),[]),
((.s 7 (.m 49),none),[])] [2,3,4,7]))
.skip))
(.seq
(.seq
(.reg [
.s 50 (.m 7),
.s 51 (.bin .eql (some .str) (.t 50) (.c (.str [])))] [2,3,4,7,51])
(.cnd (.t 51)
(.seq
(.reg [
.s 52 (.m 2),
.s 53 (.m 3),
.s 54 (.m 4),
.s 2 (.m 52),
.s 3 (.m 53),
.s 4 (.m 54),
.s 5 (.mv (.c (.str []))),
.s 6 (.mv (.c (.bool true)))] [2,3,4,5,6])
.ret)
.skip))
(.seq
(.seq
(.reg [
.s 55 (.m 7),
.s 56 (.ixS (.t 55) (.k 0)),
.s 57 (.bin .neq (some .int) (.t 56) (.c (.int .u8 101))),
.s 58 (.m 57),
.g 59 (.m 7) 58 true,
.g 60 (.ixS (.t 59) (.k 0)) 58 true,
.g 61 (.bin .neq (some .int) (.t 60) (.c (.int .u8 69))) 58 true,
.s 62 (.pick (.t 58) (.t 61) (.c (.bool false)))] [2,3,4,7,62])
(.cnd (.t 62)
(.seq
(.reg [
.s 2 (.mv (.c (.bool false))),
.s 3 (.mv (.c (.str []))),
.s 4 (.mv (.c (.str []))),
.s 5 (.mv (.c (.str []))),
.s 6 (.mv (.c (.bool false)))] [2,3,4,5,6])
.ret)
.skip))
(.seq
(.reg [
.s 63 (.m 7),
.s 64 (.slS (.t 63) (some (.k 1)) none),
.s 5 (.m 64)] [2,3,4,5])
(.seq
(.reg [
.s 65 (.m 5),
.s 66 (.call 186 [(.t 65),(.c (.str [45]))]),
.s 9 (.m 66)] [2,3,4,5,9])
(.seq
(.seq
(.reg [
.s 67 (.m 9),
.s 68 (.m 5),
.s 69 (.bin .eql (some .str) (.t 67) (.t 68))] [2,3,4,5,9,69])
(.cnd (.t 69)
(.reg [
.s 70 (.m 5),
.s 71 (.call 186 [(.t 70),(.c (.str [43]))]),
.s 9 (.m 71)] [2,3,4,5,9])
.skip))
(.seq
(.seq
(.reg [
.s 72 (.m 9),
.s 73 (.bin .eql (some .str) (.t 72) (.c (.str []))),
.s 74 (.m 73),
.g 75 (.m 9) 74 false,
.g 76 (.call 164 [(.t 75)]) 74 false,
.g 77 (.m 9) 74 false,
.g 78 (.lenS (.t 77)) 74 false,
.g 79 (.bin .lss none (.t 76) (.t 78)) 74 false,
.s 80 (.pick (.t 74) (.c (.bool true)) (.t 79))] [2,3,4,5,80])
(.cnd (.t 80)
(.seq
(.reg [
.s 2 (.mv (.c (.bool false))),
.s 3 (.mv (.c (.str []))),
.s 4 (.mv (.c (.str []))),
.s 5 (.mv (.c (.str []))),
.s 6 (.mv (.c (.bool false)))] [2,3,4,5,6])
.ret)
.skip))
(.seq
(.reg [
.s 81 (.m 2),
.s 82 (.m 3),
.s 83 (.m 4),
.s 84 (.m 5),
.s 2 (.m 81),
.s 3 (.m 82),
.s 4 (.m 83),
.s 5 (.m 84),
.s 6 (.mv (.c (.bool true)))] [2,3,4,5,6])
.ret)))))))))))))),
[.tmp 2,.tmp 3,.tmp 4,.tmp 5,.tmp 6]⟩
/-- emend/num.exponent -/
def F161 : DF := ⟨1,
(.seq
(.reg [
.s 2 (.mv (.k 0)),
.s 3 (.mv (.c (.bool false)))] [0])
(.seq
(.reg [
.s 7 (.m 0),
.s 8 (.call 185 [(.t 7),(.c (.str [45]))]),
.s 4 (.m 8)] [0,4])
(.seq
(.reg [
.s 9 (.m 0),
.s 10 (.call 162 [(.t 9),(.c (.str [43,45]))]),
.s 11 (.call 162 [(.t 10),(.c (.str [48]))]),
.s 0 (.m 11)] [0,4])
(.seq
(.seq
(.reg [
.s 12 (.m 0),
.s 13 (.lenS (.t 12)),
.s 14 (.bin .gtr none (.t 13) (.k 6))] [0,4,14])
(.cnd (.t 14)
(.seq
(.reg [
.s 2 (.mv (.k 0)),
.s 3 (.mv (.c (.bool false)))] [2,3])
.ret)
.skip))
(.seq
(.reg [
.s 16 (.m 0),
.s 17 (.bin .add none (.c (.str [48])) (.t 16)),
.s 18 (.call 187 [(.t 17)]),
.s 15 (.m 18),
.s 19 (.ext (.t 15) 0),
.s 20 (.ext (.t 15) 1),
.s 5 (.m 19),
.s 6 (.m 20)] [4,5])
(.seq
(.seq
(.reg [
.s 21 (.m 4)] [5,21])
(.cnd (.t 21)
(.seq
(.reg [
.s 22 (.m 5),
.s 23 (.un .neg (.t 22)),
.s 2 (.m 23),
.s 3 (.mv (.c (.bool true)))] [2,3])
.ret)
.skip))
(.seq
(.reg [
.s 24 (.m 5),
.s 2 (.m 24),
.s 3 (.mv (.c (.bool true)))] [2,3])
.ret))))))),
[.tmp 2,.tmp 3]⟩

/-- emend/num.run -/
def F164 : DF := ⟨1,
(.seq
(.reg [
.s 2 (.mv (.k 0))] [0])
(.seq
(.reg [
.s 3 (.mv (.k 0))] [0,3])
(.seq
(.blk 0
(.seq
(.trim [0,3])
(.lop
(.seq
(.seq
(.seq
(.reg [
.s 4 (.m 3),
.s 5 (.m 0),
.s 6 (.lenS (.t 5)),
.s 7 (.bin .lss none (.t 4) (.t 6)),
.s 8 (.m 7),
.g 9 (.m 0) 8 true,
.g 10 (.m 3) 8 true,
.g 11 (.ixS (.t 9) (.t 10)) 8 true,
.g 12 (.call 195 [(.t 11)]) 8 true,
.s 13 (.pick (.t 8) (.t 12) (.c (.bool false)))] [0,3,13])
(.cnd (.t 13)
.skip
(.exit 0)))
(.blk 1
(.reg [
.s 14 (.m 3),
.s 15 (.bin .add none (.t 14) (.k 1)),
.s 3 (.m 15)] [0,3])))
(.trim [0,3])))))
(.seq
(.reg [
.s 16 (.m 3),
.s 2 (.m 16)] [2])
.ret)))),
[.tmp 2]⟩

/-- emend/tree.two -/
def F166 : DF := ⟨1,
(.seq
(.reg [
.s 2 (.mv (.k 0))] [0])
(.seq
(.seq
(.reg [
.s 3 (.m 0),
.s 4 (.lenS (.t 3)),
.s 5 (.bin .neq (some .int) (.t 4) (.k 2)),
.s 6 (.m 5),
.g 7 (.m 0) 6 false,
.g 8 (.ixS (.t 7) (.k 0)) 6 false,
.g 9 (.bin .lss none (.t 8) (.c (.int .u8 48))) 6 false,
.s 10 (.pick (.t 6) (.c (.bool true)) (.t 9)),
.s 11 (.m 10),
.g 12 (.m 0) 11 false,
.g 13 (.ixS (.t 12) (.k 0)) 11 false,
.g 14 (.bin .gtr none (.t 13) (.c (.int .u8 57))) 11 false,
.s 15 (.pick (.t 11) (.c (.bool true)) (.t 14)),
.s 16 (.m 15),
.g 17 (.m 0) 16 false,
.g 18 (.ixS (.t 17) (.k 1)) 16 false,
.g 19 (.bin .lss none (.t 18) (.c (.int .u8 48))) 16 false,
.s 20 (.pick (.t 16) (.c (.bool true)) (.t 19)),
.s 21 (.m 20),
.g 22 (.m 0) 21 false,
.g 23 (.ixS (.t 22) (.k 1)) 21 false,
.g 24 (.bin .gtr none (.t 23) (.c (.int .u8 57))) 21 false,
.s 25 (.pick (.t 21) (.c (.bool true)) (.t 24))] [0,25])
(.cnd (.t 25)
(.seq
(.reg [
.s 2 (.mv (.k (-1)))] [2])
.ret)
.skip))
(.seq
(.drw [
((.s 26 (.m 0),none),[]),
((.s 27 (.ixS (.t 26) (.k 0)),none),[]),
((.s 28 (.bin .sub none (.t 27) (.c (.int .u8 48))),none),[]),
((.s 29 (.cvI .i64 (.t 28)),none),[]),
((.s 30 (.bin .mul none (.t 29) (.k 10)),none),[]),
((.s 31 (.m 0),none),[]),
((.s 32 (.ixS (.t 31) (.k 1)),none),[]),
((.s 33 (.bin .sub none (.t 32) (.c (.int .u8 48))),none),[]),
((.s 34 (.cvI .i64 (.t 33)),none),[]),
((.s 35 (.bin .add none (.t 30) (.t 34)),none),[]),
((.s 2 (.m 35),none),[])] [2])
.ret))),
[.tmp 2]⟩
/-- emend/tree.within -/
def F167 : DF := ⟨3,
(.seq
(.reg [
.s 6 (.mv (.c (.bool false)))] [0,1,2])
(.seq
(.reg [
.s 7 (.m 0),
.s 8 (.call 166 [(.t 7)]),
.s 9 (.m 1),
.s 10 (.bin .geq none (.t 8) (.t 9)),
.s 11 (.m 10),
.g 12 (.m 0) 11 true,
.g 13 (.call 166 [(.t 12)]) 11 true,
.g 14 (.m 2) 11 true,
.g 15 (.bin .leq none (.t 13) (.t 14)) 11 true,
.s 16 (.pick (.t 11) (.t 15) (.c (.bool false))),
.s 6 (.m 16)] [6])
.ret)),
[.tmp 6]⟩
/-- emend/tree.days -/
def F168 : DF := ⟨2,
(.seq
(.reg [
.s 4 (.mv (.k 0))] [0,1])
(.seq
(.seq
(.reg [
.s 5 (.m 1)] [0,5])
(.blk 0
(.seq
(.seq
(.reg [
.s 7 (.bin .eql (some .int) (.t 5) (.k 4)),
.s 6 (.m 7)] [0,5,6])
(.cnd (.t 6)
.skip
(.seq
(.reg [
.s 8 (.bin .eql (some .int) (.t 5) (.k 6)),
.s 6 (.m 8)] [0,5,6])
(.cnd (.t 6)
.skip
(.seq
(.reg [
.s 9 (.bin .eql (some .int) (.t 5) (.k 9)),
.s 6 (.m 9)] [0,5,6])
(.cnd (.t 6)
.skip
(.reg [
.s 10 (.bin .eql (some .int) (.t 5) (.k 11)),
.s 6 (.m 10)] [0,5,6])))))))
(.cnd (.t 6)
(.seq
(.reg [
.s 4 (.mv (.k 30))] [4])
.ret)
(.seq
(.reg [
.s 12 (.bin .eql (some .int) (.t 5) (.k 2)),
.s 11 (.m 12)] [0,11])
(.cnd (.t 11)
(.seq
(.seq
(.reg [
.s 13 (.m 0),
.s 14 (.bin .rem none (.t 13) (.k 4)),
.s 15 (.bin .eql (some .int) (.t 14) (.k 0)),
.s 16 (.m 15),
.g 17 (.m 0) 16 true,
.g 18 (.bin .rem none (.t 17) (.k 100)) 16 true,
.g 19 (.bin .neq (some .int) (.t 18) (.k 0)) 16 true,
.g 20 (.m 19) 16 true,
.g 21 (.m 0) 20 false,
.g 22 (.bin .rem none (.t 21) (.k 400)) 20 false,
.g 23 (.bin .eql (some .int) (.t 22) (.k 0)) 20 false,
.g 24 (.pick (.t 20) (.c (.bool true)) (.t 23)) 16 true,
.s 25 (.pick (.t 16) (.t 24) (.c (.bool false)))] [25])
(.cnd (.t 25)
(.seq
(.reg [
.s 4 (.mv (.k 29))] [4])
.ret)
.skip))
(.seq
(.reg [
.s 4 (.mv (.k 28))] [4])
.ret))
.skip))))))
(.seq
(.reg [
.s 4 (.mv (.k 31))] [4])
.ret))),
[.tmp 4]⟩

/-- strings.HasSuffix -/
def F170 : DF := ⟨2,
(.seq
(.reg [
.s 4 (.mv (.c (.bool false)))] [0,1])
(.seq
(.reg [
.s 5 (.m 0),
.s 6 (.m 1),
.s 7 (.call 197 [(.t 5),(.t 6)]),
.s 4 (.m 7)] [4])
.ret)),
[.tmp 4]⟩
/-- internal/stringslite.Cut -/
def F171 : DF := ⟨2,
(.seq
(.reg [
.s 4 (.mv (.c (.str []))),
.s 5 (.mv (.c (.str []))),
.s 6 (.mv (.c (.bool false)))] [0,1])
(.seq
(.seq
(.reg [
.s 8 (.m 0),
.s 9 (.m 1),
.s 10 (.call 198 [(.t 8),(.t 9)]),
.s 7 (.m 10)] [0,1,7])
(.seq
(.reg [
.s 11 (.m 7),
.s 12 (.bin .geq none (.t 11) (.k 0))] [0,1,7,12])
(.cnd (.t 12)
(.seq
(.drw [
((.s 13 (.m 0),none),[]),
((.s 14 (.m 7),none),[]),
((.s 15 (.slS (.t 13) none (some (.t 14))),none),[]),
((.s 16 (.m 0),none),[]),
((.s 17 (.m 7),none),[]),
((.s 18 (.m 1),none),[]),
((.s 19 (.lenS (.t 18)),none),[]),
((.s 20 (.bin .add none (.t 17) (.t 19)),none),[]),
((.s 21 (.slS (.t 16) (some (.t 20)) none),none),[]),
((.s 4 (.m 15),none),[]),
((.s 5 (.m 21),none),[]),
((.s 6 (.mv (.c (.bool true))),none),[])] [4,5,6])
.ret)
.skip)))
(.seq
(.reg [
.s 22 (.m 0),
.s 4 (.m 22),
.s 5 (.mv (.c (.str []))),
.s 6 (.mv (.c (.bool false)))] [4,5,6])
.ret))),
[.tmp 4,.tmp 5,.tmp 6]⟩
/-- emend/text.row -/
def F172 : DF := ⟨1,
(.seq
(.reg [
.s 2 (.mv (.k 0)),
.s 3 (.mv (.k 0)),
.s 4 (.mv (.k 0))] [0])
(.seq
(.blk 0
(.seq
(.reg [
.s 6 (.m 0),
.s 7 (.bin .shr none (.t 6) (.c (.int .u64 7))),
.s 8 (.bin .eql (some .int) (.t 7) (.c (.int .u8 0))),
.s 5 (.m 8)] [0,5])
(.cnd (.t 5)
(.seq
(.reg [
.s 9 (.m 0),
.s 10 (.cvI .i64 (.t 9)),
.s 2 (.mv (.k 1)),
.s 3 (.m 10),
.s 4 (.mv (.k 0))] [2,3,4])
.ret)
(.seq
(.reg [
.s 12 (.m 0),
.s 13 (.bin .shr none (.t 12) (.c (.int .u64 5))),
.s 14 (.bin .eql (some .int) (.t 13) (.c (.int .u8 6))),
.s 11 (.m 14)] [0,11])
(.cnd (.t 11)
(.seq
(.reg [
.s 15 (.m 0),
.s 16 (.bin .and none (.t 15) (.c (.int .u8 31))),
.s 17 (.cvI .i64 (.t 16)),
.s 2 (.mv (.k 2)),
.s 3 (.m 17),
.s 4 (.mv (.k 128))] [2,3,4])
.ret)
(.seq
(.reg [
.s 19 (.m 0),
.s 20 (.bin .shr none (.t 19) (.c (.int .u64 4))),
.s 21 (.bin .eql (some .int) (.t 20) (.c (.int .u8 14))),
.s 18 (.m 21)] [0,18])
(.cnd (.t 18)
(.seq
(.reg [
.s 22 (.m 0),
.s 23 (.bin .and none (.t 22) (.c (.int .u8 15))),
.s 24 (.cvI .i64 (.t 23)),
.s 2 (.mv (.k 3)),
.s 3 (.m 24),
.s 4 (.mv (.k 2048))] [2,3,4])
.ret)
(.seq
(.reg [
.s 26 (.m 0),
.s 27 (.bin .shr none (.t 26) (.c (.int .u64 3))),
.s 28 (.bin .eql (some .int) (.t 27) (.c (.int .u8 30))),
.s 25 (.m 28)] [0,25])
(.cnd (.t 25)
(.seq
(.reg [
.s 29 (.m 0),
.s 30 (.bin .and none (.t 29) (.c (.int .u8 7))),
.s 31 (.cvI .i64 (.t 30)),
.s 2 (.mv (.k 4)),
.s 3 (.m 31),
.s 4 (.mv (.k 65536))] [2,3,4])
.ret)
.skip)))))))))
(.seq
(.reg [
.s 2 (.mv (.k 0)),
.s 3 (.mv (.k 0)),
.s 4 (.mv (.k 0))] [2,3,4])
.ret))),
[.tmp 2,.tmp 3,.tmp 4]⟩
/-- emend/text.character -/
def F173 : DF := ⟨1,
(.seq
(.reg [
.s 2 (.mv (.c (.bool false)))] [0])
(.seq
(.reg [
.s 3 (.m 0),
.s 4 (.bin .geq none (.t 3) (.k 0)),
.s 5 (.m 4),
.g 6 (.m 0) 5 true,
.g 7 (.bin .leq none (.t 6) (.k 1114111)) 5 true,
.s 8 (.pick (.t 5) (.t 7) (.c (.bool false))),
.s 9 (.m 8),
.g 10 (.m 0) 9 true,
.g 11 (.bin .lss none (.t 10) (.k 55296)) 9 true,
.g 12 (.m 11) 9 true,
.g 13 (.m 0) 12 false,
.g 14 (.bin .gtr none (.t 13) (.k 57343)) 12 false,
.g 15 (.pick (.t 12) (.c (.bool true)) (.t 14)) 9 true,
.s 16 (.pick (.t 9) (.t 15) (.c (.bool false))),
.s 2 (.m 16)] [2])
.ret)),
[.tmp 2]⟩
/-- emend/text.Escaped -/
def F174 : DF := ⟨1,
(.seq
(.reg [
.s 2 (.mv (.k 0)),
.s 3 (.mv (.k 0))] [0])
(.seq
(.seq
(.reg [
.s 4 (.m 0),
.s 5 (.bin .eql (some .str) (.t 4) (.c (.str [])))] [0,5])
(.cnd (.t 5)
(.seq
(.reg [
.s 2 (.mv (.k 0)),
.s 3 (.mv (.k 0))] [2,3])
.ret)
.skip))
(.seq
(.seq
(.reg [
.s 6 (.m 0),
.s 7 (.ixS (.t 6) (.k 0))] [0,7])
(.blk 0
(.seq
(.seq
(.reg [
.s 9 (.bin .eql (some .int) (.t 7) (.c (.int .u8 34))),
.s 8 (.m 9)] [0,7,8])
(.cnd (.t 8)
.skip
(.seq
(.reg [
.s 10 (.bin .eql (some .int) (.t 7) (.c (.int .u8 92))),
.s 8 (.m 10)] [0,7,8])
(.cnd (.t 8)
.skip
(.reg [
.s 11 (.bin .eql (some .int) (.t 7) (.c (.int .u8 47))),
.s 8 (.m 11)] [0,7,8])))))
(.cnd (.t 8)
(.seq
(.reg [
.s 12 (.m 0),
.s 13 (.ixS (.t 12) (.k 0)),
.s 14 (.cvI .i64 (.t 13)),
.s 2 (.m 14),
.s 3 (.mv (.k 1))] [2,3])
.ret)
(.seq
(.reg [
.s 16 (.bin .eql (some .int) (.t 7) (.c (.int .u8 98))),
.s 15 (.m 16)] [0,7,15])
(.cnd (.t 15)
(.seq
(.reg [
.s 2 (.mv (.k 8)),
.s 3 (.mv (.k 1))] [2,3])
.ret)
(.seq
(.reg [
.s 18 (.bin .eql (some .int) (.t 7) (.c (.int .u8 116))),
.s 17 (.m 18)] [0,7,17])
(.cnd (.t 17)
(.seq
(.reg [
.s 2 (.mv (.k 9)),
.s 3 (.mv (.k 1))] [2,3])
.ret)
(.seq
(.reg [
.s 20 (.bin .eql (some .int) (.t 7) (.c (.int .u8 110))),
.s 19 (.m 20)] [0,7,19])
(.cnd (.t 19)
(.seq
(.reg [
.s 2 (.mv (.k 10)),
.s 3 (.mv (.k 1))] [2,3])
.ret)
(.seq
(.reg [
.s 22 (.bin .eql (some .int) (.t 7) (.c (.int .u8 102))),
.s 21 (.m 22)] [0,7,21])
(.cnd (.t 21)
(.seq
(.reg [
.s 2 (.mv (.k 12)),
.s 3 (.mv (.k 1))] [2,3])
.ret)
(.seq
(.reg [
.s 24 (.bin .eql (some .int) (.t 7) (.c (.int .u8 114))),
.s 23 (.m 24)] [0,7,23])
(.cnd (.t 23)
(.seq
(.reg [
.s 2 (.mv (.k 13)),
.s 3 (.mv (.k 1))] [2,3])
.ret)
(.seq
(.reg [
.s 26 (.bin .eql (some .int) (.t 7) (.c (.int .u8 117))),
.s 25 (.m 26)] [0,25])
(.cnd (.t 25)
(.seq
(.reg [
.s 27 (.m 0),
.s 28 (.call 199 [(.t 27)]),
.s 29 (.ext (.t 28) 0),
.s 30 (.ext (.t 28) 1),
.s 2 (.m 29),
.s 3 (.m 30)] [2,3])
.ret)
.skip))))))))))))))))
(.seq
(.reg [
.s 2 (.mv (.k 0)),
.s 3 (.mv (.k 0))] [2,3])
.ret)))),
[.tmp 2,.tmp 3]⟩
/-- emend/text.put -/
def F175 : DF := ⟨2,
(.seq
(.reg [
.s 3 (.bxH 3 (.t 1)),
.s 4 (.mv (.c (.sl 1 nz [])))] [0,3])
(.seq
(.reg [
.s 6 (.mkf 200 [] [(.t 3)]),
.s 5 (.m 6)] [0,3,5])
(.seq
(.blk 0
(.seq
(.reg [
.s 8 (.l 3),
.s 9 (.bin .lss none (.t 8) (.k 128)),
.s 7 (.m 9)] [0,3,5,7])
(.cnd (.t 7)
(.seq
(.reg [
.s 10 (.m 0),
.s 11 (.l 3),
.s 12 (.cvI .u8 (.t 11)),
.s 13 (.bldT 5 1 1 (.int .u8 0) [(0,(.t 12))]),
.s 14 (.app false 5 1 1 (.t 10) (.t 13)),
.s 4 (.m 14)] [4])
.ret)
(.seq
(.reg [
.s 16 (.l 3),
.s 17 (.bin .lss none (.t 16) (.k 2048)),
.s 15 (.m 17)] [0,3,5,15])
(.cnd (.t 15)
(.seq
(.drw [
((.s 18 (.m 0),none),[]),
((.s 19 (.l 3),none),[]),
((.s 20 (.bin .shr none (.t 19) (.c (.int .u64 6))),none),[]),
((.s 21 (.bin .or none (.k 192) (.t 20)),none),[]),
((.s 22 (.cvI .u8 (.t 21)),none),[]),
((.s 23 (.m 5),none),[]),
((.s 24 (.callv (.t 23) [(.k 0)]),none),[(.s 19 (.l 3),none)]),
((.s 25 (.bldS 1 2 (.int .u8 0) [(0,(.t 22)),(1,(.t 24))]),none),[]),
((.s 26 (.app false 5 1 1 (.t 18) (.t 25)),none),[]),
((.s 4 (.m 26),none),[])] [4])
.ret)
(.seq
(.reg [
.s 28 (.l 3),
.s 29 (.bin .lss none (.t 28) (.k 65536)),
.s 27 (.m 29)] [0,3,5,27])
(.cnd (.t 27)
(.seq
(.drw [
((.s 30 (.m 0),none),[]),
((.s 31 (.l 3),none),[]),
((.s 32 (.bin .shr none (.t 31) (.c (.int .u64 12))),none),[]),
((.s 33 (.bin .or none (.k 224) (.t 32)),none),[]),
((.s 34 (.cvI .u8 (.t 33)),none),[]),
((.s 35 (.m 5),none),[]),
((.s 37 (.m 5),none),[]),
((.s 36 (.callv (.t 35) [(.k 6)]),none),[(.s 31 (.l 3),none)]),
((.s 38 (.callv (.t 37) [(.k 0)]),none),[(.s 31 (.l 3),none)]),
((.s 39 (.bldS 1 3 (.int .u8 0) [(0,(.t 34)),(1,(.t 36)),(2,(.t 38))]),none),[]),
((.s 40 (.app false 5 1 1 (.t 30) (.t 39)),none),[]),
((.s 4 (.m 40),none),[])] [4])
.ret)
.skip)))))))
(.seq
(.drw [
((.s 41 (.m 0),none),[]),
((.s 42 (.l 3),none),[]),
((.s 43 (.bin .shr none (.t 42) (.c (.int .u64 18))),none),[]),
((.s 44 (.bin .or none (.k 240) (.t 43)),none),[]),
((.s 45 (.cvI .u8 (.t 44)),none),[]),
((.s 46 (.m 5),none),[]),
((.s 48 (.m 5),none),[]),
((.s 50 (.m 5),none),[]),
((.s 47 (.callv (.t 46) [(.k 12)]),none),[(.s 42 (.l 3),none)]),
((.s 49 (.callv (.t 48) [(.k 6)]),none),[(.s 42 (.l 3),none)]),
((.s 51 (.callv (.t 50) [(.k 0)]),none),[(.s 42 (.l 3),none)]),
((.s 52 (.bldS 1 4 (.int .u8 0) [(0,(.t 45)),(1,(.t 47)),(2,(.t 49)),(3,(.t 51))]),none),[]),
((.s 53 (.app false 5 1 1 (.t 41) (.t 52)),none),[]),
((.s 4 (.m 53),none),[])] [4])
.ret)))),
[.tmp 4]⟩

/-- emend/emendref2.Digits -/
def F178 : DF := ⟨1,
(.seq
(.reg [
.s 2 (.mv (.c (.str [])))] [0])
(.seq
(.reg [
.s 6 (.mks 5 1 1 (.int .u8 0) (.k 0) (.k 0)),
.s 3 (.m 6)] [0,3])
(.seq
(.blk 0
(.seq
(.trim [0,3])
(.lop
(.seq
(.seq
(.seq
(.reg [
.s 7 (.m 0),
.s 8 (.bin .gtr none (.t 7) (.k 9))] [0,3,8])
(.cnd (.t 8)
.skip
(.exit 0)))
(.blk 1
(.seq
(.reg [
.s 9 (.m 3),
.s 10 (.m 0),
.s 11 (.bin .rem none (.t 10) (.k 10)),
.s 12 (.bin .add none (.k 48) (.t 11)),
.s 13 (.cvI .u8 (.t 12)),
.s 14 (.bldT 5 1 1 (.int .u8 0) [(0,(.t 13))]),
.s 15 (.app false 5 1 1 (.t 9) (.t 14)),
.s 3 (.m 15)] [0,3])
(.reg [
.s 16 (.m 0),
.s 17 (.bin .quo none (.t 16) (.k 10)),
.s 0 (.m 17)] [0,3]))))
(.trim [0,3])))))
(.seq
(.reg [
.s 18 (.m 3),
.s 19 (.m 0),
.s 20 (.bin .add none (.k 48) (.t 19)),
.s 21 (.cvI .u8 (.t 20)),
.s 22 (.bldT 5 1 1 (.int .u8 0) [(0,(.t 21))]),
.s 23 (.app false 5 1 1 (.t 18) (.t 22)),
.s 3 (.m 23)] [3])
(.seq
(.reg [
.s 24 (.mks 5 1 1 (.int .u8 0) (.k 0) (.k 0)),
.s 4 (.m 24)] [3,4])
(.seq
(.seq
(.reg [
.s 25 (.m 3),
.s 26 (.len (.t 25)),
.s 27 (.bin .sub none (.t 26) (.k 1)),
.s 5 (.m 27)] [3,4,5])
(.blk 2
(.seq
(.trim [3,4,5])
(.lop
(.seq
(.seq
(.seq
(.reg [
.s 28 (.m 5),
.s 29 (.bin .geq none (.t 28) (.k 0))] [3,4,5,29])
(.cnd (.t 29)
.skip
(.exit 2)))
(.seq
(.blk 3
(.reg [
.s 32 (.m 4),
.s 33 (.m 3),
.s 34 (.m 5),
.s 35 (.ia 1 (.t 33) (.t 34)),
.s 36 (.l 35),
.s 37 (.bldT 5 1 1 (.int .u8 0) [(0,(.t 36))]),
.s 38 (.app false 5 1 1 (.t 32) (.t 37)),
.s 4 (.m 38)] [3,4,5]))
(.reg [
.s 30 (.m 5),
.s 31 (.bin .sub none (.t 30) (.k 1)),
.s 5 (.m 31)] [3,4,5])))
(.trim [3,4,5]))))))
(.seq
(.reg [
.s 39 (.m 4),
.s 40 (.cvBS (.t 39)),
.s 2 (.m 40)] [2])
.ret))))))),
[.tmp 2]⟩
/-- emend/emendref1.Char -/
def F179 : DF := ⟨1,
(.seq
(.reg [
.s 2 (.mv (.c (.bool false)))] [0])
(.seq
(.reg [
.s 3 (.m 0),
.s 4 (.bin .geq none (.t 3) (.k 0)),
.s 5 (.m 4),
.g 6 (.m 0) 5 true,
.g 7 (.bin .leq none (.t 6) (.k 1114111)) 5 true,
.s 8 (.pick (.t 5) (.t 7) (.c (.bool false))),
.s 9 (.m 8),
.g 10 (.m 0) 9 true,
.g 11 (.bin .lss none (.t 10) (.k 55296)) 9 true,
.g 12 (.m 11) 9 true,
.g 13 (.m 0) 12 false,
.g 14 (.bin .gtr none (.t 13) (.k 57343)) 12 false,
.g 15 (.pick (.t 12) (.c (.bool true)) (.t 14)) 9 true,
.s 16 (.pick (.t 9) (.t 15) (.c (.bool false))),
.s 2 (.m 16)] [2])
.ret)),
[.tmp 2]⟩

/-- emend/emendref1.escape -/
def F182 : DF := ⟨2,
(.seq
(.reg [
.s 4 (.mv (.k 0)),
.s 5 (.mv (.k 0))] [0,1])
(.seq
(.seq
(.reg [
.s 9 (.m 1),
.s 10 (.bin .add none (.t 9) (.k 1)),
.s 11 (.m 0),
.s 12 (.lenS (.t 11)),
.s 13 (.bin .geq none (.t 10) (.t 12))] [0,1,13])
(.cnd (.t 13)
(.seq
(.reg [
.s 4 (.mv (.k 0)),
.s 5 (.mv (.k 0))] [4,5])
.ret)
.skip))
(.seq
(.reg [
.s 14 (.m 0),
.s 15 (.m 1),
.s 16 (.bin .add none (.t 15) (.k 1)),
.s 17 (.ixS (.t 14) (.t 16)),
.s 18 (.call 202 [(.t 17)]),
.s 6 (.m 18)] [0,1,6])
(.seq
(.seq
(.reg [
.s 19 (.m 6),
.s 20 (.bin .geq none (.t 19) (.k 0))] [0,1,6,20])
(.cnd (.t 20)
(.seq
(.reg [
.s 21 (.m 6),
.s 4 (.m 21),
.s 5 (.mv (.k 2))] [4,5])
.ret)
.skip))
(.seq
(.seq
(.reg [
.s 22 (.m 0),
.s 23 (.m 1),
.s 24 (.bin .add none (.t 23) (.k 1)),
.s 25 (.ixS (.t 22) (.t 24)),
.s 26 (.bin .neq (some .int) (.t 25) (.c (.int .u8 117)))] [0,1,26])
(.cnd (.t 26)
(.seq
(.reg [
.s 4 (.mv (.k 0)),
.s 5 (.mv (.k 0))] [4,5])
.ret)
.skip))
(.seq
(.reg [
.s 27 (.m 0),
.s 28 (.m 1),
.s 29 (.bin .add none (.t 28) (.k 2)),
.s 30 (.call 203 [(.t 27),(.t 29),(.k 4)]),
.s 7 (.m 30)] [0,1,7])
(.seq
(.seq
(.reg [
.s 31 (.m 7),
.s 32 (.bin .lss none (.t 31) (.k 0))] [0,1,7,32])
(.cnd (.t 32)
(.seq
(.reg [
.s 4 (.mv (.k 0)),
.s 5 (.mv (.k 0))] [4,5])
.ret)
.skip))
(.seq
(.seq
(.reg [
.s 33 (.m 7),
.s 34 (.bin .lss none (.t 33) (.k 55296)),
.s 35 (.m 34),
.g 36 (.m 7) 35 false,
.g 37 (.bin .gtr none (.t 36) (.k 57343)) 35 false,
.s 38 (.pick (.t 35) (.c (.bool true)) (.t 37))] [0,1,7,38])
(.cnd (.t 38)
(.seq
(.reg [
.s 39 (.m 7),
.s 4 (.m 39),
.s 5 (.mv (.k 6))] [4,5])
.ret)
.skip))
(.seq
(.seq
(.reg [
.s 40 (.m 7),
.s 41 (.bin .gtr none (.t 40) (.k 56319)),
.s 42 (.m 41),
.g 43 (.m 1) 42 false,
.g 44 (.bin .add none (.t 43) (.k 7)) 42 false,
.g 45 (.m 0) 42 false,
.g 46 (.lenS (.t 45)) 42 false,
.g 47 (.bin .geq none (.t 44) (.t 46)) 42 false,
.s 48 (.pick (.t 42) (.c (.bool true)) (.t 47)),
.s 49 (.m 48),
.g 50 (.m 0) 49 false,
.g 51 (.m 1) 49 false,
.g 52 (.bin .add none (.t 51) (.k 6)) 49 false,
.g 53 (.ixS (.t 50) (.t 52)) 49 false,
.g 54 (.bin .neq (some .int) (.t 53) (.c (.int .u8 92))) 49 false,
.s 55 (.pick (.t 49) (.c (.bool true)) (.t 54)),
.s 56 (.m 55),
.g 57 (.m 0) 56 false,
.g 58 (.m 1) 56 false,
.g 59 (.bin .add none (.t 58) (.k 7)) 56 false,
.g 60 (.ixS (.t 57) (.t 59)) 56 false,
.g 61 (.bin .neq (some .int) (.t 60) (.c (.int .u8 117))) 56 false,
.s 62 (.pick (.t 56) (.c (.bool true)) (.t 61))] [0,1,7,62])
(.cnd (.t 62)
(.seq
(.reg [
.s 4 (.mv (.k 0)),
.s 5 (.mv (.k 0))] [4,5])
.ret)
.skip))
(.seq
(.reg [
.s 63 (.m 0),
.s 64 (.m 1),
.s 65 (.bin .add none (.t 64) (.k 8)),
.s 66 (.call 203 [(.t 63),(.t 65),(.k 4)]),
.s 8 (.m 66)] [7,8])
(.seq
(.seq
(.reg [
.s 67 (.m 8),
.s 68 (.bin .lss none (.t 67) (.k 56320)),
.s 69 (.m 68),
.g 70 (.m 8) 69 false,
.g 71 (.bin .gtr none (.t 70) (.k 57343)) 69 false,
.s 72 (.pick (.t 69) (.c (.bool true)) (.t 71))] [7,8,72])
(.cnd (.t 72)
(.seq
(.reg [
.s 4 (.mv (.k 0)),
.s 5 (.mv (.k 0))] [4,5])
.ret)
.skip))
(.seq
(.reg [
.s 73 (.m 7),
.s 74 (.bin .sub none (.t 73) (.k 55296)),
.s 75 (.bin .mul none (.t 74) (.k 1024)),
.s 76 (.bin .add none (.k 65536) (.t 75)),
.s 77 (.m 8),
.s 78 (.bin .add none (.t 76) (.t 77)),
.s 79 (.bin .sub none (.t 78) (.k 56320)),
.s 4 (.m 79),
.s 5 (.mv (.k 12))] [4,5])
.ret)))))))))))),
[.tmp 4,.tmp 5]⟩
/-- emend/emendref1.Byte -/
def F183 : DF := ⟨1,
(.seq
(.reg [
.s 2 (.mv (.c (.str [])))] [0])
(.seq
(.blk 0
(.seq
(.reg [
.s 4 (.m 0),
.s 5 (.bin .lss none (.t 4) (.k 128)),
.s 3 (.m 5)] [0,3])
(.cnd (.t 3)
(.seq
(.reg [
.s 6 (.m 0),
.s 7 (.cvI .u8 (.t 6)),
.s 8 (.bldT 5 1 1 (.int .u8 0) [(0,(.t 7))]),
.s 9 (.cvBS (.t 8)),
.s 2 (.m 9)] [2])
.ret)
(.seq
(.reg [
.s 11 (.m 0),
.s 12 (.bin .lss none (.t 11) (.k 2048)),
.s 10 (.m 12)] [0,10])
(.cnd (.t 10)
(.seq
(.reg [
.s 13 (.m 0),
.s 14 (.bin .quo none (.t 13) (.k 64)),
.s 15 (.bin .add none (.k 192) (.t 14)),
.s 16 (.cvI .u8 (.t 15)),
.s 17 (.m 0),
.s 18 (.bin .rem none (.t 17) (.k 64)),
.s 19 (.bin .add none (.k 128) (.t 18)),
.s 20 (.cvI .u8 (.t 19)),
.s 21 (.bldT 5 1 2 (.int .u8 0) [(0,(.t 16)),(1,(.t 20))]),
.s 22 (.cvBS (.t 21)),
.s 2 (.m 22)] [2])
.ret)
(.seq
(.reg [
.s 24 (.m 0),
.s 25 (.bin .lss none (.t 24) (.k 65536)),
.s 23 (.m 25)] [0,23])
(.cnd (.t 23)
(.seq
(.reg [
.s 26 (.m 0),
.s 27 (.bin .quo none (.t 26) (.k 4096)),
.s 28 (.bin .add none (.k 224) (.t 27)),
.s 29 (.cvI .u8 (.t 28)),
.s 30 (.m 0),
.s 31 (.bin .quo none (.t 30) (.k 64)),
.s 32 (.bin .rem none (.t 31) (.k 64)),
.s 33 (.bin .add none (.k 128) (.t 32)),
.s 34 (.cvI .u8 (.t 33)),
.s 35 (.m 0),
.s 36 (.bin .rem none (.t 35) (.k 64)),
.s 37 (.bin .add none (.k 128) (.t 36)),
.s 38 (.cvI .u8 (.t 37)),
.s 39 (.bldT 5 1 3 (.int .u8 0) [(0,(.t 29)),(1,(.t 34)),(2,(.t 38))]),
.s 40 (.cvBS (.t 39)),
.s 2 (.m 40)] [2])
.ret)
.skip)))))))
(.seq
(.reg [
.s 41 (.m 0),
.s 42 (.bin .quo none (.t 41) (.k 262144)),
.s 43 (.bin .add none (.k 240) (.t 42)),
.s 44 (.cvI .u8 (.t 43)),
.s 45 (.m 0),
.s 46 (.bin .quo none (.t 45) (.k 4096)),
.s 47 (.bin .rem none (.t 46) (.k 64)),
.s 48 (.bin .add none (.k 128) (.t 47)),
.s 49 (.cvI .u8 (.t 48)),
.s 50 (.m 0),
.s 51 (.bin .quo none (.t 50) (.k 64)),
.s 52 (.bin .rem none (.t 51) (.k 64)),
.s 53 (.bin .add none (.k 128) (.t 52)),
.s 54 (.cvI .u8 (.t 53)),
.s 55 (.m 0),
.s 56 (.bin .rem none (.t 55) (.k 64)),
.s 57 (.bin .add none (.k 128) (.t 56)),
.s 58 (.cvI .u8 (.t 57)),
.s 59 (.bldT 5 1 4 (.int .u8 0) [(0,(.t 44)),(1,(.t 49)),(2,(.t 54)),(3,(.t 58))]),
.s 60 (.cvBS (.t 59)),
.s 2 (.m 60)] [2])
.ret))),
[.tmp 2]⟩
/-- strings.HasPrefix -/
def F185 : DF := ⟨2,
(.seq
(.reg [
.s 4 (.mv (.c (.bool false)))] [0,1])
(.seq
(.reg [
.s 5 (.m 0),
.s 6 (.m 1),
.s 7 (.call 204 [(.t 5),(.t 6)]),
.s 4 (.m 7)] [4])
.ret)),
[.tmp 4]⟩
/-- strings.TrimPrefix -/
def F186 : DF := ⟨2,
(.seq
(.reg [
.s 4 (.mv (.c (.str [])))] [0,1])
(.seq
(.reg [
.s 5 (.m 0),
.s 6 (.m 1),
.s 7 (.call 205 [(.t 5),(.t 6)]),
.s 4 (.m 7)] [4])
.ret)),
[.tmp 4]⟩

/-- emend/num.digit -/
def F195 : DF := ⟨1,
(.seq
(.reg [
.s 2 (.mv (.c (.bool false)))] [0])
(.seq
(.reg [
.s 3 (.m 0),
.s 4 (.bin .geq none (.t 3) (.c (.int .u8 48))),
.s 5 (.m 4),
.g 6 (.m 0) 5 true,
.g 7 (.bin .leq none (.t 6) (.c (.int .u8 57))) 5 true,
.s 8 (.pick (.t 5) (.t 7) (.c (.bool false))),
.s 2 (.m 8)] [2])
.ret)),
[.tmp 2]⟩

/-- internal/stringslite.HasSuffix -/
def F197 : DF := ⟨2,
(.seq
(.reg [
.s 4 (.mv (.c (.bool false)))] [0,1])
(.seq
(.reg [
.s 5 (.m 0),
.s 6 (.lenS (.t 5)),
.s 7 (.m 1),
.s 8 (.lenS (.t 7)),
.s 9 (.bin .geq none (.t 6) (.t 8)),
.s 10 (.m 9),
.g 11 (.m 0) 10 true,
.g 12 (.m 0) 10 true,
.g 13 (.lenS (.t 12)) 10 true,
.g 14 (.m 1) 10 true,
.g 15 (.lenS (.t 14)) 10 true,
.g 16 (.bin .sub none (.t 13) (.t 15)) 10 true,
.g 17 (.slS (.t 11) (some (.t 16)) none) 10 true,
.g 18 (.m 1) 10 true,
.g 19 (.bin .eql (some .str) (.t 17) (.t 18)) 10 true,
.s 20 (.pick (.t 10) (.t 19) (.c (.bool false))),
.s 4 (.m 20)] [4])
.ret)),
[.tmp 4]⟩
/-- internal/stringslite.Index -/
def F198 : DF := ⟨2,
(.seq
(.reg [
.s 4 (.mv (.k 0))] [0,1])
(.seq
(.reg [
.s 14 (.m 1),
.s 15 (.lenS (.t 14)),
.s 5 (.m 15)] [0,1,5])
(.seq
(.blk 0
(.seq
(.reg [
.s 17 (.m 5),
.s 18 (.bin .eql (some .int) (.t 17) (.k 0)),
.s 19 (.m 18),
.g 20 (.m 1) 19 false,
.g 21 (.m 0) 19 false,
.g 22 (.bin .eql (some .str) (.t 20) (.t 21)) 19 false,
.s 23 (.pick (.t 19) (.c (.bool true)) (.t 22)),
.s 16 (.m 23)] [0,1,5,16])
(.cnd (.t 16)
(.seq
(.reg [
.s 4 (.mv (.k 0))] [4])
.ret)
(.seq
(.reg [
.s 25 (.m 5),
.s 26 (.bin .eql (some .int) (.t 25) (.k 1)),
.s 24 (.m 26)] [0,1,5,24])
(.cnd (.t 24)
(.seq
(.reg [
.s 27 (.m 0),
.s 28 (.m 1),
.s 29 (.ixS (.t 28) (.k 0)),
.s 30 (.call 213 [(.t 27),(.t 29)]),
.s 4 (.m 30)] [4])
.ret)
(.seq
(.reg [
.s 32 (.m 5),
.s 33 (.m 0),
.s 34 (.lenS (.t 33)),
.s 35 (.bin .geq none (.t 32) (.t 34)),
.s 31 (.m 35)] [0,1,5,31])
(.cnd (.t 31)
(.seq
(.reg [
.s 4 (.mv (.k (-1)))] [4])
.ret)
(.seq
(.reg [
.s 37 (.m 5),
.s 38 (.ld false 1 (.g 1)),
.s 39 (.bin .leq none (.t 37) (.t 38)),
.s 40 (.m 39),
.g 41 (.m 0) 40 true,
.g 42 (.lenS (.t 41)) 40 true,
.g 43 (.bin .leq none (.t 42) (.k 64)) 40 true,
.s 44 (.pick (.t 40) (.t 43) (.c (.bool false))),
.s 36 (.m 44)] [0,1,5,36])
(.cnd (.t 36)
(.seq
.fail
.ret)
.skip)))))))))
(.seq
(.reg [
.s 48 (.m 1),
.s 49 (.ixS (.t 48) (.k 0)),
.s 6 (.m 49)] [0,1,5,6])
(.seq
(.reg [
.s 50 (.m 1),
.s 51 (.ixS (.t 50) (.k 1)),
.s 7 (.m 51)] [0,1,5,6,7])
(.seq
(.reg [
.s 8 (.mv (.k 0))] [0,1,5,6,7,8])
(.seq
(.reg [
.s 52 (.m 0),
.s 53 (.lenS (.t 52)),
.s 54 (.m 5),
.s 55 (.bin .sub none (.t 53) (.t 54)),
.s 56 (.bin .add none (.t 55) (.k 1)),
.s 9 (.m 56)] [0,1,5,6,7,8,9])
(.seq
(.reg [
.s 10 (.mv (.k 0))] [0,1,5,6,7,8,9,10])
(.seq
(.blk 1
(.seq
(.trim [0,1,5,6,7,8,9,10])
(.lop
(.seq
(.seq
(.seq
(.reg [
.s 57 (.m 8),
.s 58 (.m 9),
.s 59 (.bin .lss none (.t 57) (.t 58))] [0,1,5,6,7,8,9,10,59])
(.cnd (.t 59)
.skip
(.exit 1)))
(.blk 2
(.seq
(.seq
(.reg [
.s 60 (.m 0),
.s 61 (.m 8),
.s 62 (.ixS (.t 60) (.t 61)),
.s 63 (.m 6),
.s 64 (.bin .neq (some .int) (.t 62) (.t 63))] [0,1,5,6,7,8,9,10,64])
(.cnd (.t 64)
(.seq
(.reg [
.s 65 (.m 0),
.s 66 (.m 8),
.s 67 (.bin .add none (.t 66) (.k 1)),
.s 68 (.m 9),
.s 69 (.slS (.t 65) (some (.t 67)) (some (.t 68))),
.s 70 (.m 6),
.s 71 (.call 213 [(.t 69),(.t 70)]),
.s 11 (.m 71)] [0,1,5,6,7,8,9,10,11])
(.seq
(.seq
(.reg [
.s 72 (.m 11),
.s 73 (.bin .lss none (.t 72) (.k 0))] [0,1,5,6,7,8,9,10,11,73])
(.cnd (.t 73)
(.seq
(.reg [
.s 4 (.mv (.k (-1)))] [4])
.ret)
.skip))
(.reg [
.s 74 (.m 8),
.s 75 (.m 11),
.s 76 (.bin .add none (.t 75) (.k 1)),
.s 77 (.bin .add none (.t 74) (.t 76)),
.s 8 (.m 77)] [0,1,5,6,7,8,9,10])))
.skip))
(.seq
(.seq
(.reg [
.s 78 (.m 0),
.s 79 (.m 8),
.s 80 (.bin .add none (.t 79) (.k 1)),
.s 81 (.ixS (.t 78) (.t 80)),
.s 82 (.m 7),
.s 83 (.bin .eql (some .int) (.t 81) (.t 82)),
.s 84 (.m 83),
.g 85 (.m 0) 84 true,
.g 86 (.m 8) 84 true,
.g 87 (.m 8) 84 true,
.g 88 (.m 5) 84 true,
.g 89 (.bin .add none (.t 87) (.t 88)) 84 true,
.g 90 (.slS (.t 85) (some (.t 86)) (some (.t 89))) 84 true,
.g 91 (.m 1) 84 true,
.g 92 (.bin .eql (some .str) (.t 90) (.t 91)) 84 true,
.s 93 (.pick (.t 84) (.t 92) (.c (.bool false)))] [0,1,5,6,7,8,9,10,93])
(.cnd (.t 93)
(.seq
(.reg [
.s 94 (.m 8),
.s 4 (.m 94)] [4])
.ret)
.skip))
(.seq
(.reg [
.s 95 (.m 8),
.s 96 (.bin .add none (.t 95) (.k 1)),
.s 8 (.m 96)] [0,1,5,6,7,8,9,10])
(.seq
(.reg [
.s 97 (.m 10),
.s 98 (.bin .add none (.t 97) (.k 1)),
.s 10 (.m 98)] [0,1,5,6,7,8,9,10])
(.seq
(.reg [
.s 99 (.m 5),
.s 100 (.ld false 1 (.g 1)),
.s 101 (.bin .leq none (.t 99) (.t 100)),
.s 102 (.m 101),
.g 103 (.m 10) 102 true,
.g 104 (.m 8) 102 true,
.g 105 (.call 215 [(.t 104)]) 102 true,
.g 106 (.bin .gtr none (.t 103) (.t 105)) 102 true,
.s 107 (.pick (.t 102) (.t 106) (.c (.bool false)))] [0,1,5,6,7,8,9,10,107])
(.cnd (.t 107)
(.seq
.fail
(.seq
(.seq
(.reg [
.s 113 (.m 12),
.s 114 (.bin .geq none (.t 113) (.k 0))] [8,12,114])
(.cnd (.t 114)
(.seq
(.reg [
.s 115 (.m 12),
.s 116 (.m 8),
.s 117 (.bin .add none (.t 115) (.t 116)),
.s 4 (.m 117)] [4])
.ret)
.skip))
(.seq
(.reg [
.s 4 (.mv (.k (-1)))] [4])
.ret)))
(.seq
(.reg [
.s 118 (.m 5),
.s 119 (.ld false 1 (.g 1)),
.s 120 (.bin .gtr none (.t 118) (.t 119)),
.s 121 (.m 120),
.g 122 (.m 10) 121 true,
.g 123 (.m 8) 121 true,
.g 124 (.bin .shr none (.t 123) (.c (.int .u64 4))) 121 true,
.g 125 (.bin .add none (.k 4) (.t 124)) 121 true,
.g 126 (.bin .geq none (.t 122) (.t 125)) 121 true,
.s 127 (.pick (.t 121) (.t 126) (.c (.bool false))),
.s 128 (.m 127),
.g 129 (.m 8) 128 true,
.g 130 (.m 9) 128 true,
.g 131 (.bin .lss none (.t 129) (.t 130)) 128 true,
.s 132 (.pick (.t 128) (.t 131) (.c (.bool false)))] [0,1,5,6,7,8,9,10,132])
(.cnd (.t 132)
(.seq
(.reg [
.s 133 (.m 0),
.s 134 (.m 8),
.s 135 (.slS (.t 133) (some (.t 134)) none),
.s 136 (.m 1),
.s 137 (.call 216 [(.t 135),(.t 136)]),
.s 13 (.m 137)] [8,13])
(.seq
(.seq
(.reg [
.s 138 (.m 13),
.s 139 (.bin .lss none (.t 138) (.k 0))] [8,13,139])
(.cnd (.t 139)
(.seq
(.reg [
.s 4 (.mv (.k (-1)))] [4])
.ret)
.skip))
(.seq
(.reg [
.s 140 (.m 8),
.s 141 (.m 13),
.s 142 (.bin .add none (.t 140) (.t 141)),
.s 4 (.m 142)] [4])
.ret)))
.skip))))))))))
(.trim [0,1,5,6,7,8,9,10])))))
(.seq
(.reg [
.s 4 (.mv (.k (-1)))] [4])
.ret)))))))))),
[.tmp 4]⟩
/-- emend/text.pair -/
def F199 : DF := ⟨1,
(.seq
(.reg [
.s 2 (.mv (.k 0)),
.s 3 (.mv (.k 0))] [0])
(.seq
(.reg [
.s 6 (.m 0),
.s 7 (.slS (.t 6) (some (.k 1)) none),
.s 8 (.call 217 [(.t 7),(.k 4)]),
.s 4 (.m 8)] [0,4])
(.seq
(.seq
(.reg [
.s 9 (.m 4),
.s 10 (.bin .lss none (.t 9) (.k 55296)),
.s 11 (.m 10),
.g 12 (.m 4) 11 false,
.g 13 (.bin .gtr none (.t 12) (.k 57343)) 11 false,
.s 14 (.pick (.t 11) (.c (.bool true)) (.t 13))] [0,4,14])
(.cnd (.t 14)
(.seq
(.seq
(.reg [
.s 15 (.m 4),
.s 16 (.bin .lss none (.t 15) (.k 0))] [4,16])
(.cnd (.t 16)
(.seq
(.reg [
.s 2 (.mv (.k 0)),
.s 3 (.mv (.k 0))] [2,3])
.ret)
.skip))
(.seq
(.reg [
.s 17 (.m 4),
.s 2 (.m 17),
.s 3 (.mv (.k 5))] [2,3])
.ret))
.skip))
(.seq
(.seq
(.reg [
.s 18 (.m 4),
.s 19 (.bin .geq none (.t 18) (.k 56320)),
.s 20 (.m 19),
.g 21 (.m 0) 20 false,
.g 22 (.slS (.t 21) (some (.k 5)) none) 20 false,
.g 23 (.call 185 [(.t 22),(.c (.str [92,117]))]) 20 false,
.g 24 (.un .not (.t 23)) 20 false,
.s 25 (.pick (.t 20) (.c (.bool true)) (.t 24))] [0,4,25])
(.cnd (.t 25)
(.seq
(.reg [
.s 2 (.mv (.k 0)),
.s 3 (.mv (.k 0))] [2,3])
.ret)
.skip))
(.seq
(.reg [
.s 26 (.m 0),
.s 27 (.slS (.t 26) (some (.k 7)) none),
.s 28 (.call 217 [(.t 27),(.k 4)]),
.s 5 (.m 28)] [4,5])
(.seq
(.seq
(.reg [
.s 29 (.m 5),
.s 30 (.bin .lss none (.t 29) (.k 56320)),
.s 31 (.m 30),
.g 32 (.m 5) 31 false,
.g 33 (.bin .gtr none (.t 32) (.k 57343)) 31 false,
.s 34 (.pick (.t 31) (.c (.bool true)) (.t 33))] [4,5,34])
(.cnd (.t 34)
(.seq
(.reg [
.s 2 (.mv (.k 0)),
.s 3 (.mv (.k 0))] [2,3])
.ret)
.skip))
(.seq
(.reg [
.s 35 (.m 4),
.s 36 (.bin .sub none (.t 35) (.k 55296)),
.s 37 (.bin .shl none (.t 36) (.c (.int .u64 10))),
.s 38 (.bin .add none (.k 65536) (.t 37)),
.s 39 (.m 5),
.s 40 (.bin .add none (.t 38) (.t 39)),
.s 41 (.bin .sub none (.t 40) (.k 56320)),
.s 2 (.m 41),
.s 3 (.mv (.k 11))] [2,3])
.ret))))))),
[.tmp 2,.tmp 3]⟩
/-- emend/text.put$1 -/
def F200 : DF := ⟨2,
(.seq
(.reg [
.s 3 (.mv (.c (.int .u8 0)))] [0,1])
(.seq
(.reg [
.s 4 (.l 1),
.s 5 (.m 0),
.s 6 (.bin .shr none (.t 4) (.t 5)),
.s 7 (.bin .and none (.t 6) (.k 63)),
.s 8 (.bin .or none (.k 128) (.t 7)),
.s 9 (.cvI .u8 (.t 8)),
.s 3 (.m 9)] [3])
.ret)),
[.tmp 3]⟩

/-- emend/emendref1.Simple -/
def F202 : DF := ⟨1,
(.seq
(.reg [
.s 2 (.mv (.k 0))] [0])
(.seq
(.seq
(.reg [
.s 3 (.m 0)] [0,3])
(.blk 0
(.seq
(.seq
(.reg [
.s 5 (.bin .eql (some .int) (.t 3) (.c (.int .u8 34))),
.s 4 (.m 5)] [0,3,4])
(.cnd (.t 4)
.skip
(.seq
(.reg [
.s 6 (.bin .eql (some .int) (.t 3) (.c (.int .u8 92))),
.s 4 (.m 6)] [0,3,4])
(.cnd (.t 4)
.skip
(.reg [
.s 7 (.bin .eql (some .int) (.t 3) (.c (.int .u8 47))),
.s 4 (.m 7)] [0,3,4])))))
(.cnd (.t 4)
(.seq
(.reg [
.s 8 (.m 0),
.s 9 (.cvI .i64 (.t 8)),
.s 2 (.m 9)] [2])
.ret)
(.seq
(.reg [
.s 11 (.bin .eql (some .int) (.t 3) (.c (.int .u8 98))),
.s 10 (.m 11)] [3,10])
(.cnd (.t 10)
(.seq
(.reg [
.s 2 (.mv (.k 8))] [2])
.ret)
(.seq
(.reg [
.s 13 (.bin .eql (some .int) (.t 3) (.c (.int .u8 102))),
.s 12 (.m 13)] [3,12])
(.cnd (.t 12)
(.seq
(.reg [
.s 2 (.mv (.k 12))] [2])
.ret)
(.seq
(.reg [
.s 15 (.bin .eql (some .int) (.t 3) (.c (.int .u8 110))),
.s 14 (.m 15)] [3,14])
(.cnd (.t 14)
(.seq
(.reg [
.s 2 (.mv (.k 10))] [2])
.ret)
(.seq
(.reg [
.s 17 (.bin .eql (some .int) (.t 3) (.c (.int .u8 114))),
.s 16 (.m 17)] [3,16])
(.cnd (.t 16)
(.seq
(.reg [
.s 2 (.mv (.k 13))] [2])
.ret)
(.seq
(.reg [
.s 19 (.bin .eql (some .int) (.t 3) (.c (.int .u8 116))),
.s 18 (.m 19)] [18])
(.cnd (.t 18)
(.seq
(.reg [
.s 2 (.mv (.k 9))] [2])
.ret)
.skip))))))))))))))
(.seq
(.reg [
.s 2 (.mv (.k (-1)))] [2])
.ret))),
[.tmp 2]⟩
/-- emend/emendref1.Number -/
def F203 : DF := ⟨3,
(.seq
(.reg [
.s 6 (.mv (.k 0))] [0,1,2])
(.seq
(.reg [
.s 7 (.mv (.k 0))] [0,1,2,7])
(.seq
(.seq
(.reg [
.s 8 (.mv (.k 0))] [0,1,2,7,8])
(.blk 0
(.seq
(.trim [0,1,2,7,8])
(.lop
(.seq
(.seq
(.seq
(.reg [
.s 9 (.m 8),
.s 10 (.m 2),
.s 11 (.bin .lss none (.t 9) (.t 10))] [0,1,2,7,8,11])
(.cnd (.t 11)
.skip
(.exit 0)))
(.seq
(.blk 1
(.seq
(.seq
(.reg [
.s 14 (.m 1),
.s 15 (.m 8),
.s 16 (.bin .add none (.t 14) (.t 15)),
.s 17 (.m 0),
.s 18 (.lenS (.t 17)),
.s 19 (.bin .geq none (.t 16) (.t 18)),
.s 20 (.m 19),
.g 21 (.m 0) 20 false,
.g 22 (.m 1) 20 false,
.g 23 (.m 8) 20 false,
.g 24 (.bin .add none (.t 22) (.t 23)) 20 false,
.g 25 (.ixS (.t 21) (.t 24)) 20 false,
.g 26 (.call 219 [(.t 25)]) 20 false,
.g 27 (.bin .lss none (.t 26) (.k 0)) 20 false,
.s 28 (.pick (.t 20) (.c (.bool true)) (.t 27))] [0,1,2,7,8,28])
(.cnd (.t 28)
(.seq
(.reg [
.s 6 (.mv (.k (-1)))] [6])
.ret)
.skip))
(.reg [
.s 29 (.m 7),
.s 30 (.bin .mul none (.t 29) (.k 16)),
.s 31 (.m 0),
.s 32 (.m 1),
.s 33 (.m 8),
.s 34 (.bin .add none (.t 32) (.t 33)),
.s 35 (.ixS (.t 31) (.t 34)),
.s 36 (.call 219 [(.t 35)]),
.s 37 (.bin .add none (.t 30) (.t 36)),
.s 7 (.m 37)] [0,1,2,7,8])))
(.reg [
.s 12 (.m 8),
.s 13 (.bin .add none (.t 12) (.k 1)),
.s 8 (.m 13)] [0,1,2,7,8])))
(.trim [0,1,2,7,8]))))))
(.seq
(.reg [
.s 38 (.m 7),
.s 6 (.m 38)] [6])
.ret)))),
[.tmp 6]⟩
/-- internal/stringslite.HasPrefix -/
def F204 : DF := ⟨2,
(.seq
(.reg [
.s 4 (.mv (.c (.bool false)))] [0,1])
(.seq
(.reg [
.s 5 (.m 0),
.s 6 (.lenS (.t 5)),
.s 7 (.m 1),
.s 8 (.lenS (.t 7)),
.s 9 (.bin .geq none (.t 6) (.t 8)),
.s 10 (.m 9),
.g 11 (.m 0) 10 true,
.g 12 (.m 1) 10 true,
.g 13 (.lenS (.t 12)) 10 true,
.g 14 (.slS (.t 11) none (some (.t 13))) 10 true,
.g 15 (.m 1) 10 true,
.g 16 (.bin .eql (some .str) (.t 14) (.t 15)) 10 true,
.s 17 (.pick (.t 10) (.t 16) (.c (.bool false))),
.s 4 (.m 17)] [4])
.ret)),
[.tmp 4]⟩
/-- internal/stringslite.TrimPrefix -/
def F205 : DF := ⟨2,
(.seq
(.reg [
.s 4 (.mv (.c (.str [])))] [0,1])
(.seq
(.seq
(.reg [
.s 5 (.m 0),
.s 6 (.m 1),
.s 7 (.call 204 [(.t 5),(.t 6)])] [0,1,7])
(.cnd (.t 7)
(.seq
(.reg [
.s 8 (.m 0),
.s 9 (.m 1),
.s 10 (.lenS (.t 9)),
.s 11 (.slS (.t 8) (some (.t 10)) none),
.s 4 (.m 11)] [4])
.ret)
.skip))
(.seq
(.reg [
.s 12 (.m 0),
.s 4 (.m 12)] [4])
.ret))),
[.tmp 4]⟩

/-- internal/stringslite.IndexByte -/
def F213 : DF := ⟨2,
(.seq
(.reg [
.s 4 (.mv (.k 0))] [0,1])
(.seq
(.reg [
.s 5 (.m 0),
.s 6 (.m 1),
.s 7 (.xtn .indexByte [(.t 5),(.t 6)]),
.s 4 (.m 7)] [4])
.ret)),
[.tmp 4]⟩

/-- emend/text.Hex -/
def F217 : DF := ⟨2,
(.seq
(.reg [
.s 4 (.mv (.k 0))] [0,1])
(.seq
(.seq
(.reg [
.s 8 (.m 0),
.s 9 (.lenS (.t 8)),
.s 10 (.m 1),
.s 11 (.bin .lss none (.t 9) (.t 10))] [0,1,11])
(.cnd (.t 11)
(.seq
(.reg [
.s 4 (.mv (.k (-1)))] [4])
.ret)
.skip))
(.seq
(.reg [
.s 5 (.mv (.k 0))] [0,1,5])
(.seq
(.seq
(.reg [
.s 12 (.m 1),
.s 13 (.mv (.k 0))] [0,5,12,13])
(.blk 0
(.seq
(.trim [0,5,12,13])
(.lop
(.seq
(.seq
(.reg [
.s 14 (.bin .lss none (.t 13) (.t 12))] [0,5,12,13,14])
(.seq
(.cnd (.t 14)
.skip
(.exit 0))
(.seq
(.blk 1
(.seq
(.reg [
.s 15 (.m 13),
.s 6 (.m 15)] [0,5,6,12,13])
(.seq
(.reg [
.s 16 (.m 0),
.s 17 (.m 6),
.s 18 (.ixS (.t 16) (.t 17)),
.s 19 (.call 234 [(.t 18)]),
.s 7 (.m 19)] [0,5,7,12,13])
(.seq
(.seq
(.reg [
.s 20 (.m 7),
.s 21 (.bin .lss none (.t 20) (.k 0))] [0,5,7,12,13,21])
(.cnd (.t 21)
(.seq
(.reg [
.s 4 (.mv (.k (-1)))] [4])
.ret)
.skip))
(.reg [
.s 22 (.m 5),
.s 23 (.bin .shl none (.t 22) (.c (.int .u64 4))),
.s 24 (.m 7),
.s 25 (.bin .or none (.t 23) (.t 24)),
.s 5 (.m 25)] [0,5,12,13])))))
(.reg [
.s 26 (.bin .add none (.t 13) (.k 1)),
.s 13 (.m 26)] [0,5,12,13]))))
(.trim [0,5,12,13]))))))
(.seq
(.reg [
.s 27 (.m 5),
.s 4 (.m 27)] [4])
.ret))))),
[.tmp 4]⟩

/-- emend/emendref1.Hex -/
def F219 : DF := ⟨1,
(.seq
(.reg [
.s 2 (.mv (.k 0))] [0])
(.seq
(.blk 0
(.seq
(.reg [
.s 4 (.m 0),
.s 5 (.bin .geq none (.t 4) (.c (.int .u8 48))),
.s 6 (.m 5),
.g 7 (.m 0) 6 true,
.g 8 (.bin .leq none (.t 7) (.c (.int .u8 57))) 6 true,
.s 9 (.pick (.t 6) (.t 8) (.c (.bool false))),
.s 3 (.m 9)] [0,3])
(.cnd (.t 3)
(.seq
(.reg [
.s 10 (.m 0),
.s 11 (.bin .sub none (.t 10) (.c (.int .u8 48))),
.s 12 (.cvI .i64 (.t 11)),
.s 2 (.m 12)] [2])
.ret)
(.seq
(.reg [
.s 14 (.m 0),
.s 15 (.bin .geq none (.t 14) (.c (.int .u8 97))),
.s 16 (.m 15),
.g 17 (.m 0) 16 true,
.g 18 (.bin .leq none (.t 17) (.c (.int .u8 102))) 16 true,
.s 19 (.pick (.t 16) (.t 18) (.c (.bool false))),
.s 13 (.m 19)] [0,13])
(.cnd (.t 13)
(.seq
(.reg [
.s 20 (.m 0),
.s 21 (.bin .sub none (.t 20) (.c (.int .u8 97))),
.s 22 (.cvI .i64 (.t 21)),
.s 23 (.bin .add none (.t 22) (.k 10)),
.s 2 (.m 23)] [2])
.ret)
(.seq
(.reg [
.s 25 (.m 0),
.s 26 (.bin .geq none (.t 25) (.c (.int .u8 65))),
.s 27 (.m 26),
.g 28 (.m 0) 27 true,
.g 29 (.bin .leq none (.t 28) (.c (.int .u8 70))) 27 true,
.s 30 (.pick (.t 27) (.t 29) (.c (.bool false))),
.s 24 (.m 30)] [0,24])
(.cnd (.t 24)
(.seq
(.reg [
.s 31 (.m 0),
.s 32 (.bin .sub none (.t 31) (.c (.int .u8 65))),
.s 33 (.cvI .i64 (.t 32)),
.s 34 (.bin .add none (.t 33) (.k 10)),
.s 2 (.m 34)] [2])
.ret)
.skip)))))))
(.seq
(.reg [
.s 2 (.mv (.k (-1)))] [2])
.ret))),
[.tmp 2]⟩

/-- emend/text.value -/
def F234 : DF := ⟨1,
(.seq
(.reg [
.s 2 (.mv (.k 0))] [0])
(.seq
(.blk 0
(.seq
(.reg [
.s 4 (.m 0),
.s 5 (.bin .geq none (.t 4) (.c (.int .u8 48))),
.s 6 (.m 5),
.g 7 (.m 0) 6 true,
.g 8 (.bin .leq none (.t 7) (.c (.int .u8 57))) 6 true,
.s 9 (.pick (.t 6) (.t 8) (.c (.bool false))),
.s 3 (.m 9)] [0,3])
(.cnd (.t 3)
(.seq
(.reg [
.s 10 (.m 0),
.s 11 (.bin .sub none (.t 10) (.c (.int .u8 48))),
.s 12 (.cvI .i64 (.t 11)),
.s 2 (.m 12)] [2])
.ret)
(.seq
(.reg [
.s 14 (.m 0),
.s 15 (.bin .geq none (.t 14) (.c (.int .u8 97))),
.s 16 (.m 15),
.g 17 (.m 0) 16 true,
.g 18 (.bin .leq none (.t 17) (.c (.int .u8 102))) 16 true,
.s 19 (.pick (.t 16) (.t 18) (.c (.bool false))),
.s 13 (.m 19)] [0,13])
(.cnd (.t 13)
(.seq
(.reg [
.s 20 (.m 0),
.s 21 (.bin .sub none (.t 20) (.c (.int .u8 97))),
.s 22 (.cvI .i64 (.t 21)),
.s 23 (.bin .add none (.t 22) (.k 10)),
.s 2 (.m 23)] [2])
.ret)
(.seq
(.reg [
.s 25 (.m 0),
.s 26 (.bin .geq none (.t 25) (.c (.int .u8 65))),
.s 27 (.m 26),
.g 28 (.m 0) 27 true,
.g 29 (.bin .leq none (.t 28) (.c (.int .u8 70))) 27 true,
.s 30 (.pick (.t 27) (.t 29) (.c (.bool false))),
.s 24 (.m 30)] [0,24])
(.cnd (.t 24)
(.seq
(.reg [
.s 31 (.m 0),
.s 32 (.bin .sub none (.t 31) (.c (.int .u8 65))),
.s 33 (.cvI .i64 (.t 32)),
.s 34 (.bin .add none (.t 33) (.k 10)),
.s 2 (.m 34)] [2])
.ret)
.skip)))))))
(.seq
(.reg [
.s 2 (.mv (.k (-1)))] [2])
.ret))),
[.tmp 2]⟩

end Go.Proofs.C1

namespace Go.Dn
open Go Go.RowKit
section
variable {gt:GT}{C:CallT}
theorem afterS_imp (hm:MonoC C){dst:Option Nat}{env:Env}{S:St}{K K':Env->St->Prop}{Q Q':Ex->Env->St->Prop}{r:SR}(hk:∀e S,K e S->K' e S)(hq:∀x e S,Q x e S->Q' x e S)(h:afterS C dst env S K Q r):afterS C dst env S K' Q' r:=by
 cases r with
 | fail=>exact h
 | done e s=>exact hk _ _ h
 | pan v=>exact hq _ _ _ h
 | call f xs =>
  refine hm _ _ _ _ _ h λr S' hr=>?_;cases r with
  | ret v=>exact hk _ _ hr
  | pan v=>exact hq _ _ _ hr
theorem wpIs_imp (hm:MonoC C):∀(is:List DI) {env:Env} {S:St} {Q Q':Ex->Env->St->Prop},(∀x e S,Q x e S->Q' x e S)->wpIs gt C is env S Q->wpIs gt C is env S Q'
 | [],_,_,_,_,hq,h=>hq _ _ _ h
 | _::r,_,_,_,_,hq,h=>afterS_imp hm (λ_ _ h=>wpIs_imp hm r hq h) hq h
theorem wpDs_imp (hm:MonoC C):∀(is:List DRow) {env:Env} {S:St} {Q Q':Ex->Env->St->Prop},(∀x e S,Q x e S->Q' x e S)->wpDs gt C is env S Q->wpDs gt C is env S Q'
 | [],_,_,_,_,hq,h=>hq _ _ _ h
 | _::r,_,_,_,_,hq,h=>afterS_imp hm (λ_ _ h=>⟨h.1,wpDs_imp hm r hq h.2⟩) hq h
theorem wpD_imp (hm:MonoC C):∀(c:DC) {env:Env} {S:St} {Q Q':Ex->Env->St->Prop},(∀x e S,Q x e S->Q' x e S)->wpD gt C c env S Q->wpD gt C c env S Q'
 |.skip,_,_,_,_,hq,h=>hq _ _ _ h
 |.reg is keep,_,_,_,_,hq,h=>wpIs_imp hm is (λ_ _ _ h=>hq _ _ _ h) h
 |.drw is keep,_,_,_,_,hq,h=>wpDs_imp hm is (λ_ _ _ h=>hq _ _ _ h) h
 |.trim keep,_,_,_,_,hq,h=>hq _ _ _ h
 |.fail,_,_,_,_,_,h=>h
 |.ndet is keep,env,S,Q,Q',hq,h=>by
  simp only[wpD]at h ⊢;split at h
  ·exact afterS_imp hm (λ_ _ h=>⟨wpIs_imp hm _ (λ_ _ _ h=>hq _ _ _ h) h.1,wpIs_imp hm _ (λ_ _ _ h=>hq _ _ _ h) h.2⟩) (λ_ _ _ h=>hq _ _ _ h) h
  ·exact h.elim
 |.seq a b,_,_,_,_,hq,h=>wpD_imp hm a (λx e S h=>by
   cases x with
   | normal=>exact wpD_imp hm b hq h
   | _=>exact hq _ _ _ h) h
 |.cnd x a b,env,S,Q,Q',hq,h=>by
  simp only[wpD]at h ⊢;split at h
  ·rename_i t ht;split at h
   ·rename_i e;rw[if_pos e];exact wpD_imp hm a hq h
   ·rename_i e;rw[if_neg e];exact wpD_imp hm b hq h
  ·exact h.elim
 |.blk id c,_,_,_,_,hq,h=>wpD_imp hm c (λx e S h=>by
   cases x with
   | exit id' =>
    simp only at h ⊢;by_cases e:id'=id
    ·rw[if_pos e]at h ⊢;exact hq _ _ _ h
    ·rw[if_neg e]at h ⊢;exact hq _ _ _ h
   | _=>exact hq _ _ _ h) h
 |.lop c,env,S,Q,Q',hq,h=>by
  obtain⟨n,h⟩:=h;refine⟨n,?_⟩
  revert env S
  induction n with
  | zero=>intro env S h;exact h
  | succ n ih =>
   intro env S h;exact wpD_imp hm c (λx e S h=>by
    cases x with
    | normal=>exact ih _ _ h
    | _=>exact hq _ _ _ h) h
 |.exit id,_,_,_,_,hq,h=>hq _ _ _ h
 |.ret,_,_,_,_,hq,h=>hq _ _ _ h
theorem loop_rule (hm:MonoC C){c:DC}{Q:Ex->Env->St->Prop}{α:Type}(I:α->Env->St->Prop)(μ:α->Nat)
  (step:∀a env S,I a env S->wpD gt C c env S λe env' S'=>match e with
   |.normal=>∃b,I b env' S'/\μ b<μ a
   | e=>Q e env' S')
  {a:α} {env:Env} {S:St} (h:I a env S):∃n,iterD (wpD gt C c) n env S Q:=by
 have key:∀m a env S,μ a<=m->I a env S->iterD (wpD gt C c) (m+1) env S Q:=by
  intro m
  induction m with
  | zero =>
   intro a env S hm0 hI;refine wpD_imp hm c (λx e S h=>?_) (step a env S hI);cases x with
   | normal=>obtain⟨b,_,hb⟩:=h;omega
   | _=>exact h
  | succ m ih =>
   intro a env S hm0 hI;refine wpD_imp hm c (λx e S h=>?_) (step a env S hI);cases x with
   | normal=>obtain⟨b,h1,hb⟩:=h;exact ih b e S (by omega) h1
   | _=>exact h
 exact⟨_,key (μ a) a env S (nR _) h⟩
theorem step_rule {i:DI}{env env':Env}{S S':St}{K:Env->St->Prop}{Q:Ex->Env->St->Prop}(h:stepI gt i env S=.done env' S')(k:K env' S'):afterS C i.dst env S K Q (stepI gt i env S):=by
 rw[h];exact k
def Gd (env:Env)(gd:Option (Nat×Bool)):Prop:=match gd with
 | none=>True
 | some (g,w)=>lk env g=some (.val (.bool w))
theorem st_gd {d:Option Nat}{op:DOp}{gd:Option (Nat×Bool)}{env:Env}{S:St}(hg:Gd env gd):stepI gt ⟨d,op,gd⟩ env S=stepO gt d env S op:=by
 cases gd with
 | none=>rfl
 | some p =>
  obtain⟨g,w⟩:=p;have hg:lk env g=some (.val (.bool w)):=hg;simp only[stepI,hg,beq_self_eq_true,cond_true]
theorem call_rule {i:DI}{env:Env}{S:St}{K:Env->St->Prop}{Q:Ex->Env->St->Prop}{f:FuncId}{xs:List AV}(h:stepI gt i env S=.call f xs)(k:C f xs S λr S'=>match r with
  |.ret v=>K (putV i.dst v env) S'
  |.pan v=>Q (.pan v) env S'):afterS C i.dst env S K Q (stepI gt i env S):=by
 rw[h];exact k
end
section
variable {P:Program}{gt:GT}
end

section
variable {P:Program}{W:World}{H:Type}{enc:TypeId×Value->H}
end

/-! ### the store only grows -/

def Wf (S : St) : Prop := ∀ t, S.nt ≤ t → lk S.mv t = none ∧ lk S.dl t = none

/-! ### slices as lists -/

theorem cutAll_get {agg : Bool} {es : Nat} {cs : List AV} : ∀ {n start : Nat} {ys : List AV}, cutAll agg es cs start n = some ys → ∀ {i : Nat} {y : AV}, ys[i]? = some y → (cut cs (start + i * es) es).bind (mkv agg) = some y
  | 0, _, ys, h, i, y, hy => by simp only [cutAll, oI] at h; subst h; simp at hy
  | n + 1, start, ys, h, i, y, hy => by
    simp only [cutAll] at h
    split at h
    · rename_i x r h1 h2
      simp only [oI] at h
      subst h
      cases i with
      | zero => simp at hy; subst hy; simpa using h1
      | succ i =>
        have := cutAll_get h2 (i := i) (by simpa using hy)
        rwa [show start + (i + 1) * es = start + es + i * es by rw [Nat.add_mul]; omega]
    · cases h

theorem mkv_cells' {agg : Bool} {cs : List AV} {y : AV} (h : mkv agg cs = some y) : y.cells = cs := by
  unfold mkv at h
  cases agg with
  | true => simp only [cond_true, oI] at h; subst h; rfl
  | false =>
    simp only [cond_false] at h
    split at h
    · rename_i c
      cases hn : notAgg c with
      | false => rw [hn] at h; cases h
      | true =>
        rw [hn] at h
        simp only [cond_true, oI] at h
        subst h
        cases c <;> first | rfl | cases hn
    · cases h

/-- an element's cells -/
theorem el_read {S : St} {agg : Bool} {es : Nat} {o : SI} {xs ys : List AV} (h : elems S agg es o xs = some ys) {i : Nat} {y : AV} (hy : ys[i]? = some y) : elCells S es o xs i = some y.cells := by
  unfold elems at h
  unfold elCells
  split at h
  · rename_i hr
    cases h
    simp [hy]
  · rename_i b boff hr
    split at h
    · rename_i ty cs hb
      have := cutAll_get h hy
      obtain ⟨c, h1, h2⟩ := Option.bind_eq_some_iff.1 this
      rw [show boff + (o.off + i) * es = boff + o.off * es + i * es by rw [Nat.add_mul]; omega, h1, mkv_cells' h2]
    · cases h
  · cases h

/-! ### pure trees -/

inductive PT where
  | mk (k : Int) (s : List UInt8) (keys : List (List UInt8)) (kids : List PT)

mutual
def PT.n : PT → Nat
  | .mk _ _ _ kids => PT.ns kids + 1
def PT.ns : List PT → Nat
  | [] => 0
  | t :: r => PT.n t + PT.ns r
end

theorem PT.ns_mem {t : PT} : ∀ {l : List PT}, t ∈ l → t.n ≤ PT.ns l
  | a :: r, h => by
    simp only [PT.ns]
    rcases List.mem_cons.1 h with rfl | h
    · omega
    · have := PT.ns_mem h; omega
def strs (l : List (List UInt8)) : List AV := l.map .str

variable {R B : Nat → Prop}

theorem strs_get {l : List (List UInt8)} {i : Nat} {s : List UInt8} (h : l[i]? = some s) : (strs l)[i]? = some (.str s) := by simp [strs, h]
theorem strs_length (l : List (List UInt8)) : (strs l).length = l.length := by simp [strs]
/-! ### slices that are being built -/

theorem ble_true {a b : Nat} (h : a ≤ b) : Nat.ble a b = true := Nat.ble_eq_true_of_le h

/-! ### rules for regions that draw -/
section
variable {gt : GT} {C : CallT}

theorem step_ruleD {i : DI × Option Nat} {env env' : Env} {S S' : St} {K : Env → St → Prop} {Q : Ex → Env → St → Prop} (h : stepD gt i env S = .done env' S') (k : K env' S') : afterS C i.1.dst env S K Q (stepD gt i env S) := by
  rw [h]; exact k

theorem step_ruleO {d : Option Nat} {op : DOp} {env env' : Env} {S S' : St} {K : Env → St → Prop} {Q : Ex → Env → St → Prop} (h : stepO gt d env S op = .done env' S') (k : K env' S') : afterS C d env S K Q (stepI gt ⟨d, op, none⟩ env S) := by
  show afterS C d env S K Q (stepO gt d env S op)
  rw [h]; exact k

theorem step_ruleG {d : Option Nat} {op : DOp} {g : Nat} {w : Bool} {env env' : Env} {S S' : St} {K : Env → St → Prop} {Q : Ex → Env → St → Prop} (hg : lk env g = some (.val (.bool w))) (h : stepO gt d env S op = .done env' S') (k : K env' S') : afterS C d env S K Q (stepI gt ⟨d, op, some (g, w)⟩ env S) := by
  have : stepI gt ⟨d, op, some (g, w)⟩ env S = stepO gt d env S op := by simp only [stepI, hg, beq_self_eq_true, cond_true]
  rw [this, h]; exact k

theorem step_ruleDO {d : Option Nat} {op : DOp} {l : Option Nat} {env env' : Env} {S S' : St} {K : Env → St → Prop} {Q : Ex → Env → St → Prop} (h0 : isLoc op = false) (h1 : conform l env op = true) (h : stepO gt d env S op = .done env' S') (k : K env' S') : afterS C d env S K Q (stepD gt (⟨d, op, none⟩, l) env S) := by
  have : stepD gt (⟨d, op, none⟩, l) env S = stepO gt d env S op := by simp only [stepD, stepDO, h0, h1, cond_false, cond_true]
  rw [this, h]; exact k

theorem call_ruleD {i : DI × Option Nat} {env : Env} {S : St} {K : Env → St → Prop} {Q : Ex → Env → St → Prop} {f : FuncId} {xs : List AV} (h : stepD gt i env S = .call f xs) (k : C f xs S fun r S' => match r with
    | .ret v => K (putV i.1.dst v env) S'
    | .pan v => Q (.pan v) env S') : afterS C i.1.dst env S K Q (stepD gt i env S) := by
  rw [h]; exact k

theorem sx_ia {d : Option Nat} {es : Nat} {x i : DOpd} {env : Env} {S : St} {o : SI} {xs : List AV} {k : Nat} (hx : opd env x = some (.sl es o xs)) (hi : (opd env i).bind nat? = some k) (hk : k < xs.length) :
    stepO gt d env S (.ia es x i) = .done (putV d (.eptr es o xs k 0) env) S := by
  simp only [stepO, hx, hi, Nat.beq_refl, Bool.true_and, show Nat.blt k xs.length = true from Nat.ble_eq_true_of_le hk, cond_true]

theorem sx_ldEl {d : Option Nat} {es : Nat} {a : DOpd} {env : Env} {S : St} {o : SI} {xs ys : List AV} {agg : Bool} {k off : Nat} {y v : AV} {g : Bool} {sz : Nat} (ha : loc env a = some (.el es o xs k off)) (he : elems S agg es o xs = some ys) (hv : ys[k]? = some y) (hm : (cut y.cells off sz).bind (mkv g) = some v) :
    stepO gt d env S (.ld g sz a) = .done (putV d v env) S := by
  simp only [stepO, ha, ldL, ldC, el_read he hv]
  cases hc : cut y.cells off sz with
  | none => rw [hc] at hm; cases hm
  | some cs => rw [hc] at hm; simp only [Option.bind_some] at hm; simp only [hm, SR.val]
end

mutual
def PT.ok : PT → Prop
  | .mk _ _ keys kids => keys.length * 16 ≤ 140737488355328 ∧ kids.length * 72 ≤ 140737488355328 ∧ PT.oks kids
def PT.oks : List PT → Prop
  | [] => True
  | t :: r => PT.ok t ∧ PT.oks r
end

theorem PT.oks_get : ∀ {l : List PT} {i : Nat} {t : PT}, PT.oks l → l[i]? = some t → t.ok
  | [], i, t, _, h => by simp at h
  | a :: r, 0, t, h, e => by simp only [PT.oks] at h; simp at e; subst e; exact h.1
  | a :: r, i + 1, t, h, e => by simp only [PT.oks] at h; exact PT.oks_get h.2 (i := i) (by simpa using e)

theorem wr64 {n : Int} (h : -9223372036854775808 ≤ n) (h2 : n < 9223372036854775808) : wr .i64 n = n := by
  rw [wr_eq]
  refine inR_wrap ?_
  cases n with
  | ofNat m => simp only [inR]; exact Nat.ble_eq_true_of_le (by have : (m : Int) < 9223372036854775808 := h2; omega)
  | negSucc m => simp only [inR]; exact Nat.ble_eq_true_of_le (by have : -9223372036854775808 ≤ -((m : Int) + 1) := by rw [← Int.negSucc_eq]; exact h
                                                                  omega)

theorem wrNat {k : Nat} (h : k + 1 < 9223372036854775808) : wr .i64 ((k : Int) + 1) = ((k + 1 : Nat) : Int) := by
  rw [wr64 (by omega) (by omega)]; rfl
end Go.Dn
