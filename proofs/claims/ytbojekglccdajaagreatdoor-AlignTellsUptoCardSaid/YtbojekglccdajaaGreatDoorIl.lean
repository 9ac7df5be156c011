/- The code of the functions that are reached, printed by a program (Gen). Walking abstract code with symbols: rules. The entry: what is read as data, as abstract values. Trees over the abstract store, and how a store grows. Pure data: what a function that reads pure data and makes new things says, whatever the store. -/
import Derived.Test.YtbojekglccdajaaGreatDoorIk
set_option linter.unusedSimpArgs false
set_option linter.unusedVariables false
namespace Go.Proofs.C1
open Go Go.Dn
set_option maxRecDepth 100000
abbrev _root_.Go.Dn.DOp.m (n : Nat) : DOp := .mv (.t n)
abbrev _root_.Go.Dn.DOp.l (n : Nat) : DOp := .ld false 1 (.t n)
abbrev nz : SI := ⟨none,0,some 0,true⟩
abbrev _root_.Go.Dn.DOpd.k (n : Int) : DOpd := .c (.int .i64 n)

/-- emend/emendlaw13.AlignTells -/
def F4 : DF := ⟨4,
(.seq
(.reg [
.s 8 (.mv (.c (.bool false)))] [0,1,2,3])
(.seq
(.reg [
.s 19 (.m 0),
.s 20 (.call 18 [(.t 19),(.k 40)]),
.s 0 (.m 20)] [0,1,2,3])
(.seq
(.reg [
.s 21 (.m 1),
.s 22 (.call 18 [(.t 21),(.k 40)]),
.s 1 (.m 22)] [0,1,2,3])
(.seq
(.reg [
.s 24 (.m 0),
.s 25 (.m 1),
.s 26 (.call 11 [(.t 24),(.t 25)]),
.s 23 (.m 26),
.s 27 (.ext (.t 23) 0),
.s 28 (.ext (.t 23) 1),
.s 29 (.ext (.t 23) 2),
.s 9 (.m 27),
.s 10 (.m 28),
.s 11 (.m 29)] [0,1,2,3,9,10,11])
(.seq
(.reg [
.s 31 (.m 0),
.s 32 (.m 1),
.s 33 (.call 19 [(.t 31),(.t 32)]),
.s 30 (.m 33),
.s 34 (.ext (.t 30) 0),
.s 35 (.ext (.t 30) 1),
.s 36 (.ext (.t 30) 2),
.s 12 (.m 34),
.s 13 (.m 35),
.s 14 (.m 36)] [0,1,2,3,9,10,11,12,13,14])
(.seq
(.reg [
.s 38 (.m 3),
.s 39 (.m 2),
.s 40 (.m 0),
.s 41 (.m 1),
.s 42 (.call 13 [(.t 38),(.t 39),(.t 40),(.t 41)]),
.s 37 (.m 42),
.s 43 (.ext (.t 37) 0),
.s 44 (.ext (.t 37) 1),
.s 15 (.m 43),
.s 16 (.m 44)] [0,1,2,3,9,10,11,12,13,14,15,16])
(.seq
(.reg [
.s 46 (.m 3),
.s 47 (.m 2),
.s 48 (.m 0),
.s 49 (.m 1),
.s 50 (.call 20 [(.t 46),(.t 47),(.t 48),(.t 49)]),
.s 45 (.m 50),
.s 51 (.ext (.t 45) 0),
.s 52 (.ext (.t 45) 1),
.s 17 (.m 51),
.s 18 (.m 52)] [0,1,2,9,10,11,12,13,14,15,16,17,18])
(.seq
(.reg [
.s 53 (.m 9),
.s 54 (.m 12),
.s 55 (.call 14 [(.t 53),(.t 54)]),
.s 56 (.m 55),
.g 57 (.m 10) 56 true,
.g 58 (.m 13) 56 true,
.g 59 (.bin .eql (some .int) (.t 57) (.t 58)) 56 true,
.s 60 (.pick (.t 56) (.t 59) (.c (.bool false))),
.s 61 (.m 60),
.g 62 (.m 11) 61 true,
.g 63 (.m 14) 61 true,
.g 64 (.bin .eql (some .int) (.t 62) (.t 63)) 61 true,
.s 65 (.pick (.t 61) (.t 64) (.c (.bool false))),
.s 66 (.m 65),
.g 67 (.m 15) 66 true,
.g 68 (.m 17) 66 true,
.g 69 (.call 14 [(.t 67),(.t 68)]) 66 true,
.s 70 (.pick (.t 66) (.t 69) (.c (.bool false))),
.s 71 (.m 70),
.g 72 (.m 16) 71 true,
.g 73 (.m 18) 71 true,
.g 74 (.bin .eql (some .int) (.t 72) (.t 73)) 71 true,
.s 75 (.pick (.t 71) (.t 74) (.c (.bool false))),
.s 76 (.m 75),
.g 77 (.m 0) 76 true,
.g 78 (.m 1) 76 true,
.g 79 (.call 15 [(.t 77),(.t 78)]) 76 true,
.g 80 (.m 0) 76 true,
.g 81 (.m 1) 76 true,
.g 82 (.call 21 [(.t 80),(.t 81)]) 76 true,
.g 83 (.call 14 [(.t 79),(.t 82)]) 76 true,
.s 84 (.pick (.t 76) (.t 83) (.c (.bool false))),
.s 85 (.m 84),
.g 86 (.m 0) 85 true,
.g 87 (.m 1) 85 true,
.g 88 (.m 2) 85 true,
.g 89 (.call 16 [(.t 86),(.t 87),(.t 88)]) 85 true,
.g 90 (.m 0) 85 true,
.g 91 (.m 1) 85 true,
.g 92 (.m 2) 85 true,
.g 93 (.call 22 [(.t 90),(.t 91),(.t 92)]) 85 true,
.g 94 (.call 14 [(.t 89),(.t 93)]) 85 true,
.s 95 (.pick (.t 85) (.t 94) (.c (.bool false))),
.s 96 (.m 95),
.g 97 (.call 3 []) 96 true,
.s 98 (.pick (.t 96) (.t 97) (.c (.bool false))),
.s 8 (.m 98)] [8])
.ret)))))))),
[.tmp 8]⟩
/-- emend/align.Cost -/
def F11 : DF := ⟨2,
(.seq
(.reg [
.s 4 (.mv (.c (.sl 1 nz []))),
.s 5 (.mv (.k 0)),
.s 6 (.mv (.k 0))] [0,1])
(.seq
(.seq
(.reg [
.s 13 (.m 0),
.s 14 (.len (.t 13)),
.s 15 (.bin .gtr none (.t 14) (.k 0)),
.s 16 (.m 15),
.g 17 (.m 1) 16 true,
.g 18 (.len (.t 17)) 16 true,
.g 19 (.m 0) 16 true,
.g 20 (.len (.t 19)) 16 true,
.g 21 (.bin .quo none (.k 65536) (.t 20)) 16 true,
.g 22 (.bin .gtr none (.t 18) (.t 21)) 16 true,
.s 23 (.pick (.t 16) (.t 22) (.c (.bool false)))] [0,1,23])
(.cnd (.t 23)
(.seq
(.reg [
.s 4 (.mv (.c (.sl 1 nz []))),
.s 5 (.mv (.k 0)),
.s 6 (.mv (.k 52))] [4,5,6])
.ret)
.skip))
(.seq
(.reg [
.s 24 (.m 1),
.s 25 (.len (.t 24)),
.s 26 (.mks 3 1 8 (.int .i64 0) (.t 25) (.t 25)),
.s 7 (.m 26)] [0,1,7])
(.seq
(.seq
(.reg [
.s 27 (.m 7),
.s 28 (.len (.t 27)),
.s 29 (.mv (.k 0))] [0,1,7,28,29])
(.blk 0
(.seq
(.trim [0,1,7,28,29])
(.lop
(.seq
(.seq
(.reg [
.s 30 (.bin .lss none (.t 29) (.t 28))] [0,1,7,28,29,30])
(.seq
(.cnd (.t 30)
.skip
(.exit 0))
(.seq
(.blk 1
(.seq
(.reg [
.s 31 (.m 29),
.s 8 (.m 31)] [0,1,7,8,28,29])
(.reg [
.s 32 (.m 7),
.s 33 (.m 8),
.s 34 (.ia 1 (.t 32) (.t 33)),
.n (.st 1 (.t 34) (.k (-1)))] [0,1,7,28,29])))
(.reg [
.s 35 (.bin .add none (.t 29) (.k 1)),
.s 29 (.m 35)] [0,1,7,28,29]))))
(.trim [0,1,7,28,29]))))))
(.seq
(.seq
(.reg [
.s 36 (.m 0),
.s 37 (.len (.t 36)),
.s 38 (.bin .eql (some .int) (.t 37) (.k 0)),
.s 39 (.m 38),
.g 40 (.m 1) 39 false,
.g 41 (.len (.t 40)) 39 false,
.g 42 (.bin .eql (some .int) (.t 41) (.k 0)) 39 false,
.s 43 (.pick (.t 39) (.c (.bool true)) (.t 42))] [0,1,7,43])
(.cnd (.t 43)
(.seq
(.reg [
.s 44 (.m 7),
.s 45 (.m 0),
.s 46 (.len (.t 45)),
.s 47 (.m 1),
.s 48 (.len (.t 47)),
.s 49 (.bin .add none (.t 46) (.t 48)),
.s 50 (.bin .mul none (.k 2) (.t 49)),
.s 4 (.m 44),
.s 5 (.m 50),
.s 6 (.mv (.k 0))] [4,5,6])
.ret)
.skip))
(.seq
(.reg [
.s 51 (.m 0),
.s 52 (.m 1),
.s 53 (.mkm),
.s 54 (.bld [(.sl 4 nz []),(.sl 4 nz []),.nilmap] [(0,1,(.t 51)),(1,1,(.t 52)),(2,1,(.t 53))]),
.s 55 (.bxH 56 (.t 54)),
.s 9 (.m 55)] [0,1,7,9])
(.seq
(.reg [
.s 56 (.m 9),
.s 57 (.call 27 [(.t 56)])] [0,1,7,9])
(.seq
(.reg [
.s 58 (.m 0),
.s 59 (.len (.t 58)),
.s 60 (.m 1),
.s 61 (.len (.t 60)),
.s 10 (.m 59),
.s 11 (.m 61)] [0,1,7,9,10,11])
(.seq
(.blk 2
(.seq
(.trim [0,1,7,9,10,11])
(.lop
(.seq
(.seq
(.seq
(.reg [
.s 62 (.m 10),
.s 63 (.bin .gtr none (.t 62) (.k 0)),
.s 64 (.m 63),
.g 65 (.m 11) 64 true,
.g 66 (.bin .gtr none (.t 65) (.k 0)) 64 true,
.s 67 (.pick (.t 64) (.t 66) (.c (.bool false)))] [0,1,7,9,10,11,67])
(.cnd (.t 67)
.skip
(.exit 2)))
(.blk 3
(.seq
(.reg [
.s 68 (.m 9),
.s 69 (.nilc (.t 68)),
.s 70 (.fa 2 (.t 69)),
.s 71 (.l 70),
.s 72 (.m 10),
.s 73 (.m 11),
.s 74 (.bld [(.int .i64 0),(.int .i64 0)] [(0,1,(.t 72)),(1,1,(.t 73))]),
.s 75 (.lkp (.st [(0,.int),(1,.int)]) (.int .i64 0) (.t 71) (.t 74) false),
.s 12 (.m 75)] [0,1,7,9,10,11,12])
(.blk 4
(.seq
(.drw [
((.s 79 (.m 12),none),[]),
((.s 80 (.m 9),none),[]),
((.s 81 (.nilc (.t 80)),none),[]),
((.s 82 (.fa 2 (.t 81)),none),[]),
((.s 83 (.l 82),none),[]),
((.s 84 (.m 10),none),[]),
((.s 85 (.bin .sub none (.t 84) (.k 1)),none),[]),
((.s 86 (.m 11),none),[]),
((.s 87 (.bin .sub none (.t 86) (.k 1)),none),[]),
((.s 88 (.bld [(.int .i64 0),(.int .i64 0)] [(0,1,(.t 85)),(1,1,(.t 87))]),none),[]),
((.s 89 (.lkp (.st [(0,.int),(1,.int)]) (.int .i64 0) (.t 83) (.t 88) false),none),[]),
((.s 90 (.m 9),none),[]),
((.s 91 (.m 10),none),[]),
((.s 92 (.m 11),none),[]),
((.s 93 (.call 28 [(.t 90),(.t 91),(.t 92)]),none),[(.s 83 (.l 82),none),(.s 89 (.lkp (.st [(0,.int),(1,.int)]) (.int .i64 0) (.t 83) (.t 88) false),none)]),
((.s 94 (.bin .add none (.t 89) (.t 93)),none),[]),
((.s 95 (.bin .eql (some .int) (.t 79) (.t 94)),none),[]),
((.s 78 (.m 95),none),[])] [0,1,7,9,10,11,12,78])
(.cnd (.t 78)
(.seq
(.reg [
.s 96 (.m 7),
.s 97 (.m 11),
.s 98 (.bin .sub none (.t 97) (.k 1)),
.s 99 (.m 10),
.s 100 (.bin .sub none (.t 99) (.k 1)),
.s 101 (.ia 1 (.t 96) (.t 98)),
.n (.st 1 (.t 101) (.t 100))] [0,1,7,9,10,11])
(.reg [
.s 102 (.m 10),
.s 103 (.bin .sub none (.t 102) (.k 1)),
.s 104 (.m 11),
.s 105 (.bin .sub none (.t 104) (.k 1)),
.s 10 (.m 103),
.s 11 (.m 105)] [0,1,7,9,10,11]))
(.seq
(.reg [
.s 107 (.m 12),
.s 108 (.m 9),
.s 109 (.nilc (.t 108)),
.s 110 (.fa 2 (.t 109)),
.s 111 (.l 110),
.s 112 (.m 10),
.s 113 (.bin .sub none (.t 112) (.k 1)),
.s 114 (.m 11),
.s 115 (.bld [(.int .i64 0),(.int .i64 0)] [(0,1,(.t 113)),(1,1,(.t 114))]),
.s 116 (.lkp (.st [(0,.int),(1,.int)]) (.int .i64 0) (.t 111) (.t 115) false),
.s 117 (.bin .add none (.t 116) (.k 2)),
.s 118 (.bin .eql (some .int) (.t 107) (.t 117)),
.s 106 (.m 118)] [0,1,7,9,10,11,106])
(.cnd (.t 106)
(.reg [
.s 119 (.m 10),
.s 120 (.bin .sub none (.t 119) (.k 1)),
.s 10 (.m 120)] [0,1,7,9,10,11])
(.reg [
.s 76 (.m 11),
.s 77 (.bin .sub none (.t 76) (.k 1)),
.s 11 (.m 77)] [0,1,7,9,10,11])))))))))
(.trim [0,1,7,9,10,11])))))
(.seq
(.drw [
((.s 121 (.m 7),none),[]),
((.s 122 (.m 9),none),[]),
((.s 123 (.nilc (.t 122)),none),[]),
((.s 124 (.fa 2 (.t 123)),none),[]),
((.s 125 (.l 124),none),[]),
((.s 126 (.m 0),none),[]),
((.s 127 (.len (.t 126)),none),[]),
((.s 128 (.m 1),none),[]),
((.s 129 (.len (.t 128)),none),[]),
((.s 130 (.bld [(.int .i64 0),(.int .i64 0)] [(0,1,(.t 127)),(1,1,(.t 129))]),none),[]),
((.s 131 (.lkp (.st [(0,.int),(1,.int)]) (.int .i64 0) (.t 125) (.t 130) false),none),[]),
((.s 4 (.m 121),none),[]),
((.s 5 (.m 131),none),[]),
((.s 6 (.mv (.k 0)),none),[])] [4,5,6])
.ret)))))))))),
[.tmp 4,.tmp 5,.tmp 6]⟩

/-- emend/align.Do -/
def F13 : DF := ⟨4,
(.seq
(.reg [
.s 8 (.mv (.c (.sl 1 nz []))),
.s 9 (.mv (.k 0))] [0,1,2,3])
(.seq
(.seq
(.reg [
.s 13 (.m 0)] [1,2,3,13])
(.blk 0
(.seq
(.reg [
.s 15 (.bin .eql (some .int) (.t 13) (.k 1)),
.s 14 (.m 15)] [1,2,3,13,14])
(.cnd (.t 14)
(.seq
(.reg [
.s 16 (.m 2),
.s 17 (.m 3),
.s 18 (.call 15 [(.t 16),(.t 17)]),
.s 8 (.m 18),
.s 9 (.mv (.k 0))] [8,9])
.ret)
(.seq
(.reg [
.s 20 (.bin .eql (some .int) (.t 13) (.k 2)),
.s 19 (.m 20)] [1,2,3,13,19])
(.cnd (.t 19)
(.seq
(.reg [
.s 21 (.m 2),
.s 22 (.m 3),
.s 23 (.m 1),
.s 24 (.call 16 [(.t 21),(.t 22),(.t 23)]),
.s 8 (.m 24),
.s 9 (.mv (.k 0))] [8,9])
.ret)
(.seq
(.reg [
.s 26 (.bin .eql (some .int) (.t 13) (.k 3)),
.s 25 (.m 26)] [2,3,25])
(.cnd (.t 25)
(.seq
(.reg [
.s 28 (.m 2),
.s 29 (.m 3),
.s 30 (.call 11 [(.t 28),(.t 29)]),
.s 27 (.m 30),
.s 31 (.ext (.t 27) 0),
.s 32 (.ext (.t 27) 1),
.s 33 (.ext (.t 27) 2),
.s 10 (.m 31),
.s 11 (.m 32),
.s 12 (.m 33)] [10,12])
(.seq
(.reg [
.s 34 (.m 10),
.s 35 (.m 12),
.s 8 (.m 34),
.s 9 (.m 35)] [8,9])
.ret))
.skip))))))))
(.seq
(.reg [
.s 8 (.mv (.c (.sl 1 nz []))),
.s 9 (.mv (.k 1))] [8,9])
.ret))),
[.tmp 8,.tmp 9]⟩
/-- emend/emendbook.Same[int] -/
def F14 : DF := ⟨2,
(.seq
(.reg [
.s 4 (.mv (.c (.bool false)))] [0,1])
(.seq
(.seq
(.reg [
.s 6 (.m 0),
.s 7 (.len (.t 6)),
.s 8 (.m 1),
.s 9 (.len (.t 8)),
.s 10 (.bin .neq (some .int) (.t 7) (.t 9))] [0,1,10])
(.cnd (.t 10)
(.seq
(.reg [
.s 4 (.mv (.c (.bool false)))] [4])
.ret)
.skip))
(.seq
(.seq
(.reg [
.s 5 (.mv (.k 0))] [0,1,5])
(.blk 0
(.seq
(.trim [0,1,5])
(.lop
(.seq
(.seq
(.seq
(.reg [
.s 11 (.m 5),
.s 12 (.m 0),
.s 13 (.len (.t 12)),
.s 14 (.bin .lss none (.t 11) (.t 13))] [0,1,5,14])
(.cnd (.t 14)
.skip
(.exit 0)))
(.seq
(.blk 1
(.seq
(.drw [
((.s 17 (.m 0),none),[]),
((.s 18 (.m 5),none),[]),
((.s 19 (.ia 1 (.t 17) (.t 18)),none),[]),
((.s 20 (.l 19),none),[]),
((.s 21 (.m 1),none),[]),
((.s 22 (.m 5),none),[]),
((.s 23 (.ia 1 (.t 21) (.t 22)),none),[]),
((.s 24 (.l 23),none),[]),
((.s 25 (.bin .neq (some .int) (.t 20) (.t 24)),none),[])] [0,1,5,25])
(.cnd (.t 25)
(.seq
(.reg [
.s 4 (.mv (.c (.bool false)))] [4])
.ret)
.skip)))
(.reg [
.s 15 (.m 5),
.s 16 (.bin .add none (.t 15) (.k 1)),
.s 5 (.m 16)] [0,1,5])))
(.trim [0,1,5]))))))
(.seq
(.reg [
.s 4 (.mv (.c (.bool true)))] [4])
.ret)))),
[.tmp 4]⟩
/-- emend/align.Place -/
def F15 : DF := ⟨2,
(.seq
(.reg [
.s 4 (.mv (.c (.sl 1 nz [])))] [0,1])
(.seq
(.reg [
.s 7 (.m 1),
.s 8 (.len (.t 7)),
.s 9 (.mks 3 1 8 (.int .i64 0) (.k 0) (.t 8)),
.s 5 (.m 9)] [0,1,5])
(.seq
(.seq
(.reg [
.s 10 (.m 1),
.s 11 (.len (.t 10)),
.s 12 (.mv (.k 0))] [0,5,11,12])
(.blk 0
(.seq
(.trim [0,5,11,12])
(.lop
(.seq
(.seq
(.reg [
.s 13 (.bin .lss none (.t 12) (.t 11))] [0,5,11,12,13])
(.seq
(.cnd (.t 13)
.skip
(.exit 0))
(.seq
(.blk 1
(.seq
(.reg [
.s 14 (.m 12),
.s 6 (.m 14)] [0,5,6,11,12])
(.seq
(.reg [
.s 15 (.m 6),
.s 16 (.m 0),
.s 17 (.len (.t 16)),
.s 18 (.bin .lss none (.t 15) (.t 17))] [0,5,6,11,12,18])
(.cnd (.t 18)
(.reg [
.s 19 (.m 5),
.s 20 (.m 6),
.s 21 (.bldT 3 1 1 (.int .i64 0) [(0,(.t 20))]),
.s 22 (.app false 3 1 8 (.t 19) (.t 21)),
.s 5 (.m 22)] [0,5,11,12])
(.reg [
.s 23 (.m 5),
.s 24 (.bldT 3 1 1 (.int .i64 0) [(0,(.k (-1)))]),
.s 25 (.app false 3 1 8 (.t 23) (.t 24)),
.s 5 (.m 25)] [0,5,11,12])))))
(.reg [
.s 26 (.bin .add none (.t 12) (.k 1)),
.s 12 (.m 26)] [0,5,11,12]))))
(.trim [0,5,11,12]))))))
(.seq
(.reg [
.s 27 (.m 5),
.s 4 (.m 27)] [4])
.ret)))),
[.tmp 4]⟩
/-- emend/align.Key -/
def F16 : DF := ⟨3,
(.seq
(.reg [
.s 6 (.mv (.c (.sl 1 nz [])))] [0,1,2])
(.seq
(.reg [
.s 18 (.mkm),
.s 7 (.m 18)] [0,1,2,7])
(.seq
(.reg [
.s 19 (.m 1),
.s 20 (.len (.t 19)),
.s 21 (.mks 3 1 8 (.int .i64 0) (.k 0) (.t 20)),
.s 8 (.m 21)] [0,1,2,7,8])
(.seq
(.seq
(.reg [
.s 22 (.m 1),
.s 23 (.len (.t 22)),
.s 24 (.mv (.k 0))] [0,2,7,8,22,23,24])
(.blk 0
(.seq
(.trim [0,2,7,8,22,23,24])
(.lop
(.seq
(.seq
(.reg [
.s 25 (.bin .lss none (.t 24) (.t 23))] [0,2,7,8,22,23,24,25])
(.seq
(.cnd (.t 25)
.skip
(.exit 0))
(.seq
(.blk 1
(.seq
(.reg [
.s 26 (.ia 4 (.t 22) (.t 24)),
.s 27 (.ld true 4 (.t 26)),
.s 10 (.alL [(.int .i64 0),(.str []),(.sl 1 nz []),(.sl 4 nz [])]),
.n (.st 4 (.t 10) (.t 27))] [0,2,7,8,10,22,23,24])
(.seq
(.reg [
.s 29 (.ld true 4 (.t 10)),
.s 30 (.m 2),
.s 31 (.call 30 [(.t 29),(.t 30)]),
.s 28 (.m 31),
.s 32 (.ext (.t 28) 0),
.s 33 (.ext (.t 28) 1),
.s 11 (.alL [(.int .i64 0),(.str []),(.sl 1 nz []),(.sl 4 nz [])]),
.n (.st 4 (.t 11) (.t 32)),
.s 12 (.m 33)] [0,2,7,8,11,12,22,23,24])
(.seq
(.reg [
.s 13 (.mv (.k (-1)))] [0,2,7,8,11,12,13,22,23,24])
(.seq
(.seq
(.reg [
.s 34 (.m 0),
.s 35 (.len (.t 34)),
.s 36 (.mv (.k 0))] [0,2,7,8,11,12,13,22,23,24,34,35,36])
(.blk 2
(.seq
(.trim [0,2,7,8,11,12,13,22,23,24,34,35,36])
(.lop
(.seq
(.seq
(.reg [
.s 37 (.bin .lss none (.t 36) (.t 35))] [0,2,7,8,11,12,13,22,23,24,34,35,36,37])
(.seq
(.cnd (.t 37)
.skip
(.exit 2))
(.seq
(.blk 3
(.seq
(.reg [
.s 38 (.m 36),
.s 39 (.ia 4 (.t 34) (.t 36)),
.s 40 (.ld true 4 (.t 39)),
.s 15 (.alL [(.int .i64 0),(.str []),(.sl 1 nz []),(.sl 4 nz [])]),
.s 14 (.m 38),
.n (.st 4 (.t 15) (.t 40))] [0,2,7,8,11,12,13,14,15,22,23,24,34,35,36])
(.seq
(.reg [
.s 42 (.ld true 4 (.t 15)),
.s 43 (.m 2),
.s 44 (.call 30 [(.t 42),(.t 43)]),
.s 41 (.m 44),
.s 45 (.ext (.t 41) 0),
.s 46 (.ext (.t 41) 1),
.s 16 (.alL [(.int .i64 0),(.str []),(.sl 1 nz []),(.sl 4 nz [])]),
.n (.st 4 (.t 16) (.t 45)),
.s 17 (.m 46)] [0,2,7,8,11,12,13,14,16,17,22,23,24,34,35,36])
(.seq
(.reg [
.s 47 (.m 13),
.s 48 (.bin .lss none (.t 47) (.k 0)),
.s 49 (.m 48),
.g 50 (.m 7) 49 true,
.g 51 (.m 14) 49 true,
.g 52 (.bld [(.int .i64 0)] [(0,1,(.t 51))]) 49 true,
.g 53 (.lkp (.st [(0,.int)]) (.int .i64 0) (.t 50) (.t 52) false) 49 true,
.g 54 (.bin .eql (some .int) (.t 53) (.k 0)) 49 true,
.s 55 (.pick (.t 49) (.t 54) (.c (.bool false))),
.s 56 (.m 55),
.g 57 (.m 12) 56 true,
.g 58 (.m 17) 56 true,
.g 59 (.bin .eql (some .bool) (.t 57) (.t 58)) 56 true,
.s 60 (.pick (.t 56) (.t 59) (.c (.bool false))),
.s 61 (.m 60),
.g 62 (.m 12) 61 true,
.g 63 (.un .not (.t 62)) 61 true,
.g 64 (.m 63) 61 true,
.g 65 (.ld true 4 (.t 11)) 64 false,
.g 66 (.ld true 4 (.t 16)) 64 false,
.g 67 (.call 31 [(.t 65),(.t 66)]) 64 false,
.g 68 (.pick (.t 64) (.c (.bool true)) (.t 67)) 61 true,
.s 69 (.pick (.t 61) (.t 68) (.c (.bool false)))] [0,2,7,8,11,12,13,14,22,23,24,34,35,36,69])
(.cnd (.t 69)
(.seq
(.reg [
.s 70 (.m 14),
.s 13 (.m 70)] [0,2,7,8,11,12,13,14,22,23,24,34,35,36])
(.drw [
((.s 71 (.m 7),none),[]),
((.s 72 (.m 14),none),[]),
((.s 73 (.bld [(.int .i64 0)] [(0,1,(.t 72))]),none),[]),
((.s 74 (.lkp (.st [(0,.int)]) (.int .i64 0) (.t 71) (.t 73) false),none),[]),
((.s 75 (.bin .add none (.t 74) (.k 1)),none),[]),
((.s 76 (.mpe (.st [(0,.int)]) (.int .i64 0) (.t 71) (.t 73)),none),[(.s 74 (.lkp (.st [(0,.int)]) (.int .i64 0) (.t 71) (.t 73) false),none)]),
((.s 77 (.ext (.t 76) 1),none),[]),
((.n (.ens (.t 71) (.t 77) (.t 75)),none),[])] [0,2,7,8,11,12,13,22,23,24,34,35,36]))
.skip)))))
(.reg [
.s 78 (.bin .add none (.t 36) (.k 1)),
.s 36 (.m 78)] [0,2,7,8,11,12,13,22,23,24,34,35,36]))))
(.trim [0,2,7,8,11,12,13,22,23,24,34,35,36]))))))
(.reg [
.s 79 (.m 8),
.s 80 (.m 13),
.s 81 (.bldT 3 1 1 (.int .i64 0) [(0,(.t 80))]),
.s 82 (.app false 3 1 8 (.t 79) (.t 81)),
.s 8 (.m 82)] [0,2,7,8,22,23,24]))))))
(.reg [
.s 83 (.bin .add none (.t 24) (.k 1)),
.s 24 (.m 83)] [0,2,7,8,22,23,24]))))
(.trim [0,2,7,8,22,23,24]))))))
(.seq
(.reg [
.s 84 (.m 8),
.s 6 (.m 84)] [6])
.ret))))),
[.tmp 6]⟩
/-- emend/align.Right -/
def F17 : DF := ⟨2,
(.seq
(.reg [
.s 4 (.mv (.c (.bool false)))] [0,1])
(.seq
(.reg [
.s 8 (.mkm),
.s 5 (.m 8)] [0,1,5])
(.seq
(.seq
(.reg [
.s 9 (.m 0),
.s 10 (.len (.t 9)),
.s 11 (.mv (.k 0))] [1,5,9,10,11])
(.blk 0
(.seq
(.trim [1,5,9,10,11])
(.lop
(.seq
(.seq
(.reg [
.s 12 (.bin .lss none (.t 11) (.t 10))] [1,5,9,10,11,12])
(.seq
(.cnd (.t 12)
.skip
(.exit 0))
(.seq
(.blk 1
(.seq
(.reg [
.s 13 (.ia 1 (.t 9) (.t 11)),
.s 14 (.l 13),
.s 7 (.m 14)] [1,5,7,9,10,11])
(.seq
(.seq
(.reg [
.s 15 (.m 7),
.s 16 (.bin .lss none (.t 15) (.k 0))] [1,5,7,9,10,11,16])
(.cnd (.t 16)
(.seq
(.seq
(.reg [
.s 17 (.m 7),
.s 18 (.bin .lss none (.t 17) (.k (-1)))] [1,5,9,10,11,18])
(.cnd (.t 18)
(.seq
(.reg [
.s 4 (.mv (.c (.bool false)))] [4])
.ret)
.skip))
(.exit 1))
.skip))
(.seq
(.reg [
.s 19 (.m 5),
.s 20 (.m 7),
.s 21 (.lkp .int (.int .i64 0) (.t 19) (.t 20) false),
.s 22 (.bin .add none (.t 21) (.k 1)),
.n (.mup .int (.t 19) (.t 20) (.t 22))] [1,5,7,9,10,11])
(.seq
(.reg [
.s 23 (.m 7),
.s 24 (.m 1),
.s 25 (.bin .geq none (.t 23) (.t 24)),
.s 26 (.m 25),
.g 27 (.m 5) 26 false,
.g 28 (.m 7) 26 false,
.g 29 (.lkp .int (.int .i64 0) (.t 27) (.t 28) false) 26 false,
.g 30 (.bin .gtr none (.t 29) (.k 1)) 26 false,
.s 31 (.pick (.t 26) (.c (.bool true)) (.t 30))] [1,5,9,10,11,31])
(.cnd (.t 31)
(.seq
(.reg [
.s 4 (.mv (.c (.bool false)))] [4])
.ret)
.skip))))))
(.reg [
.s 32 (.bin .add none (.t 11) (.k 1)),
.s 11 (.m 32)] [1,5,9,10,11]))))
(.trim [1,5,9,10,11]))))))
(.seq
(.reg [
.s 4 (.mv (.c (.bool true)))] [4])
.ret)))),
[.tmp 4]⟩
/-- emend/emendlaw13.cut -/
def F18 : DF := ⟨2,
(.seq
(.reg [
.s 4 (.mv (.c (.sl 4 nz [])))] [0,1])
(.seq
(.reg [
.s 5 (.mv (.c (.sl 4 nz [])))] [0,1,5])
(.seq
(.reg [
.s 6 (.mv (.k 0))] [0,1,5,6])
(.seq
(.seq
(.reg [
.s 7 (.mv (.k 0))] [0,1,5,6,7])
(.blk 0
(.seq
(.trim [0,1,5,6,7])
(.lop
(.seq
(.seq
(.seq
(.reg [
.s 9 (.m 7),
.s 10 (.m 0),
.s 11 (.len (.t 10)),
.s 12 (.bin .lss none (.t 9) (.t 11)),
.s 13 (.m 12),
.g 14 (.m 7) 13 true,
.g 15 (.m 1) 13 true,
.g 16 (.bin .lss none (.t 14) (.t 15)) 13 true,
.s 17 (.pick (.t 13) (.t 16) (.c (.bool false))),
.s 18 (.m 17),
.g 19 (.m 6) 18 true,
.g 20 (.bin .lss none (.t 19) (.k 3000)) 18 true,
.s 21 (.pick (.t 18) (.t 20) (.c (.bool false)))] [0,1,5,6,7,21])
(.cnd (.t 21)
.skip
(.exit 0)))
(.seq
(.blk 1
(.seq
(.reg [
.s 24 (.m 0),
.s 25 (.m 7),
.s 26 (.ia 4 (.t 24) (.t 25)),
.s 27 (.ld true 4 (.t 26)),
.s 28 (.call 32 [(.t 27),(.k 3000)]),
.s 8 (.m 28)] [0,1,5,6,7,8])
(.seq
(.reg [
.s 29 (.m 6),
.s 30 (.m 8),
.s 31 (.bin .add none (.t 29) (.t 30)),
.s 6 (.m 31)] [0,1,5,6,7])
(.seq
(.reg [
.s 32 (.m 6),
.s 33 (.bin .lss none (.t 32) (.k 3000)),
.s 34 (.m 33),
.g 35 (.m 0) 34 true,
.g 36 (.m 7) 34 true,
.g 37 (.ia 4 (.t 35) (.t 36)) 34 true,
.g 38 (.ld true 4 (.t 37)) 34 true,
.g 39 (.call 33 [(.t 38)]) 34 true,
.g 40 (.bin .eql (some .int) (.t 39) (.k 0)) 34 true,
.s 41 (.pick (.t 34) (.t 40) (.c (.bool false)))] [0,1,5,6,7,41])
(.cnd (.t 41)
(.reg [
.s 42 (.m 5),
.s 43 (.m 0),
.s 44 (.m 7),
.s 45 (.ia 4 (.t 43) (.t 44)),
.s 46 (.ld true 4 (.t 45)),
.s 47 (.bldT 47 4 1 (.agg [(.int .i64 0),(.str []),(.sl 1 nz []),(.sl 4 nz [])]) [(0,(.t 46))]),
.s 48 (.app true 47 4 72 (.t 42) (.t 47)),
.s 5 (.m 48)] [0,1,5,6,7])
.skip)))))
(.reg [
.s 22 (.m 7),
.s 23 (.bin .add none (.t 22) (.k 1)),
.s 7 (.m 23)] [0,1,5,6,7])))
(.trim [0,1,5,6,7]))))))
(.seq
(.reg [
.s 49 (.m 5),
.s 4 (.m 49)] [4])
.ret))))),
[.tmp 4]⟩
/-- emend/emendref13.Cost -/
def F19 : DF := ⟨2,
(.seq
(.reg [
.s 4 (.mv (.c (.sl 1 nz []))),
.s 5 (.mv (.k 0)),
.s 6 (.mv (.k 0))] [0,1])
(.seq
(.reg [
.s 16 (.m 0),
.s 17 (.len (.t 16)),
.s 7 (.m 17)] [0,1,7])
(.seq
(.reg [
.s 18 (.m 1),
.s 19 (.len (.t 18)),
.s 8 (.m 19)] [0,1,7,8])
(.seq
(.seq
(.reg [
.s 20 (.m 7),
.s 21 (.bin .gtr none (.t 20) (.k 0)),
.s 22 (.m 21),
.g 23 (.m 8) 22 true,
.g 24 (.m 7) 22 true,
.g 25 (.bin .quo none (.k 65536) (.t 24)) 22 true,
.g 26 (.bin .gtr none (.t 23) (.t 25)) 22 true,
.s 27 (.pick (.t 22) (.t 26) (.c (.bool false)))] [0,1,7,8,27])
(.cnd (.t 27)
(.seq
(.reg [
.s 4 (.mv (.c (.sl 1 nz []))),
.s 5 (.mv (.k 0)),
.s 6 (.mv (.k 52))] [4,5,6])
.ret)
.skip))
(.seq
(.reg [
.s 28 (.m 7),
.s 29 (.bin .add none (.t 28) (.k 1)),
.s 30 (.mks 22 1 24 (.sl 1 nz []) (.t 29) (.t 29)),
.s 9 (.m 30)] [0,1,7,8,9])
(.seq
(.reg [
.s 31 (.m 7),
.s 32 (.bin .add none (.t 31) (.k 1)),
.s 33 (.mks 22 1 24 (.sl 1 nz []) (.t 32) (.t 32)),
.s 10 (.m 33)] [0,1,7,8,9,10])
(.seq
(.seq
(.reg [
.s 11 (.mv (.k 0))] [0,1,7,8,9,10,11])
(.blk 0
(.seq
(.trim [0,1,7,8,9,10,11])
(.lop
(.seq
(.seq
(.seq
(.reg [
.s 34 (.m 11),
.s 35 (.m 7),
.s 36 (.bin .leq none (.t 34) (.t 35))] [0,1,7,8,9,10,11,36])
(.cnd (.t 36)
.skip
(.exit 0)))
(.seq
(.blk 1
(.seq
(.reg [
.s 39 (.m 9),
.s 40 (.m 11),
.s 41 (.m 8),
.s 42 (.bin .add none (.t 41) (.k 1)),
.s 43 (.mks 3 1 8 (.int .i64 0) (.t 42) (.t 42)),
.s 44 (.ia 1 (.t 39) (.t 40)),
.n (.st 1 (.t 44) (.t 43))] [0,1,7,8,9,10,11])
(.seq
(.reg [
.s 45 (.m 10),
.s 46 (.m 11),
.s 47 (.m 8),
.s 48 (.bin .add none (.t 47) (.k 1)),
.s 49 (.mks 3 1 8 (.int .i64 0) (.t 48) (.t 48)),
.s 50 (.ia 1 (.t 45) (.t 46)),
.n (.st 1 (.t 50) (.t 49))] [0,1,7,8,9,10,11])
(.seq
(.reg [
.s 12 (.mv (.k 0))] [0,1,7,8,9,10,11,12])
(.blk 2
(.seq
(.trim [0,1,7,8,9,10,11,12])
(.lop
(.seq
(.seq
(.seq
(.reg [
.s 51 (.m 12),
.s 52 (.m 8),
.s 53 (.bin .leq none (.t 51) (.t 52))] [0,1,7,8,9,10,11,12,53])
(.cnd (.t 53)
.skip
(.exit 2)))
(.seq
(.blk 3
(.seq
(.seq
(.reg [
.s 56 (.m 11),
.s 57 (.bin .eql (some .int) (.t 56) (.k 0)),
.s 58 (.m 57),
.g 59 (.m 12) 58 false,
.g 60 (.bin .eql (some .int) (.t 59) (.k 0)) 58 false,
.s 61 (.pick (.t 58) (.c (.bool true)) (.t 60))] [0,1,7,8,9,10,11,12,61])
(.cnd (.t 61)
(.seq
(.reg [
.s 62 (.m 10),
.s 63 (.m 11),
.s 64 (.ia 1 (.t 62) (.t 63)),
.s 65 (.l 64),
.s 66 (.m 12),
.s 67 (.m 11),
.s 68 (.m 12),
.s 69 (.bin .add none (.t 67) (.t 68)),
.s 70 (.bin .mul none (.k 2) (.t 69)),
.s 71 (.ia 1 (.t 65) (.t 66)),
.n (.st 1 (.t 71) (.t 70))] [0,1,7,8,9,10,11,12])
(.exit 3))
.skip))
(.seq
(.reg [
.s 72 (.m 9),
.s 73 (.m 11),
.s 74 (.ia 1 (.t 72) (.t 73)),
.s 75 (.l 74),
.s 76 (.m 12),
.s 77 (.ia 1 (.t 75) (.t 76)),
.n (.st 1 (.t 77) (.k 3))] [0,1,7,8,9,10,11,12])
(.seq
(.seq
(.drw [
((.s 78 (.m 0),none),[]),
((.s 79 (.m 11),none),[]),
((.s 80 (.bin .sub none (.t 79) (.k 1)),none),[]),
((.s 81 (.ia 4 (.t 78) (.t 80)),none),[]),
((.s 82 (.ld true 4 (.t 81)),none),[]),
((.s 83 (.m 1),none),[]),
((.s 84 (.m 12),none),[]),
((.s 85 (.bin .sub none (.t 84) (.k 1)),none),[]),
((.s 86 (.ia 4 (.t 83) (.t 85)),none),[]),
((.s 87 (.ld true 4 (.t 86)),none),[]),
((.s 88 (.call 34 [(.t 82),(.t 87)]),none),[])] [0,1,7,8,9,10,11,12,88])
(.cnd (.t 88)
(.reg [
.s 89 (.m 9),
.s 90 (.m 11),
.s 91 (.ia 1 (.t 89) (.t 90)),
.s 92 (.l 91),
.s 93 (.m 12),
.s 94 (.ia 1 (.t 92) (.t 93)),
.n (.st 1 (.t 94) (.k 0))] [0,1,7,8,9,10,11,12])
.skip))
(.seq
(.drw [
((.s 95 (.m 10),none),[]),
((.s 96 (.m 11),none),[]),
((.s 97 (.ia 1 (.t 95) (.t 96)),none),[]),
((.s 98 (.l 97),none),[]),
((.s 99 (.m 12),none),[]),
((.s 100 (.m 10),none),[]),
((.s 101 (.m 11),none),[]),
((.s 102 (.bin .sub none (.t 101) (.k 1)),none),[]),
((.s 103 (.ia 1 (.t 100) (.t 102)),none),[]),
((.s 104 (.l 103),none),[]),
((.s 105 (.m 12),none),[]),
((.s 106 (.bin .sub none (.t 105) (.k 1)),none),[]),
((.s 107 (.ia 1 (.t 104) (.t 106)),none),[]),
((.s 108 (.l 107),none),[]),
((.s 109 (.m 9),none),[]),
((.s 110 (.m 11),none),[]),
((.s 111 (.ia 1 (.t 109) (.t 110)),none),[]),
((.s 112 (.l 111),none),[]),
((.s 113 (.m 12),none),[]),
((.s 114 (.ia 1 (.t 112) (.t 113)),none),[]),
((.s 115 (.l 114),none),[]),
((.s 116 (.bin .add none (.t 108) (.t 115)),none),[]),
((.s 117 (.ia 1 (.t 98) (.t 99)),none),[]),
((.n (.st 1 (.t 117) (.t 116)),none),[])] [0,1,7,8,9,10,11,12])
(.seq
(.seq
(.drw [
((.s 118 (.m 10),none),[]),
((.s 119 (.m 11),none),[]),
((.s 120 (.bin .sub none (.t 119) (.k 1)),none),[]),
((.s 121 (.ia 1 (.t 118) (.t 120)),none),[]),
((.s 122 (.l 121),none),[]),
((.s 123 (.m 12),none),[]),
((.s 124 (.ia 1 (.t 122) (.t 123)),none),[]),
((.s 125 (.l 124),none),[]),
((.s 126 (.bin .add none (.t 125) (.k 2)),none),[]),
((.s 127 (.m 10),none),[]),
((.s 128 (.m 11),none),[]),
((.s 129 (.ia 1 (.t 127) (.t 128)),none),[]),
((.s 130 (.l 129),none),[]),
((.s 131 (.m 12),none),[]),
((.s 132 (.ia 1 (.t 130) (.t 131)),none),[]),
((.s 133 (.l 132),none),[]),
((.s 134 (.bin .lss none (.t 126) (.t 133)),none),[])] [0,1,7,8,9,10,11,12,134])
(.cnd (.t 134)
(.drw [
((.s 135 (.m 10),none),[]),
((.s 136 (.m 11),none),[]),
((.s 137 (.ia 1 (.t 135) (.t 136)),none),[]),
((.s 138 (.l 137),none),[]),
((.s 139 (.m 12),none),[]),
((.s 140 (.m 10),none),[]),
((.s 141 (.m 11),none),[]),
((.s 142 (.bin .sub none (.t 141) (.k 1)),none),[]),
((.s 143 (.ia 1 (.t 140) (.t 142)),none),[]),
((.s 144 (.l 143),none),[]),
((.s 145 (.m 12),none),[]),
((.s 146 (.ia 1 (.t 144) (.t 145)),none),[]),
((.s 147 (.l 146),none),[]),
((.s 148 (.bin .add none (.t 147) (.k 2)),none),[]),
((.s 149 (.ia 1 (.t 138) (.t 139)),none),[]),
((.n (.st 1 (.t 149) (.t 148)),none),[])] [0,1,7,8,9,10,11,12])
.skip))
(.seq
(.drw [
((.s 150 (.m 10),none),[]),
((.s 151 (.m 11),none),[]),
((.s 152 (.ia 1 (.t 150) (.t 151)),none),[]),
((.s 153 (.l 152),none),[]),
((.s 154 (.m 12),none),[]),
((.s 155 (.bin .sub none (.t 154) (.k 1)),none),[]),
((.s 156 (.ia 1 (.t 153) (.t 155)),none),[]),
((.s 157 (.l 156),none),[]),
((.s 158 (.bin .add none (.t 157) (.k 2)),none),[]),
((.s 159 (.m 10),none),[]),
((.s 160 (.m 11),none),[]),
((.s 161 (.ia 1 (.t 159) (.t 160)),none),[]),
((.s 162 (.l 161),none),[]),
((.s 163 (.m 12),none),[]),
((.s 164 (.ia 1 (.t 162) (.t 163)),none),[]),
((.s 165 (.l 164),none),[]),
((.s 166 (.bin .lss none (.t 158) (.t 165)),none),[])] [0,1,7,8,9,10,11,12,166])
(.cnd (.t 166)
(.drw [
((.s 167 (.m 10),none),[]),
((.s 168 (.m 11),none),[]),
((.s 169 (.ia 1 (.t 167) (.t 168)),none),[]),
((.s 170 (.l 169),none),[]),
((.s 171 (.m 12),none),[]),
((.s 172 (.m 10),none),[]),
((.s 173 (.m 11),none),[]),
((.s 174 (.ia 1 (.t 172) (.t 173)),none),[]),
((.s 175 (.l 174),none),[]),
((.s 176 (.m 12),none),[]),
((.s 177 (.bin .sub none (.t 176) (.k 1)),none),[]),
((.s 178 (.ia 1 (.t 175) (.t 177)),none),[]),
((.s 179 (.l 178),none),[]),
((.s 180 (.bin .add none (.t 179) (.k 2)),none),[]),
((.s 181 (.ia 1 (.t 170) (.t 171)),none),[]),
((.n (.st 1 (.t 181) (.t 180)),none),[])] [0,1,7,8,9,10,11,12])
.skip))))))))
(.reg [
.s 54 (.m 12),
.s 55 (.bin .add none (.t 54) (.k 1)),
.s 12 (.m 55)] [0,1,7,8,9,10,11,12])))
(.trim [0,1,7,8,9,10,11,12])))))))))
(.reg [
.s 37 (.m 11),
.s 38 (.bin .add none (.t 37) (.k 1)),
.s 11 (.m 38)] [0,1,7,8,9,10,11])))
(.trim [0,1,7,8,9,10,11]))))))
(.seq
(.reg [
.s 182 (.m 8),
.s 183 (.mks 3 1 8 (.int .i64 0) (.t 182) (.t 182)),
.s 13 (.m 183)] [7,8,9,10,13])
(.seq
(.reg [
.s 184 (.m 7),
.s 14 (.m 184)] [7,8,9,10,13,14])
(.seq
(.reg [
.s 185 (.m 8),
.s 15 (.m 185)] [7,8,9,10,13,14,15])
(.seq
(.blk 4
(.seq
(.trim [7,8,9,10,13,14,15])
(.lop
(.seq
(.seq
(.seq
(.reg [
.s 186 (.m 15),
.s 187 (.bin .gtr none (.t 186) (.k 0))] [7,8,9,10,13,14,15,187])
(.cnd (.t 187)
.skip
(.exit 4)))
(.blk 5
(.blk 6
(.seq
(.drw [
((.s 194 (.m 14),none),[]),
((.s 195 (.bin .gtr none (.t 194) (.k 0)),none),[]),
((.s 196 (.m 195),none),[]),
((.g 197 (.m 10) 196 true,none),[]),
((.g 198 (.m 14) 196 true,none),[]),
((.g 199 (.ia 1 (.t 197) (.t 198)) 196 true,none),[]),
((.g 200 (.l 199) 196 true,none),[]),
((.g 201 (.m 15) 196 true,none),[]),
((.g 202 (.ia 1 (.t 200) (.t 201)) 196 true,none),[]),
((.g 203 (.l 202) 196 true,none),[]),
((.g 204 (.m 10) 196 true,none),[]),
((.g 205 (.m 14) 196 true,none),[]),
((.g 206 (.bin .sub none (.t 205) (.k 1)) 196 true,none),[]),
((.g 207 (.ia 1 (.t 204) (.t 206)) 196 true,none),[]),
((.g 208 (.l 207) 196 true,none),[]),
((.g 209 (.m 15) 196 true,none),[]),
((.g 210 (.bin .sub none (.t 209) (.k 1)) 196 true,none),[]),
((.g 211 (.ia 1 (.t 208) (.t 210)) 196 true,none),[]),
((.g 212 (.l 211) 196 true,none),[]),
((.g 213 (.m 9) 196 true,none),[]),
((.g 214 (.m 14) 196 true,none),[]),
((.g 215 (.ia 1 (.t 213) (.t 214)) 196 true,none),[]),
((.g 216 (.l 215) 196 true,none),[]),
((.g 217 (.m 15) 196 true,none),[]),
((.g 218 (.ia 1 (.t 216) (.t 217)) 196 true,none),[]),
((.g 219 (.l 218) 196 true,none),[]),
((.g 220 (.bin .add none (.t 212) (.t 219)) 196 true,none),[]),
((.g 221 (.bin .eql (some .int) (.t 203) (.t 220)) 196 true,none),[]),
((.s 222 (.pick (.t 196) (.t 221) (.c (.bool false))),none),[]),
((.s 193 (.m 222),none),[])] [7,8,9,10,13,14,15,193])
(.cnd (.t 193)
(.seq
(.reg [
.s 223 (.m 14),
.s 224 (.bin .sub none (.t 223) (.k 1)),
.s 14 (.m 224)] [7,8,9,10,13,14,15])
(.seq
(.reg [
.s 225 (.m 15),
.s 226 (.bin .sub none (.t 225) (.k 1)),
.s 15 (.m 226)] [7,8,9,10,13,14,15])
(.reg [
.s 227 (.m 13),
.s 228 (.m 15),
.s 229 (.m 14),
.s 230 (.ia 1 (.t 227) (.t 228)),
.n (.st 1 (.t 230) (.t 229))] [7,8,9,10,13,14,15])))
(.seq
(.drw [
((.s 232 (.m 14),none),[]),
((.s 233 (.bin .gtr none (.t 232) (.k 0)),none),[]),
((.s 234 (.m 233),none),[]),
((.g 235 (.m 10) 234 true,none),[]),
((.g 236 (.m 14) 234 true,none),[]),
((.g 237 (.ia 1 (.t 235) (.t 236)) 234 true,none),[]),
((.g 238 (.l 237) 234 true,none),[]),
((.g 239 (.m 15) 234 true,none),[]),
((.g 240 (.ia 1 (.t 238) (.t 239)) 234 true,none),[]),
((.g 241 (.l 240) 234 true,none),[]),
((.g 242 (.m 10) 234 true,none),[]),
((.g 243 (.m 14) 234 true,none),[]),
((.g 244 (.bin .sub none (.t 243) (.k 1)) 234 true,none),[]),
((.g 245 (.ia 1 (.t 242) (.t 244)) 234 true,none),[]),
((.g 246 (.l 245) 234 true,none),[]),
((.g 247 (.m 15) 234 true,none),[]),
((.g 248 (.ia 1 (.t 246) (.t 247)) 234 true,none),[]),
((.g 249 (.l 248) 234 true,none),[]),
((.g 250 (.bin .add none (.t 249) (.k 2)) 234 true,none),[]),
((.g 251 (.bin .eql (some .int) (.t 241) (.t 250)) 234 true,none),[]),
((.s 252 (.pick (.t 234) (.t 251) (.c (.bool false))),none),[]),
((.s 231 (.m 252),none),[])] [7,8,9,10,13,14,15,231])
(.cnd (.t 231)
(.reg [
.s 253 (.m 14),
.s 254 (.bin .sub none (.t 253) (.k 1)),
.s 14 (.m 254)] [7,8,9,10,13,14,15])
(.seq
(.reg [
.s 188 (.m 15),
.s 189 (.bin .sub none (.t 188) (.k 1)),
.s 15 (.m 189)] [7,8,9,10,13,14,15])
(.reg [
.s 190 (.m 13),
.s 191 (.m 15),
.s 192 (.ia 1 (.t 190) (.t 191)),
.n (.st 1 (.t 192) (.k (-1)))] [7,8,9,10,13,14,15])))))))))
(.trim [7,8,9,10,13,14,15])))))
(.seq
(.drw [
((.s 255 (.m 13),none),[]),
((.s 256 (.m 10),none),[]),
((.s 257 (.m 7),none),[]),
((.s 258 (.ia 1 (.t 256) (.t 257)),none),[]),
((.s 259 (.l 258),none),[]),
((.s 260 (.m 8),none),[]),
((.s 261 (.ia 1 (.t 259) (.t 260)),none),[]),
((.s 262 (.l 261),none),[]),
((.s 4 (.m 255),none),[]),
((.s 5 (.m 262),none),[]),
((.s 6 (.mv (.k 0)),none),[])] [4,5,6])
.ret)))))))))))),
[.tmp 4,.tmp 5,.tmp 6]⟩
/-- emend/emendref13.Do -/
def F20 : DF := ⟨4,
(.seq
(.reg [
.s 8 (.mv (.c (.sl 1 nz []))),
.s 9 (.mv (.k 0))] [0,1,2,3])
(.seq
(.seq
(.reg [
.s 13 (.m 0)] [1,2,3,13])
(.blk 0
(.seq
(.reg [
.s 15 (.bin .eql (some .int) (.t 13) (.k 1)),
.s 14 (.m 15)] [1,2,3,13,14])
(.cnd (.t 14)
(.seq
(.reg [
.s 16 (.m 2),
.s 17 (.m 3),
.s 18 (.call 21 [(.t 16),(.t 17)]),
.s 8 (.m 18),
.s 9 (.mv (.k 0))] [8,9])
.ret)
(.seq
(.reg [
.s 20 (.bin .eql (some .int) (.t 13) (.k 2)),
.s 19 (.m 20)] [1,2,3,13,19])
(.cnd (.t 19)
(.seq
(.reg [
.s 21 (.m 2),
.s 22 (.m 3),
.s 23 (.m 1),
.s 24 (.call 22 [(.t 21),(.t 22),(.t 23)]),
.s 8 (.m 24),
.s 9 (.mv (.k 0))] [8,9])
.ret)
(.seq
(.reg [
.s 26 (.bin .eql (some .int) (.t 13) (.k 3)),
.s 25 (.m 26)] [2,3,25])
(.cnd (.t 25)
(.seq
(.reg [
.s 28 (.m 2),
.s 29 (.m 3),
.s 30 (.call 19 [(.t 28),(.t 29)]),
.s 27 (.m 30),
.s 31 (.ext (.t 27) 0),
.s 32 (.ext (.t 27) 1),
.s 33 (.ext (.t 27) 2),
.s 10 (.m 31),
.s 11 (.m 32),
.s 12 (.m 33)] [10,12])
(.seq
(.reg [
.s 34 (.m 10),
.s 35 (.m 12),
.s 8 (.m 34),
.s 9 (.m 35)] [8,9])
.ret))
.skip))))))))
(.seq
(.reg [
.s 8 (.mv (.c (.sl 1 nz []))),
.s 9 (.mv (.k 1))] [8,9])
.ret))),
[.tmp 8,.tmp 9]⟩
/-- emend/emendref13.Place -/
def F21 : DF := ⟨2,
(.seq
(.reg [
.s 4 (.mv (.c (.sl 1 nz [])))] [0,1])
(.seq
(.reg [
.s 5 (.mv (.c (.sl 1 nz [])))] [0,1,5])
(.seq
(.seq
(.reg [
.s 6 (.mv (.k 0))] [0,1,5,6])
(.blk 0
(.seq
(.trim [0,1,5,6])
(.lop
(.seq
(.seq
(.seq
(.reg [
.s 7 (.m 6),
.s 8 (.m 1),
.s 9 (.len (.t 8)),
.s 10 (.bin .lss none (.t 7) (.t 9))] [0,1,5,6,10])
(.cnd (.t 10)
.skip
(.exit 0)))
(.seq
(.blk 1
(.seq
(.reg [
.s 13 (.m 6),
.s 14 (.m 0),
.s 15 (.len (.t 14)),
.s 16 (.bin .lss none (.t 13) (.t 15))] [0,1,5,6,16])
(.cnd (.t 16)
(.reg [
.s 17 (.m 5),
.s 18 (.m 6),
.s 19 (.bldT 3 1 1 (.int .i64 0) [(0,(.t 18))]),
.s 20 (.app false 3 1 8 (.t 17) (.t 19)),
.s 5 (.m 20)] [0,1,5,6])
(.reg [
.s 21 (.m 5),
.s 22 (.bldT 3 1 1 (.int .i64 0) [(0,(.k (-1)))]),
.s 23 (.app false 3 1 8 (.t 21) (.t 22)),
.s 5 (.m 23)] [0,1,5,6]))))
(.reg [
.s 11 (.m 6),
.s 12 (.bin .add none (.t 11) (.k 1)),
.s 6 (.m 12)] [0,1,5,6])))
(.trim [0,1,5,6]))))))
(.seq
(.reg [
.s 24 (.m 5),
.s 4 (.m 24)] [4])
.ret)))),
[.tmp 4]⟩
/-- emend/emendref13.Key -/
def F22 : DF := ⟨3,
(.seq
(.reg [
.s 6 (.mv (.c (.sl 1 nz [])))] [0,1,2])
(.seq
(.reg [
.s 16 (.m 0),
.s 17 (.len (.t 16)),
.s 18 (.mks 4 1 1 (.bool false) (.t 17) (.t 17)),
.s 7 (.m 18)] [0,1,2,7])
(.seq
(.reg [
.s 8 (.mv (.c (.sl 1 nz [])))] [0,1,2,7,8])
(.seq
(.seq
(.reg [
.s 9 (.mv (.k 0))] [0,1,2,7,8,9])
(.blk 0
(.seq
(.trim [0,1,2,7,8,9])
(.lop
(.seq
(.seq
(.seq
(.reg [
.s 19 (.m 9),
.s 20 (.m 1),
.s 21 (.len (.t 20)),
.s 22 (.bin .lss none (.t 19) (.t 21))] [0,1,2,7,8,9,22])
(.cnd (.t 22)
.skip
(.exit 0)))
(.seq
(.blk 1
(.seq
(.reg [
.s 26 (.m 1),
.s 27 (.m 9),
.s 28 (.ia 4 (.t 26) (.t 27)),
.s 29 (.ld true 4 (.t 28)),
.s 30 (.m 2),
.s 31 (.call 35 [(.t 29),(.t 30)]),
.s 25 (.m 31),
.s 32 (.ext (.t 25) 0),
.s 33 (.ext (.t 25) 1),
.s 10 (.alL [(.int .i64 0),(.str []),(.sl 1 nz []),(.sl 4 nz [])]),
.n (.st 4 (.t 10) (.t 32)),
.s 11 (.m 33)] [0,1,2,7,8,9,10,11])
(.seq
(.reg [
.s 12 (.mv (.k (-1)))] [0,1,2,7,8,9,10,11,12])
(.seq
(.seq
(.reg [
.s 13 (.mv (.k 0))] [0,1,2,7,8,9,10,11,12,13])
(.blk 2
(.seq
(.trim [0,1,2,7,8,9,10,11,12,13])
(.lop
(.seq
(.seq
(.seq
(.reg [
.s 34 (.m 13),
.s 35 (.m 0),
.s 36 (.len (.t 35)),
.s 37 (.bin .lss none (.t 34) (.t 36)),
.s 38 (.m 37),
.g 39 (.m 12) 38 true,
.g 40 (.bin .lss none (.t 39) (.k 0)) 38 true,
.s 41 (.pick (.t 38) (.t 40) (.c (.bool false)))] [0,1,2,7,8,9,10,11,12,13,41])
(.cnd (.t 41)
.skip
(.exit 2)))
(.seq
(.blk 3
(.seq
(.reg [
.s 45 (.m 0),
.s 46 (.m 13),
.s 47 (.ia 4 (.t 45) (.t 46)),
.s 48 (.ld true 4 (.t 47)),
.s 49 (.m 2),
.s 50 (.call 35 [(.t 48),(.t 49)]),
.s 44 (.m 50),
.s 51 (.ext (.t 44) 0),
.s 52 (.ext (.t 44) 1),
.s 14 (.alL [(.int .i64 0),(.str []),(.sl 1 nz []),(.sl 4 nz [])]),
.n (.st 4 (.t 14) (.t 51)),
.s 15 (.m 52)] [0,1,2,7,8,9,10,11,12,13,14,15])
(.seq
(.reg [
.s 53 (.m 7),
.s 54 (.m 13),
.s 55 (.ia 1 (.t 53) (.t 54)),
.s 56 (.l 55),
.s 57 (.un .not (.t 56)),
.s 58 (.m 57),
.g 59 (.m 11) 58 true,
.g 60 (.m 15) 58 true,
.g 61 (.bin .eql (some .bool) (.t 59) (.t 60)) 58 true,
.s 62 (.pick (.t 58) (.t 61) (.c (.bool false))),
.s 63 (.m 62),
.g 64 (.m 11) 63 true,
.g 65 (.un .not (.t 64)) 63 true,
.g 66 (.m 65) 63 true,
.g 67 (.ld true 4 (.t 10)) 66 false,
.g 68 (.ld true 4 (.t 14)) 66 false,
.g 69 (.call 34 [(.t 67),(.t 68)]) 66 false,
.g 70 (.pick (.t 66) (.c (.bool true)) (.t 69)) 63 true,
.s 71 (.pick (.t 63) (.t 70) (.c (.bool false)))] [0,1,2,7,8,9,10,11,12,13,71])
(.cnd (.t 71)
(.seq
(.reg [
.s 72 (.m 13),
.s 12 (.m 72)] [0,1,2,7,8,9,10,11,12,13])
(.reg [
.s 73 (.m 7),
.s 74 (.m 13),
.s 75 (.ia 1 (.t 73) (.t 74)),
.n (.st 1 (.t 75) (.c (.bool true)))] [0,1,2,7,8,9,10,11,12,13]))
.skip))))
(.reg [
.s 42 (.m 13),
.s 43 (.bin .add none (.t 42) (.k 1)),
.s 13 (.m 43)] [0,1,2,7,8,9,10,11,12,13])))
(.trim [0,1,2,7,8,9,10,11,12,13]))))))
(.reg [
.s 76 (.m 8),
.s 77 (.m 12),
.s 78 (.bldT 3 1 1 (.int .i64 0) [(0,(.t 77))]),
.s 79 (.app false 3 1 8 (.t 76) (.t 78)),
.s 8 (.m 79)] [0,1,2,7,8,9])))))
(.reg [
.s 23 (.m 9),
.s 24 (.bin .add none (.t 23) (.k 1)),
.s 9 (.m 24)] [0,1,2,7,8,9])))
(.trim [0,1,2,7,8,9]))))))
(.seq
(.reg [
.s 80 (.m 8),
.s 6 (.m 80)] [6])
.ret))))),
[.tmp 6]⟩
/-- (*emend/align.table).fill -/
def F27 : DF := ⟨1,
(.seq
(.reg [
.s 4 (.m 0),
.s 5 (.nilc (.t 4)),
.s 6 (.fa 0 (.t 5)),
.s 7 (.l 6),
.s 8 (.len (.t 7)),
.s 9 (.bin .add none (.t 8) (.k 1)),
.s 10 (.mv (.k 0))] [0,9,10])
(.blk 0
(.seq
(.trim [0,9,10])
(.lop
(.seq
(.seq
(.reg [
.s 11 (.bin .lss none (.t 10) (.t 9))] [0,9,10,11])
(.seq
(.cnd (.t 11)
.skip
(.exit 0))
(.seq
(.blk 1
(.seq
(.reg [
.s 12 (.m 10),
.s 2 (.m 12)] [0,2,9,10])
(.seq
(.reg [
.s 13 (.m 0),
.s 14 (.nilc (.t 13)),
.s 15 (.fa 1 (.t 14)),
.s 16 (.l 15),
.s 17 (.len (.t 16)),
.s 18 (.bin .add none (.t 17) (.k 1)),
.s 19 (.mv (.k 0))] [0,2,9,10,18,19])
(.blk 2
(.seq
(.trim [0,2,9,10,18,19])
(.lop
(.seq
(.seq
(.reg [
.s 20 (.bin .lss none (.t 19) (.t 18))] [0,2,9,10,18,19,20])
(.seq
(.cnd (.t 20)
.skip
(.exit 2))
(.seq
(.blk 3
(.seq
(.reg [
.s 21 (.m 19),
.s 3 (.m 21)] [0,2,3,9,10,18,19])
(.blk 4
(.seq
(.reg [
.s 66 (.m 2),
.s 67 (.bin .eql (some .int) (.t 66) (.k 0)),
.s 68 (.m 67),
.g 69 (.m 3) 68 false,
.g 70 (.bin .eql (some .int) (.t 69) (.k 0)) 68 false,
.s 71 (.pick (.t 68) (.c (.bool true)) (.t 70)),
.s 65 (.m 71)] [0,2,3,9,10,18,19,65])
(.cnd (.t 65)
(.reg [
.s 72 (.m 0),
.s 73 (.nilc (.t 72)),
.s 74 (.fa 2 (.t 73)),
.s 75 (.l 74),
.s 76 (.m 2),
.s 77 (.m 3),
.s 78 (.bld [(.int .i64 0),(.int .i64 0)] [(0,1,(.t 76)),(1,1,(.t 77))]),
.s 79 (.m 2),
.s 80 (.m 3),
.s 81 (.bin .add none (.t 79) (.t 80)),
.s 82 (.bin .mul none (.k 2) (.t 81)),
.n (.mup (.st [(0,.int),(1,.int)]) (.t 75) (.t 78) (.t 82))] [0,2,9,10,18,19])
(.drw [
((.s 22 (.m 0),none),[]),
((.s 23 (.nilc (.t 22)),none),[]),
((.s 24 (.fa 2 (.t 23)),none),[]),
((.s 25 (.l 24),none),[]),
((.s 26 (.m 2),none),[]),
((.s 27 (.m 3),none),[]),
((.s 28 (.bld [(.int .i64 0),(.int .i64 0)] [(0,1,(.t 26)),(1,1,(.t 27))]),none),[]),
((.s 29 (.m 0),none),[]),
((.s 30 (.nilc (.t 29)),none),[]),
((.s 31 (.fa 2 (.t 30)),none),[]),
((.s 32 (.l 31),none),[]),
((.s 33 (.m 2),none),[]),
((.s 34 (.bin .sub none (.t 33) (.k 1)),none),[]),
((.s 35 (.m 3),none),[]),
((.s 36 (.bin .sub none (.t 35) (.k 1)),none),[]),
((.s 37 (.bld [(.int .i64 0),(.int .i64 0)] [(0,1,(.t 34)),(1,1,(.t 36))]),none),[]),
((.s 38 (.lkp (.st [(0,.int),(1,.int)]) (.int .i64 0) (.t 32) (.t 37) false),none),[]),
((.s 39 (.m 0),none),[]),
((.s 40 (.m 2),none),[]),
((.s 41 (.m 3),none),[]),
((.s 44 (.m 0),none),[]),
((.s 45 (.nilc (.t 44)),none),[]),
((.s 46 (.fa 2 (.t 45)),none),[]),
((.s 47 (.l 46),none),[]),
((.s 48 (.m 2),none),[]),
((.s 49 (.bin .sub none (.t 48) (.k 1)),none),[]),
((.s 50 (.m 3),none),[]),
((.s 51 (.bld [(.int .i64 0),(.int .i64 0)] [(0,1,(.t 49)),(1,1,(.t 50))]),none),[]),
((.s 52 (.lkp (.st [(0,.int),(1,.int)]) (.int .i64 0) (.t 47) (.t 51) false),none),[]),
((.s 53 (.bin .add none (.t 52) (.k 2)),none),[]),
((.s 54 (.m 0),none),[]),
((.s 55 (.nilc (.t 54)),none),[]),
((.s 56 (.fa 2 (.t 55)),none),[]),
((.s 57 (.l 56),none),[]),
((.s 58 (.m 2),none),[]),
((.s 59 (.m 3),none),[]),
((.s 60 (.bin .sub none (.t 59) (.k 1)),none),[]),
((.s 61 (.bld [(.int .i64 0),(.int .i64 0)] [(0,1,(.t 58)),(1,1,(.t 60))]),none),[]),
((.s 62 (.lkp (.st [(0,.int),(1,.int)]) (.int .i64 0) (.t 57) (.t 61) false),none),[]),
((.s 63 (.bin .add none (.t 62) (.k 2)),none),[]),
((.s 42 (.call 28 [(.t 39),(.t 40),(.t 41)]),none),[(.s 25 (.l 24),none),(.s 32 (.l 31),none),(.s 38 (.lkp (.st [(0,.int),(1,.int)]) (.int .i64 0) (.t 32) (.t 37) false),none),(.s 47 (.l 46),none),(.s 52 (.lkp (.st [(0,.int),(1,.int)]) (.int .i64 0) (.t 47) (.t 51) false),none),(.s 57 (.l 56),none),(.s 62 (.lkp (.st [(0,.int),(1,.int)]) (.int .i64 0) (.t 57) (.t 61) false),none)]),
((.s 43 (.bin .add none (.t 38) (.t 42)),none),[]),
((.s 64 (.mn [(.t 43),(.t 53),(.t 63)]),none),[]),
((.n (.mup (.st [(0,.int),(1,.int)]) (.t 25) (.t 28) (.t 64)),none),[])] [0,2,9,10,18,19]))))))
(.reg [
.s 83 (.bin .add none (.t 19) (.k 1)),
.s 19 (.m 83)] [0,2,9,10,18,19]))))
(.trim [0,2,9,10,18,19]))))))))
(.reg [
.s 84 (.bin .add none (.t 10) (.k 1)),
.s 10 (.m 84)] [0,9,10]))))
(.trim [0,9,10])))))),
[]⟩
/-- (*emend/align.table).pair -/
def F28 : DF := ⟨3,
(.seq
(.reg [
.s 6 (.mv (.k 0))] [0,1,2])
(.seq
(.seq
(.drw [
((.s 7 (.m 0),none),[]),
((.s 8 (.nilc (.t 7)),none),[]),
((.s 9 (.fa 0 (.t 8)),none),[]),
((.s 10 (.l 9),none),[]),
((.s 11 (.m 1),none),[]),
((.s 12 (.bin .sub none (.t 11) (.k 1)),none),[]),
((.s 13 (.ia 4 (.t 10) (.t 12)),none),[]),
((.s 14 (.ld true 4 (.t 13)),none),[]),
((.s 15 (.m 0),none),[]),
((.s 16 (.nilc (.t 15)),none),[]),
((.s 17 (.fa 1 (.t 16)),none),[]),
((.s 18 (.l 17),none),[]),
((.s 19 (.m 2),none),[]),
((.s 20 (.bin .sub none (.t 19) (.k 1)),none),[]),
((.s 21 (.ia 4 (.t 18) (.t 20)),none),[]),
((.s 22 (.ld true 4 (.t 21)),none),[]),
((.s 23 (.call 31 [(.t 14),(.t 22)]),none),[])] [23])
(.cnd (.t 23)
(.seq
(.reg [
.s 6 (.mv (.k 0))] [6])
.ret)
.skip))
(.seq
(.reg [
.s 6 (.mv (.k 3))] [6])
.ret))),
[.tmp 6]⟩

/-- emend/align.keyOf -/
def F30 : DF := ⟨2,
(.seq
(.reg [
.s 2 (.bxL (.t 0)),
.s 4 (.alL [(.int .i64 0),(.str []),(.sl 1 nz []),(.sl 4 nz [])]),
.s 5 (.mv (.c (.bool false)))] [1,2,4])
(.seq
(.seq
(.reg [
.s 8 (.fa 0 (.t 2)),
.s 9 (.l 8),
.s 10 (.bin .neq (some .int) (.t 9) (.k 7))] [1,2,4,10])
(.cnd (.t 10)
(.seq
(.reg [
.s 11 (.bld [(.int .i64 0),(.str []),(.sl 1 nz []),(.sl 4 nz [])] []),
.n (.st 4 (.t 4) (.t 11)),
.s 5 (.mv (.c (.bool false)))] [4,5])
.ret)
.skip))
(.seq
(.seq
(.reg [
.s 12 (.fa 2 (.t 2)),
.s 13 (.l 12),
.s 14 (.len (.t 13)),
.s 15 (.mv (.k 0))] [1,2,4,13,14,15])
(.blk 0
(.seq
(.trim [1,2,4,13,14,15])
(.lop
(.seq
(.seq
(.reg [
.s 16 (.bin .lss none (.t 15) (.t 14))] [1,2,4,13,14,15,16])
(.seq
(.cnd (.t 16)
.skip
(.exit 0))
(.seq
(.blk 1
(.seq
(.reg [
.s 17 (.m 15),
.s 18 (.ia 1 (.t 13) (.t 15)),
.s 19 (.l 18),
.s 6 (.m 17),
.s 7 (.m 19)] [1,2,4,6,7,13,14,15])
(.seq
(.reg [
.s 20 (.m 7),
.s 21 (.m 1),
.s 22 (.bin .eql (some .str) (.t 20) (.t 21)),
.s 23 (.m 22),
.g 24 (.m 6) 23 true,
.g 25 (.fa 3 (.t 2)) 23 true,
.g 26 (.l 25) 23 true,
.g 27 (.len (.t 26)) 23 true,
.g 28 (.bin .lss none (.t 24) (.t 27)) 23 true,
.s 29 (.pick (.t 23) (.t 28) (.c (.bool false)))] [1,2,4,6,13,14,15,29])
(.cnd (.t 29)
(.seq
(.drw [
((.s 30 (.fa 3 (.t 2)),(some 2)),[]),
((.s 31 (.l 30),(some 2)),[]),
((.s 32 (.m 6),none),[]),
((.s 33 (.ia 4 (.t 31) (.t 32)),none),[]),
((.s 34 (.ld true 4 (.t 33)),none),[]),
((.s 35 (.fa 3 (.t 2)),(some 2)),[]),
((.s 36 (.l 35),(some 2)),[]),
((.s 37 (.m 6),none),[]),
((.s 38 (.ia 4 (.t 36) (.t 37)),none),[]),
((.s 39 (.fa 0 (.t 38)),none),[]),
((.s 40 (.l 39),none),[]),
((.s 41 (.call 42 [(.t 40)]),none),[(.s 34 (.ld true 4 (.t 33)),none)]),
((.n (.st 4 (.t 4) (.t 34)),(some 4)),[]),
((.s 5 (.m 41),none),[])] [4,5])
.ret)
.skip))))
(.reg [
.s 42 (.bin .add none (.t 15) (.k 1)),
.s 15 (.m 42)] [1,2,4,13,14,15]))))
(.trim [1,2,4,13,14,15]))))))
(.seq
(.reg [
.s 43 (.bld [(.int .i64 0),(.str []),(.sl 1 nz []),(.sl 4 nz [])] []),
.n (.st 4 (.t 4) (.t 43)),
.s 5 (.mv (.c (.bool false)))] [4,5])
.ret)))),
[.cell 4 true 4,.tmp 5]⟩
/-- emend/tree.Same -/
def F31 : DF := ⟨2,
(.seq
(.reg [
.s 2 (.bxL (.t 0)),
.s 3 (.bxL (.t 1)),
.s 4 (.mv (.c (.bool false)))] [2,3])
(.seq
(.seq
(.reg [
.s 5 (.ld true 4 (.t 2)),
.s 6 (.call 43 [(.t 5)]),
.s 7 (.un .not (.t 6)),
.s 8 (.m 7),
.g 9 (.ld true 4 (.t 3)) 8 false,
.g 10 (.call 43 [(.t 9)]) 8 false,
.g 11 (.un .not (.t 10)) 8 false,
.s 12 (.pick (.t 8) (.c (.bool true)) (.t 11))] [2,3,12])
(.cnd (.t 12)
(.seq
(.reg [
.s 13 (.ld true 4 (.t 2)),
.s 14 (.ld true 4 (.t 3)),
.s 15 (.call 44 [(.t 13),(.t 14)]),
.s 4 (.m 15)] [4])
.ret)
.skip))
(.seq
(.drw [
((.s 16 (.ld true 4 (.t 2)),(some 2)),[]),
((.s 18 (.ld true 4 (.t 3)),(some 3)),[]),
((.s 17 (.call 45 [(.t 16)]),none),[]),
((.s 19 (.call 45 [(.t 18)]),none),[]),
((.s 20 (.call 44 [(.t 17),(.t 19)]),none),[]),
((.s 4 (.m 20),none),[])] [4])
.ret))),
[.tmp 4]⟩
/-- emend/emendref3.Size -/
def F32 : DF := ⟨2,
(.seq
(.reg [
.s 2 (.bxL (.t 0)),
.s 4 (.mv (.k 0))] [1,2])
(.seq
(.reg [
.s 5 (.mv (.k 1))] [1,2,5])
(.seq
(.seq
(.reg [
.s 6 (.mv (.k 0))] [1,2,5,6])
(.blk 0
(.seq
(.trim [1,2,5,6])
(.lop
(.seq
(.seq
(.seq
(.reg [
.s 7 (.m 6),
.s 8 (.fa 3 (.t 2)),
.s 9 (.l 8),
.s 10 (.len (.t 9)),
.s 11 (.bin .lss none (.t 7) (.t 10)),
.s 12 (.m 11),
.g 13 (.m 5) 12 true,
.g 14 (.m 1) 12 true,
.g 15 (.bin .lss none (.t 13) (.t 14)) 12 true,
.s 16 (.pick (.t 12) (.t 15) (.c (.bool false)))] [1,2,5,6,16])
(.cnd (.t 16)
.skip
(.exit 0)))
(.seq
(.blk 1
(.reg [
.s 19 (.m 5),
.s 20 (.fa 3 (.t 2)),
.s 21 (.l 20),
.s 22 (.m 6),
.s 23 (.ia 4 (.t 21) (.t 22)),
.s 24 (.ld true 4 (.t 23)),
.s 25 (.m 1),
.s 26 (.m 5),
.s 27 (.bin .sub none (.t 25) (.t 26)),
.s 28 (.call 32 [(.t 24),(.t 27)]),
.s 29 (.bin .add none (.t 19) (.t 28)),
.s 5 (.m 29)] [1,2,5,6]))
(.reg [
.s 17 (.m 6),
.s 18 (.bin .add none (.t 17) (.k 1)),
.s 6 (.m 18)] [1,2,5,6])))
(.trim [1,2,5,6]))))))
(.seq
(.reg [
.s 30 (.m 5),
.s 4 (.m 30)] [4])
.ret)))),
[.tmp 4]⟩
/-- emend/emendref3.Right -/
def F33 : DF := ⟨1,
(.seq
(.reg [
.s 1 (.bxL (.t 0)),
.s 2 (.mv (.k 0))] [1])
(.seq
(.seq
(.reg [
.s 3 (.ld true 4 (.t 1)),
.s 4 (.call 46 [(.t 3)]),
.s 5 (.bin .gtr none (.t 4) (.k 64))] [1,5])
(.cnd (.t 5)
(.seq
(.reg [
.s 2 (.mv (.k 4))] [2])
.ret)
.skip))
(.seq
(.seq
(.reg [
.s 6 (.ld true 4 (.t 1)),
.s 7 (.call 32 [(.t 6),(.k 4097)]),
.s 8 (.bin .gtr none (.t 7) (.k 4096))] [1,8])
(.cnd (.t 8)
(.seq
(.reg [
.s 2 (.mv (.k 3))] [2])
.ret)
.skip))
(.seq
(.seq
(.reg [
.s 9 (.ld true 4 (.t 1)),
.s 10 (.call 47 [(.t 9)]),
.s 11 (.un .not (.t 10))] [11])
(.cnd (.t 11)
(.seq
(.reg [
.s 2 (.mv (.k 1))] [2])
.ret)
.skip))
(.seq
(.reg [
.s 2 (.mv (.k 0))] [2])
.ret))))),
[.tmp 2]⟩
/-- emend/emendref3.Same -/
def F34 : DF := ⟨2,
(.seq
(.reg [
.s 2 (.bxL (.t 0)),
.s 3 (.bxL (.t 1)),
.s 4 (.mv (.c (.bool false)))] [2,3])
(.seq
(.seq
(.reg [
.s 5 (.ld true 4 (.t 2)),
.s 6 (.call 47 [(.t 5)]),
.s 7 (.m 6),
.g 8 (.ld true 4 (.t 3)) 7 true,
.g 9 (.call 47 [(.t 8)]) 7 true,
.s 10 (.pick (.t 7) (.t 9) (.c (.bool false)))] [2,3,10])
(.cnd (.t 10)
(.seq
(.reg [
.s 11 (.ld true 4 (.t 2)),
.s 12 (.ld true 4 (.t 3)),
.s 13 (.call 48 [(.t 11),(.t 12)]),
.s 4 (.m 13)] [4])
.ret)
.skip))
(.seq
(.reg [
.s 14 (.ld true 4 (.t 2)),
.s 15 (.ld true 4 (.t 3)),
.s 16 (.call 49 [(.t 14),(.t 15)]),
.s 4 (.m 16)] [4])
.ret))),
[.tmp 4]⟩
/-- emend/emendref13.key -/
def F35 : DF := ⟨2,
(.seq
(.reg [
.s 2 (.bxL (.t 0)),
.s 4 (.alL [(.int .i64 0),(.str []),(.sl 1 nz []),(.sl 4 nz [])]),
.s 5 (.mv (.c (.bool false)))] [1,2,4])
(.seq
(.reg [
.s 7 (.fa 2 (.t 2)),
.s 8 (.l 7),
.s 9 (.m 1),
.s 10 (.call 50 [(.t 8),(.t 9)]),
.s 6 (.m 10)] [2,4,6])
(.seq
(.seq
(.reg [
.s 11 (.fa 0 (.t 2)),
.s 12 (.l 11),
.s 13 (.bin .neq (some .int) (.t 12) (.k 7)),
.s 14 (.m 13),
.g 15 (.m 6) 14 false,
.g 16 (.bin .lss none (.t 15) (.k 0)) 14 false,
.s 17 (.pick (.t 14) (.c (.bool true)) (.t 16)),
.s 18 (.m 17),
.g 19 (.m 6) 18 false,
.g 20 (.fa 3 (.t 2)) 18 false,
.g 21 (.l 20) 18 false,
.g 22 (.len (.t 21)) 18 false,
.g 23 (.bin .geq none (.t 19) (.t 22)) 18 false,
.s 24 (.pick (.t 18) (.c (.bool true)) (.t 23)),
.s 25 (.m 24),
.g 26 (.fa 3 (.t 2)) 25 false,
.g 27 (.l 26) 25 false,
.g 28 (.m 6) 25 false,
.g 29 (.ia 4 (.t 27) (.t 28)) 25 false,
.g 30 (.fa 0 (.t 29)) 25 false,
.g 31 (.l 30) 25 false,
.g 32 (.bin .geq none (.t 31) (.k 6)) 25 false,
.s 33 (.pick (.t 25) (.c (.bool true)) (.t 32))] [2,4,6,33])
(.cnd (.t 33)
(.seq
(.reg [
.s 34 (.bld [(.int .i64 0),(.str []),(.sl 1 nz []),(.sl 4 nz [])] []),
.n (.st 4 (.t 4) (.t 34)),
.s 5 (.mv (.c (.bool false)))] [4,5])
.ret)
.skip))
(.seq
(.reg [
.s 35 (.fa 3 (.t 2)),
.s 36 (.l 35),
.s 37 (.m 6),
.s 38 (.ia 4 (.t 36) (.t 37)),
.s 39 (.ld true 4 (.t 38)),
.n (.st 4 (.t 4) (.t 39)),
.s 5 (.mv (.c (.bool true)))] [4,5])
.ret)))),
[.cell 4 true 4,.tmp 5]⟩
/-- emend/tree.Read -/
def F37 : DD := ⟨2,
(.seq
(.reg [
.s 4 (.alH 60 [.nilif])] [0,1,4])
(.seq
(.reg [
.s 6 (.m 0),
.s 7 (.lenS (.t 6)),
.s 8 (.bin .gtr none (.t 7) (.k 65536))] [0,1,4,8])
(.seq
(.cnd (.t 8)
(.seq
(.reg [
.s 9 (.call 52 [(.k 0),(.k 2)]),
.s 10 (.mki 87 (.t 9)),
.n (.st 1 (.t 4) (.t 10))] [4])
.ret)
.skip)
(.seq
(.reg [
.s 11 (.m 0),
.s 12 (.call 53 [(.t 11)]),
.s 5 (.m 12)] [0,1,4,5])
(.seq
(.reg [
.s 13 (.m 5),
.s 14 (.bin .geq none (.t 13) (.k 0))] [0,1,4,5,14])
(.seq
(.cnd (.t 14)
(.seq
(.reg [
.s 15 (.m 5),
.s 16 (.call 52 [(.t 15),(.k 10)]),
.s 17 (.mki 87 (.t 16)),
.n (.st 1 (.t 4) (.t 17))] [4])
.ret)
.skip)
.skip)))))),
[.s 18 (.mkf 54 [] [(.t 4)])],18,[0,1,4],
(.seq
(.reg [
.s 19 (.m 1),
.s 20 (.m 0),
.s 21 (.bld [(.str []),(.int .i64 0),(.int .i64 0)] [(0,1,(.t 20))]),
.s 22 (.bxH 79 (.t 21)),
.s 23 (.callv (.t 19) [(.t 22)])] [4])
(.seq
(.reg [
.n (.st 1 (.t 4) (.c .nilif))] [4])
(.seq
.ret
.skip))),
[.cell 4 false 1],[4]⟩

/-- emend/tree.Scalar -/
def F42 : DF := ⟨1,
(.seq
(.reg [
.s 2 (.mv (.c (.bool false)))] [0])
(.seq
(.reg [
.s 3 (.m 0),
.s 4 (.bin .geq none (.t 3) (.k 1)),
.s 5 (.m 4),
.g 6 (.m 0) 5 true,
.g 7 (.bin .leq none (.t 6) (.k 5)) 5 true,
.s 8 (.pick (.t 5) (.t 7) (.c (.bool false))),
.s 2 (.m 8)] [2])
.ret)),
[.tmp 2]⟩
/-- emend/tree.formed -/
def F43 : DF := ⟨1,
(.seq
(.reg [
.s 1 (.bxL (.t 0)),
.s 2 (.mv (.c (.bool false)))] [1])
(.seq
(.seq
(.reg [
.s 8 (.fa 3 (.t 1)),
.s 9 (.l 8),
.s 10 (.len (.t 9)),
.s 11 (.mv (.k 0))] [1,9,10,11])
(.blk 0
(.seq
(.trim [1,9,10,11])
(.lop
(.seq
(.seq
(.reg [
.s 12 (.bin .lss none (.t 11) (.t 10))] [1,9,10,11,12])
(.seq
(.cnd (.t 12)
.skip
(.exit 0))
(.seq
(.blk 1
(.seq
(.reg [
.s 13 (.ia 4 (.t 9) (.t 11)),
.s 14 (.ld true 4 (.t 13)),
.s 4 (.alL [(.int .i64 0),(.str []),(.sl 1 nz []),(.sl 4 nz [])]),
.n (.st 4 (.t 4) (.t 14))] [1,4,9,10,11])
(.seq
(.reg [
.s 15 (.ld true 4 (.t 4)),
.s 16 (.call 43 [(.t 15)]),
.s 17 (.un .not (.t 16))] [1,9,10,11,17])
(.cnd (.t 17)
(.seq
(.reg [
.s 2 (.mv (.c (.bool false)))] [2])
.ret)
.skip))))
(.reg [
.s 18 (.bin .add none (.t 11) (.k 1)),
.s 11 (.m 18)] [1,9,10,11]))))
(.trim [1,9,10,11]))))))
(.seq
(.reg [
.s 19 (.fa 2 (.t 1)),
.s 20 (.l 19),
.s 21 (.len (.t 20)),
.s 22 (.bin .eql (some .int) (.t 21) (.k 0)),
.s 23 (.m 22),
.g 24 (.fa 3 (.t 1)) 23 true,
.g 25 (.l 24) 23 true,
.g 26 (.len (.t 25)) 23 true,
.g 27 (.bin .eql (some .int) (.t 26) (.k 0)) 23 true,
.s 28 (.pick (.t 23) (.t 27) (.c (.bool false))),
.s 5 (.m 28)] [1,5])
(.seq
(.seq
(.reg [
.s 29 (.fa 0 (.t 1)),
.s 30 (.l 29)] [1,5,30])
(.blk 2
(.seq
(.reg [
.s 32 (.bin .eql (some .int) (.t 30) (.k 1)),
.s 31 (.m 32)] [1,5,30,31])
(.cnd (.t 31)
(.seq
(.reg [
.s 33 (.m 5),
.s 34 (.m 33),
.g 35 (.fa 1 (.t 1)) 34 true,
.g 36 (.l 35) 34 true,
.g 37 (.bin .eql (some .str) (.t 36) (.c (.str []))) 34 true,
.s 38 (.pick (.t 34) (.t 37) (.c (.bool false))),
.s 2 (.m 38)] [2])
.ret)
(.seq
(.reg [
.s 40 (.bin .eql (some .int) (.t 30) (.k 2)),
.s 39 (.m 40)] [1,5,30,39])
(.cnd (.t 39)
(.seq
(.reg [
.s 41 (.m 5),
.s 42 (.m 41),
.g 43 (.fa 1 (.t 1)) 42 true,
.g 44 (.l 43) 42 true,
.g 45 (.bin .eql (some .str) (.t 44) (.c (.str [116,114,117,101]))) 42 true,
.g 46 (.m 45) 42 true,
.g 47 (.fa 1 (.t 1)) 46 false,
.g 48 (.l 47) 46 false,
.g 49 (.bin .eql (some .str) (.t 48) (.c (.str [102,97,108,115,101]))) 46 false,
.g 50 (.pick (.t 46) (.c (.bool true)) (.t 49)) 42 true,
.s 51 (.pick (.t 42) (.t 50) (.c (.bool false))),
.s 2 (.m 51)] [2])
.ret)
(.seq
(.reg [
.s 53 (.bin .eql (some .int) (.t 30) (.k 3)),
.s 52 (.m 53)] [1,5,30,52])
(.cnd (.t 52)
(.seq
(.reg [
.s 55 (.fa 1 (.t 1)),
.s 56 (.l 55),
.s 57 (.call 67 [(.t 56)]),
.s 54 (.m 57),
.s 58 (.ext (.t 54) 0),
.s 59 (.ext (.t 54) 1),
.s 6 (.m 58),
.s 7 (.m 59)] [1,5,6,7])
(.seq
(.reg [
.s 60 (.m 5),
.s 61 (.m 60),
.g 62 (.m 7) 61 true,
.g 63 (.bin .eql (some .int) (.t 62) (.k 0)) 61 true,
.s 64 (.pick (.t 61) (.t 63) (.c (.bool false))),
.s 65 (.m 64),
.g 66 (.m 6) 65 true,
.g 67 (.fa 1 (.t 1)) 65 true,
.g 68 (.l 67) 65 true,
.g 69 (.bin .eql (some .str) (.t 66) (.t 68)) 65 true,
.s 70 (.pick (.t 65) (.t 69) (.c (.bool false))),
.s 2 (.m 70)] [2])
.ret))
(.seq
(.reg [
.s 72 (.bin .eql (some .int) (.t 30) (.k 4)),
.s 71 (.m 72)] [1,5,30,71])
(.cnd (.t 71)
(.seq
(.reg [
.s 73 (.m 5),
.s 74 (.m 73),
.g 75 (.fa 1 (.t 1)) 74 true,
.g 76 (.l 75) 74 true,
.g 77 (.call 68 [(.t 76)]) 74 true,
.s 78 (.pick (.t 74) (.t 77) (.c (.bool false))),
.s 2 (.m 78)] [2])
.ret)
(.seq
(.reg [
.s 80 (.bin .eql (some .int) (.t 30) (.k 5)),
.s 79 (.m 80)] [1,5,30,79])
(.cnd (.t 79)
(.seq
(.reg [
.s 81 (.m 5),
.s 82 (.m 81),
.g 83 (.fa 1 (.t 1)) 82 true,
.g 84 (.l 83) 82 true,
.g 85 (.call 64 [(.t 84)]) 82 true,
.s 86 (.pick (.t 82) (.t 85) (.c (.bool false))),
.s 2 (.m 86)] [2])
.ret)
(.seq
(.reg [
.s 88 (.bin .eql (some .int) (.t 30) (.k 6)),
.s 87 (.m 88)] [1,30,87])
(.cnd (.t 87)
(.seq
(.reg [
.s 89 (.fa 1 (.t 1)),
.s 90 (.l 89),
.s 91 (.bin .eql (some .str) (.t 90) (.c (.str []))),
.s 92 (.m 91),
.g 93 (.fa 2 (.t 1)) 92 true,
.g 94 (.l 93) 92 true,
.g 95 (.len (.t 94)) 92 true,
.g 96 (.bin .eql (some .int) (.t 95) (.k 0)) 92 true,
.s 97 (.pick (.t 92) (.t 96) (.c (.bool false))),
.s 2 (.m 97)] [2])
.ret)
(.seq
(.reg [
.s 99 (.bin .eql (some .int) (.t 30) (.k 7)),
.s 98 (.m 99)] [1,98])
(.cnd (.t 98)
(.seq
(.reg [
.s 100 (.fa 1 (.t 1)),
.s 101 (.l 100),
.s 102 (.bin .eql (some .str) (.t 101) (.c (.str []))),
.s 103 (.m 102),
.g 104 (.fa 2 (.t 1)) 103 true,
.g 105 (.l 104) 103 true,
.g 106 (.len (.t 105)) 103 true,
.g 107 (.fa 3 (.t 1)) 103 true,
.g 108 (.l 107) 103 true,
.g 109 (.len (.t 108)) 103 true,
.g 110 (.bin .eql (some .int) (.t 106) (.t 109)) 103 true,
.s 111 (.pick (.t 103) (.t 110) (.c (.bool false))),
.s 112 (.m 111),
.g 113 (.fa 2 (.t 1)) 112 true,
.g 114 (.l 113) 112 true,
.g 115 (.call 69 [(.t 114)]) 112 true,
.s 116 (.pick (.t 112) (.t 115) (.c (.bool false))),
.s 2 (.m 116)] [2])
.ret)
.skip))))))))))))))))
(.seq
(.reg [
.s 2 (.mv (.c (.bool false)))] [2])
.ret))))),
[.tmp 2]⟩
/-- emend/tree.identical -/
def F44 : DF := ⟨2,
(.seq
(.reg [
.s 2 (.bxL (.t 0)),
.s 3 (.bxL (.t 1)),
.s 4 (.mv (.c (.bool false)))] [2,3])
(.seq
(.reg [
.s 5 (.fa 0 (.t 2)),
.s 6 (.l 5),
.s 7 (.fa 0 (.t 3)),
.s 8 (.l 7),
.s 9 (.bin .eql (some .int) (.t 6) (.t 8)),
.s 10 (.m 9),
.g 11 (.fa 1 (.t 2)) 10 true,
.g 12 (.l 11) 10 true,
.g 13 (.fa 1 (.t 3)) 10 true,
.g 14 (.l 13) 10 true,
.g 15 (.bin .eql (some .str) (.t 12) (.t 14)) 10 true,
.s 16 (.pick (.t 10) (.t 15) (.c (.bool false))),
.s 17 (.m 16),
.g 18 (.fa 2 (.t 2)) 17 true,
.g 19 (.l 18) 17 true,
.g 20 (.fa 2 (.t 3)) 17 true,
.g 21 (.l 20) 17 true,
.g 22 (.call 70 [(.t 19),(.t 21)]) 17 true,
.s 23 (.pick (.t 17) (.t 22) (.c (.bool false))),
.s 24 (.m 23),
.g 25 (.fa 3 (.t 2)) 24 true,
.g 26 (.l 25) 24 true,
.g 27 (.fa 3 (.t 3)) 24 true,
.g 28 (.l 27) 24 true,
.g 29 (.call 71 [(.t 26),(.t 28),(.f 44)]) 24 true,
.s 30 (.pick (.t 24) (.t 29) (.c (.bool false))),
.s 4 (.m 30)] [4])
.ret)),
[.tmp 4]⟩
/-- emend/tree.Sorted -/
def F45 : DF := ⟨1,
(.seq
(.reg [
.s 1 (.bxL (.t 0)),
.s 2 (.alL [(.int .i64 0),(.str []),(.sl 1 nz []),(.sl 4 nz [])])] [1,2])
(.seq
(.reg [
.s 8 (.fa 0 (.t 1)),
.s 9 (.l 8),
.s 10 (.fa 1 (.t 1)),
.s 11 (.l 10),
.s 12 (.bld [(.int .i64 0),(.str []),(.sl 1 nz []),(.sl 4 nz [])] [(0,1,(.t 9)),(1,1,(.t 11))]),
.s 3 (.alL [(.int .i64 0),(.str []),(.sl 1 nz []),(.sl 4 nz [])]),
.n (.st 4 (.t 3) (.t 12))] [1,2,3])
(.seq
(.seq
(.reg [
.s 13 (.fa 0 (.t 1)),
.s 14 (.l 13),
.s 15 (.bin .neq (some .int) (.t 14) (.k 7)),
.s 16 (.m 15),
.g 17 (.fa 2 (.t 1)) 16 false,
.g 18 (.l 17) 16 false,
.g 19 (.len (.t 18)) 16 false,
.g 20 (.fa 3 (.t 1)) 16 false,
.g 21 (.l 20) 16 false,
.g 22 (.len (.t 21)) 16 false,
.g 23 (.bin .neq (some .int) (.t 19) (.t 22)) 16 false,
.s 24 (.pick (.t 16) (.c (.bool true)) (.t 23))] [1,2,3,24])
(.cnd (.t 24)
(.seq
(.reg [
.s 25 (.fa 2 (.t 3)),
.s 26 (.l 25),
.s 27 (.fa 2 (.t 1)),
.s 28 (.l 27),
.s 29 (.app false 9 1 16 (.t 26) (.t 28)),
.s 30 (.fa 2 (.t 3)),
.n (.st 1 (.t 30) (.t 29))] [1,2,3])
(.seq
(.seq
(.reg [
.s 31 (.fa 3 (.t 1)),
.s 32 (.l 31),
.s 33 (.len (.t 32)),
.s 34 (.mv (.k 0))] [2,3,32,33,34])
(.blk 0
(.seq
(.trim [2,3,32,33,34])
(.lop
(.seq
(.seq
(.reg [
.s 35 (.bin .lss none (.t 34) (.t 33))] [2,3,32,33,34,35])
(.seq
(.cnd (.t 35)
.skip
(.exit 0))
(.seq
(.blk 1
(.seq
(.reg [
.s 36 (.ia 4 (.t 32) (.t 34)),
.s 37 (.ld true 4 (.t 36)),
.s 5 (.alL [(.int .i64 0),(.str []),(.sl 1 nz []),(.sl 4 nz [])]),
.n (.st 4 (.t 5) (.t 37))] [2,3,5,32,33,34])
(.drw [
((.s 38 (.fa 3 (.t 3)),(some 3)),[]),
((.s 39 (.l 38),(some 3)),[]),
((.s 40 (.ld true 4 (.t 5)),(some 5)),[]),
((.s 41 (.call 45 [(.t 40)]),none),[]),
((.s 42 (.bldS 4 1 (.agg [(.int .i64 0),(.str []),(.sl 1 nz []),(.sl 4 nz [])]) [(0,(.t 41))]),none),[]),
((.s 43 (.app true 47 4 72 (.t 39) (.t 42)),none),[]),
((.s 44 (.fa 3 (.t 3)),(some 3)),[]),
((.n (.st 1 (.t 44) (.t 43)),(some 3)),[])] [2,3,32,33,34])))
(.reg [
.s 45 (.bin .add none (.t 34) (.k 1)),
.s 34 (.m 45)] [2,3,32,33,34]))))
(.trim [2,3,32,33,34]))))))
(.seq
(.reg [
.s 46 (.ld true 4 (.t 3)),
.n (.st 4 (.t 2) (.t 46))] [2])
.ret)))
.skip))
(.seq
(.seq
(.reg [
.s 47 (.fa 2 (.t 1)),
.s 48 (.l 47),
.s 49 (.call 72 [(.t 48)]),
.s 50 (.len (.t 49)),
.s 51 (.mv (.k 0))] [1,2,3,49,50,51])
(.blk 2
(.seq
(.trim [1,2,3,49,50,51])
(.lop
(.seq
(.seq
(.reg [
.s 52 (.bin .lss none (.t 51) (.t 50))] [1,2,3,49,50,51,52])
(.seq
(.cnd (.t 52)
.skip
(.exit 2))
(.seq
(.blk 3
(.seq
(.reg [
.s 53 (.ia 1 (.t 49) (.t 51)),
.s 54 (.l 53),
.s 7 (.m 54)] [1,2,3,7,49,50,51])
(.seq
(.drw [
((.s 55 (.fa 2 (.t 3)),(some 3)),[]),
((.s 56 (.l 55),(some 3)),[]),
((.s 57 (.fa 2 (.t 1)),(some 1)),[]),
((.s 58 (.l 57),(some 1)),[]),
((.s 59 (.m 7),none),[]),
((.s 60 (.ia 1 (.t 58) (.t 59)),none),[]),
((.s 61 (.l 60),none),[]),
((.s 62 (.bldS 1 1 (.str []) [(0,(.t 61))]),none),[]),
((.s 63 (.app false 9 1 16 (.t 56) (.t 62)),none),[]),
((.s 64 (.fa 2 (.t 3)),(some 3)),[]),
((.n (.st 1 (.t 64) (.t 63)),(some 3)),[])] [1,2,3,7,49,50,51])
(.drw [
((.s 65 (.fa 3 (.t 3)),(some 3)),[]),
((.s 66 (.l 65),(some 3)),[]),
((.s 67 (.fa 3 (.t 1)),(some 1)),[]),
((.s 68 (.l 67),(some 1)),[]),
((.s 69 (.m 7),none),[]),
((.s 70 (.ia 4 (.t 68) (.t 69)),none),[]),
((.s 71 (.ld true 4 (.t 70)),none),[]),
((.s 72 (.call 45 [(.t 71)]),none),[]),
((.s 73 (.bldS 4 1 (.agg [(.int .i64 0),(.str []),(.sl 1 nz []),(.sl 4 nz [])]) [(0,(.t 72))]),none),[]),
((.s 74 (.app true 47 4 72 (.t 66) (.t 73)),none),[]),
((.s 75 (.fa 3 (.t 3)),(some 3)),[]),
((.n (.st 1 (.t 75) (.t 74)),(some 3)),[])] [1,2,3,49,50,51]))))
(.reg [
.s 76 (.bin .add none (.t 51) (.k 1)),
.s 51 (.m 76)] [1,2,3,49,50,51]))))
(.trim [1,2,3,49,50,51]))))))
(.seq
(.reg [
.s 77 (.ld true 4 (.t 3)),
.n (.st 4 (.t 2) (.t 77))] [2])
.ret))))),
[.cell 2 true 4]⟩
/-- emend/emendref3.Depth -/
def F46 : DF := ⟨1,
(.seq
(.reg [
.s 1 (.bxL (.t 0)),
.s 2 (.mv (.k 0))] [1])
(.seq
(.reg [
.s 3 (.mv (.k 0))] [1,3])
(.seq
(.seq
(.reg [
.s 4 (.mv (.k 0))] [1,3,4])
(.blk 0
(.seq
(.trim [1,3,4])
(.lop
(.seq
(.seq
(.seq
(.reg [
.s 6 (.m 4),
.s 7 (.fa 3 (.t 1)),
.s 8 (.l 7),
.s 9 (.len (.t 8)),
.s 10 (.bin .lss none (.t 6) (.t 9))] [1,3,4,10])
(.cnd (.t 10)
.skip
(.exit 0)))
(.seq
(.blk 1
(.seq
(.reg [
.s 13 (.fa 3 (.t 1)),
.s 14 (.l 13),
.s 15 (.m 4),
.s 16 (.ia 4 (.t 14) (.t 15)),
.s 17 (.ld true 4 (.t 16)),
.s 18 (.call 46 [(.t 17)]),
.s 5 (.m 18)] [1,3,4,5])
(.seq
(.reg [
.s 19 (.m 5),
.s 20 (.m 3),
.s 21 (.bin .gtr none (.t 19) (.t 20))] [1,3,4,5,21])
(.cnd (.t 21)
(.reg [
.s 22 (.m 5),
.s 3 (.m 22)] [1,3,4])
.skip))))
(.reg [
.s 11 (.m 4),
.s 12 (.bin .add none (.t 11) (.k 1)),
.s 4 (.m 12)] [1,3,4])))
(.trim [1,3,4]))))))
(.seq
(.reg [
.s 23 (.m 3),
.s 24 (.bin .add none (.t 23) (.k 1)),
.s 2 (.m 24)] [2])
.ret)))),
[.tmp 2]⟩
/-- emend/emendref3.Shaped -/
def F47 : DF := ⟨1,
(.seq
(.reg [
.s 1 (.bxL (.t 0)),
.s 2 (.mv (.c (.bool false)))] [1])
(.seq
(.reg [
.s 9 (.fa 2 (.t 1)),
.s 10 (.l 9),
.s 11 (.len (.t 10)),
.s 12 (.fa 3 (.t 1)),
.s 13 (.l 12),
.s 14 (.len (.t 13)),
.s 15 (.bin .add none (.t 11) (.t 14)),
.s 3 (.m 15)] [1,3])
(.seq
(.seq
(.reg [
.s 16 (.fa 0 (.t 1)),
.s 17 (.l 16)] [1,3,17])
(.blk 0
(.seq
(.reg [
.s 19 (.bin .eql (some .int) (.t 17) (.k 1)),
.s 18 (.m 19)] [1,3,17,18])
(.cnd (.t 18)
(.seq
(.reg [
.s 20 (.fa 1 (.t 1)),
.s 21 (.l 20),
.s 22 (.bin .eql (some .str) (.t 21) (.c (.str []))),
.s 23 (.m 22),
.g 24 (.m 3) 23 true,
.g 25 (.bin .eql (some .int) (.t 24) (.k 0)) 23 true,
.s 26 (.pick (.t 23) (.t 25) (.c (.bool false))),
.s 2 (.m 26)] [2])
.ret)
(.seq
(.reg [
.s 28 (.bin .eql (some .int) (.t 17) (.k 2)),
.s 27 (.m 28)] [1,3,17,27])
(.cnd (.t 27)
(.seq
(.reg [
.s 29 (.fa 1 (.t 1)),
.s 30 (.l 29),
.s 31 (.bin .eql (some .str) (.t 30) (.c (.str [116,114,117,101]))),
.s 32 (.m 31),
.g 33 (.fa 1 (.t 1)) 32 false,
.g 34 (.l 33) 32 false,
.g 35 (.bin .eql (some .str) (.t 34) (.c (.str [102,97,108,115,101]))) 32 false,
.s 36 (.pick (.t 32) (.c (.bool true)) (.t 35)),
.s 37 (.m 36),
.g 38 (.m 3) 37 true,
.g 39 (.bin .eql (some .int) (.t 38) (.k 0)) 37 true,
.s 40 (.pick (.t 37) (.t 39) (.c (.bool false))),
.s 2 (.m 40)] [2])
.ret)
(.seq
(.reg [
.s 42 (.bin .eql (some .int) (.t 17) (.k 3)),
.s 41 (.m 42)] [1,3,17,41])
(.cnd (.t 41)
(.seq
(.reg [
.s 44 (.fa 1 (.t 1)),
.s 45 (.l 44),
.s 46 (.call 73 [(.t 45)]),
.s 43 (.m 46),
.s 47 (.ext (.t 43) 0),
.s 48 (.ext (.t 43) 1),
.s 4 (.m 47),
.s 5 (.m 48)] [1,3,4,5])
(.seq
(.reg [
.s 49 (.m 5),
.s 50 (.bin .eql (some .int) (.t 49) (.k 0)),
.s 51 (.m 50),
.g 52 (.m 4) 51 true,
.g 53 (.fa 1 (.t 1)) 51 true,
.g 54 (.l 53) 51 true,
.g 55 (.bin .eql (some .str) (.t 52) (.t 54)) 51 true,
.s 56 (.pick (.t 51) (.t 55) (.c (.bool false))),
.s 57 (.m 56),
.g 58 (.m 3) 57 true,
.g 59 (.bin .eql (some .int) (.t 58) (.k 0)) 57 true,
.s 60 (.pick (.t 57) (.t 59) (.c (.bool false))),
.s 2 (.m 60)] [2])
.ret))
(.seq
(.reg [
.s 62 (.bin .eql (some .int) (.t 17) (.k 4)),
.s 61 (.m 62)] [1,3,17,61])
(.cnd (.t 61)
(.seq
(.reg [
.s 63 (.fa 1 (.t 1)),
.s 64 (.l 63),
.s 65 (.call 74 [(.t 64)]),
.s 66 (.m 65),
.g 67 (.m 3) 66 true,
.g 68 (.bin .eql (some .int) (.t 67) (.k 0)) 66 true,
.s 69 (.pick (.t 66) (.t 68) (.c (.bool false))),
.s 2 (.m 69)] [2])
.ret)
(.seq
(.reg [
.s 71 (.bin .eql (some .int) (.t 17) (.k 5)),
.s 70 (.m 71)] [1,3,17,70])
(.cnd (.t 70)
(.seq
(.reg [
.s 72 (.fa 1 (.t 1)),
.s 73 (.l 72),
.s 74 (.call 75 [(.t 73)]),
.s 75 (.m 74),
.g 76 (.m 3) 75 true,
.g 77 (.bin .eql (some .int) (.t 76) (.k 0)) 75 true,
.s 78 (.pick (.t 75) (.t 77) (.c (.bool false))),
.s 2 (.m 78)] [2])
.ret)
(.seq
(.reg [
.s 80 (.bin .eql (some .int) (.t 17) (.k 6)),
.s 79 (.m 80)] [1,17,79])
(.cnd (.t 79)
(.seq
(.reg [
.s 81 (.fa 2 (.t 1)),
.s 82 (.l 81),
.s 83 (.len (.t 82)),
.s 84 (.bin .gtr none (.t 83) (.k 0))] [1,84])
(.cnd (.t 84)
(.seq
(.reg [
.s 2 (.mv (.c (.bool false)))] [2])
.ret)
.skip))
(.seq
(.reg [
.s 86 (.bin .eql (some .int) (.t 17) (.k 7)),
.s 85 (.m 86)] [1,85])
(.cnd (.t 85)
(.seq
(.seq
(.reg [
.s 87 (.fa 2 (.t 1)),
.s 88 (.l 87),
.s 89 (.len (.t 88)),
.s 90 (.fa 3 (.t 1)),
.s 91 (.l 90),
.s 92 (.len (.t 91)),
.s 93 (.bin .neq (some .int) (.t 89) (.t 92))] [1,93])
(.cnd (.t 93)
(.seq
(.reg [
.s 2 (.mv (.c (.bool false)))] [2])
.ret)
.skip))
(.seq
(.reg [
.s 94 (.mkm),
.s 6 (.m 94)] [1,6])
(.seq
(.reg [
.s 7 (.mv (.k 0))] [1,6,7])
(.blk 1
(.seq
(.trim [1,6,7])
(.lop
(.seq
(.seq
(.seq
(.reg [
.s 95 (.m 7),
.s 96 (.fa 2 (.t 1)),
.s 97 (.l 96),
.s 98 (.len (.t 97)),
.s 99 (.bin .lss none (.t 95) (.t 98))] [1,6,7,99])
(.cnd (.t 99)
.skip
(.exit 1)))
(.seq
(.blk 2
(.seq
(.seq
(.reg [
.s 102 (.m 6),
.s 103 (.fa 2 (.t 1)),
.s 104 (.l 103),
.s 105 (.m 7),
.s 106 (.ia 1 (.t 104) (.t 105)),
.s 107 (.l 106),
.s 108 (.lkp .str (.int .i64 0) (.t 102) (.t 107) false),
.s 109 (.bin .gtr none (.t 108) (.k 0)),
.s 110 (.m 109),
.g 111 (.fa 2 (.t 1)) 110 false,
.g 112 (.l 111) 110 false,
.g 113 (.m 7) 110 false,
.g 114 (.ia 1 (.t 112) (.t 113)) 110 false,
.g 115 (.l 114) 110 false,
.g 116 (.call 74 [(.t 115)]) 110 false,
.g 117 (.un .not (.t 116)) 110 false,
.s 118 (.pick (.t 110) (.c (.bool true)) (.t 117))] [1,6,7,118])
(.cnd (.t 118)
(.seq
(.reg [
.s 2 (.mv (.c (.bool false)))] [2])
.ret)
.skip))
(.reg [
.s 119 (.m 6),
.s 120 (.fa 2 (.t 1)),
.s 121 (.l 120),
.s 122 (.m 7),
.s 123 (.ia 1 (.t 121) (.t 122)),
.s 124 (.l 123),
.n (.mup .str (.t 119) (.t 124) (.k 1))] [1,6,7])))
(.reg [
.s 100 (.m 7),
.s 101 (.bin .add none (.t 100) (.k 1)),
.s 7 (.m 101)] [1,6,7])))
(.trim [1,6,7]))))))))
(.seq
(.reg [
.s 2 (.mv (.c (.bool false)))] [2])
.ret)))))))))))))))))
(.seq
(.seq
(.reg [
.s 8 (.mv (.k 0))] [1,8])
(.blk 3
(.seq
(.trim [1,8])
(.lop
(.seq
(.seq
(.seq
(.reg [
.s 125 (.m 8),
.s 126 (.fa 3 (.t 1)),
.s 127 (.l 126),
.s 128 (.len (.t 127)),
.s 129 (.bin .lss none (.t 125) (.t 128))] [1,8,129])
(.cnd (.t 129)
.skip
(.exit 3)))
(.seq
(.blk 4
(.seq
(.reg [
.s 132 (.fa 3 (.t 1)),
.s 133 (.l 132),
.s 134 (.m 8),
.s 135 (.ia 4 (.t 133) (.t 134)),
.s 136 (.ld true 4 (.t 135)),
.s 137 (.call 47 [(.t 136)]),
.s 138 (.un .not (.t 137))] [1,8,138])
(.cnd (.t 138)
(.seq
(.reg [
.s 2 (.mv (.c (.bool false)))] [2])
.ret)
.skip)))
(.reg [
.s 130 (.m 8),
.s 131 (.bin .add none (.t 130) (.k 1)),
.s 8 (.m 131)] [1,8])))
(.trim [1,8]))))))
(.seq
(.reg [
.s 139 (.fa 1 (.t 1)),
.s 140 (.l 139),
.s 141 (.bin .eql (some .str) (.t 140) (.c (.str []))),
.s 2 (.m 141)] [2])
.ret))))),
[.tmp 2]⟩
/-- emend/emendref3.alike -/
def F48 : DF := ⟨2,
(.seq
(.reg [
.s 2 (.bxL (.t 0)),
.s 3 (.bxL (.t 1)),
.s 4 (.mv (.c (.bool false)))] [2,3])
(.seq
(.seq
(.reg [
.s 7 (.fa 0 (.t 2)),
.s 8 (.l 7),
.s 9 (.fa 0 (.t 3)),
.s 10 (.l 9),
.s 11 (.bin .neq (some .int) (.t 8) (.t 10)),
.s 12 (.m 11),
.g 13 (.fa 1 (.t 2)) 12 false,
.g 14 (.l 13) 12 false,
.g 15 (.fa 1 (.t 3)) 12 false,
.g 16 (.l 15) 12 false,
.g 17 (.bin .neq (some .str) (.t 14) (.t 16)) 12 false,
.s 18 (.pick (.t 12) (.c (.bool true)) (.t 17)),
.s 19 (.m 18),
.g 20 (.fa 3 (.t 2)) 19 false,
.g 21 (.l 20) 19 false,
.g 22 (.len (.t 21)) 19 false,
.g 23 (.fa 3 (.t 3)) 19 false,
.g 24 (.l 23) 19 false,
.g 25 (.len (.t 24)) 19 false,
.g 26 (.bin .neq (some .int) (.t 22) (.t 25)) 19 false,
.s 27 (.pick (.t 19) (.c (.bool true)) (.t 26))] [2,3,27])
(.cnd (.t 27)
(.seq
(.reg [
.s 4 (.mv (.c (.bool false)))] [4])
.ret)
.skip))
(.seq
(.seq
(.reg [
.s 5 (.mv (.k 0))] [2,3,5])
(.blk 0
(.seq
(.trim [2,3,5])
(.lop
(.seq
(.seq
(.seq
(.reg [
.s 28 (.m 5),
.s 29 (.fa 3 (.t 2)),
.s 30 (.l 29),
.s 31 (.len (.t 30)),
.s 32 (.bin .lss none (.t 28) (.t 31))] [2,3,5,32])
(.cnd (.t 32)
.skip
(.exit 0)))
(.seq
(.blk 1
(.seq
(.reg [
.s 35 (.m 5),
.s 6 (.m 35)] [2,3,5,6])
(.seq
(.seq
(.reg [
.s 36 (.fa 0 (.t 2)),
.s 37 (.l 36),
.s 38 (.bin .eql (some .int) (.t 37) (.k 7))] [2,3,5,6,38])
(.cnd (.t 38)
(.seq
(.drw [
((.s 39 (.fa 2 (.t 3)),(some 3)),[]),
((.s 40 (.l 39),(some 3)),[]),
((.s 41 (.fa 2 (.t 2)),(some 2)),[]),
((.s 42 (.l 41),(some 2)),[]),
((.s 43 (.m 5),none),[]),
((.s 44 (.ia 1 (.t 42) (.t 43)),none),[]),
((.s 45 (.l 44),none),[]),
((.s 46 (.call 50 [(.t 40),(.t 45)]),none),[]),
((.s 6 (.m 46),none),[])] [2,3,5,6])
(.seq
(.reg [
.s 47 (.m 6),
.s 48 (.bin .lss none (.t 47) (.k 0))] [2,3,5,6,48])
(.cnd (.t 48)
(.seq
(.reg [
.s 4 (.mv (.c (.bool false)))] [4])
.ret)
.skip)))
.skip))
(.seq
(.drw [
((.s 49 (.fa 3 (.t 2)),(some 2)),[]),
((.s 50 (.l 49),(some 2)),[]),
((.s 51 (.m 5),none),[]),
((.s 52 (.ia 4 (.t 50) (.t 51)),none),[]),
((.s 53 (.ld true 4 (.t 52)),none),[]),
((.s 54 (.fa 3 (.t 3)),(some 3)),[]),
((.s 55 (.l 54),(some 3)),[]),
((.s 56 (.m 6),none),[]),
((.s 57 (.ia 4 (.t 55) (.t 56)),none),[]),
((.s 58 (.ld true 4 (.t 57)),none),[]),
((.s 59 (.call 48 [(.t 53),(.t 58)]),none),[]),
((.s 60 (.un .not (.t 59)),none),[])] [2,3,5,60])
(.cnd (.t 60)
(.seq
(.reg [
.s 4 (.mv (.c (.bool false)))] [4])
.ret)
.skip)))))
(.reg [
.s 33 (.m 5),
.s 34 (.bin .add none (.t 33) (.k 1)),
.s 5 (.m 34)] [2,3,5])))
(.trim [2,3,5]))))))
(.seq
(.reg [
.s 4 (.mv (.c (.bool true)))] [4])
.ret)))),
[.tmp 4]⟩
/-- emend/emendref3.Plain -/
def F49 : DF := ⟨2,
(.seq
(.reg [
.s 2 (.bxL (.t 0)),
.s 3 (.bxL (.t 1)),
.s 4 (.mv (.c (.bool false)))] [2,3])
(.seq
(.seq
(.reg [
.s 7 (.fa 0 (.t 2)),
.s 8 (.l 7),
.s 9 (.fa 0 (.t 3)),
.s 10 (.l 9),
.s 11 (.bin .neq (some .int) (.t 8) (.t 10)),
.s 12 (.m 11),
.g 13 (.fa 1 (.t 2)) 12 false,
.g 14 (.l 13) 12 false,
.g 15 (.fa 1 (.t 3)) 12 false,
.g 16 (.l 15) 12 false,
.g 17 (.bin .neq (some .str) (.t 14) (.t 16)) 12 false,
.s 18 (.pick (.t 12) (.c (.bool true)) (.t 17)),
.s 19 (.m 18),
.g 20 (.fa 2 (.t 2)) 19 false,
.g 21 (.l 20) 19 false,
.g 22 (.len (.t 21)) 19 false,
.g 23 (.fa 2 (.t 3)) 19 false,
.g 24 (.l 23) 19 false,
.g 25 (.len (.t 24)) 19 false,
.g 26 (.bin .neq (some .int) (.t 22) (.t 25)) 19 false,
.s 27 (.pick (.t 19) (.c (.bool true)) (.t 26)),
.s 28 (.m 27),
.g 29 (.fa 3 (.t 2)) 28 false,
.g 30 (.l 29) 28 false,
.g 31 (.len (.t 30)) 28 false,
.g 32 (.fa 3 (.t 3)) 28 false,
.g 33 (.l 32) 28 false,
.g 34 (.len (.t 33)) 28 false,
.g 35 (.bin .neq (some .int) (.t 31) (.t 34)) 28 false,
.s 36 (.pick (.t 28) (.c (.bool true)) (.t 35))] [2,3,36])
(.cnd (.t 36)
(.seq
(.reg [
.s 4 (.mv (.c (.bool false)))] [4])
.ret)
.skip))
(.seq
(.seq
(.reg [
.s 5 (.mv (.k 0))] [2,3,5])
(.blk 0
(.seq
(.trim [2,3,5])
(.lop
(.seq
(.seq
(.seq
(.reg [
.s 37 (.m 5),
.s 38 (.fa 2 (.t 2)),
.s 39 (.l 38),
.s 40 (.len (.t 39)),
.s 41 (.bin .lss none (.t 37) (.t 40))] [2,3,5,41])
(.cnd (.t 41)
.skip
(.exit 0)))
(.seq
(.blk 1
(.seq
(.drw [
((.s 44 (.fa 2 (.t 2)),(some 2)),[]),
((.s 45 (.l 44),(some 2)),[]),
((.s 46 (.m 5),none),[]),
((.s 47 (.ia 1 (.t 45) (.t 46)),none),[]),
((.s 48 (.l 47),none),[]),
((.s 49 (.fa 2 (.t 3)),(some 3)),[]),
((.s 50 (.l 49),(some 3)),[]),
((.s 51 (.m 5),none),[]),
((.s 52 (.ia 1 (.t 50) (.t 51)),none),[]),
((.s 53 (.l 52),none),[]),
((.s 54 (.bin .neq (some .str) (.t 48) (.t 53)),none),[])] [2,3,5,54])
(.cnd (.t 54)
(.seq
(.reg [
.s 4 (.mv (.c (.bool false)))] [4])
.ret)
.skip)))
(.reg [
.s 42 (.m 5),
.s 43 (.bin .add none (.t 42) (.k 1)),
.s 5 (.m 43)] [2,3,5])))
(.trim [2,3,5]))))))
(.seq
(.seq
(.reg [
.s 6 (.mv (.k 0))] [2,3,6])
(.blk 2
(.seq
(.trim [2,3,6])
(.lop
(.seq
(.seq
(.seq
(.reg [
.s 55 (.m 6),
.s 56 (.fa 3 (.t 2)),
.s 57 (.l 56),
.s 58 (.len (.t 57)),
.s 59 (.bin .lss none (.t 55) (.t 58))] [2,3,6,59])
(.cnd (.t 59)
.skip
(.exit 2)))
(.seq
(.blk 3
(.seq
(.drw [
((.s 62 (.fa 3 (.t 2)),(some 2)),[]),
((.s 63 (.l 62),(some 2)),[]),
((.s 64 (.m 6),none),[]),
((.s 65 (.ia 4 (.t 63) (.t 64)),none),[]),
((.s 66 (.ld true 4 (.t 65)),none),[]),
((.s 67 (.fa 3 (.t 3)),(some 3)),[]),
((.s 68 (.l 67),(some 3)),[]),
((.s 69 (.m 6),none),[]),
((.s 70 (.ia 4 (.t 68) (.t 69)),none),[]),
((.s 71 (.ld true 4 (.t 70)),none),[]),
((.s 72 (.call 49 [(.t 66),(.t 71)]),none),[]),
((.s 73 (.un .not (.t 72)),none),[])] [2,3,6,73])
(.cnd (.t 73)
(.seq
(.reg [
.s 4 (.mv (.c (.bool false)))] [4])
.ret)
.skip)))
(.reg [
.s 60 (.m 6),
.s 61 (.bin .add none (.t 60) (.k 1)),
.s 6 (.m 61)] [2,3,6])))
(.trim [2,3,6]))))))
(.seq
(.reg [
.s 4 (.mv (.c (.bool true)))] [4])
.ret))))),
[.tmp 4]⟩
/-- emend/emendref3.Place -/
def F50 : DF := ⟨2,
(.seq
(.reg [
.s 4 (.mv (.k 0))] [0,1])
(.seq
(.seq
(.reg [
.s 5 (.mv (.k 0))] [0,1,5])
(.blk 0
(.seq
(.trim [0,1,5])
(.lop
(.seq
(.seq
(.seq
(.reg [
.s 6 (.m 5),
.s 7 (.m 0),
.s 8 (.len (.t 7)),
.s 9 (.bin .lss none (.t 6) (.t 8))] [0,1,5,9])
(.cnd (.t 9)
.skip
(.exit 0)))
(.seq
(.blk 1
(.seq
(.reg [
.s 12 (.m 0),
.s 13 (.m 5),
.s 14 (.ia 1 (.t 12) (.t 13)),
.s 15 (.l 14),
.s 16 (.m 1),
.s 17 (.bin .eql (some .str) (.t 15) (.t 16))] [0,1,5,17])
(.cnd (.t 17)
(.seq
(.reg [
.s 18 (.m 5),
.s 4 (.m 18)] [4])
.ret)
.skip)))
(.reg [
.s 10 (.m 5),
.s 11 (.bin .add none (.t 10) (.k 1)),
.s 5 (.m 11)] [0,1,5])))
(.trim [0,1,5]))))))
(.seq
(.reg [
.s 4 (.mv (.k (-1)))] [4])
.ret))),
[.tmp 4]⟩

/-- emend/text.Bad -/
def F53 : DF := ⟨1,
(.seq
(.reg [
.s 2 (.mv (.k 0))] [0])
(.seq
(.seq
(.reg [
.s 3 (.mv (.k 0))] [0,3])
(.blk 0
(.seq
(.trim [0,3])
(.lop
(.seq
(.seq
(.seq
(.reg [
.s 6 (.m 3),
.s 7 (.m 0),
.s 8 (.lenS (.t 7)),
.s 9 (.bin .lss none (.t 6) (.t 8))] [0,3,9])
(.cnd (.t 9)
.skip
(.exit 0)))
(.blk 1
(.seq
(.reg [
.s 11 (.m 0),
.s 12 (.m 3),
.s 13 (.slS (.t 11) (some (.t 12)) none),
.s 14 (.call 78 [(.t 13)]),
.s 10 (.m 14),
.s 15 (.ext (.t 10) 0),
.s 16 (.ext (.t 10) 1),
.s 4 (.m 15),
.s 5 (.m 16)] [0,3,5])
(.seq
(.seq
(.reg [
.s 17 (.m 5),
.s 18 (.bin .eql (some .int) (.t 17) (.k 0))] [0,3,5,18])
(.cnd (.t 18)
(.seq
(.reg [
.s 19 (.m 3),
.s 2 (.m 19)] [2])
.ret)
.skip))
(.reg [
.s 20 (.m 3),
.s 21 (.m 5),
.s 22 (.bin .add none (.t 20) (.t 21)),
.s 3 (.m 22)] [0,3])))))
(.trim [0,3]))))))
(.seq
(.reg [
.s 2 (.mv (.k (-1)))] [2])
.ret))),
[.tmp 2]⟩
/-- emend/tree.Read$1 -/
def F54 : DG := ⟨1,4,
[.s 1 (.m 4)],[0,1],
(.seq
(.reg [
.s 5 (.m 1),
.s 6 (.bin .eql (some .ifc) (.t 5) (.c .nilif))] [0,1,6])
(.seq
(.cnd (.t 6)
.ret
.skip)
(.seq
(.reg [
.s 8 (.m 1),
.s 9 (.tas true 87 .nilp (.t 8)),
.s 7 (.m 9),
.s 10 (.ext (.t 7) 0),
.s 11 (.ext (.t 7) 1),
.s 2 (.m 10),
.s 3 (.m 11)] [0,1,2,3])
(.seq
(.reg [
.s 12 (.m 3),
.s 13 (.un .not (.t 12))] [0,1,2,13])
(.seq
(.cnd (.t 13)
(.reg [
.s 14 (.m 1),
.n (.pnc (.t 14))] [0,2])
.skip)
(.seq
(.reg [
.s 15 (.m 2),
.s 16 (.mki 87 (.t 15)),
.n (.st 1 (.t 0) (.t 16))] [])
.skip))))))⟩

/-- emend/tree.Time -/
def F64 : DF := ⟨1,
(.seq
(.reg [
.s 2 (.mv (.c (.bool false)))] [0])
(.seq
(.seq
(.reg [
.s 6 (.m 0),
.s 7 (.call 83 [(.t 6)]),
.s 8 (.m 7),
.g 9 (.m 0) 8 false,
.g 10 (.call 84 [(.t 9)]) 8 false,
.s 11 (.pick (.t 8) (.c (.bool true)) (.t 10))] [0,11])
(.cnd (.t 11)
(.seq
(.reg [
.s 2 (.mv (.c (.bool true)))] [2])
.ret)
.skip))
(.seq
(.reg [
.s 13 (.m 0),
.s 14 (.call 85 [(.t 13)]),
.s 12 (.m 14),
.s 15 (.ext (.t 12) 0),
.s 16 (.ext (.t 12) 1),
.s 0 (.m 15)] [0])
(.seq
(.reg [
.s 18 (.m 0),
.s 19 (.call 86 [(.t 18),(.c (.str [84]))]),
.s 17 (.m 19),
.s 20 (.ext (.t 17) 0),
.s 21 (.ext (.t 17) 1),
.s 22 (.ext (.t 17) 2),
.s 3 (.m 20),
.s 4 (.m 21),
.s 5 (.m 22)] [3,4,5])
(.seq
(.reg [
.s 23 (.m 5),
.s 24 (.m 23),
.g 25 (.m 3) 24 true,
.g 26 (.call 83 [(.t 25)]) 24 true,
.s 27 (.pick (.t 24) (.t 26) (.c (.bool false))),
.s 28 (.m 27),
.g 29 (.m 4) 28 true,
.g 30 (.call 84 [(.t 29)]) 28 true,
.s 31 (.pick (.t 28) (.t 30) (.c (.bool false))),
.s 2 (.m 31)] [2])
.ret))))),
[.tmp 2]⟩

/-- emend/num.Normal -/
def F67 : DF := ⟨1,
(.seq
(.reg [
.s 2 (.mv (.c (.str []))),
.s 3 (.mv (.k 0))] [0])
(.seq
(.reg [
.s 7 (.m 0),
.s 8 (.call 87 [(.t 7)]),
.s 6 (.m 8),
.s 9 (.ext (.t 6) 0),
.s 10 (.ext (.t 6) 1),
.s 4 (.alL [(.bool false),(.str []),(.int .i64 0)]),
.n (.st 3 (.t 4) (.t 9)),
.s 5 (.m 10)] [4,5])
(.seq
(.seq
(.reg [
.s 11 (.m 5),
.s 12 (.bin .neq (some .int) (.t 11) (.k 0))] [4,5,12])
(.cnd (.t 12)
(.seq
(.reg [
.s 13 (.m 5),
.s 2 (.mv (.c (.str []))),
.s 3 (.m 13)] [2,3])
.ret)
.skip))
(.seq
(.reg [
.s 14 (.ld true 3 (.t 4)),
.s 15 (.call 88 [(.t 14)]),
.s 16 (.ext (.t 15) 0),
.s 17 (.ext (.t 15) 1),
.s 2 (.m 16),
.s 3 (.m 17)] [2,3])
.ret)))),
[.tmp 2,.tmp 3]⟩
/-- emend/text.Valid -/
def F68 : DF := ⟨1,
(.seq
(.reg [
.s 2 (.mv (.c (.bool false)))] [0])
(.seq
(.reg [
.s 3 (.m 0),
.s 4 (.call 53 [(.t 3)]),
.s 5 (.bin .lss none (.t 4) (.k 0)),
.s 2 (.m 5)] [2])
.ret)),
[.tmp 2]⟩
/-- emend/tree.unlike -/
def F69 : DF := ⟨1,
(.seq
(.reg [
.s 2 (.mv (.c (.bool false)))] [0])
(.seq
(.reg [
.s 6 (.mkm),
.s 3 (.m 6)] [0,3])
(.seq
(.seq
(.reg [
.s 7 (.m 0),
.s 8 (.len (.t 7)),
.s 9 (.mv (.k 0))] [3,7,8,9])
(.blk 0
(.seq
(.trim [3,7,8,9])
(.lop
(.seq
(.seq
(.reg [
.s 10 (.bin .lss none (.t 9) (.t 8))] [3,7,8,9,10])
(.seq
(.cnd (.t 10)
.skip
(.exit 0))
(.seq
(.blk 1
(.seq
(.reg [
.s 11 (.ia 1 (.t 7) (.t 9)),
.s 12 (.l 11),
.s 5 (.m 12)] [3,5,7,8,9])
(.seq
(.reg [
.s 13 (.m 3),
.s 14 (.m 5),
.s 15 (.lkp .str (.int .i64 0) (.t 13) (.t 14) false),
.s 16 (.bin .add none (.t 15) (.k 1)),
.n (.mup .str (.t 13) (.t 14) (.t 16))] [3,5,7,8,9])
(.seq
(.reg [
.s 17 (.m 3),
.s 18 (.m 5),
.s 19 (.lkp .str (.int .i64 0) (.t 17) (.t 18) false),
.s 20 (.bin .gtr none (.t 19) (.k 1)),
.s 21 (.m 20),
.g 22 (.m 5) 21 false,
.g 23 (.call 68 [(.t 22)]) 21 false,
.g 24 (.un .not (.t 23)) 21 false,
.s 25 (.pick (.t 21) (.c (.bool true)) (.t 24))] [3,7,8,9,25])
(.cnd (.t 25)
(.seq
(.reg [
.s 2 (.mv (.c (.bool false)))] [2])
.ret)
.skip)))))
(.reg [
.s 26 (.bin .add none (.t 9) (.k 1)),
.s 9 (.m 26)] [3,7,8,9]))))
(.trim [3,7,8,9]))))))
(.seq
(.reg [
.s 2 (.mv (.c (.bool true)))] [2])
.ret)))),
[.tmp 2]⟩
/-- slices.Equal[[]string,string] -/
def F70 : DF := ⟨2,
(.seq
(.reg [
.s 4 (.mv (.c (.bool false)))] [0,1])
(.seq
(.seq
(.reg [
.s 6 (.m 0),
.s 7 (.len (.t 6)),
.s 8 (.m 1),
.s 9 (.len (.t 8)),
.s 10 (.bin .neq (some .int) (.t 7) (.t 9))] [0,1,10])
(.cnd (.t 10)
(.seq
(.reg [
.s 4 (.mv (.c (.bool false)))] [4])
.ret)
.skip))
(.seq
(.seq
(.reg [
.s 11 (.m 0),
.s 12 (.len (.t 11)),
.s 13 (.mv (.k 0))] [0,1,12,13])
(.blk 0
(.seq
(.trim [0,1,12,13])
(.lop
(.seq
(.seq
(.reg [
.s 14 (.bin .lss none (.t 13) (.t 12))] [0,1,12,13,14])
(.seq
(.cnd (.t 14)
.skip
(.exit 0))
(.seq
(.blk 1
(.seq
(.reg [
.s 15 (.m 13),
.s 5 (.m 15)] [0,1,5,12,13])
(.seq
(.drw [
((.s 16 (.m 0),none),[]),
((.s 17 (.m 5),none),[]),
((.s 18 (.ia 1 (.t 16) (.t 17)),none),[]),
((.s 19 (.l 18),none),[]),
((.s 20 (.m 1),none),[]),
((.s 21 (.m 5),none),[]),
((.s 22 (.ia 1 (.t 20) (.t 21)),none),[]),
((.s 23 (.l 22),none),[]),
((.s 24 (.bin .neq (some .str) (.t 19) (.t 23)),none),[])] [0,1,12,13,24])
(.cnd (.t 24)
(.seq
(.reg [
.s 4 (.mv (.c (.bool false)))] [4])
.ret)
.skip))))
(.reg [
.s 25 (.bin .add none (.t 13) (.k 1)),
.s 13 (.m 25)] [0,1,12,13]))))
(.trim [0,1,12,13]))))))
(.seq
(.reg [
.s 4 (.mv (.c (.bool true)))] [4])
.ret)))),
[.tmp 4]⟩
/-- slices.EqualFunc[[]emend/api.Tree,[]emend/api.Tree,emend/api.Tree,emend/api.Tree] -/
def F71 : DF := ⟨3,
(.seq
(.reg [
.s 6 (.mv (.c (.bool false)))] [0,1,2])
(.seq
(.seq
(.reg [
.s 10 (.m 0),
.s 11 (.len (.t 10)),
.s 12 (.m 1),
.s 13 (.len (.t 12)),
.s 14 (.bin .neq (some .int) (.t 11) (.t 13))] [0,1,2,14])
(.cnd (.t 14)
(.seq
(.reg [
.s 6 (.mv (.c (.bool false)))] [6])
.ret)
.skip))
(.seq
(.seq
(.reg [
.s 15 (.m 0),
.s 16 (.len (.t 15)),
.s 17 (.mv (.k 0))] [1,2,15,16,17])
(.blk 0
(.seq
(.trim [1,2,15,16,17])
(.lop
(.seq
(.seq
(.reg [
.s 18 (.bin .lss none (.t 17) (.t 16))] [1,2,15,16,17,18])
(.seq
(.cnd (.t 18)
.skip
(.exit 0))
(.seq
(.blk 1
(.seq
(.reg [
.s 19 (.m 17),
.s 20 (.ia 4 (.t 15) (.t 17)),
.s 21 (.ld true 4 (.t 20)),
.s 8 (.alL [(.int .i64 0),(.str []),(.sl 1 nz []),(.sl 4 nz [])]),
.s 7 (.m 19),
.n (.st 4 (.t 8) (.t 21))] [1,2,7,8,15,16,17])
(.seq
(.reg [
.s 22 (.m 1),
.s 23 (.m 7),
.s 24 (.ia 4 (.t 22) (.t 23)),
.s 25 (.ld true 4 (.t 24)),
.s 9 (.alL [(.int .i64 0),(.str []),(.sl 1 nz []),(.sl 4 nz [])]),
.n (.st 4 (.t 9) (.t 25))] [1,2,8,9,15,16,17])
(.seq
(.reg [
.s 26 (.m 2),
.s 27 (.ld true 4 (.t 8)),
.s 28 (.ld true 4 (.t 9)),
.s 29 (.callv (.t 26) [(.t 27),(.t 28)]),
.s 30 (.un .not (.t 29))] [1,2,15,16,17,30])
(.cnd (.t 30)
(.seq
(.reg [
.s 6 (.mv (.c (.bool false)))] [6])
.ret)
.skip)))))
(.reg [
.s 31 (.bin .add none (.t 17) (.k 1)),
.s 17 (.m 31)] [1,2,15,16,17]))))
(.trim [1,2,15,16,17]))))))
(.seq
(.reg [
.s 6 (.mv (.c (.bool true)))] [6])
.ret)))),
[.tmp 6]⟩
/-- emend/tree.order -/
def F72 : DF := ⟨1,
(.seq
(.reg [
.s 1 (.bxH 45 (.t 0)),
.s 2 (.mv (.c (.sl 1 nz [])))] [1])
(.seq
(.reg [
.s 5 (.l 1),
.s 6 (.len (.t 5)),
.s 7 (.mks 3 1 8 (.int .i64 0) (.t 6) (.t 6)),
.s 3 (.m 7)] [1,3])
(.seq
(.seq
(.reg [
.s 8 (.m 3),
.s 9 (.len (.t 8)),
.s 10 (.mv (.k 0))] [1,3,9,10])
(.blk 0
(.seq
(.trim [1,3,9,10])
(.lop
(.seq
(.seq
(.reg [
.s 11 (.bin .lss none (.t 10) (.t 9))] [1,3,9,10,11])
(.seq
(.cnd (.t 11)
.skip
(.exit 0))
(.seq
(.blk 1
(.seq
(.reg [
.s 12 (.m 10),
.s 4 (.m 12)] [1,3,4,9,10])
(.reg [
.s 13 (.m 3),
.s 14 (.m 4),
.s 15 (.m 4),
.s 16 (.ia 1 (.t 13) (.t 14)),
.n (.st 1 (.t 16) (.t 15))] [1,3,9,10])))
(.reg [
.s 17 (.bin .add none (.t 10) (.k 1)),
.s 10 (.m 17)] [1,3,9,10]))))
(.trim [1,3,9,10]))))))
(.seq
(.reg [
.s 18 (.m 3),
.s 19 (.mkf 90 [] [(.t 1)]),
.s 20 (.call 89 [(.t 18),(.t 19)])] [3])
(.seq
(.reg [
.s 21 (.m 3),
.s 2 (.m 21)] [2])
.ret))))),
[.tmp 2]⟩
/-- emend/emendref2.Normal -/
def F73 : DF := ⟨1,
(.seq
(.reg [
.s 2 (.mv (.c (.str []))),
.s 3 (.mv (.k 0))] [0])
(.seq
(.reg [
.s 7 (.m 0),
.s 8 (.call 92 [(.t 7)]),
.s 6 (.m 8),
.s 9 (.ext (.t 6) 0),
.s 10 (.ext (.t 6) 1),
.s 4 (.alL [(.bool false),(.str []),(.int .i64 0)]),
.n (.st 3 (.t 4) (.t 9)),
.s 5 (.m 10)] [4,5])
(.seq
(.seq
(.reg [
.s 11 (.m 5),
.s 12 (.bin .neq (some .int) (.t 11) (.k 0))] [4,5,12])
(.cnd (.t 12)
(.seq
(.reg [
.s 13 (.m 5),
.s 2 (.mv (.c (.str []))),
.s 3 (.m 13)] [2,3])
.ret)
.skip))
(.seq
(.reg [
.s 14 (.ld true 3 (.t 4)),
.s 15 (.call 93 [(.t 14)]),
.s 16 (.ext (.t 15) 0),
.s 17 (.ext (.t 15) 1),
.s 2 (.m 16),
.s 3 (.m 17)] [2,3])
.ret)))),
[.tmp 2,.tmp 3]⟩
/-- emend/emendref1.Valid -/
def F74 : DF := ⟨1,
(.seq
(.reg [
.s 2 (.mv (.c (.bool false)))] [0])
(.seq
(.reg [
.s 6 (.m 0),
.s 7 (.call 94 [(.t 6)]),
.s 5 (.m 7),
.s 8 (.ext (.t 5) 0),
.s 9 (.ext (.t 5) 1),
.s 4 (.alL [(.int .i64 0),(.int .i64 0)]),
.s 3 (.m 8),
.n (.st 2 (.t 4) (.t 9))] [4])
(.seq
(.reg [
.s 10 (.fa 1 (.t 4)),
.s 11 (.l 10),
.s 12 (.bin .eql (some .int) (.t 11) (.k 0)),
.s 2 (.m 12)] [2])
.ret))),
[.tmp 2]⟩
/-- emend/emendref3.Time -/
def F75 : DF := ⟨1,
(.seq
(.reg [
.s 2 (.mv (.c (.bool false)))] [0])
(.seq
(.seq
(.reg [
.s 7 (.m 0),
.s 8 (.call 95 [(.t 7)]),
.s 9 (.m 8),
.g 10 (.m 0) 9 false,
.g 11 (.call 96 [(.t 10)]) 9 false,
.s 12 (.pick (.t 9) (.c (.bool true)) (.t 11))] [0,12])
(.cnd (.t 12)
(.seq
(.reg [
.s 2 (.mv (.c (.bool true)))] [2])
.ret)
.skip))
(.seq
(.seq
(.reg [
.s 13 (.m 0),
.s 14 (.lenS (.t 13)),
.s 15 (.bin .lss none (.t 14) (.k 19)),
.s 16 (.m 15),
.g 17 (.m 0) 16 false,
.g 18 (.ixS (.t 17) (.k 10)) 16 false,
.g 19 (.bin .neq (some .int) (.t 18) (.c (.int .u8 84))) 16 false,
.s 20 (.pick (.t 16) (.c (.bool true)) (.t 19)),
.s 21 (.m 20),
.g 22 (.m 0) 21 false,
.g 23 (.slS (.t 22) none (some (.k 10))) 21 false,
.g 24 (.call 95 [(.t 23)]) 21 false,
.g 25 (.un .not (.t 24)) 21 false,
.s 26 (.pick (.t 21) (.c (.bool true)) (.t 25))] [0,26])
(.cnd (.t 26)
(.seq
(.reg [
.s 2 (.mv (.c (.bool false)))] [2])
.ret)
.skip))
(.seq
(.reg [
.s 27 (.m 0),
.s 28 (.slS (.t 27) (some (.k 11)) none),
.s 3 (.m 28)] [3])
(.seq
(.seq
(.reg [
.s 29 (.m 3),
.s 30 (.call 96 [(.t 29)])] [3,30])
(.cnd (.t 30)
(.seq
(.reg [
.s 2 (.mv (.c (.bool true)))] [2])
.ret)
.skip))
(.seq
(.reg [
.s 31 (.m 3),
.s 32 (.lenS (.t 31)),
.s 4 (.m 32)] [3,4])
(.seq
(.seq
(.reg [
.s 33 (.m 3),
.s 34 (.m 4),
.s 35 (.bin .sub none (.t 34) (.k 1)),
.s 36 (.ixS (.t 33) (.t 35)),
.s 37 (.bin .eql (some .int) (.t 36) (.c (.int .u8 90)))] [3,4,37])
(.cnd (.t 37)
(.seq
(.reg [
.s 38 (.m 3),
.s 39 (.m 4),
.s 40 (.bin .sub none (.t 39) (.k 1)),
.s 41 (.slS (.t 38) none (some (.t 40))),
.s 42 (.call 96 [(.t 41)]),
.s 2 (.m 42)] [2])
.ret)
.skip))
(.seq
(.seq
(.reg [
.s 43 (.m 4),
.s 44 (.bin .lss none (.t 43) (.k 14)),
.s 45 (.m 44),
.g 46 (.m 3) 45 false,
.g 47 (.m 4) 45 false,
.g 48 (.bin .sub none (.t 47) (.k 6)) 45 false,
.g 49 (.ixS (.t 46) (.t 48)) 45 false,
.g 50 (.bin .neq (some .int) (.t 49) (.c (.int .u8 43))) 45 false,
.g 51 (.m 50) 45 false,
.g 52 (.m 3) 51 true,
.g 53 (.m 4) 51 true,
.g 54 (.bin .sub none (.t 53) (.k 6)) 51 true,
.g 55 (.ixS (.t 52) (.t 54)) 51 true,
.g 56 (.bin .neq (some .int) (.t 55) (.c (.int .u8 45))) 51 true,
.g 57 (.pick (.t 51) (.t 56) (.c (.bool false))) 45 false,
.s 58 (.pick (.t 45) (.c (.bool true)) (.t 57)),
.s 59 (.m 58),
.g 60 (.m 3) 59 false,
.g 61 (.m 4) 59 false,
.g 62 (.bin .sub none (.t 61) (.k 3)) 59 false,
.g 63 (.ixS (.t 60) (.t 62)) 59 false,
.g 64 (.bin .neq (some .int) (.t 63) (.c (.int .u8 58))) 59 false,
.s 65 (.pick (.t 59) (.c (.bool true)) (.t 64))] [3,4,65])
(.cnd (.t 65)
(.seq
(.reg [
.s 2 (.mv (.c (.bool false)))] [2])
.ret)
.skip))
(.seq
(.reg [
.s 66 (.m 3),
.s 67 (.m 4),
.s 68 (.bin .sub none (.t 67) (.k 5)),
.s 69 (.call 97 [(.t 66),(.t 68),(.k 2)]),
.s 5 (.m 69)] [3,4,5])
(.seq
(.reg [
.s 70 (.m 3),
.s 71 (.m 4),
.s 72 (.bin .sub none (.t 71) (.k 2)),
.s 73 (.call 97 [(.t 70),(.t 72),(.k 2)]),
.s 6 (.m 73)] [3,4,5,6])
(.seq
(.reg [
.s 74 (.m 5),
.s 75 (.bin .geq none (.t 74) (.k 0)),
.s 76 (.m 75),
.g 77 (.m 5) 76 true,
.g 78 (.bin .leq none (.t 77) (.k 23)) 76 true,
.s 79 (.pick (.t 76) (.t 78) (.c (.bool false))),
.s 80 (.m 79),
.g 81 (.m 6) 80 true,
.g 82 (.bin .geq none (.t 81) (.k 0)) 80 true,
.s 83 (.pick (.t 80) (.t 82) (.c (.bool false))),
.s 84 (.m 83),
.g 85 (.m 6) 84 true,
.g 86 (.bin .leq none (.t 85) (.k 59)) 84 true,
.s 87 (.pick (.t 84) (.t 86) (.c (.bool false))),
.s 88 (.m 87),
.g 89 (.m 3) 88 true,
.g 90 (.m 4) 88 true,
.g 91 (.bin .sub none (.t 90) (.k 6)) 88 true,
.g 92 (.slS (.t 89) none (some (.t 91))) 88 true,
.g 93 (.call 96 [(.t 92)]) 88 true,
.s 94 (.pick (.t 88) (.t 93) (.c (.bool false))),
.s 2 (.m 94)] [2])
.ret))))))))))),
[.tmp 2]⟩
/-- emend/text.First -/
def F78 : DF := ⟨1,
(.seq
(.reg [
.s 2 (.mv (.k 0)),
.s 3 (.mv (.k 0))] [0])
(.seq
(.seq
(.reg [
.s 6 (.m 0),
.s 7 (.bin .eql (some .str) (.t 6) (.c (.str [])))] [0,7])
(.cnd (.t 7)
(.seq
(.reg [
.s 2 (.mv (.k 0)),
.s 3 (.mv (.k 0))] [2,3])
.ret)
.skip))
(.seq
(.reg [
.s 9 (.m 0),
.s 10 (.ixS (.t 9) (.k 0)),
.s 11 (.call 99 [(.t 10)]),
.s 8 (.m 11),
.s 12 (.ext (.t 8) 0),
.s 13 (.ext (.t 8) 1),
.s 14 (.ext (.t 8) 2),
.s 3 (.m 12),
.s 2 (.m 13),
.s 4 (.m 14)] [0,2,3,4])
(.seq
(.seq
(.reg [
.s 15 (.m 3),
.s 16 (.bin .eql (some .int) (.t 15) (.k 0)),
.s 17 (.m 16),
.g 18 (.m 3) 17 false,
.g 19 (.m 0) 17 false,
.g 20 (.lenS (.t 19)) 17 false,
.g 21 (.bin .gtr none (.t 18) (.t 20)) 17 false,
.s 22 (.pick (.t 17) (.c (.bool true)) (.t 21))] [0,2,3,4,22])
(.cnd (.t 22)
(.seq
(.reg [
.s 2 (.mv (.k 0)),
.s 3 (.mv (.k 0))] [2,3])
.ret)
.skip))
(.seq
(.seq
(.reg [
.s 5 (.mv (.k 1))] [0,2,3,4,5])
(.blk 0
(.seq
(.trim [0,2,3,4,5])
(.lop
(.seq
(.seq
(.seq
(.reg [
.s 23 (.m 5),
.s 24 (.m 3),
.s 25 (.bin .lss none (.t 23) (.t 24))] [0,2,3,4,5,25])
(.cnd (.t 25)
.skip
(.exit 0)))
(.seq
(.blk 1
(.seq
(.seq
(.reg [
.s 28 (.m 0),
.s 29 (.m 5),
.s 30 (.ixS (.t 28) (.t 29)),
.s 31 (.bin .shr none (.t 30) (.c (.int .u64 6))),
.s 32 (.bin .neq (some .int) (.t 31) (.c (.int .u8 2)))] [0,2,3,4,5,32])
(.cnd (.t 32)
(.seq
(.reg [
.s 2 (.mv (.k 0)),
.s 3 (.mv (.k 0))] [2,3])
.ret)
.skip))
(.reg [
.s 33 (.m 2),
.s 34 (.bin .shl none (.t 33) (.c (.int .u64 6))),
.s 35 (.m 0),
.s 36 (.m 5),
.s 37 (.ixS (.t 35) (.t 36)),
.s 38 (.bin .and none (.t 37) (.c (.int .u8 63))),
.s 39 (.cvI .i64 (.t 38)),
.s 40 (.bin .or none (.t 34) (.t 39)),
.s 2 (.m 40)] [0,2,3,4,5])))
(.reg [
.s 26 (.m 5),
.s 27 (.bin .add none (.t 26) (.k 1)),
.s 5 (.m 27)] [0,2,3,4,5])))
(.trim [0,2,3,4,5]))))))
(.seq
(.seq
(.reg [
.s 41 (.m 2),
.s 42 (.m 4),
.s 43 (.bin .lss none (.t 41) (.t 42)),
.s 44 (.m 43),
.g 45 (.m 2) 44 false,
.g 46 (.call 100 [(.t 45)]) 44 false,
.g 47 (.un .not (.t 46)) 44 false,
.s 48 (.pick (.t 44) (.c (.bool true)) (.t 47))] [2,3,48])
(.cnd (.t 48)
(.seq
(.reg [
.s 2 (.mv (.k 0)),
.s 3 (.mv (.k 0))] [2,3])
.ret)
.skip))
(.seq
(.reg [
.s 49 (.m 2),
.s 50 (.m 3),
.s 2 (.m 49),
.s 3 (.m 50)] [2,3])
.ret))))))),
[.tmp 2,.tmp 3]⟩

/-- emend/tree.date -/
def F83 : DF := ⟨1,
(.seq
(.reg [
.s 2 (.mv (.c (.bool false)))] [0])
(.seq
(.seq
(.reg [
.s 3 (.m 0),
.s 4 (.lenS (.t 3)),
.s 5 (.bin .neq (some .int) (.t 4) (.k 10)),
.s 6 (.m 5),
.g 7 (.m 0) 6 false,
.g 8 (.ixS (.t 7) (.k 4)) 6 false,
.g 9 (.bin .neq (some .int) (.t 8) (.c (.int .u8 45))) 6 false,
.s 10 (.pick (.t 6) (.c (.bool true)) (.t 9)),
.s 11 (.m 10),
.g 12 (.m 0) 11 false,
.g 13 (.ixS (.t 12) (.k 7)) 11 false,
.g 14 (.bin .neq (some .int) (.t 13) (.c (.int .u8 45))) 11 false,
.s 15 (.pick (.t 11) (.c (.bool true)) (.t 14)),
.s 16 (.m 15),
.g 17 (.m 0) 16 false,
.g 18 (.slS (.t 17) none (some (.k 2))) 16 false,
.g 19 (.call 103 [(.t 18)]) 16 false,
.g 20 (.bin .lss none (.t 19) (.k 0)) 16 false,
.s 21 (.pick (.t 16) (.c (.bool true)) (.t 20)),
.s 22 (.m 21),
.g 23 (.m 0) 22 false,
.g 24 (.slS (.t 23) (some (.k 2)) (some (.k 4))) 22 false,
.g 25 (.call 103 [(.t 24)]) 22 false,
.g 26 (.bin .lss none (.t 25) (.k 0)) 22 false,
.s 27 (.pick (.t 22) (.c (.bool true)) (.t 26)),
.s 28 (.m 27),
.g 29 (.m 0) 28 false,
.g 30 (.slS (.t 29) (some (.k 5)) (some (.k 7))) 28 false,
.g 31 (.call 104 [(.t 30),(.k 1),(.k 12)]) 28 false,
.g 32 (.un .not (.t 31)) 28 false,
.s 33 (.pick (.t 28) (.c (.bool true)) (.t 32))] [0,33])
(.cnd (.t 33)
(.seq
(.reg [
.s 2 (.mv (.c (.bool false)))] [2])
.ret)
.skip))
(.seq
(.drw [
((.s 34 (.m 0),none),[]),
((.s 35 (.slS (.t 34) (some (.k 8)) none),none),[]),
((.s 36 (.m 0),none),[]),
((.s 37 (.slS (.t 36) none (some (.k 2))),none),[]),
((.s 40 (.m 0),none),[]),
((.s 41 (.slS (.t 40) (some (.k 2)) (some (.k 4))),none),[]),
((.s 44 (.m 0),none),[]),
((.s 45 (.slS (.t 44) (some (.k 5)) (some (.k 7))),none),[]),
((.s 38 (.call 103 [(.t 37)]),none),[]),
((.s 39 (.bin .mul none (.t 38) (.k 100)),none),[]),
((.s 42 (.call 103 [(.t 41)]),none),[]),
((.s 43 (.bin .add none (.t 39) (.t 42)),none),[]),
((.s 46 (.call 103 [(.t 45)]),none),[]),
((.s 47 (.call 105 [(.t 43),(.t 46)]),none),[]),
((.s 48 (.call 104 [(.t 35),(.k 1),(.t 47)]),none),[]),
((.s 2 (.m 48),none),[])] [2])
.ret))),
[.tmp 2]⟩
/-- emend/tree.clock -/
def F84 : DF := ⟨1,
(.seq
(.reg [
.s 2 (.mv (.c (.bool false)))] [0])
(.seq
(.seq
(.reg [
.s 4 (.m 0),
.s 5 (.lenS (.t 4)),
.s 6 (.bin .lss none (.t 5) (.k 8)),
.s 7 (.m 6),
.g 8 (.m 0) 7 false,
.g 9 (.ixS (.t 8) (.k 2)) 7 false,
.g 10 (.bin .neq (some .int) (.t 9) (.c (.int .u8 58))) 7 false,
.s 11 (.pick (.t 7) (.c (.bool true)) (.t 10)),
.s 12 (.m 11),
.g 13 (.m 0) 12 false,
.g 14 (.ixS (.t 13) (.k 5)) 12 false,
.g 15 (.bin .neq (some .int) (.t 14) (.c (.int .u8 58))) 12 false,
.s 16 (.pick (.t 12) (.c (.bool true)) (.t 15)),
.s 17 (.m 16),
.g 18 (.m 0) 17 false,
.g 19 (.slS (.t 18) none (some (.k 2))) 17 false,
.g 20 (.call 104 [(.t 19),(.k 0),(.k 23)]) 17 false,
.g 21 (.un .not (.t 20)) 17 false,
.s 22 (.pick (.t 17) (.c (.bool true)) (.t 21)),
.s 23 (.m 22),
.g 24 (.m 0) 23 false,
.g 25 (.slS (.t 24) (some (.k 3)) (some (.k 5))) 23 false,
.g 26 (.call 104 [(.t 25),(.k 0),(.k 59)]) 23 false,
.g 27 (.un .not (.t 26)) 23 false,
.s 28 (.pick (.t 23) (.c (.bool true)) (.t 27)),
.s 29 (.m 28),
.g 30 (.m 0) 29 false,
.g 31 (.slS (.t 30) (some (.k 6)) (some (.k 8))) 29 false,
.g 32 (.call 104 [(.t 31),(.k 0),(.k 59)]) 29 false,
.g 33 (.un .not (.t 32)) 29 false,
.s 34 (.pick (.t 29) (.c (.bool true)) (.t 33))] [0,34])
(.cnd (.t 34)
(.seq
(.reg [
.s 2 (.mv (.c (.bool false)))] [2])
.ret)
.skip))
(.seq
(.seq
(.reg [
.s 35 (.m 0),
.s 36 (.lenS (.t 35)),
.s 37 (.bin .eql (some .int) (.t 36) (.k 8))] [0,37])
(.cnd (.t 37)
(.seq
(.reg [
.s 2 (.mv (.c (.bool true)))] [2])
.ret)
.skip))
(.seq
(.reg [
.s 38 (.m 0),
.s 39 (.slS (.t 38) (some (.k 9)) none),
.s 3 (.m 39)] [0,3])
(.seq
(.reg [
.s 40 (.m 0),
.s 41 (.ixS (.t 40) (.k 8)),
.s 42 (.bin .eql (some .int) (.t 41) (.c (.int .u8 46))),
.s 43 (.m 42),
.g 44 (.m 3) 43 true,
.g 45 (.lenS (.t 44)) 43 true,
.g 46 (.bin .geq none (.t 45) (.k 1)) 43 true,
.s 47 (.pick (.t 43) (.t 46) (.c (.bool false))),
.s 48 (.m 47),
.g 49 (.m 3) 48 true,
.g 50 (.lenS (.t 49)) 48 true,
.g 51 (.bin .leq none (.t 50) (.k 9)) 48 true,
.s 52 (.pick (.t 48) (.t 51) (.c (.bool false))),
.s 53 (.m 52),
.g 54 (.m 3) 53 true,
.g 55 (.call 106 [(.t 54),(.c (.str [48,49,50,51,52,53,54,55,56,57]))]) 53 true,
.g 56 (.bin .eql (some .str) (.t 55) (.c (.str []))) 53 true,
.s 57 (.pick (.t 53) (.t 56) (.c (.bool false))),
.s 2 (.m 57)] [2])
.ret))))),
[.tmp 2]⟩
/-- emend/tree.zone -/
def F85 : DF := ⟨1,
(.seq
(.reg [
.s 2 (.mv (.c (.str []))),
.s 3 (.mv (.c (.str [])))] [0])
(.seq
(.seq
(.reg [
.s 5 (.m 0),
.s 6 (.call 107 [(.t 5),(.c (.str [90]))])] [0,6])
(.cnd (.t 6)
(.seq
(.reg [
.s 7 (.m 0),
.s 8 (.m 0),
.s 9 (.lenS (.t 8)),
.s 10 (.bin .sub none (.t 9) (.k 1)),
.s 11 (.slS (.t 7) none (some (.t 10))),
.s 2 (.m 11),
.s 3 (.mv (.c (.str [90])))] [2,3])
.ret)
.skip))
(.seq
(.seq
(.reg [
.s 12 (.m 0),
.s 13 (.lenS (.t 12)),
.s 14 (.bin .lss none (.t 13) (.k 6)),
.s 15 (.m 14),
.g 16 (.m 0) 15 false,
.g 17 (.m 0) 15 false,
.g 18 (.lenS (.t 17)) 15 false,
.g 19 (.bin .sub none (.t 18) (.k 6)) 15 false,
.g 20 (.ixS (.t 16) (.t 19)) 15 false,
.g 21 (.bin .neq (some .int) (.t 20) (.c (.int .u8 43))) 15 false,
.g 22 (.m 21) 15 false,
.g 23 (.m 0) 22 true,
.g 24 (.m 0) 22 true,
.g 25 (.lenS (.t 24)) 22 true,
.g 26 (.bin .sub none (.t 25) (.k 6)) 22 true,
.g 27 (.ixS (.t 23) (.t 26)) 22 true,
.g 28 (.bin .neq (some .int) (.t 27) (.c (.int .u8 45))) 22 true,
.g 29 (.pick (.t 22) (.t 28) (.c (.bool false))) 15 false,
.s 30 (.pick (.t 15) (.c (.bool true)) (.t 29))] [0,30])
(.cnd (.t 30)
(.seq
(.reg [
.s 31 (.m 0),
.s 2 (.m 31),
.s 3 (.mv (.c (.str [])))] [2,3])
.ret)
.skip))
(.seq
(.reg [
.s 32 (.m 0),
.s 33 (.m 0),
.s 34 (.lenS (.t 33)),
.s 35 (.bin .sub none (.t 34) (.k 6)),
.s 36 (.slS (.t 32) (some (.t 35)) none),
.s 4 (.m 36)] [0,4])
(.seq
(.seq
(.reg [
.s 37 (.m 4),
.s 38 (.ixS (.t 37) (.k 3)),
.s 39 (.bin .neq (some .int) (.t 38) (.c (.int .u8 58))),
.s 40 (.m 39),
.g 41 (.m 4) 40 false,
.g 42 (.slS (.t 41) (some (.k 1)) (some (.k 3))) 40 false,
.g 43 (.call 104 [(.t 42),(.k 0),(.k 23)]) 40 false,
.g 44 (.un .not (.t 43)) 40 false,
.s 45 (.pick (.t 40) (.c (.bool true)) (.t 44)),
.s 46 (.m 45),
.g 47 (.m 4) 46 false,
.g 48 (.slS (.t 47) (some (.k 4)) none) 46 false,
.g 49 (.call 104 [(.t 48),(.k 0),(.k 59)]) 46 false,
.g 50 (.un .not (.t 49)) 46 false,
.s 51 (.pick (.t 46) (.c (.bool true)) (.t 50))] [0,4,51])
(.cnd (.t 51)
(.seq
(.reg [
.s 52 (.m 0),
.s 2 (.m 52),
.s 3 (.mv (.c (.str [])))] [2,3])
.ret)
.skip))
(.seq
(.reg [
.s 53 (.m 0),
.s 54 (.m 0),
.s 55 (.lenS (.t 54)),
.s 56 (.bin .sub none (.t 55) (.k 6)),
.s 57 (.slS (.t 53) none (some (.t 56))),
.s 58 (.m 4),
.s 2 (.m 57),
.s 3 (.m 58)] [2,3])
.ret)))))),
[.tmp 2,.tmp 3]⟩
/-- strings.Cut -/
def F86 : DF := ⟨2,
(.seq
(.reg [
.s 4 (.mv (.c (.str []))),
.s 5 (.mv (.c (.str []))),
.s 6 (.mv (.c (.bool false)))] [0,1])
(.seq
(.reg [
.s 7 (.m 0),
.s 8 (.m 1),
.s 9 (.call 108 [(.t 7),(.t 8)]),
.s 10 (.ext (.t 9) 0),
.s 11 (.ext (.t 9) 1),
.s 12 (.ext (.t 9) 2),
.s 4 (.m 10),
.s 5 (.m 11),
.s 6 (.m 12)] [4,5,6])
.ret)),
[.tmp 4,.tmp 5,.tmp 6]⟩
/-- emend/num.Split -/
def F87 : DF := ⟨1,
(.seq
(.reg [
.s 2 (.alL [(.bool false),(.str []),(.int .i64 0)]),
.s 3 (.mv (.k 0))] [0,2])
(.seq
(.reg [
.s 13 (.m 0),
.s 14 (.call 109 [(.t 13)]),
.s 12 (.m 14),
.s 15 (.ext (.t 12) 0),
.s 16 (.ext (.t 12) 1),
.s 17 (.ext (.t 12) 2),
.s 18 (.ext (.t 12) 3),
.s 19 (.ext (.t 12) 4),
.s 4 (.m 15),
.s 5 (.m 16),
.s 6 (.m 17),
.s 7 (.m 18),
.s 8 (.m 19)] [0,2,4,5,6,7,8])
(.seq
(.seq
(.reg [
.s 20 (.m 8),
.s 21 (.un .not (.t 20))] [0,2,4,5,6,7,21])
(.cnd (.t 21)
(.seq
(.reg [
.s 22 (.bld [(.bool false),(.str []),(.int .i64 0)] []),
.n (.st 3 (.t 2) (.t 22)),
.s 3 (.mv (.k 12))] [2,3])
.ret)
.skip))
(.seq
(.seq
(.reg [
.s 23 (.m 0),
.s 24 (.lenS (.t 23)),
.s 25 (.bin .gtr none (.t 24) (.k 1000))] [2,4,5,6,7,25])
(.cnd (.t 25)
(.seq
(.reg [
.s 26 (.bld [(.bool false),(.str []),(.int .i64 0)] []),
.n (.st 3 (.t 2) (.t 26)),
.s 3 (.mv (.k 2))] [2,3])
.ret)
.skip))
(.seq
(.reg [
.s 28 (.m 7),
.s 29 (.call 110 [(.t 28)]),
.s 27 (.m 29),
.s 30 (.ext (.t 27) 0),
.s 31 (.ext (.t 27) 1),
.s 9 (.m 30),
.s 8 (.m 31)] [2,4,5,6,8,9])
(.seq
(.seq
(.reg [
.s 32 (.m 8),
.s 33 (.un .not (.t 32))] [2,4,5,6,9,33])
(.cnd (.t 33)
(.seq
(.reg [
.s 34 (.bld [(.bool false),(.str []),(.int .i64 0)] []),
.n (.st 3 (.t 2) (.t 34)),
.s 3 (.mv (.k 5))] [2,3])
.ret)
.skip))
(.seq
(.reg [
.s 35 (.m 5),
.s 36 (.m 6),
.s 37 (.bin .add none (.t 35) (.t 36)),
.s 38 (.call 111 [(.t 37),(.c (.str [48]))]),
.s 10 (.m 38)] [2,4,6,9,10])
(.seq
(.reg [
.s 39 (.m 9),
.s 40 (.m 6),
.s 41 (.lenS (.t 40)),
.s 42 (.bin .sub none (.t 39) (.t 41)),
.s 9 (.m 42)] [2,4,9,10])
(.seq
(.reg [
.s 43 (.m 10),
.s 44 (.call 112 [(.t 43),(.c (.str [48]))]),
.s 11 (.m 44)] [2,4,9,10,11])
(.seq
(.reg [
.s 45 (.m 9),
.s 46 (.m 10),
.s 47 (.lenS (.t 46)),
.s 48 (.m 11),
.s 49 (.lenS (.t 48)),
.s 50 (.bin .sub none (.t 47) (.t 49)),
.s 51 (.bin .add none (.t 45) (.t 50)),
.s 9 (.m 51)] [2,4,9,11])
(.seq
(.seq
(.reg [
.s 52 (.m 11),
.s 53 (.bin .eql (some .str) (.t 52) (.c (.str [])))] [2,4,9,11,53])
(.cnd (.t 53)
(.seq
(.reg [
.s 54 (.bld [(.bool false),(.str []),(.int .i64 0)] []),
.n (.st 3 (.t 2) (.t 54)),
.s 3 (.mv (.k 0))] [2,3])
.ret)
.skip))
(.seq
(.reg [
.s 55 (.m 4),
.s 56 (.m 11),
.s 57 (.m 9),
.s 58 (.bld [(.bool false),(.str []),(.int .i64 0)] [(0,1,(.t 55)),(1,1,(.t 56)),(2,1,(.t 57))]),
.n (.st 3 (.t 2) (.t 58)),
.s 3 (.mv (.k 0))] [2,3])
.ret)))))))))))),
[.cell 2 true 3,.tmp 3]⟩
/-- emend/num.Join -/
def F88 : DF := ⟨1,
(.seq
(.reg [
.s 1 (.bxL (.t 0)),
.s 2 (.mv (.c (.str []))),
.s 3 (.mv (.k 0))] [1])
(.seq
(.reg [
.s 6 (.fa 1 (.t 1)),
.s 7 (.l 6),
.s 8 (.lenS (.t 7)),
.s 4 (.m 8)] [1,4])
(.seq
(.blk 0
(.seq
(.seq
(.reg [
.s 10 (.fa 1 (.t 1)),
.s 11 (.l 10),
.s 12 (.call 113 [(.t 11)]),
.s 13 (.m 4),
.s 14 (.bin .lss none (.t 12) (.t 13)),
.s 9 (.m 14)] [1,4,9])
(.cnd (.t 9)
.skip
(.seq
(.reg [
.s 15 (.m 4),
.s 16 (.bin .gtr none (.t 15) (.k 0)),
.s 17 (.m 16),
.g 18 (.fa 1 (.t 1)) 17 true,
.g 19 (.l 18) 17 true,
.g 20 (.ixS (.t 19) (.k 0)) 17 true,
.g 21 (.bin .eql (some .int) (.t 20) (.c (.int .u8 48))) 17 true,
.g 22 (.m 21) 17 true,
.g 23 (.fa 1 (.t 1)) 22 false,
.g 24 (.l 23) 22 false,
.g 25 (.m 4) 22 false,
.g 26 (.bin .sub none (.t 25) (.k 1)) 22 false,
.g 27 (.ixS (.t 24) (.t 26)) 22 false,
.g 28 (.bin .eql (some .int) (.t 27) (.c (.int .u8 48))) 22 false,
.g 29 (.pick (.t 22) (.c (.bool true)) (.t 28)) 17 true,
.s 30 (.pick (.t 17) (.t 29) (.c (.bool false))),
.s 9 (.m 30)] [1,4,9])
(.cnd (.t 9)
.skip
(.reg [
.s 31 (.m 4),
.s 32 (.bin .eql (some .int) (.t 31) (.k 0)),
.s 33 (.m 32),
.g 34 (.fa 2 (.t 1)) 33 true,
.g 35 (.l 34) 33 true,
.g 36 (.bin .neq (some .int) (.t 35) (.k 0)) 33 true,
.g 37 (.m 36) 33 true,
.g 38 (.fa 0 (.t 1)) 37 false,
.g 39 (.l 38) 37 false,
.g 40 (.pick (.t 37) (.c (.bool true)) (.t 39)) 33 true,
.s 41 (.pick (.t 33) (.t 40) (.c (.bool false))),
.s 9 (.m 41)] [1,4,9])))))
(.cnd (.t 9)
(.seq
(.reg [
.s 2 (.mv (.c (.str []))),
.s 3 (.mv (.k 1))] [2,3])
.ret)
(.seq
(.reg [
.s 43 (.fa 2 (.t 1)),
.s 44 (.l 43),
.s 45 (.bin .lss none (.t 44) (.k (-999999))),
.s 46 (.m 45),
.g 47 (.fa 2 (.t 1)) 46 false,
.g 48 (.l 47) 46 false,
.g 49 (.bin .gtr none (.t 48) (.k 999999)) 46 false,
.s 50 (.pick (.t 46) (.c (.bool true)) (.t 49)),
.s 42 (.m 50)] [1,4,42])
(.cnd (.t 42)
(.seq
(.reg [
.s 2 (.mv (.c (.str []))),
.s 3 (.mv (.k 5))] [2,3])
.ret)
(.seq
(.reg [
.s 52 (.m 4),
.s 53 (.bin .eql (some .int) (.t 52) (.k 0)),
.s 51 (.m 53)] [1,51])
(.cnd (.t 51)
(.seq
(.reg [
.s 2 (.mv (.c (.str [48]))),
.s 3 (.mv (.k 0))] [2,3])
.ret)
.skip)))))))
(.seq
(.reg [
.s 54 (.fa 1 (.t 1)),
.s 55 (.l 54),
.s 5 (.m 55)] [1,5])
(.seq
(.seq
(.reg [
.s 56 (.fa 0 (.t 1)),
.s 57 (.l 56)] [1,5,57])
(.cnd (.t 57)
(.reg [
.s 58 (.m 5),
.s 59 (.bin .add none (.c (.str [45])) (.t 58)),
.s 5 (.m 59)] [1,5])
.skip))
(.seq
(.seq
(.reg [
.s 60 (.fa 2 (.t 1)),
.s 61 (.l 60),
.s 62 (.bin .neq (some .int) (.t 61) (.k 0))] [1,5,62])
(.cnd (.t 62)
(.reg [
.s 63 (.m 5),
.s 64 (.fa 2 (.t 1)),
.s 65 (.l 64),
.s 66 (.call 114 [(.t 65)]),
.s 67 (.bin .add none (.c (.str [101])) (.t 66)),
.s 68 (.bin .add none (.t 63) (.t 67)),
.s 5 (.m 68)] [5])
.skip))
(.seq
(.seq
(.reg [
.s 69 (.m 5),
.s 70 (.lenS (.t 69)),
.s 71 (.bin .gtr none (.t 70) (.k 1000))] [5,71])
(.cnd (.t 71)
(.seq
(.reg [
.s 2 (.mv (.c (.str []))),
.s 3 (.mv (.k 2))] [2,3])
.ret)
.skip))
(.seq
(.reg [
.s 72 (.m 5),
.s 2 (.m 72),
.s 3 (.mv (.k 0))] [2,3])
.ret)))))))),
[.tmp 2,.tmp 3]⟩
/-- slices.SortStableFunc[[]int,int] -/
def F89 : DF := ⟨2,
(.reg [
.s 4 (.m 0),
.s 5 (.m 0),
.s 6 (.len (.t 5)),
.s 7 (.m 1),
.s 8 (.call 115 [(.t 4),(.t 6),(.t 7)])] []),
[]⟩
/-- emend/tree.order$1 -/
def F90 : DF := ⟨3,
(.seq
(.reg [
.s 5 (.mv (.k 0))] [0,1,2])
(.seq
(.drw [
((.s 6 (.l 2),none),[]),
((.s 7 (.m 0),none),[]),
((.s 8 (.ia 1 (.t 6) (.t 7)),none),[]),
((.s 9 (.l 8),none),[]),
((.s 10 (.l 2),none),[]),
((.s 11 (.m 1),none),[]),
((.s 12 (.ia 1 (.t 10) (.t 11)),none),[]),
((.s 13 (.l 12),none),[]),
((.s 14 (.call 91 [(.t 9),(.t 13)]),none),[]),
((.s 5 (.m 14),none),[])] [5])
.ret)),
[.tmp 5]⟩
/-- strings.Compare -/
def F91 : DF := ⟨2,
(.seq
(.reg [
.s 4 (.mv (.k 0))] [0,1])
(.seq
(.reg [
.s 5 (.m 0),
.s 6 (.m 1),
.s 7 (.call 116 [(.t 5),(.t 6)]),
.s 4 (.m 7)] [4])
.ret)),
[.tmp 4]⟩
/-- emend/emendref2.Split -/
def F92 : DF := ⟨1,
(.seq
(.reg [
.s 2 (.alL [(.bool false),(.str []),(.int .i64 0)]),
.s 3 (.mv (.k 0))] [0,2])
(.seq
(.reg [
.s 4 (.mv (.k 0))] [0,2,4])
(.seq
(.seq
(.reg [
.s 15 (.m 4),
.s 16 (.m 0),
.s 17 (.lenS (.t 16)),
.s 18 (.bin .lss none (.t 15) (.t 17)),
.s 19 (.m 18),
.g 20 (.m 0) 19 true,
.g 21 (.m 4) 19 true,
.g 22 (.ixS (.t 20) (.t 21)) 19 true,
.g 23 (.bin .eql (some .int) (.t 22) (.c (.int .u8 45))) 19 true,
.s 24 (.pick (.t 19) (.t 23) (.c (.bool false)))] [0,2,4,24])
(.cnd (.t 24)
(.reg [
.s 25 (.m 4),
.s 26 (.bin .add none (.t 25) (.k 1)),
.s 4 (.m 26)] [0,2,4])
.skip))
(.seq
(.reg [
.s 27 (.m 0),
.s 28 (.m 4),
.s 29 (.call 117 [(.t 27),(.t 28)]),
.s 5 (.m 29)] [0,2,4,5])
(.seq
(.seq
(.reg [
.s 30 (.m 5),
.s 31 (.m 4),
.s 32 (.bin .eql (some .int) (.t 30) (.t 31)),
.s 33 (.m 32),
.g 34 (.m 0) 33 false,
.g 35 (.m 4) 33 false,
.g 36 (.ixS (.t 34) (.t 35)) 33 false,
.g 37 (.bin .eql (some .int) (.t 36) (.c (.int .u8 48))) 33 false,
.g 38 (.m 37) 33 false,
.g 39 (.m 5) 38 true,
.g 40 (.m 4) 38 true,
.g 41 (.bin .add none (.t 40) (.k 1)) 38 true,
.g 42 (.bin .gtr none (.t 39) (.t 41)) 38 true,
.g 43 (.pick (.t 38) (.t 42) (.c (.bool false))) 33 false,
.s 44 (.pick (.t 33) (.c (.bool true)) (.t 43))] [0,2,4,5,44])
(.cnd (.t 44)
(.seq
(.reg [
.s 45 (.bld [(.bool false),(.str []),(.int .i64 0)] []),
.n (.st 3 (.t 2) (.t 45)),
.s 3 (.mv (.k 12))] [2,3])
.ret)
.skip))
(.seq
(.reg [
.s 46 (.m 0),
.s 47 (.m 4),
.s 48 (.m 5),
.s 49 (.slS (.t 46) (some (.t 47)) (some (.t 48))),
.s 6 (.m 49)] [0,2,5,6])
(.seq
(.reg [
.s 7 (.mv (.c (.str [])))] [0,2,5,6,7])
(.seq
(.seq
(.reg [
.s 50 (.m 5),
.s 51 (.m 0),
.s 52 (.lenS (.t 51)),
.s 53 (.bin .lss none (.t 50) (.t 52)),
.s 54 (.m 53),
.g 55 (.m 0) 54 true,
.g 56 (.m 5) 54 true,
.g 57 (.ixS (.t 55) (.t 56)) 54 true,
.g 58 (.bin .eql (some .int) (.t 57) (.c (.int .u8 46))) 54 true,
.s 59 (.pick (.t 54) (.t 58) (.c (.bool false)))] [0,2,5,6,7,59])
(.cnd (.t 59)
(.seq
(.reg [
.s 60 (.m 0),
.s 61 (.m 5),
.s 62 (.bin .add none (.t 61) (.k 1)),
.s 63 (.call 117 [(.t 60),(.t 62)]),
.s 8 (.m 63)] [0,2,5,6,8])
(.seq
(.seq
(.reg [
.s 64 (.m 8),
.s 65 (.m 5),
.s 66 (.bin .add none (.t 65) (.k 1)),
.s 67 (.bin .eql (some .int) (.t 64) (.t 66))] [0,2,5,6,8,67])
(.cnd (.t 67)
(.seq
(.reg [
.s 68 (.bld [(.bool false),(.str []),(.int .i64 0)] []),
.n (.st 3 (.t 2) (.t 68)),
.s 3 (.mv (.k 12))] [2,3])
.ret)
.skip))
(.seq
(.reg [
.s 69 (.m 0),
.s 70 (.m 5),
.s 71 (.bin .add none (.t 70) (.k 1)),
.s 72 (.m 8),
.s 73 (.slS (.t 69) (some (.t 71)) (some (.t 72))),
.s 7 (.m 73)] [0,2,6,7,8])
(.reg [
.s 74 (.m 8),
.s 5 (.m 74)] [0,2,5,6,7]))))
.skip))
(.seq
(.reg [
.s 9 (.mv (.c (.str [])))] [0,2,5,6,7,9])
(.seq
(.reg [
.s 10 (.mv (.c (.bool false)))] [0,2,5,6,7,9,10])
(.seq
(.seq
(.reg [
.s 75 (.m 5),
.s 76 (.m 0),
.s 77 (.lenS (.t 76)),
.s 78 (.bin .lss none (.t 75) (.t 77)),
.s 79 (.m 78),
.g 80 (.m 0) 79 true,
.g 81 (.m 5) 79 true,
.g 82 (.ixS (.t 80) (.t 81)) 79 true,
.g 83 (.bin .eql (some .int) (.t 82) (.c (.int .u8 101))) 79 true,
.g 84 (.m 83) 79 true,
.g 85 (.m 0) 84 false,
.g 86 (.m 5) 84 false,
.g 87 (.ixS (.t 85) (.t 86)) 84 false,
.g 88 (.bin .eql (some .int) (.t 87) (.c (.int .u8 69))) 84 false,
.g 89 (.pick (.t 84) (.c (.bool true)) (.t 88)) 79 true,
.s 90 (.pick (.t 79) (.t 89) (.c (.bool false)))] [0,2,5,6,7,9,10,90])
(.cnd (.t 90)
(.seq
(.reg [
.s 91 (.m 5),
.s 92 (.bin .add none (.t 91) (.k 1)),
.s 5 (.m 92)] [0,2,5,6,7,10])
(.seq
(.seq
(.reg [
.s 93 (.m 5),
.s 94 (.m 0),
.s 95 (.lenS (.t 94)),
.s 96 (.bin .lss none (.t 93) (.t 95)),
.s 97 (.m 96),
.g 98 (.m 0) 97 true,
.g 99 (.m 5) 97 true,
.g 100 (.ixS (.t 98) (.t 99)) 97 true,
.g 101 (.bin .eql (some .int) (.t 100) (.c (.int .u8 43))) 97 true,
.g 102 (.m 101) 97 true,
.g 103 (.m 0) 102 false,
.g 104 (.m 5) 102 false,
.g 105 (.ixS (.t 103) (.t 104)) 102 false,
.g 106 (.bin .eql (some .int) (.t 105) (.c (.int .u8 45))) 102 false,
.g 107 (.pick (.t 102) (.c (.bool true)) (.t 106)) 97 true,
.s 108 (.pick (.t 97) (.t 107) (.c (.bool false)))] [0,2,5,6,7,10,108])
(.cnd (.t 108)
(.seq
(.reg [
.s 109 (.m 0),
.s 110 (.m 5),
.s 111 (.ixS (.t 109) (.t 110)),
.s 112 (.bin .eql (some .int) (.t 111) (.c (.int .u8 45))),
.s 10 (.m 112)] [0,2,5,6,7,10])
(.reg [
.s 113 (.m 5),
.s 114 (.bin .add none (.t 113) (.k 1)),
.s 5 (.m 114)] [0,2,5,6,7,10]))
.skip))
(.seq
(.reg [
.s 115 (.m 0),
.s 116 (.m 5),
.s 117 (.call 117 [(.t 115),(.t 116)]),
.s 11 (.m 117)] [0,2,5,6,7,10,11])
(.seq
(.seq
(.reg [
.s 118 (.m 11),
.s 119 (.m 5),
.s 120 (.bin .eql (some .int) (.t 118) (.t 119))] [0,2,5,6,7,10,11,120])
(.cnd (.t 120)
(.seq
(.reg [
.s 121 (.bld [(.bool false),(.str []),(.int .i64 0)] []),
.n (.st 3 (.t 2) (.t 121)),
.s 3 (.mv (.k 12))] [2,3])
.ret)
.skip))
(.seq
(.reg [
.s 122 (.m 0),
.s 123 (.m 5),
.s 124 (.m 11),
.s 125 (.slS (.t 122) (some (.t 123)) (some (.t 124))),
.s 9 (.m 125)] [0,2,6,7,9,10,11])
(.reg [
.s 126 (.m 11),
.s 5 (.m 126)] [0,2,5,6,7,9,10]))))))
.skip))
(.seq
(.seq
(.reg [
.s 127 (.m 5),
.s 128 (.m 0),
.s 129 (.lenS (.t 128)),
.s 130 (.bin .neq (some .int) (.t 127) (.t 129))] [0,2,6,7,9,10,130])
(.cnd (.t 130)
(.seq
(.reg [
.s 131 (.bld [(.bool false),(.str []),(.int .i64 0)] []),
.n (.st 3 (.t 2) (.t 131)),
.s 3 (.mv (.k 12))] [2,3])
.ret)
.skip))
(.seq
(.seq
(.reg [
.s 132 (.m 0),
.s 133 (.lenS (.t 132)),
.s 134 (.bin .gtr none (.t 133) (.k 1000))] [0,2,6,7,9,10,134])
(.cnd (.t 134)
(.seq
(.reg [
.s 135 (.bld [(.bool false),(.str []),(.int .i64 0)] []),
.n (.st 3 (.t 2) (.t 135)),
.s 3 (.mv (.k 2))] [2,3])
.ret)
.skip))
(.seq
(.blk 0
(.seq
(.trim [0,2,6,7,9,10])
(.lop
(.seq
(.seq
(.seq
(.reg [
.s 136 (.m 9),
.s 137 (.lenS (.t 136)),
.s 138 (.bin .gtr none (.t 137) (.k 0)),
.s 139 (.m 138),
.g 140 (.m 9) 139 true,
.g 141 (.ixS (.t 140) (.k 0)) 139 true,
.g 142 (.bin .eql (some .int) (.t 141) (.c (.int .u8 48))) 139 true,
.s 143 (.pick (.t 139) (.t 142) (.c (.bool false)))] [0,2,6,7,9,10,143])
(.cnd (.t 143)
.skip
(.exit 0)))
(.blk 1
(.reg [
.s 144 (.m 9),
.s 145 (.slS (.t 144) (some (.k 1)) none),
.s 9 (.m 145)] [0,2,6,7,9,10])))
(.trim [0,2,6,7,9,10])))))
(.seq
(.seq
(.reg [
.s 146 (.m 9),
.s 147 (.lenS (.t 146)),
.s 148 (.bin .gtr none (.t 147) (.k 6))] [0,2,6,7,9,10,148])
(.cnd (.t 148)
(.seq
(.reg [
.s 149 (.bld [(.bool false),(.str []),(.int .i64 0)] []),
.n (.st 3 (.t 2) (.t 149)),
.s 3 (.mv (.k 5))] [2,3])
.ret)
.skip))
(.seq
(.reg [
.s 12 (.mv (.k 0))] [0,2,6,7,9,10,12])
(.seq
(.seq
(.reg [
.s 13 (.mv (.k 0))] [0,2,6,7,9,10,12,13])
(.blk 2
(.seq
(.trim [0,2,6,7,9,10,12,13])
(.lop
(.seq
(.seq
(.seq
(.reg [
.s 150 (.m 13),
.s 151 (.m 9),
.s 152 (.lenS (.t 151)),
.s 153 (.bin .lss none (.t 150) (.t 152))] [0,2,6,7,9,10,12,13,153])
(.cnd (.t 153)
.skip
(.exit 2)))
(.seq
(.blk 3
(.reg [
.s 156 (.m 12),
.s 157 (.bin .mul none (.t 156) (.k 10)),
.s 158 (.m 9),
.s 159 (.m 13),
.s 160 (.ixS (.t 158) (.t 159)),
.s 161 (.bin .sub none (.t 160) (.c (.int .u8 48))),
.s 162 (.cvI .i64 (.t 161)),
.s 163 (.bin .add none (.t 157) (.t 162)),
.s 12 (.m 163)] [0,2,6,7,9,10,12,13]))
(.reg [
.s 154 (.m 13),
.s 155 (.bin .add none (.t 154) (.k 1)),
.s 13 (.m 155)] [0,2,6,7,9,10,12,13])))
(.trim [0,2,6,7,9,10,12,13]))))))
(.seq
(.seq
(.reg [
.s 164 (.m 10)] [0,2,6,7,12,164])
(.cnd (.t 164)
(.reg [
.s 165 (.m 12),
.s 166 (.un .neg (.t 165)),
.s 12 (.m 166)] [0,2,6,7,12])
.skip))
(.seq
(.reg [
.s 167 (.m 12),
.s 168 (.m 7),
.s 169 (.lenS (.t 168)),
.s 170 (.bin .sub none (.t 167) (.t 169)),
.s 12 (.m 170)] [0,2,6,7,12])
(.seq
(.reg [
.s 171 (.m 6),
.s 172 (.m 7),
.s 173 (.bin .add none (.t 171) (.t 172)),
.s 14 (.m 173)] [0,2,12,14])
(.seq
(.blk 4
(.seq
(.trim [0,2,12,14])
(.lop
(.seq
(.seq
(.seq
(.reg [
.s 174 (.m 14),
.s 175 (.lenS (.t 174)),
.s 176 (.bin .gtr none (.t 175) (.k 0)),
.s 177 (.m 176),
.g 178 (.m 14) 177 true,
.g 179 (.m 14) 177 true,
.g 180 (.lenS (.t 179)) 177 true,
.g 181 (.bin .sub none (.t 180) (.k 1)) 177 true,
.g 182 (.ixS (.t 178) (.t 181)) 177 true,
.g 183 (.bin .eql (some .int) (.t 182) (.c (.int .u8 48))) 177 true,
.s 184 (.pick (.t 177) (.t 183) (.c (.bool false)))] [0,2,12,14,184])
(.cnd (.t 184)
.skip
(.exit 4)))
(.blk 5
(.seq
(.reg [
.s 185 (.m 14),
.s 186 (.m 14),
.s 187 (.lenS (.t 186)),
.s 188 (.bin .sub none (.t 187) (.k 1)),
.s 189 (.slS (.t 185) none (some (.t 188))),
.s 14 (.m 189)] [0,2,12,14])
(.reg [
.s 190 (.m 12),
.s 191 (.bin .add none (.t 190) (.k 1)),
.s 12 (.m 191)] [0,2,12,14]))))
(.trim [0,2,12,14])))))
(.seq
(.blk 6
(.seq
(.trim [0,2,12,14])
(.lop
(.seq
(.seq
(.seq
(.reg [
.s 192 (.m 14),
.s 193 (.lenS (.t 192)),
.s 194 (.bin .gtr none (.t 193) (.k 0)),
.s 195 (.m 194),
.g 196 (.m 14) 195 true,
.g 197 (.ixS (.t 196) (.k 0)) 195 true,
.g 198 (.bin .eql (some .int) (.t 197) (.c (.int .u8 48))) 195 true,
.s 199 (.pick (.t 195) (.t 198) (.c (.bool false)))] [0,2,12,14,199])
(.cnd (.t 199)
.skip
(.exit 6)))
(.blk 7
(.reg [
.s 200 (.m 14),
.s 201 (.slS (.t 200) (some (.k 1)) none),
.s 14 (.m 201)] [0,2,12,14])))
(.trim [0,2,12,14])))))
(.seq
(.seq
(.reg [
.s 202 (.m 14),
.s 203 (.bin .eql (some .str) (.t 202) (.c (.str [])))] [0,2,12,14,203])
(.cnd (.t 203)
(.seq
(.reg [
.s 204 (.bld [(.bool false),(.str []),(.int .i64 0)] []),
.n (.st 3 (.t 2) (.t 204)),
.s 3 (.mv (.k 0))] [2,3])
.ret)
.skip))
(.seq
(.reg [
.s 205 (.m 0),
.s 206 (.ixS (.t 205) (.k 0)),
.s 207 (.bin .eql (some .int) (.t 206) (.c (.int .u8 45))),
.s 208 (.m 14),
.s 209 (.m 12),
.s 210 (.bld [(.bool false),(.str []),(.int .i64 0)] [(0,1,(.t 207)),(1,1,(.t 208)),(2,1,(.t 209))]),
.n (.st 3 (.t 2) (.t 210)),
.s 3 (.mv (.k 0))] [2,3])
.ret)))))))))))))))))))))))),
[.cell 2 true 3,.tmp 3]⟩
/-- emend/emendref2.Join -/
def F93 : DF := ⟨1,
(.seq
(.reg [
.s 1 (.bxL (.t 0)),
.s 2 (.mv (.c (.str []))),
.s 3 (.mv (.k 0))] [1])
(.seq
(.reg [
.s 7 (.fa 1 (.t 1)),
.s 8 (.l 7),
.s 9 (.lenS (.t 8)),
.s 4 (.m 9)] [1,4])
(.seq
(.seq
(.reg [
.s 5 (.mv (.k 0))] [1,4,5])
(.blk 0
(.seq
(.trim [1,4,5])
(.lop
(.seq
(.seq
(.seq
(.reg [
.s 10 (.m 5),
.s 11 (.m 4),
.s 12 (.bin .lss none (.t 10) (.t 11))] [1,4,5,12])
(.cnd (.t 12)
.skip
(.exit 0)))
(.seq
(.blk 1
(.seq
(.reg [
.s 15 (.fa 1 (.t 1)),
.s 16 (.l 15),
.s 17 (.m 5),
.s 18 (.ixS (.t 16) (.t 17)),
.s 19 (.call 118 [(.t 18)]),
.s 20 (.un .not (.t 19))] [1,4,5,20])
(.cnd (.t 20)
(.seq
(.reg [
.s 2 (.mv (.c (.str []))),
.s 3 (.mv (.k 1))] [2,3])
.ret)
.skip)))
(.reg [
.s 13 (.m 5),
.s 14 (.bin .add none (.t 13) (.k 1)),
.s 5 (.m 14)] [1,4,5])))
(.trim [1,4,5]))))))
(.seq
(.seq
(.reg [
.s 21 (.m 4),
.s 22 (.bin .eql (some .int) (.t 21) (.k 0)),
.s 23 (.m 22),
.g 24 (.fa 2 (.t 1)) 23 true,
.g 25 (.l 24) 23 true,
.g 26 (.bin .neq (some .int) (.t 25) (.k 0)) 23 true,
.g 27 (.m 26) 23 true,
.g 28 (.fa 0 (.t 1)) 27 false,
.g 29 (.l 28) 27 false,
.g 30 (.pick (.t 27) (.c (.bool true)) (.t 29)) 23 true,
.s 31 (.pick (.t 23) (.t 30) (.c (.bool false))),
.s 32 (.m 31),
.g 33 (.m 4) 32 false,
.g 34 (.bin .gtr none (.t 33) (.k 0)) 32 false,
.g 35 (.m 34) 32 false,
.g 36 (.fa 1 (.t 1)) 35 true,
.g 37 (.l 36) 35 true,
.g 38 (.ixS (.t 37) (.k 0)) 35 true,
.g 39 (.bin .eql (some .int) (.t 38) (.c (.int .u8 48))) 35 true,
.g 40 (.m 39) 35 true,
.g 41 (.fa 1 (.t 1)) 40 false,
.g 42 (.l 41) 40 false,
.g 43 (.m 4) 40 false,
.g 44 (.bin .sub none (.t 43) (.k 1)) 40 false,
.g 45 (.ixS (.t 42) (.t 44)) 40 false,
.g 46 (.bin .eql (some .int) (.t 45) (.c (.int .u8 48))) 40 false,
.g 47 (.pick (.t 40) (.c (.bool true)) (.t 46)) 35 true,
.g 48 (.pick (.t 35) (.t 47) (.c (.bool false))) 32 false,
.s 49 (.pick (.t 32) (.c (.bool true)) (.t 48))] [1,4,49])
(.cnd (.t 49)
(.seq
(.reg [
.s 2 (.mv (.c (.str []))),
.s 3 (.mv (.k 1))] [2,3])
.ret)
.skip))
(.seq
(.seq
(.reg [
.s 50 (.fa 2 (.t 1)),
.s 51 (.l 50),
.s 52 (.bin .gtr none (.t 51) (.k 999999)),
.s 53 (.m 52),
.g 54 (.fa 2 (.t 1)) 53 false,
.g 55 (.l 54) 53 false,
.g 56 (.bin .lss none (.t 55) (.k (-999999))) 53 false,
.s 57 (.pick (.t 53) (.c (.bool true)) (.t 56))] [1,4,57])
(.cnd (.t 57)
(.seq
(.reg [
.s 2 (.mv (.c (.str []))),
.s 3 (.mv (.k 5))] [2,3])
.ret)
.skip))
(.seq
(.seq
(.reg [
.s 58 (.m 4),
.s 59 (.bin .eql (some .int) (.t 58) (.k 0))] [1,59])
(.cnd (.t 59)
(.seq
(.reg [
.s 2 (.mv (.c (.str [48]))),
.s 3 (.mv (.k 0))] [2,3])
.ret)
.skip))
(.seq
(.reg [
.s 60 (.fa 1 (.t 1)),
.s 61 (.l 60),
.s 6 (.m 61)] [1,6])
(.seq
(.seq
(.reg [
.s 62 (.fa 0 (.t 1)),
.s 63 (.l 62)] [1,6,63])
(.cnd (.t 63)
(.reg [
.s 64 (.m 6),
.s 65 (.bin .add none (.c (.str [45])) (.t 64)),
.s 6 (.m 65)] [1,6])
.skip))
(.seq
(.seq
(.reg [
.s 66 (.fa 2 (.t 1)),
.s 67 (.l 66),
.s 68 (.bin .neq (some .int) (.t 67) (.k 0))] [1,6,68])
(.cnd (.t 68)
(.reg [
.s 69 (.m 6),
.s 70 (.bin .add none (.t 69) (.c (.str [101]))),
.s 71 (.fa 2 (.t 1)),
.s 72 (.l 71),
.s 73 (.call 119 [(.t 72)]),
.s 74 (.bin .add none (.t 70) (.t 73)),
.s 6 (.m 74)] [6])
.skip))
(.seq
(.seq
(.reg [
.s 75 (.m 6),
.s 76 (.lenS (.t 75)),
.s 77 (.bin .gtr none (.t 76) (.k 1000))] [6,77])
(.cnd (.t 77)
(.seq
(.reg [
.s 2 (.mv (.c (.str []))),
.s 3 (.mv (.k 2))] [2,3])
.ret)
.skip))
(.seq
(.reg [
.s 78 (.m 6),
.s 2 (.m 78),
.s 3 (.mv (.k 0))] [2,3])
.ret))))))))))),
[.tmp 2,.tmp 3]⟩
/-- emend/emendref1.Runes -/
def F94 : DF := ⟨1,
(.seq
(.reg [
.s 2 (.mv (.c (.sl 1 nz []))),
.s 3 (.alL [(.int .i64 0),(.int .i64 0)])] [0,3])
(.seq
(.reg [
.s 4 (.mv (.c (.sl 1 nz [])))] [0,3,4])
(.seq
(.seq
(.reg [
.s 5 (.mv (.k 0))] [0,3,4,5])
(.blk 0
(.seq
(.trim [0,3,4,5])
(.lop
(.seq
(.seq
(.seq
(.reg [
.s 8 (.m 5),
.s 9 (.m 0),
.s 10 (.lenS (.t 9)),
.s 11 (.bin .lss none (.t 8) (.t 10))] [0,3,4,5,11])
(.cnd (.t 11)
.skip
(.exit 0)))
(.blk 1
(.seq
(.reg [
.s 13 (.m 0),
.s 14 (.m 5),
.s 15 (.call 120 [(.t 13),(.t 14)]),
.s 12 (.m 15),
.s 16 (.ext (.t 12) 0),
.s 17 (.ext (.t 12) 1),
.s 6 (.m 16),
.s 7 (.m 17)] [0,3,4,5,6,7])
(.seq
(.seq
(.reg [
.s 18 (.m 7),
.s 19 (.bin .eql (some .int) (.t 18) (.k 0))] [0,3,4,5,6,7,19])
(.cnd (.t 19)
(.seq
(.reg [
.s 20 (.m 5),
.s 21 (.bld [(.int .i64 0),(.int .i64 0)] [(0,1,(.t 20)),(1,1,(.k 10))]),
.s 2 (.mv (.c (.sl 1 nz []))),
.n (.st 2 (.t 3) (.t 21))] [2,3])
.ret)
.skip))
(.seq
(.reg [
.s 22 (.m 4),
.s 23 (.m 6),
.s 24 (.bldT 3 1 1 (.int .i64 0) [(0,(.t 23))]),
.s 25 (.app false 3 1 8 (.t 22) (.t 24)),
.s 4 (.m 25)] [0,3,4,5,7])
(.reg [
.s 26 (.m 5),
.s 27 (.m 7),
.s 28 (.bin .add none (.t 26) (.t 27)),
.s 5 (.m 28)] [0,3,4,5]))))))
(.trim [0,3,4,5]))))))
(.seq
(.reg [
.s 29 (.m 4),
.s 30 (.bld [(.int .i64 0),(.int .i64 0)] []),
.s 2 (.m 29),
.n (.st 2 (.t 3) (.t 30))] [2,3])
.ret)))),
[.tmp 2,.cell 3 true 2]⟩
/-- emend/emendref3.date -/
def F95 : DF := ⟨1,
(.seq
(.reg [
.s 2 (.mv (.c (.bool false)))] [0])
(.seq
(.seq
(.reg [
.s 7 (.m 0),
.s 8 (.lenS (.t 7)),
.s 9 (.bin .neq (some .int) (.t 8) (.k 10)),
.s 10 (.m 9),
.g 11 (.m 0) 10 false,
.g 12 (.ixS (.t 11) (.k 4)) 10 false,
.g 13 (.bin .neq (some .int) (.t 12) (.c (.int .u8 45))) 10 false,
.s 14 (.pick (.t 10) (.c (.bool true)) (.t 13)),
.s 15 (.m 14),
.g 16 (.m 0) 15 false,
.g 17 (.ixS (.t 16) (.k 7)) 15 false,
.g 18 (.bin .neq (some .int) (.t 17) (.c (.int .u8 45))) 15 false,
.s 19 (.pick (.t 15) (.c (.bool true)) (.t 18))] [0,19])
(.cnd (.t 19)
(.seq
(.reg [
.s 2 (.mv (.c (.bool false)))] [2])
.ret)
.skip))
(.seq
(.reg [
.s 20 (.m 0),
.s 21 (.call 97 [(.t 20),(.k 0),(.k 4)]),
.s 3 (.m 21)] [0,3])
(.seq
(.reg [
.s 22 (.m 0),
.s 23 (.call 97 [(.t 22),(.k 5),(.k 2)]),
.s 4 (.m 23)] [0,3,4])
(.seq
(.reg [
.s 24 (.m 0),
.s 25 (.call 97 [(.t 24),(.k 8),(.k 2)]),
.s 5 (.m 25)] [3,4,5])
(.seq
(.seq
(.reg [
.s 26 (.m 3),
.s 27 (.bin .lss none (.t 26) (.k 0)),
.s 28 (.m 27),
.g 29 (.m 4) 28 false,
.g 30 (.bin .lss none (.t 29) (.k 1)) 28 false,
.s 31 (.pick (.t 28) (.c (.bool true)) (.t 30)),
.s 32 (.m 31),
.g 33 (.m 4) 32 false,
.g 34 (.bin .gtr none (.t 33) (.k 12)) 32 false,
.s 35 (.pick (.t 32) (.c (.bool true)) (.t 34)),
.s 36 (.m 35),
.g 37 (.m 5) 36 false,
.g 38 (.bin .lss none (.t 37) (.k 1)) 36 false,
.s 39 (.pick (.t 36) (.c (.bool true)) (.t 38))] [3,4,5,39])
(.cnd (.t 39)
(.seq
(.reg [
.s 2 (.mv (.c (.bool false)))] [2])
.ret)
.skip))
(.seq
(.reg [
.s 6 (.mv (.k 31))] [3,4,5,6])
(.seq
(.seq
(.reg [
.s 40 (.m 4),
.s 41 (.bin .eql (some .int) (.t 40) (.k 4)),
.s 42 (.m 41),
.g 43 (.m 4) 42 false,
.g 44 (.bin .eql (some .int) (.t 43) (.k 6)) 42 false,
.s 45 (.pick (.t 42) (.c (.bool true)) (.t 44)),
.s 46 (.m 45),
.g 47 (.m 4) 46 false,
.g 48 (.bin .eql (some .int) (.t 47) (.k 9)) 46 false,
.s 49 (.pick (.t 46) (.c (.bool true)) (.t 48)),
.s 50 (.m 49),
.g 51 (.m 4) 50 false,
.g 52 (.bin .eql (some .int) (.t 51) (.k 11)) 50 false,
.s 53 (.pick (.t 50) (.c (.bool true)) (.t 52))] [3,4,5,6,53])
(.cnd (.t 53)
(.reg [
.s 6 (.mv (.k 30))] [3,4,5,6])
.skip))
(.seq
(.seq
(.reg [
.s 54 (.m 4),
.s 55 (.bin .eql (some .int) (.t 54) (.k 2))] [3,5,6,55])
(.cnd (.t 55)
(.seq
(.reg [
.s 6 (.mv (.k 28))] [3,5,6])
(.seq
(.reg [
.s 56 (.m 3),
.s 57 (.bin .rem none (.t 56) (.k 4)),
.s 58 (.bin .eql (some .int) (.t 57) (.k 0)),
.s 59 (.m 58),
.g 60 (.m 3) 59 true,
.g 61 (.bin .rem none (.t 60) (.k 100)) 59 true,
.g 62 (.bin .neq (some .int) (.t 61) (.k 0)) 59 true,
.g 63 (.m 62) 59 true,
.g 64 (.m 3) 63 false,
.g 65 (.bin .rem none (.t 64) (.k 400)) 63 false,
.g 66 (.bin .eql (some .int) (.t 65) (.k 0)) 63 false,
.g 67 (.pick (.t 63) (.c (.bool true)) (.t 66)) 59 true,
.s 68 (.pick (.t 59) (.t 67) (.c (.bool false)))] [5,6,68])
(.cnd (.t 68)
(.reg [
.s 6 (.mv (.k 29))] [5,6])
.skip)))
.skip))
(.seq
(.reg [
.s 69 (.m 5),
.s 70 (.m 6),
.s 71 (.bin .leq none (.t 69) (.t 70)),
.s 2 (.m 71)] [2])
.ret)))))))))),
[.tmp 2]⟩
/-- emend/emendref3.clock -/
def F96 : DF := ⟨1,
(.seq
(.reg [
.s 2 (.mv (.c (.bool false)))] [0])
(.seq
(.seq
(.reg [
.s 6 (.m 0),
.s 7 (.lenS (.t 6)),
.s 8 (.bin .lss none (.t 7) (.k 8)),
.s 9 (.m 8),
.g 10 (.m 0) 9 false,
.g 11 (.ixS (.t 10) (.k 2)) 9 false,
.g 12 (.bin .neq (some .int) (.t 11) (.c (.int .u8 58))) 9 false,
.s 13 (.pick (.t 9) (.c (.bool true)) (.t 12)),
.s 14 (.m 13),
.g 15 (.m 0) 14 false,
.g 16 (.ixS (.t 15) (.k 5)) 14 false,
.g 17 (.bin .neq (some .int) (.t 16) (.c (.int .u8 58))) 14 false,
.s 18 (.pick (.t 14) (.c (.bool true)) (.t 17))] [0,18])
(.cnd (.t 18)
(.seq
(.reg [
.s 2 (.mv (.c (.bool false)))] [2])
.ret)
.skip))
(.seq
(.reg [
.s 19 (.m 0),
.s 20 (.call 97 [(.t 19),(.k 0),(.k 2)]),
.s 3 (.m 20)] [0,3])
(.seq
(.reg [
.s 21 (.m 0),
.s 22 (.call 97 [(.t 21),(.k 3),(.k 2)]),
.s 4 (.m 22)] [0,3,4])
(.seq
(.reg [
.s 23 (.m 0),
.s 24 (.call 97 [(.t 23),(.k 6),(.k 2)]),
.s 5 (.m 24)] [0,3,4,5])
(.seq
(.seq
(.reg [
.s 25 (.m 3),
.s 26 (.bin .lss none (.t 25) (.k 0)),
.s 27 (.m 26),
.g 28 (.m 3) 27 false,
.g 29 (.bin .gtr none (.t 28) (.k 23)) 27 false,
.s 30 (.pick (.t 27) (.c (.bool true)) (.t 29)),
.s 31 (.m 30),
.g 32 (.m 4) 31 false,
.g 33 (.bin .lss none (.t 32) (.k 0)) 31 false,
.s 34 (.pick (.t 31) (.c (.bool true)) (.t 33)),
.s 35 (.m 34),
.g 36 (.m 4) 35 false,
.g 37 (.bin .gtr none (.t 36) (.k 59)) 35 false,
.s 38 (.pick (.t 35) (.c (.bool true)) (.t 37)),
.s 39 (.m 38),
.g 40 (.m 5) 39 false,
.g 41 (.bin .lss none (.t 40) (.k 0)) 39 false,
.s 42 (.pick (.t 39) (.c (.bool true)) (.t 41)),
.s 43 (.m 42),
.g 44 (.m 5) 43 false,
.g 45 (.bin .gtr none (.t 44) (.k 59)) 43 false,
.s 46 (.pick (.t 43) (.c (.bool true)) (.t 45))] [0,46])
(.cnd (.t 46)
(.seq
(.reg [
.s 2 (.mv (.c (.bool false)))] [2])
.ret)
.skip))
(.seq
(.seq
(.reg [
.s 47 (.m 0),
.s 48 (.lenS (.t 47)),
.s 49 (.bin .eql (some .int) (.t 48) (.k 8))] [0,49])
(.cnd (.t 49)
(.seq
(.reg [
.s 2 (.mv (.c (.bool true)))] [2])
.ret)
.skip))
(.seq
(.reg [
.s 50 (.m 0),
.s 51 (.ixS (.t 50) (.k 8)),
.s 52 (.bin .eql (some .int) (.t 51) (.c (.int .u8 46))),
.s 53 (.m 52),
.g 54 (.m 0) 53 true,
.g 55 (.lenS (.t 54)) 53 true,
.g 56 (.bin .geq none (.t 55) (.k 10)) 53 true,
.s 57 (.pick (.t 53) (.t 56) (.c (.bool false))),
.s 58 (.m 57),
.g 59 (.m 0) 58 true,
.g 60 (.lenS (.t 59)) 58 true,
.g 61 (.bin .leq none (.t 60) (.k 18)) 58 true,
.s 62 (.pick (.t 58) (.t 61) (.c (.bool false))),
.s 63 (.m 62),
.g 64 (.m 0) 63 true,
.g 65 (.m 0) 63 true,
.g 66 (.lenS (.t 65)) 63 true,
.g 67 (.bin .sub none (.t 66) (.k 9)) 63 true,
.g 68 (.call 97 [(.t 64),(.k 9),(.t 67)]) 63 true,
.g 69 (.bin .geq none (.t 68) (.k 0)) 63 true,
.s 70 (.pick (.t 63) (.t 69) (.c (.bool false))),
.s 2 (.m 70)] [2])
.ret)))))))),
[.tmp 2]⟩
/-- emend/emendref3.digits -/
def F97 : DF := ⟨3,
(.seq
(.reg [
.s 6 (.mv (.k 0))] [0,1,2])
(.seq
(.reg [
.s 7 (.mv (.k 0))] [0,1,2,7])
(.seq
(.seq
(.reg [
.s 9 (.m 1),
.s 8 (.m 9)] [0,1,2,7,8])
(.blk 0
(.seq
(.trim [0,1,2,7,8])
(.lop
(.seq
(.seq
(.seq
(.reg [
.s 10 (.m 8),
.s 11 (.m 1),
.s 12 (.m 2),
.s 13 (.bin .add none (.t 11) (.t 12)),
.s 14 (.bin .lss none (.t 10) (.t 13))] [0,1,2,7,8,14])
(.cnd (.t 14)
.skip
(.exit 0)))
(.seq
(.blk 1
(.seq
(.seq
(.reg [
.s 17 (.m 8),
.s 18 (.m 0),
.s 19 (.lenS (.t 18)),
.s 20 (.bin .geq none (.t 17) (.t 19)),
.s 21 (.m 20),
.g 22 (.m 0) 21 false,
.g 23 (.m 8) 21 false,
.g 24 (.ixS (.t 22) (.t 23)) 21 false,
.g 25 (.bin .lss none (.t 24) (.c (.int .u8 48))) 21 false,
.s 26 (.pick (.t 21) (.c (.bool true)) (.t 25)),
.s 27 (.m 26),
.g 28 (.m 0) 27 false,
.g 29 (.m 8) 27 false,
.g 30 (.ixS (.t 28) (.t 29)) 27 false,
.g 31 (.bin .gtr none (.t 30) (.c (.int .u8 57))) 27 false,
.s 32 (.pick (.t 27) (.c (.bool true)) (.t 31))] [0,1,2,7,8,32])
(.cnd (.t 32)
(.seq
(.reg [
.s 6 (.mv (.k (-1)))] [6])
.ret)
.skip))
(.reg [
.s 33 (.m 7),
.s 34 (.bin .mul none (.t 33) (.k 10)),
.s 35 (.m 0),
.s 36 (.m 8),
.s 37 (.ixS (.t 35) (.t 36)),
.s 38 (.bin .sub none (.t 37) (.c (.int .u8 48))),
.s 39 (.cvI .i64 (.t 38)),
.s 40 (.bin .add none (.t 34) (.t 39)),
.s 7 (.m 40)] [0,1,2,7,8])))
(.reg [
.s 15 (.m 8),
.s 16 (.bin .add none (.t 15) (.k 1)),
.s 8 (.m 16)] [0,1,2,7,8])))
(.trim [0,1,2,7,8]))))))
(.seq
(.reg [
.s 41 (.m 7),
.s 6 (.m 41)] [6])
.ret)))),
[.tmp 6]⟩
/-- emend/text.row -/
def F99 : DF := ⟨1,
(.seq
(.reg [
.s 2 (.mv (.k 0)),
.s 3 (.mv (.k 0)),
.s 4 (.mv (.k 0))] [0])
(.seq
(.blk 0
(.seq
(.reg [
.s 6 (.m 0),
.s 7 (.bin .shr none (.t 6) (.c (.int .u64 7))),
.s 8 (.bin .eql (some .int) (.t 7) (.c (.int .u8 0))),
.s 5 (.m 8)] [0,5])
(.cnd (.t 5)
(.seq
(.reg [
.s 9 (.m 0),
.s 10 (.cvI .i64 (.t 9)),
.s 2 (.mv (.k 1)),
.s 3 (.m 10),
.s 4 (.mv (.k 0))] [2,3,4])
.ret)
(.seq
(.reg [
.s 12 (.m 0),
.s 13 (.bin .shr none (.t 12) (.c (.int .u64 5))),
.s 14 (.bin .eql (some .int) (.t 13) (.c (.int .u8 6))),
.s 11 (.m 14)] [0,11])
(.cnd (.t 11)
(.seq
(.reg [
.s 15 (.m 0),
.s 16 (.bin .and none (.t 15) (.c (.int .u8 31))),
.s 17 (.cvI .i64 (.t 16)),
.s 2 (.mv (.k 2)),
.s 3 (.m 17),
.s 4 (.mv (.k 128))] [2,3,4])
.ret)
(.seq
(.reg [
.s 19 (.m 0),
.s 20 (.bin .shr none (.t 19) (.c (.int .u64 4))),
.s 21 (.bin .eql (some .int) (.t 20) (.c (.int .u8 14))),
.s 18 (.m 21)] [0,18])
(.cnd (.t 18)
(.seq
(.reg [
.s 22 (.m 0),
.s 23 (.bin .and none (.t 22) (.c (.int .u8 15))),
.s 24 (.cvI .i64 (.t 23)),
.s 2 (.mv (.k 3)),
.s 3 (.m 24),
.s 4 (.mv (.k 2048))] [2,3,4])
.ret)
(.seq
(.reg [
.s 26 (.m 0),
.s 27 (.bin .shr none (.t 26) (.c (.int .u64 3))),
.s 28 (.bin .eql (some .int) (.t 27) (.c (.int .u8 30))),
.s 25 (.m 28)] [0,25])
(.cnd (.t 25)
(.seq
(.reg [
.s 29 (.m 0),
.s 30 (.bin .and none (.t 29) (.c (.int .u8 7))),
.s 31 (.cvI .i64 (.t 30)),
.s 2 (.mv (.k 4)),
.s 3 (.m 31),
.s 4 (.mv (.k 65536))] [2,3,4])
.ret)
.skip)))))))))
(.seq
(.reg [
.s 2 (.mv (.k 0)),
.s 3 (.mv (.k 0)),
.s 4 (.mv (.k 0))] [2,3,4])
.ret))),
[.tmp 2,.tmp 3,.tmp 4]⟩
/-- emend/text.character -/
def F100 : DF := ⟨1,
(.seq
(.reg [
.s 2 (.mv (.c (.bool false)))] [0])
(.seq
(.reg [
.s 3 (.m 0),
.s 4 (.bin .geq none (.t 3) (.k 0)),
.s 5 (.m 4),
.g 6 (.m 0) 5 true,
.g 7 (.bin .leq none (.t 6) (.k 1114111)) 5 true,
.s 8 (.pick (.t 5) (.t 7) (.c (.bool false))),
.s 9 (.m 8),
.g 10 (.m 0) 9 true,
.g 11 (.bin .lss none (.t 10) (.k 55296)) 9 true,
.g 12 (.m 11) 9 true,
.g 13 (.m 0) 12 false,
.g 14 (.bin .gtr none (.t 13) (.k 57343)) 12 false,
.g 15 (.pick (.t 12) (.c (.bool true)) (.t 14)) 9 true,
.s 16 (.pick (.t 9) (.t 15) (.c (.bool false))),
.s 2 (.m 16)] [2])
.ret)),
[.tmp 2]⟩

/-- emend/tree.two -/
def F103 : DF := ⟨1,
(.seq
(.reg [
.s 2 (.mv (.k 0))] [0])
(.seq
(.seq
(.reg [
.s 3 (.m 0),
.s 4 (.lenS (.t 3)),
.s 5 (.bin .neq (some .int) (.t 4) (.k 2)),
.s 6 (.m 5),
.g 7 (.m 0) 6 false,
.g 8 (.ixS (.t 7) (.k 0)) 6 false,
.g 9 (.bin .lss none (.t 8) (.c (.int .u8 48))) 6 false,
.s 10 (.pick (.t 6) (.c (.bool true)) (.t 9)),
.s 11 (.m 10),
.g 12 (.m 0) 11 false,
.g 13 (.ixS (.t 12) (.k 0)) 11 false,
.g 14 (.bin .gtr none (.t 13) (.c (.int .u8 57))) 11 false,
.s 15 (.pick (.t 11) (.c (.bool true)) (.t 14)),
.s 16 (.m 15),
.g 17 (.m 0) 16 false,
.g 18 (.ixS (.t 17) (.k 1)) 16 false,
.g 19 (.bin .lss none (.t 18) (.c (.int .u8 48))) 16 false,
.s 20 (.pick (.t 16) (.c (.bool true)) (.t 19)),
.s 21 (.m 20),
.g 22 (.m 0) 21 false,
.g 23 (.ixS (.t 22) (.k 1)) 21 false,
.g 24 (.bin .gtr none (.t 23) (.c (.int .u8 57))) 21 false,
.s 25 (.pick (.t 21) (.c (.bool true)) (.t 24))] [0,25])
(.cnd (.t 25)
(.seq
(.reg [
.s 2 (.mv (.k (-1)))] [2])
.ret)
.skip))
(.seq
(.drw [
((.s 26 (.m 0),none),[]),
((.s 27 (.ixS (.t 26) (.k 0)),none),[]),
((.s 28 (.bin .sub none (.t 27) (.c (.int .u8 48))),none),[]),
((.s 29 (.cvI .i64 (.t 28)),none),[]),
((.s 30 (.bin .mul none (.t 29) (.k 10)),none),[]),
((.s 31 (.m 0),none),[]),
((.s 32 (.ixS (.t 31) (.k 1)),none),[]),
((.s 33 (.bin .sub none (.t 32) (.c (.int .u8 48))),none),[]),
((.s 34 (.cvI .i64 (.t 33)),none),[]),
((.s 35 (.bin .add none (.t 30) (.t 34)),none),[]),
((.s 2 (.m 35),none),[])] [2])
.ret))),
[.tmp 2]⟩
/-- emend/tree.within -/
def F104 : DF := ⟨3,
(.seq
(.reg [
.s 6 (.mv (.c (.bool false)))] [0,1,2])
(.seq
(.reg [
.s 7 (.m 0),
.s 8 (.call 103 [(.t 7)]),
.s 9 (.m 1),
.s 10 (.bin .geq none (.t 8) (.t 9)),
.s 11 (.m 10),
.g 12 (.m 0) 11 true,
.g 13 (.call 103 [(.t 12)]) 11 true,
.g 14 (.m 2) 11 true,
.g 15 (.bin .leq none (.t 13) (.t 14)) 11 true,
.s 16 (.pick (.t 11) (.t 15) (.c (.bool false))),
.s 6 (.m 16)] [6])
.ret)),
[.tmp 6]⟩
/-- emend/tree.days -/
def F105 : DF := ⟨2,
(.seq
(.reg [
.s 4 (.mv (.k 0))] [0,1])
(.seq
(.seq
(.reg [
.s 5 (.m 1)] [0,5])
(.blk 0
(.seq
(.seq
(.reg [
.s 7 (.bin .eql (some .int) (.t 5) (.k 4)),
.s 6 (.m 7)] [0,5,6])
(.cnd (.t 6)
.skip
(.seq
(.reg [
.s 8 (.bin .eql (some .int) (.t 5) (.k 6)),
.s 6 (.m 8)] [0,5,6])
(.cnd (.t 6)
.skip
(.seq
(.reg [
.s 9 (.bin .eql (some .int) (.t 5) (.k 9)),
.s 6 (.m 9)] [0,5,6])
(.cnd (.t 6)
.skip
(.reg [
.s 10 (.bin .eql (some .int) (.t 5) (.k 11)),
.s 6 (.m 10)] [0,5,6])))))))
(.cnd (.t 6)
(.seq
(.reg [
.s 4 (.mv (.k 30))] [4])
.ret)
(.seq
(.reg [
.s 12 (.bin .eql (some .int) (.t 5) (.k 2)),
.s 11 (.m 12)] [0,11])
(.cnd (.t 11)
(.seq
(.seq
(.reg [
.s 13 (.m 0),
.s 14 (.bin .rem none (.t 13) (.k 4)),
.s 15 (.bin .eql (some .int) (.t 14) (.k 0)),
.s 16 (.m 15),
.g 17 (.m 0) 16 true,
.g 18 (.bin .rem none (.t 17) (.k 100)) 16 true,
.g 19 (.bin .neq (some .int) (.t 18) (.k 0)) 16 true,
.g 20 (.m 19) 16 true,
.g 21 (.m 0) 20 false,
.g 22 (.bin .rem none (.t 21) (.k 400)) 20 false,
.g 23 (.bin .eql (some .int) (.t 22) (.k 0)) 20 false,
.g 24 (.pick (.t 20) (.c (.bool true)) (.t 23)) 16 true,
.s 25 (.pick (.t 16) (.t 24) (.c (.bool false)))] [25])
(.cnd (.t 25)
(.seq
(.reg [
.s 4 (.mv (.k 29))] [4])
.ret)
.skip))
(.seq
(.reg [
.s 4 (.mv (.k 28))] [4])
.ret))
.skip))))))
(.seq
(.reg [
.s 4 (.mv (.k 31))] [4])
.ret))),
[.tmp 4]⟩

/-- strings.HasSuffix -/
def F107 : DF := ⟨2,
(.seq
(.reg [
.s 4 (.mv (.c (.bool false)))] [0,1])
(.seq
(.reg [
.s 5 (.m 0),
.s 6 (.m 1),
.s 7 (.call 130 [(.t 5),(.t 6)]),
.s 4 (.m 7)] [4])
.ret)),
[.tmp 4]⟩
/-- internal/stringslite.Cut -/
def F108 : DF := ⟨2,
(.seq
(.reg [
.s 4 (.mv (.c (.str []))),
.s 5 (.mv (.c (.str []))),
.s 6 (.mv (.c (.bool false)))] [0,1])
(.seq
(.seq
(.reg [
.s 8 (.m 0),
.s 9 (.m 1),
.s 10 (.call 131 [(.t 8),(.t 9)]),
.s 7 (.m 10)] [0,1,7])
(.seq
(.reg [
.s 11 (.m 7),
.s 12 (.bin .geq none (.t 11) (.k 0))] [0,1,7,12])
(.cnd (.t 12)
(.seq
(.drw [
((.s 13 (.m 0),none),[]),
((.s 14 (.m 7),none),[]),
((.s 15 (.slS (.t 13) none (some (.t 14))),none),[]),
((.s 16 (.m 0),none),[]),
((.s 17 (.m 7),none),[]),
((.s 18 (.m 1),none),[]),
((.s 19 (.lenS (.t 18)),none),[]),
((.s 20 (.bin .add none (.t 17) (.t 19)),none),[]),
((.s 21 (.slS (.t 16) (some (.t 20)) none),none),[]),
((.s 4 (.m 15),none),[]),
((.s 5 (.m 21),none),[]),
((.s 6 (.mv (.c (.bool true))),none),[])] [4,5,6])
.ret)
.skip)))
(.seq
(.reg [
.s 22 (.m 0),
.s 4 (.m 22),
.s 5 (.mv (.c (.str []))),
.s 6 (.mv (.c (.bool false)))] [4,5,6])
.ret))),
[.tmp 4,.tmp 5,.tmp 6]⟩
/-- emend/num.cut -/
def F109 : DF := ⟨1,
(.seq
(.reg [
.s 2 (.mv (.c (.bool false))),
.s 3 (.mv (.c (.str []))),
.s 4 (.mv (.c (.str []))),
.s 5 (.mv (.c (.str []))),
.s 6 (.mv (.c (.bool false)))] [0,4])
(.seq
(.reg [
.s 10 (.m 0),
.s 7 (.m 10)] [4,7])
(.seq
(.seq
(.reg [
.s 11 (.m 7),
.s 12 (.call 132 [(.t 11),(.c (.str [45]))]),
.s 2 (.m 12)] [2,4,7])
(.seq
(.reg [
.s 13 (.m 2)] [2,4,7,13])
(.cnd (.t 13)
(.reg [
.s 14 (.m 7),
.s 15 (.slS (.t 14) (some (.k 1)) none),
.s 7 (.m 15)] [2,4,7])
.skip)))
(.seq
(.reg [
.s 16 (.m 7),
.s 17 (.call 113 [(.t 16)]),
.s 8 (.m 17)] [2,4,7,8])
(.seq
(.seq
(.reg [
.s 18 (.m 8),
.s 19 (.bin .eql (some .int) (.t 18) (.k 0)),
.s 20 (.m 19),
.g 21 (.m 8) 20 false,
.g 22 (.bin .gtr none (.t 21) (.k 1)) 20 false,
.g 23 (.m 22) 20 false,
.g 24 (.m 7) 23 true,
.g 25 (.ixS (.t 24) (.k 0)) 23 true,
.g 26 (.bin .eql (some .int) (.t 25) (.c (.int .u8 48))) 23 true,
.g 27 (.pick (.t 23) (.t 26) (.c (.bool false))) 20 false,
.s 28 (.pick (.t 20) (.c (.bool true)) (.t 27))] [2,4,7,8,28])
(.cnd (.t 28)
(.seq
(.reg [
.s 2 (.mv (.c (.bool false))),
.s 3 (.mv (.c (.str []))),
.s 4 (.mv (.c (.str []))),
.s 5 (.mv (.c (.str []))),
.s 6 (.mv (.c (.bool false)))] [2,3,4,5,6])
.ret)
.skip))
(.seq
(.drw [
((.s 29 (.m 7),none),[]),
((.s 30 (.m 8),none),[]),
((.s 31 (.slS (.t 29) none (some (.t 30))),none),[]),
((.s 32 (.m 7),none),[]),
((.s 33 (.m 8),none),[]),
((.s 34 (.slS (.t 32) (some (.t 33)) none),none),[]),
((.s 3 (.m 31),none),[]),
((.s 7 (.m 34),none),[])] [2,3,4,7])
(.seq
(.seq
(.reg [
.s 35 (.m 7),
.s 36 (.call 132 [(.t 35),(.c (.str [46]))])] [2,3,4,7,36])
(.cnd (.t 36)
(.seq
(.seq
(.reg [
.s 37 (.m 7),
.s 38 (.slS (.t 37) (some (.k 1)) none),
.s 39 (.call 113 [(.t 38)]),
.s 8 (.m 39)] [2,3,7,8])
(.seq
(.reg [
.s 40 (.m 8),
.s 41 (.bin .eql (some .int) (.t 40) (.k 0))] [2,3,7,8,41])
(.cnd (.t 41)
(.seq
(.reg [
.s 2 (.mv (.c (.bool false))),
.s 3 (.mv (.c (.str []))),
.s 4 (.mv (.c (.str []))),
.s 5 (.mv (.c (.str []))),
.s 6 (.mv (.c (.bool false)))] [2,3,4,5,6])
.ret)
.skip)))
(.drw [
((.s 42 (.m 7),none),[]),
((.s 43 (.m 8),none),[]),
((.s 44 (.bin .add none (.k 1) (.t 43)),none),[]),
((.s 45 (.slS (.t 42) (some (.k 1)) (some (.t 44))),none),[]),
((.s 46 (.m 7),none),[]),
((.s 47 (.m 8),none),[]),
((.s 48 (.bin .add none (.k 1) (.t 47)),none),[]),
((.s 49 (.slS (.t 46) (some (.t 48)) none),none),[]),
((.s 4 (.m 45),none),[]),
((.s 7 (.m 49),none),[])] [2,3,4,7]))
.skip))
(.seq
(.seq
(.reg [
.s 50 (.m 7),
.s 51 (.bin .eql (some .str) (.t 50) (.c (.str [])))] [2,3,4,7,51])
(.cnd (.t 51)
(.seq
(.reg [
.s 52 (.m 2),
.s 53 (.m 3),
.s 54 (.m 4),
.s 2 (.m 52),
.s 3 (.m 53),
.s 4 (.m 54),
.s 5 (.mv (.c (.str []))),
.s 6 (.mv (.c (.bool true)))] [2,3,4,5,6])
.ret)
.skip))
(.seq
(.seq
(.reg [
.s 55 (.m 7),
.s 56 (.ixS (.t 55) (.k 0)),
.s 57 (.bin .neq (some .int) (.t 56) (.c (.int .u8 101))),
.s 58 (.m 57),
.g 59 (.m 7) 58 true,
.g 60 (.ixS (.t 59) (.k 0)) 58 true,
.g 61 (.bin .neq (some .int) (.t 60) (.c (.int .u8 69))) 58 true,
.s 62 (.pick (.t 58) (.t 61) (.c (.bool false)))] [2,3,4,7,62])
(.cnd (.t 62)
(.seq
(.reg [
.s 2 (.mv (.c (.bool false))),
.s 3 (.mv (.c (.str []))),
.s 4 (.mv (.c (.str []))),
.s 5 (.mv (.c (.str []))),
.s 6 (.mv (.c (.bool false)))] [2,3,4,5,6])
.ret)
.skip))
(.seq
(.reg [
.s 63 (.m 7),
.s 64 (.slS (.t 63) (some (.k 1)) none),
.s 5 (.m 64)] [2,3,4,5])
(.seq
(.reg [
.s 65 (.m 5),
.s 66 (.call 133 [(.t 65),(.c (.str [45]))]),
.s 9 (.m 66)] [2,3,4,5,9])
(.seq
(.seq
(.reg [
.s 67 (.m 9),
.s 68 (.m 5),
.s 69 (.bin .eql (some .str) (.t 67) (.t 68))] [2,3,4,5,9,69])
(.cnd (.t 69)
(.reg [
.s 70 (.m 5),
.s 71 (.call 133 [(.t 70),(.c (.str [43]))]),
.s 9 (.m 71)] [2,3,4,5,9])
.skip))
(.seq
(.seq
(.reg [
.s 72 (.m 9),
.s 73 (.bin .eql (some .str) (.t 72) (.c (.str []))),
.s 74 (.m 73),
.g 75 (.m 9) 74 false,
.g 76 (.call 113 [(.t 75)]) 74 false,
.g 77 (.m 9) 74 false,
.g 78 (.lenS (.t 77)) 74 false,
.g 79 (.bin .lss none (.t 76) (.t 78)) 74 false,
.s 80 (.pick (.t 74) (.c (.bool true)) (.t 79))] [2,3,4,5,80])
(.cnd (.t 80)
(.seq
(.reg [
.s 2 (.mv (.c (.bool false))),
.s 3 (.mv (.c (.str []))),
.s 4 (.mv (.c (.str []))),
.s 5 (.mv (.c (.str []))),
.s 6 (.mv (.c (.bool false)))] [2,3,4,5,6])
.ret)
.skip))
(.seq
(.reg [
.s 81 (.m 2),
.s 82 (.m 3),
.s 83 (.m 4),
.s 84 (.m 5),
.s 2 (.m 81),
.s 3 (.m 82),
.s 4 (.m 83),
.s 5 (.m 84),
.s 6 (.mv (.c (.bool true)))] [2,3,4,5,6])
.ret)))))))))))))),
[.tmp 2,.tmp 3,.tmp 4,.tmp 5,.tmp 6]⟩
/-- emend/num.exponent -/
def F110 : DF := ⟨1,
(.seq
(.reg [
.s 2 (.mv (.k 0)),
.s 3 (.mv (.c (.bool false)))] [0])
(.seq
(.reg [
.s 7 (.m 0),
.s 8 (.call 132 [(.t 7),(.c (.str [45]))]),
.s 4 (.m 8)] [0,4])
(.seq
(.reg [
.s 9 (.m 0),
.s 10 (.call 111 [(.t 9),(.c (.str [43,45]))]),
.s 11 (.call 111 [(.t 10),(.c (.str [48]))]),
.s 0 (.m 11)] [0,4])
(.seq
(.seq
(.reg [
.s 12 (.m 0),
.s 13 (.lenS (.t 12)),
.s 14 (.bin .gtr none (.t 13) (.k 6))] [0,4,14])
(.cnd (.t 14)
(.seq
(.reg [
.s 2 (.mv (.k 0)),
.s 3 (.mv (.c (.bool false)))] [2,3])
.ret)
.skip))
(.seq
(.reg [
.s 16 (.m 0),
.s 17 (.bin .add none (.c (.str [48])) (.t 16)),
.s 18 (.call 134 [(.t 17)]),
.s 15 (.m 18),
.s 19 (.ext (.t 15) 0),
.s 20 (.ext (.t 15) 1),
.s 5 (.m 19),
.s 6 (.m 20)] [4,5])
(.seq
(.seq
(.reg [
.s 21 (.m 4)] [5,21])
(.cnd (.t 21)
(.seq
(.reg [
.s 22 (.m 5),
.s 23 (.un .neg (.t 22)),
.s 2 (.m 23),
.s 3 (.mv (.c (.bool true)))] [2,3])
.ret)
.skip))
(.seq
(.reg [
.s 24 (.m 5),
.s 2 (.m 24),
.s 3 (.mv (.c (.bool true)))] [2,3])
.ret))))))),
[.tmp 2,.tmp 3]⟩

/-- emend/num.run -/
def F113 : DF := ⟨1,
(.seq
(.reg [
.s 2 (.mv (.k 0))] [0])
(.seq
(.reg [
.s 3 (.mv (.k 0))] [0,3])
(.seq
(.blk 0
(.seq
(.trim [0,3])
(.lop
(.seq
(.seq
(.seq
(.reg [
.s 4 (.m 3),
.s 5 (.m 0),
.s 6 (.lenS (.t 5)),
.s 7 (.bin .lss none (.t 4) (.t 6)),
.s 8 (.m 7),
.g 9 (.m 0) 8 true,
.g 10 (.m 3) 8 true,
.g 11 (.ixS (.t 9) (.t 10)) 8 true,
.g 12 (.call 135 [(.t 11)]) 8 true,
.s 13 (.pick (.t 8) (.t 12) (.c (.bool false)))] [0,3,13])
(.cnd (.t 13)
.skip
(.exit 0)))
(.blk 1
(.reg [
.s 14 (.m 3),
.s 15 (.bin .add none (.t 14) (.k 1)),
.s 3 (.m 15)] [0,3])))
(.trim [0,3])))))
(.seq
(.reg [
.s 16 (.m 3),
.s 2 (.m 16)] [2])
.ret)))),
[.tmp 2]⟩

/-- slices.stableCmpFunc[int] -/
def F115 : DF := ⟨3,
(.seq
(.reg [
.s 6 (.mv (.k 20))] [0,1,2,6])
(.seq
(.reg [
.s 10 (.m 6),
.s 7 (.mv (.k 0)),
.s 8 (.m 10)] [0,1,2,6,7,8])
(.seq
(.blk 0
(.seq
(.trim [0,1,2,6,7,8])
(.lop
(.seq
(.seq
(.seq
(.reg [
.s 11 (.m 8),
.s 12 (.m 1),
.s 13 (.bin .leq none (.t 11) (.t 12))] [0,1,2,6,7,8,13])
(.cnd (.t 13)
.skip
(.exit 0)))
(.blk 1
(.seq
(.reg [
.s 14 (.m 0),
.s 15 (.m 7),
.s 16 (.m 8),
.s 17 (.m 2),
.s 18 (.call 137 [(.t 14),(.t 15),(.t 16),(.t 17)])] [0,1,2,6,8])
(.seq
(.reg [
.s 19 (.m 8),
.s 7 (.m 19)] [0,1,2,6,7,8])
(.reg [
.s 20 (.m 8),
.s 21 (.m 6),
.s 22 (.bin .add none (.t 20) (.t 21)),
.s 8 (.m 22)] [0,1,2,6,7,8])))))
(.trim [0,1,2,6,7,8])))))
(.seq
(.reg [
.s 23 (.m 0),
.s 24 (.m 7),
.s 25 (.m 1),
.s 26 (.m 2),
.s 27 (.call 137 [(.t 23),(.t 24),(.t 25),(.t 26)])] [0,1,2,6])
(.blk 2
(.seq
(.trim [0,1,2,6])
(.lop
(.seq
(.seq
(.seq
(.reg [
.s 28 (.m 6),
.s 29 (.m 1),
.s 30 (.bin .lss none (.t 28) (.t 29))] [0,1,2,6,30])
(.cnd (.t 30)
.skip
(.exit 2)))
(.blk 3
(.seq
(.reg [
.s 31 (.m 6),
.s 32 (.bin .mul none (.k 2) (.t 31)),
.s 7 (.mv (.k 0)),
.s 8 (.m 32)] [0,1,2,6,7,8])
(.seq
(.blk 4
(.seq
(.trim [0,1,2,6,7,8])
(.lop
(.seq
(.seq
(.seq
(.reg [
.s 33 (.m 8),
.s 34 (.m 1),
.s 35 (.bin .leq none (.t 33) (.t 34))] [0,1,2,6,7,8,35])
(.cnd (.t 35)
.skip
(.exit 4)))
(.blk 5
(.seq
(.reg [
.s 36 (.m 0),
.s 37 (.m 7),
.s 38 (.m 7),
.s 39 (.m 6),
.s 40 (.bin .add none (.t 38) (.t 39)),
.s 41 (.m 8),
.s 42 (.m 2),
.s 43 (.call 138 [(.t 36),(.t 37),(.t 40),(.t 41),(.t 42)])] [0,1,2,6,8])
(.seq
(.reg [
.s 44 (.m 8),
.s 7 (.m 44)] [0,1,2,6,7,8])
(.reg [
.s 45 (.m 8),
.s 46 (.m 6),
.s 47 (.bin .mul none (.k 2) (.t 46)),
.s 48 (.bin .add none (.t 45) (.t 47)),
.s 8 (.m 48)] [0,1,2,6,7,8])))))
(.trim [0,1,2,6,7,8])))))
(.seq
(.seq
(.reg [
.s 49 (.m 7),
.s 50 (.m 6),
.s 51 (.bin .add none (.t 49) (.t 50)),
.s 9 (.m 51)] [0,1,2,6,7,9])
(.seq
(.reg [
.s 52 (.m 9),
.s 53 (.m 1),
.s 54 (.bin .lss none (.t 52) (.t 53))] [0,1,2,6,7,9,54])
(.cnd (.t 54)
(.reg [
.s 55 (.m 0),
.s 56 (.m 7),
.s 57 (.m 9),
.s 58 (.m 1),
.s 59 (.m 2),
.s 60 (.call 138 [(.t 55),(.t 56),(.t 57),(.t 58),(.t 59)])] [0,1,2,6])
.skip)))
(.reg [
.s 61 (.m 6),
.s 62 (.bin .mul none (.t 61) (.k 2)),
.s 6 (.m 62)] [0,1,2,6]))))))
(.trim [0,1,2,6]))))))))),
[]⟩
/-- internal/bytealg.CompareString -/
def F116 : DF := ⟨2,
(.seq
(.reg [
.s 4 (.mv (.k 0))] [0,1])
(.seq
(.reg [
.s 5 (.m 0),
.s 6 (.m 1),
.s 7 (.xtn .compare [(.t 5),(.t 6)]),
.s 4 (.m 7)] [4])
.ret)),
[.tmp 4]⟩
/-- emend/emendref2.run -/
def F117 : DF := ⟨2,
(.seq
(.reg [
.s 4 (.mv (.k 0))] [0,1])
(.seq
(.blk 0
(.seq
(.trim [0,1])
(.lop
(.seq
(.seq
(.seq
(.reg [
.s 5 (.m 1),
.s 6 (.m 0),
.s 7 (.lenS (.t 6)),
.s 8 (.bin .lss none (.t 5) (.t 7)),
.s 9 (.m 8),
.g 10 (.m 0) 9 true,
.g 11 (.m 1) 9 true,
.g 12 (.ixS (.t 10) (.t 11)) 9 true,
.g 13 (.call 118 [(.t 12)]) 9 true,
.s 14 (.pick (.t 9) (.t 13) (.c (.bool false)))] [0,1,14])
(.cnd (.t 14)
.skip
(.exit 0)))
(.blk 1
(.reg [
.s 15 (.m 1),
.s 16 (.bin .add none (.t 15) (.k 1)),
.s 1 (.m 16)] [0,1])))
(.trim [0,1])))))
(.seq
(.reg [
.s 17 (.m 1),
.s 4 (.m 17)] [4])
.ret))),
[.tmp 4]⟩
/-- emend/emendref2.digit -/
def F118 : DF := ⟨1,
(.seq
(.reg [
.s 2 (.mv (.c (.bool false)))] [0])
(.seq
(.reg [
.s 3 (.m 0),
.s 4 (.bin .geq none (.t 3) (.c (.int .u8 48))),
.s 5 (.m 4),
.g 6 (.m 0) 5 true,
.g 7 (.bin .leq none (.t 6) (.c (.int .u8 57))) 5 true,
.s 8 (.pick (.t 5) (.t 7) (.c (.bool false))),
.s 2 (.m 8)] [2])
.ret)),
[.tmp 2]⟩
/-- emend/emendref2.Decimal -/
def F119 : DF := ⟨1,
(.seq
(.reg [
.s 2 (.mv (.c (.str [])))] [0])
(.seq
(.seq
(.reg [
.s 5 (.m 0),
.s 6 (.bin .geq none (.t 5) (.k 0))] [0,6])
(.cnd (.t 6)
(.seq
(.reg [
.s 7 (.m 0),
.s 8 (.call 140 [(.t 7)]),
.s 2 (.m 8)] [2])
.ret)
.skip))
(.seq
(.reg [
.s 9 (.m 0),
.s 10 (.cvI .u64 (.t 9)),
.s 11 (.bin .sub none (.c (.int .u64 0)) (.t 10)),
.s 3 (.m 11)] [3])
(.seq
(.reg [
.s 12 (.m 3),
.s 13 (.bin .rem none (.t 12) (.c (.int .u64 10))),
.s 14 (.cvI .i64 (.t 13)),
.s 15 (.call 140 [(.t 14)]),
.s 4 (.m 15)] [3,4])
(.seq
(.seq
(.reg [
.s 16 (.m 3),
.s 17 (.bin .geq none (.t 16) (.c (.int .u64 10)))] [3,4,17])
(.cnd (.t 17)
(.reg [
.s 18 (.m 3),
.s 19 (.bin .quo none (.t 18) (.c (.int .u64 10))),
.s 20 (.cvI .i64 (.t 19)),
.s 21 (.call 140 [(.t 20)]),
.s 22 (.m 4),
.s 23 (.bin .add none (.t 21) (.t 22)),
.s 4 (.m 23)] [4])
.skip))
(.seq
(.reg [
.s 24 (.m 4),
.s 25 (.bin .add none (.c (.str [45])) (.t 24)),
.s 2 (.m 25)] [2])
.ret)))))),
[.tmp 2]⟩
/-- emend/emendref1.One -/
def F120 : DF := ⟨2,
(.seq
(.reg [
.s 4 (.mv (.k 0)),
.s 5 (.mv (.k 0))] [0,1])
(.seq
(.reg [
.s 12 (.m 0),
.s 13 (.m 1),
.s 14 (.ixS (.t 12) (.t 13)),
.s 15 (.cvI .i64 (.t 14)),
.s 6 (.m 15)] [0,1,6])
(.seq
(.seq
(.reg [
.s 16 (.m 6),
.s 17 (.bin .lss none (.t 16) (.k 128))] [0,1,6,17])
(.cnd (.t 17)
(.seq
(.reg [
.s 18 (.m 6),
.s 4 (.m 18),
.s 5 (.mv (.k 1))] [4,5])
.ret)
.skip))
(.seq
(.reg [
.s 7 (.mv (.k 0))] [0,1,6,7])
(.seq
(.reg [
.s 8 (.mv (.k 0))] [0,1,6,7,8])
(.seq
(.reg [
.s 9 (.mv (.k 0))] [0,1,6,7,8,9])
(.seq
(.blk 0
(.seq
(.reg [
.s 20 (.m 6),
.s 21 (.bin .geq none (.t 20) (.k 192)),
.s 22 (.m 21),
.g 23 (.m 6) 22 true,
.g 24 (.bin .lss none (.t 23) (.k 224)) 22 true,
.s 25 (.pick (.t 22) (.t 24) (.c (.bool false))),
.s 19 (.m 25)] [0,1,6,7,8,9,19])
(.cnd (.t 19)
(.seq
(.reg [
.s 7 (.mv (.k 2))] [0,1,6,7])
(.seq
(.reg [
.s 8 (.mv (.k 128))] [0,1,6,7,8])
(.reg [
.s 26 (.m 6),
.s 27 (.bin .sub none (.t 26) (.k 192)),
.s 9 (.m 27)] [0,1,7,8,9])))
(.seq
(.reg [
.s 29 (.m 6),
.s 30 (.bin .geq none (.t 29) (.k 224)),
.s 31 (.m 30),
.g 32 (.m 6) 31 true,
.g 33 (.bin .lss none (.t 32) (.k 240)) 31 true,
.s 34 (.pick (.t 31) (.t 33) (.c (.bool false))),
.s 28 (.m 34)] [0,1,6,7,8,9,28])
(.cnd (.t 28)
(.seq
(.reg [
.s 7 (.mv (.k 3))] [0,1,6,7])
(.seq
(.reg [
.s 8 (.mv (.k 2048))] [0,1,6,7,8])
(.reg [
.s 35 (.m 6),
.s 36 (.bin .sub none (.t 35) (.k 224)),
.s 9 (.m 36)] [0,1,7,8,9])))
(.seq
(.reg [
.s 38 (.m 6),
.s 39 (.bin .geq none (.t 38) (.k 240)),
.s 40 (.m 39),
.g 41 (.m 6) 40 true,
.g 42 (.bin .lss none (.t 41) (.k 248)) 40 true,
.s 43 (.pick (.t 40) (.t 42) (.c (.bool false))),
.s 37 (.m 43)] [0,1,6,7,8,9,37])
(.cnd (.t 37)
(.seq
(.reg [
.s 7 (.mv (.k 4))] [0,1,6,7])
(.seq
(.reg [
.s 8 (.mv (.k 65536))] [0,1,6,7,8])
(.reg [
.s 44 (.m 6),
.s 45 (.bin .sub none (.t 44) (.k 240)),
.s 9 (.m 45)] [0,1,7,8,9])))
.skip)))))))
(.seq
(.seq
(.reg [
.s 46 (.m 7),
.s 47 (.bin .eql (some .int) (.t 46) (.k 0)),
.s 48 (.m 47),
.g 49 (.m 1) 48 false,
.g 50 (.m 7) 48 false,
.g 51 (.bin .add none (.t 49) (.t 50)) 48 false,
.g 52 (.m 0) 48 false,
.g 53 (.lenS (.t 52)) 48 false,
.g 54 (.bin .gtr none (.t 51) (.t 53)) 48 false,
.s 55 (.pick (.t 48) (.c (.bool true)) (.t 54))] [0,1,7,8,9,55])
(.cnd (.t 55)
(.seq
(.reg [
.s 4 (.mv (.k 0)),
.s 5 (.mv (.k 0))] [4,5])
.ret)
.skip))
(.seq
(.seq
(.reg [
.s 10 (.mv (.k 1))] [0,1,7,8,9,10])
(.blk 1
(.seq
(.trim [0,1,7,8,9,10])
(.lop
(.seq
(.seq
(.seq
(.reg [
.s 56 (.m 10),
.s 57 (.m 7),
.s 58 (.bin .lss none (.t 56) (.t 57))] [0,1,7,8,9,10,58])
(.cnd (.t 58)
.skip
(.exit 1)))
(.seq
(.blk 2
(.seq
(.reg [
.s 61 (.m 0),
.s 62 (.m 1),
.s 63 (.m 10),
.s 64 (.bin .add none (.t 62) (.t 63)),
.s 65 (.ixS (.t 61) (.t 64)),
.s 66 (.cvI .i64 (.t 65)),
.s 11 (.m 66)] [0,1,7,8,9,10,11])
(.seq
(.seq
(.reg [
.s 67 (.m 11),
.s 68 (.bin .lss none (.t 67) (.k 128)),
.s 69 (.m 68),
.g 70 (.m 11) 69 false,
.g 71 (.bin .geq none (.t 70) (.k 192)) 69 false,
.s 72 (.pick (.t 69) (.c (.bool true)) (.t 71))] [0,1,7,8,9,10,11,72])
(.cnd (.t 72)
(.seq
(.reg [
.s 4 (.mv (.k 0)),
.s 5 (.mv (.k 0))] [4,5])
.ret)
.skip))
(.reg [
.s 73 (.m 9),
.s 74 (.bin .mul none (.t 73) (.k 64)),
.s 75 (.m 11),
.s 76 (.bin .add none (.t 74) (.t 75)),
.s 77 (.bin .sub none (.t 76) (.k 128)),
.s 9 (.m 77)] [0,1,7,8,9,10]))))
(.reg [
.s 59 (.m 10),
.s 60 (.bin .add none (.t 59) (.k 1)),
.s 10 (.m 60)] [0,1,7,8,9,10])))
(.trim [0,1,7,8,9,10]))))))
(.seq
(.seq
(.reg [
.s 78 (.m 9),
.s 79 (.m 8),
.s 80 (.bin .lss none (.t 78) (.t 79)),
.s 81 (.m 80),
.g 82 (.m 9) 81 false,
.g 83 (.call 141 [(.t 82)]) 81 false,
.g 84 (.un .not (.t 83)) 81 false,
.s 85 (.pick (.t 81) (.c (.bool true)) (.t 84))] [7,9,85])
(.cnd (.t 85)
(.seq
(.reg [
.s 4 (.mv (.k 0)),
.s 5 (.mv (.k 0))] [4,5])
.ret)
.skip))
(.seq
(.reg [
.s 86 (.m 9),
.s 87 (.m 7),
.s 4 (.m 86),
.s 5 (.m 87)] [4,5])
.ret))))))))))),
[.tmp 4,.tmp 5]⟩

/-- internal/stringslite.HasSuffix -/
def F130 : DF := ⟨2,
(.seq
(.reg [
.s 4 (.mv (.c (.bool false)))] [0,1])
(.seq
(.reg [
.s 5 (.m 0),
.s 6 (.lenS (.t 5)),
.s 7 (.m 1),
.s 8 (.lenS (.t 7)),
.s 9 (.bin .geq none (.t 6) (.t 8)),
.s 10 (.m 9),
.g 11 (.m 0) 10 true,
.g 12 (.m 0) 10 true,
.g 13 (.lenS (.t 12)) 10 true,
.g 14 (.m 1) 10 true,
.g 15 (.lenS (.t 14)) 10 true,
.g 16 (.bin .sub none (.t 13) (.t 15)) 10 true,
.g 17 (.slS (.t 11) (some (.t 16)) none) 10 true,
.g 18 (.m 1) 10 true,
.g 19 (.bin .eql (some .str) (.t 17) (.t 18)) 10 true,
.s 20 (.pick (.t 10) (.t 19) (.c (.bool false))),
.s 4 (.m 20)] [4])
.ret)),
[.tmp 4]⟩
/-- internal/stringslite.Index -/
def F131 : DF := ⟨2,
(.seq
(.reg [
.s 4 (.mv (.k 0))] [0,1])
(.seq
(.reg [
.s 14 (.m 1),
.s 15 (.lenS (.t 14)),
.s 5 (.m 15)] [0,1,5])
(.seq
(.blk 0
(.seq
(.reg [
.s 17 (.m 5),
.s 18 (.bin .eql (some .int) (.t 17) (.k 0)),
.s 19 (.m 18),
.g 20 (.m 1) 19 false,
.g 21 (.m 0) 19 false,
.g 22 (.bin .eql (some .str) (.t 20) (.t 21)) 19 false,
.s 23 (.pick (.t 19) (.c (.bool true)) (.t 22)),
.s 16 (.m 23)] [0,1,5,16])
(.cnd (.t 16)
(.seq
(.reg [
.s 4 (.mv (.k 0))] [4])
.ret)
(.seq
(.reg [
.s 25 (.m 5),
.s 26 (.bin .eql (some .int) (.t 25) (.k 1)),
.s 24 (.m 26)] [0,1,5,24])
(.cnd (.t 24)
(.seq
(.reg [
.s 27 (.m 0),
.s 28 (.m 1),
.s 29 (.ixS (.t 28) (.k 0)),
.s 30 (.call 147 [(.t 27),(.t 29)]),
.s 4 (.m 30)] [4])
.ret)
(.seq
(.reg [
.s 32 (.m 5),
.s 33 (.m 0),
.s 34 (.lenS (.t 33)),
.s 35 (.bin .geq none (.t 32) (.t 34)),
.s 31 (.m 35)] [0,1,5,31])
(.cnd (.t 31)
(.seq
(.reg [
.s 4 (.mv (.k (-1)))] [4])
.ret)
(.seq
(.reg [
.s 37 (.m 5),
.s 38 (.ld false 1 (.g 0)),
.s 39 (.bin .leq none (.t 37) (.t 38)),
.s 40 (.m 39),
.g 41 (.m 0) 40 true,
.g 42 (.lenS (.t 41)) 40 true,
.g 43 (.bin .leq none (.t 42) (.k 64)) 40 true,
.s 44 (.pick (.t 40) (.t 43) (.c (.bool false))),
.s 36 (.m 44)] [0,1,5,36])
(.cnd (.t 36)
(.seq
.fail
.ret)
.skip)))))))))
(.seq
(.reg [
.s 48 (.m 1),
.s 49 (.ixS (.t 48) (.k 0)),
.s 6 (.m 49)] [0,1,5,6])
(.seq
(.reg [
.s 50 (.m 1),
.s 51 (.ixS (.t 50) (.k 1)),
.s 7 (.m 51)] [0,1,5,6,7])
(.seq
(.reg [
.s 8 (.mv (.k 0))] [0,1,5,6,7,8])
(.seq
(.reg [
.s 52 (.m 0),
.s 53 (.lenS (.t 52)),
.s 54 (.m 5),
.s 55 (.bin .sub none (.t 53) (.t 54)),
.s 56 (.bin .add none (.t 55) (.k 1)),
.s 9 (.m 56)] [0,1,5,6,7,8,9])
(.seq
(.reg [
.s 10 (.mv (.k 0))] [0,1,5,6,7,8,9,10])
(.seq
(.blk 1
(.seq
(.trim [0,1,5,6,7,8,9,10])
(.lop
(.seq
(.seq
(.seq
(.reg [
.s 57 (.m 8),
.s 58 (.m 9),
.s 59 (.bin .lss none (.t 57) (.t 58))] [0,1,5,6,7,8,9,10,59])
(.cnd (.t 59)
.skip
(.exit 1)))
(.blk 2
(.seq
(.seq
(.reg [
.s 60 (.m 0),
.s 61 (.m 8),
.s 62 (.ixS (.t 60) (.t 61)),
.s 63 (.m 6),
.s 64 (.bin .neq (some .int) (.t 62) (.t 63))] [0,1,5,6,7,8,9,10,64])
(.cnd (.t 64)
(.seq
(.reg [
.s 65 (.m 0),
.s 66 (.m 8),
.s 67 (.bin .add none (.t 66) (.k 1)),
.s 68 (.m 9),
.s 69 (.slS (.t 65) (some (.t 67)) (some (.t 68))),
.s 70 (.m 6),
.s 71 (.call 147 [(.t 69),(.t 70)]),
.s 11 (.m 71)] [0,1,5,6,7,8,9,10,11])
(.seq
(.seq
(.reg [
.s 72 (.m 11),
.s 73 (.bin .lss none (.t 72) (.k 0))] [0,1,5,6,7,8,9,10,11,73])
(.cnd (.t 73)
(.seq
(.reg [
.s 4 (.mv (.k (-1)))] [4])
.ret)
.skip))
(.reg [
.s 74 (.m 8),
.s 75 (.m 11),
.s 76 (.bin .add none (.t 75) (.k 1)),
.s 77 (.bin .add none (.t 74) (.t 76)),
.s 8 (.m 77)] [0,1,5,6,7,8,9,10])))
.skip))
(.seq
(.seq
(.reg [
.s 78 (.m 0),
.s 79 (.m 8),
.s 80 (.bin .add none (.t 79) (.k 1)),
.s 81 (.ixS (.t 78) (.t 80)),
.s 82 (.m 7),
.s 83 (.bin .eql (some .int) (.t 81) (.t 82)),
.s 84 (.m 83),
.g 85 (.m 0) 84 true,
.g 86 (.m 8) 84 true,
.g 87 (.m 8) 84 true,
.g 88 (.m 5) 84 true,
.g 89 (.bin .add none (.t 87) (.t 88)) 84 true,
.g 90 (.slS (.t 85) (some (.t 86)) (some (.t 89))) 84 true,
.g 91 (.m 1) 84 true,
.g 92 (.bin .eql (some .str) (.t 90) (.t 91)) 84 true,
.s 93 (.pick (.t 84) (.t 92) (.c (.bool false)))] [0,1,5,6,7,8,9,10,93])
(.cnd (.t 93)
(.seq
(.reg [
.s 94 (.m 8),
.s 4 (.m 94)] [4])
.ret)
.skip))
(.seq
(.reg [
.s 95 (.m 8),
.s 96 (.bin .add none (.t 95) (.k 1)),
.s 8 (.m 96)] [0,1,5,6,7,8,9,10])
(.seq
(.reg [
.s 97 (.m 10),
.s 98 (.bin .add none (.t 97) (.k 1)),
.s 10 (.m 98)] [0,1,5,6,7,8,9,10])
(.seq
(.reg [
.s 99 (.m 5),
.s 100 (.ld false 1 (.g 0)),
.s 101 (.bin .leq none (.t 99) (.t 100)),
.s 102 (.m 101),
.g 103 (.m 10) 102 true,
.g 104 (.m 8) 102 true,
.g 105 (.call 149 [(.t 104)]) 102 true,
.g 106 (.bin .gtr none (.t 103) (.t 105)) 102 true,
.s 107 (.pick (.t 102) (.t 106) (.c (.bool false)))] [0,1,5,6,7,8,9,10,107])
(.cnd (.t 107)
(.seq
.fail
(.seq
(.seq
(.reg [
.s 113 (.m 12),
.s 114 (.bin .geq none (.t 113) (.k 0))] [8,12,114])
(.cnd (.t 114)
(.seq
(.reg [
.s 115 (.m 12),
.s 116 (.m 8),
.s 117 (.bin .add none (.t 115) (.t 116)),
.s 4 (.m 117)] [4])
.ret)
.skip))
(.seq
(.reg [
.s 4 (.mv (.k (-1)))] [4])
.ret)))
(.seq
(.reg [
.s 118 (.m 5),
.s 119 (.ld false 1 (.g 0)),
.s 120 (.bin .gtr none (.t 118) (.t 119)),
.s 121 (.m 120),
.g 122 (.m 10) 121 true,
.g 123 (.m 8) 121 true,
.g 124 (.bin .shr none (.t 123) (.c (.int .u64 4))) 121 true,
.g 125 (.bin .add none (.k 4) (.t 124)) 121 true,
.g 126 (.bin .geq none (.t 122) (.t 125)) 121 true,
.s 127 (.pick (.t 121) (.t 126) (.c (.bool false))),
.s 128 (.m 127),
.g 129 (.m 8) 128 true,
.g 130 (.m 9) 128 true,
.g 131 (.bin .lss none (.t 129) (.t 130)) 128 true,
.s 132 (.pick (.t 128) (.t 131) (.c (.bool false)))] [0,1,5,6,7,8,9,10,132])
(.cnd (.t 132)
(.seq
(.reg [
.s 133 (.m 0),
.s 134 (.m 8),
.s 135 (.slS (.t 133) (some (.t 134)) none),
.s 136 (.m 1),
.s 137 (.call 150 [(.t 135),(.t 136)]),
.s 13 (.m 137)] [8,13])
(.seq
(.seq
(.reg [
.s 138 (.m 13),
.s 139 (.bin .lss none (.t 138) (.k 0))] [8,13,139])
(.cnd (.t 139)
(.seq
(.reg [
.s 4 (.mv (.k (-1)))] [4])
.ret)
.skip))
(.seq
(.reg [
.s 140 (.m 8),
.s 141 (.m 13),
.s 142 (.bin .add none (.t 140) (.t 141)),
.s 4 (.m 142)] [4])
.ret)))
.skip))))))))))
(.trim [0,1,5,6,7,8,9,10])))))
(.seq
(.reg [
.s 4 (.mv (.k (-1)))] [4])
.ret)))))))))),
[.tmp 4]⟩
/-- strings.HasPrefix -/
def F132 : DF := ⟨2,
(.seq
(.reg [
.s 4 (.mv (.c (.bool false)))] [0,1])
(.seq
(.reg [
.s 5 (.m 0),
.s 6 (.m 1),
.s 7 (.call 151 [(.t 5),(.t 6)]),
.s 4 (.m 7)] [4])
.ret)),
[.tmp 4]⟩
/-- strings.TrimPrefix -/
def F133 : DF := ⟨2,
(.seq
(.reg [
.s 4 (.mv (.c (.str [])))] [0,1])
(.seq
(.reg [
.s 5 (.m 0),
.s 6 (.m 1),
.s 7 (.call 152 [(.t 5),(.t 6)]),
.s 4 (.m 7)] [4])
.ret)),
[.tmp 4]⟩

/-- emend/num.digit -/
def F135 : DF := ⟨1,
(.seq
(.reg [
.s 2 (.mv (.c (.bool false)))] [0])
(.seq
(.reg [
.s 3 (.m 0),
.s 4 (.bin .geq none (.t 3) (.c (.int .u8 48))),
.s 5 (.m 4),
.g 6 (.m 0) 5 true,
.g 7 (.bin .leq none (.t 6) (.c (.int .u8 57))) 5 true,
.s 8 (.pick (.t 5) (.t 7) (.c (.bool false))),
.s 2 (.m 8)] [2])
.ret)),
[.tmp 2]⟩

/-- slices.insertionSortCmpFunc[int] -/
def F137 : DF := ⟨4,
(.seq
(.reg [
.s 10 (.m 1),
.s 11 (.bin .add none (.t 10) (.k 1)),
.s 8 (.m 11)] [0,1,2,3,8])
(.blk 0
(.seq
(.trim [0,1,2,3,8])
(.lop
(.seq
(.seq
(.seq
(.reg [
.s 12 (.m 8),
.s 13 (.m 2),
.s 14 (.bin .lss none (.t 12) (.t 13))] [0,1,2,3,8,14])
(.cnd (.t 14)
.skip
(.exit 0)))
(.seq
(.blk 1
(.seq
(.reg [
.s 17 (.m 8),
.s 9 (.m 17)] [0,1,2,3,8,9])
(.blk 2
(.seq
(.trim [0,1,2,3,8,9])
(.lop
(.seq
(.seq
(.seq
(.drw [
((.s 18 (.m 9),none),[]),
((.s 19 (.m 1),none),[]),
((.s 20 (.bin .gtr none (.t 18) (.t 19)),none),[]),
((.s 21 (.m 20),none),[]),
((.g 22 (.m 3) 21 true,none),[]),
((.g 23 (.m 0) 21 true,none),[]),
((.g 24 (.m 9) 21 true,none),[]),
((.g 25 (.ia 1 (.t 23) (.t 24)) 21 true,none),[]),
((.g 26 (.l 25) 21 true,none),[]),
((.g 27 (.m 0) 21 true,none),[]),
((.g 28 (.m 9) 21 true,none),[]),
((.g 29 (.bin .sub none (.t 28) (.k 1)) 21 true,none),[]),
((.g 30 (.ia 1 (.t 27) (.t 29)) 21 true,none),[]),
((.g 31 (.l 30) 21 true,none),[]),
((.g 32 (.callv (.t 22) [(.t 26),(.t 31)]) 21 true,none),[]),
((.g 33 (.bin .lss none (.t 32) (.k 0)) 21 true,none),[]),
((.s 34 (.pick (.t 21) (.t 33) (.c (.bool false))),none),[])] [0,1,2,3,8,9,34])
(.cnd (.t 34)
.skip
(.exit 2)))
(.seq
(.blk 3
(.drw [
((.s 37 (.m 0),none),[]),
((.s 38 (.m 9),none),[]),
((.s 39 (.m 0),none),[]),
((.s 40 (.m 9),none),[]),
((.s 41 (.bin .sub none (.t 40) (.k 1)),none),[]),
((.s 42 (.m 0),none),[]),
((.s 43 (.m 9),none),[]),
((.s 44 (.bin .sub none (.t 43) (.k 1)),none),[]),
((.s 45 (.ia 1 (.t 42) (.t 44)),none),[]),
((.s 46 (.l 45),none),[]),
((.s 47 (.m 0),none),[]),
((.s 48 (.m 9),none),[]),
((.s 49 (.ia 1 (.t 47) (.t 48)),none),[]),
((.s 50 (.l 49),none),[]),
((.s 51 (.ia 1 (.t 37) (.t 38)),none),[]),
((.n (.st 1 (.t 51) (.t 46)),none),[]),
((.s 52 (.ia 1 (.t 39) (.t 41)),none),[]),
((.n (.st 1 (.t 52) (.t 50)),none),[])] [0,1,2,3,8,9]))
(.reg [
.s 35 (.m 9),
.s 36 (.bin .sub none (.t 35) (.k 1)),
.s 9 (.m 36)] [0,1,2,3,8,9])))
(.trim [0,1,2,3,8,9])))))))
(.reg [
.s 15 (.m 8),
.s 16 (.bin .add none (.t 15) (.k 1)),
.s 8 (.m 16)] [0,1,2,3,8])))
(.trim [0,1,2,3,8])))))),
[]⟩
/-- slices.symMergeCmpFunc[int] -/
def F138 : DF := ⟨5,
(.seq
(.seq
(.reg [
.s 25 (.m 2),
.s 26 (.m 1),
.s 27 (.bin .sub none (.t 25) (.t 26)),
.s 28 (.bin .eql (some .int) (.t 27) (.k 1))] [0,1,2,3,4,28])
(.cnd (.t 28)
(.seq
(.reg [
.s 29 (.m 2),
.s 10 (.m 29)] [0,1,3,4,10])
(.seq
(.reg [
.s 30 (.m 3),
.s 11 (.m 30)] [0,1,4,10,11])
(.seq
(.blk 0
(.seq
(.trim [0,1,4,10,11])
(.lop
(.seq
(.seq
(.seq
(.reg [
.s 31 (.m 10),
.s 32 (.m 11),
.s 33 (.bin .lss none (.t 31) (.t 32))] [0,1,4,10,11,33])
(.cnd (.t 33)
.skip
(.exit 0)))
(.blk 1
(.seq
(.reg [
.s 34 (.m 10),
.s 35 (.m 11),
.s 36 (.bin .add none (.t 34) (.t 35)),
.s 37 (.cvI .u64 (.t 36)),
.s 38 (.bin .shr none (.t 37) (.c (.int .u64 1))),
.s 39 (.cvI .i64 (.t 38)),
.s 12 (.m 39)] [0,1,4,10,11,12])
(.seq
(.drw [
((.s 40 (.m 4),none),[]),
((.s 41 (.m 0),none),[]),
((.s 42 (.m 12),none),[]),
((.s 43 (.ia 1 (.t 41) (.t 42)),none),[]),
((.s 44 (.l 43),none),[]),
((.s 45 (.m 0),none),[]),
((.s 46 (.m 1),none),[]),
((.s 47 (.ia 1 (.t 45) (.t 46)),none),[]),
((.s 48 (.l 47),none),[]),
((.s 49 (.callv (.t 40) [(.t 44),(.t 48)]),none),[]),
((.s 50 (.bin .lss none (.t 49) (.k 0)),none),[])] [0,1,4,10,11,12,50])
(.cnd (.t 50)
(.reg [
.s 51 (.m 12),
.s 52 (.bin .add none (.t 51) (.k 1)),
.s 10 (.m 52)] [0,1,4,10,11])
(.reg [
.s 53 (.m 12),
.s 11 (.m 53)] [0,1,4,10,11]))))))
(.trim [0,1,4,10,11])))))
(.seq
(.seq
(.reg [
.s 54 (.m 1),
.s 13 (.m 54)] [0,10,13])
(.blk 2
(.seq
(.trim [0,10,13])
(.lop
(.seq
(.seq
(.seq
(.reg [
.s 55 (.m 13),
.s 56 (.m 10),
.s 57 (.bin .sub none (.t 56) (.k 1)),
.s 58 (.bin .lss none (.t 55) (.t 57))] [0,10,13,58])
(.cnd (.t 58)
.skip
(.exit 2)))
(.seq
(.blk 3
(.drw [
((.s 61 (.m 0),none),[]),
((.s 62 (.m 13),none),[]),
((.s 63 (.m 0),none),[]),
((.s 64 (.m 13),none),[]),
((.s 65 (.bin .add none (.t 64) (.k 1)),none),[]),
((.s 66 (.m 0),none),[]),
((.s 67 (.m 13),none),[]),
((.s 68 (.bin .add none (.t 67) (.k 1)),none),[]),
((.s 69 (.ia 1 (.t 66) (.t 68)),none),[]),
((.s 70 (.l 69),none),[]),
((.s 71 (.m 0),none),[]),
((.s 72 (.m 13),none),[]),
((.s 73 (.ia 1 (.t 71) (.t 72)),none),[]),
((.s 74 (.l 73),none),[]),
((.s 75 (.ia 1 (.t 61) (.t 62)),none),[]),
((.n (.st 1 (.t 75) (.t 70)),none),[]),
((.s 76 (.ia 1 (.t 63) (.t 65)),none),[]),
((.n (.st 1 (.t 76) (.t 74)),none),[])] [0,10,13]))
(.reg [
.s 59 (.m 13),
.s 60 (.bin .add none (.t 59) (.k 1)),
.s 13 (.m 60)] [0,10,13])))
(.trim [0,10,13]))))))
.ret))))
.skip))
(.seq
(.seq
(.reg [
.s 77 (.m 3),
.s 78 (.m 2),
.s 79 (.bin .sub none (.t 77) (.t 78)),
.s 80 (.bin .eql (some .int) (.t 79) (.k 1))] [0,1,2,3,4,80])
(.cnd (.t 80)
(.seq
(.reg [
.s 81 (.m 1),
.s 14 (.m 81)] [0,2,4,14])
(.seq
(.reg [
.s 82 (.m 2),
.s 15 (.m 82)] [0,2,4,14,15])
(.seq
(.blk 4
(.seq
(.trim [0,2,4,14,15])
(.lop
(.seq
(.seq
(.seq
(.reg [
.s 83 (.m 14),
.s 84 (.m 15),
.s 85 (.bin .lss none (.t 83) (.t 84))] [0,2,4,14,15,85])
(.cnd (.t 85)
.skip
(.exit 4)))
(.blk 5
(.seq
(.reg [
.s 86 (.m 14),
.s 87 (.m 15),
.s 88 (.bin .add none (.t 86) (.t 87)),
.s 89 (.cvI .u64 (.t 88)),
.s 90 (.bin .shr none (.t 89) (.c (.int .u64 1))),
.s 91 (.cvI .i64 (.t 90)),
.s 16 (.m 91)] [0,2,4,14,15,16])
(.seq
(.drw [
((.s 92 (.m 4),none),[]),
((.s 93 (.m 0),none),[]),
((.s 94 (.m 2),none),[]),
((.s 95 (.ia 1 (.t 93) (.t 94)),none),[]),
((.s 96 (.l 95),none),[]),
((.s 97 (.m 0),none),[]),
((.s 98 (.m 16),none),[]),
((.s 99 (.ia 1 (.t 97) (.t 98)),none),[]),
((.s 100 (.l 99),none),[]),
((.s 101 (.callv (.t 92) [(.t 96),(.t 100)]),none),[]),
((.s 102 (.bin .lss none (.t 101) (.k 0)),none),[]),
((.s 103 (.un .not (.t 102)),none),[])] [0,2,4,14,15,16,103])
(.cnd (.t 103)
(.reg [
.s 104 (.m 16),
.s 105 (.bin .add none (.t 104) (.k 1)),
.s 14 (.m 105)] [0,2,4,14,15])
(.reg [
.s 106 (.m 16),
.s 15 (.m 106)] [0,2,4,14,15]))))))
(.trim [0,2,4,14,15])))))
(.seq
(.seq
(.reg [
.s 107 (.m 2),
.s 17 (.m 107)] [0,14,17])
(.blk 6
(.seq
(.trim [0,14,17])
(.lop
(.seq
(.seq
(.seq
(.reg [
.s 108 (.m 17),
.s 109 (.m 14),
.s 110 (.bin .gtr none (.t 108) (.t 109))] [0,14,17,110])
(.cnd (.t 110)
.skip
(.exit 6)))
(.seq
(.blk 7
(.drw [
((.s 113 (.m 0),none),[]),
((.s 114 (.m 17),none),[]),
((.s 115 (.m 0),none),[]),
((.s 116 (.m 17),none),[]),
((.s 117 (.bin .sub none (.t 116) (.k 1)),none),[]),
((.s 118 (.m 0),none),[]),
((.s 119 (.m 17),none),[]),
((.s 120 (.bin .sub none (.t 119) (.k 1)),none),[]),
((.s 121 (.ia 1 (.t 118) (.t 120)),none),[]),
((.s 122 (.l 121),none),[]),
((.s 123 (.m 0),none),[]),
((.s 124 (.m 17),none),[]),
((.s 125 (.ia 1 (.t 123) (.t 124)),none),[]),
((.s 126 (.l 125),none),[]),
((.s 127 (.ia 1 (.t 113) (.t 114)),none),[]),
((.n (.st 1 (.t 127) (.t 122)),none),[]),
((.s 128 (.ia 1 (.t 115) (.t 117)),none),[]),
((.n (.st 1 (.t 128) (.t 126)),none),[])] [0,14,17]))
(.reg [
.s 111 (.m 17),
.s 112 (.bin .sub none (.t 111) (.k 1)),
.s 17 (.m 112)] [0,14,17])))
(.trim [0,14,17]))))))
.ret))))
.skip))
(.seq
(.reg [
.s 129 (.m 1),
.s 130 (.m 3),
.s 131 (.bin .add none (.t 129) (.t 130)),
.s 132 (.cvI .u64 (.t 131)),
.s 133 (.bin .shr none (.t 132) (.c (.int .u64 1))),
.s 134 (.cvI .i64 (.t 133)),
.s 18 (.m 134)] [0,1,2,3,4,18])
(.seq
(.reg [
.s 135 (.m 18),
.s 136 (.m 2),
.s 137 (.bin .add none (.t 135) (.t 136)),
.s 19 (.m 137)] [0,1,2,3,4,18,19])
(.seq
(.reg [
.s 20 (.mv (.k 0)),
.s 21 (.mv (.k 0))] [0,1,2,3,4,18,19])
(.seq
(.seq
(.reg [
.s 138 (.m 2),
.s 139 (.m 18),
.s 140 (.bin .gtr none (.t 138) (.t 139))] [0,1,2,3,4,18,19,140])
(.cnd (.t 140)
(.seq
(.reg [
.s 141 (.m 19),
.s 142 (.m 3),
.s 143 (.bin .sub none (.t 141) (.t 142)),
.s 20 (.m 143)] [0,1,2,3,4,18,19,20])
(.reg [
.s 144 (.m 18),
.s 21 (.m 144)] [0,1,2,3,4,18,19,20,21]))
(.seq
(.reg [
.s 145 (.m 1),
.s 20 (.m 145)] [0,1,2,3,4,18,19,20])
(.reg [
.s 146 (.m 2),
.s 21 (.m 146)] [0,1,2,3,4,18,19,20,21]))))
(.seq
(.reg [
.s 147 (.m 19),
.s 148 (.bin .sub none (.t 147) (.k 1)),
.s 22 (.m 148)] [0,1,2,3,4,18,19,20,21,22])
(.seq
(.blk 8
(.seq
(.trim [0,1,2,3,4,18,19,20,21,22])
(.lop
(.seq
(.seq
(.seq
(.reg [
.s 149 (.m 20),
.s 150 (.m 21),
.s 151 (.bin .lss none (.t 149) (.t 150))] [0,1,2,3,4,18,19,20,21,22,151])
(.cnd (.t 151)
.skip
(.exit 8)))
(.blk 9
(.seq
(.reg [
.s 152 (.m 20),
.s 153 (.m 21),
.s 154 (.bin .add none (.t 152) (.t 153)),
.s 155 (.cvI .u64 (.t 154)),
.s 156 (.bin .shr none (.t 155) (.c (.int .u64 1))),
.s 157 (.cvI .i64 (.t 156)),
.s 23 (.m 157)] [0,1,2,3,4,18,19,20,21,22,23])
(.seq
(.drw [
((.s 158 (.m 4),none),[]),
((.s 159 (.m 0),none),[]),
((.s 160 (.m 22),none),[]),
((.s 161 (.m 23),none),[]),
((.s 162 (.bin .sub none (.t 160) (.t 161)),none),[]),
((.s 163 (.ia 1 (.t 159) (.t 162)),none),[]),
((.s 164 (.l 163),none),[]),
((.s 165 (.m 0),none),[]),
((.s 166 (.m 23),none),[]),
((.s 167 (.ia 1 (.t 165) (.t 166)),none),[]),
((.s 168 (.l 167),none),[]),
((.s 169 (.callv (.t 158) [(.t 164),(.t 168)]),none),[]),
((.s 170 (.bin .lss none (.t 169) (.k 0)),none),[]),
((.s 171 (.un .not (.t 170)),none),[])] [0,1,2,3,4,18,19,20,21,22,23,171])
(.cnd (.t 171)
(.reg [
.s 172 (.m 23),
.s 173 (.bin .add none (.t 172) (.k 1)),
.s 20 (.m 173)] [0,1,2,3,4,18,19,20,21,22])
(.reg [
.s 174 (.m 23),
.s 21 (.m 174)] [0,1,2,3,4,18,19,20,21,22]))))))
(.trim [0,1,2,3,4,18,19,20,21,22])))))
(.seq
(.reg [
.s 175 (.m 19),
.s 176 (.m 20),
.s 177 (.bin .sub none (.t 175) (.t 176)),
.s 24 (.m 177)] [0,1,2,3,4,18,20,24])
(.seq
(.seq
(.reg [
.s 178 (.m 20),
.s 179 (.m 2),
.s 180 (.bin .lss none (.t 178) (.t 179)),
.s 181 (.m 180),
.g 182 (.m 2) 181 true,
.g 183 (.m 24) 181 true,
.g 184 (.bin .lss none (.t 182) (.t 183)) 181 true,
.s 185 (.pick (.t 181) (.t 184) (.c (.bool false)))] [0,1,2,3,4,18,20,24,185])
(.cnd (.t 185)
(.reg [
.s 186 (.m 0),
.s 187 (.m 20),
.s 188 (.m 2),
.s 189 (.m 24),
.s 190 (.m 4),
.s 191 (.call 156 [(.t 186),(.t 187),(.t 188),(.t 189),(.t 190)])] [0,1,3,4,18,20,24])
.skip))
(.seq
(.seq
(.reg [
.s 192 (.m 1),
.s 193 (.m 20),
.s 194 (.bin .lss none (.t 192) (.t 193)),
.s 195 (.m 194),
.g 196 (.m 20) 195 true,
.g 197 (.m 18) 195 true,
.g 198 (.bin .lss none (.t 196) (.t 197)) 195 true,
.s 199 (.pick (.t 195) (.t 198) (.c (.bool false)))] [0,1,3,4,18,20,24,199])
(.cnd (.t 199)
(.reg [
.s 200 (.m 0),
.s 201 (.m 1),
.s 202 (.m 20),
.s 203 (.m 18),
.s 204 (.m 4),
.s 205 (.call 138 [(.t 200),(.t 201),(.t 202),(.t 203),(.t 204)])] [0,3,4,18,24])
.skip))
(.seq
(.reg [
.s 206 (.m 18),
.s 207 (.m 24),
.s 208 (.bin .lss none (.t 206) (.t 207)),
.s 209 (.m 208),
.g 210 (.m 24) 209 true,
.g 211 (.m 3) 209 true,
.g 212 (.bin .lss none (.t 210) (.t 211)) 209 true,
.s 213 (.pick (.t 209) (.t 212) (.c (.bool false)))] [0,3,4,18,24,213])
(.cnd (.t 213)
(.reg [
.s 214 (.m 0),
.s 215 (.m 18),
.s 216 (.m 24),
.s 217 (.m 3),
.s 218 (.m 4),
.s 219 (.call 138 [(.t 214),(.t 215),(.t 216),(.t 217),(.t 218)])] [])
.skip))))))))))))),
[]⟩
/-- emend/emendref2.Digits -/
def F140 : DF := ⟨1,
(.seq
(.reg [
.s 2 (.mv (.c (.str [])))] [0])
(.seq
(.reg [
.s 6 (.mks 5 1 1 (.int .u8 0) (.k 0) (.k 0)),
.s 3 (.m 6)] [0,3])
(.seq
(.blk 0
(.seq
(.trim [0,3])
(.lop
(.seq
(.seq
(.seq
(.reg [
.s 7 (.m 0),
.s 8 (.bin .gtr none (.t 7) (.k 9))] [0,3,8])
(.cnd (.t 8)
.skip
(.exit 0)))
(.blk 1
(.seq
(.reg [
.s 9 (.m 3),
.s 10 (.m 0),
.s 11 (.bin .rem none (.t 10) (.k 10)),
.s 12 (.bin .add none (.k 48) (.t 11)),
.s 13 (.cvI .u8 (.t 12)),
.s 14 (.bldT 5 1 1 (.int .u8 0) [(0,(.t 13))]),
.s 15 (.app false 5 1 1 (.t 9) (.t 14)),
.s 3 (.m 15)] [0,3])
(.reg [
.s 16 (.m 0),
.s 17 (.bin .quo none (.t 16) (.k 10)),
.s 0 (.m 17)] [0,3]))))
(.trim [0,3])))))
(.seq
(.reg [
.s 18 (.m 3),
.s 19 (.m 0),
.s 20 (.bin .add none (.k 48) (.t 19)),
.s 21 (.cvI .u8 (.t 20)),
.s 22 (.bldT 5 1 1 (.int .u8 0) [(0,(.t 21))]),
.s 23 (.app false 5 1 1 (.t 18) (.t 22)),
.s 3 (.m 23)] [3])
(.seq
(.reg [
.s 24 (.mks 5 1 1 (.int .u8 0) (.k 0) (.k 0)),
.s 4 (.m 24)] [3,4])
(.seq
(.seq
(.reg [
.s 25 (.m 3),
.s 26 (.len (.t 25)),
.s 27 (.bin .sub none (.t 26) (.k 1)),
.s 5 (.m 27)] [3,4,5])
(.blk 2
(.seq
(.trim [3,4,5])
(.lop
(.seq
(.seq
(.seq
(.reg [
.s 28 (.m 5),
.s 29 (.bin .geq none (.t 28) (.k 0))] [3,4,5,29])
(.cnd (.t 29)
.skip
(.exit 2)))
(.seq
(.blk 3
(.reg [
.s 32 (.m 4),
.s 33 (.m 3),
.s 34 (.m 5),
.s 35 (.ia 1 (.t 33) (.t 34)),
.s 36 (.l 35),
.s 37 (.bldT 5 1 1 (.int .u8 0) [(0,(.t 36))]),
.s 38 (.app false 5 1 1 (.t 32) (.t 37)),
.s 4 (.m 38)] [3,4,5]))
(.reg [
.s 30 (.m 5),
.s 31 (.bin .sub none (.t 30) (.k 1)),
.s 5 (.m 31)] [3,4,5])))
(.trim [3,4,5]))))))
(.seq
(.reg [
.s 39 (.m 4),
.s 40 (.cvBS (.t 39)),
.s 2 (.m 40)] [2])
.ret))))))),
[.tmp 2]⟩
/-- emend/emendref1.Char -/
def F141 : DF := ⟨1,
(.seq
(.reg [
.s 2 (.mv (.c (.bool false)))] [0])
(.seq
(.reg [
.s 3 (.m 0),
.s 4 (.bin .geq none (.t 3) (.k 0)),
.s 5 (.m 4),
.g 6 (.m 0) 5 true,
.g 7 (.bin .leq none (.t 6) (.k 1114111)) 5 true,
.s 8 (.pick (.t 5) (.t 7) (.c (.bool false))),
.s 9 (.m 8),
.g 10 (.m 0) 9 true,
.g 11 (.bin .lss none (.t 10) (.k 55296)) 9 true,
.g 12 (.m 11) 9 true,
.g 13 (.m 0) 12 false,
.g 14 (.bin .gtr none (.t 13) (.k 57343)) 12 false,
.g 15 (.pick (.t 12) (.c (.bool true)) (.t 14)) 9 true,
.s 16 (.pick (.t 9) (.t 15) (.c (.bool false))),
.s 2 (.m 16)] [2])
.ret)),
[.tmp 2]⟩

/-- internal/stringslite.IndexByte -/
def F147 : DF := ⟨2,
(.seq
(.reg [
.s 4 (.mv (.k 0))] [0,1])
(.seq
(.reg [
.s 5 (.m 0),
.s 6 (.m 1),
.s 7 (.xtn .indexByte [(.t 5),(.t 6)]),
.s 4 (.m 7)] [4])
.ret)),
[.tmp 4]⟩

/-- internal/stringslite.HasPrefix -/
def F151 : DF := ⟨2,
(.seq
(.reg [
.s 4 (.mv (.c (.bool false)))] [0,1])
(.seq
(.reg [
.s 5 (.m 0),
.s 6 (.lenS (.t 5)),
.s 7 (.m 1),
.s 8 (.lenS (.t 7)),
.s 9 (.bin .geq none (.t 6) (.t 8)),
.s 10 (.m 9),
.g 11 (.m 0) 10 true,
.g 12 (.m 1) 10 true,
.g 13 (.lenS (.t 12)) 10 true,
.g 14 (.slS (.t 11) none (some (.t 13))) 10 true,
.g 15 (.m 1) 10 true,
.g 16 (.bin .eql (some .str) (.t 14) (.t 15)) 10 true,
.s 17 (.pick (.t 10) (.t 16) (.c (.bool false))),
.s 4 (.m 17)] [4])
.ret)),
[.tmp 4]⟩
/-- internal/stringslite.TrimPrefix -/
def F152 : DF := ⟨2,
(.seq
(.reg [
.s 4 (.mv (.c (.str [])))] [0,1])
(.seq
(.seq
(.reg [
.s 5 (.m 0),
.s 6 (.m 1),
.s 7 (.call 151 [(.t 5),(.t 6)])] [0,1,7])
(.cnd (.t 7)
(.seq
(.reg [
.s 8 (.m 0),
.s 9 (.m 1),
.s 10 (.lenS (.t 9)),
.s 11 (.slS (.t 8) (some (.t 10)) none),
.s 4 (.m 11)] [4])
.ret)
.skip))
(.seq
(.reg [
.s 12 (.m 0),
.s 4 (.m 12)] [4])
.ret))),
[.tmp 4]⟩

/-- slices.rotateCmpFunc[int] -/
def F156 : DF := ⟨5,
(.seq
(.reg [
.s 12 (.m 2),
.s 13 (.m 1),
.s 14 (.bin .sub none (.t 12) (.t 13)),
.s 10 (.m 14)] [0,2,3,4,10])
(.seq
(.reg [
.s 15 (.m 3),
.s 16 (.m 2),
.s 17 (.bin .sub none (.t 15) (.t 16)),
.s 11 (.m 17)] [0,2,4,10,11])
(.seq
(.blk 0
(.seq
(.trim [0,2,4,10,11])
(.lop
(.seq
(.seq
(.seq
(.reg [
.s 18 (.m 10),
.s 19 (.m 11),
.s 20 (.bin .neq (some .int) (.t 18) (.t 19))] [0,2,4,10,11,20])
(.cnd (.t 20)
.skip
(.exit 0)))
(.blk 1
(.seq
(.reg [
.s 21 (.m 10),
.s 22 (.m 11),
.s 23 (.bin .gtr none (.t 21) (.t 22))] [0,2,4,10,11,23])
(.cnd (.t 23)
(.seq
(.reg [
.s 24 (.m 0),
.s 25 (.m 2),
.s 26 (.m 10),
.s 27 (.bin .sub none (.t 25) (.t 26)),
.s 28 (.m 2),
.s 29 (.m 11),
.s 30 (.m 4),
.s 31 (.call 172 [(.t 24),(.t 27),(.t 28),(.t 29),(.t 30)])] [0,2,4,10,11])
(.reg [
.s 32 (.m 10),
.s 33 (.m 11),
.s 34 (.bin .sub none (.t 32) (.t 33)),
.s 10 (.m 34)] [0,2,4,10,11]))
(.seq
(.reg [
.s 35 (.m 0),
.s 36 (.m 2),
.s 37 (.m 10),
.s 38 (.bin .sub none (.t 36) (.t 37)),
.s 39 (.m 2),
.s 40 (.m 11),
.s 41 (.bin .add none (.t 39) (.t 40)),
.s 42 (.m 10),
.s 43 (.bin .sub none (.t 41) (.t 42)),
.s 44 (.m 10),
.s 45 (.m 4),
.s 46 (.call 172 [(.t 35),(.t 38),(.t 43),(.t 44),(.t 45)])] [0,2,4,10,11])
(.reg [
.s 47 (.m 11),
.s 48 (.m 10),
.s 49 (.bin .sub none (.t 47) (.t 48)),
.s 11 (.m 49)] [0,2,4,10,11]))))))
(.trim [0,2,4,10,11])))))
(.reg [
.s 50 (.m 0),
.s 51 (.m 2),
.s 52 (.m 10),
.s 53 (.bin .sub none (.t 51) (.t 52)),
.s 54 (.m 2),
.s 55 (.m 10),
.s 56 (.m 4),
.s 57 (.call 172 [(.t 50),(.t 53),(.t 54),(.t 55),(.t 56)])] [])))),
[]⟩

/-- slices.swapRangeCmpFunc[int] -/
def F172 : DF := ⟨5,
(.seq
(.reg [
.s 10 (.mv (.k 0))] [0,1,2,3,10])
(.blk 0
(.seq
(.trim [0,1,2,3,10])
(.lop
(.seq
(.seq
(.seq
(.reg [
.s 11 (.m 10),
.s 12 (.m 3),
.s 13 (.bin .lss none (.t 11) (.t 12))] [0,1,2,3,10,13])
(.cnd (.t 13)
.skip
(.exit 0)))
(.seq
(.blk 1
(.drw [
((.s 16 (.m 0),none),[]),
((.s 17 (.m 1),none),[]),
((.s 18 (.m 10),none),[]),
((.s 19 (.bin .add none (.t 17) (.t 18)),none),[]),
((.s 20 (.m 0),none),[]),
((.s 21 (.m 2),none),[]),
((.s 22 (.m 10),none),[]),
((.s 23 (.bin .add none (.t 21) (.t 22)),none),[]),
((.s 24 (.m 0),none),[]),
((.s 25 (.m 2),none),[]),
((.s 26 (.m 10),none),[]),
((.s 27 (.bin .add none (.t 25) (.t 26)),none),[]),
((.s 28 (.ia 1 (.t 24) (.t 27)),none),[]),
((.s 29 (.l 28),none),[]),
((.s 30 (.m 0),none),[]),
((.s 31 (.m 1),none),[]),
((.s 32 (.m 10),none),[]),
((.s 33 (.bin .add none (.t 31) (.t 32)),none),[]),
((.s 34 (.ia 1 (.t 30) (.t 33)),none),[]),
((.s 35 (.l 34),none),[]),
((.s 36 (.ia 1 (.t 16) (.t 19)),none),[]),
((.n (.st 1 (.t 36) (.t 29)),none),[]),
((.s 37 (.ia 1 (.t 20) (.t 23)),none),[]),
((.n (.st 1 (.t 37) (.t 35)),none),[])] [0,1,2,3,10]))
(.reg [
.s 14 (.m 10),
.s 15 (.bin .add none (.t 14) (.k 1)),
.s 10 (.m 15)] [0,1,2,3,10])))
(.trim [0,1,2,3,10])))))),
[]⟩

end Go.Proofs.C1

namespace Go.Dn
open Go Go.RowKit
section
variable {gt:GT}{C:CallT}
theorem afterS_imp (hm:MonoC C){dst:Option Nat}{env:Env}{S:St}{K K':Env->St->Prop}{Q Q':Ex->Env->St->Prop}{r:SR}(hk:∀e S,K e S->K' e S)(hq:∀x e S,Q x e S->Q' x e S)(h:afterS C dst env S K Q r):afterS C dst env S K' Q' r:=by
 cases r with
 | fail=>exact h
 | done e s=>exact hk _ _ h
 | pan v=>exact hq _ _ _ h
 | call f xs =>
  refine hm _ _ _ _ _ h λr S' hr=>?_;cases r with
  | ret v=>exact hk _ _ hr
  | pan v=>exact hq _ _ _ hr
theorem wpIs_imp (hm:MonoC C):∀(is:List DI) {env:Env} {S:St} {Q Q':Ex->Env->St->Prop},(∀x e S,Q x e S->Q' x e S)->wpIs gt C is env S Q->wpIs gt C is env S Q'
 | [],_,_,_,_,hq,h=>hq _ _ _ h
 | _::r,_,_,_,_,hq,h=>afterS_imp hm (λ_ _ h=>wpIs_imp hm r hq h) hq h
theorem wpDs_imp (hm:MonoC C):∀(is:List DRow) {env:Env} {S:St} {Q Q':Ex->Env->St->Prop},(∀x e S,Q x e S->Q' x e S)->wpDs gt C is env S Q->wpDs gt C is env S Q'
 | [],_,_,_,_,hq,h=>hq _ _ _ h
 | _::r,_,_,_,_,hq,h=>afterS_imp hm (λ_ _ h=>⟨h.1,wpDs_imp hm r hq h.2⟩) hq h
theorem wpD_imp (hm:MonoC C):∀(c:DC) {env:Env} {S:St} {Q Q':Ex->Env->St->Prop},(∀x e S,Q x e S->Q' x e S)->wpD gt C c env S Q->wpD gt C c env S Q'
 |.skip,_,_,_,_,hq,h=>hq _ _ _ h
 |.reg is keep,_,_,_,_,hq,h=>wpIs_imp hm is (λ_ _ _ h=>hq _ _ _ h) h
 |.drw is keep,_,_,_,_,hq,h=>wpDs_imp hm is (λ_ _ _ h=>hq _ _ _ h) h
 |.trim keep,_,_,_,_,hq,h=>hq _ _ _ h
 |.fail,_,_,_,_,_,h=>h
 |.ndet is keep,env,S,Q,Q',hq,h=>by
  simp only[wpD]at h ⊢;split at h
  ·exact afterS_imp hm (λ_ _ h=>⟨wpIs_imp hm _ (λ_ _ _ h=>hq _ _ _ h) h.1,wpIs_imp hm _ (λ_ _ _ h=>hq _ _ _ h) h.2⟩) (λ_ _ _ h=>hq _ _ _ h) h
  ·exact h.elim
 |.seq a b,_,_,_,_,hq,h=>wpD_imp hm a (λx e S h=>by
   cases x with
   | normal=>exact wpD_imp hm b hq h
   | _=>exact hq _ _ _ h) h
 |.cnd x a b,env,S,Q,Q',hq,h=>by
  simp only[wpD]at h ⊢;split at h
  ·rename_i t ht;split at h
   ·rename_i e;rw[if_pos e];exact wpD_imp hm a hq h
   ·rename_i e;rw[if_neg e];exact wpD_imp hm b hq h
  ·exact h.elim
 |.blk id c,_,_,_,_,hq,h=>wpD_imp hm c (λx e S h=>by
   cases x with
   | exit id' =>
    simp only at h ⊢;by_cases e:id'=id
    ·rw[if_pos e]at h ⊢;exact hq _ _ _ h
    ·rw[if_neg e]at h ⊢;exact hq _ _ _ h
   | _=>exact hq _ _ _ h) h
 |.lop c,env,S,Q,Q',hq,h=>by
  obtain⟨n,h⟩:=h;refine⟨n,?_⟩
  revert env S
  induction n with
  | zero=>intro env S h;exact h
  | succ n ih =>
   intro env S h;exact wpD_imp hm c (λx e S h=>by
    cases x with
    | normal=>exact ih _ _ h
    | _=>exact hq _ _ _ h) h
 |.exit id,_,_,_,_,hq,h=>hq _ _ _ h
 |.ret,_,_,_,_,hq,h=>hq _ _ _ h
theorem loop_rule (hm:MonoC C){c:DC}{Q:Ex->Env->St->Prop}{α:Type}(I:α->Env->St->Prop)(μ:α->Nat)
  (step:∀a env S,I a env S->wpD gt C c env S λe env' S'=>match e with
   |.normal=>∃b,I b env' S'/\μ b<μ a
   | e=>Q e env' S')
  {a:α} {env:Env} {S:St} (h:I a env S):∃n,iterD (wpD gt C c) n env S Q:=by
 have key:∀m a env S,μ a<=m->I a env S->iterD (wpD gt C c) (m+1) env S Q:=by
  intro m
  induction m with
  | zero =>
   intro a env S hm0 hI;refine wpD_imp hm c (λx e S h=>?_) (step a env S hI);cases x with
   | normal=>obtain⟨b,_,hb⟩:=h;omega
   | _=>exact h
  | succ m ih =>
   intro a env S hm0 hI;refine wpD_imp hm c (λx e S h=>?_) (step a env S hI);cases x with
   | normal=>obtain⟨b,h1,hb⟩:=h;exact ih b e S (by omega) h1
   | _=>exact h
 exact⟨_,key (μ a) a env S (nR _) h⟩
theorem step_rule {i:DI}{env env':Env}{S S':St}{K:Env->St->Prop}{Q:Ex->Env->St->Prop}(h:stepI gt i env S=.done env' S')(k:K env' S'):afterS C i.dst env S K Q (stepI gt i env S):=by
 rw[h];exact k
def Gd (env:Env)(gd:Option (Nat×Bool)):Prop:=match gd with
 | none=>True
 | some (g,w)=>lk env g=some (.val (.bool w))
theorem st_gd {d:Option Nat}{op:DOp}{gd:Option (Nat×Bool)}{env:Env}{S:St}(hg:Gd env gd):stepI gt ⟨d,op,gd⟩ env S=stepO gt d env S op:=by
 cases gd with
 | none=>rfl
 | some p =>
  obtain⟨g,w⟩:=p;have hg:lk env g=some (.val (.bool w)):=hg;simp only[stepI,hg,beq_self_eq_true,cond_true]
theorem call_rule {i:DI}{env:Env}{S:St}{K:Env->St->Prop}{Q:Ex->Env->St->Prop}{f:FuncId}{xs:List AV}(h:stepI gt i env S=.call f xs)(k:C f xs S λr S'=>match r with
  |.ret v=>K (putV i.dst v env) S'
  |.pan v=>Q (.pan v) env S'):afterS C i.dst env S K Q (stepI gt i env S):=by
 rw[h];exact k
end
section
variable {P:Program}{gt:GT}
end

def fieldsAt (P:Program):List Field->Nat->Option Nat
 | [],n=>some n
 | f::r,n=>if f.offset=n then fieldsAt P r (n+P.cellsOf f.type) else none
def okType (P:Program)(L:List TypeId)(t:TypeId):Bool :=
 match P.underlying t with
 | some .bool | some (.int _) | some .string=>true
 | some (.slice e)=>L.any (Nat.beq e) && Nat.blt 0 (P.cellsOf e)
 | some (.struct fs)=>(fs.toList.all λf=>L.any (Nat.beq f.type)) && decide (fieldsAt P fs.toList 0=some (P.cellsOf t))
 | _=>false
def okTypes (P:Program)(L:List TypeId):Bool:=L.all (okType P L)
theorem mapM_get {α β:Type}{f:α->Option β}:∀{l:List α} {r:List β},l.mapM f=some r->r.length=l.length/\∀(i:Nat) x,l[i]? = some x->∃y,f x=some y/\r[i]? = some y
 | [],r,h=>by rw[mapM_some_nil h];exact⟨rfl,λi x hx=>by simp at hx⟩
 | a::l,r,h=>by
  obtain⟨y,r',h1,h2,rfl⟩:=mapM_some_cons h;obtain⟨g1,g2⟩:=mapM_get h2;refine⟨by simp[g1],λi x hx=>?_⟩;cases i with
  | zero=>simp at hx;subst hx;exact⟨y,h1,rfl⟩
  | succ i=>simpa using g2 i x (by simpa using hx)
theorem cells_get {w:World}{base:Nat}{a:Addr}{n:Nat}{cs:List Value}(h:w.cells? base a n=some cs):cs.length=n/\∀i,i<n->w.cell? (a.add i)=cs[i]?:=by
 unfold World.cells? at h;split at h
 ·obtain⟨h1,h2⟩:=mapM_get h;refine⟨by simpa using h1,λi hi=>?_⟩;obtain⟨y,g1,g2⟩:=h2 i i (by simp[hi]);rw[g1,g2]
 ·cases h
theorem Rat_of_get {S:St}{G:Gh}{w:World}{b es:Nat}:∀{ys:List AV} {off:Nat},(∀(i:Nat) y,ys[i]? = some y->∃v,Rv S G w y v/\v.cells.size=es/\∀j,j<es->w.cell? ⟨b,off+i*es+j,none⟩=v.cells[j]?)->Rat S G w b es ys off
 | [],_,_=>by simp only[Rat]
 | y::ys,off,h=>by
  simp only[Rat];refine⟨?_,Rat_of_get λi z hz=>?_⟩
  ·obtain⟨v,h1,h2,h3⟩:=h 0 y rfl;exact⟨v,h1,h2,λj hj=>by have:=h3 j hj;rwa [Nat.zero_mul,Nat.add_zero]at this⟩
  ·obtain⟨v,h1,h2,h3⟩:=h (i+1) z (by simpa using hz);exact⟨v,h1,h2,λj hj=>by rw[<-h3 j hj,show off+es+i*es+j=off+(i+1)*es+j by rw[Nat.add_mul];omega]⟩
theorem seq_ex {α:Type}{n:Nat}{R:Nat->α->Prop}(h:∀i,i<n->∃y,R i y):∃ys:List α,ys.length=n/\∀i y,ys[i]? = some y->R i y:=by
 induction n with
 | zero=>exact⟨[],rfl,λi y hy=>by simp at hy⟩
 | succ n ih =>
  obtain⟨ys,h1,h2⟩:=ih λi hi=>h i (by omega);obtain⟨y,hy⟩:=h n (by omega);refine⟨ys++[y],by simp[h1],λi z hz=>?_⟩;rcases Nat.lt_or_ge i ys.length with hi | hi
  ·rw[List.getElem?_append_left hi]at hz;exact h2 i z hz
  ·rw[List.getElem?_append_right hi]at hz;have:i=n:=by
    have:=(List.getElem?_eq_some_iff.1 hz).1;simp at this;omega
   subst this;rw[h1,Nat.sub_self]at hz;simp at hz;subst hz;exact hy
section
variable {P:Program}{W:World}{H:Type}{enc:TypeId×Value->H}
theorem any_mem {L:List TypeId}{t:TypeId}(h:L.any (Nat.beq t)=true):t∈L:=by
 obtain⟨x,hx,e⟩:=List.any_eq_true.1 h;rw[bE e];exact hx
end

/-! ### the store only grows -/

def Wf (S : St) : Prop := ∀ t, S.nt ≤ t → lk S.mv t = none ∧ lk S.dl t = none

/-! ### slices as lists -/

theorem cutAll_get {agg : Bool} {es : Nat} {cs : List AV} : ∀ {n start : Nat} {ys : List AV}, cutAll agg es cs start n = some ys → ∀ {i : Nat} {y : AV}, ys[i]? = some y → (cut cs (start + i * es) es).bind (mkv agg) = some y
  | 0, _, ys, h, i, y, hy => by simp only [cutAll, oI] at h; subst h; simp at hy
  | n + 1, start, ys, h, i, y, hy => by
    simp only [cutAll] at h
    split at h
    · rename_i x r h1 h2
      simp only [oI] at h
      subst h
      cases i with
      | zero => simp at hy; subst hy; simpa using h1
      | succ i =>
        have := cutAll_get h2 (i := i) (by simpa using hy)
        rwa [show start + (i + 1) * es = start + es + i * es by rw [Nat.add_mul]; omega]
    · cases h

theorem mkv_cells' {agg : Bool} {cs : List AV} {y : AV} (h : mkv agg cs = some y) : y.cells = cs := by
  unfold mkv at h
  cases agg with
  | true => simp only [cond_true, oI] at h; subst h; rfl
  | false =>
    simp only [cond_false] at h
    split at h
    · rename_i c
      cases hn : notAgg c with
      | false => rw [hn] at h; cases h
      | true =>
        rw [hn] at h
        simp only [cond_true, oI] at h
        subst h
        cases c <;> first | rfl | cases hn
    · cases h

/-- an element's cells -/
theorem el_read {S : St} {agg : Bool} {es : Nat} {o : SI} {xs ys : List AV} (h : elems S agg es o xs = some ys) {i : Nat} {y : AV} (hy : ys[i]? = some y) : elCells S es o xs i = some y.cells := by
  unfold elems at h
  unfold elCells
  split at h
  · rename_i hr
    cases h
    simp [hy]
  · rename_i b boff hr
    split at h
    · rename_i ty cs hb
      have := cutAll_get h hy
      obtain ⟨c, h1, h2⟩ := Option.bind_eq_some_iff.1 this
      rw [show boff + (o.off + i) * es = boff + o.off * es + i * es by rw [Nat.add_mul]; omega, h1, mkv_cells' h2]
    · cases h
  · cases h

/-! ### pure trees -/

inductive PT where
  | mk (k : Int) (s : List UInt8) (keys : List (List UInt8)) (kids : List PT)

mutual
def PT.n : PT → Nat
  | .mk _ _ _ kids => PT.ns kids + 1
def PT.ns : List PT → Nat
  | [] => 0
  | t :: r => PT.n t + PT.ns r
end

theorem PT.n_pos (t : PT) : 0 < t.n := by cases t; simp [PT.n]
theorem PT.ns_mem {t : PT} : ∀ {l : List PT}, t ∈ l → t.n ≤ PT.ns l
  | a :: r, h => by
    simp only [PT.ns]
    rcases List.mem_cons.1 h with rfl | h
    · omega
    · have := PT.ns_mem h; omega
def strs (l : List (List UInt8)) : List AV := l.map .str

variable {R B : Nat → Prop}

theorem strs_get {l : List (List UInt8)} {i : Nat} {s : List UInt8} (h : l[i]? = some s) : (strs l)[i]? = some (.str s) := by simp [strs, h]
theorem strs_length (l : List (List UInt8)) : (strs l).length = l.length := by simp [strs]
theorem strs_ok (l : List (List UInt8)) : ((strs l).flatMap AV.cells).all ok1 = true := by
  induction l with
  | nil => rfl
  | cons a r ih => simp [strs, AV.cells, ok1]

/-! ### slices that are being built -/

theorem ble_true {a b : Nat} (h : a ≤ b) : Nat.ble a b = true := Nat.ble_eq_true_of_le h

/-! ### rules for regions that draw -/
section
variable {gt : GT} {C : CallT}

theorem step_ruleD {i : DI × Option Nat} {env env' : Env} {S S' : St} {K : Env → St → Prop} {Q : Ex → Env → St → Prop} (h : stepD gt i env S = .done env' S') (k : K env' S') : afterS C i.1.dst env S K Q (stepD gt i env S) := by
  rw [h]; exact k

theorem step_ruleO {d : Option Nat} {op : DOp} {env env' : Env} {S S' : St} {K : Env → St → Prop} {Q : Ex → Env → St → Prop} (h : stepO gt d env S op = .done env' S') (k : K env' S') : afterS C d env S K Q (stepI gt ⟨d, op, none⟩ env S) := by
  show afterS C d env S K Q (stepO gt d env S op)
  rw [h]; exact k

theorem step_ruleDO {d : Option Nat} {op : DOp} {l : Option Nat} {env env' : Env} {S S' : St} {K : Env → St → Prop} {Q : Ex → Env → St → Prop} (h0 : isLoc op = false) (h1 : conform l env op = true) (h : stepO gt d env S op = .done env' S') (k : K env' S') : afterS C d env S K Q (stepD gt (⟨d, op, none⟩, l) env S) := by
  have : stepD gt (⟨d, op, none⟩, l) env S = stepO gt d env S op := by simp only [stepD, stepDO, h0, h1, cond_false, cond_true]
  rw [this, h]; exact k

theorem call_ruleD {i : DI × Option Nat} {env : Env} {S : St} {K : Env → St → Prop} {Q : Ex → Env → St → Prop} {f : FuncId} {xs : List AV} (h : stepD gt i env S = .call f xs) (k : C f xs S fun r S' => match r with
    | .ret v => K (putV i.1.dst v env) S'
    | .pan v => Q (.pan v) env S') : afterS C i.1.dst env S K Q (stepD gt i env S) := by
  rw [h]; exact k

theorem sx_ia {d : Option Nat} {es : Nat} {x i : DOpd} {env : Env} {S : St} {o : SI} {xs : List AV} {k : Nat} (hx : opd env x = some (.sl es o xs)) (hi : (opd env i).bind nat? = some k) (hk : k < xs.length) :
    stepO gt d env S (.ia es x i) = .done (putV d (.eptr es o xs k 0) env) S := by
  simp only [stepO, hx, hi, Nat.beq_refl, Bool.true_and, show Nat.blt k xs.length = true from Nat.ble_eq_true_of_le hk, cond_true]

theorem sx_ldEl {d : Option Nat} {es : Nat} {a : DOpd} {env : Env} {S : St} {o : SI} {xs ys : List AV} {agg : Bool} {k off : Nat} {y v : AV} {g : Bool} {sz : Nat} (ha : loc env a = some (.el es o xs k off)) (he : elems S agg es o xs = some ys) (hv : ys[k]? = some y) (hm : (cut y.cells off sz).bind (mkv g) = some v) :
    stepO gt d env S (.ld g sz a) = .done (putV d v env) S := by
  simp only [stepO, ha, ldL, ldC, el_read he hv]
  cases hc : cut y.cells off sz with
  | none => rw [hc] at hm; cases hm
  | some cs => rw [hc] at hm; simp only [Option.bind_some] at hm; simp only [hm, SR.val]
end

mutual
def PT.ok : PT → Prop
  | .mk _ _ keys kids => keys.length * 16 ≤ 140737488355328 ∧ kids.length * 72 ≤ 140737488355328 ∧ PT.oks kids
def PT.oks : List PT → Prop
  | [] => True
  | t :: r => PT.ok t ∧ PT.oks r
end

theorem PT.oks_get : ∀ {l : List PT} {i : Nat} {t : PT}, PT.oks l → l[i]? = some t → t.ok
  | [], i, t, _, h => by simp at h
  | a :: r, 0, t, h, e => by simp only [PT.oks] at h; simp at e; subst e; exact h.1
  | a :: r, i + 1, t, h, e => by simp only [PT.oks] at h; exact PT.oks_get h.2 (i := i) (by simpa using e)

theorem wr64 {n : Int} (h : -9223372036854775808 ≤ n) (h2 : n < 9223372036854775808) : wr .i64 n = n := by
  rw [wr_eq]
  refine inR_wrap ?_
  cases n with
  | ofNat m => simp only [inR]; exact Nat.ble_eq_true_of_le (by have : (m : Int) < 9223372036854775808 := h2; omega)
  | negSucc m => simp only [inR]; exact Nat.ble_eq_true_of_le (by have : -9223372036854775808 ≤ -((m : Int) + 1) := by rw [← Int.negSucc_eq]; exact h
                                                                  omega)

theorem wrNat {k : Nat} (h : k + 1 < 9223372036854775808) : wr .i64 ((k : Int) + 1) = ((k + 1 : Nat) : Int) := by
  rw [wr64 (by omega) (by omega)]; rfl

def stat:SI:=⟨none,0,none,false⟩
mutual
def Sta:AV→Prop
  |.sl _ o ys=>o=stat∧Stas ys
  |.agg us=>Stas us
  |.tup us=>Stas us
  |.ifc _ u=>Sta u
  |.fn _ fs cs=>Stas fs∧Stas cs
  |.ptr _ _=>False
  |.map _=>False
  |.eptr _ _ _ _ _=>False
  | _=>True
def Stas:List AV→Prop
  | []=>True
  | u::us=>Sta u∧Stas us
end
mutual
def Rdo (S:St):AV→AV→Prop
  |.sl es o ys,x=>o=stat∧∃o' xs agg zs,x=.sl es o' xs∧elems S agg es o' xs=some zs∧Rdos S ys zs
  |.agg us,x=>∃xs,x=.agg xs∧Rdos S us xs
  |.tup us,x=>∃xs,x=.tup xs∧Rdos S us xs
  |.ifc t u,x=>∃y,x=.ifc t y∧Rdo S u y
  |.fn f fs cs,x=>∃a b,x=.fn f a b∧Rdos S fs a∧Rdos S cs b
  |.ptr _ _,_=>False
  |.map _,_=>False
  |.eptr _ _ _ _ _,_=>False
  |.undef,x=>x=.undef
  |.bool b,x=>x=.bool b
  |.int k n,x=>x=.int k n
  |.str s,x=>x=.str s
  |.nilp,x=>x=.nilp
  |.gptr g o,x=>x=.gptr g o
  |.anyp,x=>x=.anyp
  |.nilfn,x=>x=.nilfn
  |.nilif,x=>x=.nilif
  |.nilmap,x=>x=.nilmap
  |.raw v,x=>x=.raw v
def Rdos (S:St):List AV→List AV→Prop
  | [],xs=>xs=[]
  | u::us,xs=>∃x r,xs=x::r∧Rdo S u x∧Rdos S us r
end
section
variable {S:St}
mutual
theorem Sta.rdo:∀u,Sta u→Rdo S u u
  |.sl es o ys,h=>by
    simp only [Sta] at h
    simp only [Rdo]
    refine⟨h.1,o,ys,true,ys,rfl,?_,Stas.rdos ys h.2⟩
    rw [h.1];rfl
  |.agg us,h=>by simp only [Sta] at h;simp only [Rdo];exact⟨us,rfl,Stas.rdos us h⟩
  |.tup us,h=>by simp only [Sta] at h;simp only [Rdo];exact⟨us,rfl,Stas.rdos us h⟩
  |.ifc t u,h=>by simp only [Sta] at h;simp only [Rdo];exact⟨u,rfl,Sta.rdo u h⟩
  |.fn f fs cs,h=>by simp only [Sta] at h;simp only [Rdo];exact⟨fs,cs,rfl,Stas.rdos fs h.1,Stas.rdos cs h.2⟩
  |.ptr _ _,h=>h.elim
  |.map _,h=>h.elim
  |.eptr _ _ _ _ _,h=>h.elim
  |.undef,_ |.bool _,_ |.int _ _,_ |.str _,_ |.nilp,_ |.gptr _ _,_ |.anyp,_ |.nilfn,_ |.nilif,_ |.nilmap,_ |.raw _,_=>by simp only [Rdo]
theorem Stas.rdos:∀us,Stas us→Rdos S us us
  | [],_=>by simp only [Rdos]
  | u::us,h=>by simp only [Stas] at h;simp only [Rdos];exact⟨u,us,rfl,Sta.rdo u h.1,Stas.rdos us h.2⟩
end
theorem Rdos.length:∀{us xs:List AV},Rdos S us xs→xs.length=us.length
  | [],xs,h=>by simp only [Rdos] at h;rw [h]
  | u::us,xs,h=>by simp only [Rdos] at h;obtain⟨x,r,rfl,_,k⟩:=h;simp [k.length]
theorem sta_sl {es:Nat} {ys:List AV} (h:Stas ys):Sta (.sl es stat ys):=by simp only [Sta];exact⟨trivial,h⟩
end
section
variable {P:Program} {gt:GT} {S1 S2:St} {G1 G2:Gh} {w:World}
mutual
theorem Rdo.rv (hI:Inv P gt S1 G1 w) (h1:∀b,G1.st b→G2.st b) (h2:∀b,b<w.heap.size→Own S1 G1 b→G2.st b):∀(u x:AV) (v:Value),Rdo S1 u x→Rv S1 G1 w x v→Rv S2 G2 w u v
  |.sl es o ys,x,v,hx,hv=>by
    simp only [Rdo] at hx
    obtain⟨rfl,o',xs,agg,zs,rfl,he,hz⟩:=hx
    simp only [Rv] at hv ⊢
    obtain⟨a,len,cap,rfl,hs,hr⟩:=hv
    obtain⟨e1,e2,us,e3,e4,e5⟩:=elems_sound hI he hs hr
    have hly:=hz.length
    refine⟨a,len,cap,rfl,⟨by rw [hs.1,←e1,hly],hs.2.1,⟨(fun h=>by cases h),(fun h=>by cases h)⟩,(fun c h=>by cases h),hs.2.2.2.2.1,fun p hp hc=>?_⟩,fun _ p hp=>?_⟩
    · obtain⟨g1,g2,g3,g4⟩:=hs.2.2.2.2.2 p hp hc
      refine⟨g1,g2,g3,?_⟩
      have hlt:p.block<w.heap.size:=by obtain⟨ty,k,hk,_⟩:=g3;exact shape_lt hk
      rw [rd_none rfl]
      simp only [stat]
      cases hrd:rd S1 o' with
      | here =>
        rw [hrd] at g4
        simp only at g4
        cases ht:o'.tok with
        | none=>rw [ht] at g4;exact h1 _ g4
        | some q =>
          obtain⟨t,l⟩:=q
          rw [ht] at g4
          exact h2 _ hlt (.inr (.inl ⟨t,g4.1,g4.2.2.1⟩))
      | box b off =>
        rw [hrd] at g4
        exact h2 _ hlt (.inl ⟨b,g4.1,g4.2.1.symm⟩)
      | no =>
        unfold elems at he
        rw [hrd] at he
        cases he
    · by_cases hc:0<cap
      · obtain⟨e6,e7⟩:=e5 p hp hc
        exact Rdos.rat hI h1 h2 ys zs p.block p.off es hz (Rat.ofCells e3 e2 e7)
      · have:ys=[]:=by
          apply List.length_eq_zero_iff.1
          have:=hs.1;have:=hs.2.1;omega
        subst this
        simp only [Rat]
  |.agg us,x,v,hx,hv=>by
    simp only [Rdo] at hx
    obtain⟨xs,rfl,hx⟩:=hx
    simp only [Rv] at hv ⊢
    obtain⟨vs,rfl,hv⟩:=hv
    exact⟨vs,rfl,Rdos.rl hI h1 h2 us xs vs hx hv⟩
  |.tup us,x,v,hx,hv=>by
    simp only [Rdo] at hx
    obtain⟨xs,rfl,hx⟩:=hx
    simp only [Rv] at hv ⊢
    obtain⟨vs,rfl,hv⟩:=hv
    exact⟨vs,rfl,Rdos.rl hI h1 h2 us xs vs hx hv⟩
  |.ifc t u,x,v,hx,hv=>by
    simp only [Rdo] at hx
    obtain⟨y,rfl,hx⟩:=hx
    simp only [Rv] at hv ⊢
    obtain⟨z,rfl,hv⟩:=hv
    exact⟨z,rfl,Rdo.rv hI h1 h2 u y z hx hv⟩
  |.fn f fs cs,x,v,hx,hv=>by
    simp only [Rdo] at hx
    obtain⟨a,b,rfl,hx,hx'⟩:=hx
    simp only [Rv] at hv ⊢
    obtain⟨va,vb,rfl,hv,hv'⟩:=hv
    exact⟨va,vb,rfl,Rdos.rl hI h1 h2 fs a va hx hv,Rdos.rl hI h1 h2 cs b vb hx' hv'⟩
  |.ptr _ _,_,_,hx,_=>by simp only [Rdo] at hx
  |.map _,_,_,hx,_=>by simp only [Rdo] at hx
  |.eptr _ _ _ _ _,_,_,hx,_=>by simp only [Rdo] at hx
  |.undef,x,_,hx,hv |.bool _,x,_,hx,hv |.int _ _,x,_,hx,hv |.str _,x,_,hx,hv |.nilp,x,_,hx,hv |.gptr _ _,x,_,hx,hv |.anyp,x,_,hx,hv |.nilfn,x,_,hx,hv |.nilif,x,_,hx,hv |.nilmap,x,_,hx,hv |.raw _,x,_,hx,hv=>by
    simp only [Rdo] at hx
    subst hx
    simp only [Rv] at hv ⊢
    exact hv
theorem Rdos.rl (hI:Inv P gt S1 G1 w) (h1:∀b,G1.st b→G2.st b) (h2:∀b,b<w.heap.size→Own S1 G1 b→G2.st b):∀(us xs:List AV) (vs:List Value),Rdos S1 us xs→Rl S1 G1 w xs vs→Rl S2 G2 w us vs
  | [],xs,vs,hx,hv=>by simp only [Rdos] at hx;subst hx;simpa only [Rl] using hv
  | u::us,xs,vs,hx,hv=>by
    simp only [Rdos] at hx
    obtain⟨x,r,rfl,hx,hr⟩:=hx
    simp only [Rl] at hv ⊢
    obtain⟨v,vr,rfl,hv,hvr⟩:=hv
    exact⟨v,vr,rfl,Rdo.rv hI h1 h2 u x v hx hv,Rdos.rl hI h1 h2 us r vr hr hvr⟩
theorem Rdos.rat (hI:Inv P gt S1 G1 w) (h1:∀b,G1.st b→G2.st b) (h2:∀b,b<w.heap.size→Own S1 G1 b→G2.st b):∀(us xs:List AV) (b off es:Nat),Rdos S1 us xs→Rat S1 G1 w b es xs off→Rat S2 G2 w b es us off
  | [],xs,b,off,es,hx,hv=>by simp only [Rat]
  | u::us,xs,b,off,es,hx,hv=>by
    simp only [Rdos] at hx
    obtain⟨x,r,rfl,hx,hr⟩:=hx
    simp only [Rat] at hv ⊢
    obtain⟨⟨v,hv,hsz,hc⟩,hvr⟩:=hv
    exact⟨⟨v,Rdo.rv hI h1 h2 u x v hx hv,hsz,hc⟩,Rdos.rat hI h1 h2 us r b (off+es) es hr hvr⟩
end
mutual
theorem Sta.rv (h:∀b,b<w.heap.size→G1.st b→G2.st b):∀(u:AV) (v:Value),Sta u→Rv S1 G1 w u v→Rv S2 G2 w u v
  |.sl es o ys,v,hu,hv=>by
    simp only [Sta] at hu
    obtain⟨rfl,hu⟩:=hu
    simp only [Rv] at hv ⊢
    obtain⟨a,len,cap,rfl,hs,hr⟩:=hv
    refine⟨a,len,cap,rfl,⟨hs.1,hs.2.1,hs.2.2.1,hs.2.2.2.1,hs.2.2.2.2.1,fun p hp hc=>?_⟩,fun _ p hp=>Stas.rat h ys p.block p.off es hu (hr (rd_none rfl) p hp)⟩
    obtain⟨g1,g2,g3,g4⟩:=hs.2.2.2.2.2 p hp hc
    have hlt:p.block<w.heap.size:=by obtain⟨ty,k,hk,_⟩:=g3;exact shape_lt hk
    refine⟨g1,g2,g3,?_⟩
    rw [rd_none rfl] at g4 ⊢
    exact h _ hlt g4
  |.agg us,v,hu,hv=>by
    simp only [Sta] at hu
    simp only [Rv] at hv ⊢
    obtain⟨vs,rfl,hv⟩:=hv
    exact⟨vs,rfl,Stas.rl h us vs hu hv⟩
  |.tup us,v,hu,hv=>by
    simp only [Sta] at hu
    simp only [Rv] at hv ⊢
    obtain⟨vs,rfl,hv⟩:=hv
    exact⟨vs,rfl,Stas.rl h us vs hu hv⟩
  |.ifc t u,v,hu,hv=>by
    simp only [Sta] at hu
    simp only [Rv] at hv ⊢
    obtain⟨z,rfl,hv⟩:=hv
    exact⟨z,rfl,Sta.rv h u z hu hv⟩
  |.fn f fs cs,v,hu,hv=>by
    simp only [Sta] at hu
    simp only [Rv] at hv ⊢
    obtain⟨va,vb,rfl,hv,hv'⟩:=hv
    exact⟨va,vb,rfl,Stas.rl h fs va hu.1 hv,Stas.rl h cs vb hu.2 hv'⟩
  |.ptr _ _,_,hu,_=>by simp only [Sta] at hu
  |.map _,_,hu,_=>by simp only [Sta] at hu
  |.eptr _ _ _ _ _,_,hu,_=>by simp only [Sta] at hu
  |.undef,_,_,hv |.bool _,_,_,hv |.int _ _,_,_,hv |.str _,_,_,hv |.nilp,_,_,hv |.gptr _ _,_,_,hv |.anyp,_,_,hv |.nilfn,_,_,hv |.nilif,_,_,hv |.nilmap,_,_,hv |.raw _,_,_,hv=>by
    simp only [Rv] at hv ⊢
    exact hv
theorem Stas.rl (h:∀b,b<w.heap.size→G1.st b→G2.st b):∀(us:List AV) (vs:List Value),Stas us→Rl S1 G1 w us vs→Rl S2 G2 w us vs
  | [],vs,hu,hv=>by simpa only [Rl] using hv
  | u::us,vs,hu,hv=>by
    simp only [Stas] at hu
    simp only [Rl] at hv ⊢
    obtain⟨v,vr,rfl,hv,hvr⟩:=hv
    exact⟨v,vr,rfl,Sta.rv h u v hu.1 hv,Stas.rl h us vr hu.2 hvr⟩
theorem Stas.rat (h:∀b,b<w.heap.size→G1.st b→G2.st b):∀(us:List AV) (b off es:Nat),Stas us→Rat S1 G1 w b es us off→Rat S2 G2 w b es us off
  | [],b,off,es,hu,hv=>by simp only [Rat]
  | u::us,b,off,es,hu,hv=>by
    simp only [Stas] at hu
    simp only [Rat] at hv ⊢
    obtain⟨⟨v,hv,hsz,hc⟩,hvr⟩:=hv
    exact⟨⟨v,Sta.rv h u v hu.1 hv,hsz,hc⟩,Stas.rat h us b (off+es) es hu.2 hvr⟩
end
end
section
variable {P:Program} {gt:GT}
def Gst (st:Nat→Prop):Gh:=⟨fun _=>0,fun _=>0,fun _=>0,fun _=>0,fun _=>0,st⟩
theorem ownG {st:Nat→Prop} {b:Nat}:¬Own St.init (Gst st) b:=by
  rintro (⟨i,hi,_⟩ | ⟨i,hi,_⟩ | ⟨i,hi,_⟩)<;>exact absurd hi (Nat.not_lt_zero i)
theorem invG {st:Nat→Prop} {w:World} (hl:∀b,st b→b<w.heap.size) (hg:∀g cs,lk gt g=some cs→st g∧∃c ty fr,w.heap[g]? = some (.cells c ty fr)∧Rl St.init (Gst st) w cs c.toList):Inv P gt St.init (Gst st) w :=
  { boxLt:=fun i hi=>absurd hi (Nat.not_lt_zero i)
    tokLt:=fun i hi=>absurd hi (Nat.not_lt_zero i)
    mapLt:=fun i hi=>absurd hi (Nat.not_lt_zero i)
    stLt:=hl
    stOwn:=fun b _=>ownG
    box:=fun i ty cs h=>by cases h
    boxInj:=fun i i' x x' h=>by cases h
    boxTok:=fun i x t h=>by cases h
    map:=fun i hi=>absurd hi (Nat.not_lt_zero i)
    mapInj:=fun i i' hi=>absurd hi (Nat.not_lt_zero i)
    tip:=fun t n ty sf h=>by cases h
    tipInj:=fun t t' x x' h=>by cases h
    line:=fun t t' ht=>absurd ht (Nat.not_lt_zero t)
    lnLt:=fun t ht=>absurd ht (Nat.not_lt_zero t)
    kBox:=fun i _=>rfl
    kMap:=fun i _=>rfl
    kMv:=fun i _=>rfl
    kTip:=fun i _=>rfl
    kDl:=fun i _=>rfl
    glob:=hg }
theorem own_lt {S:St} {G:Gh} {w:World} (h:Inv P gt S G w) {b:Nat} (ho:Own S G b):b<w.heap.size:=by
  rcases ho with⟨i,hi,rfl⟩ | ⟨i,hi,rfl⟩ | ⟨i,hi,rfl⟩
  · exact h.boxLt i hi
  · exact h.tokLt i hi
  · exact h.mapLt i hi
def addSt (G:Gh) (n m:Nat):Gh:={ G with st:=fun b=>G.st b∨(n≤b∧b<m) }
section
variable {S:St} {G:Gh} {w w':World}
theorem own_add {n m b:Nat}:Own S (addSt G n m) b↔Own S G b:=Iff.rfl
theorem ext_add (hI:Inv P gt S G w) (h:Gr w w'):Ext S G w S (addSt G w.heap.size w'.heap.size) w' where
  nb:=nR _
  nt:=nR _
  nm:=nR _
  β _ _:=rfl
  τ _ _:=rfl
  ln _ _:=rfl
  μ _ _:=rfl
  size:=h.size
  own _ _ h:=h
  st b hb:=⟨.inl hb,h.same b (hI.stLt b hb)⟩
  stNew b hb hs:=by
    rcases hs with hs | hs
    · exact hs
    · omega
  shape b x hx:=by simpa [World.shape?,h.same b (shape_lt hx)] using hx
  mv _ _ _ h:=h
  dl _ h:=h
  sea t ht _ _:=⟨nR _,fun i _=>by simp only [World.cell?,h.same _ (hI.tokLt t ht)]⟩
  moved t b o _ h h':=by rw [h] at h';cases h'
  os:=h.os
  tape:=h.tape
  output:=h.output
theorem inv_add (hI:Inv P gt S G w) (h:Gr w w'):Inv P gt S (addSt G w.heap.size w'.heap.size) w' where
  boxLt id hi:=Nat.lt_of_lt_of_le (hI.boxLt id hi) h.size
  tokLt id hi:=Nat.lt_of_lt_of_le (hI.tokLt id hi) h.size
  mapLt id hi:=Nat.lt_of_lt_of_le (hI.mapLt id hi) h.size
  stLt b hb:=by
    rcases hb with hb | hb
    · exact Nat.lt_of_lt_of_le (hI.stLt b hb) h.size
    · exact hb.2
  stOwn b hb ho:=by
    rcases hb with hb | hb
    · exact hI.stOwn b hb ho
    · have:=own_lt hI (own_add.1 ho);omega
  box id ty cs hb:=by
    obtain⟨h1,c,fr,sf,pre,rest,h2,h3,h4,h5⟩:=hI.box id ty cs hb
    exact⟨h1,c,fr,sf,pre,rest,by rw [←h2];exact h.same _ (hI.boxLt id h1),h3,h4,h5.mono (ext_add hI h)⟩
  boxInj:=hI.boxInj
  boxTok:=hI.boxTok
  map id hi:=by
    obtain⟨es,ents,clk,h1,h2,h3⟩:=hI.map id hi
    exact⟨es,ents,clk,h1,by rw [←h2];exact h.same _ (hI.mapLt id hi),h3.mono (ext_add hI h)⟩
  mapInj:=hI.mapInj
  tip t n ty sf ht:=by
    obtain⟨h1,h2⟩:=hI.tip t n ty sf ht
    refine⟨h1,fun hv=>?_⟩
    obtain⟨es,c,fr,e1,e2,e3⟩:=h2 hv
    exact⟨es,c,fr,e1,by rw [←e2];exact h.same _ (hI.tokLt t h1),e3⟩
  tipInj:=hI.tipInj
  line:=hI.line
  lnLt:=hI.lnLt
  kBox:=hI.kBox
  kMap:=hI.kMap
  kMv:=hI.kMv
  kTip:=hI.kTip
  kDl:=hI.kDl
  glob g cs hg:=by
    obtain⟨h1,c,ty,fr,h2,h3⟩:=hI.glob g cs hg
    exact⟨.inl h1,c,ty,fr,by rw [h.same _ (hI.stLt g h1)];exact h2,h3.mono (ext_add hI h)⟩
end
theorem gr_of_tr {st:Nat→Prop} {S1:St} {G1:Gh} {w w1:World} (t:Tr P gt St.init (Gst st) w S1 G1 w1):Gr w w1 :=
  ⟨t.ext.os,t.ext.tape,t.ext.output,t.ext.size,fun b hb=>t.keep b hb ownG⟩
def GtSta (gt:GT):Prop:=∀g cs,lk gt g=some cs→Stas cs
theorem AC_pure (hgt:GtSta gt) {f:FuncId} {us:List AV} {Φ:AV→Prop} (hus:Stas us)
    (h:AC P gt f us St.init fun r S1=>∃x u,r=.ret x∧Rdo S1 u x∧Φ u) (S:St) :
    AC P gt f us S fun r S'=>∃u,r=.ret u∧Φ u∧S'=S:=by
  refine⟨h.1,fun G w args hI hx=>?_⟩
  have hI0:Inv P gt St.init (Gst G.st) w:=invG hI.stLt fun g cs hg=>by
    obtain⟨h1,c,ty,fr,h2,h3⟩:=hI.glob g cs hg
    exact⟨h1,c,ty,fr,h2,Stas.rl (G1:=G) (G2:=Gst G.st) (fun b _ hb=>hb) cs _ (hgt g cs hg) h3⟩
  refine Calls.mono (h.2 (Gst G.st) w args hI0 (Stas.rl (G1:=G) (G2:=Gst G.st) (fun b _ hb=>hb) us _ hus hx)) fun e w1 hp=>?_
  cases e with
  | returned v =>
    obtain⟨x',S1,G1,⟨x,u,e,hr,hφ⟩,t,rv⟩:=hp
    cases e
    have g:=gr_of_tr t
    refine⟨u,S,addSt G w.heap.size w1.heap.size,⟨u,rfl,hφ,rfl⟩,⟨inv_add hI g,ext_add hI g,fun b hb _=>g.same b hb⟩,?_⟩
    refine Rdo.rv t.inv (fun b hb=>?_) (fun b hb ho=>?_) u _ v hr rv
    · rcases Nat.lt_or_ge b w.heap.size with hlt | hge
      · exact .inl (t.ext.stNew b hlt hb)
      · exact .inr ⟨hge,t.inv.stLt b hb⟩
    · rcases Nat.lt_or_ge b w.heap.size with hlt | hge
      · exact absurd (t.ext.own b hlt ho) ownG
      · exact .inr ⟨hge,hb⟩
  | panicked chain=>obtain⟨x',S1,G1,u',hc,⟨x,u,e,_⟩,_⟩:=hp;cases e
  | outgrown=>exact hp.elim
end
def PF (C:CallT) (f:FuncId) (us:List AV) (u:AV):Prop:=∀S,C f us S fun r S'=>r=.ret u∧S'=S
theorem PF.of_init {P:Program} {gt:GT} (hgt:GtSta gt) {f:FuncId} {us:List AV} {u:AV} (hus:Stas us) (h:AC P gt f us St.init fun r S1=>∃x,r=.ret x∧Rdo S1 u x):PF (AC P gt) f us u:=fun S=>by
  refine AC_mono _ _ _ _ _ (AC_pure (Φ:=fun u'=>u'=u) hgt hus (AC_mono _ _ _ _ _ h ?_) S) ?_
  · rintro r S1 ⟨x,rfl,hx⟩;exact⟨x,u,rfl,hx,rfl⟩
  · rintro r S1 ⟨_,rfl,rfl,rfl⟩;exact⟨rfl,rfl⟩
section
variable {gt:GT} {C:CallT}
theorem call_pf (hm:MonoC C) {i:DI} {env:Env} {S:St} {K:Env→St→Prop} {Q:Ex→Env→St→Prop} {f:FuncId} {xs:List AV} {u:AV} (h:stepI gt i env S=.call f xs) (hp:PF C f xs u) (k:K (putV i.dst u env) S):afterS C i.dst env S K Q (stepI gt i env S):=by
  refine call_rule h (hm _ _ _ _ _ (hp S) ?_)
  rintro r S' ⟨rfl,rfl⟩
  exact k
theorem call_pfD (hm:MonoC C) {i:DI×Option Nat} {env:Env} {S:St} {K:Env→St→Prop} {Q:Ex→Env→St→Prop} {f:FuncId} {xs:List AV} {u:AV} (h:stepD gt i env S=.call f xs) (hp:PF C f xs u) (k:K (putV i.1.dst u env) S):afterS C i.1.dst env S K Q (stepD gt i env S):=by
  refine call_ruleD h (hm _ _ _ _ _ (hp S) ?_)
  rintro r S' ⟨rfl,rfl⟩
  exact k
end
end Go.Dn
