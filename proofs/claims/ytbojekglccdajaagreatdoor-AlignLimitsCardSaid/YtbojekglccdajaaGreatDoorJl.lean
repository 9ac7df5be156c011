/- The code of the functions that are reached, printed by a program (Gen). Walking abstract code with symbols: rules. The entry: what is read as data, as abstract values. Trees over the abstract store, and how a store grows. Pure data: what a function that reads pure data and makes new things says, whatever the store. What a function holds in the store: slices that grow, maps, variables; each apart from the others. The walk of what needs no thought, as a lemma that a tactic of its own serves. Trees as pure data; the reference's Size, Copy, Plain; the program's Copy. Trees: the reference's Copy and Plain, the program's Copy. Trees: the reference's Plain; the program's Copy. Arrays that are made and written in place. Steps as pure data; lists of them: Same, Roomy, Intact. The entry, with the bulk of what is read; slices as pure data. The entry of laws about trees: what is read, as trees; that they are right where little is read. The entry of laws about steps. Trees: a copy whose lists are one's own, and may be written. -/
import Derived.Test.YtbojekglccdajaaGreatDoorProg
import Derived.Test.YtbojekglccdajaaGreatDoorJk
set_option linter.unusedSimpArgs false
set_option linter.unusedVariables false
namespace Go.Proofs.C1
open Go Go.Dn
set_option maxRecDepth 100000
abbrev _root_.Go.Dn.DOp.m (n : Nat) : DOp := .mv (.t n)
abbrev _root_.Go.Dn.DOp.l (n : Nat) : DOp := .ld false 1 (.t n)
abbrev nz : SI := ⟨none,0,some 0,true⟩
abbrev _root_.Go.Dn.DOpd.k (n : Int) : DOpd := .c (.int .i64 n)

/-- emend/emendlaw13.AlignLimits -/
def F8 : DF := ⟨1,
(.seq
(.reg [
.s 2 (.mv (.c (.bool false)))] [0])
(.seq
(.reg [
.s 13 (.m 0),
.s 14 (.call 25 [(.t 13),(.k (-1)),(.k 1)]),
.s 3 (.m 14)] [3])
(.seq
(.reg [
.s 15 (.mks 47 4 72 (.agg [(.int .i64 0),(.str []),(.sl 1 nz []),(.sl 4 nz [])]) (.k 256) (.k 256)),
.s 4 (.m 15)] [3,4])
(.seq
(.reg [
.s 16 (.m 3),
.s 17 (.bin .add none (.k 256) (.t 16)),
.s 18 (.mks 47 4 72 (.agg [(.int .i64 0),(.str []),(.sl 1 nz []),(.sl 4 nz [])]) (.t 17) (.t 17)),
.s 5 (.m 18)] [3,4,5])
(.seq
(.seq
(.reg [
.s 6 (.mv (.k 0))] [3,4,5,6])
(.blk 0
(.seq
(.trim [3,4,5,6])
(.lop
(.seq
(.seq
(.seq
(.reg [
.s 19 (.m 6),
.s 20 (.m 4),
.s 21 (.len (.t 20)),
.s 22 (.bin .lss none (.t 19) (.t 21))] [3,4,5,6,22])
(.cnd (.t 22)
.skip
(.exit 0)))
(.seq
(.blk 1
(.reg [
.s 25 (.m 4),
.s 26 (.m 6),
.s 27 (.bld [(.int .i64 0),(.str []),(.sl 1 nz []),(.sl 4 nz [])] [(0,1,(.k 1))]),
.s 28 (.ia 4 (.t 25) (.t 26)),
.n (.st 4 (.t 28) (.t 27))] [3,4,5,6]))
(.reg [
.s 23 (.m 6),
.s 24 (.bin .add none (.t 23) (.k 1)),
.s 6 (.m 24)] [3,4,5,6])))
(.trim [3,4,5,6]))))))
(.seq
(.seq
(.reg [
.s 7 (.mv (.k 0))] [3,4,5,7])
(.blk 2
(.seq
(.trim [3,4,5,7])
(.lop
(.seq
(.seq
(.seq
(.reg [
.s 29 (.m 7),
.s 30 (.m 5),
.s 31 (.len (.t 30)),
.s 32 (.bin .lss none (.t 29) (.t 31))] [3,4,5,7,32])
(.cnd (.t 32)
.skip
(.exit 2)))
(.seq
(.blk 3
(.reg [
.s 35 (.m 5),
.s 36 (.m 7),
.s 37 (.bld [(.int .i64 0),(.str []),(.sl 1 nz []),(.sl 4 nz [])] [(0,1,(.k 1))]),
.s 38 (.ia 4 (.t 35) (.t 36)),
.n (.st 4 (.t 38) (.t 37))] [3,4,5,7]))
(.reg [
.s 33 (.m 7),
.s 34 (.bin .add none (.t 33) (.k 1)),
.s 7 (.m 34)] [3,4,5,7])))
(.trim [3,4,5,7]))))))
(.seq
(.reg [
.s 40 (.m 4),
.s 41 (.m 5),
.s 42 (.call 11 [(.t 40),(.t 41)]),
.s 39 (.m 42),
.s 43 (.ext (.t 39) 0),
.s 44 (.ext (.t 39) 1),
.s 45 (.ext (.t 39) 2),
.s 8 (.m 43),
.s 9 (.m 44),
.s 10 (.m 45)] [3,4,5,8,9,10])
(.seq
(.reg [
.s 47 (.m 4),
.s 48 (.m 5),
.s 49 (.call 13 [(.k 3),(.c (.str [])),(.t 47),(.t 48)]),
.s 46 (.m 49),
.s 50 (.ext (.t 46) 0),
.s 51 (.ext (.t 46) 1),
.s 11 (.m 50),
.s 12 (.m 51)] [3,8,9,10,11,12])
(.seq
(.seq
(.reg [
.s 52 (.m 3),
.s 53 (.bin .gtr none (.t 52) (.k 0))] [3,8,9,10,11,12,53])
(.cnd (.t 53)
(.seq
(.reg [
.s 54 (.m 8),
.s 55 (.len (.t 54)),
.s 56 (.bin .eql (some .int) (.t 55) (.k 0)),
.s 57 (.m 56),
.g 58 (.m 9) 57 true,
.g 59 (.bin .eql (some .int) (.t 58) (.k 0)) 57 true,
.s 60 (.pick (.t 57) (.t 59) (.c (.bool false))),
.s 61 (.m 60),
.g 62 (.m 10) 61 true,
.g 63 (.bin .eql (some .int) (.t 62) (.k 52)) 61 true,
.s 64 (.pick (.t 61) (.t 63) (.c (.bool false))),
.s 65 (.m 64),
.g 66 (.m 11) 65 true,
.g 67 (.len (.t 66)) 65 true,
.g 68 (.bin .eql (some .int) (.t 67) (.k 0)) 65 true,
.s 69 (.pick (.t 65) (.t 68) (.c (.bool false))),
.s 70 (.m 69),
.g 71 (.m 12) 70 true,
.g 72 (.bin .eql (some .int) (.t 71) (.k 52)) 70 true,
.s 73 (.pick (.t 70) (.t 72) (.c (.bool false))),
.s 74 (.m 73),
.g 75 (.call 3 []) 74 true,
.s 76 (.pick (.t 74) (.t 75) (.c (.bool false))),
.s 2 (.m 76)] [2])
.ret)
.skip))
(.seq
(.reg [
.s 77 (.m 8),
.s 78 (.len (.t 77)),
.s 79 (.m 3),
.s 80 (.bin .add none (.k 256) (.t 79)),
.s 81 (.bin .eql (some .int) (.t 78) (.t 80)),
.s 82 (.m 81),
.g 83 (.m 9) 82 true,
.g 84 (.m 3) 82 true,
.g 85 (.bin .mul none (.k (-2)) (.t 84)) 82 true,
.g 86 (.bin .eql (some .int) (.t 83) (.t 85)) 82 true,
.s 87 (.pick (.t 82) (.t 86) (.c (.bool false))),
.s 88 (.m 87),
.g 89 (.m 10) 88 true,
.g 90 (.bin .eql (some .int) (.t 89) (.k 0)) 88 true,
.s 91 (.pick (.t 88) (.t 90) (.c (.bool false))),
.s 92 (.m 91),
.g 93 (.m 12) 92 true,
.g 94 (.bin .eql (some .int) (.t 93) (.k 0)) 92 true,
.s 95 (.pick (.t 92) (.t 94) (.c (.bool false))),
.s 96 (.m 95),
.g 97 (.m 8) 96 true,
.g 98 (.m 11) 96 true,
.g 99 (.call 14 [(.t 97),(.t 98)]) 96 true,
.s 100 (.pick (.t 96) (.t 99) (.c (.bool false))),
.s 101 (.m 100),
.g 102 (.call 3 []) 101 true,
.s 103 (.pick (.t 101) (.t 102) (.c (.bool false))),
.s 2 (.m 103)] [2])
.ret)))))))))),
[.tmp 2]⟩
/-- emend/align.Cost -/
def F11 : DF := ⟨2,
(.seq
(.reg [
.s 4 (.mv (.c (.sl 1 nz []))),
.s 5 (.mv (.k 0)),
.s 6 (.mv (.k 0))] [0,1])
(.seq
(.seq
(.reg [
.s 13 (.m 0),
.s 14 (.len (.t 13)),
.s 15 (.bin .gtr none (.t 14) (.k 0)),
.s 16 (.m 15),
.g 17 (.m 1) 16 true,
.g 18 (.len (.t 17)) 16 true,
.g 19 (.m 0) 16 true,
.g 20 (.len (.t 19)) 16 true,
.g 21 (.bin .quo none (.k 65536) (.t 20)) 16 true,
.g 22 (.bin .gtr none (.t 18) (.t 21)) 16 true,
.s 23 (.pick (.t 16) (.t 22) (.c (.bool false)))] [0,1,23])
(.cnd (.t 23)
(.seq
(.reg [
.s 4 (.mv (.c (.sl 1 nz []))),
.s 5 (.mv (.k 0)),
.s 6 (.mv (.k 52))] [4,5,6])
.ret)
.skip))
(.seq
(.reg [
.s 24 (.m 1),
.s 25 (.len (.t 24)),
.s 26 (.mks 3 1 8 (.int .i64 0) (.t 25) (.t 25)),
.s 7 (.m 26)] [0,1,7])
(.seq
(.seq
(.reg [
.s 27 (.m 7),
.s 28 (.len (.t 27)),
.s 29 (.mv (.k 0))] [0,1,7,28,29])
(.blk 0
(.seq
(.trim [0,1,7,28,29])
(.lop
(.seq
(.seq
(.reg [
.s 30 (.bin .lss none (.t 29) (.t 28))] [0,1,7,28,29,30])
(.seq
(.cnd (.t 30)
.skip
(.exit 0))
(.seq
(.blk 1
(.seq
(.reg [
.s 31 (.m 29),
.s 8 (.m 31)] [0,1,7,8,28,29])
(.reg [
.s 32 (.m 7),
.s 33 (.m 8),
.s 34 (.ia 1 (.t 32) (.t 33)),
.n (.st 1 (.t 34) (.k (-1)))] [0,1,7,28,29])))
(.reg [
.s 35 (.bin .add none (.t 29) (.k 1)),
.s 29 (.m 35)] [0,1,7,28,29]))))
(.trim [0,1,7,28,29]))))))
(.seq
(.seq
(.reg [
.s 36 (.m 0),
.s 37 (.len (.t 36)),
.s 38 (.bin .eql (some .int) (.t 37) (.k 0)),
.s 39 (.m 38),
.g 40 (.m 1) 39 false,
.g 41 (.len (.t 40)) 39 false,
.g 42 (.bin .eql (some .int) (.t 41) (.k 0)) 39 false,
.s 43 (.pick (.t 39) (.c (.bool true)) (.t 42))] [0,1,7,43])
(.cnd (.t 43)
(.seq
(.reg [
.s 44 (.m 7),
.s 45 (.m 0),
.s 46 (.len (.t 45)),
.s 47 (.m 1),
.s 48 (.len (.t 47)),
.s 49 (.bin .add none (.t 46) (.t 48)),
.s 50 (.bin .mul none (.k 2) (.t 49)),
.s 4 (.m 44),
.s 5 (.m 50),
.s 6 (.mv (.k 0))] [4,5,6])
.ret)
.skip))
(.seq
(.reg [
.s 51 (.m 0),
.s 52 (.m 1),
.s 53 (.mkm),
.s 54 (.bld [(.sl 4 nz []),(.sl 4 nz []),.nilmap] [(0,1,(.t 51)),(1,1,(.t 52)),(2,1,(.t 53))]),
.s 55 (.bxH 56 (.t 54)),
.s 9 (.m 55)] [0,1,7,9])
(.seq
(.reg [
.s 56 (.m 9),
.s 57 (.call 27 [(.t 56)])] [0,1,7,9])
(.seq
(.reg [
.s 58 (.m 0),
.s 59 (.len (.t 58)),
.s 60 (.m 1),
.s 61 (.len (.t 60)),
.s 10 (.m 59),
.s 11 (.m 61)] [0,1,7,9,10,11])
(.seq
(.blk 2
(.seq
(.trim [0,1,7,9,10,11])
(.lop
(.seq
(.seq
(.seq
(.reg [
.s 62 (.m 10),
.s 63 (.bin .gtr none (.t 62) (.k 0)),
.s 64 (.m 63),
.g 65 (.m 11) 64 true,
.g 66 (.bin .gtr none (.t 65) (.k 0)) 64 true,
.s 67 (.pick (.t 64) (.t 66) (.c (.bool false)))] [0,1,7,9,10,11,67])
(.cnd (.t 67)
.skip
(.exit 2)))
(.blk 3
(.seq
(.reg [
.s 68 (.m 9),
.s 69 (.nilc (.t 68)),
.s 70 (.fa 2 (.t 69)),
.s 71 (.l 70),
.s 72 (.m 10),
.s 73 (.m 11),
.s 74 (.bld [(.int .i64 0),(.int .i64 0)] [(0,1,(.t 72)),(1,1,(.t 73))]),
.s 75 (.lkp (.st [(0,.int),(1,.int)]) (.int .i64 0) (.t 71) (.t 74) false),
.s 12 (.m 75)] [0,1,7,9,10,11,12])
(.blk 4
(.seq
(.drw [
((.s 79 (.m 12),none),[]),
((.s 80 (.m 9),none),[]),
((.s 81 (.nilc (.t 80)),none),[]),
((.s 82 (.fa 2 (.t 81)),none),[]),
((.s 83 (.l 82),none),[]),
((.s 84 (.m 10),none),[]),
((.s 85 (.bin .sub none (.t 84) (.k 1)),none),[]),
((.s 86 (.m 11),none),[]),
((.s 87 (.bin .sub none (.t 86) (.k 1)),none),[]),
((.s 88 (.bld [(.int .i64 0),(.int .i64 0)] [(0,1,(.t 85)),(1,1,(.t 87))]),none),[]),
((.s 89 (.lkp (.st [(0,.int),(1,.int)]) (.int .i64 0) (.t 83) (.t 88) false),none),[]),
((.s 90 (.m 9),none),[]),
((.s 91 (.m 10),none),[]),
((.s 92 (.m 11),none),[]),
((.s 93 (.call 28 [(.t 90),(.t 91),(.t 92)]),none),[(.s 83 (.l 82),none),(.s 89 (.lkp (.st [(0,.int),(1,.int)]) (.int .i64 0) (.t 83) (.t 88) false),none)]),
((.s 94 (.bin .add none (.t 89) (.t 93)),none),[]),
((.s 95 (.bin .eql (some .int) (.t 79) (.t 94)),none),[]),
((.s 78 (.m 95),none),[])] [0,1,7,9,10,11,12,78])
(.cnd (.t 78)
(.seq
(.reg [
.s 96 (.m 7),
.s 97 (.m 11),
.s 98 (.bin .sub none (.t 97) (.k 1)),
.s 99 (.m 10),
.s 100 (.bin .sub none (.t 99) (.k 1)),
.s 101 (.ia 1 (.t 96) (.t 98)),
.n (.st 1 (.t 101) (.t 100))] [0,1,7,9,10,11])
(.reg [
.s 102 (.m 10),
.s 103 (.bin .sub none (.t 102) (.k 1)),
.s 104 (.m 11),
.s 105 (.bin .sub none (.t 104) (.k 1)),
.s 10 (.m 103),
.s 11 (.m 105)] [0,1,7,9,10,11]))
(.seq
(.reg [
.s 107 (.m 12),
.s 108 (.m 9),
.s 109 (.nilc (.t 108)),
.s 110 (.fa 2 (.t 109)),
.s 111 (.l 110),
.s 112 (.m 10),
.s 113 (.bin .sub none (.t 112) (.k 1)),
.s 114 (.m 11),
.s 115 (.bld [(.int .i64 0),(.int .i64 0)] [(0,1,(.t 113)),(1,1,(.t 114))]),
.s 116 (.lkp (.st [(0,.int),(1,.int)]) (.int .i64 0) (.t 111) (.t 115) false),
.s 117 (.bin .add none (.t 116) (.k 2)),
.s 118 (.bin .eql (some .int) (.t 107) (.t 117)),
.s 106 (.m 118)] [0,1,7,9,10,11,106])
(.cnd (.t 106)
(.reg [
.s 119 (.m 10),
.s 120 (.bin .sub none (.t 119) (.k 1)),
.s 10 (.m 120)] [0,1,7,9,10,11])
(.reg [
.s 76 (.m 11),
.s 77 (.bin .sub none (.t 76) (.k 1)),
.s 11 (.m 77)] [0,1,7,9,10,11])))))))))
(.trim [0,1,7,9,10,11])))))
(.seq
(.drw [
((.s 121 (.m 7),none),[]),
((.s 122 (.m 9),none),[]),
((.s 123 (.nilc (.t 122)),none),[]),
((.s 124 (.fa 2 (.t 123)),none),[]),
((.s 125 (.l 124),none),[]),
((.s 126 (.m 0),none),[]),
((.s 127 (.len (.t 126)),none),[]),
((.s 128 (.m 1),none),[]),
((.s 129 (.len (.t 128)),none),[]),
((.s 130 (.bld [(.int .i64 0),(.int .i64 0)] [(0,1,(.t 127)),(1,1,(.t 129))]),none),[]),
((.s 131 (.lkp (.st [(0,.int),(1,.int)]) (.int .i64 0) (.t 125) (.t 130) false),none),[]),
((.s 4 (.m 121),none),[]),
((.s 5 (.m 131),none),[]),
((.s 6 (.mv (.k 0)),none),[])] [4,5,6])
.ret)))))))))),
[.tmp 4,.tmp 5,.tmp 6]⟩

/-- emend/align.Do -/
def F13 : DF := ⟨4,
(.seq
(.reg [
.s 8 (.mv (.c (.sl 1 nz []))),
.s 9 (.mv (.k 0))] [0,1,2,3])
(.seq
(.seq
(.reg [
.s 13 (.m 0)] [1,2,3,13])
(.blk 0
(.seq
(.reg [
.s 15 (.bin .eql (some .int) (.t 13) (.k 1)),
.s 14 (.m 15)] [1,2,3,13,14])
(.cnd (.t 14)
(.seq
(.reg [
.s 16 (.m 2),
.s 17 (.m 3),
.s 18 (.call 15 [(.t 16),(.t 17)]),
.s 8 (.m 18),
.s 9 (.mv (.k 0))] [8,9])
.ret)
(.seq
(.reg [
.s 20 (.bin .eql (some .int) (.t 13) (.k 2)),
.s 19 (.m 20)] [1,2,3,13,19])
(.cnd (.t 19)
(.seq
(.reg [
.s 21 (.m 2),
.s 22 (.m 3),
.s 23 (.m 1),
.s 24 (.call 16 [(.t 21),(.t 22),(.t 23)]),
.s 8 (.m 24),
.s 9 (.mv (.k 0))] [8,9])
.ret)
(.seq
(.reg [
.s 26 (.bin .eql (some .int) (.t 13) (.k 3)),
.s 25 (.m 26)] [2,3,25])
(.cnd (.t 25)
(.seq
(.reg [
.s 28 (.m 2),
.s 29 (.m 3),
.s 30 (.call 11 [(.t 28),(.t 29)]),
.s 27 (.m 30),
.s 31 (.ext (.t 27) 0),
.s 32 (.ext (.t 27) 1),
.s 33 (.ext (.t 27) 2),
.s 10 (.m 31),
.s 11 (.m 32),
.s 12 (.m 33)] [10,12])
(.seq
(.reg [
.s 34 (.m 10),
.s 35 (.m 12),
.s 8 (.m 34),
.s 9 (.m 35)] [8,9])
.ret))
.skip))))))))
(.seq
(.reg [
.s 8 (.mv (.c (.sl 1 nz []))),
.s 9 (.mv (.k 1))] [8,9])
.ret))),
[.tmp 8,.tmp 9]⟩
/-- emend/emendbook.Same[int] -/
def F14 : DF := ⟨2,
(.seq
(.reg [
.s 4 (.mv (.c (.bool false)))] [0,1])
(.seq
(.seq
(.reg [
.s 6 (.m 0),
.s 7 (.len (.t 6)),
.s 8 (.m 1),
.s 9 (.len (.t 8)),
.s 10 (.bin .neq (some .int) (.t 7) (.t 9))] [0,1,10])
(.cnd (.t 10)
(.seq
(.reg [
.s 4 (.mv (.c (.bool false)))] [4])
.ret)
.skip))
(.seq
(.seq
(.reg [
.s 5 (.mv (.k 0))] [0,1,5])
(.blk 0
(.seq
(.trim [0,1,5])
(.lop
(.seq
(.seq
(.seq
(.reg [
.s 11 (.m 5),
.s 12 (.m 0),
.s 13 (.len (.t 12)),
.s 14 (.bin .lss none (.t 11) (.t 13))] [0,1,5,14])
(.cnd (.t 14)
.skip
(.exit 0)))
(.seq
(.blk 1
(.seq
(.drw [
((.s 17 (.m 0),none),[]),
((.s 18 (.m 5),none),[]),
((.s 19 (.ia 1 (.t 17) (.t 18)),none),[]),
((.s 20 (.l 19),none),[]),
((.s 21 (.m 1),none),[]),
((.s 22 (.m 5),none),[]),
((.s 23 (.ia 1 (.t 21) (.t 22)),none),[]),
((.s 24 (.l 23),none),[]),
((.s 25 (.bin .neq (some .int) (.t 20) (.t 24)),none),[])] [0,1,5,25])
(.cnd (.t 25)
(.seq
(.reg [
.s 4 (.mv (.c (.bool false)))] [4])
.ret)
.skip)))
(.reg [
.s 15 (.m 5),
.s 16 (.bin .add none (.t 15) (.k 1)),
.s 5 (.m 16)] [0,1,5])))
(.trim [0,1,5]))))))
(.seq
(.reg [
.s 4 (.mv (.c (.bool true)))] [4])
.ret)))),
[.tmp 4]⟩
/-- emend/align.Place -/
def F15 : DF := ⟨2,
(.seq
(.reg [
.s 4 (.mv (.c (.sl 1 nz [])))] [0,1])
(.seq
(.reg [
.s 7 (.m 1),
.s 8 (.len (.t 7)),
.s 9 (.mks 3 1 8 (.int .i64 0) (.k 0) (.t 8)),
.s 5 (.m 9)] [0,1,5])
(.seq
(.seq
(.reg [
.s 10 (.m 1),
.s 11 (.len (.t 10)),
.s 12 (.mv (.k 0))] [0,5,11,12])
(.blk 0
(.seq
(.trim [0,5,11,12])
(.lop
(.seq
(.seq
(.reg [
.s 13 (.bin .lss none (.t 12) (.t 11))] [0,5,11,12,13])
(.seq
(.cnd (.t 13)
.skip
(.exit 0))
(.seq
(.blk 1
(.seq
(.reg [
.s 14 (.m 12),
.s 6 (.m 14)] [0,5,6,11,12])
(.seq
(.reg [
.s 15 (.m 6),
.s 16 (.m 0),
.s 17 (.len (.t 16)),
.s 18 (.bin .lss none (.t 15) (.t 17))] [0,5,6,11,12,18])
(.cnd (.t 18)
(.reg [
.s 19 (.m 5),
.s 20 (.m 6),
.s 21 (.bldT 3 1 1 (.int .i64 0) [(0,(.t 20))]),
.s 22 (.app false 3 1 8 (.t 19) (.t 21)),
.s 5 (.m 22)] [0,5,11,12])
(.reg [
.s 23 (.m 5),
.s 24 (.bldT 3 1 1 (.int .i64 0) [(0,(.k (-1)))]),
.s 25 (.app false 3 1 8 (.t 23) (.t 24)),
.s 5 (.m 25)] [0,5,11,12])))))
(.reg [
.s 26 (.bin .add none (.t 12) (.k 1)),
.s 12 (.m 26)] [0,5,11,12]))))
(.trim [0,5,11,12]))))))
(.seq
(.reg [
.s 27 (.m 5),
.s 4 (.m 27)] [4])
.ret)))),
[.tmp 4]⟩
/-- emend/align.Key -/
def F16 : DF := ⟨3,
(.seq
(.reg [
.s 6 (.mv (.c (.sl 1 nz [])))] [0,1,2])
(.seq
(.reg [
.s 18 (.mkm),
.s 7 (.m 18)] [0,1,2,7])
(.seq
(.reg [
.s 19 (.m 1),
.s 20 (.len (.t 19)),
.s 21 (.mks 3 1 8 (.int .i64 0) (.k 0) (.t 20)),
.s 8 (.m 21)] [0,1,2,7,8])
(.seq
(.seq
(.reg [
.s 22 (.m 1),
.s 23 (.len (.t 22)),
.s 24 (.mv (.k 0))] [0,2,7,8,22,23,24])
(.blk 0
(.seq
(.trim [0,2,7,8,22,23,24])
(.lop
(.seq
(.seq
(.reg [
.s 25 (.bin .lss none (.t 24) (.t 23))] [0,2,7,8,22,23,24,25])
(.seq
(.cnd (.t 25)
.skip
(.exit 0))
(.seq
(.blk 1
(.seq
(.reg [
.s 26 (.ia 4 (.t 22) (.t 24)),
.s 27 (.ld true 4 (.t 26)),
.s 10 (.alL [(.int .i64 0),(.str []),(.sl 1 nz []),(.sl 4 nz [])]),
.n (.st 4 (.t 10) (.t 27))] [0,2,7,8,10,22,23,24])
(.seq
(.reg [
.s 29 (.ld true 4 (.t 10)),
.s 30 (.m 2),
.s 31 (.call 30 [(.t 29),(.t 30)]),
.s 28 (.m 31),
.s 32 (.ext (.t 28) 0),
.s 33 (.ext (.t 28) 1),
.s 11 (.alL [(.int .i64 0),(.str []),(.sl 1 nz []),(.sl 4 nz [])]),
.n (.st 4 (.t 11) (.t 32)),
.s 12 (.m 33)] [0,2,7,8,11,12,22,23,24])
(.seq
(.reg [
.s 13 (.mv (.k (-1)))] [0,2,7,8,11,12,13,22,23,24])
(.seq
(.seq
(.reg [
.s 34 (.m 0),
.s 35 (.len (.t 34)),
.s 36 (.mv (.k 0))] [0,2,7,8,11,12,13,22,23,24,34,35,36])
(.blk 2
(.seq
(.trim [0,2,7,8,11,12,13,22,23,24,34,35,36])
(.lop
(.seq
(.seq
(.reg [
.s 37 (.bin .lss none (.t 36) (.t 35))] [0,2,7,8,11,12,13,22,23,24,34,35,36,37])
(.seq
(.cnd (.t 37)
.skip
(.exit 2))
(.seq
(.blk 3
(.seq
(.reg [
.s 38 (.m 36),
.s 39 (.ia 4 (.t 34) (.t 36)),
.s 40 (.ld true 4 (.t 39)),
.s 15 (.alL [(.int .i64 0),(.str []),(.sl 1 nz []),(.sl 4 nz [])]),
.s 14 (.m 38),
.n (.st 4 (.t 15) (.t 40))] [0,2,7,8,11,12,13,14,15,22,23,24,34,35,36])
(.seq
(.reg [
.s 42 (.ld true 4 (.t 15)),
.s 43 (.m 2),
.s 44 (.call 30 [(.t 42),(.t 43)]),
.s 41 (.m 44),
.s 45 (.ext (.t 41) 0),
.s 46 (.ext (.t 41) 1),
.s 16 (.alL [(.int .i64 0),(.str []),(.sl 1 nz []),(.sl 4 nz [])]),
.n (.st 4 (.t 16) (.t 45)),
.s 17 (.m 46)] [0,2,7,8,11,12,13,14,16,17,22,23,24,34,35,36])
(.seq
(.reg [
.s 47 (.m 13),
.s 48 (.bin .lss none (.t 47) (.k 0)),
.s 49 (.m 48),
.g 50 (.m 7) 49 true,
.g 51 (.m 14) 49 true,
.g 52 (.bld [(.int .i64 0)] [(0,1,(.t 51))]) 49 true,
.g 53 (.lkp (.st [(0,.int)]) (.int .i64 0) (.t 50) (.t 52) false) 49 true,
.g 54 (.bin .eql (some .int) (.t 53) (.k 0)) 49 true,
.s 55 (.pick (.t 49) (.t 54) (.c (.bool false))),
.s 56 (.m 55),
.g 57 (.m 12) 56 true,
.g 58 (.m 17) 56 true,
.g 59 (.bin .eql (some .bool) (.t 57) (.t 58)) 56 true,
.s 60 (.pick (.t 56) (.t 59) (.c (.bool false))),
.s 61 (.m 60),
.g 62 (.m 12) 61 true,
.g 63 (.un .not (.t 62)) 61 true,
.g 64 (.m 63) 61 true,
.g 65 (.ld true 4 (.t 11)) 64 false,
.g 66 (.ld true 4 (.t 16)) 64 false,
.g 67 (.call 31 [(.t 65),(.t 66)]) 64 false,
.g 68 (.pick (.t 64) (.c (.bool true)) (.t 67)) 61 true,
.s 69 (.pick (.t 61) (.t 68) (.c (.bool false)))] [0,2,7,8,11,12,13,14,22,23,24,34,35,36,69])
(.cnd (.t 69)
(.seq
(.reg [
.s 70 (.m 14),
.s 13 (.m 70)] [0,2,7,8,11,12,13,14,22,23,24,34,35,36])
(.drw [
((.s 71 (.m 7),none),[]),
((.s 72 (.m 14),none),[]),
((.s 73 (.bld [(.int .i64 0)] [(0,1,(.t 72))]),none),[]),
((.s 74 (.lkp (.st [(0,.int)]) (.int .i64 0) (.t 71) (.t 73) false),none),[]),
((.s 75 (.bin .add none (.t 74) (.k 1)),none),[]),
((.s 76 (.mpe (.st [(0,.int)]) (.int .i64 0) (.t 71) (.t 73)),none),[(.s 74 (.lkp (.st [(0,.int)]) (.int .i64 0) (.t 71) (.t 73) false),none)]),
((.s 77 (.ext (.t 76) 1),none),[]),
((.n (.ens (.t 71) (.t 77) (.t 75)),none),[])] [0,2,7,8,11,12,13,22,23,24,34,35,36]))
.skip)))))
(.reg [
.s 78 (.bin .add none (.t 36) (.k 1)),
.s 36 (.m 78)] [0,2,7,8,11,12,13,22,23,24,34,35,36]))))
(.trim [0,2,7,8,11,12,13,22,23,24,34,35,36]))))))
(.reg [
.s 79 (.m 8),
.s 80 (.m 13),
.s 81 (.bldT 3 1 1 (.int .i64 0) [(0,(.t 80))]),
.s 82 (.app false 3 1 8 (.t 79) (.t 81)),
.s 8 (.m 82)] [0,2,7,8,22,23,24]))))))
(.reg [
.s 83 (.bin .add none (.t 24) (.k 1)),
.s 24 (.m 83)] [0,2,7,8,22,23,24]))))
(.trim [0,2,7,8,22,23,24]))))))
(.seq
(.reg [
.s 84 (.m 8),
.s 6 (.m 84)] [6])
.ret))))),
[.tmp 6]⟩
/-- emend/align.Right -/
def F17 : DF := ⟨2,
(.seq
(.reg [
.s 4 (.mv (.c (.bool false)))] [0,1])
(.seq
(.reg [
.s 8 (.mkm),
.s 5 (.m 8)] [0,1,5])
(.seq
(.seq
(.reg [
.s 9 (.m 0),
.s 10 (.len (.t 9)),
.s 11 (.mv (.k 0))] [1,5,9,10,11])
(.blk 0
(.seq
(.trim [1,5,9,10,11])
(.lop
(.seq
(.seq
(.reg [
.s 12 (.bin .lss none (.t 11) (.t 10))] [1,5,9,10,11,12])
(.seq
(.cnd (.t 12)
.skip
(.exit 0))
(.seq
(.blk 1
(.seq
(.reg [
.s 13 (.ia 1 (.t 9) (.t 11)),
.s 14 (.l 13),
.s 7 (.m 14)] [1,5,7,9,10,11])
(.seq
(.seq
(.reg [
.s 15 (.m 7),
.s 16 (.bin .lss none (.t 15) (.k 0))] [1,5,7,9,10,11,16])
(.cnd (.t 16)
(.seq
(.seq
(.reg [
.s 17 (.m 7),
.s 18 (.bin .lss none (.t 17) (.k (-1)))] [1,5,9,10,11,18])
(.cnd (.t 18)
(.seq
(.reg [
.s 4 (.mv (.c (.bool false)))] [4])
.ret)
.skip))
(.exit 1))
.skip))
(.seq
(.reg [
.s 19 (.m 5),
.s 20 (.m 7),
.s 21 (.lkp .int (.int .i64 0) (.t 19) (.t 20) false),
.s 22 (.bin .add none (.t 21) (.k 1)),
.n (.mup .int (.t 19) (.t 20) (.t 22))] [1,5,7,9,10,11])
(.seq
(.reg [
.s 23 (.m 7),
.s 24 (.m 1),
.s 25 (.bin .geq none (.t 23) (.t 24)),
.s 26 (.m 25),
.g 27 (.m 5) 26 false,
.g 28 (.m 7) 26 false,
.g 29 (.lkp .int (.int .i64 0) (.t 27) (.t 28) false) 26 false,
.g 30 (.bin .gtr none (.t 29) (.k 1)) 26 false,
.s 31 (.pick (.t 26) (.c (.bool true)) (.t 30))] [1,5,9,10,11,31])
(.cnd (.t 31)
(.seq
(.reg [
.s 4 (.mv (.c (.bool false)))] [4])
.ret)
.skip))))))
(.reg [
.s 32 (.bin .add none (.t 11) (.k 1)),
.s 11 (.m 32)] [1,5,9,10,11]))))
(.trim [1,5,9,10,11]))))))
(.seq
(.reg [
.s 4 (.mv (.c (.bool true)))] [4])
.ret)))),
[.tmp 4]⟩
/-- emend/emendbook.Within -/
def F25 : DF := ⟨3,
(.seq
(.reg [
.s 6 (.mv (.k 0))] [0,1,2])
(.seq
(.reg [
.s 7 (.m 0),
.s 8 (.m 2),
.s 9 (.m 1),
.s 10 (.bin .sub none (.t 8) (.t 9)),
.s 11 (.bin .add none (.t 10) (.k 1)),
.s 12 (.bin .rem none (.t 7) (.t 11)),
.s 0 (.m 12)] [0,1,2])
(.seq
(.seq
(.reg [
.s 13 (.m 0),
.s 14 (.bin .lss none (.t 13) (.k 0))] [0,1,2,14])
(.cnd (.t 14)
(.reg [
.s 15 (.m 0),
.s 16 (.m 2),
.s 17 (.bin .add none (.t 15) (.t 16)),
.s 18 (.m 1),
.s 19 (.bin .sub none (.t 17) (.t 18)),
.s 20 (.bin .add none (.t 19) (.k 1)),
.s 0 (.m 20)] [0,1])
.skip))
(.seq
(.reg [
.s 21 (.m 1),
.s 22 (.m 0),
.s 23 (.bin .add none (.t 21) (.t 22)),
.s 6 (.m 23)] [6])
.ret)))),
[.tmp 6]⟩
/-- (*emend/align.table).fill -/
def F27 : DF := ⟨1,
(.seq
(.reg [
.s 4 (.m 0),
.s 5 (.nilc (.t 4)),
.s 6 (.fa 0 (.t 5)),
.s 7 (.l 6),
.s 8 (.len (.t 7)),
.s 9 (.bin .add none (.t 8) (.k 1)),
.s 10 (.mv (.k 0))] [0,9,10])
(.blk 0
(.seq
(.trim [0,9,10])
(.lop
(.seq
(.seq
(.reg [
.s 11 (.bin .lss none (.t 10) (.t 9))] [0,9,10,11])
(.seq
(.cnd (.t 11)
.skip
(.exit 0))
(.seq
(.blk 1
(.seq
(.reg [
.s 12 (.m 10),
.s 2 (.m 12)] [0,2,9,10])
(.seq
(.reg [
.s 13 (.m 0),
.s 14 (.nilc (.t 13)),
.s 15 (.fa 1 (.t 14)),
.s 16 (.l 15),
.s 17 (.len (.t 16)),
.s 18 (.bin .add none (.t 17) (.k 1)),
.s 19 (.mv (.k 0))] [0,2,9,10,18,19])
(.blk 2
(.seq
(.trim [0,2,9,10,18,19])
(.lop
(.seq
(.seq
(.reg [
.s 20 (.bin .lss none (.t 19) (.t 18))] [0,2,9,10,18,19,20])
(.seq
(.cnd (.t 20)
.skip
(.exit 2))
(.seq
(.blk 3
(.seq
(.reg [
.s 21 (.m 19),
.s 3 (.m 21)] [0,2,3,9,10,18,19])
(.blk 4
(.seq
(.reg [
.s 66 (.m 2),
.s 67 (.bin .eql (some .int) (.t 66) (.k 0)),
.s 68 (.m 67),
.g 69 (.m 3) 68 false,
.g 70 (.bin .eql (some .int) (.t 69) (.k 0)) 68 false,
.s 71 (.pick (.t 68) (.c (.bool true)) (.t 70)),
.s 65 (.m 71)] [0,2,3,9,10,18,19,65])
(.cnd (.t 65)
(.reg [
.s 72 (.m 0),
.s 73 (.nilc (.t 72)),
.s 74 (.fa 2 (.t 73)),
.s 75 (.l 74),
.s 76 (.m 2),
.s 77 (.m 3),
.s 78 (.bld [(.int .i64 0),(.int .i64 0)] [(0,1,(.t 76)),(1,1,(.t 77))]),
.s 79 (.m 2),
.s 80 (.m 3),
.s 81 (.bin .add none (.t 79) (.t 80)),
.s 82 (.bin .mul none (.k 2) (.t 81)),
.n (.mup (.st [(0,.int),(1,.int)]) (.t 75) (.t 78) (.t 82))] [0,2,9,10,18,19])
(.drw [
((.s 22 (.m 0),none),[]),
((.s 23 (.nilc (.t 22)),none),[]),
((.s 24 (.fa 2 (.t 23)),none),[]),
((.s 25 (.l 24),none),[]),
((.s 26 (.m 2),none),[]),
((.s 27 (.m 3),none),[]),
((.s 28 (.bld [(.int .i64 0),(.int .i64 0)] [(0,1,(.t 26)),(1,1,(.t 27))]),none),[]),
((.s 29 (.m 0),none),[]),
((.s 30 (.nilc (.t 29)),none),[]),
((.s 31 (.fa 2 (.t 30)),none),[]),
((.s 32 (.l 31),none),[]),
((.s 33 (.m 2),none),[]),
((.s 34 (.bin .sub none (.t 33) (.k 1)),none),[]),
((.s 35 (.m 3),none),[]),
((.s 36 (.bin .sub none (.t 35) (.k 1)),none),[]),
((.s 37 (.bld [(.int .i64 0),(.int .i64 0)] [(0,1,(.t 34)),(1,1,(.t 36))]),none),[]),
((.s 38 (.lkp (.st [(0,.int),(1,.int)]) (.int .i64 0) (.t 32) (.t 37) false),none),[]),
((.s 39 (.m 0),none),[]),
((.s 40 (.m 2),none),[]),
((.s 41 (.m 3),none),[]),
((.s 44 (.m 0),none),[]),
((.s 45 (.nilc (.t 44)),none),[]),
((.s 46 (.fa 2 (.t 45)),none),[]),
((.s 47 (.l 46),none),[]),
((.s 48 (.m 2),none),[]),
((.s 49 (.bin .sub none (.t 48) (.k 1)),none),[]),
((.s 50 (.m 3),none),[]),
((.s 51 (.bld [(.int .i64 0),(.int .i64 0)] [(0,1,(.t 49)),(1,1,(.t 50))]),none),[]),
((.s 52 (.lkp (.st [(0,.int),(1,.int)]) (.int .i64 0) (.t 47) (.t 51) false),none),[]),
((.s 53 (.bin .add none (.t 52) (.k 2)),none),[]),
((.s 54 (.m 0),none),[]),
((.s 55 (.nilc (.t 54)),none),[]),
((.s 56 (.fa 2 (.t 55)),none),[]),
((.s 57 (.l 56),none),[]),
((.s 58 (.m 2),none),[]),
((.s 59 (.m 3),none),[]),
((.s 60 (.bin .sub none (.t 59) (.k 1)),none),[]),
((.s 61 (.bld [(.int .i64 0),(.int .i64 0)] [(0,1,(.t 58)),(1,1,(.t 60))]),none),[]),
((.s 62 (.lkp (.st [(0,.int),(1,.int)]) (.int .i64 0) (.t 57) (.t 61) false),none),[]),
((.s 63 (.bin .add none (.t 62) (.k 2)),none),[]),
((.s 42 (.call 28 [(.t 39),(.t 40),(.t 41)]),none),[(.s 25 (.l 24),none),(.s 32 (.l 31),none),(.s 38 (.lkp (.st [(0,.int),(1,.int)]) (.int .i64 0) (.t 32) (.t 37) false),none),(.s 47 (.l 46),none),(.s 52 (.lkp (.st [(0,.int),(1,.int)]) (.int .i64 0) (.t 47) (.t 51) false),none),(.s 57 (.l 56),none),(.s 62 (.lkp (.st [(0,.int),(1,.int)]) (.int .i64 0) (.t 57) (.t 61) false),none)]),
((.s 43 (.bin .add none (.t 38) (.t 42)),none),[]),
((.s 64 (.mn [(.t 43),(.t 53),(.t 63)]),none),[]),
((.n (.mup (.st [(0,.int),(1,.int)]) (.t 25) (.t 28) (.t 64)),none),[])] [0,2,9,10,18,19]))))))
(.reg [
.s 83 (.bin .add none (.t 19) (.k 1)),
.s 19 (.m 83)] [0,2,9,10,18,19]))))
(.trim [0,2,9,10,18,19]))))))))
(.reg [
.s 84 (.bin .add none (.t 10) (.k 1)),
.s 10 (.m 84)] [0,9,10]))))
(.trim [0,9,10])))))),
[]⟩
/-- (*emend/align.table).pair -/
def F28 : DF := ⟨3,
(.seq
(.reg [
.s 6 (.mv (.k 0))] [0,1,2])
(.seq
(.seq
(.drw [
((.s 7 (.m 0),none),[]),
((.s 8 (.nilc (.t 7)),none),[]),
((.s 9 (.fa 0 (.t 8)),none),[]),
((.s 10 (.l 9),none),[]),
((.s 11 (.m 1),none),[]),
((.s 12 (.bin .sub none (.t 11) (.k 1)),none),[]),
((.s 13 (.ia 4 (.t 10) (.t 12)),none),[]),
((.s 14 (.ld true 4 (.t 13)),none),[]),
((.s 15 (.m 0),none),[]),
((.s 16 (.nilc (.t 15)),none),[]),
((.s 17 (.fa 1 (.t 16)),none),[]),
((.s 18 (.l 17),none),[]),
((.s 19 (.m 2),none),[]),
((.s 20 (.bin .sub none (.t 19) (.k 1)),none),[]),
((.s 21 (.ia 4 (.t 18) (.t 20)),none),[]),
((.s 22 (.ld true 4 (.t 21)),none),[]),
((.s 23 (.call 31 [(.t 14),(.t 22)]),none),[])] [23])
(.cnd (.t 23)
(.seq
(.reg [
.s 6 (.mv (.k 0))] [6])
.ret)
.skip))
(.seq
(.reg [
.s 6 (.mv (.k 3))] [6])
.ret))),
[.tmp 6]⟩

/-- emend/align.keyOf -/
def F30 : DF := ⟨2,
(.seq
(.reg [
.s 2 (.bxL (.t 0)),
.s 4 (.alL [(.int .i64 0),(.str []),(.sl 1 nz []),(.sl 4 nz [])]),
.s 5 (.mv (.c (.bool false)))] [1,2,4])
(.seq
(.seq
(.reg [
.s 8 (.fa 0 (.t 2)),
.s 9 (.l 8),
.s 10 (.bin .neq (some .int) (.t 9) (.k 7))] [1,2,4,10])
(.cnd (.t 10)
(.seq
(.reg [
.s 11 (.bld [(.int .i64 0),(.str []),(.sl 1 nz []),(.sl 4 nz [])] []),
.n (.st 4 (.t 4) (.t 11)),
.s 5 (.mv (.c (.bool false)))] [4,5])
.ret)
.skip))
(.seq
(.seq
(.reg [
.s 12 (.fa 2 (.t 2)),
.s 13 (.l 12),
.s 14 (.len (.t 13)),
.s 15 (.mv (.k 0))] [1,2,4,13,14,15])
(.blk 0
(.seq
(.trim [1,2,4,13,14,15])
(.lop
(.seq
(.seq
(.reg [
.s 16 (.bin .lss none (.t 15) (.t 14))] [1,2,4,13,14,15,16])
(.seq
(.cnd (.t 16)
.skip
(.exit 0))
(.seq
(.blk 1
(.seq
(.reg [
.s 17 (.m 15),
.s 18 (.ia 1 (.t 13) (.t 15)),
.s 19 (.l 18),
.s 6 (.m 17),
.s 7 (.m 19)] [1,2,4,6,7,13,14,15])
(.seq
(.reg [
.s 20 (.m 7),
.s 21 (.m 1),
.s 22 (.bin .eql (some .str) (.t 20) (.t 21)),
.s 23 (.m 22),
.g 24 (.m 6) 23 true,
.g 25 (.fa 3 (.t 2)) 23 true,
.g 26 (.l 25) 23 true,
.g 27 (.len (.t 26)) 23 true,
.g 28 (.bin .lss none (.t 24) (.t 27)) 23 true,
.s 29 (.pick (.t 23) (.t 28) (.c (.bool false)))] [1,2,4,6,13,14,15,29])
(.cnd (.t 29)
(.seq
(.drw [
((.s 30 (.fa 3 (.t 2)),(some 2)),[]),
((.s 31 (.l 30),(some 2)),[]),
((.s 32 (.m 6),none),[]),
((.s 33 (.ia 4 (.t 31) (.t 32)),none),[]),
((.s 34 (.ld true 4 (.t 33)),none),[]),
((.s 35 (.fa 3 (.t 2)),(some 2)),[]),
((.s 36 (.l 35),(some 2)),[]),
((.s 37 (.m 6),none),[]),
((.s 38 (.ia 4 (.t 36) (.t 37)),none),[]),
((.s 39 (.fa 0 (.t 38)),none),[]),
((.s 40 (.l 39),none),[]),
((.s 41 (.call 42 [(.t 40)]),none),[(.s 34 (.ld true 4 (.t 33)),none)]),
((.n (.st 4 (.t 4) (.t 34)),(some 4)),[]),
((.s 5 (.m 41),none),[])] [4,5])
.ret)
.skip))))
(.reg [
.s 42 (.bin .add none (.t 15) (.k 1)),
.s 15 (.m 42)] [1,2,4,13,14,15]))))
(.trim [1,2,4,13,14,15]))))))
(.seq
(.reg [
.s 43 (.bld [(.int .i64 0),(.str []),(.sl 1 nz []),(.sl 4 nz [])] []),
.n (.st 4 (.t 4) (.t 43)),
.s 5 (.mv (.c (.bool false)))] [4,5])
.ret)))),
[.cell 4 true 4,.tmp 5]⟩
/-- emend/tree.Same -/
def F31 : DF := ⟨2,
(.seq
(.reg [
.s 2 (.bxL (.t 0)),
.s 3 (.bxL (.t 1)),
.s 4 (.mv (.c (.bool false)))] [2,3])
(.seq
(.seq
(.reg [
.s 5 (.ld true 4 (.t 2)),
.s 6 (.call 43 [(.t 5)]),
.s 7 (.un .not (.t 6)),
.s 8 (.m 7),
.g 9 (.ld true 4 (.t 3)) 8 false,
.g 10 (.call 43 [(.t 9)]) 8 false,
.g 11 (.un .not (.t 10)) 8 false,
.s 12 (.pick (.t 8) (.c (.bool true)) (.t 11))] [2,3,12])
(.cnd (.t 12)
(.seq
(.reg [
.s 13 (.ld true 4 (.t 2)),
.s 14 (.ld true 4 (.t 3)),
.s 15 (.call 44 [(.t 13),(.t 14)]),
.s 4 (.m 15)] [4])
.ret)
.skip))
(.seq
(.drw [
((.s 16 (.ld true 4 (.t 2)),(some 2)),[]),
((.s 18 (.ld true 4 (.t 3)),(some 3)),[]),
((.s 17 (.call 45 [(.t 16)]),none),[]),
((.s 19 (.call 45 [(.t 18)]),none),[]),
((.s 20 (.call 44 [(.t 17),(.t 19)]),none),[]),
((.s 4 (.m 20),none),[])] [4])
.ret))),
[.tmp 4]⟩
/-- emend/tree.Read -/
def F37 : DD := ⟨2,
(.seq
(.reg [
.s 4 (.alH 60 [.nilif])] [0,1,4])
(.seq
(.reg [
.s 6 (.m 0),
.s 7 (.lenS (.t 6)),
.s 8 (.bin .gtr none (.t 7) (.k 65536))] [0,1,4,8])
(.seq
(.cnd (.t 8)
(.seq
(.reg [
.s 9 (.call 52 [(.k 0),(.k 2)]),
.s 10 (.mki 87 (.t 9)),
.n (.st 1 (.t 4) (.t 10))] [4])
.ret)
.skip)
(.seq
(.reg [
.s 11 (.m 0),
.s 12 (.call 53 [(.t 11)]),
.s 5 (.m 12)] [0,1,4,5])
(.seq
(.reg [
.s 13 (.m 5),
.s 14 (.bin .geq none (.t 13) (.k 0))] [0,1,4,5,14])
(.seq
(.cnd (.t 14)
(.seq
(.reg [
.s 15 (.m 5),
.s 16 (.call 52 [(.t 15),(.k 10)]),
.s 17 (.mki 87 (.t 16)),
.n (.st 1 (.t 4) (.t 17))] [4])
.ret)
.skip)
.skip)))))),
[.s 18 (.mkf 54 [] [(.t 4)])],18,[0,1,4],
(.seq
(.reg [
.s 19 (.m 1),
.s 20 (.m 0),
.s 21 (.bld [(.str []),(.int .i64 0),(.int .i64 0)] [(0,1,(.t 20))]),
.s 22 (.bxH 79 (.t 21)),
.s 23 (.callv (.t 19) [(.t 22)])] [4])
(.seq
(.reg [
.n (.st 1 (.t 4) (.c .nilif))] [4])
(.seq
.ret
.skip))),
[.cell 4 false 1],[4]⟩

/-- emend/tree.Scalar -/
def F42 : DF := ⟨1,
(.seq
(.reg [
.s 2 (.mv (.c (.bool false)))] [0])
(.seq
(.reg [
.s 3 (.m 0),
.s 4 (.bin .geq none (.t 3) (.k 1)),
.s 5 (.m 4),
.g 6 (.m 0) 5 true,
.g 7 (.bin .leq none (.t 6) (.k 5)) 5 true,
.s 8 (.pick (.t 5) (.t 7) (.c (.bool false))),
.s 2 (.m 8)] [2])
.ret)),
[.tmp 2]⟩
/-- emend/tree.formed -/
def F43 : DF := ⟨1,
(.seq
(.reg [
.s 1 (.bxL (.t 0)),
.s 2 (.mv (.c (.bool false)))] [1])
(.seq
(.seq
(.reg [
.s 8 (.fa 3 (.t 1)),
.s 9 (.l 8),
.s 10 (.len (.t 9)),
.s 11 (.mv (.k 0))] [1,9,10,11])
(.blk 0
(.seq
(.trim [1,9,10,11])
(.lop
(.seq
(.seq
(.reg [
.s 12 (.bin .lss none (.t 11) (.t 10))] [1,9,10,11,12])
(.seq
(.cnd (.t 12)
.skip
(.exit 0))
(.seq
(.blk 1
(.seq
(.reg [
.s 13 (.ia 4 (.t 9) (.t 11)),
.s 14 (.ld true 4 (.t 13)),
.s 4 (.alL [(.int .i64 0),(.str []),(.sl 1 nz []),(.sl 4 nz [])]),
.n (.st 4 (.t 4) (.t 14))] [1,4,9,10,11])
(.seq
(.reg [
.s 15 (.ld true 4 (.t 4)),
.s 16 (.call 43 [(.t 15)]),
.s 17 (.un .not (.t 16))] [1,9,10,11,17])
(.cnd (.t 17)
(.seq
(.reg [
.s 2 (.mv (.c (.bool false)))] [2])
.ret)
.skip))))
(.reg [
.s 18 (.bin .add none (.t 11) (.k 1)),
.s 11 (.m 18)] [1,9,10,11]))))
(.trim [1,9,10,11]))))))
(.seq
(.reg [
.s 19 (.fa 2 (.t 1)),
.s 20 (.l 19),
.s 21 (.len (.t 20)),
.s 22 (.bin .eql (some .int) (.t 21) (.k 0)),
.s 23 (.m 22),
.g 24 (.fa 3 (.t 1)) 23 true,
.g 25 (.l 24) 23 true,
.g 26 (.len (.t 25)) 23 true,
.g 27 (.bin .eql (some .int) (.t 26) (.k 0)) 23 true,
.s 28 (.pick (.t 23) (.t 27) (.c (.bool false))),
.s 5 (.m 28)] [1,5])
(.seq
(.seq
(.reg [
.s 29 (.fa 0 (.t 1)),
.s 30 (.l 29)] [1,5,30])
(.blk 2
(.seq
(.reg [
.s 32 (.bin .eql (some .int) (.t 30) (.k 1)),
.s 31 (.m 32)] [1,5,30,31])
(.cnd (.t 31)
(.seq
(.reg [
.s 33 (.m 5),
.s 34 (.m 33),
.g 35 (.fa 1 (.t 1)) 34 true,
.g 36 (.l 35) 34 true,
.g 37 (.bin .eql (some .str) (.t 36) (.c (.str []))) 34 true,
.s 38 (.pick (.t 34) (.t 37) (.c (.bool false))),
.s 2 (.m 38)] [2])
.ret)
(.seq
(.reg [
.s 40 (.bin .eql (some .int) (.t 30) (.k 2)),
.s 39 (.m 40)] [1,5,30,39])
(.cnd (.t 39)
(.seq
(.reg [
.s 41 (.m 5),
.s 42 (.m 41),
.g 43 (.fa 1 (.t 1)) 42 true,
.g 44 (.l 43) 42 true,
.g 45 (.bin .eql (some .str) (.t 44) (.c (.str [116,114,117,101]))) 42 true,
.g 46 (.m 45) 42 true,
.g 47 (.fa 1 (.t 1)) 46 false,
.g 48 (.l 47) 46 false,
.g 49 (.bin .eql (some .str) (.t 48) (.c (.str [102,97,108,115,101]))) 46 false,
.g 50 (.pick (.t 46) (.c (.bool true)) (.t 49)) 42 true,
.s 51 (.pick (.t 42) (.t 50) (.c (.bool false))),
.s 2 (.m 51)] [2])
.ret)
(.seq
(.reg [
.s 53 (.bin .eql (some .int) (.t 30) (.k 3)),
.s 52 (.m 53)] [1,5,30,52])
(.cnd (.t 52)
(.seq
(.reg [
.s 55 (.fa 1 (.t 1)),
.s 56 (.l 55),
.s 57 (.call 67 [(.t 56)]),
.s 54 (.m 57),
.s 58 (.ext (.t 54) 0),
.s 59 (.ext (.t 54) 1),
.s 6 (.m 58),
.s 7 (.m 59)] [1,5,6,7])
(.seq
(.reg [
.s 60 (.m 5),
.s 61 (.m 60),
.g 62 (.m 7) 61 true,
.g 63 (.bin .eql (some .int) (.t 62) (.k 0)) 61 true,
.s 64 (.pick (.t 61) (.t 63) (.c (.bool false))),
.s 65 (.m 64),
.g 66 (.m 6) 65 true,
.g 67 (.fa 1 (.t 1)) 65 true,
.g 68 (.l 67) 65 true,
.g 69 (.bin .eql (some .str) (.t 66) (.t 68)) 65 true,
.s 70 (.pick (.t 65) (.t 69) (.c (.bool false))),
.s 2 (.m 70)] [2])
.ret))
(.seq
(.reg [
.s 72 (.bin .eql (some .int) (.t 30) (.k 4)),
.s 71 (.m 72)] [1,5,30,71])
(.cnd (.t 71)
(.seq
(.reg [
.s 73 (.m 5),
.s 74 (.m 73),
.g 75 (.fa 1 (.t 1)) 74 true,
.g 76 (.l 75) 74 true,
.g 77 (.call 68 [(.t 76)]) 74 true,
.s 78 (.pick (.t 74) (.t 77) (.c (.bool false))),
.s 2 (.m 78)] [2])
.ret)
(.seq
(.reg [
.s 80 (.bin .eql (some .int) (.t 30) (.k 5)),
.s 79 (.m 80)] [1,5,30,79])
(.cnd (.t 79)
(.seq
(.reg [
.s 81 (.m 5),
.s 82 (.m 81),
.g 83 (.fa 1 (.t 1)) 82 true,
.g 84 (.l 83) 82 true,
.g 85 (.call 64 [(.t 84)]) 82 true,
.s 86 (.pick (.t 82) (.t 85) (.c (.bool false))),
.s 2 (.m 86)] [2])
.ret)
(.seq
(.reg [
.s 88 (.bin .eql (some .int) (.t 30) (.k 6)),
.s 87 (.m 88)] [1,30,87])
(.cnd (.t 87)
(.seq
(.reg [
.s 89 (.fa 1 (.t 1)),
.s 90 (.l 89),
.s 91 (.bin .eql (some .str) (.t 90) (.c (.str []))),
.s 92 (.m 91),
.g 93 (.fa 2 (.t 1)) 92 true,
.g 94 (.l 93) 92 true,
.g 95 (.len (.t 94)) 92 true,
.g 96 (.bin .eql (some .int) (.t 95) (.k 0)) 92 true,
.s 97 (.pick (.t 92) (.t 96) (.c (.bool false))),
.s 2 (.m 97)] [2])
.ret)
(.seq
(.reg [
.s 99 (.bin .eql (some .int) (.t 30) (.k 7)),
.s 98 (.m 99)] [1,98])
(.cnd (.t 98)
(.seq
(.reg [
.s 100 (.fa 1 (.t 1)),
.s 101 (.l 100),
.s 102 (.bin .eql (some .str) (.t 101) (.c (.str []))),
.s 103 (.m 102),
.g 104 (.fa 2 (.t 1)) 103 true,
.g 105 (.l 104) 103 true,
.g 106 (.len (.t 105)) 103 true,
.g 107 (.fa 3 (.t 1)) 103 true,
.g 108 (.l 107) 103 true,
.g 109 (.len (.t 108)) 103 true,
.g 110 (.bin .eql (some .int) (.t 106) (.t 109)) 103 true,
.s 111 (.pick (.t 103) (.t 110) (.c (.bool false))),
.s 112 (.m 111),
.g 113 (.fa 2 (.t 1)) 112 true,
.g 114 (.l 113) 112 true,
.g 115 (.call 69 [(.t 114)]) 112 true,
.s 116 (.pick (.t 112) (.t 115) (.c (.bool false))),
.s 2 (.m 116)] [2])
.ret)
.skip))))))))))))))))
(.seq
(.reg [
.s 2 (.mv (.c (.bool false)))] [2])
.ret))))),
[.tmp 2]⟩
/-- emend/tree.identical -/
def F44 : DF := ⟨2,
(.seq
(.reg [
.s 2 (.bxL (.t 0)),
.s 3 (.bxL (.t 1)),
.s 4 (.mv (.c (.bool false)))] [2,3])
(.seq
(.reg [
.s 5 (.fa 0 (.t 2)),
.s 6 (.l 5),
.s 7 (.fa 0 (.t 3)),
.s 8 (.l 7),
.s 9 (.bin .eql (some .int) (.t 6) (.t 8)),
.s 10 (.m 9),
.g 11 (.fa 1 (.t 2)) 10 true,
.g 12 (.l 11) 10 true,
.g 13 (.fa 1 (.t 3)) 10 true,
.g 14 (.l 13) 10 true,
.g 15 (.bin .eql (some .str) (.t 12) (.t 14)) 10 true,
.s 16 (.pick (.t 10) (.t 15) (.c (.bool false))),
.s 17 (.m 16),
.g 18 (.fa 2 (.t 2)) 17 true,
.g 19 (.l 18) 17 true,
.g 20 (.fa 2 (.t 3)) 17 true,
.g 21 (.l 20) 17 true,
.g 22 (.call 70 [(.t 19),(.t 21)]) 17 true,
.s 23 (.pick (.t 17) (.t 22) (.c (.bool false))),
.s 24 (.m 23),
.g 25 (.fa 3 (.t 2)) 24 true,
.g 26 (.l 25) 24 true,
.g 27 (.fa 3 (.t 3)) 24 true,
.g 28 (.l 27) 24 true,
.g 29 (.call 71 [(.t 26),(.t 28),(.f 44)]) 24 true,
.s 30 (.pick (.t 24) (.t 29) (.c (.bool false))),
.s 4 (.m 30)] [4])
.ret)),
[.tmp 4]⟩
/-- emend/tree.Sorted -/
def F45 : DF := ⟨1,
(.seq
(.reg [
.s 1 (.bxL (.t 0)),
.s 2 (.alL [(.int .i64 0),(.str []),(.sl 1 nz []),(.sl 4 nz [])])] [1,2])
(.seq
(.reg [
.s 8 (.fa 0 (.t 1)),
.s 9 (.l 8),
.s 10 (.fa 1 (.t 1)),
.s 11 (.l 10),
.s 12 (.bld [(.int .i64 0),(.str []),(.sl 1 nz []),(.sl 4 nz [])] [(0,1,(.t 9)),(1,1,(.t 11))]),
.s 3 (.alL [(.int .i64 0),(.str []),(.sl 1 nz []),(.sl 4 nz [])]),
.n (.st 4 (.t 3) (.t 12))] [1,2,3])
(.seq
(.seq
(.reg [
.s 13 (.fa 0 (.t 1)),
.s 14 (.l 13),
.s 15 (.bin .neq (some .int) (.t 14) (.k 7)),
.s 16 (.m 15),
.g 17 (.fa 2 (.t 1)) 16 false,
.g 18 (.l 17) 16 false,
.g 19 (.len (.t 18)) 16 false,
.g 20 (.fa 3 (.t 1)) 16 false,
.g 21 (.l 20) 16 false,
.g 22 (.len (.t 21)) 16 false,
.g 23 (.bin .neq (some .int) (.t 19) (.t 22)) 16 false,
.s 24 (.pick (.t 16) (.c (.bool true)) (.t 23))] [1,2,3,24])
(.cnd (.t 24)
(.seq
(.reg [
.s 25 (.fa 2 (.t 3)),
.s 26 (.l 25),
.s 27 (.fa 2 (.t 1)),
.s 28 (.l 27),
.s 29 (.app false 9 1 16 (.t 26) (.t 28)),
.s 30 (.fa 2 (.t 3)),
.n (.st 1 (.t 30) (.t 29))] [1,2,3])
(.seq
(.seq
(.reg [
.s 31 (.fa 3 (.t 1)),
.s 32 (.l 31),
.s 33 (.len (.t 32)),
.s 34 (.mv (.k 0))] [2,3,32,33,34])
(.blk 0
(.seq
(.trim [2,3,32,33,34])
(.lop
(.seq
(.seq
(.reg [
.s 35 (.bin .lss none (.t 34) (.t 33))] [2,3,32,33,34,35])
(.seq
(.cnd (.t 35)
.skip
(.exit 0))
(.seq
(.blk 1
(.seq
(.reg [
.s 36 (.ia 4 (.t 32) (.t 34)),
.s 37 (.ld true 4 (.t 36)),
.s 5 (.alL [(.int .i64 0),(.str []),(.sl 1 nz []),(.sl 4 nz [])]),
.n (.st 4 (.t 5) (.t 37))] [2,3,5,32,33,34])
(.drw [
((.s 38 (.fa 3 (.t 3)),(some 3)),[]),
((.s 39 (.l 38),(some 3)),[]),
((.s 40 (.ld true 4 (.t 5)),(some 5)),[]),
((.s 41 (.call 45 [(.t 40)]),none),[]),
((.s 42 (.bldS 4 1 (.agg [(.int .i64 0),(.str []),(.sl 1 nz []),(.sl 4 nz [])]) [(0,(.t 41))]),none),[]),
((.s 43 (.app true 47 4 72 (.t 39) (.t 42)),none),[]),
((.s 44 (.fa 3 (.t 3)),(some 3)),[]),
((.n (.st 1 (.t 44) (.t 43)),(some 3)),[])] [2,3,32,33,34])))
(.reg [
.s 45 (.bin .add none (.t 34) (.k 1)),
.s 34 (.m 45)] [2,3,32,33,34]))))
(.trim [2,3,32,33,34]))))))
(.seq
(.reg [
.s 46 (.ld true 4 (.t 3)),
.n (.st 4 (.t 2) (.t 46))] [2])
.ret)))
.skip))
(.seq
(.seq
(.reg [
.s 47 (.fa 2 (.t 1)),
.s 48 (.l 47),
.s 49 (.call 72 [(.t 48)]),
.s 50 (.len (.t 49)),
.s 51 (.mv (.k 0))] [1,2,3,49,50,51])
(.blk 2
(.seq
(.trim [1,2,3,49,50,51])
(.lop
(.seq
(.seq
(.reg [
.s 52 (.bin .lss none (.t 51) (.t 50))] [1,2,3,49,50,51,52])
(.seq
(.cnd (.t 52)
.skip
(.exit 2))
(.seq
(.blk 3
(.seq
(.reg [
.s 53 (.ia 1 (.t 49) (.t 51)),
.s 54 (.l 53),
.s 7 (.m 54)] [1,2,3,7,49,50,51])
(.seq
(.drw [
((.s 55 (.fa 2 (.t 3)),(some 3)),[]),
((.s 56 (.l 55),(some 3)),[]),
((.s 57 (.fa 2 (.t 1)),(some 1)),[]),
((.s 58 (.l 57),(some 1)),[]),
((.s 59 (.m 7),none),[]),
((.s 60 (.ia 1 (.t 58) (.t 59)),none),[]),
((.s 61 (.l 60),none),[]),
((.s 62 (.bldS 1 1 (.str []) [(0,(.t 61))]),none),[]),
((.s 63 (.app false 9 1 16 (.t 56) (.t 62)),none),[]),
((.s 64 (.fa 2 (.t 3)),(some 3)),[]),
((.n (.st 1 (.t 64) (.t 63)),(some 3)),[])] [1,2,3,7,49,50,51])
(.drw [
((.s 65 (.fa 3 (.t 3)),(some 3)),[]),
((.s 66 (.l 65),(some 3)),[]),
((.s 67 (.fa 3 (.t 1)),(some 1)),[]),
((.s 68 (.l 67),(some 1)),[]),
((.s 69 (.m 7),none),[]),
((.s 70 (.ia 4 (.t 68) (.t 69)),none),[]),
((.s 71 (.ld true 4 (.t 70)),none),[]),
((.s 72 (.call 45 [(.t 71)]),none),[]),
((.s 73 (.bldS 4 1 (.agg [(.int .i64 0),(.str []),(.sl 1 nz []),(.sl 4 nz [])]) [(0,(.t 72))]),none),[]),
((.s 74 (.app true 47 4 72 (.t 66) (.t 73)),none),[]),
((.s 75 (.fa 3 (.t 3)),(some 3)),[]),
((.n (.st 1 (.t 75) (.t 74)),(some 3)),[])] [1,2,3,49,50,51]))))
(.reg [
.s 76 (.bin .add none (.t 51) (.k 1)),
.s 51 (.m 76)] [1,2,3,49,50,51]))))
(.trim [1,2,3,49,50,51]))))))
(.seq
(.reg [
.s 77 (.ld true 4 (.t 3)),
.n (.st 4 (.t 2) (.t 77))] [2])
.ret))))),
[.cell 2 true 4]⟩

/-- emend/text.Bad -/
def F53 : DF := ⟨1,
(.seq
(.reg [
.s 2 (.mv (.k 0))] [0])
(.seq
(.seq
(.reg [
.s 3 (.mv (.k 0))] [0,3])
(.blk 0
(.seq
(.trim [0,3])
(.lop
(.seq
(.seq
(.seq
(.reg [
.s 6 (.m 3),
.s 7 (.m 0),
.s 8 (.lenS (.t 7)),
.s 9 (.bin .lss none (.t 6) (.t 8))] [0,3,9])
(.cnd (.t 9)
.skip
(.exit 0)))
(.blk 1
(.seq
(.reg [
.s 11 (.m 0),
.s 12 (.m 3),
.s 13 (.slS (.t 11) (some (.t 12)) none),
.s 14 (.call 78 [(.t 13)]),
.s 10 (.m 14),
.s 15 (.ext (.t 10) 0),
.s 16 (.ext (.t 10) 1),
.s 4 (.m 15),
.s 5 (.m 16)] [0,3,5])
(.seq
(.seq
(.reg [
.s 17 (.m 5),
.s 18 (.bin .eql (some .int) (.t 17) (.k 0))] [0,3,5,18])
(.cnd (.t 18)
(.seq
(.reg [
.s 19 (.m 3),
.s 2 (.m 19)] [2])
.ret)
.skip))
(.reg [
.s 20 (.m 3),
.s 21 (.m 5),
.s 22 (.bin .add none (.t 20) (.t 21)),
.s 3 (.m 22)] [0,3])))))
(.trim [0,3]))))))
(.seq
(.reg [
.s 2 (.mv (.k (-1)))] [2])
.ret))),
[.tmp 2]⟩
/-- emend/tree.Read$1 -/
def F54 : DG := ⟨1,4,
[.s 1 (.m 4)],[0,1],
(.seq
(.reg [
.s 5 (.m 1),
.s 6 (.bin .eql (some .ifc) (.t 5) (.c .nilif))] [0,1,6])
(.seq
(.cnd (.t 6)
.ret
.skip)
(.seq
(.reg [
.s 8 (.m 1),
.s 9 (.tas true 87 .nilp (.t 8)),
.s 7 (.m 9),
.s 10 (.ext (.t 7) 0),
.s 11 (.ext (.t 7) 1),
.s 2 (.m 10),
.s 3 (.m 11)] [0,1,2,3])
(.seq
(.reg [
.s 12 (.m 3),
.s 13 (.un .not (.t 12))] [0,1,2,13])
(.seq
(.cnd (.t 13)
(.reg [
.s 14 (.m 1),
.n (.pnc (.t 14))] [0,2])
.skip)
(.seq
(.reg [
.s 15 (.m 2),
.s 16 (.mki 87 (.t 15)),
.n (.st 1 (.t 0) (.t 16))] [])
.skip))))))⟩

/-- emend/tree.Time -/
def F64 : DF := ⟨1,
(.seq
(.reg [
.s 2 (.mv (.c (.bool false)))] [0])
(.seq
(.seq
(.reg [
.s 6 (.m 0),
.s 7 (.call 83 [(.t 6)]),
.s 8 (.m 7),
.g 9 (.m 0) 8 false,
.g 10 (.call 84 [(.t 9)]) 8 false,
.s 11 (.pick (.t 8) (.c (.bool true)) (.t 10))] [0,11])
(.cnd (.t 11)
(.seq
(.reg [
.s 2 (.mv (.c (.bool true)))] [2])
.ret)
.skip))
(.seq
(.reg [
.s 13 (.m 0),
.s 14 (.call 85 [(.t 13)]),
.s 12 (.m 14),
.s 15 (.ext (.t 12) 0),
.s 16 (.ext (.t 12) 1),
.s 0 (.m 15)] [0])
(.seq
(.reg [
.s 18 (.m 0),
.s 19 (.call 86 [(.t 18),(.c (.str [84]))]),
.s 17 (.m 19),
.s 20 (.ext (.t 17) 0),
.s 21 (.ext (.t 17) 1),
.s 22 (.ext (.t 17) 2),
.s 3 (.m 20),
.s 4 (.m 21),
.s 5 (.m 22)] [3,4,5])
(.seq
(.reg [
.s 23 (.m 5),
.s 24 (.m 23),
.g 25 (.m 3) 24 true,
.g 26 (.call 83 [(.t 25)]) 24 true,
.s 27 (.pick (.t 24) (.t 26) (.c (.bool false))),
.s 28 (.m 27),
.g 29 (.m 4) 28 true,
.g 30 (.call 84 [(.t 29)]) 28 true,
.s 31 (.pick (.t 28) (.t 30) (.c (.bool false))),
.s 2 (.m 31)] [2])
.ret))))),
[.tmp 2]⟩

/-- emend/num.Normal -/
def F67 : DF := ⟨1,
(.seq
(.reg [
.s 2 (.mv (.c (.str []))),
.s 3 (.mv (.k 0))] [0])
(.seq
(.reg [
.s 7 (.m 0),
.s 8 (.call 87 [(.t 7)]),
.s 6 (.m 8),
.s 9 (.ext (.t 6) 0),
.s 10 (.ext (.t 6) 1),
.s 4 (.alL [(.bool false),(.str []),(.int .i64 0)]),
.n (.st 3 (.t 4) (.t 9)),
.s 5 (.m 10)] [4,5])
(.seq
(.seq
(.reg [
.s 11 (.m 5),
.s 12 (.bin .neq (some .int) (.t 11) (.k 0))] [4,5,12])
(.cnd (.t 12)
(.seq
(.reg [
.s 13 (.m 5),
.s 2 (.mv (.c (.str []))),
.s 3 (.m 13)] [2,3])
.ret)
.skip))
(.seq
(.reg [
.s 14 (.ld true 3 (.t 4)),
.s 15 (.call 88 [(.t 14)]),
.s 16 (.ext (.t 15) 0),
.s 17 (.ext (.t 15) 1),
.s 2 (.m 16),
.s 3 (.m 17)] [2,3])
.ret)))),
[.tmp 2,.tmp 3]⟩
/-- emend/text.Valid -/
def F68 : DF := ⟨1,
(.seq
(.reg [
.s 2 (.mv (.c (.bool false)))] [0])
(.seq
(.reg [
.s 3 (.m 0),
.s 4 (.call 53 [(.t 3)]),
.s 5 (.bin .lss none (.t 4) (.k 0)),
.s 2 (.m 5)] [2])
.ret)),
[.tmp 2]⟩
/-- emend/tree.unlike -/
def F69 : DF := ⟨1,
(.seq
(.reg [
.s 2 (.mv (.c (.bool false)))] [0])
(.seq
(.reg [
.s 6 (.mkm),
.s 3 (.m 6)] [0,3])
(.seq
(.seq
(.reg [
.s 7 (.m 0),
.s 8 (.len (.t 7)),
.s 9 (.mv (.k 0))] [3,7,8,9])
(.blk 0
(.seq
(.trim [3,7,8,9])
(.lop
(.seq
(.seq
(.reg [
.s 10 (.bin .lss none (.t 9) (.t 8))] [3,7,8,9,10])
(.seq
(.cnd (.t 10)
.skip
(.exit 0))
(.seq
(.blk 1
(.seq
(.reg [
.s 11 (.ia 1 (.t 7) (.t 9)),
.s 12 (.l 11),
.s 5 (.m 12)] [3,5,7,8,9])
(.seq
(.reg [
.s 13 (.m 3),
.s 14 (.m 5),
.s 15 (.lkp .str (.int .i64 0) (.t 13) (.t 14) false),
.s 16 (.bin .add none (.t 15) (.k 1)),
.n (.mup .str (.t 13) (.t 14) (.t 16))] [3,5,7,8,9])
(.seq
(.reg [
.s 17 (.m 3),
.s 18 (.m 5),
.s 19 (.lkp .str (.int .i64 0) (.t 17) (.t 18) false),
.s 20 (.bin .gtr none (.t 19) (.k 1)),
.s 21 (.m 20),
.g 22 (.m 5) 21 false,
.g 23 (.call 68 [(.t 22)]) 21 false,
.g 24 (.un .not (.t 23)) 21 false,
.s 25 (.pick (.t 21) (.c (.bool true)) (.t 24))] [3,7,8,9,25])
(.cnd (.t 25)
(.seq
(.reg [
.s 2 (.mv (.c (.bool false)))] [2])
.ret)
.skip)))))
(.reg [
.s 26 (.bin .add none (.t 9) (.k 1)),
.s 9 (.m 26)] [3,7,8,9]))))
(.trim [3,7,8,9]))))))
(.seq
(.reg [
.s 2 (.mv (.c (.bool true)))] [2])
.ret)))),
[.tmp 2]⟩
/-- slices.Equal[[]string,string] -/
def F70 : DF := ⟨2,
(.seq
(.reg [
.s 4 (.mv (.c (.bool false)))] [0,1])
(.seq
(.seq
(.reg [
.s 6 (.m 0),
.s 7 (.len (.t 6)),
.s 8 (.m 1),
.s 9 (.len (.t 8)),
.s 10 (.bin .neq (some .int) (.t 7) (.t 9))] [0,1,10])
(.cnd (.t 10)
(.seq
(.reg [
.s 4 (.mv (.c (.bool false)))] [4])
.ret)
.skip))
(.seq
(.seq
(.reg [
.s 11 (.m 0),
.s 12 (.len (.t 11)),
.s 13 (.mv (.k 0))] [0,1,12,13])
(.blk 0
(.seq
(.trim [0,1,12,13])
(.lop
(.seq
(.seq
(.reg [
.s 14 (.bin .lss none (.t 13) (.t 12))] [0,1,12,13,14])
(.seq
(.cnd (.t 14)
.skip
(.exit 0))
(.seq
(.blk 1
(.seq
(.reg [
.s 15 (.m 13),
.s 5 (.m 15)] [0,1,5,12,13])
(.seq
(.drw [
((.s 16 (.m 0),none),[]),
((.s 17 (.m 5),none),[]),
((.s 18 (.ia 1 (.t 16) (.t 17)),none),[]),
((.s 19 (.l 18),none),[]),
((.s 20 (.m 1),none),[]),
((.s 21 (.m 5),none),[]),
((.s 22 (.ia 1 (.t 20) (.t 21)),none),[]),
((.s 23 (.l 22),none),[]),
((.s 24 (.bin .neq (some .str) (.t 19) (.t 23)),none),[])] [0,1,12,13,24])
(.cnd (.t 24)
(.seq
(.reg [
.s 4 (.mv (.c (.bool false)))] [4])
.ret)
.skip))))
(.reg [
.s 25 (.bin .add none (.t 13) (.k 1)),
.s 13 (.m 25)] [0,1,12,13]))))
(.trim [0,1,12,13]))))))
(.seq
(.reg [
.s 4 (.mv (.c (.bool true)))] [4])
.ret)))),
[.tmp 4]⟩
/-- slices.EqualFunc[[]emend/api.Tree,[]emend/api.Tree,emend/api.Tree,emend/api.Tree] -/
def F71 : DF := ⟨3,
(.seq
(.reg [
.s 6 (.mv (.c (.bool false)))] [0,1,2])
(.seq
(.seq
(.reg [
.s 10 (.m 0),
.s 11 (.len (.t 10)),
.s 12 (.m 1),
.s 13 (.len (.t 12)),
.s 14 (.bin .neq (some .int) (.t 11) (.t 13))] [0,1,2,14])
(.cnd (.t 14)
(.seq
(.reg [
.s 6 (.mv (.c (.bool false)))] [6])
.ret)
.skip))
(.seq
(.seq
(.reg [
.s 15 (.m 0),
.s 16 (.len (.t 15)),
.s 17 (.mv (.k 0))] [1,2,15,16,17])
(.blk 0
(.seq
(.trim [1,2,15,16,17])
(.lop
(.seq
(.seq
(.reg [
.s 18 (.bin .lss none (.t 17) (.t 16))] [1,2,15,16,17,18])
(.seq
(.cnd (.t 18)
.skip
(.exit 0))
(.seq
(.blk 1
(.seq
(.reg [
.s 19 (.m 17),
.s 20 (.ia 4 (.t 15) (.t 17)),
.s 21 (.ld true 4 (.t 20)),
.s 8 (.alL [(.int .i64 0),(.str []),(.sl 1 nz []),(.sl 4 nz [])]),
.s 7 (.m 19),
.n (.st 4 (.t 8) (.t 21))] [1,2,7,8,15,16,17])
(.seq
(.reg [
.s 22 (.m 1),
.s 23 (.m 7),
.s 24 (.ia 4 (.t 22) (.t 23)),
.s 25 (.ld true 4 (.t 24)),
.s 9 (.alL [(.int .i64 0),(.str []),(.sl 1 nz []),(.sl 4 nz [])]),
.n (.st 4 (.t 9) (.t 25))] [1,2,8,9,15,16,17])
(.seq
(.reg [
.s 26 (.m 2),
.s 27 (.ld true 4 (.t 8)),
.s 28 (.ld true 4 (.t 9)),
.s 29 (.callv (.t 26) [(.t 27),(.t 28)]),
.s 30 (.un .not (.t 29))] [1,2,15,16,17,30])
(.cnd (.t 30)
(.seq
(.reg [
.s 6 (.mv (.c (.bool false)))] [6])
.ret)
.skip)))))
(.reg [
.s 31 (.bin .add none (.t 17) (.k 1)),
.s 17 (.m 31)] [1,2,15,16,17]))))
(.trim [1,2,15,16,17]))))))
(.seq
(.reg [
.s 6 (.mv (.c (.bool true)))] [6])
.ret)))),
[.tmp 6]⟩
/-- emend/tree.order -/
def F72 : DF := ⟨1,
(.seq
(.reg [
.s 1 (.bxH 45 (.t 0)),
.s 2 (.mv (.c (.sl 1 nz [])))] [1])
(.seq
(.reg [
.s 5 (.l 1),
.s 6 (.len (.t 5)),
.s 7 (.mks 3 1 8 (.int .i64 0) (.t 6) (.t 6)),
.s 3 (.m 7)] [1,3])
(.seq
(.seq
(.reg [
.s 8 (.m 3),
.s 9 (.len (.t 8)),
.s 10 (.mv (.k 0))] [1,3,9,10])
(.blk 0
(.seq
(.trim [1,3,9,10])
(.lop
(.seq
(.seq
(.reg [
.s 11 (.bin .lss none (.t 10) (.t 9))] [1,3,9,10,11])
(.seq
(.cnd (.t 11)
.skip
(.exit 0))
(.seq
(.blk 1
(.seq
(.reg [
.s 12 (.m 10),
.s 4 (.m 12)] [1,3,4,9,10])
(.reg [
.s 13 (.m 3),
.s 14 (.m 4),
.s 15 (.m 4),
.s 16 (.ia 1 (.t 13) (.t 14)),
.n (.st 1 (.t 16) (.t 15))] [1,3,9,10])))
(.reg [
.s 17 (.bin .add none (.t 10) (.k 1)),
.s 10 (.m 17)] [1,3,9,10]))))
(.trim [1,3,9,10]))))))
(.seq
(.reg [
.s 18 (.m 3),
.s 19 (.mkf 90 [] [(.t 1)]),
.s 20 (.call 89 [(.t 18),(.t 19)])] [3])
(.seq
(.reg [
.s 21 (.m 3),
.s 2 (.m 21)] [2])
.ret))))),
[.tmp 2]⟩
/-- emend/text.First -/
def F78 : DF := ⟨1,
(.seq
(.reg [
.s 2 (.mv (.k 0)),
.s 3 (.mv (.k 0))] [0])
(.seq
(.seq
(.reg [
.s 6 (.m 0),
.s 7 (.bin .eql (some .str) (.t 6) (.c (.str [])))] [0,7])
(.cnd (.t 7)
(.seq
(.reg [
.s 2 (.mv (.k 0)),
.s 3 (.mv (.k 0))] [2,3])
.ret)
.skip))
(.seq
(.reg [
.s 9 (.m 0),
.s 10 (.ixS (.t 9) (.k 0)),
.s 11 (.call 99 [(.t 10)]),
.s 8 (.m 11),
.s 12 (.ext (.t 8) 0),
.s 13 (.ext (.t 8) 1),
.s 14 (.ext (.t 8) 2),
.s 3 (.m 12),
.s 2 (.m 13),
.s 4 (.m 14)] [0,2,3,4])
(.seq
(.seq
(.reg [
.s 15 (.m 3),
.s 16 (.bin .eql (some .int) (.t 15) (.k 0)),
.s 17 (.m 16),
.g 18 (.m 3) 17 false,
.g 19 (.m 0) 17 false,
.g 20 (.lenS (.t 19)) 17 false,
.g 21 (.bin .gtr none (.t 18) (.t 20)) 17 false,
.s 22 (.pick (.t 17) (.c (.bool true)) (.t 21))] [0,2,3,4,22])
(.cnd (.t 22)
(.seq
(.reg [
.s 2 (.mv (.k 0)),
.s 3 (.mv (.k 0))] [2,3])
.ret)
.skip))
(.seq
(.seq
(.reg [
.s 5 (.mv (.k 1))] [0,2,3,4,5])
(.blk 0
(.seq
(.trim [0,2,3,4,5])
(.lop
(.seq
(.seq
(.seq
(.reg [
.s 23 (.m 5),
.s 24 (.m 3),
.s 25 (.bin .lss none (.t 23) (.t 24))] [0,2,3,4,5,25])
(.cnd (.t 25)
.skip
(.exit 0)))
(.seq
(.blk 1
(.seq
(.seq
(.reg [
.s 28 (.m 0),
.s 29 (.m 5),
.s 30 (.ixS (.t 28) (.t 29)),
.s 31 (.bin .shr none (.t 30) (.c (.int .u64 6))),
.s 32 (.bin .neq (some .int) (.t 31) (.c (.int .u8 2)))] [0,2,3,4,5,32])
(.cnd (.t 32)
(.seq
(.reg [
.s 2 (.mv (.k 0)),
.s 3 (.mv (.k 0))] [2,3])
.ret)
.skip))
(.reg [
.s 33 (.m 2),
.s 34 (.bin .shl none (.t 33) (.c (.int .u64 6))),
.s 35 (.m 0),
.s 36 (.m 5),
.s 37 (.ixS (.t 35) (.t 36)),
.s 38 (.bin .and none (.t 37) (.c (.int .u8 63))),
.s 39 (.cvI .i64 (.t 38)),
.s 40 (.bin .or none (.t 34) (.t 39)),
.s 2 (.m 40)] [0,2,3,4,5])))
(.reg [
.s 26 (.m 5),
.s 27 (.bin .add none (.t 26) (.k 1)),
.s 5 (.m 27)] [0,2,3,4,5])))
(.trim [0,2,3,4,5]))))))
(.seq
(.seq
(.reg [
.s 41 (.m 2),
.s 42 (.m 4),
.s 43 (.bin .lss none (.t 41) (.t 42)),
.s 44 (.m 43),
.g 45 (.m 2) 44 false,
.g 46 (.call 100 [(.t 45)]) 44 false,
.g 47 (.un .not (.t 46)) 44 false,
.s 48 (.pick (.t 44) (.c (.bool true)) (.t 47))] [2,3,48])
(.cnd (.t 48)
(.seq
(.reg [
.s 2 (.mv (.k 0)),
.s 3 (.mv (.k 0))] [2,3])
.ret)
.skip))
(.seq
(.reg [
.s 49 (.m 2),
.s 50 (.m 3),
.s 2 (.m 49),
.s 3 (.m 50)] [2,3])
.ret))))))),
[.tmp 2,.tmp 3]⟩

/-- emend/tree.date -/
def F83 : DF := ⟨1,
(.seq
(.reg [
.s 2 (.mv (.c (.bool false)))] [0])
(.seq
(.seq
(.reg [
.s 3 (.m 0),
.s 4 (.lenS (.t 3)),
.s 5 (.bin .neq (some .int) (.t 4) (.k 10)),
.s 6 (.m 5),
.g 7 (.m 0) 6 false,
.g 8 (.ixS (.t 7) (.k 4)) 6 false,
.g 9 (.bin .neq (some .int) (.t 8) (.c (.int .u8 45))) 6 false,
.s 10 (.pick (.t 6) (.c (.bool true)) (.t 9)),
.s 11 (.m 10),
.g 12 (.m 0) 11 false,
.g 13 (.ixS (.t 12) (.k 7)) 11 false,
.g 14 (.bin .neq (some .int) (.t 13) (.c (.int .u8 45))) 11 false,
.s 15 (.pick (.t 11) (.c (.bool true)) (.t 14)),
.s 16 (.m 15),
.g 17 (.m 0) 16 false,
.g 18 (.slS (.t 17) none (some (.k 2))) 16 false,
.g 19 (.call 103 [(.t 18)]) 16 false,
.g 20 (.bin .lss none (.t 19) (.k 0)) 16 false,
.s 21 (.pick (.t 16) (.c (.bool true)) (.t 20)),
.s 22 (.m 21),
.g 23 (.m 0) 22 false,
.g 24 (.slS (.t 23) (some (.k 2)) (some (.k 4))) 22 false,
.g 25 (.call 103 [(.t 24)]) 22 false,
.g 26 (.bin .lss none (.t 25) (.k 0)) 22 false,
.s 27 (.pick (.t 22) (.c (.bool true)) (.t 26)),
.s 28 (.m 27),
.g 29 (.m 0) 28 false,
.g 30 (.slS (.t 29) (some (.k 5)) (some (.k 7))) 28 false,
.g 31 (.call 104 [(.t 30),(.k 1),(.k 12)]) 28 false,
.g 32 (.un .not (.t 31)) 28 false,
.s 33 (.pick (.t 28) (.c (.bool true)) (.t 32))] [0,33])
(.cnd (.t 33)
(.seq
(.reg [
.s 2 (.mv (.c (.bool false)))] [2])
.ret)
.skip))
(.seq
(.drw [
((.s 34 (.m 0),none),[]),
((.s 35 (.slS (.t 34) (some (.k 8)) none),none),[]),
((.s 36 (.m 0),none),[]),
((.s 37 (.slS (.t 36) none (some (.k 2))),none),[]),
((.s 40 (.m 0),none),[]),
((.s 41 (.slS (.t 40) (some (.k 2)) (some (.k 4))),none),[]),
((.s 44 (.m 0),none),[]),
((.s 45 (.slS (.t 44) (some (.k 5)) (some (.k 7))),none),[]),
((.s 38 (.call 103 [(.t 37)]),none),[]),
((.s 39 (.bin .mul none (.t 38) (.k 100)),none),[]),
((.s 42 (.call 103 [(.t 41)]),none),[]),
((.s 43 (.bin .add none (.t 39) (.t 42)),none),[]),
((.s 46 (.call 103 [(.t 45)]),none),[]),
((.s 47 (.call 105 [(.t 43),(.t 46)]),none),[]),
((.s 48 (.call 104 [(.t 35),(.k 1),(.t 47)]),none),[]),
((.s 2 (.m 48),none),[])] [2])
.ret))),
[.tmp 2]⟩
/-- emend/tree.clock -/
def F84 : DF := ⟨1,
(.seq
(.reg [
.s 2 (.mv (.c (.bool false)))] [0])
(.seq
(.seq
(.reg [
.s 4 (.m 0),
.s 5 (.lenS (.t 4)),
.s 6 (.bin .lss none (.t 5) (.k 8)),
.s 7 (.m 6),
.g 8 (.m 0) 7 false,
.g 9 (.ixS (.t 8) (.k 2)) 7 false,
.g 10 (.bin .neq (some .int) (.t 9) (.c (.int .u8 58))) 7 false,
.s 11 (.pick (.t 7) (.c (.bool true)) (.t 10)),
.s 12 (.m 11),
.g 13 (.m 0) 12 false,
.g 14 (.ixS (.t 13) (.k 5)) 12 false,
.g 15 (.bin .neq (some .int) (.t 14) (.c (.int .u8 58))) 12 false,
.s 16 (.pick (.t 12) (.c (.bool true)) (.t 15)),
.s 17 (.m 16),
.g 18 (.m 0) 17 false,
.g 19 (.slS (.t 18) none (some (.k 2))) 17 false,
.g 20 (.call 104 [(.t 19),(.k 0),(.k 23)]) 17 false,
.g 21 (.un .not (.t 20)) 17 false,
.s 22 (.pick (.t 17) (.c (.bool true)) (.t 21)),
.s 23 (.m 22),
.g 24 (.m 0) 23 false,
.g 25 (.slS (.t 24) (some (.k 3)) (some (.k 5))) 23 false,
.g 26 (.call 104 [(.t 25),(.k 0),(.k 59)]) 23 false,
.g 27 (.un .not (.t 26)) 23 false,
.s 28 (.pick (.t 23) (.c (.bool true)) (.t 27)),
.s 29 (.m 28),
.g 30 (.m 0) 29 false,
.g 31 (.slS (.t 30) (some (.k 6)) (some (.k 8))) 29 false,
.g 32 (.call 104 [(.t 31),(.k 0),(.k 59)]) 29 false,
.g 33 (.un .not (.t 32)) 29 false,
.s 34 (.pick (.t 29) (.c (.bool true)) (.t 33))] [0,34])
(.cnd (.t 34)
(.seq
(.reg [
.s 2 (.mv (.c (.bool false)))] [2])
.ret)
.skip))
(.seq
(.seq
(.reg [
.s 35 (.m 0),
.s 36 (.lenS (.t 35)),
.s 37 (.bin .eql (some .int) (.t 36) (.k 8))] [0,37])
(.cnd (.t 37)
(.seq
(.reg [
.s 2 (.mv (.c (.bool true)))] [2])
.ret)
.skip))
(.seq
(.reg [
.s 38 (.m 0),
.s 39 (.slS (.t 38) (some (.k 9)) none),
.s 3 (.m 39)] [0,3])
(.seq
(.reg [
.s 40 (.m 0),
.s 41 (.ixS (.t 40) (.k 8)),
.s 42 (.bin .eql (some .int) (.t 41) (.c (.int .u8 46))),
.s 43 (.m 42),
.g 44 (.m 3) 43 true,
.g 45 (.lenS (.t 44)) 43 true,
.g 46 (.bin .geq none (.t 45) (.k 1)) 43 true,
.s 47 (.pick (.t 43) (.t 46) (.c (.bool false))),
.s 48 (.m 47),
.g 49 (.m 3) 48 true,
.g 50 (.lenS (.t 49)) 48 true,
.g 51 (.bin .leq none (.t 50) (.k 9)) 48 true,
.s 52 (.pick (.t 48) (.t 51) (.c (.bool false))),
.s 53 (.m 52),
.g 54 (.m 3) 53 true,
.g 55 (.call 106 [(.t 54),(.c (.str [48,49,50,51,52,53,54,55,56,57]))]) 53 true,
.g 56 (.bin .eql (some .str) (.t 55) (.c (.str []))) 53 true,
.s 57 (.pick (.t 53) (.t 56) (.c (.bool false))),
.s 2 (.m 57)] [2])
.ret))))),
[.tmp 2]⟩
/-- emend/tree.zone -/
def F85 : DF := ⟨1,
(.seq
(.reg [
.s 2 (.mv (.c (.str []))),
.s 3 (.mv (.c (.str [])))] [0])
(.seq
(.seq
(.reg [
.s 5 (.m 0),
.s 6 (.call 107 [(.t 5),(.c (.str [90]))])] [0,6])
(.cnd (.t 6)
(.seq
(.reg [
.s 7 (.m 0),
.s 8 (.m 0),
.s 9 (.lenS (.t 8)),
.s 10 (.bin .sub none (.t 9) (.k 1)),
.s 11 (.slS (.t 7) none (some (.t 10))),
.s 2 (.m 11),
.s 3 (.mv (.c (.str [90])))] [2,3])
.ret)
.skip))
(.seq
(.seq
(.reg [
.s 12 (.m 0),
.s 13 (.lenS (.t 12)),
.s 14 (.bin .lss none (.t 13) (.k 6)),
.s 15 (.m 14),
.g 16 (.m 0) 15 false,
.g 17 (.m 0) 15 false,
.g 18 (.lenS (.t 17)) 15 false,
.g 19 (.bin .sub none (.t 18) (.k 6)) 15 false,
.g 20 (.ixS (.t 16) (.t 19)) 15 false,
.g 21 (.bin .neq (some .int) (.t 20) (.c (.int .u8 43))) 15 false,
.g 22 (.m 21) 15 false,
.g 23 (.m 0) 22 true,
.g 24 (.m 0) 22 true,
.g 25 (.lenS (.t 24)) 22 true,
.g 26 (.bin .sub none (.t 25) (.k 6)) 22 true,
.g 27 (.ixS (.t 23) (.t 26)) 22 true,
.g 28 (.bin .neq (some .int) (.t 27) (.c (.int .u8 45))) 22 true,
.g 29 (.pick (.t 22) (.t 28) (.c (.bool false))) 15 false,
.s 30 (.pick (.t 15) (.c (.bool true)) (.t 29))] [0,30])
(.cnd (.t 30)
(.seq
(.reg [
.s 31 (.m 0),
.s 2 (.m 31),
.s 3 (.mv (.c (.str [])))] [2,3])
.ret)
.skip))
(.seq
(.reg [
.s 32 (.m 0),
.s 33 (.m 0),
.s 34 (.lenS (.t 33)),
.s 35 (.bin .sub none (.t 34) (.k 6)),
.s 36 (.slS (.t 32) (some (.t 35)) none),
.s 4 (.m 36)] [0,4])
(.seq
(.seq
(.reg [
.s 37 (.m 4),
.s 38 (.ixS (.t 37) (.k 3)),
.s 39 (.bin .neq (some .int) (.t 38) (.c (.int .u8 58))),
.s 40 (.m 39),
.g 41 (.m 4) 40 false,
.g 42 (.slS (.t 41) (some (.k 1)) (some (.k 3))) 40 false,
.g 43 (.call 104 [(.t 42),(.k 0),(.k 23)]) 40 false,
.g 44 (.un .not (.t 43)) 40 false,
.s 45 (.pick (.t 40) (.c (.bool true)) (.t 44)),
.s 46 (.m 45),
.g 47 (.m 4) 46 false,
.g 48 (.slS (.t 47) (some (.k 4)) none) 46 false,
.g 49 (.call 104 [(.t 48),(.k 0),(.k 59)]) 46 false,
.g 50 (.un .not (.t 49)) 46 false,
.s 51 (.pick (.t 46) (.c (.bool true)) (.t 50))] [0,4,51])
(.cnd (.t 51)
(.seq
(.reg [
.s 52 (.m 0),
.s 2 (.m 52),
.s 3 (.mv (.c (.str [])))] [2,3])
.ret)
.skip))
(.seq
(.reg [
.s 53 (.m 0),
.s 54 (.m 0),
.s 55 (.lenS (.t 54)),
.s 56 (.bin .sub none (.t 55) (.k 6)),
.s 57 (.slS (.t 53) none (some (.t 56))),
.s 58 (.m 4),
.s 2 (.m 57),
.s 3 (.m 58)] [2,3])
.ret)))))),
[.tmp 2,.tmp 3]⟩
/-- strings.Cut -/
def F86 : DF := ⟨2,
(.seq
(.reg [
.s 4 (.mv (.c (.str []))),
.s 5 (.mv (.c (.str []))),
.s 6 (.mv (.c (.bool false)))] [0,1])
(.seq
(.reg [
.s 7 (.m 0),
.s 8 (.m 1),
.s 9 (.call 108 [(.t 7),(.t 8)]),
.s 10 (.ext (.t 9) 0),
.s 11 (.ext (.t 9) 1),
.s 12 (.ext (.t 9) 2),
.s 4 (.m 10),
.s 5 (.m 11),
.s 6 (.m 12)] [4,5,6])
.ret)),
[.tmp 4,.tmp 5,.tmp 6]⟩
/-- emend/num.Split -/
def F87 : DF := ⟨1,
(.seq
(.reg [
.s 2 (.alL [(.bool false),(.str []),(.int .i64 0)]),
.s 3 (.mv (.k 0))] [0,2])
(.seq
(.reg [
.s 13 (.m 0),
.s 14 (.call 109 [(.t 13)]),
.s 12 (.m 14),
.s 15 (.ext (.t 12) 0),
.s 16 (.ext (.t 12) 1),
.s 17 (.ext (.t 12) 2),
.s 18 (.ext (.t 12) 3),
.s 19 (.ext (.t 12) 4),
.s 4 (.m 15),
.s 5 (.m 16),
.s 6 (.m 17),
.s 7 (.m 18),
.s 8 (.m 19)] [0,2,4,5,6,7,8])
(.seq
(.seq
(.reg [
.s 20 (.m 8),
.s 21 (.un .not (.t 20))] [0,2,4,5,6,7,21])
(.cnd (.t 21)
(.seq
(.reg [
.s 22 (.bld [(.bool false),(.str []),(.int .i64 0)] []),
.n (.st 3 (.t 2) (.t 22)),
.s 3 (.mv (.k 12))] [2,3])
.ret)
.skip))
(.seq
(.seq
(.reg [
.s 23 (.m 0),
.s 24 (.lenS (.t 23)),
.s 25 (.bin .gtr none (.t 24) (.k 1000))] [2,4,5,6,7,25])
(.cnd (.t 25)
(.seq
(.reg [
.s 26 (.bld [(.bool false),(.str []),(.int .i64 0)] []),
.n (.st 3 (.t 2) (.t 26)),
.s 3 (.mv (.k 2))] [2,3])
.ret)
.skip))
(.seq
(.reg [
.s 28 (.m 7),
.s 29 (.call 110 [(.t 28)]),
.s 27 (.m 29),
.s 30 (.ext (.t 27) 0),
.s 31 (.ext (.t 27) 1),
.s 9 (.m 30),
.s 8 (.m 31)] [2,4,5,6,8,9])
(.seq
(.seq
(.reg [
.s 32 (.m 8),
.s 33 (.un .not (.t 32))] [2,4,5,6,9,33])
(.cnd (.t 33)
(.seq
(.reg [
.s 34 (.bld [(.bool false),(.str []),(.int .i64 0)] []),
.n (.st 3 (.t 2) (.t 34)),
.s 3 (.mv (.k 5))] [2,3])
.ret)
.skip))
(.seq
(.reg [
.s 35 (.m 5),
.s 36 (.m 6),
.s 37 (.bin .add none (.t 35) (.t 36)),
.s 38 (.call 111 [(.t 37),(.c (.str [48]))]),
.s 10 (.m 38)] [2,4,6,9,10])
(.seq
(.reg [
.s 39 (.m 9),
.s 40 (.m 6),
.s 41 (.lenS (.t 40)),
.s 42 (.bin .sub none (.t 39) (.t 41)),
.s 9 (.m 42)] [2,4,9,10])
(.seq
(.reg [
.s 43 (.m 10),
.s 44 (.call 112 [(.t 43),(.c (.str [48]))]),
.s 11 (.m 44)] [2,4,9,10,11])
(.seq
(.reg [
.s 45 (.m 9),
.s 46 (.m 10),
.s 47 (.lenS (.t 46)),
.s 48 (.m 11),
.s 49 (.lenS (.t 48)),
.s 50 (.bin .sub none (.t 47) (.t 49)),
.s 51 (.bin .add none (.t 45) (.t 50)),
.s 9 (.m 51)] [2,4,9,11])
(.seq
(.seq
(.reg [
.s 52 (.m 11),
.s 53 (.bin .eql (some .str) (.t 52) (.c (.str [])))] [2,4,9,11,53])
(.cnd (.t 53)
(.seq
(.reg [
.s 54 (.bld [(.bool false),(.str []),(.int .i64 0)] []),
.n (.st 3 (.t 2) (.t 54)),
.s 3 (.mv (.k 0))] [2,3])
.ret)
.skip))
(.seq
(.reg [
.s 55 (.m 4),
.s 56 (.m 11),
.s 57 (.m 9),
.s 58 (.bld [(.bool false),(.str []),(.int .i64 0)] [(0,1,(.t 55)),(1,1,(.t 56)),(2,1,(.t 57))]),
.n (.st 3 (.t 2) (.t 58)),
.s 3 (.mv (.k 0))] [2,3])
.ret)))))))))))),
[.cell 2 true 3,.tmp 3]⟩
/-- emend/num.Join -/
def F88 : DF := ⟨1,
(.seq
(.reg [
.s 1 (.bxL (.t 0)),
.s 2 (.mv (.c (.str []))),
.s 3 (.mv (.k 0))] [1])
(.seq
(.reg [
.s 6 (.fa 1 (.t 1)),
.s 7 (.l 6),
.s 8 (.lenS (.t 7)),
.s 4 (.m 8)] [1,4])
(.seq
(.blk 0
(.seq
(.seq
(.reg [
.s 10 (.fa 1 (.t 1)),
.s 11 (.l 10),
.s 12 (.call 113 [(.t 11)]),
.s 13 (.m 4),
.s 14 (.bin .lss none (.t 12) (.t 13)),
.s 9 (.m 14)] [1,4,9])
(.cnd (.t 9)
.skip
(.seq
(.reg [
.s 15 (.m 4),
.s 16 (.bin .gtr none (.t 15) (.k 0)),
.s 17 (.m 16),
.g 18 (.fa 1 (.t 1)) 17 true,
.g 19 (.l 18) 17 true,
.g 20 (.ixS (.t 19) (.k 0)) 17 true,
.g 21 (.bin .eql (some .int) (.t 20) (.c (.int .u8 48))) 17 true,
.g 22 (.m 21) 17 true,
.g 23 (.fa 1 (.t 1)) 22 false,
.g 24 (.l 23) 22 false,
.g 25 (.m 4) 22 false,
.g 26 (.bin .sub none (.t 25) (.k 1)) 22 false,
.g 27 (.ixS (.t 24) (.t 26)) 22 false,
.g 28 (.bin .eql (some .int) (.t 27) (.c (.int .u8 48))) 22 false,
.g 29 (.pick (.t 22) (.c (.bool true)) (.t 28)) 17 true,
.s 30 (.pick (.t 17) (.t 29) (.c (.bool false))),
.s 9 (.m 30)] [1,4,9])
(.cnd (.t 9)
.skip
(.reg [
.s 31 (.m 4),
.s 32 (.bin .eql (some .int) (.t 31) (.k 0)),
.s 33 (.m 32),
.g 34 (.fa 2 (.t 1)) 33 true,
.g 35 (.l 34) 33 true,
.g 36 (.bin .neq (some .int) (.t 35) (.k 0)) 33 true,
.g 37 (.m 36) 33 true,
.g 38 (.fa 0 (.t 1)) 37 false,
.g 39 (.l 38) 37 false,
.g 40 (.pick (.t 37) (.c (.bool true)) (.t 39)) 33 true,
.s 41 (.pick (.t 33) (.t 40) (.c (.bool false))),
.s 9 (.m 41)] [1,4,9])))))
(.cnd (.t 9)
(.seq
(.reg [
.s 2 (.mv (.c (.str []))),
.s 3 (.mv (.k 1))] [2,3])
.ret)
(.seq
(.reg [
.s 43 (.fa 2 (.t 1)),
.s 44 (.l 43),
.s 45 (.bin .lss none (.t 44) (.k (-999999))),
.s 46 (.m 45),
.g 47 (.fa 2 (.t 1)) 46 false,
.g 48 (.l 47) 46 false,
.g 49 (.bin .gtr none (.t 48) (.k 999999)) 46 false,
.s 50 (.pick (.t 46) (.c (.bool true)) (.t 49)),
.s 42 (.m 50)] [1,4,42])
(.cnd (.t 42)
(.seq
(.reg [
.s 2 (.mv (.c (.str []))),
.s 3 (.mv (.k 5))] [2,3])
.ret)
(.seq
(.reg [
.s 52 (.m 4),
.s 53 (.bin .eql (some .int) (.t 52) (.k 0)),
.s 51 (.m 53)] [1,51])
(.cnd (.t 51)
(.seq
(.reg [
.s 2 (.mv (.c (.str [48]))),
.s 3 (.mv (.k 0))] [2,3])
.ret)
.skip)))))))
(.seq
(.reg [
.s 54 (.fa 1 (.t 1)),
.s 55 (.l 54),
.s 5 (.m 55)] [1,5])
(.seq
(.seq
(.reg [
.s 56 (.fa 0 (.t 1)),
.s 57 (.l 56)] [1,5,57])
(.cnd (.t 57)
(.reg [
.s 58 (.m 5),
.s 59 (.bin .add none (.c (.str [45])) (.t 58)),
.s 5 (.m 59)] [1,5])
.skip))
(.seq
(.seq
(.reg [
.s 60 (.fa 2 (.t 1)),
.s 61 (.l 60),
.s 62 (.bin .neq (some .int) (.t 61) (.k 0))] [1,5,62])
(.cnd (.t 62)
(.reg [
.s 63 (.m 5),
.s 64 (.fa 2 (.t 1)),
.s 65 (.l 64),
.s 66 (.call 114 [(.t 65)]),
.s 67 (.bin .add none (.c (.str [101])) (.t 66)),
.s 68 (.bin .add none (.t 63) (.t 67)),
.s 5 (.m 68)] [5])
.skip))
(.seq
(.seq
(.reg [
.s 69 (.m 5),
.s 70 (.lenS (.t 69)),
.s 71 (.bin .gtr none (.t 70) (.k 1000))] [5,71])
(.cnd (.t 71)
(.seq
(.reg [
.s 2 (.mv (.c (.str []))),
.s 3 (.mv (.k 2))] [2,3])
.ret)
.skip))
(.seq
(.reg [
.s 72 (.m 5),
.s 2 (.m 72),
.s 3 (.mv (.k 0))] [2,3])
.ret)))))))),
[.tmp 2,.tmp 3]⟩
/-- slices.SortStableFunc[[]int,int] -/
def F89 : DF := ⟨2,
(.reg [
.s 4 (.m 0),
.s 5 (.m 0),
.s 6 (.len (.t 5)),
.s 7 (.m 1),
.s 8 (.call 115 [(.t 4),(.t 6),(.t 7)])] []),
[]⟩
/-- emend/tree.order$1 -/
def F90 : DF := ⟨3,
(.seq
(.reg [
.s 5 (.mv (.k 0))] [0,1,2])
(.seq
(.drw [
((.s 6 (.l 2),none),[]),
((.s 7 (.m 0),none),[]),
((.s 8 (.ia 1 (.t 6) (.t 7)),none),[]),
((.s 9 (.l 8),none),[]),
((.s 10 (.l 2),none),[]),
((.s 11 (.m 1),none),[]),
((.s 12 (.ia 1 (.t 10) (.t 11)),none),[]),
((.s 13 (.l 12),none),[]),
((.s 14 (.call 91 [(.t 9),(.t 13)]),none),[]),
((.s 5 (.m 14),none),[])] [5])
.ret)),
[.tmp 5]⟩
/-- strings.Compare -/
def F91 : DF := ⟨2,
(.seq
(.reg [
.s 4 (.mv (.k 0))] [0,1])
(.seq
(.reg [
.s 5 (.m 0),
.s 6 (.m 1),
.s 7 (.call 116 [(.t 5),(.t 6)]),
.s 4 (.m 7)] [4])
.ret)),
[.tmp 4]⟩
/-- emend/text.row -/
def F99 : DF := ⟨1,
(.seq
(.reg [
.s 2 (.mv (.k 0)),
.s 3 (.mv (.k 0)),
.s 4 (.mv (.k 0))] [0])
(.seq
(.blk 0
(.seq
(.reg [
.s 6 (.m 0),
.s 7 (.bin .shr none (.t 6) (.c (.int .u64 7))),
.s 8 (.bin .eql (some .int) (.t 7) (.c (.int .u8 0))),
.s 5 (.m 8)] [0,5])
(.cnd (.t 5)
(.seq
(.reg [
.s 9 (.m 0),
.s 10 (.cvI .i64 (.t 9)),
.s 2 (.mv (.k 1)),
.s 3 (.m 10),
.s 4 (.mv (.k 0))] [2,3,4])
.ret)
(.seq
(.reg [
.s 12 (.m 0),
.s 13 (.bin .shr none (.t 12) (.c (.int .u64 5))),
.s 14 (.bin .eql (some .int) (.t 13) (.c (.int .u8 6))),
.s 11 (.m 14)] [0,11])
(.cnd (.t 11)
(.seq
(.reg [
.s 15 (.m 0),
.s 16 (.bin .and none (.t 15) (.c (.int .u8 31))),
.s 17 (.cvI .i64 (.t 16)),
.s 2 (.mv (.k 2)),
.s 3 (.m 17),
.s 4 (.mv (.k 128))] [2,3,4])
.ret)
(.seq
(.reg [
.s 19 (.m 0),
.s 20 (.bin .shr none (.t 19) (.c (.int .u64 4))),
.s 21 (.bin .eql (some .int) (.t 20) (.c (.int .u8 14))),
.s 18 (.m 21)] [0,18])
(.cnd (.t 18)
(.seq
(.reg [
.s 22 (.m 0),
.s 23 (.bin .and none (.t 22) (.c (.int .u8 15))),
.s 24 (.cvI .i64 (.t 23)),
.s 2 (.mv (.k 3)),
.s 3 (.m 24),
.s 4 (.mv (.k 2048))] [2,3,4])
.ret)
(.seq
(.reg [
.s 26 (.m 0),
.s 27 (.bin .shr none (.t 26) (.c (.int .u64 3))),
.s 28 (.bin .eql (some .int) (.t 27) (.c (.int .u8 30))),
.s 25 (.m 28)] [0,25])
(.cnd (.t 25)
(.seq
(.reg [
.s 29 (.m 0),
.s 30 (.bin .and none (.t 29) (.c (.int .u8 7))),
.s 31 (.cvI .i64 (.t 30)),
.s 2 (.mv (.k 4)),
.s 3 (.m 31),
.s 4 (.mv (.k 65536))] [2,3,4])
.ret)
.skip)))))))))
(.seq
(.reg [
.s 2 (.mv (.k 0)),
.s 3 (.mv (.k 0)),
.s 4 (.mv (.k 0))] [2,3,4])
.ret))),
[.tmp 2,.tmp 3,.tmp 4]⟩
/-- emend/text.character -/
def F100 : DF := ⟨1,
(.seq
(.reg [
.s 2 (.mv (.c (.bool false)))] [0])
(.seq
(.reg [
.s 3 (.m 0),
.s 4 (.bin .geq none (.t 3) (.k 0)),
.s 5 (.m 4),
.g 6 (.m 0) 5 true,
.g 7 (.bin .leq none (.t 6) (.k 1114111)) 5 true,
.s 8 (.pick (.t 5) (.t 7) (.c (.bool false))),
.s 9 (.m 8),
.g 10 (.m 0) 9 true,
.g 11 (.bin .lss none (.t 10) (.k 55296)) 9 true,
.g 12 (.m 11) 9 true,
.g 13 (.m 0) 12 false,
.g 14 (.bin .gtr none (.t 13) (.k 57343)) 12 false,
.g 15 (.pick (.t 12) (.c (.bool true)) (.t 14)) 9 true,
.s 16 (.pick (.t 9) (.t 15) (.c (.bool false))),
.s 2 (.m 16)] [2])
.ret)),
[.tmp 2]⟩

/-- emend/tree.two -/
def F103 : DF := ⟨1,
(.seq
(.reg [
.s 2 (.mv (.k 0))] [0])
(.seq
(.seq
(.reg [
.s 3 (.m 0),
.s 4 (.lenS (.t 3)),
.s 5 (.bin .neq (some .int) (.t 4) (.k 2)),
.s 6 (.m 5),
.g 7 (.m 0) 6 false,
.g 8 (.ixS (.t 7) (.k 0)) 6 false,
.g 9 (.bin .lss none (.t 8) (.c (.int .u8 48))) 6 false,
.s 10 (.pick (.t 6) (.c (.bool true)) (.t 9)),
.s 11 (.m 10),
.g 12 (.m 0) 11 false,
.g 13 (.ixS (.t 12) (.k 0)) 11 false,
.g 14 (.bin .gtr none (.t 13) (.c (.int .u8 57))) 11 false,
.s 15 (.pick (.t 11) (.c (.bool true)) (.t 14)),
.s 16 (.m 15),
.g 17 (.m 0) 16 false,
.g 18 (.ixS (.t 17) (.k 1)) 16 false,
.g 19 (.bin .lss none (.t 18) (.c (.int .u8 48))) 16 false,
.s 20 (.pick (.t 16) (.c (.bool true)) (.t 19)),
.s 21 (.m 20),
.g 22 (.m 0) 21 false,
.g 23 (.ixS (.t 22) (.k 1)) 21 false,
.g 24 (.bin .gtr none (.t 23) (.c (.int .u8 57))) 21 false,
.s 25 (.pick (.t 21) (.c (.bool true)) (.t 24))] [0,25])
(.cnd (.t 25)
(.seq
(.reg [
.s 2 (.mv (.k (-1)))] [2])
.ret)
.skip))
(.seq
(.drw [
((.s 26 (.m 0),none),[]),
((.s 27 (.ixS (.t 26) (.k 0)),none),[]),
((.s 28 (.bin .sub none (.t 27) (.c (.int .u8 48))),none),[]),
((.s 29 (.cvI .i64 (.t 28)),none),[]),
((.s 30 (.bin .mul none (.t 29) (.k 10)),none),[]),
((.s 31 (.m 0),none),[]),
((.s 32 (.ixS (.t 31) (.k 1)),none),[]),
((.s 33 (.bin .sub none (.t 32) (.c (.int .u8 48))),none),[]),
((.s 34 (.cvI .i64 (.t 33)),none),[]),
((.s 35 (.bin .add none (.t 30) (.t 34)),none),[]),
((.s 2 (.m 35),none),[])] [2])
.ret))),
[.tmp 2]⟩
/-- emend/tree.within -/
def F104 : DF := ⟨3,
(.seq
(.reg [
.s 6 (.mv (.c (.bool false)))] [0,1,2])
(.seq
(.reg [
.s 7 (.m 0),
.s 8 (.call 103 [(.t 7)]),
.s 9 (.m 1),
.s 10 (.bin .geq none (.t 8) (.t 9)),
.s 11 (.m 10),
.g 12 (.m 0) 11 true,
.g 13 (.call 103 [(.t 12)]) 11 true,
.g 14 (.m 2) 11 true,
.g 15 (.bin .leq none (.t 13) (.t 14)) 11 true,
.s 16 (.pick (.t 11) (.t 15) (.c (.bool false))),
.s 6 (.m 16)] [6])
.ret)),
[.tmp 6]⟩
/-- emend/tree.days -/
def F105 : DF := ⟨2,
(.seq
(.reg [
.s 4 (.mv (.k 0))] [0,1])
(.seq
(.seq
(.reg [
.s 5 (.m 1)] [0,5])
(.blk 0
(.seq
(.seq
(.reg [
.s 7 (.bin .eql (some .int) (.t 5) (.k 4)),
.s 6 (.m 7)] [0,5,6])
(.cnd (.t 6)
.skip
(.seq
(.reg [
.s 8 (.bin .eql (some .int) (.t 5) (.k 6)),
.s 6 (.m 8)] [0,5,6])
(.cnd (.t 6)
.skip
(.seq
(.reg [
.s 9 (.bin .eql (some .int) (.t 5) (.k 9)),
.s 6 (.m 9)] [0,5,6])
(.cnd (.t 6)
.skip
(.reg [
.s 10 (.bin .eql (some .int) (.t 5) (.k 11)),
.s 6 (.m 10)] [0,5,6])))))))
(.cnd (.t 6)
(.seq
(.reg [
.s 4 (.mv (.k 30))] [4])
.ret)
(.seq
(.reg [
.s 12 (.bin .eql (some .int) (.t 5) (.k 2)),
.s 11 (.m 12)] [0,11])
(.cnd (.t 11)
(.seq
(.seq
(.reg [
.s 13 (.m 0),
.s 14 (.bin .rem none (.t 13) (.k 4)),
.s 15 (.bin .eql (some .int) (.t 14) (.k 0)),
.s 16 (.m 15),
.g 17 (.m 0) 16 true,
.g 18 (.bin .rem none (.t 17) (.k 100)) 16 true,
.g 19 (.bin .neq (some .int) (.t 18) (.k 0)) 16 true,
.g 20 (.m 19) 16 true,
.g 21 (.m 0) 20 false,
.g 22 (.bin .rem none (.t 21) (.k 400)) 20 false,
.g 23 (.bin .eql (some .int) (.t 22) (.k 0)) 20 false,
.g 24 (.pick (.t 20) (.c (.bool true)) (.t 23)) 16 true,
.s 25 (.pick (.t 16) (.t 24) (.c (.bool false)))] [25])
(.cnd (.t 25)
(.seq
(.reg [
.s 4 (.mv (.k 29))] [4])
.ret)
.skip))
(.seq
(.reg [
.s 4 (.mv (.k 28))] [4])
.ret))
.skip))))))
(.seq
(.reg [
.s 4 (.mv (.k 31))] [4])
.ret))),
[.tmp 4]⟩

/-- strings.HasSuffix -/
def F107 : DF := ⟨2,
(.seq
(.reg [
.s 4 (.mv (.c (.bool false)))] [0,1])
(.seq
(.reg [
.s 5 (.m 0),
.s 6 (.m 1),
.s 7 (.call 130 [(.t 5),(.t 6)]),
.s 4 (.m 7)] [4])
.ret)),
[.tmp 4]⟩
/-- internal/stringslite.Cut -/
def F108 : DF := ⟨2,
(.seq
(.reg [
.s 4 (.mv (.c (.str []))),
.s 5 (.mv (.c (.str []))),
.s 6 (.mv (.c (.bool false)))] [0,1])
(.seq
(.seq
(.reg [
.s 8 (.m 0),
.s 9 (.m 1),
.s 10 (.call 131 [(.t 8),(.t 9)]),
.s 7 (.m 10)] [0,1,7])
(.seq
(.reg [
.s 11 (.m 7),
.s 12 (.bin .geq none (.t 11) (.k 0))] [0,1,7,12])
(.cnd (.t 12)
(.seq
(.drw [
((.s 13 (.m 0),none),[]),
((.s 14 (.m 7),none),[]),
((.s 15 (.slS (.t 13) none (some (.t 14))),none),[]),
((.s 16 (.m 0),none),[]),
((.s 17 (.m 7),none),[]),
((.s 18 (.m 1),none),[]),
((.s 19 (.lenS (.t 18)),none),[]),
((.s 20 (.bin .add none (.t 17) (.t 19)),none),[]),
((.s 21 (.slS (.t 16) (some (.t 20)) none),none),[]),
((.s 4 (.m 15),none),[]),
((.s 5 (.m 21),none),[]),
((.s 6 (.mv (.c (.bool true))),none),[])] [4,5,6])
.ret)
.skip)))
(.seq
(.reg [
.s 22 (.m 0),
.s 4 (.m 22),
.s 5 (.mv (.c (.str []))),
.s 6 (.mv (.c (.bool false)))] [4,5,6])
.ret))),
[.tmp 4,.tmp 5,.tmp 6]⟩
/-- emend/num.cut -/
def F109 : DF := ⟨1,
(.seq
(.reg [
.s 2 (.mv (.c (.bool false))),
.s 3 (.mv (.c (.str []))),
.s 4 (.mv (.c (.str []))),
.s 5 (.mv (.c (.str []))),
.s 6 (.mv (.c (.bool false)))] [0,4])
(.seq
(.reg [
.s 10 (.m 0),
.s 7 (.m 10)] [4,7])
(.seq
(.seq
(.reg [
.s 11 (.m 7),
.s 12 (.call 132 [(.t 11),(.c (.str [45]))]),
.s 2 (.m 12)] [2,4,7])
(.seq
(.reg [
.s 13 (.m 2)] [2,4,7,13])
(.cnd (.t 13)
(.reg [
.s 14 (.m 7),
.s 15 (.slS (.t 14) (some (.k 1)) none),
.s 7 (.m 15)] [2,4,7])
.skip)))
(.seq
(.reg [
.s 16 (.m 7),
.s 17 (.call 113 [(.t 16)]),
.s 8 (.m 17)] [2,4,7,8])
(.seq
(.seq
(.reg [
.s 18 (.m 8),
.s 19 (.bin .eql (some .int) (.t 18) (.k 0)),
.s 20 (.m 19),
.g 21 (.m 8) 20 false,
.g 22 (.bin .gtr none (.t 21) (.k 1)) 20 false,
.g 23 (.m 22) 20 false,
.g 24 (.m 7) 23 true,
.g 25 (.ixS (.t 24) (.k 0)) 23 true,
.g 26 (.bin .eql (some .int) (.t 25) (.c (.int .u8 48))) 23 true,
.g 27 (.pick (.t 23) (.t 26) (.c (.bool false))) 20 false,
.s 28 (.pick (.t 20) (.c (.bool true)) (.t 27))] [2,4,7,8,28])
(.cnd (.t 28)
(.seq
(.reg [
.s 2 (.mv (.c (.bool false))),
.s 3 (.mv (.c (.str []))),
.s 4 (.mv (.c (.str []))),
.s 5 (.mv (.c (.str []))),
.s 6 (.mv (.c (.bool false)))] [2,3,4,5,6])
.ret)
.skip))
(.seq
(.drw [
((.s 29 (.m 7),none),[]),
((.s 30 (.m 8),none),[]),
((.s 31 (.slS (.t 29) none (some (.t 30))),none),[]),
((.s 32 (.m 7),none),[]),
((.s 33 (.m 8),none),[]),
((.s 34 (.slS (.t 32) (some (.t 33)) none),none),[]),
((.s 3 (.m 31),none),[]),
((.s 7 (.m 34),none),[])] [2,3,4,7])
(.seq
(.seq
(.reg [
.s 35 (.m 7),
.s 36 (.call 132 [(.t 35),(.c (.str [46]))])] [2,3,4,7,36])
(.cnd (.t 36)
(.seq
(.seq
(.reg [
.s 37 (.m 7),
.s 38 (.slS (.t 37) (some (.k 1)) none),
.s 39 (.call 113 [(.t 38)]),
.s 8 (.m 39)] [2,3,7,8])
(.seq
(.reg [
.s 40 (.m 8),
.s 41 (.bin .eql (some .int) (.t 40) (.k 0))] [2,3,7,8,41])
(.cnd (.t 41)
(.seq
(.reg [
.s 2 (.mv (.c (.bool false))),
.s 3 (.mv (.c (.str []))),
.s 4 (.mv (.c (.str []))),
.s 5 (.mv (.c (.str []))),
.s 6 (.mv (.c (.bool false)))] [2,3,4,5,6])
.ret)
.skip)))
(.drw [
((.s 42 (.m 7),none),[]),
((.s 43 (.m 8),none),[]),
((.s 44 (.bin .add none (.k 1) (.t 43)),none),[]),
((.s 45 (.slS (.t 42) (some (.k 1)) (some (.t 44))),none),[]),
((.s 46 (.m 7),none),[]),
((.s 47 (.m 8),none),[]),
((.s 48 (.bin .add none (.k 1) (.t 47)),none),[]),
((.s 49 (.slS (.t 46) (some (.t 48)) none),none),[]),
((.s 4 (.m 45),none),[]),
((.s 7 (.m 49),none),[])] [2,3,4,7]))
.skip))
(.seq
(.seq
(.reg [
.s 50 (.m 7),
.s 51 (.bin .eql (some .str) (.t 50) (.c (.str [])))] [2,3,4,7,51])
(.cnd (.t 51)
(.seq
(.reg [
.s 52 (.m 2),
.s 53 (.m 3),
.s 54 (.m 4),
.s 2 (.m 52),
.s 3 (.m 53),
.s 4 (.m 54),
.s 5 (.mv (.c (.str []))),
.s 6 (.mv (.c (.bool true)))] [2,3,4,5,6])
.ret)
.skip))
(.seq
(.seq
(.reg [
.s 55 (.m 7),
.s 56 (.ixS (.t 55) (.k 0)),
.s 57 (.bin .neq (some .int) (.t 56) (.c (.int .u8 101))),
.s 58 (.m 57),
.g 59 (.m 7) 58 true,
.g 60 (.ixS (.t 59) (.k 0)) 58 true,
.g 61 (.bin .neq (some .int) (.t 60) (.c (.int .u8 69))) 58 true,
.s 62 (.pick (.t 58) (.t 61) (.c (.bool false)))] [2,3,4,7,62])
(.cnd (.t 62)
(.seq
(.reg [
.s 2 (.mv (.c (.bool false))),
.s 3 (.mv (.c (.str []))),
.s 4 (.mv (.c (.str []))),
.s 5 (.mv (.c (.str []))),
.s 6 (.mv (.c (.bool false)))] [2,3,4,5,6])
.ret)
.skip))
(.seq
(.reg [
.s 63 (.m 7),
.s 64 (.slS (.t 63) (some (.k 1)) none),
.s 5 (.m 64)] [2,3,4,5])
(.seq
(.reg [
.s 65 (.m 5),
.s 66 (.call 133 [(.t 65),(.c (.str [45]))]),
.s 9 (.m 66)] [2,3,4,5,9])
(.seq
(.seq
(.reg [
.s 67 (.m 9),
.s 68 (.m 5),
.s 69 (.bin .eql (some .str) (.t 67) (.t 68))] [2,3,4,5,9,69])
(.cnd (.t 69)
(.reg [
.s 70 (.m 5),
.s 71 (.call 133 [(.t 70),(.c (.str [43]))]),
.s 9 (.m 71)] [2,3,4,5,9])
.skip))
(.seq
(.seq
(.reg [
.s 72 (.m 9),
.s 73 (.bin .eql (some .str) (.t 72) (.c (.str []))),
.s 74 (.m 73),
.g 75 (.m 9) 74 false,
.g 76 (.call 113 [(.t 75)]) 74 false,
.g 77 (.m 9) 74 false,
.g 78 (.lenS (.t 77)) 74 false,
.g 79 (.bin .lss none (.t 76) (.t 78)) 74 false,
.s 80 (.pick (.t 74) (.c (.bool true)) (.t 79))] [2,3,4,5,80])
(.cnd (.t 80)
(.seq
(.reg [
.s 2 (.mv (.c (.bool false))),
.s 3 (.mv (.c (.str []))),
.s 4 (.mv (.c (.str []))),
.s 5 (.mv (.c (.str []))),
.s 6 (.mv (.c (.bool false)))] [2,3,4,5,6])
.ret)
.skip))
(.seq
(.reg [
.s 81 (.m 2),
.s 82 (.m 3),
.s 83 (.m 4),
.s 84 (.m 5),
.s 2 (.m 81),
.s 3 (.m 82),
.s 4 (.m 83),
.s 5 (.m 84),
.s 6 (.mv (.c (.bool true)))] [2,3,4,5,6])
.ret)))))))))))))),
[.tmp 2,.tmp 3,.tmp 4,.tmp 5,.tmp 6]⟩
/-- emend/num.exponent -/
def F110 : DF := ⟨1,
(.seq
(.reg [
.s 2 (.mv (.k 0)),
.s 3 (.mv (.c (.bool false)))] [0])
(.seq
(.reg [
.s 7 (.m 0),
.s 8 (.call 132 [(.t 7),(.c (.str [45]))]),
.s 4 (.m 8)] [0,4])
(.seq
(.reg [
.s 9 (.m 0),
.s 10 (.call 111 [(.t 9),(.c (.str [43,45]))]),
.s 11 (.call 111 [(.t 10),(.c (.str [48]))]),
.s 0 (.m 11)] [0,4])
(.seq
(.seq
(.reg [
.s 12 (.m 0),
.s 13 (.lenS (.t 12)),
.s 14 (.bin .gtr none (.t 13) (.k 6))] [0,4,14])
(.cnd (.t 14)
(.seq
(.reg [
.s 2 (.mv (.k 0)),
.s 3 (.mv (.c (.bool false)))] [2,3])
.ret)
.skip))
(.seq
(.reg [
.s 16 (.m 0),
.s 17 (.bin .add none (.c (.str [48])) (.t 16)),
.s 18 (.call 134 [(.t 17)]),
.s 15 (.m 18),
.s 19 (.ext (.t 15) 0),
.s 20 (.ext (.t 15) 1),
.s 5 (.m 19),
.s 6 (.m 20)] [4,5])
(.seq
(.seq
(.reg [
.s 21 (.m 4)] [5,21])
(.cnd (.t 21)
(.seq
(.reg [
.s 22 (.m 5),
.s 23 (.un .neg (.t 22)),
.s 2 (.m 23),
.s 3 (.mv (.c (.bool true)))] [2,3])
.ret)
.skip))
(.seq
(.reg [
.s 24 (.m 5),
.s 2 (.m 24),
.s 3 (.mv (.c (.bool true)))] [2,3])
.ret))))))),
[.tmp 2,.tmp 3]⟩

/-- emend/num.run -/
def F113 : DF := ⟨1,
(.seq
(.reg [
.s 2 (.mv (.k 0))] [0])
(.seq
(.reg [
.s 3 (.mv (.k 0))] [0,3])
(.seq
(.blk 0
(.seq
(.trim [0,3])
(.lop
(.seq
(.seq
(.seq
(.reg [
.s 4 (.m 3),
.s 5 (.m 0),
.s 6 (.lenS (.t 5)),
.s 7 (.bin .lss none (.t 4) (.t 6)),
.s 8 (.m 7),
.g 9 (.m 0) 8 true,
.g 10 (.m 3) 8 true,
.g 11 (.ixS (.t 9) (.t 10)) 8 true,
.g 12 (.call 135 [(.t 11)]) 8 true,
.s 13 (.pick (.t 8) (.t 12) (.c (.bool false)))] [0,3,13])
(.cnd (.t 13)
.skip
(.exit 0)))
(.blk 1
(.reg [
.s 14 (.m 3),
.s 15 (.bin .add none (.t 14) (.k 1)),
.s 3 (.m 15)] [0,3])))
(.trim [0,3])))))
(.seq
(.reg [
.s 16 (.m 3),
.s 2 (.m 16)] [2])
.ret)))),
[.tmp 2]⟩

/-- slices.stableCmpFunc[int] -/
def F115 : DF := ⟨3,
(.seq
(.reg [
.s 6 (.mv (.k 20))] [0,1,2,6])
(.seq
(.reg [
.s 10 (.m 6),
.s 7 (.mv (.k 0)),
.s 8 (.m 10)] [0,1,2,6,7,8])
(.seq
(.blk 0
(.seq
(.trim [0,1,2,6,7,8])
(.lop
(.seq
(.seq
(.seq
(.reg [
.s 11 (.m 8),
.s 12 (.m 1),
.s 13 (.bin .leq none (.t 11) (.t 12))] [0,1,2,6,7,8,13])
(.cnd (.t 13)
.skip
(.exit 0)))
(.blk 1
(.seq
(.reg [
.s 14 (.m 0),
.s 15 (.m 7),
.s 16 (.m 8),
.s 17 (.m 2),
.s 18 (.call 137 [(.t 14),(.t 15),(.t 16),(.t 17)])] [0,1,2,6,8])
(.seq
(.reg [
.s 19 (.m 8),
.s 7 (.m 19)] [0,1,2,6,7,8])
(.reg [
.s 20 (.m 8),
.s 21 (.m 6),
.s 22 (.bin .add none (.t 20) (.t 21)),
.s 8 (.m 22)] [0,1,2,6,7,8])))))
(.trim [0,1,2,6,7,8])))))
(.seq
(.reg [
.s 23 (.m 0),
.s 24 (.m 7),
.s 25 (.m 1),
.s 26 (.m 2),
.s 27 (.call 137 [(.t 23),(.t 24),(.t 25),(.t 26)])] [0,1,2,6])
(.blk 2
(.seq
(.trim [0,1,2,6])
(.lop
(.seq
(.seq
(.seq
(.reg [
.s 28 (.m 6),
.s 29 (.m 1),
.s 30 (.bin .lss none (.t 28) (.t 29))] [0,1,2,6,30])
(.cnd (.t 30)
.skip
(.exit 2)))
(.blk 3
(.seq
(.reg [
.s 31 (.m 6),
.s 32 (.bin .mul none (.k 2) (.t 31)),
.s 7 (.mv (.k 0)),
.s 8 (.m 32)] [0,1,2,6,7,8])
(.seq
(.blk 4
(.seq
(.trim [0,1,2,6,7,8])
(.lop
(.seq
(.seq
(.seq
(.reg [
.s 33 (.m 8),
.s 34 (.m 1),
.s 35 (.bin .leq none (.t 33) (.t 34))] [0,1,2,6,7,8,35])
(.cnd (.t 35)
.skip
(.exit 4)))
(.blk 5
(.seq
(.reg [
.s 36 (.m 0),
.s 37 (.m 7),
.s 38 (.m 7),
.s 39 (.m 6),
.s 40 (.bin .add none (.t 38) (.t 39)),
.s 41 (.m 8),
.s 42 (.m 2),
.s 43 (.call 138 [(.t 36),(.t 37),(.t 40),(.t 41),(.t 42)])] [0,1,2,6,8])
(.seq
(.reg [
.s 44 (.m 8),
.s 7 (.m 44)] [0,1,2,6,7,8])
(.reg [
.s 45 (.m 8),
.s 46 (.m 6),
.s 47 (.bin .mul none (.k 2) (.t 46)),
.s 48 (.bin .add none (.t 45) (.t 47)),
.s 8 (.m 48)] [0,1,2,6,7,8])))))
(.trim [0,1,2,6,7,8])))))
(.seq
(.seq
(.reg [
.s 49 (.m 7),
.s 50 (.m 6),
.s 51 (.bin .add none (.t 49) (.t 50)),
.s 9 (.m 51)] [0,1,2,6,7,9])
(.seq
(.reg [
.s 52 (.m 9),
.s 53 (.m 1),
.s 54 (.bin .lss none (.t 52) (.t 53))] [0,1,2,6,7,9,54])
(.cnd (.t 54)
(.reg [
.s 55 (.m 0),
.s 56 (.m 7),
.s 57 (.m 9),
.s 58 (.m 1),
.s 59 (.m 2),
.s 60 (.call 138 [(.t 55),(.t 56),(.t 57),(.t 58),(.t 59)])] [0,1,2,6])
.skip)))
(.reg [
.s 61 (.m 6),
.s 62 (.bin .mul none (.t 61) (.k 2)),
.s 6 (.m 62)] [0,1,2,6]))))))
(.trim [0,1,2,6]))))))))),
[]⟩
/-- internal/bytealg.CompareString -/
def F116 : DF := ⟨2,
(.seq
(.reg [
.s 4 (.mv (.k 0))] [0,1])
(.seq
(.reg [
.s 5 (.m 0),
.s 6 (.m 1),
.s 7 (.xtn .compare [(.t 5),(.t 6)]),
.s 4 (.m 7)] [4])
.ret)),
[.tmp 4]⟩

/-- internal/stringslite.HasSuffix -/
def F130 : DF := ⟨2,
(.seq
(.reg [
.s 4 (.mv (.c (.bool false)))] [0,1])
(.seq
(.reg [
.s 5 (.m 0),
.s 6 (.lenS (.t 5)),
.s 7 (.m 1),
.s 8 (.lenS (.t 7)),
.s 9 (.bin .geq none (.t 6) (.t 8)),
.s 10 (.m 9),
.g 11 (.m 0) 10 true,
.g 12 (.m 0) 10 true,
.g 13 (.lenS (.t 12)) 10 true,
.g 14 (.m 1) 10 true,
.g 15 (.lenS (.t 14)) 10 true,
.g 16 (.bin .sub none (.t 13) (.t 15)) 10 true,
.g 17 (.slS (.t 11) (some (.t 16)) none) 10 true,
.g 18 (.m 1) 10 true,
.g 19 (.bin .eql (some .str) (.t 17) (.t 18)) 10 true,
.s 20 (.pick (.t 10) (.t 19) (.c (.bool false))),
.s 4 (.m 20)] [4])
.ret)),
[.tmp 4]⟩
/-- internal/stringslite.Index -/
def F131 : DF := ⟨2,
(.seq
(.reg [
.s 4 (.mv (.k 0))] [0,1])
(.seq
(.reg [
.s 14 (.m 1),
.s 15 (.lenS (.t 14)),
.s 5 (.m 15)] [0,1,5])
(.seq
(.blk 0
(.seq
(.reg [
.s 17 (.m 5),
.s 18 (.bin .eql (some .int) (.t 17) (.k 0)),
.s 19 (.m 18),
.g 20 (.m 1) 19 false,
.g 21 (.m 0) 19 false,
.g 22 (.bin .eql (some .str) (.t 20) (.t 21)) 19 false,
.s 23 (.pick (.t 19) (.c (.bool true)) (.t 22)),
.s 16 (.m 23)] [0,1,5,16])
(.cnd (.t 16)
(.seq
(.reg [
.s 4 (.mv (.k 0))] [4])
.ret)
(.seq
(.reg [
.s 25 (.m 5),
.s 26 (.bin .eql (some .int) (.t 25) (.k 1)),
.s 24 (.m 26)] [0,1,5,24])
(.cnd (.t 24)
(.seq
(.reg [
.s 27 (.m 0),
.s 28 (.m 1),
.s 29 (.ixS (.t 28) (.k 0)),
.s 30 (.call 147 [(.t 27),(.t 29)]),
.s 4 (.m 30)] [4])
.ret)
(.seq
(.reg [
.s 32 (.m 5),
.s 33 (.m 0),
.s 34 (.lenS (.t 33)),
.s 35 (.bin .geq none (.t 32) (.t 34)),
.s 31 (.m 35)] [0,1,5,31])
(.cnd (.t 31)
(.seq
(.reg [
.s 4 (.mv (.k (-1)))] [4])
.ret)
(.seq
(.reg [
.s 37 (.m 5),
.s 38 (.ld false 1 (.g 0)),
.s 39 (.bin .leq none (.t 37) (.t 38)),
.s 40 (.m 39),
.g 41 (.m 0) 40 true,
.g 42 (.lenS (.t 41)) 40 true,
.g 43 (.bin .leq none (.t 42) (.k 64)) 40 true,
.s 44 (.pick (.t 40) (.t 43) (.c (.bool false))),
.s 36 (.m 44)] [0,1,5,36])
(.cnd (.t 36)
(.seq
.fail
.ret)
.skip)))))))))
(.seq
(.reg [
.s 48 (.m 1),
.s 49 (.ixS (.t 48) (.k 0)),
.s 6 (.m 49)] [0,1,5,6])
(.seq
(.reg [
.s 50 (.m 1),
.s 51 (.ixS (.t 50) (.k 1)),
.s 7 (.m 51)] [0,1,5,6,7])
(.seq
(.reg [
.s 8 (.mv (.k 0))] [0,1,5,6,7,8])
(.seq
(.reg [
.s 52 (.m 0),
.s 53 (.lenS (.t 52)),
.s 54 (.m 5),
.s 55 (.bin .sub none (.t 53) (.t 54)),
.s 56 (.bin .add none (.t 55) (.k 1)),
.s 9 (.m 56)] [0,1,5,6,7,8,9])
(.seq
(.reg [
.s 10 (.mv (.k 0))] [0,1,5,6,7,8,9,10])
(.seq
(.blk 1
(.seq
(.trim [0,1,5,6,7,8,9,10])
(.lop
(.seq
(.seq
(.seq
(.reg [
.s 57 (.m 8),
.s 58 (.m 9),
.s 59 (.bin .lss none (.t 57) (.t 58))] [0,1,5,6,7,8,9,10,59])
(.cnd (.t 59)
.skip
(.exit 1)))
(.blk 2
(.seq
(.seq
(.reg [
.s 60 (.m 0),
.s 61 (.m 8),
.s 62 (.ixS (.t 60) (.t 61)),
.s 63 (.m 6),
.s 64 (.bin .neq (some .int) (.t 62) (.t 63))] [0,1,5,6,7,8,9,10,64])
(.cnd (.t 64)
(.seq
(.reg [
.s 65 (.m 0),
.s 66 (.m 8),
.s 67 (.bin .add none (.t 66) (.k 1)),
.s 68 (.m 9),
.s 69 (.slS (.t 65) (some (.t 67)) (some (.t 68))),
.s 70 (.m 6),
.s 71 (.call 147 [(.t 69),(.t 70)]),
.s 11 (.m 71)] [0,1,5,6,7,8,9,10,11])
(.seq
(.seq
(.reg [
.s 72 (.m 11),
.s 73 (.bin .lss none (.t 72) (.k 0))] [0,1,5,6,7,8,9,10,11,73])
(.cnd (.t 73)
(.seq
(.reg [
.s 4 (.mv (.k (-1)))] [4])
.ret)
.skip))
(.reg [
.s 74 (.m 8),
.s 75 (.m 11),
.s 76 (.bin .add none (.t 75) (.k 1)),
.s 77 (.bin .add none (.t 74) (.t 76)),
.s 8 (.m 77)] [0,1,5,6,7,8,9,10])))
.skip))
(.seq
(.seq
(.reg [
.s 78 (.m 0),
.s 79 (.m 8),
.s 80 (.bin .add none (.t 79) (.k 1)),
.s 81 (.ixS (.t 78) (.t 80)),
.s 82 (.m 7),
.s 83 (.bin .eql (some .int) (.t 81) (.t 82)),
.s 84 (.m 83),
.g 85 (.m 0) 84 true,
.g 86 (.m 8) 84 true,
.g 87 (.m 8) 84 true,
.g 88 (.m 5) 84 true,
.g 89 (.bin .add none (.t 87) (.t 88)) 84 true,
.g 90 (.slS (.t 85) (some (.t 86)) (some (.t 89))) 84 true,
.g 91 (.m 1) 84 true,
.g 92 (.bin .eql (some .str) (.t 90) (.t 91)) 84 true,
.s 93 (.pick (.t 84) (.t 92) (.c (.bool false)))] [0,1,5,6,7,8,9,10,93])
(.cnd (.t 93)
(.seq
(.reg [
.s 94 (.m 8),
.s 4 (.m 94)] [4])
.ret)
.skip))
(.seq
(.reg [
.s 95 (.m 8),
.s 96 (.bin .add none (.t 95) (.k 1)),
.s 8 (.m 96)] [0,1,5,6,7,8,9,10])
(.seq
(.reg [
.s 97 (.m 10),
.s 98 (.bin .add none (.t 97) (.k 1)),
.s 10 (.m 98)] [0,1,5,6,7,8,9,10])
(.seq
(.reg [
.s 99 (.m 5),
.s 100 (.ld false 1 (.g 0)),
.s 101 (.bin .leq none (.t 99) (.t 100)),
.s 102 (.m 101),
.g 103 (.m 10) 102 true,
.g 104 (.m 8) 102 true,
.g 105 (.call 149 [(.t 104)]) 102 true,
.g 106 (.bin .gtr none (.t 103) (.t 105)) 102 true,
.s 107 (.pick (.t 102) (.t 106) (.c (.bool false)))] [0,1,5,6,7,8,9,10,107])
(.cnd (.t 107)
(.seq
.fail
(.seq
(.seq
(.reg [
.s 113 (.m 12),
.s 114 (.bin .geq none (.t 113) (.k 0))] [8,12,114])
(.cnd (.t 114)
(.seq
(.reg [
.s 115 (.m 12),
.s 116 (.m 8),
.s 117 (.bin .add none (.t 115) (.t 116)),
.s 4 (.m 117)] [4])
.ret)
.skip))
(.seq
(.reg [
.s 4 (.mv (.k (-1)))] [4])
.ret)))
(.seq
(.reg [
.s 118 (.m 5),
.s 119 (.ld false 1 (.g 0)),
.s 120 (.bin .gtr none (.t 118) (.t 119)),
.s 121 (.m 120),
.g 122 (.m 10) 121 true,
.g 123 (.m 8) 121 true,
.g 124 (.bin .shr none (.t 123) (.c (.int .u64 4))) 121 true,
.g 125 (.bin .add none (.k 4) (.t 124)) 121 true,
.g 126 (.bin .geq none (.t 122) (.t 125)) 121 true,
.s 127 (.pick (.t 121) (.t 126) (.c (.bool false))),
.s 128 (.m 127),
.g 129 (.m 8) 128 true,
.g 130 (.m 9) 128 true,
.g 131 (.bin .lss none (.t 129) (.t 130)) 128 true,
.s 132 (.pick (.t 128) (.t 131) (.c (.bool false)))] [0,1,5,6,7,8,9,10,132])
(.cnd (.t 132)
(.seq
(.reg [
.s 133 (.m 0),
.s 134 (.m 8),
.s 135 (.slS (.t 133) (some (.t 134)) none),
.s 136 (.m 1),
.s 137 (.call 150 [(.t 135),(.t 136)]),
.s 13 (.m 137)] [8,13])
(.seq
(.seq
(.reg [
.s 138 (.m 13),
.s 139 (.bin .lss none (.t 138) (.k 0))] [8,13,139])
(.cnd (.t 139)
(.seq
(.reg [
.s 4 (.mv (.k (-1)))] [4])
.ret)
.skip))
(.seq
(.reg [
.s 140 (.m 8),
.s 141 (.m 13),
.s 142 (.bin .add none (.t 140) (.t 141)),
.s 4 (.m 142)] [4])
.ret)))
.skip))))))))))
(.trim [0,1,5,6,7,8,9,10])))))
(.seq
(.reg [
.s 4 (.mv (.k (-1)))] [4])
.ret)))))))))),
[.tmp 4]⟩
/-- strings.HasPrefix -/
def F132 : DF := ⟨2,
(.seq
(.reg [
.s 4 (.mv (.c (.bool false)))] [0,1])
(.seq
(.reg [
.s 5 (.m 0),
.s 6 (.m 1),
.s 7 (.call 151 [(.t 5),(.t 6)]),
.s 4 (.m 7)] [4])
.ret)),
[.tmp 4]⟩
/-- strings.TrimPrefix -/
def F133 : DF := ⟨2,
(.seq
(.reg [
.s 4 (.mv (.c (.str [])))] [0,1])
(.seq
(.reg [
.s 5 (.m 0),
.s 6 (.m 1),
.s 7 (.call 152 [(.t 5),(.t 6)]),
.s 4 (.m 7)] [4])
.ret)),
[.tmp 4]⟩

/-- emend/num.digit -/
def F135 : DF := ⟨1,
(.seq
(.reg [
.s 2 (.mv (.c (.bool false)))] [0])
(.seq
(.reg [
.s 3 (.m 0),
.s 4 (.bin .geq none (.t 3) (.c (.int .u8 48))),
.s 5 (.m 4),
.g 6 (.m 0) 5 true,
.g 7 (.bin .leq none (.t 6) (.c (.int .u8 57))) 5 true,
.s 8 (.pick (.t 5) (.t 7) (.c (.bool false))),
.s 2 (.m 8)] [2])
.ret)),
[.tmp 2]⟩

/-- slices.insertionSortCmpFunc[int] -/
def F137 : DF := ⟨4,
(.seq
(.reg [
.s 10 (.m 1),
.s 11 (.bin .add none (.t 10) (.k 1)),
.s 8 (.m 11)] [0,1,2,3,8])
(.blk 0
(.seq
(.trim [0,1,2,3,8])
(.lop
(.seq
(.seq
(.seq
(.reg [
.s 12 (.m 8),
.s 13 (.m 2),
.s 14 (.bin .lss none (.t 12) (.t 13))] [0,1,2,3,8,14])
(.cnd (.t 14)
.skip
(.exit 0)))
(.seq
(.blk 1
(.seq
(.reg [
.s 17 (.m 8),
.s 9 (.m 17)] [0,1,2,3,8,9])
(.blk 2
(.seq
(.trim [0,1,2,3,8,9])
(.lop
(.seq
(.seq
(.seq
(.drw [
((.s 18 (.m 9),none),[]),
((.s 19 (.m 1),none),[]),
((.s 20 (.bin .gtr none (.t 18) (.t 19)),none),[]),
((.s 21 (.m 20),none),[]),
((.g 22 (.m 3) 21 true,none),[]),
((.g 23 (.m 0) 21 true,none),[]),
((.g 24 (.m 9) 21 true,none),[]),
((.g 25 (.ia 1 (.t 23) (.t 24)) 21 true,none),[]),
((.g 26 (.l 25) 21 true,none),[]),
((.g 27 (.m 0) 21 true,none),[]),
((.g 28 (.m 9) 21 true,none),[]),
((.g 29 (.bin .sub none (.t 28) (.k 1)) 21 true,none),[]),
((.g 30 (.ia 1 (.t 27) (.t 29)) 21 true,none),[]),
((.g 31 (.l 30) 21 true,none),[]),
((.g 32 (.callv (.t 22) [(.t 26),(.t 31)]) 21 true,none),[]),
((.g 33 (.bin .lss none (.t 32) (.k 0)) 21 true,none),[]),
((.s 34 (.pick (.t 21) (.t 33) (.c (.bool false))),none),[])] [0,1,2,3,8,9,34])
(.cnd (.t 34)
.skip
(.exit 2)))
(.seq
(.blk 3
(.drw [
((.s 37 (.m 0),none),[]),
((.s 38 (.m 9),none),[]),
((.s 39 (.m 0),none),[]),
((.s 40 (.m 9),none),[]),
((.s 41 (.bin .sub none (.t 40) (.k 1)),none),[]),
((.s 42 (.m 0),none),[]),
((.s 43 (.m 9),none),[]),
((.s 44 (.bin .sub none (.t 43) (.k 1)),none),[]),
((.s 45 (.ia 1 (.t 42) (.t 44)),none),[]),
((.s 46 (.l 45),none),[]),
((.s 47 (.m 0),none),[]),
((.s 48 (.m 9),none),[]),
((.s 49 (.ia 1 (.t 47) (.t 48)),none),[]),
((.s 50 (.l 49),none),[]),
((.s 51 (.ia 1 (.t 37) (.t 38)),none),[]),
((.n (.st 1 (.t 51) (.t 46)),none),[]),
((.s 52 (.ia 1 (.t 39) (.t 41)),none),[]),
((.n (.st 1 (.t 52) (.t 50)),none),[])] [0,1,2,3,8,9]))
(.reg [
.s 35 (.m 9),
.s 36 (.bin .sub none (.t 35) (.k 1)),
.s 9 (.m 36)] [0,1,2,3,8,9])))
(.trim [0,1,2,3,8,9])))))))
(.reg [
.s 15 (.m 8),
.s 16 (.bin .add none (.t 15) (.k 1)),
.s 8 (.m 16)] [0,1,2,3,8])))
(.trim [0,1,2,3,8])))))),
[]⟩
/-- slices.symMergeCmpFunc[int] -/
def F138 : DF := ⟨5,
(.seq
(.seq
(.reg [
.s 25 (.m 2),
.s 26 (.m 1),
.s 27 (.bin .sub none (.t 25) (.t 26)),
.s 28 (.bin .eql (some .int) (.t 27) (.k 1))] [0,1,2,3,4,28])
(.cnd (.t 28)
(.seq
(.reg [
.s 29 (.m 2),
.s 10 (.m 29)] [0,1,3,4,10])
(.seq
(.reg [
.s 30 (.m 3),
.s 11 (.m 30)] [0,1,4,10,11])
(.seq
(.blk 0
(.seq
(.trim [0,1,4,10,11])
(.lop
(.seq
(.seq
(.seq
(.reg [
.s 31 (.m 10),
.s 32 (.m 11),
.s 33 (.bin .lss none (.t 31) (.t 32))] [0,1,4,10,11,33])
(.cnd (.t 33)
.skip
(.exit 0)))
(.blk 1
(.seq
(.reg [
.s 34 (.m 10),
.s 35 (.m 11),
.s 36 (.bin .add none (.t 34) (.t 35)),
.s 37 (.cvI .u64 (.t 36)),
.s 38 (.bin .shr none (.t 37) (.c (.int .u64 1))),
.s 39 (.cvI .i64 (.t 38)),
.s 12 (.m 39)] [0,1,4,10,11,12])
(.seq
(.drw [
((.s 40 (.m 4),none),[]),
((.s 41 (.m 0),none),[]),
((.s 42 (.m 12),none),[]),
((.s 43 (.ia 1 (.t 41) (.t 42)),none),[]),
((.s 44 (.l 43),none),[]),
((.s 45 (.m 0),none),[]),
((.s 46 (.m 1),none),[]),
((.s 47 (.ia 1 (.t 45) (.t 46)),none),[]),
((.s 48 (.l 47),none),[]),
((.s 49 (.callv (.t 40) [(.t 44),(.t 48)]),none),[]),
((.s 50 (.bin .lss none (.t 49) (.k 0)),none),[])] [0,1,4,10,11,12,50])
(.cnd (.t 50)
(.reg [
.s 51 (.m 12),
.s 52 (.bin .add none (.t 51) (.k 1)),
.s 10 (.m 52)] [0,1,4,10,11])
(.reg [
.s 53 (.m 12),
.s 11 (.m 53)] [0,1,4,10,11]))))))
(.trim [0,1,4,10,11])))))
(.seq
(.seq
(.reg [
.s 54 (.m 1),
.s 13 (.m 54)] [0,10,13])
(.blk 2
(.seq
(.trim [0,10,13])
(.lop
(.seq
(.seq
(.seq
(.reg [
.s 55 (.m 13),
.s 56 (.m 10),
.s 57 (.bin .sub none (.t 56) (.k 1)),
.s 58 (.bin .lss none (.t 55) (.t 57))] [0,10,13,58])
(.cnd (.t 58)
.skip
(.exit 2)))
(.seq
(.blk 3
(.drw [
((.s 61 (.m 0),none),[]),
((.s 62 (.m 13),none),[]),
((.s 63 (.m 0),none),[]),
((.s 64 (.m 13),none),[]),
((.s 65 (.bin .add none (.t 64) (.k 1)),none),[]),
((.s 66 (.m 0),none),[]),
((.s 67 (.m 13),none),[]),
((.s 68 (.bin .add none (.t 67) (.k 1)),none),[]),
((.s 69 (.ia 1 (.t 66) (.t 68)),none),[]),
((.s 70 (.l 69),none),[]),
((.s 71 (.m 0),none),[]),
((.s 72 (.m 13),none),[]),
((.s 73 (.ia 1 (.t 71) (.t 72)),none),[]),
((.s 74 (.l 73),none),[]),
((.s 75 (.ia 1 (.t 61) (.t 62)),none),[]),
((.n (.st 1 (.t 75) (.t 70)),none),[]),
((.s 76 (.ia 1 (.t 63) (.t 65)),none),[]),
((.n (.st 1 (.t 76) (.t 74)),none),[])] [0,10,13]))
(.reg [
.s 59 (.m 13),
.s 60 (.bin .add none (.t 59) (.k 1)),
.s 13 (.m 60)] [0,10,13])))
(.trim [0,10,13]))))))
.ret))))
.skip))
(.seq
(.seq
(.reg [
.s 77 (.m 3),
.s 78 (.m 2),
.s 79 (.bin .sub none (.t 77) (.t 78)),
.s 80 (.bin .eql (some .int) (.t 79) (.k 1))] [0,1,2,3,4,80])
(.cnd (.t 80)
(.seq
(.reg [
.s 81 (.m 1),
.s 14 (.m 81)] [0,2,4,14])
(.seq
(.reg [
.s 82 (.m 2),
.s 15 (.m 82)] [0,2,4,14,15])
(.seq
(.blk 4
(.seq
(.trim [0,2,4,14,15])
(.lop
(.seq
(.seq
(.seq
(.reg [
.s 83 (.m 14),
.s 84 (.m 15),
.s 85 (.bin .lss none (.t 83) (.t 84))] [0,2,4,14,15,85])
(.cnd (.t 85)
.skip
(.exit 4)))
(.blk 5
(.seq
(.reg [
.s 86 (.m 14),
.s 87 (.m 15),
.s 88 (.bin .add none (.t 86) (.t 87)),
.s 89 (.cvI .u64 (.t 88)),
.s 90 (.bin .shr none (.t 89) (.c (.int .u64 1))),
.s 91 (.cvI .i64 (.t 90)),
.s 16 (.m 91)] [0,2,4,14,15,16])
(.seq
(.drw [
((.s 92 (.m 4),none),[]),
((.s 93 (.m 0),none),[]),
((.s 94 (.m 2),none),[]),
((.s 95 (.ia 1 (.t 93) (.t 94)),none),[]),
((.s 96 (.l 95),none),[]),
((.s 97 (.m 0),none),[]),
((.s 98 (.m 16),none),[]),
((.s 99 (.ia 1 (.t 97) (.t 98)),none),[]),
((.s 100 (.l 99),none),[]),
((.s 101 (.callv (.t 92) [(.t 96),(.t 100)]),none),[]),
((.s 102 (.bin .lss none (.t 101) (.k 0)),none),[]),
((.s 103 (.un .not (.t 102)),none),[])] [0,2,4,14,15,16,103])
(.cnd (.t 103)
(.reg [
.s 104 (.m 16),
.s 105 (.bin .add none (.t 104) (.k 1)),
.s 14 (.m 105)] [0,2,4,14,15])
(.reg [
.s 106 (.m 16),
.s 15 (.m 106)] [0,2,4,14,15]))))))
(.trim [0,2,4,14,15])))))
(.seq
(.seq
(.reg [
.s 107 (.m 2),
.s 17 (.m 107)] [0,14,17])
(.blk 6
(.seq
(.trim [0,14,17])
(.lop
(.seq
(.seq
(.seq
(.reg [
.s 108 (.m 17),
.s 109 (.m 14),
.s 110 (.bin .gtr none (.t 108) (.t 109))] [0,14,17,110])
(.cnd (.t 110)
.skip
(.exit 6)))
(.seq
(.blk 7
(.drw [
((.s 113 (.m 0),none),[]),
((.s 114 (.m 17),none),[]),
((.s 115 (.m 0),none),[]),
((.s 116 (.m 17),none),[]),
((.s 117 (.bin .sub none (.t 116) (.k 1)),none),[]),
((.s 118 (.m 0),none),[]),
((.s 119 (.m 17),none),[]),
((.s 120 (.bin .sub none (.t 119) (.k 1)),none),[]),
((.s 121 (.ia 1 (.t 118) (.t 120)),none),[]),
((.s 122 (.l 121),none),[]),
((.s 123 (.m 0),none),[]),
((.s 124 (.m 17),none),[]),
((.s 125 (.ia 1 (.t 123) (.t 124)),none),[]),
((.s 126 (.l 125),none),[]),
((.s 127 (.ia 1 (.t 113) (.t 114)),none),[]),
((.n (.st 1 (.t 127) (.t 122)),none),[]),
((.s 128 (.ia 1 (.t 115) (.t 117)),none),[]),
((.n (.st 1 (.t 128) (.t 126)),none),[])] [0,14,17]))
(.reg [
.s 111 (.m 17),
.s 112 (.bin .sub none (.t 111) (.k 1)),
.s 17 (.m 112)] [0,14,17])))
(.trim [0,14,17]))))))
.ret))))
.skip))
(.seq
(.reg [
.s 129 (.m 1),
.s 130 (.m 3),
.s 131 (.bin .add none (.t 129) (.t 130)),
.s 132 (.cvI .u64 (.t 131)),
.s 133 (.bin .shr none (.t 132) (.c (.int .u64 1))),
.s 134 (.cvI .i64 (.t 133)),
.s 18 (.m 134)] [0,1,2,3,4,18])
(.seq
(.reg [
.s 135 (.m 18),
.s 136 (.m 2),
.s 137 (.bin .add none (.t 135) (.t 136)),
.s 19 (.m 137)] [0,1,2,3,4,18,19])
(.seq
(.reg [
.s 20 (.mv (.k 0)),
.s 21 (.mv (.k 0))] [0,1,2,3,4,18,19])
(.seq
(.seq
(.reg [
.s 138 (.m 2),
.s 139 (.m 18),
.s 140 (.bin .gtr none (.t 138) (.t 139))] [0,1,2,3,4,18,19,140])
(.cnd (.t 140)
(.seq
(.reg [
.s 141 (.m 19),
.s 142 (.m 3),
.s 143 (.bin .sub none (.t 141) (.t 142)),
.s 20 (.m 143)] [0,1,2,3,4,18,19,20])
(.reg [
.s 144 (.m 18),
.s 21 (.m 144)] [0,1,2,3,4,18,19,20,21]))
(.seq
(.reg [
.s 145 (.m 1),
.s 20 (.m 145)] [0,1,2,3,4,18,19,20])
(.reg [
.s 146 (.m 2),
.s 21 (.m 146)] [0,1,2,3,4,18,19,20,21]))))
(.seq
(.reg [
.s 147 (.m 19),
.s 148 (.bin .sub none (.t 147) (.k 1)),
.s 22 (.m 148)] [0,1,2,3,4,18,19,20,21,22])
(.seq
(.blk 8
(.seq
(.trim [0,1,2,3,4,18,19,20,21,22])
(.lop
(.seq
(.seq
(.seq
(.reg [
.s 149 (.m 20),
.s 150 (.m 21),
.s 151 (.bin .lss none (.t 149) (.t 150))] [0,1,2,3,4,18,19,20,21,22,151])
(.cnd (.t 151)
.skip
(.exit 8)))
(.blk 9
(.seq
(.reg [
.s 152 (.m 20),
.s 153 (.m 21),
.s 154 (.bin .add none (.t 152) (.t 153)),
.s 155 (.cvI .u64 (.t 154)),
.s 156 (.bin .shr none (.t 155) (.c (.int .u64 1))),
.s 157 (.cvI .i64 (.t 156)),
.s 23 (.m 157)] [0,1,2,3,4,18,19,20,21,22,23])
(.seq
(.drw [
((.s 158 (.m 4),none),[]),
((.s 159 (.m 0),none),[]),
((.s 160 (.m 22),none),[]),
((.s 161 (.m 23),none),[]),
((.s 162 (.bin .sub none (.t 160) (.t 161)),none),[]),
((.s 163 (.ia 1 (.t 159) (.t 162)),none),[]),
((.s 164 (.l 163),none),[]),
((.s 165 (.m 0),none),[]),
((.s 166 (.m 23),none),[]),
((.s 167 (.ia 1 (.t 165) (.t 166)),none),[]),
((.s 168 (.l 167),none),[]),
((.s 169 (.callv (.t 158) [(.t 164),(.t 168)]),none),[]),
((.s 170 (.bin .lss none (.t 169) (.k 0)),none),[]),
((.s 171 (.un .not (.t 170)),none),[])] [0,1,2,3,4,18,19,20,21,22,23,171])
(.cnd (.t 171)
(.reg [
.s 172 (.m 23),
.s 173 (.bin .add none (.t 172) (.k 1)),
.s 20 (.m 173)] [0,1,2,3,4,18,19,20,21,22])
(.reg [
.s 174 (.m 23),
.s 21 (.m 174)] [0,1,2,3,4,18,19,20,21,22]))))))
(.trim [0,1,2,3,4,18,19,20,21,22])))))
(.seq
(.reg [
.s 175 (.m 19),
.s 176 (.m 20),
.s 177 (.bin .sub none (.t 175) (.t 176)),
.s 24 (.m 177)] [0,1,2,3,4,18,20,24])
(.seq
(.seq
(.reg [
.s 178 (.m 20),
.s 179 (.m 2),
.s 180 (.bin .lss none (.t 178) (.t 179)),
.s 181 (.m 180),
.g 182 (.m 2) 181 true,
.g 183 (.m 24) 181 true,
.g 184 (.bin .lss none (.t 182) (.t 183)) 181 true,
.s 185 (.pick (.t 181) (.t 184) (.c (.bool false)))] [0,1,2,3,4,18,20,24,185])
(.cnd (.t 185)
(.reg [
.s 186 (.m 0),
.s 187 (.m 20),
.s 188 (.m 2),
.s 189 (.m 24),
.s 190 (.m 4),
.s 191 (.call 156 [(.t 186),(.t 187),(.t 188),(.t 189),(.t 190)])] [0,1,3,4,18,20,24])
.skip))
(.seq
(.seq
(.reg [
.s 192 (.m 1),
.s 193 (.m 20),
.s 194 (.bin .lss none (.t 192) (.t 193)),
.s 195 (.m 194),
.g 196 (.m 20) 195 true,
.g 197 (.m 18) 195 true,
.g 198 (.bin .lss none (.t 196) (.t 197)) 195 true,
.s 199 (.pick (.t 195) (.t 198) (.c (.bool false)))] [0,1,3,4,18,20,24,199])
(.cnd (.t 199)
(.reg [
.s 200 (.m 0),
.s 201 (.m 1),
.s 202 (.m 20),
.s 203 (.m 18),
.s 204 (.m 4),
.s 205 (.call 138 [(.t 200),(.t 201),(.t 202),(.t 203),(.t 204)])] [0,3,4,18,24])
.skip))
(.seq
(.reg [
.s 206 (.m 18),
.s 207 (.m 24),
.s 208 (.bin .lss none (.t 206) (.t 207)),
.s 209 (.m 208),
.g 210 (.m 24) 209 true,
.g 211 (.m 3) 209 true,
.g 212 (.bin .lss none (.t 210) (.t 211)) 209 true,
.s 213 (.pick (.t 209) (.t 212) (.c (.bool false)))] [0,3,4,18,24,213])
(.cnd (.t 213)
(.reg [
.s 214 (.m 0),
.s 215 (.m 18),
.s 216 (.m 24),
.s 217 (.m 3),
.s 218 (.m 4),
.s 219 (.call 138 [(.t 214),(.t 215),(.t 216),(.t 217),(.t 218)])] [])
.skip))))))))))))),
[]⟩

/-- internal/stringslite.IndexByte -/
def F147 : DF := ⟨2,
(.seq
(.reg [
.s 4 (.mv (.k 0))] [0,1])
(.seq
(.reg [
.s 5 (.m 0),
.s 6 (.m 1),
.s 7 (.xtn .indexByte [(.t 5),(.t 6)]),
.s 4 (.m 7)] [4])
.ret)),
[.tmp 4]⟩

/-- internal/stringslite.HasPrefix -/
def F151 : DF := ⟨2,
(.seq
(.reg [
.s 4 (.mv (.c (.bool false)))] [0,1])
(.seq
(.reg [
.s 5 (.m 0),
.s 6 (.lenS (.t 5)),
.s 7 (.m 1),
.s 8 (.lenS (.t 7)),
.s 9 (.bin .geq none (.t 6) (.t 8)),
.s 10 (.m 9),
.g 11 (.m 0) 10 true,
.g 12 (.m 1) 10 true,
.g 13 (.lenS (.t 12)) 10 true,
.g 14 (.slS (.t 11) none (some (.t 13))) 10 true,
.g 15 (.m 1) 10 true,
.g 16 (.bin .eql (some .str) (.t 14) (.t 15)) 10 true,
.s 17 (.pick (.t 10) (.t 16) (.c (.bool false))),
.s 4 (.m 17)] [4])
.ret)),
[.tmp 4]⟩
/-- internal/stringslite.TrimPrefix -/
def F152 : DF := ⟨2,
(.seq
(.reg [
.s 4 (.mv (.c (.str [])))] [0,1])
(.seq
(.seq
(.reg [
.s 5 (.m 0),
.s 6 (.m 1),
.s 7 (.call 151 [(.t 5),(.t 6)])] [0,1,7])
(.cnd (.t 7)
(.seq
(.reg [
.s 8 (.m 0),
.s 9 (.m 1),
.s 10 (.lenS (.t 9)),
.s 11 (.slS (.t 8) (some (.t 10)) none),
.s 4 (.m 11)] [4])
.ret)
.skip))
(.seq
(.reg [
.s 12 (.m 0),
.s 4 (.m 12)] [4])
.ret))),
[.tmp 4]⟩

/-- slices.rotateCmpFunc[int] -/
def F156 : DF := ⟨5,
(.seq
(.reg [
.s 12 (.m 2),
.s 13 (.m 1),
.s 14 (.bin .sub none (.t 12) (.t 13)),
.s 10 (.m 14)] [0,2,3,4,10])
(.seq
(.reg [
.s 15 (.m 3),
.s 16 (.m 2),
.s 17 (.bin .sub none (.t 15) (.t 16)),
.s 11 (.m 17)] [0,2,4,10,11])
(.seq
(.blk 0
(.seq
(.trim [0,2,4,10,11])
(.lop
(.seq
(.seq
(.seq
(.reg [
.s 18 (.m 10),
.s 19 (.m 11),
.s 20 (.bin .neq (some .int) (.t 18) (.t 19))] [0,2,4,10,11,20])
(.cnd (.t 20)
.skip
(.exit 0)))
(.blk 1
(.seq
(.reg [
.s 21 (.m 10),
.s 22 (.m 11),
.s 23 (.bin .gtr none (.t 21) (.t 22))] [0,2,4,10,11,23])
(.cnd (.t 23)
(.seq
(.reg [
.s 24 (.m 0),
.s 25 (.m 2),
.s 26 (.m 10),
.s 27 (.bin .sub none (.t 25) (.t 26)),
.s 28 (.m 2),
.s 29 (.m 11),
.s 30 (.m 4),
.s 31 (.call 172 [(.t 24),(.t 27),(.t 28),(.t 29),(.t 30)])] [0,2,4,10,11])
(.reg [
.s 32 (.m 10),
.s 33 (.m 11),
.s 34 (.bin .sub none (.t 32) (.t 33)),
.s 10 (.m 34)] [0,2,4,10,11]))
(.seq
(.reg [
.s 35 (.m 0),
.s 36 (.m 2),
.s 37 (.m 10),
.s 38 (.bin .sub none (.t 36) (.t 37)),
.s 39 (.m 2),
.s 40 (.m 11),
.s 41 (.bin .add none (.t 39) (.t 40)),
.s 42 (.m 10),
.s 43 (.bin .sub none (.t 41) (.t 42)),
.s 44 (.m 10),
.s 45 (.m 4),
.s 46 (.call 172 [(.t 35),(.t 38),(.t 43),(.t 44),(.t 45)])] [0,2,4,10,11])
(.reg [
.s 47 (.m 11),
.s 48 (.m 10),
.s 49 (.bin .sub none (.t 47) (.t 48)),
.s 11 (.m 49)] [0,2,4,10,11]))))))
(.trim [0,2,4,10,11])))))
(.reg [
.s 50 (.m 0),
.s 51 (.m 2),
.s 52 (.m 10),
.s 53 (.bin .sub none (.t 51) (.t 52)),
.s 54 (.m 2),
.s 55 (.m 10),
.s 56 (.m 4),
.s 57 (.call 172 [(.t 50),(.t 53),(.t 54),(.t 55),(.t 56)])] [])))),
[]⟩

/-- slices.swapRangeCmpFunc[int] -/
def F172 : DF := ⟨5,
(.seq
(.reg [
.s 10 (.mv (.k 0))] [0,1,2,3,10])
(.blk 0
(.seq
(.trim [0,1,2,3,10])
(.lop
(.seq
(.seq
(.seq
(.reg [
.s 11 (.m 10),
.s 12 (.m 3),
.s 13 (.bin .lss none (.t 11) (.t 12))] [0,1,2,3,10,13])
(.cnd (.t 13)
.skip
(.exit 0)))
(.seq
(.blk 1
(.drw [
((.s 16 (.m 0),none),[]),
((.s 17 (.m 1),none),[]),
((.s 18 (.m 10),none),[]),
((.s 19 (.bin .add none (.t 17) (.t 18)),none),[]),
((.s 20 (.m 0),none),[]),
((.s 21 (.m 2),none),[]),
((.s 22 (.m 10),none),[]),
((.s 23 (.bin .add none (.t 21) (.t 22)),none),[]),
((.s 24 (.m 0),none),[]),
((.s 25 (.m 2),none),[]),
((.s 26 (.m 10),none),[]),
((.s 27 (.bin .add none (.t 25) (.t 26)),none),[]),
((.s 28 (.ia 1 (.t 24) (.t 27)),none),[]),
((.s 29 (.l 28),none),[]),
((.s 30 (.m 0),none),[]),
((.s 31 (.m 1),none),[]),
((.s 32 (.m 10),none),[]),
((.s 33 (.bin .add none (.t 31) (.t 32)),none),[]),
((.s 34 (.ia 1 (.t 30) (.t 33)),none),[]),
((.s 35 (.l 34),none),[]),
((.s 36 (.ia 1 (.t 16) (.t 19)),none),[]),
((.n (.st 1 (.t 36) (.t 29)),none),[]),
((.s 37 (.ia 1 (.t 20) (.t 23)),none),[]),
((.n (.st 1 (.t 37) (.t 35)),none),[])] [0,1,2,3,10]))
(.reg [
.s 14 (.m 10),
.s 15 (.bin .add none (.t 14) (.k 1)),
.s 10 (.m 15)] [0,1,2,3,10])))
(.trim [0,1,2,3,10])))))),
[]⟩

end Go.Proofs.C1

namespace Go.Dn
open Go Go.RowKit
section
variable {gt:GT} {C:CallT}
theorem afterS_imp (hm:MonoC C) {dst:Option Nat} {env:Env} {S:St} {K K':Env→St→Prop} {Q Q':Ex→Env→St→Prop} {r:SR} (hk:∀e S,K e S→K' e S) (hq:∀x e S,Q x e S→Q' x e S) (h:afterS C dst env S K Q r):afterS C dst env S K' Q' r:=by
 cases r with
 | fail=>exact h
 | done e s=>exact hk _ _ h
 | pan v=>exact hq _ _ _ h
 | call f xs =>
  refine hm _ _ _ _ _ h fun r S' hr=>?_
  cases r with
  | ret v=>exact hk _ _ hr
  | pan v=>exact hq _ _ _ hr
theorem wpIs_imp (hm:MonoC C):∀(is:List DI) {env:Env} {S:St} {Q Q':Ex→Env→St→Prop},(∀x e S,Q x e S→Q' x e S)→wpIs gt C is env S Q→wpIs gt C is env S Q'
 | [],_,_,_,_,hq,h=>hq _ _ _ h
 | _::r,_,_,_,_,hq,h=>afterS_imp hm (fun _ _ h=>wpIs_imp hm r hq h) hq h
theorem wpDs_imp (hm:MonoC C):∀(is:List DRow) {env:Env} {S:St} {Q Q':Ex→Env→St→Prop},(∀x e S,Q x e S→Q' x e S)→wpDs gt C is env S Q→wpDs gt C is env S Q'
 | [],_,_,_,_,hq,h=>hq _ _ _ h
 | _::r,_,_,_,_,hq,h=>afterS_imp hm (fun _ _ h=>⟨h.1,wpDs_imp hm r hq h.2⟩) hq h
theorem wpD_imp (hm:MonoC C):∀(c:DC) {env:Env} {S:St} {Q Q':Ex→Env→St→Prop},(∀x e S,Q x e S→Q' x e S)→wpD gt C c env S Q→wpD gt C c env S Q'
 |.skip,_,_,_,_,hq,h=>hq _ _ _ h
 |.reg is keep,_,_,_,_,hq,h=>wpIs_imp hm is (fun _ _ _ h=>hq _ _ _ h) h
 |.drw is keep,_,_,_,_,hq,h=>wpDs_imp hm is (fun _ _ _ h=>hq _ _ _ h) h
 |.trim keep,_,_,_,_,hq,h=>hq _ _ _ h
 |.fail,_,_,_,_,_,h=>h
 |.ndet is keep,env,S,Q,Q',hq,h=>by
  simp only [wpD] at h ⊢
  split at h
  ·exact afterS_imp hm (fun _ _ h=>⟨wpIs_imp hm _ (fun _ _ _ h=>hq _ _ _ h) h.1,wpIs_imp hm _ (fun _ _ _ h=>hq _ _ _ h) h.2⟩) (fun _ _ _ h=>hq _ _ _ h) h
  ·exact h.elim
 |.seq a b,_,_,_,_,hq,h=>wpD_imp hm a (fun x e S h=>by
   cases x with
   | normal=>exact wpD_imp hm b hq h
   | _=>exact hq _ _ _ h) h
 |.cnd x a b,env,S,Q,Q',hq,h=>by
  simp only [wpD] at h ⊢
  split at h
  ·rename_i t ht
   split at h
   ·rename_i e;rw [if_pos e];exact wpD_imp hm a hq h
   ·rename_i e;rw [if_neg e];exact wpD_imp hm b hq h
  ·exact h.elim
 |.blk id c,_,_,_,_,hq,h=>wpD_imp hm c (fun x e S h=>by
   cases x with
   | exit id' =>
    simp only at h ⊢
    by_cases e:id'=id
    ·rw [if_pos e] at h ⊢;exact hq _ _ _ h
    ·rw [if_neg e] at h ⊢;exact hq _ _ _ h
   | _=>exact hq _ _ _ h) h
 |.lop c,env,S,Q,Q',hq,h=>by
  obtain⟨n,h⟩:=h
  refine⟨n,?_⟩
  revert env S
  induction n with
  | zero=>intro env S h;exact h
  | succ n ih =>
   intro env S h
   exact wpD_imp hm c (fun x e S h=>by
    cases x with
    | normal=>exact ih _ _ h
    | _=>exact hq _ _ _ h) h
 |.exit id,_,_,_,_,hq,h=>hq _ _ _ h
 |.ret,_,_,_,_,hq,h=>hq _ _ _ h
theorem loop_rule (hm:MonoC C) {c:DC} {Q:Ex→Env→St→Prop} {α:Type} (I:α→Env→St→Prop) (μ:α→Nat)
  (step:∀a env S,I a env S→wpD gt C c env S fun e env' S'=>match e with
   |.normal=>∃b,I b env' S'∧μ b<μ a
   | e=>Q e env' S')
  {a:α} {env:Env} {S:St} (h:I a env S):∃n,iterD (wpD gt C c) n env S Q:=by
 have key:∀m a env S,μ a≤m→I a env S→iterD (wpD gt C c) (m+1) env S Q:=by
  intro m
  induction m with
  | zero =>
   intro a env S hm0 hI
   refine wpD_imp hm c (fun x e S h=>?_) (step a env S hI)
   cases x with
   | normal=>obtain⟨b,_,hb⟩:=h;omega
   | _=>exact h
  | succ m ih =>
   intro a env S hm0 hI
   refine wpD_imp hm c (fun x e S h=>?_) (step a env S hI)
   cases x with
   | normal=>obtain⟨b,h1,hb⟩:=h;exact ih b e S (by omega) h1
   | _=>exact h
 exact⟨_,key (μ a) a env S (Nat.le_refl _) h⟩
theorem step_rule {i:DI} {env env':Env} {S S':St} {K:Env→St→Prop} {Q:Ex→Env→St→Prop} (h:stepI gt i env S=.done env' S') (k:K env' S'):afterS C i.dst env S K Q (stepI gt i env S):=by
 rw [h];exact k
def Gd (env:Env) (gd:Option (Nat×Bool)):Prop:=match gd with
 | none=>True
 | some (g,w)=>lk env g=some (.val (.bool w))
theorem st_gd {d:Option Nat} {op:DOp} {gd:Option (Nat×Bool)} {env:Env} {S:St} (hg:Gd env gd):stepI gt ⟨d,op,gd⟩ env S=stepO gt d env S op:=by
 cases gd with
 | none=>rfl
 | some p =>
  obtain⟨g,w⟩:=p
  have hg:lk env g=some (.val (.bool w)):=hg
  simp only [stepI,hg,beq_self_eq_true,cond_true]
theorem call_rule {i:DI} {env:Env} {S:St} {K:Env→St→Prop} {Q:Ex→Env→St→Prop} {f:FuncId} {xs:List AV} (h:stepI gt i env S=.call f xs) (k:C f xs S fun r S'=>match r with
  |.ret v=>K (putV i.dst v env) S'
  |.pan v=>Q (.pan v) env S'):afterS C i.dst env S K Q (stepI gt i env S):=by
 rw [h];exact k
end
section
variable {P:Program} {gt:GT}
end

section
variable {P:Program} {W:World} {H:Type} {enc:TypeId×Value→H}
end

/-! ### the store only grows -/

def Wf (S : St) : Prop := ∀ t, S.nt ≤ t → lk S.mv t = none ∧ lk S.dl t = none

/-! ### slices as lists -/

theorem cutAll_get {agg : Bool} {es : Nat} {cs : List AV} : ∀ {n start : Nat} {ys : List AV}, cutAll agg es cs start n = some ys → ∀ {i : Nat} {y : AV}, ys[i]? = some y → (cut cs (start + i * es) es).bind (mkv agg) = some y
  | 0, _, ys, h, i, y, hy => by simp only [cutAll, oI] at h; subst h; simp at hy
  | n + 1, start, ys, h, i, y, hy => by
    simp only [cutAll] at h
    split at h
    · rename_i x r h1 h2
      simp only [oI] at h
      subst h
      cases i with
      | zero => simp at hy; subst hy; simpa using h1
      | succ i =>
        have := cutAll_get h2 (i := i) (by simpa using hy)
        rwa [show start + (i + 1) * es = start + es + i * es by rw [Nat.add_mul]; omega]
    · cases h

theorem mkv_cells' {agg : Bool} {cs : List AV} {y : AV} (h : mkv agg cs = some y) : y.cells = cs := by
  unfold mkv at h
  cases agg with
  | true => simp only [cond_true, oI] at h; subst h; rfl
  | false =>
    simp only [cond_false] at h
    split at h
    · rename_i c
      cases hn : notAgg c with
      | false => rw [hn] at h; cases h
      | true =>
        rw [hn] at h
        simp only [cond_true, oI] at h
        subst h
        cases c <;> first | rfl | cases hn
    · cases h

/-- an element's cells -/
theorem el_read {S : St} {agg : Bool} {es : Nat} {o : SI} {xs ys : List AV} (h : elems S agg es o xs = some ys) {i : Nat} {y : AV} (hy : ys[i]? = some y) : elCells S es o xs i = some y.cells := by
  unfold elems at h
  unfold elCells
  split at h
  · rename_i hr
    cases h
    simp [hy]
  · rename_i b boff hr
    split at h
    · rename_i ty cs hb
      have := cutAll_get h hy
      obtain ⟨c, h1, h2⟩ := Option.bind_eq_some_iff.1 this
      rw [show boff + (o.off + i) * es = boff + o.off * es + i * es by rw [Nat.add_mul]; omega, h1, mkv_cells' h2]
    · cases h
  · cases h

/-! ### pure trees -/

inductive PT where
  | mk (k : Int) (s : List UInt8) (keys : List (List UInt8)) (kids : List PT)

mutual
def PT.n : PT → Nat
  | .mk _ _ _ kids => PT.ns kids + 1
def PT.ns : List PT → Nat
  | [] => 0
  | t :: r => PT.n t + PT.ns r
end

theorem PT.n_pos (t : PT) : 0 < t.n := by cases t; simp [PT.n]
theorem PT.ns_mem {t : PT} : ∀ {l : List PT}, t ∈ l → t.n ≤ PT.ns l
  | a :: r, h => by
    simp only [PT.ns]
    rcases List.mem_cons.1 h with rfl | h
    · omega
    · have := PT.ns_mem h; omega
def strs (l : List (List UInt8)) : List AV := l.map .str

variable {R B : Nat → Prop}

theorem strs_get {l : List (List UInt8)} {i : Nat} {s : List UInt8} (h : l[i]? = some s) : (strs l)[i]? = some (.str s) := by simp [strs, h]
theorem strs_length (l : List (List UInt8)) : (strs l).length = l.length := by simp [strs]
theorem strs_ok (l : List (List UInt8)) : ((strs l).flatMap AV.cells).all ok1 = true := by
  induction l with
  | nil => rfl
  | cons a r ih => simp [strs, AV.cells, ok1]

/-! ### slices that are being built -/

theorem ble_true {a b : Nat} (h : a ≤ b) : Nat.ble a b = true := Nat.ble_eq_true_of_le h

/-! ### rules for regions that draw -/
section
variable {gt : GT} {C : CallT}

theorem step_ruleD {i : DI × Option Nat} {env env' : Env} {S S' : St} {K : Env → St → Prop} {Q : Ex → Env → St → Prop} (h : stepD gt i env S = .done env' S') (k : K env' S') : afterS C i.1.dst env S K Q (stepD gt i env S) := by
  rw [h]; exact k

theorem step_ruleO {d : Option Nat} {op : DOp} {env env' : Env} {S S' : St} {K : Env → St → Prop} {Q : Ex → Env → St → Prop} (h : stepO gt d env S op = .done env' S') (k : K env' S') : afterS C d env S K Q (stepI gt ⟨d, op, none⟩ env S) := by
  show afterS C d env S K Q (stepO gt d env S op)
  rw [h]; exact k

theorem step_ruleDO {d : Option Nat} {op : DOp} {l : Option Nat} {env env' : Env} {S S' : St} {K : Env → St → Prop} {Q : Ex → Env → St → Prop} (h0 : isLoc op = false) (h1 : conform l env op = true) (h : stepO gt d env S op = .done env' S') (k : K env' S') : afterS C d env S K Q (stepD gt (⟨d, op, none⟩, l) env S) := by
  have : stepD gt (⟨d, op, none⟩, l) env S = stepO gt d env S op := by simp only [stepD, stepDO, h0, h1, cond_false, cond_true]
  rw [this, h]; exact k

theorem call_ruleD {i : DI × Option Nat} {env : Env} {S : St} {K : Env → St → Prop} {Q : Ex → Env → St → Prop} {f : FuncId} {xs : List AV} (h : stepD gt i env S = .call f xs) (k : C f xs S fun r S' => match r with
    | .ret v => K (putV i.1.dst v env) S'
    | .pan v => Q (.pan v) env S') : afterS C i.1.dst env S K Q (stepD gt i env S) := by
  rw [h]; exact k

theorem sx_ia {d : Option Nat} {es : Nat} {x i : DOpd} {env : Env} {S : St} {o : SI} {xs : List AV} {k : Nat} (hx : opd env x = some (.sl es o xs)) (hi : (opd env i).bind nat? = some k) (hk : k < xs.length) :
    stepO gt d env S (.ia es x i) = .done (putV d (.eptr es o xs k 0) env) S := by
  simp only [stepO, hx, hi, Nat.beq_refl, Bool.true_and, show Nat.blt k xs.length = true from Nat.ble_eq_true_of_le hk, cond_true]

theorem sx_ldEl {d : Option Nat} {es : Nat} {a : DOpd} {env : Env} {S : St} {o : SI} {xs ys : List AV} {agg : Bool} {k off : Nat} {y v : AV} {g : Bool} {sz : Nat} (ha : loc env a = some (.el es o xs k off)) (he : elems S agg es o xs = some ys) (hv : ys[k]? = some y) (hm : (cut y.cells off sz).bind (mkv g) = some v) :
    stepO gt d env S (.ld g sz a) = .done (putV d v env) S := by
  simp only [stepO, ha, ldL, ldC, el_read he hv]
  cases hc : cut y.cells off sz with
  | none => rw [hc] at hm; cases hm
  | some cs => rw [hc] at hm; simp only [Option.bind_some] at hm; simp only [hm, SR.val]
end

mutual
def PT.ok : PT → Prop
  | .mk _ _ keys kids => keys.length * 16 ≤ 140737488355328 ∧ kids.length * 72 ≤ 140737488355328 ∧ PT.oks kids
def PT.oks : List PT → Prop
  | [] => True
  | t :: r => PT.ok t ∧ PT.oks r
end

theorem PT.oks_get : ∀ {l : List PT} {i : Nat} {t : PT}, PT.oks l → l[i]? = some t → t.ok
  | [], i, t, _, h => by simp at h
  | a :: r, 0, t, h, e => by simp only [PT.oks] at h; simp at e; subst e; exact h.1
  | a :: r, i + 1, t, h, e => by simp only [PT.oks] at h; exact PT.oks_get h.2 (i := i) (by simpa using e)

theorem wr64 {n : Int} (h : -9223372036854775808 ≤ n) (h2 : n < 9223372036854775808) : wr .i64 n = n := by
  rw [wr_eq]
  refine inR_wrap ?_
  cases n with
  | ofNat m => simp only [inR]; exact Nat.ble_eq_true_of_le (by have : (m : Int) < 9223372036854775808 := h2; omega)
  | negSucc m => simp only [inR]; exact Nat.ble_eq_true_of_le (by have : -9223372036854775808 ≤ -((m : Int) + 1) := by rw [← Int.negSucc_eq]; exact h
                                                                  omega)

theorem wrNat {k : Nat} (h : k + 1 < 9223372036854775808) : wr .i64 ((k : Int) + 1) = ((k + 1 : Nat) : Int) := by
  rw [wr64 (by omega) (by omega)]; rfl

def stat:SI:=⟨none,0,none,false⟩
mutual
def Sta:AV→Prop
  |.sl _ o ys=>o=stat∧Stas ys
  |.agg us=>Stas us
  |.tup us=>Stas us
  |.ifc _ u=>Sta u
  |.fn _ fs cs=>Stas fs∧Stas cs
  |.ptr _ _=>False
  |.map _=>False
  |.eptr _ _ _ _ _=>False
  | _=>True
def Stas:List AV→Prop
  | []=>True
  | u::us=>Sta u∧Stas us
end
def flat1:AV→Bool
  |.bool _ |.int _ _ |.str _ |.nilp |.nilfn |.nilif |.nilmap |.undef=>true
  | _=>false
def Flat:AV→Prop
  |.tup us=>us.all flat1=true
  | u=>flat1 u=true
mutual
def Rdo (S:St):AV→AV→Prop
  |.sl es o ys,x=>o=stat∧∃o' xs agg zs,x=.sl es o' xs∧elems S agg es o' xs=some zs∧Rdos S ys zs
  |.agg us,x=>∃xs,x=.agg xs∧Rdos S us xs
  |.tup us,x=>∃xs,x=.tup xs∧Rdos S us xs
  |.ifc t u,x=>∃y,x=.ifc t y∧Rdo S u y
  |.fn f fs cs,x=>∃a b,x=.fn f a b∧Rdos S fs a∧Rdos S cs b
  |.ptr _ _,_=>False
  |.map _,_=>False
  |.eptr _ _ _ _ _,_=>False
  |.undef,x=>x=.undef
  |.bool b,x=>x=.bool b
  |.int k n,x=>x=.int k n
  |.str s,x=>x=.str s
  |.nilp,x=>x=.nilp
  |.gptr g o,x=>x=.gptr g o
  |.anyp,x=>x=.anyp
  |.nilfn,x=>x=.nilfn
  |.nilif,x=>x=.nilif
  |.nilmap,x=>x=.nilmap
  |.raw v,x=>x=.raw v
def Rdos (S:St):List AV→List AV→Prop
  | [],xs=>xs=[]
  | u::us,xs=>∃x r,xs=x::r∧Rdo S u x∧Rdos S us r
end
section
variable {S:St}
mutual
theorem Sta.rdo:∀u,Sta u→Rdo S u u
  |.sl es o ys,h=>by
    simp only [Sta] at h
    simp only [Rdo]
    refine⟨h.1,o,ys,true,ys,rfl,?_,Stas.rdos ys h.2⟩
    rw [h.1];rfl
  |.agg us,h=>by simp only [Sta] at h;simp only [Rdo];exact⟨us,rfl,Stas.rdos us h⟩
  |.tup us,h=>by simp only [Sta] at h;simp only [Rdo];exact⟨us,rfl,Stas.rdos us h⟩
  |.ifc t u,h=>by simp only [Sta] at h;simp only [Rdo];exact⟨u,rfl,Sta.rdo u h⟩
  |.fn f fs cs,h=>by simp only [Sta] at h;simp only [Rdo];exact⟨fs,cs,rfl,Stas.rdos fs h.1,Stas.rdos cs h.2⟩
  |.ptr _ _,h=>h.elim
  |.map _,h=>h.elim
  |.eptr _ _ _ _ _,h=>h.elim
  |.undef,_ |.bool _,_ |.int _ _,_ |.str _,_ |.nilp,_ |.gptr _ _,_ |.anyp,_ |.nilfn,_ |.nilif,_ |.nilmap,_ |.raw _,_=>by simp only [Rdo]
theorem Stas.rdos:∀us,Stas us→Rdos S us us
  | [],_=>by simp only [Rdos]
  | u::us,h=>by simp only [Stas] at h;simp only [Rdos];exact⟨u,us,rfl,Sta.rdo u h.1,Stas.rdos us h.2⟩
end
theorem Rdos.length:∀{us xs:List AV},Rdos S us xs→xs.length=us.length
  | [],xs,h=>by simp only [Rdos] at h;rw [h]
  | u::us,xs,h=>by simp only [Rdos] at h;obtain⟨x,r,rfl,_,k⟩:=h;simp [k.length]
theorem sta_sl {es:Nat} {ys:List AV} (h:Stas ys):Sta (.sl es stat ys):=by simp only [Sta];exact⟨trivial,h⟩
end
section
variable {P:Program} {gt:GT} {S1 S2:St} {G1 G2:Gh} {w:World}
mutual
theorem Rdo.rv (hI:Inv P gt S1 G1 w) (h1:∀b,G1.st b→G2.st b) (h2:∀b,b<w.heap.size→Own S1 G1 b→G2.st b):∀(u x:AV) (v:Value),Rdo S1 u x→Rv S1 G1 w x v→Rv S2 G2 w u v
  |.sl es o ys,x,v,hx,hv=>by
    simp only [Rdo] at hx
    obtain⟨rfl,o',xs,agg,zs,rfl,he,hz⟩:=hx
    simp only [Rv] at hv ⊢
    obtain⟨a,len,cap,rfl,hs,hr⟩:=hv
    obtain⟨e1,e2,us,e3,e4,e5⟩:=elems_sound hI he hs hr
    have hly:=hz.length
    refine⟨a,len,cap,rfl,⟨by rw [hs.1,←e1,hly],hs.2.1,⟨(fun h=>by cases h),(fun h=>by cases h)⟩,(fun c h=>by cases h),hs.2.2.2.2.1,fun p hp hc=>?_⟩,fun _ p hp=>?_⟩
    · obtain⟨g1,g2,g3,g4⟩:=hs.2.2.2.2.2 p hp hc
      refine⟨g1,g2,g3,?_⟩
      have hlt:p.block<w.heap.size:=by obtain⟨ty,k,hk,_⟩:=g3;exact shape_lt hk
      rw [rd_none rfl]
      simp only [stat]
      cases hrd:rd S1 o' with
      | here =>
        rw [hrd] at g4
        simp only at g4
        cases ht:o'.tok with
        | none=>rw [ht] at g4;exact h1 _ g4
        | some q =>
          obtain⟨t,l⟩:=q
          rw [ht] at g4
          exact h2 _ hlt (.inr (.inl ⟨t,g4.1,g4.2.2.1⟩))
      | box b off =>
        rw [hrd] at g4
        exact h2 _ hlt (.inl ⟨b,g4.1,g4.2.1.symm⟩)
      | no =>
        unfold elems at he
        rw [hrd] at he
        cases he
    · by_cases hc:0<cap
      · obtain⟨e6,e7⟩:=e5 p hp hc
        exact Rdos.rat hI h1 h2 ys zs p.block p.off es hz (Rat.ofCells e3 e2 e7)
      · have:ys=[]:=by
          apply List.length_eq_zero_iff.1
          have:=hs.1;have:=hs.2.1;omega
        subst this
        simp only [Rat]
  |.agg us,x,v,hx,hv=>by
    simp only [Rdo] at hx
    obtain⟨xs,rfl,hx⟩:=hx
    simp only [Rv] at hv ⊢
    obtain⟨vs,rfl,hv⟩:=hv
    exact⟨vs,rfl,Rdos.rl hI h1 h2 us xs vs hx hv⟩
  |.tup us,x,v,hx,hv=>by
    simp only [Rdo] at hx
    obtain⟨xs,rfl,hx⟩:=hx
    simp only [Rv] at hv ⊢
    obtain⟨vs,rfl,hv⟩:=hv
    exact⟨vs,rfl,Rdos.rl hI h1 h2 us xs vs hx hv⟩
  |.ifc t u,x,v,hx,hv=>by
    simp only [Rdo] at hx
    obtain⟨y,rfl,hx⟩:=hx
    simp only [Rv] at hv ⊢
    obtain⟨z,rfl,hv⟩:=hv
    exact⟨z,rfl,Rdo.rv hI h1 h2 u y z hx hv⟩
  |.fn f fs cs,x,v,hx,hv=>by
    simp only [Rdo] at hx
    obtain⟨a,b,rfl,hx,hx'⟩:=hx
    simp only [Rv] at hv ⊢
    obtain⟨va,vb,rfl,hv,hv'⟩:=hv
    exact⟨va,vb,rfl,Rdos.rl hI h1 h2 fs a va hx hv,Rdos.rl hI h1 h2 cs b vb hx' hv'⟩
  |.ptr _ _,_,_,hx,_=>by simp only [Rdo] at hx
  |.map _,_,_,hx,_=>by simp only [Rdo] at hx
  |.eptr _ _ _ _ _,_,_,hx,_=>by simp only [Rdo] at hx
  |.undef,x,_,hx,hv |.bool _,x,_,hx,hv |.int _ _,x,_,hx,hv |.str _,x,_,hx,hv |.nilp,x,_,hx,hv |.gptr _ _,x,_,hx,hv |.anyp,x,_,hx,hv |.nilfn,x,_,hx,hv |.nilif,x,_,hx,hv |.nilmap,x,_,hx,hv |.raw _,x,_,hx,hv=>by
    simp only [Rdo] at hx
    subst hx
    simp only [Rv] at hv ⊢
    exact hv
theorem Rdos.rl (hI:Inv P gt S1 G1 w) (h1:∀b,G1.st b→G2.st b) (h2:∀b,b<w.heap.size→Own S1 G1 b→G2.st b):∀(us xs:List AV) (vs:List Value),Rdos S1 us xs→Rl S1 G1 w xs vs→Rl S2 G2 w us vs
  | [],xs,vs,hx,hv=>by simp only [Rdos] at hx;subst hx;simpa only [Rl] using hv
  | u::us,xs,vs,hx,hv=>by
    simp only [Rdos] at hx
    obtain⟨x,r,rfl,hx,hr⟩:=hx
    simp only [Rl] at hv ⊢
    obtain⟨v,vr,rfl,hv,hvr⟩:=hv
    exact⟨v,vr,rfl,Rdo.rv hI h1 h2 u x v hx hv,Rdos.rl hI h1 h2 us r vr hr hvr⟩
theorem Rdos.rat (hI:Inv P gt S1 G1 w) (h1:∀b,G1.st b→G2.st b) (h2:∀b,b<w.heap.size→Own S1 G1 b→G2.st b):∀(us xs:List AV) (b off es:Nat),Rdos S1 us xs→Rat S1 G1 w b es xs off→Rat S2 G2 w b es us off
  | [],xs,b,off,es,hx,hv=>by simp only [Rat]
  | u::us,xs,b,off,es,hx,hv=>by
    simp only [Rdos] at hx
    obtain⟨x,r,rfl,hx,hr⟩:=hx
    simp only [Rat] at hv ⊢
    obtain⟨⟨v,hv,hsz,hc⟩,hvr⟩:=hv
    exact⟨⟨v,Rdo.rv hI h1 h2 u x v hx hv,hsz,hc⟩,Rdos.rat hI h1 h2 us r b (off+es) es hr hvr⟩
end
mutual
theorem Sta.rv (h:∀b,b<w.heap.size→G1.st b→G2.st b):∀(u:AV) (v:Value),Sta u→Rv S1 G1 w u v→Rv S2 G2 w u v
  |.sl es o ys,v,hu,hv=>by
    simp only [Sta] at hu
    obtain⟨rfl,hu⟩:=hu
    simp only [Rv] at hv ⊢
    obtain⟨a,len,cap,rfl,hs,hr⟩:=hv
    refine⟨a,len,cap,rfl,⟨hs.1,hs.2.1,hs.2.2.1,hs.2.2.2.1,hs.2.2.2.2.1,fun p hp hc=>?_⟩,fun _ p hp=>Stas.rat h ys p.block p.off es hu (hr (rd_none rfl) p hp)⟩
    obtain⟨g1,g2,g3,g4⟩:=hs.2.2.2.2.2 p hp hc
    have hlt:p.block<w.heap.size:=by obtain⟨ty,k,hk,_⟩:=g3;exact shape_lt hk
    refine⟨g1,g2,g3,?_⟩
    rw [rd_none rfl] at g4 ⊢
    exact h _ hlt g4
  |.agg us,v,hu,hv=>by
    simp only [Sta] at hu
    simp only [Rv] at hv ⊢
    obtain⟨vs,rfl,hv⟩:=hv
    exact⟨vs,rfl,Stas.rl h us vs hu hv⟩
  |.tup us,v,hu,hv=>by
    simp only [Sta] at hu
    simp only [Rv] at hv ⊢
    obtain⟨vs,rfl,hv⟩:=hv
    exact⟨vs,rfl,Stas.rl h us vs hu hv⟩
  |.ifc t u,v,hu,hv=>by
    simp only [Sta] at hu
    simp only [Rv] at hv ⊢
    obtain⟨z,rfl,hv⟩:=hv
    exact⟨z,rfl,Sta.rv h u z hu hv⟩
  |.fn f fs cs,v,hu,hv=>by
    simp only [Sta] at hu
    simp only [Rv] at hv ⊢
    obtain⟨va,vb,rfl,hv,hv'⟩:=hv
    exact⟨va,vb,rfl,Stas.rl h fs va hu.1 hv,Stas.rl h cs vb hu.2 hv'⟩
  |.ptr _ _,_,hu,_=>by simp only [Sta] at hu
  |.map _,_,hu,_=>by simp only [Sta] at hu
  |.eptr _ _ _ _ _,_,hu,_=>by simp only [Sta] at hu
  |.undef,_,_,hv |.bool _,_,_,hv |.int _ _,_,_,hv |.str _,_,_,hv |.nilp,_,_,hv |.gptr _ _,_,_,hv |.anyp,_,_,hv |.nilfn,_,_,hv |.nilif,_,_,hv |.nilmap,_,_,hv |.raw _,_,_,hv=>by
    simp only [Rv] at hv ⊢
    exact hv
theorem Stas.rl (h:∀b,b<w.heap.size→G1.st b→G2.st b):∀(us:List AV) (vs:List Value),Stas us→Rl S1 G1 w us vs→Rl S2 G2 w us vs
  | [],vs,hu,hv=>by simpa only [Rl] using hv
  | u::us,vs,hu,hv=>by
    simp only [Stas] at hu
    simp only [Rl] at hv ⊢
    obtain⟨v,vr,rfl,hv,hvr⟩:=hv
    exact⟨v,vr,rfl,Sta.rv h u v hu.1 hv,Stas.rl h us vr hu.2 hvr⟩
theorem Stas.rat (h:∀b,b<w.heap.size→G1.st b→G2.st b):∀(us:List AV) (b off es:Nat),Stas us→Rat S1 G1 w b es us off→Rat S2 G2 w b es us off
  | [],b,off,es,hu,hv=>by simp only [Rat]
  | u::us,b,off,es,hu,hv=>by
    simp only [Stas] at hu
    simp only [Rat] at hv ⊢
    obtain⟨⟨v,hv,hsz,hc⟩,hvr⟩:=hv
    exact⟨⟨v,Sta.rv h u v hu.1 hv,hsz,hc⟩,Stas.rat h us b (off+es) es hu.2 hvr⟩
end
theorem flat1_rv {u:AV} {v:Value} (hu:flat1 u=true) (hv:Rv S1 G1 w u v):Rv S2 G2 w u v:=by
  cases u<;>first | (exfalso;revert hu;simp [flat1];done) | (simp only [Rv] at hv ⊢;exact hv)
theorem flats_rl:∀{us:List AV} {vs:List Value},us.all flat1=true→Rl S1 G1 w us vs→Rl S2 G2 w us vs
  | [],vs,_,hv=>by simpa only [Rl] using hv
  | u::us,vs,hu,hv=>by
    simp only [List.all_cons,bA] at hu
    simp only [Rl] at hv ⊢
    obtain⟨v,vr,rfl,hv,hvr⟩:=hv
    exact⟨v,vr,rfl,flat1_rv hu.1 hv,flats_rl hu.2 hvr⟩
theorem Flat.rv {u:AV} {v:Value} (hu:Flat u) (hv:Rv S1 G1 w u v):Rv S2 G2 w u v:=by
  cases u with
  | tup us =>
    simp only [Flat] at hu
    simp only [Rv] at hv ⊢
    obtain⟨vs,rfl,hv⟩:=hv
    exact⟨vs,rfl,flats_rl hu hv⟩
  | _=>exact flat1_rv hu hv
end
section
variable {P:Program} {gt:GT}
def Gst (st:Nat→Prop):Gh:=⟨fun _=>0,fun _=>0,fun _=>0,fun _=>0,fun _=>0,st⟩
theorem ownG {st:Nat→Prop} {b:Nat}:¬Own St.init (Gst st) b:=by
  rintro (⟨i,hi,_⟩ | ⟨i,hi,_⟩ | ⟨i,hi,_⟩)<;>exact absurd hi (Nat.not_lt_zero i)
theorem invG {st:Nat→Prop} {w:World} (hl:∀b,st b→b<w.heap.size) (hg:∀g cs,lk gt g=some cs→st g∧∃c ty fr,w.heap[g]? = some (.cells c ty fr)∧Rl St.init (Gst st) w cs c.toList):Inv P gt St.init (Gst st) w :=
  { boxLt:=fun i hi=>absurd hi (Nat.not_lt_zero i)
    tokLt:=fun i hi=>absurd hi (Nat.not_lt_zero i)
    mapLt:=fun i hi=>absurd hi (Nat.not_lt_zero i)
    stLt:=hl
    stOwn:=fun b _=>ownG
    box:=fun i ty cs h=>by cases h
    boxInj:=fun i i' x x' h=>by cases h
    boxTok:=fun i x t h=>by cases h
    map:=fun i hi=>absurd hi (Nat.not_lt_zero i)
    mapInj:=fun i i' hi=>absurd hi (Nat.not_lt_zero i)
    tip:=fun t n ty sf h=>by cases h
    tipInj:=fun t t' x x' h=>by cases h
    line:=fun t t' ht=>absurd ht (Nat.not_lt_zero t)
    lnLt:=fun t ht=>absurd ht (Nat.not_lt_zero t)
    kBox:=fun i _=>rfl
    kMap:=fun i _=>rfl
    kMv:=fun i _=>rfl
    kTip:=fun i _=>rfl
    kDl:=fun i _=>rfl
    glob:=hg }
theorem own_lt {S:St} {G:Gh} {w:World} (h:Inv P gt S G w) {b:Nat} (ho:Own S G b):b<w.heap.size:=by
  rcases ho with⟨i,hi,rfl⟩ | ⟨i,hi,rfl⟩ | ⟨i,hi,rfl⟩
  · exact h.boxLt i hi
  · exact h.tokLt i hi
  · exact h.mapLt i hi
def addSt (G:Gh) (n m:Nat):Gh:={ G with st:=fun b=>G.st b∨(n≤b∧b<m) }
section
variable {S:St} {G:Gh} {w w':World}
theorem own_add {n m b:Nat}:Own S (addSt G n m) b↔Own S G b:=Iff.rfl
theorem ext_add (hI:Inv P gt S G w) (h:Gr w w'):Ext S G w S (addSt G w.heap.size w'.heap.size) w' where
  nb:=Nat.le_refl _
  nt:=Nat.le_refl _
  nm:=Nat.le_refl _
  β _ _:=rfl
  τ _ _:=rfl
  ln _ _:=rfl
  μ _ _:=rfl
  size:=h.size
  own _ _ h:=h
  st b hb:=⟨.inl hb,h.same b (hI.stLt b hb)⟩
  stNew b hb hs:=by
    rcases hs with hs | hs
    · exact hs
    · omega
  shape b x hx:=by simpa [World.shape?,h.same b (shape_lt hx)] using hx
  mv _ _ _ h:=h
  dl _ h:=h
  sea t ht _ _:=⟨Nat.le_refl _,fun i _=>by simp only [World.cell?,h.same _ (hI.tokLt t ht)]⟩
  moved t b o _ h h':=by rw [h] at h';cases h'
  os:=h.os
  tape:=h.tape
  output:=h.output
theorem inv_add (hI:Inv P gt S G w) (h:Gr w w'):Inv P gt S (addSt G w.heap.size w'.heap.size) w' where
  boxLt id hi:=Nat.lt_of_lt_of_le (hI.boxLt id hi) h.size
  tokLt id hi:=Nat.lt_of_lt_of_le (hI.tokLt id hi) h.size
  mapLt id hi:=Nat.lt_of_lt_of_le (hI.mapLt id hi) h.size
  stLt b hb:=by
    rcases hb with hb | hb
    · exact Nat.lt_of_lt_of_le (hI.stLt b hb) h.size
    · exact hb.2
  stOwn b hb ho:=by
    rcases hb with hb | hb
    · exact hI.stOwn b hb ho
    · have:=own_lt hI (own_add.1 ho);omega
  box id ty cs hb:=by
    obtain⟨h1,c,fr,sf,pre,rest,h2,h3,h4,h5⟩:=hI.box id ty cs hb
    exact⟨h1,c,fr,sf,pre,rest,by rw [←h2];exact h.same _ (hI.boxLt id h1),h3,h4,h5.mono (ext_add hI h)⟩
  boxInj:=hI.boxInj
  boxTok:=hI.boxTok
  map id hi:=by
    obtain⟨es,ents,clk,h1,h2,h3⟩:=hI.map id hi
    exact⟨es,ents,clk,h1,by rw [←h2];exact h.same _ (hI.mapLt id hi),h3.mono (ext_add hI h)⟩
  mapInj:=hI.mapInj
  tip t n ty sf ht:=by
    obtain⟨h1,h2⟩:=hI.tip t n ty sf ht
    refine⟨h1,fun hv=>?_⟩
    obtain⟨es,c,fr,e1,e2,e3⟩:=h2 hv
    exact⟨es,c,fr,e1,by rw [←e2];exact h.same _ (hI.tokLt t h1),e3⟩
  tipInj:=hI.tipInj
  line:=hI.line
  lnLt:=hI.lnLt
  kBox:=hI.kBox
  kMap:=hI.kMap
  kMv:=hI.kMv
  kTip:=hI.kTip
  kDl:=hI.kDl
  glob g cs hg:=by
    obtain⟨h1,c,ty,fr,h2,h3⟩:=hI.glob g cs hg
    exact⟨.inl h1,c,ty,fr,by rw [h.same _ (hI.stLt g h1)];exact h2,h3.mono (ext_add hI h)⟩
end
theorem gr_of_tr {st:Nat→Prop} {S1:St} {G1:Gh} {w w1:World} (t:Tr P gt St.init (Gst st) w S1 G1 w1):Gr w w1 :=
  ⟨t.ext.os,t.ext.tape,t.ext.output,t.ext.size,fun b hb=>t.keep b hb ownG⟩
def GtSta (gt:GT):Prop:=∀g cs,lk gt g=some cs→Stas cs
theorem AC_pure (hgt:GtSta gt) {f:FuncId} {us:List AV} {Φ:AV→Prop} (hus:Stas us)
    (h:AC P gt f us St.init fun r S1=>∃x u,r=.ret x∧Rdo S1 u x∧Φ u) (S:St) :
    AC P gt f us S fun r S'=>∃u,r=.ret u∧Φ u∧S'=S:=by
  refine⟨h.1,fun G w args hI hx=>?_⟩
  have hI0:Inv P gt St.init (Gst G.st) w:=invG hI.stLt fun g cs hg=>by
    obtain⟨h1,c,ty,fr,h2,h3⟩:=hI.glob g cs hg
    exact⟨h1,c,ty,fr,h2,Stas.rl (G1:=G) (G2:=Gst G.st) (fun b _ hb=>hb) cs _ (hgt g cs hg) h3⟩
  refine Calls.mono (h.2 (Gst G.st) w args hI0 (Stas.rl (G1:=G) (G2:=Gst G.st) (fun b _ hb=>hb) us _ hus hx)) fun e w1 hp=>?_
  cases e with
  | returned v =>
    obtain⟨x',S1,G1,⟨x,u,e,hr,hφ⟩,t,rv⟩:=hp
    cases e
    have g:=gr_of_tr t
    refine⟨u,S,addSt G w.heap.size w1.heap.size,⟨u,rfl,hφ,rfl⟩,⟨inv_add hI g,ext_add hI g,fun b hb _=>g.same b hb⟩,?_⟩
    refine Rdo.rv t.inv (fun b hb=>?_) (fun b hb ho=>?_) u _ v hr rv
    · rcases Nat.lt_or_ge b w.heap.size with hlt | hge
      · exact .inl (t.ext.stNew b hlt hb)
      · exact .inr ⟨hge,t.inv.stLt b hb⟩
    · rcases Nat.lt_or_ge b w.heap.size with hlt | hge
      · exact absurd (t.ext.own b hlt ho) ownG
      · exact .inr ⟨hge,hb⟩
  | panicked chain=>obtain⟨x',S1,G1,u',hc,⟨x,u,e,_⟩,_⟩:=hp;cases e
  | outgrown=>exact hp.elim
theorem AC_read (hgt:GtSta gt) {f:FuncId} {us xs:List AV} {Φ:AV→Prop} {S:St} (hxs:Rdos S us xs) (hfl:∀u,Φ u→Flat u)
    (h:AC P gt f us St.init fun r S1=>∃x u,r=.ret x∧Rdo S1 u x∧Φ u) :
    AC P gt f xs S fun r S'=>∃u,r=.ret u∧Φ u∧S'=S:=by
  refine⟨h.1,fun G w args hI hx=>?_⟩
  have hI0:Inv P gt St.init (Gst fun b=>b<w.heap.size) w:=invG (fun b hb=>hb) fun g cs hg=>by
    obtain⟨h1,c,ty,fr,h2,h3⟩:=hI.glob g cs hg
    exact⟨hI.stLt g h1,c,ty,fr,h2,Stas.rl (G1:=G) (fun b hb _=>hb) cs _ (hgt g cs hg) h3⟩
  have hx0:Rl St.init (Gst fun b=>b<w.heap.size) w us args:=Rdos.rl hI (fun b hb=>hI.stLt b hb) (fun b hb _=>hb) us xs args hxs hx
  refine Calls.mono (h.2 _ w args hI0 hx0) fun e w1 hp=>?_
  cases e with
  | returned v =>
    obtain⟨x',S1,G1,⟨x,u,e,hr,hφ⟩,t,rv⟩:=hp
    cases e
    have g:=gr_of_tr t
    refine⟨u,S,G,⟨u,rfl,hφ,rfl⟩,Tr.gr hI g,?_⟩
    exact Flat.rv (S1:=S) (G1:={ G1 with st:=fun _=>True }) (hfl u hφ) (Rdo.rv t.inv (fun b hb=>trivial) (fun b hb ho=>trivial) u _ v hr rv)
  | panicked chain=>obtain⟨x',S1,G1,u',hc,⟨x,u,e,_⟩,_⟩:=hp;cases e
  | outgrown=>exact hp.elim
end
def PF (C:CallT) (f:FuncId) (us:List AV) (u:AV):Prop:=∀S,C f us S fun r S'=>r=.ret u∧S'=S
theorem PF.of_init {P:Program} {gt:GT} (hgt:GtSta gt) {f:FuncId} {us:List AV} {u:AV} (hus:Stas us) (h:AC P gt f us St.init fun r S1=>∃x,r=.ret x∧Rdo S1 u x):PF (AC P gt) f us u:=fun S=>by
  refine AC_mono _ _ _ _ _ (AC_pure (Φ:=fun u'=>u'=u) hgt hus (AC_mono _ _ _ _ _ h ?_) S) ?_
  · rintro r S1 ⟨x,rfl,hx⟩;exact⟨x,u,rfl,hx,rfl⟩
  · rintro r S1 ⟨_,rfl,rfl,rfl⟩;exact⟨rfl,rfl⟩
section
variable {gt:GT} {C:CallT}
theorem call_pf (hm:MonoC C) {i:DI} {env:Env} {S:St} {K:Env→St→Prop} {Q:Ex→Env→St→Prop} {f:FuncId} {xs:List AV} {u:AV} (h:stepI gt i env S=.call f xs) (hp:PF C f xs u) (k:K (putV i.dst u env) S):afterS C i.dst env S K Q (stepI gt i env S):=by
  refine call_rule h (hm _ _ _ _ _ (hp S) ?_)
  rintro r S' ⟨rfl,rfl⟩
  exact k
theorem call_pfD (hm:MonoC C) {i:DI×Option Nat} {env:Env} {S:St} {K:Env→St→Prop} {Q:Ex→Env→St→Prop} {f:FuncId} {xs:List AV} {u:AV} (h:stepD gt i env S=.call f xs) (hp:PF C f xs u) (k:K (putV i.1.dst u env) S):afterS C i.1.dst env S K Q (stepD gt i env S):=by
  refine call_ruleD h (hm _ _ _ _ _ (hp S) ?_)
  rintro r S' ⟨rfl,rfl⟩
  exact k
end
end Go.Dn

namespace Go.Dn
open Go Go.RowKit
inductive Rs where
 | gr (ty:TypeId) (o:SI) (xs:List AV)
 | mp (id:Nat) (es:List (AV×AV))
 | bx (id:Nat) (ty:TypeId) (cs:List AV)
 | mk (t l b:Nat)
def RsOK (S:St):Rs→Prop
 |.gr ty o xs=>(o.tok=none∧o.off=0∧o.cap=some 0∧xs=[])∨∃t l,o=⟨some (t,l),0,none,false⟩∧t<S.nt∧l<S.nt∧lk S.tip t=some (some (xs.length,ty,false))∧lk S.mv t=none∧lk S.dl l=none
 |.mp id es=>id<S.nm∧lk S.maps id=some es
 |.bx id ty cs=>id<S.nb∧lk S.boxes id=some (some (ty,cs))
 |.mk t l b=>t<S.nt∧l<S.nt∧lk S.mv t=some (.bx b 0)
def RsDj:Rs→Rs→Prop
 |.gr _ o _,.gr _ o' _=>∀t l t' l',o.tok=some (t,l)→o'.tok=some (t',l')→t≠t'∧l≠l'
 |.mp i _,.mp j _=>i≠j
 |.bx i _ _,.bx j _ _=>i≠j
 | _,_=>True
theorem RsDj.symm:∀{a b:Rs},RsDj a b→RsDj b a
 |.gr ..,.gr ..,h=>fun t l t' l' e e'=>⟨fun q=>(h t' l' t l e' e).1 q.symm,fun q=>(h t' l' t l e' e).2 q.symm⟩
 |.mp ..,.mp ..,h=>fun q=>h q.symm
 |.bx ..,.bx ..,h=>fun q=>h q.symm
 |.gr ..,.mp ..,_ |.gr ..,.bx ..,_ |.gr ..,.mk ..,_ |.mp ..,.gr ..,_ |.mp ..,.bx ..,_ |.mp ..,.mk ..,_
 |.bx ..,.gr ..,_ |.bx ..,.mp ..,_ |.bx ..,.mk ..,_ |.mk ..,.gr ..,_ |.mk ..,.mp ..,_ |.mk ..,.bx ..,_ |.mk ..,.mk ..,_=>trivial
structure Hs (S:St) (R:List Rs):Prop where
 wf:Wf S
 ok:∀(i:Nat) (r:Rs),R[i]? = some r→RsOK S r
 dj:∀(i j:Nat) (r s:Rs),i≠j→R[i]? = some r→R[j]? = some s→RsDj r s
theorem Hs.nil {S:St} (h:Wf S):Hs S []:=⟨h,fun i r h=>by simp at h,fun i j r s _ h=>by simp at h⟩
theorem Hs.init:Hs St.init []:=Hs.nil fun _ _=>⟨rfl,rfl⟩
structure Chg (S S':St) (T L M B:Nat→Prop):Prop where
 nt:S.nt≤S'.nt
 nb:S.nb≤S'.nb
 nm:S.nm≤S'.nm
 tip:∀t,t<S.nt→¬T t→lk S'.tip t=lk S.tip t∧lk S'.mv t=lk S.mv t
 dl:∀l,l<S.nt→¬L l→lk S'.dl l=lk S.dl l
 mv:∀t m,t<S.nt→lk S.mv t=some m→lk S'.mv t=some m
 maps:∀i,i<S.nm→¬M i→lk S'.maps i=lk S.maps i
 boxes:∀i,i<S.nb→¬B i→lk S'.boxes i=lk S.boxes i
def Rs.off (T L M B:Nat→Prop):Rs→Prop
 |.gr _ o _=>∀t l,o.tok=some (t,l)→¬T t∧¬L l
 |.mp id _=>¬M id
 |.bx id _ _=>¬B id
 |.mk _ _ _=>True
theorem RsOK.chg {S S':St} {T L M B:Nat→Prop} (hc:Chg S S' T L M B):∀{r:Rs},RsOK S r→r.off T L M B→RsOK S' r
 |.gr ty o xs,h,ho=>by
  rcases h with h | ⟨t,l,rfl,h1,h2,h3,h4,h5⟩
  ·exact .inl h
  ·obtain⟨g1,g2⟩:=ho t l rfl
   obtain⟨e1,e2⟩:=hc.tip t h1 g1
   exact .inr ⟨t,l,rfl,Nat.lt_of_lt_of_le h1 hc.nt,Nat.lt_of_lt_of_le h2 hc.nt,by rw [e1];exact h3,by rw [e2];exact h4,by rw [hc.dl l h2 g2];exact h5⟩
 |.mp id es,h,ho=>⟨Nat.lt_of_lt_of_le h.1 hc.nm,by rw [hc.maps id h.1 ho];exact h.2⟩
 |.bx id ty cs,h,ho=>⟨Nat.lt_of_lt_of_le h.1 hc.nb,by rw [hc.boxes id h.1 ho];exact h.2⟩
 |.mk t l b,h,_=>⟨Nat.lt_of_lt_of_le h.1 hc.nt,Nat.lt_of_lt_of_le h.2.1 hc.nt,hc.mv t _ h.1 h.2.2⟩
theorem set_get {α:Type} {R:List α} {i j:Nat} {x y:α} (h:(R.set i x)[j]? = some y):(j=i∧y=x)∨(j≠i∧R[j]? = some y):=by
 by_cases e:i=j
 ·subst e
  rw [List.getElem?_set_self'] at h
  cases hr:R[i]? with
  | none=>rw [hr] at h;cases h
  | some z=>rw [hr] at h;cases h;exact .inl ⟨rfl,rfl⟩
 ·rw [List.getElem?_set_ne e] at h;exact .inr ⟨fun q=>e q.symm,h⟩
theorem Hs.turn {S S':St} {R:List Rs} {T L M B:Nat→Prop} (h:Hs S R) (hw:Wf S') (hc:Chg S S' T L M B) {i:Nat} {r':Rs}
  (hoff:∀(j:Nat) (s:Rs),j≠i→R[j]? = some s→s.off T L M B) (hr:RsOK S' r') (hd:∀(j:Nat) (s:Rs),j≠i→R[j]? = some s→RsDj r' s):Hs S' (R.set i r') where
 wf:=hw
 ok j s hs:=by
  rcases set_get hs with⟨_,rfl⟩ | ⟨e,hs⟩
  ·exact hr
  ·exact (h.ok j s hs).chg hc (hoff j s e hs)
 dj j k r s hjk hj hk:=by
  rcases set_get hj with⟨rfl,rfl⟩ | ⟨e,hj2⟩
  ·rcases set_get hk with⟨e,rfl⟩ | ⟨e,hk2⟩
   ·exact absurd e.symm hjk
   ·exact hd k s e hk2
  ·rcases set_get hk with⟨e',rfl⟩ | ⟨e',hk2⟩
   ·exact (hd j r e hj2).symm
   ·exact h.dj j k r s hjk hj2 hk2
theorem Hs.more {S S':St} {R:List Rs} (h:Hs S R) (hw:Wf S') (hc:Chg S S' (fun _=>False) (fun _=>False) (fun _=>False) (fun _=>False)) {r':Rs}
  (hr:RsOK S' r') (hd:∀(j:Nat) (s:Rs),R[j]? = some s→RsDj r' s):Hs S' (R++[r']) where
 wf:=hw
 ok j s hs:=by
  rcases Nat.lt_or_ge j R.length with hj | hj
  ·rw [List.getElem?_append_left hj] at hs
   refine (h.ok j s hs).chg hc ?_
   cases s<;>simp [Rs.off]
  ·rw [List.getElem?_append_right hj] at hs
   have:j-R.length=0:=by
    rcases Nat.eq_zero_or_pos (j-R.length) with e | e
    ·exact e
    ·rw [List.getElem?_eq_none (by simp;omega)] at hs;cases hs
   rw [this] at hs
   cases hs
   exact hr
 dj j k r s hjk hj hk:=by
  have key:∀{j:Nat} {s:Rs},(R++[r'])[j]? = some s→(R[j]? = some s)∨(j=R.length∧s=r'):=fun {j s} hs=>by
   rcases Nat.lt_or_ge j R.length with hj | hj
   ·rw [List.getElem?_append_left hj] at hs;exact .inl hs
   ·rw [List.getElem?_append_right hj] at hs
    have:j-R.length=0:=by
     rcases Nat.eq_zero_or_pos (j-R.length) with e | e
     ·exact e
     ·rw [List.getElem?_eq_none (by simp;omega)] at hs;cases hs
    rw [this] at hs
    cases hs
    exact .inr ⟨by omega,rfl⟩
  rcases key hj with hj2 | ⟨rfl,rfl⟩
  ·rcases key hk with hk2 | ⟨rfl,rfl⟩
   ·exact h.dj j k r s hjk hj2 hk2
   ·exact (hd j r hj2).symm
  ·rcases key hk with hk2 | ⟨rfl,rfl⟩
   ·exact hd k s hk2
   ·exact absurd rfl hjk
theorem Hs.less {S:St} {R R':List Rs} (h:Hs S R) (f:Nat→Nat) (hf:∀i j,i<R'.length→j<R'.length→f i=f j→i=j) (he:∀i,i<R'.length→R[f i]? = R'[i]?):Hs S R' where
 wf:=h.wf
 ok i r hi:=h.ok (f i) r (by rw [he i (List.getElem?_eq_some_iff.1 hi).1];exact hi)
 dj i j r s hij hi hj:=by
  have a:=(List.getElem?_eq_some_iff.1 hi).1
  have b:=(List.getElem?_eq_some_iff.1 hj).1
  exact h.dj (f i) (f j) r s (fun e=>hij (hf i j a b e)) (by rw [he i a];exact hi) (by rw [he j b];exact hj)
theorem Hs.addNil {S:St} {R:List Rs} (h:Hs S R) (ty:TypeId) (nl:Bool):Hs S (R++[.gr ty ⟨none,0,some 0,nl⟩ []]) :=
 h.more h.wf ⟨Nat.le_refl _,Nat.le_refl _,Nat.le_refl _,fun _ _ _=>⟨rfl,rfl⟩,fun _ _ _=>rfl,fun _ _ _ h=>h,fun _ _ _=>rfl,fun _ _ _=>rfl⟩ (.inl ⟨rfl,rfl,rfl,rfl⟩) fun j s _=>by
  cases s<;>simp [RsDj]
theorem RsOK.rd {S:St} {ty:TypeId} {o:SI} {xs:List AV} (h:RsOK S (.gr ty o xs)):rd S o=.here:=by
 rcases h with⟨h,_⟩ | ⟨t,l,rfl,_,_,_,h3,h4⟩
 ·exact rd_none h
 ·simp only [Dn.rd,h3,h4]
theorem RsOK.els {S:St} {ty:TypeId} {o:SI} {xs:List AV} (h:RsOK S (.gr ty o xs)) (agg:Bool) (es:Nat):elems S agg es o xs=some xs:=by
 simp only [elems,h.rd]
theorem Hs.rdo {S:St} {R:List Rs} (h:Hs S R) {i:Nat} {ty:TypeId} {o:SI} {xs us:List AV} {es:Nat} (hi:R[i]? = some (.gr ty o xs)) (hx:Rdos S us xs):Rdo S (.sl es stat us) (.sl es o xs):=by
 simp only [Rdo]
 exact⟨trivial,o,xs,true,xs,rfl,(h.ok i _ hi).els _ _,hx⟩
theorem hs_app {gt:GT} {d:Option Nat} {env:Env} {S:St} {R:List Rs} {agg:Bool} {ty:TypeId} {es bytes:Nat} {x y:DOpd} {o:SI} {xs ys:List AV} {yv:AV} (h:Hs S R) (i:Nat) (hi:R[i]? = some (.gr ty o xs))
  (hx:opd env x=some (.sl es o xs)) (hy:opd env y=some yv) (hys:srcE S agg es yv=some ys)
  (hb:(xs.length+ys.length)*bytes≤140737488355328) (hb2:xs.length+ys.length≤140737488355328) (hb3:bytes≤1048576) (hes:0<es) (hok:(ys.flatMap AV.cells).all ok1=true) :
  ∃o' S',stepO gt d env S (.app agg ty es bytes x y)=.done (putV d (.sl es o' (xs++ys)) env) S'∧Hs S' (R.set i (.gr ty o' (xs++ys))):=by
 have hg:=h.ok i _ hi
 have hel:elems S agg es o xs=some xs:=hg.els _ _
 have hset:∀z,R[i]? = some z→R.set i z=R:=fun z hz=>by
  apply List.ext_getElem?
  intro j
  by_cases e:i=j
  ·subst e
   rw [List.getElem?_set_self',hz];rfl
  ·rw [List.getElem?_set_ne e]
 cases ys with
 | nil =>
  refine⟨o,S,?_,by rw [List.append_nil,hset _ hi];exact h⟩
  simp only [stepO,hx,hy,appV,hys,hel,List.append_nil]
 | cons y ys =>
  have hguard:(Nat.beq es es && (Nat.ble ((xs.length+(y::ys).length)*bytes) 140737488355328 && (Nat.ble (xs.length+(y::ys).length) 140737488355328 && (Nat.ble bytes 1048576 && Nat.blt 0 es))))=true:=by
   rw [Nat.beq_refl,ble_true hb,ble_true hb2,ble_true hb3]
   simp only [Bool.true_and]
   exact Nat.ble_eq_true_of_le hes
  have hw:=h.wf S.nt (Nat.le_refl _)
  rcases hg with⟨h1,h2,h3,rfl⟩ | ⟨t,l,rfl,h1,h2,h5,h3,h4⟩
  ·refine⟨⟨some (S.nt,S.nt),0,none,false⟩,{ S with nt:=S.nt+1,tip:=(S.nt,some (([]:List AV).length+(y::ys).length,ty,false))::S.tip },?_,?_⟩
   ·have hz:Nat.ble (([]:List AV).length+(y::ys).length) 0=false:=by
     cases hq:Nat.ble (([]:List AV).length+(y::ys).length) 0 with
     | false=>rfl
     | true=>have:=Nat.le_of_ble_eq_true hq;simp at this
    simp only [stepO,hx,hy,appV,hys,hel,hguard,cond_true,h3,hz,cond_false]
   ·refine h.turn (S':={ S with nt:=S.nt+1,tip:=(S.nt,some (([]:List AV).length+(y::ys).length,ty,false))::S.tip }) (r':=.gr ty ⟨some (S.nt,S.nt),0,none,false⟩ ([]++y::ys)) (T:=fun _=>False) (L:=fun _=>False) (M:=fun _=>False) (B:=fun _=>False) (fun t ht=>h.wf t (by simp at ht;omega)) ⟨Nat.le_succ _,Nat.le_refl _,Nat.le_refl _,fun t ht _=>⟨lk_ne _ _ (by omega),rfl⟩,fun _ _ _=>rfl,fun _ _ _ h=>h,fun _ _ _=>rfl,fun _ _ _=>rfl⟩ (fun j s _ _=>by cases s<;>simp [Rs.off]) ?_ fun j s _ hs=>?_
    ·exact .inr ⟨S.nt,S.nt,rfl,Nat.lt_succ_self _,Nat.lt_succ_self _,by simp [lk_same],hw.1,hw.2⟩
    ·have hsk:=h.ok j s hs
     cases s with
     | gr ty2 o2 zs =>
      intro t l t2 l2 e e2
      cases e
      rcases hsk with⟨e3,_⟩ | ⟨t3,l3,rfl,b1,b2,_⟩
      ·rw [e3] at e2;cases e2
      ·cases e2;exact⟨by omega,by omega⟩
     | _=>trivial
  ·refine⟨⟨some (S.nt,l),0,none,false⟩,{ S with nt:=S.nt+1,tip:=(S.nt,some (xs.length+(y::ys).length,ty,false))::(t,none)::S.tip },?_,?_⟩
   ·have hrd:rd S ⟨some (t,l),0,none,false⟩=.here:=by simp only [rd,h3,h4]
    have hg2:(Nat.beq ty ty && (Nat.beq xs.length xs.length && (Nat.beq 0 0 && (Nat.ble l S.nt && ((y::ys).flatMap AV.cells).all ok1))))=true:=by
     rw [Nat.beq_refl,Nat.beq_refl,Nat.beq_refl,ble_true (by omega),hok];rfl
    simp only [stepO,hx,hy,appV,hys,hel,hguard,cond_true,hrd,h5,hg2]
   ·refine h.turn (S':={ S with nt:=S.nt+1,tip:=(S.nt,some (xs.length+(y::ys).length,ty,false))::(t,none)::S.tip }) (r':=.gr ty ⟨some (S.nt,l),0,none,false⟩ (xs++y::ys)) (T:=fun q=>q=t) (L:=fun _=>False) (M:=fun _=>False) (B:=fun _=>False) (fun t ht=>h.wf t (by simp at ht;omega)) ⟨Nat.le_succ _,Nat.le_refl _,Nat.le_refl _,fun q hq hne=>⟨by rw [lk_ne _ _ (by omega),lk_ne _ _ (fun e=>hne e.symm)],rfl⟩,fun _ _ _=>rfl,fun _ _ _ h=>h,fun _ _ _=>rfl,fun _ _ _=>rfl⟩ (fun j s hj hs=>?_) ?_ fun j s hj hs=>?_
    ·have hdj:=h.dj i j _ s (fun e=>hj e.symm) hi hs
     cases s with
     | gr ty2 o2 zs=>intro t2 l2 e2;exact⟨fun e=>(hdj t l t2 l2 rfl e2).1 e.symm,fun e=>e⟩
     | _=>simp [Rs.off]
    ·exact .inr ⟨S.nt,l,rfl,Nat.lt_succ_self _,Nat.lt_succ_of_lt h2,by simp [lk_same],hw.1,h4⟩
    ·have hsk:=h.ok j s hs
     have hdj:=h.dj i j _ s (fun e=>hj e.symm) hi hs
     cases s with
     | gr ty2 o2 zs =>
      intro t' l' t2 l2 e e2
      cases e
      rcases hsk with⟨e3,_⟩ | ⟨t3,l3,rfl,b1,b2,_⟩
      ·rw [e3] at e2;cases e2
      ·cases e2;exact⟨by omega,(hdj _ _ _ _ rfl rfl).2⟩
     | _=>trivial
theorem hs_mkm {gt:GT} {d:Option Nat} {env:Env} {S:St} {R:List Rs} (h:Hs S R) :
  ∃id S',stepO gt d env S .mkm=.done (putV d (.map id) env) S'∧Hs S' (R++[.mp id []]):=by
 refine⟨S.nm,{ S with nm:=S.nm+1,maps:=(S.nm,[])::S.maps },rfl,h.more (S':={ S with nm:=S.nm+1,maps:=(S.nm,[])::S.maps }) (r':=.mp S.nm []) (fun t ht=>h.wf t ht) ⟨Nat.le_refl _,Nat.le_refl _,Nat.le_succ _,fun _ _ _=>⟨rfl,rfl⟩,fun _ _ _=>rfl,fun _ _ _ h=>h,fun i hi _=>lk_ne _ _ (by omega),fun _ _ _=>rfl⟩ ⟨Nat.lt_succ_self _,lk_same _ _ _⟩ fun j s hs=>?_⟩
 have:=h.ok j s hs
 cases s with
 | mp i es=>intro e;have:=this.1;omega
 | _=>trivial
theorem Hs.mapTo {S:St} {R:List Rs} (h:Hs S R) {i:Nat} {id:Nat} {es:List (AV×AV)} (hi:R[i]? = some (.mp id es)) (es':List (AV×AV)):Hs { S with maps:=(id,es')::S.maps } (R.set i (.mp id es')):=by
 have hk:=h.ok i _ hi
 refine h.turn (S':={ S with maps:=(id,es')::S.maps }) (r':=.mp id es') (T:=fun _=>False) (L:=fun _=>False) (M:=fun q=>q=id) (B:=fun _=>False) (fun t ht=>h.wf t ht) ⟨Nat.le_refl _,Nat.le_refl _,Nat.le_refl _,fun _ _ _=>⟨rfl,rfl⟩,fun _ _ _=>rfl,fun _ _ _ h=>h,fun j hj hne=>lk_ne _ _ (fun e=>hne e.symm),fun _ _ _=>rfl⟩ (fun j s hj hs=>?_) ⟨hk.1,lk_same _ _ _⟩ fun j s hj hs=>?_
 ·have hdj:=h.dj i j _ s (fun e=>hj e.symm) hi hs
  cases s with
  | mp k es2=>exact fun e=>hdj e.symm
  | _=>simp [Rs.off]
 ·have hdj:=h.dj i j _ s (fun e=>hj e.symm) hi hs
  cases s with
  | mp k es2=>exact hdj
  | _=>trivial
theorem Hs.boxTo {S:St} {R:List Rs} (h:Hs S R) {i:Nat} {id:Nat} {ty:TypeId} {cs:List AV} (hi:R[i]? = some (.bx id ty cs)) (cs':List AV):Hs { S with boxes:=(id,some (ty,cs'))::S.boxes } (R.set i (.bx id ty cs')):=by
 have hk:=h.ok i _ hi
 refine h.turn (S':={ S with boxes:=(id,some (ty,cs'))::S.boxes }) (r':=.bx id ty cs') (T:=fun _=>False) (L:=fun _=>False) (M:=fun _=>False) (B:=fun q=>q=id) (fun t ht=>h.wf t ht) ⟨Nat.le_refl _,Nat.le_refl _,Nat.le_refl _,fun _ _ _=>⟨rfl,rfl⟩,fun _ _ _=>rfl,fun _ _ _ h=>h,fun _ _ _=>rfl,fun j hj hne=>lk_ne _ _ (fun e=>hne e.symm)⟩ (fun j s hj hs=>?_) ⟨hk.1,lk_same _ _ _⟩ fun j s hj hs=>?_
 ·have hdj:=h.dj i j _ s (fun e=>hj e.symm) hi hs
  cases s with
  | bx k ty2 es2=>exact fun e=>hdj e.symm
  | _=>simp [Rs.off]
 ·have hdj:=h.dj i j _ s (fun e=>hj e.symm) hi hs
  cases s with
  | bx k ty2 es2=>exact hdj
  | _=>trivial
theorem Hs.newBox {S:St} {R:List Rs} (h:Hs S R) (ty:TypeId) (cs:List AV):Hs { S with nb:=S.nb+1,boxes:=(S.nb,some (ty,cs))::S.boxes } (R++[.bx S.nb ty cs]) :=
 h.more (S':={ S with nb:=S.nb+1,boxes:=(S.nb,some (ty,cs))::S.boxes }) (r':=.bx S.nb ty cs) (fun t ht=>h.wf t ht) ⟨Nat.le_refl _,Nat.le_succ _,Nat.le_refl _,fun _ _ _=>⟨rfl,rfl⟩,fun _ _ _=>rfl,fun _ _ _ h=>h,fun _ _ _=>rfl,fun i hi _=>lk_ne _ _ (by omega)⟩ ⟨Nat.lt_succ_self _,lk_same _ _ _⟩ fun j s hs=>by
  have:=h.ok j s hs
  cases s with
  | bx i ty2 es=>intro e;have:=this.1;omega
  | _=>trivial
section
variable {gt:GT} {C:CallT}
theorem st_any {d:Option Nat} {op:DOp} {gd:Option (Nat×Bool)} {env env':Env} {S S':St} {K:Env→St→Prop} {Q:Ex→Env→St→Prop} (hg:Gd env gd) (h:stepO gt d env S op=.done env' S') (k:K env' S'):afterS C d env S K Q (stepI gt ⟨d,op,gd⟩ env S):=by
 rw [st_gd hg,h];exact k
theorem st_anyD {d:Option Nat} {op:DOp} {gd:Option (Nat×Bool)} {l:Option Nat} {env env':Env} {S S':St} {K:Env→St→Prop} {Q:Ex→Env→St→Prop} (hg:Gd env gd) (h0:isLoc op=false) (h1:conform l env op=true) (h:stepO gt d env S op=.done env' S') (k:K env' S'):afterS C d env S K Q (stepD gt (⟨d,op,gd⟩,l) env S):=by
 have:stepD gt (⟨d,op,gd⟩,l) env S=stepO gt d env S op:=by
  cases gd with
  | none=>simp only [stepD,stepDO,h0,h1,cond_false,cond_true]
  | some p =>
   obtain⟨g,w⟩:=p
   have hg:lk env g=some (.val (.bool w)):=hg
   simp only [stepD,stepDO,h0,h1,cond_false,cond_true,hg,beq_self_eq_true]
 rw [this,h];exact k
theorem r_app {d:Option Nat} {env:Env} {S:St} {R:List Rs} {agg:Bool} {ty:TypeId} {es bytes:Nat} {x y:DOpd} {o:SI} {xs ys:List AV} {yv:AV} {gd:Option (Nat×Bool)} {K:Env→St→Prop} {Q:Ex→Env→St→Prop} (h:Hs S R) (i:Nat) (hi:R[i]? = some (.gr ty o xs))
  (hg:Gd env gd) (hx:opd env x=some (.sl es o xs)) (hy:opd env y=some yv) (hys:srcE S agg es yv=some ys)
  (hb:(xs.length+ys.length)*bytes≤140737488355328) (hb2:xs.length+ys.length≤140737488355328) (hb3:bytes≤1048576) (hes:0<es) (hok:(ys.flatMap AV.cells).all ok1=true)
  (k:∀o' S',Hs S' (R.set i (.gr ty o' (xs++ys)))→K (putV d (.sl es o' (xs++ys)) env) S'):afterS C d env S K Q (stepI gt ⟨d,.app agg ty es bytes x y,gd⟩ env S):=by
 obtain⟨o',S',e,h'⟩:=hs_app (gt:=gt) (d:=d) h i hi hx hy hys hb hb2 hb3 hes hok
 exact st_any hg e (k o' S' h')
theorem r_appD {l:Option Nat} {d:Option Nat} {env:Env} {S:St} {R:List Rs} {agg:Bool} {ty:TypeId} {es bytes:Nat} {x y:DOpd} {o:SI} {xs ys:List AV} {yv:AV} {gd:Option (Nat×Bool)} {K:Env→St→Prop} {Q:Ex→Env→St→Prop} (h:Hs S R) (i:Nat) (hi:R[i]? = some (.gr ty o xs))
  (hg:Gd env gd) (hx:opd env x=some (.sl es o xs)) (hy:opd env y=some yv) (hys:srcE S agg es yv=some ys)
  (hb:(xs.length+ys.length)*bytes≤140737488355328) (hb2:xs.length+ys.length≤140737488355328) (hb3:bytes≤1048576) (hes:0<es) (hok:(ys.flatMap AV.cells).all ok1=true)
  (k:∀o' S',Hs S' (R.set i (.gr ty o' (xs++ys)))→K (putV d (.sl es o' (xs++ys)) env) S'):afterS C d env S K Q (stepD gt (⟨d,.app agg ty es bytes x y,gd⟩,l) env S):=by
 obtain⟨o',S',e,h'⟩:=hs_app (gt:=gt) (d:=d) h i hi hx hy hys hb hb2 hb3 hes hok
 exact st_anyD hg rfl rfl e (k o' S' h')
end
end Go.Dn
namespace Go.Dn
def isVB:Ent→Bool
 |.val _ |.box _=>true
 | _=>false
theorem keep_cons {env rest:Env} {k:Nat} {r:List Nat} {e:Ent} (h:lk env k=some e) (hv:isVB e=true) (hr:keepE env r=rest):keepE env (k::r)=(k,e)::rest:=by
 subst hr
 cases e<;>first | (simp only [keepE,h];done) | cases hv
end Go.Dn
namespace Go.Dn
theorem keep_intro {env l e0:Env} {ks:List Nat} {G:Prop} (h:keepE env ks=l) (k:l=e0→G):keepE env ks=e0→G:=fun h'=>k (h.symm.trans h')
end Go.Dn
namespace Go.Dn
theorem sI {gt:GT} {C:CallT} {i:DI} {env env':Env} {S S':St} {K:Env→St→Prop} {Q:Ex→Env→St→Prop} (h:stepI gt i env S=.done env' S') (k:K env' S'):afterS C i.dst env S K Q (stepI gt i env S):=step_rule h k
theorem sD {gt:GT} {C:CallT} {i:DI×Option Nat} {env env':Env} {S S':St} {A B:Env→St→Prop} {Q:Ex→Env→St→Prop} (h:stepD gt i env S=.done env' S') (a:A env' S') (k:B env' S'):afterS C i.1.dst env S (fun e s=>A e s∧B e s) Q (stepD gt i env S):=step_ruleD h ⟨a,k⟩
theorem kI {env l e0:Env} {ks:List Nat} {G:Prop} (h:keepE env ks=l) (k:l=e0→G):keepE env ks=e0→G:=keep_intro h k
theorem kN (env:Env):keepE env []=[]:=rfl
theorem kC {env rest:Env} {k:Nat} {r:List Nat} {e:Ent} (h:lk env k=some e) (hv:isVB e=true) (hr:keepE env r=rest):keepE env (k::r)=(k,e)::rest:=keep_cons h hv hr
end Go.Dn

namespace Go.Dn
open Go
theorem goW {G G':Prop} (k:G') (h:G'→G:=by
 intro hk;((try refine And.intro (by rfl) ?_);(conv=>whnf);repeat (first | (refine sI (by rfl) ?_;conv=>whnf) | (refine sD (by rfl) (by rfl) ?_;conv=>whnf) | (generalize hE:keepE _ _=e0;revert hE;apply kI;(repeat (first | exact kN _ | (apply kC;with_unfolding_all rfl;rfl)));rintro rfl;(conv=>whnf);conv=>whnf)));exact hk):G:=h k
theorem goK {G G':Prop} (k:G') (h:G'→G:=by
 intro hk;((try refine And.intro (by rfl) ?_);(conv=>whnf);repeat (refine sI (by rfl) ?_;conv=>whnf);(generalize hE:keepE _ _=e0;revert hE;apply kI;(repeat (first | exact kN _ | (apply kC;with_unfolding_all rfl;rfl)));rintro rfl));exact hk):G:=h k
end Go.Dn

namespace Go.Dn
open Go Go.Proofs.C1
set_option maxRecDepth 100000
attribute [local irreducible] afterS keepE
mutual
def encT:PT→AV
 |.mk k s keys kids=>.agg [.int .i64 k,.str s,.sl 1 stat (strs keys),.sl 4 stat (encTs kids)]
def encTs:List PT→List AV
 | []=>[]
 | t::r=>encT t::encTs r
end
theorem encTs_len:∀l:List PT,(encTs l).length=l.length
 | []=>rfl
 | t::r=>by simp [encTs,encTs_len r]
theorem encTs_get:∀{l:List PT} {i:Nat} (h:i<l.length),(encTs l)[i]? = some (encT l[i])
 | t::r,0,_=>rfl
 | t::r,i+1,h=>by simpa [encTs] using encTs_get (l:=r) (i:=i) (by simpa using h)
theorem encTs_app:∀a b:List PT,encTs (a++b)=encTs a++encTs b
 | [],b=>rfl
 | t::r,b=>by simp [encTs,encTs_app r b]
theorem sta_strs:∀l:List (List UInt8),Stas (strs l)
 | []=>trivial
 | a::r=>⟨trivial,sta_strs r⟩
mutual
theorem sta_T:∀t,Sta (encT t)
 |.mk k s keys kids=>by
  simp only [encT,Sta,Stas]
  exact⟨trivial,trivial,⟨trivial,sta_strs keys⟩,⟨trivial,sta_Ts kids⟩,trivial⟩
theorem sta_Ts:∀l,Stas (encTs l)
 | []=>trivial
 | t::r=>by simp only [encTs,Stas];exact⟨sta_T t,sta_Ts r⟩
end
theorem encT_agg (t:PT):∃k s a b,encT t=.agg [.int .i64 k,.str s,.sl 1 stat a,.sl 4 stat b]:=by
 cases t;exact⟨_,_,_,_,rfl⟩
theorem rdT (t:PT):(cut (encT t).cells 0 4).bind (mkv true)=some (encT t):=by cases t;rfl
abbrev Ret (u:AV):Res→St→Prop:=fun r S1=>∃x,r=.ret x∧Rdo S1 u x
theorem Ret.sta {u:AV} {S:St} (h:Sta u):Ret u (.ret u) S:=⟨u,rfl,h.rdo _⟩
mutual
def size3:PT→Int→Int
 |.mk _ _ _ kids,m=>szs kids m 1
def szs:List PT→Int→Int→Int
 | [],_,n=>n
 | t::r,m,n=>if n<m then szs r m (n+size3 t (m-n)) else n
end
theorem kid_lt {k s keys} {kids:List PT} {i:Nat} (h:i<kids.length):kids[i].n<(PT.mk k s keys kids).n:=by
 have:=PT.ns_mem (List.getElem_mem h);simp only [PT.n];omega
section
variable {gt:GT} {C:CallT}
end

theorem beqB_iff {a b:List UInt8}:beqB a b=true↔a=b:=by
 induction a generalizing b with
 | nil=>cases b<;>simp [beqB]
 | cons x a ih =>
  cases b with
  | nil=>simp [beqB]
  | cons y b =>
   simp only [beqB]
   by_cases h:x=y
   ·subst h;rw [Nat.beq_refl];simp [ih]
   ·have:Nat.beq x.toNat y.toNat=false:=by
     cases hb:Nat.beq x.toNat y.toNat with
     | false=>rfl
     | true=>exact absurd (UInt8.toNat_inj.1 (bE hb)) h
    rw [this];simp [h]
theorem beqB_true {a b:List UInt8} (h:a=b):beqB a b=true:=beqB_iff.2 h
theorem beqB_false {a b:List UInt8} (h:¬a=b):beqB a b=false:=by
 cases hh:beqB a b with
 | false=>rfl
 | true=>exact absurd (beqB_iff.1 hh) h
theorem neI_true {a b:Int} (h:¬a=b):(a != b)=true:=by simp [h]
theorem neI_false {a b:Int} (h:a=b):(a != b)=false:=by simp [h]
theorem eqI_true {a b:Int} (h:a=b):(a == b)=true:=by simp [h]
theorem eqI_false {a b:Int} (h:¬a=b):(a == b)=false:=by simp [h]
theorem cells_strs (l:List (List UInt8)):((strs l).flatMap AV.cells).all ok1=true:=strs_ok l
theorem encT_ok (t:PT):((([encT t]:List AV)).flatMap AV.cells).all ok1=true:=by cases t;rfl
theorem rdos_strs {S:St} (l:List (List UInt8)):Rdos S (strs l) (strs l):=(sta_strs l).rdos
theorem rdos_Ts {S:St} (l:List PT):Rdos S (encTs l) (encTs l):=Stas.rdos _ (sta_Ts l)
theorem rdo_T {S:St} {R:List Rs} (h:Hs S R) {i j:Nat} {ty ty2:TypeId} {o1 o2:SI} {k:Int} {s:List UInt8} {keys:List (List UInt8)} {kids:List PT} (hi:R[i]? = some (.gr ty o1 (strs keys))) (hj:R[j]? = some (.gr ty2 o2 (encTs kids))) :
  Rdo S (encT (.mk k s keys kids)) (.agg [.int .i64 k,.str s,.sl 1 o1 (strs keys),.sl 4 o2 (encTs kids)]):=by
 simp only [encT]
 rw [Rdo]
 refine⟨_,rfl,?_⟩
 simp only [Rdos]
 exact⟨_,_,rfl,by simp only [Rdo],_,_,rfl,by simp only [Rdo],_,_,rfl,h.rdo hi (rdos_strs keys),_,_,rfl,h.rdo hj (rdos_Ts kids),rfl⟩
section
variable {gt:GT} {C:CallT}
def zT:List AV:=[.int .i64 0,.str [],.sl 1 ⟨none,0,some 0,true⟩ [],.sl 4 ⟨none,0,some 0,true⟩ []]
end

mutual
def eqT:PT→PT→Bool
 |.mk k s keys kids,.mk k' s' keys' kids'=>decide (k=k') && (decide (s=s') && (decide (keys=keys') && eqTs kids kids'))
def eqTs:List PT→List PT→Bool
 | [],[]=>true
 | a::r,b::q=>eqT a b && eqTs r q
 | _,_=>false
end
mutual
theorem eqT_iff:∀{a b:PT},eqT a b=true↔a=b
 |.mk k s keys kids,.mk k' s' keys' kids'=>by simp [eqT,eqTs_iff (a:=kids) (b:=kids')]
theorem eqTs_iff:∀{a b:List PT},eqTs a b=true↔a=b
 | [],[]=>by simp [eqTs]
 | a::r,b::q=>by simp [eqTs,eqT_iff (a:=a) (b:=b),eqTs_iff (a:=r) (b:=q)]
 | [],b::q=>by simp [eqTs]
 | a::r,[]=>by simp [eqTs]
end
theorem eqT_false {a b:PT} (h:¬a=b):eqT a b=false:=by
 cases hh:eqT a b with
 | false=>rfl
 | true=>exact absurd (eqT_iff.1 hh) h
theorem eqT_true {a b:PT} (h:a=b):eqT a b=true:=eqT_iff.2 h
theorem strs_at {l:List (List UInt8)} {i:Nat} (h:i<l.length):(strs l)[i]? = some (.str l[i]):=strs_get (gE h)
def PT.k:PT→Int |.mk k _ _ _=>k
def PT.s:PT→List UInt8 |.mk _ s _ _=>s
def PT.keys:PT→List (List UInt8) |.mk _ _ keys _=>keys
def PT.kids:PT→List PT |.mk _ _ _ kids=>kids
section
variable {gt:GT} {C:CallT}
end
end Go.Dn

namespace Go.Dn
open Go Go.RowKit
def El (g:Bool) (es:Nat) (y:AV):Prop:=y.cells.length=es∧mkv g y.cells=some y
theorem cut_mid {pre m post:List AV} {n k:Nat} (hn:n=pre.length) (hk:k=m.length):cut (pre++(m++post)) n k=some m:=by
 subst hn;subst hk
 unfold cut
 rw [ble_true (by simp only [lA];omega)]
 simp
theorem cutAll_flat {g:Bool} {es:Nat}:∀{ys:List AV},(∀y∈ys,El g es y)→∀(pre post:List AV),cutAll g es (pre++(ys.flatMap AV.cells++post)) pre.length ys.length=some ys
 | [],_,_,_=>rfl
 | y::r,h,pre,post=>by
  obtain⟨h1,h2⟩:=h y (by simp)
  have ih:=cutAll_flat (ys:=r) (fun z hz=>h z (by simp [hz])) (pre++y.cells) post
  simp only [lC,cutAll,List.flatMap_cons,aA]
  rw [cut_mid rfl h1.symm]
  simp only [Option.bind_some,h2]
  rw [lA,h1,aA] at ih
  rw [ih]
theorem flat_length {es:Nat}:∀{ys:List AV},(∀y∈ys,y.cells.length=es)→(ys.flatMap AV.cells).length=ys.length*es
 | [],_=>by simp
 | y::r,h=>by
  have:=flat_length (ys:=r) fun z hz=>h z (by simp [hz])
  simp only [List.flatMap_cons,lA,lC,this,h y (by simp),Nat.add_mul];omega
theorem rd_mk {S:St} {t l b:Nat} {off:Nat} {cap:Option Nat} {nl:Bool} (h:RsOK S (.mk t l b)):rd S ⟨some (t,l),off,cap,nl⟩=.box b 0:=by
 simp only [rd,h.2.2]
theorem splice_mid {pre m post new m':List AV} {n off:Nat} (hn:n=pre.length+off) (hl:off+new.length≤m.length) (hm:m'=splice m off new):splice (pre++(m++post)) n new=pre++(m'++post):=by
 subst hn;subst hm
 unfold splice
 rw [List.take_append,List.drop_append]
 simp only [List.take_append,List.drop_append,aA]
 rw [List.take_of_length_le (l:=pre) (by omega),List.drop_of_length_le (l:=pre) (by omega)]
 rw [show pre.length+off-pre.length=off by omega,show pre.length+off+new.length-pre.length=off+new.length by omega]
 rw [show off-m.length=0 by omega,List.take_zero,show off+new.length-m.length=0 by omega,List.drop_zero]
 simp
theorem split_at {ys:List AV} {k:Nat} (h:k<ys.length):ys=ys.take k++ys[k]::ys.drop (k+1):=by
 rw [List.getElem_cons_drop,tkD]
theorem set_split {ys:List AV} {k:Nat} {v:AV} (h:k<ys.length):ys.set k v=ys.take k++v::ys.drop (k+1):=by
 rw [List.set_eq_take_append_cons_drop,if_pos h]
section
variable {gt:GT} {C:CallT} {S:St} {R:List Rs}
theorem arr_els (h:Hs S R) {i j:Nat} {b t l:Nat} {ty:TypeId} {ys post:List AV} {g:Bool} {es:Nat} (hi:R[i]? = some (.bx b ty (ys.flatMap AV.cells++post))) (hj:R[j]? = some (.mk t l b)) (hel:∀y∈ys,El g es y)
  {xs:List AV} {off:Nat} {cap:Option Nat} {nl:Bool} (hx:off+xs.length≤ys.length):elems S g es ⟨some (t,l),off,cap,nl⟩ xs=some ((ys.drop off).take xs.length):=by
 have hb:=(h.ok i _ hi).2
 have hm:=h.ok j _ hj
 unfold elems
 rw [rd_mk hm]
 simp only [hb]
 have e:ys=ys.take off++((ys.drop off).take xs.length++(ys.drop off).drop xs.length):=by rw [tkD,tkD]
 have hsz:∀y∈ys,y.cells.length=es:=fun y hy=>(hel y hy).1
 have:=cutAll_flat (g:=g) (es:=es) (ys:=(ys.drop off).take xs.length) (fun y hy=>hel y (List.mem_of_mem_drop (List.mem_of_mem_take hy))) ((ys.take off).flatMap AV.cells) (((ys.drop off).drop xs.length).flatMap AV.cells++post)
 rw [flat_length fun y hy=>hsz y (List.mem_of_mem_take hy),lT,lT,lD,Nat.min_eq_left (by omega),Nat.min_eq_left (by omega)] at this
 rw [Nat.zero_add,←this]
 congr 1
 conv=>lhs;rw [e]
 simp only [List.flatMap_append,aA]
theorem hs_mks {d:Option Nat} {env:Env} {ty:TypeId} {es bytes n c:Nat} {z:AV} {x y:DOpd} (h:Hs S R) (hl:(opd env x).bind nat? = some n) (hc:(opd env y).bind nat? = some c) (hle:n≤c) (hpos:0<c) (hb:c*bytes≤17592186044416) (hc2:c≤17592186044416) (hz:z.cells.length=es) :
  ∃t b S',stepO gt d env S (.mks ty es bytes z x y)=.done (putV d (.sl es ⟨some (t,t),0,some c,false⟩ (List.replicate n z)) env) S'∧Hs S' (R++[.bx b ty ((List.replicate c z).flatMap AV.cells)]++[.mk t t b]):=by
 have hfl:(List.replicate c z.cells).flatten=(List.replicate c z).flatMap AV.cells:=by
  clear hle hpos hb hc2 hc
  induction c with
  | zero=>rfl
  | succ c ih=>simp only [List.replicate_succ,List.flatten_cons,List.flatMap_cons,ih]
 refine⟨S.nt,S.nb,{ S with nb:=S.nb+1,boxes:=(S.nb,some (ty,(List.replicate c z).flatMap AV.cells))::S.boxes,nt:=S.nt+1,tip:=(S.nt,none)::S.tip,mv:=(S.nt,.bx S.nb 0)::S.mv },?_,?_⟩
 ·have hg:(Nat.ble n c && (Nat.ble (c*bytes) 17592186044416 && (Nat.ble c 17592186044416 && Nat.beq z.cells.length es)))=true:=by
   rw [ble_true hle,ble_true hb,ble_true hc2,hz,Nat.beq_refl];rfl
  have h0:Nat.beq c 0=false:=by
   cases hq:Nat.beq c 0 with
   | false=>rfl
   | true=>have:=bE hq;omega
  simp only [stepO,hl,hc,hg,cond_true,h0,cond_false,hfl]
 ·have h1:=h.newBox ty ((List.replicate c z).flatMap AV.cells)
  refine h1.more (S':={ S with nb:=S.nb+1,boxes:=(S.nb,some (ty,(List.replicate c z).flatMap AV.cells))::S.boxes,nt:=S.nt+1,tip:=(S.nt,none)::S.tip,mv:=(S.nt,.bx S.nb 0)::S.mv }) (r':=.mk S.nt S.nt S.nb) (fun t ht=>?_) ⟨Nat.le_succ _,Nat.le_refl _,Nat.le_refl _,fun t ht _=>⟨lk_ne _ _ (by simp only at ht;omega),lk_ne _ _ (by simp only at ht;omega)⟩,fun _ _ _=>rfl,fun t m ht hm=>?_,fun _ _ _=>rfl,fun _ _ _=>rfl⟩ ⟨Nat.lt_succ_self _,Nat.lt_succ_self _,lk_same _ _ _⟩ fun j s _=>?_
  ·simp only at ht ⊢
   have:=h.wf t (by omega)
   exact⟨by rw [lk_ne _ _ (by omega)];exact this.1,this.2⟩
  ·simp only at ht hm ⊢
   rw [lk_ne _ _ (by omega)];exact hm
  ·cases s<;>trivial
theorem arr_st (h:Hs S R) (i:Nat) {j:Nat} {b t l:Nat} {ty:TypeId} {ys post:List AV} {es:Nat} (hi:R[i]? = some (.bx b ty (ys.flatMap AV.cells++post))) (hj:R[j]? = some (.mk t l b)) (hsz:∀y∈ys,y.cells.length=es)
  {d:Option Nat} {env:Env} {a x:DOpd} {xs:List AV} {so k off sz:Nat} {cap:Option Nat} {nl:Bool} {v v':AV} (ha:loc env a=some (.el es ⟨some (t,l),so,cap,nl⟩ xs k off)) (hx:opd env x=some v) (hv:(Nat.beq v.cells.length sz && v.cells.all ok1)=true)
  (hk:k<xs.length) (hk2:so+k<ys.length) (ho:off+v.cells.length≤es) (hv':v'.cells=splice ys[so+k].cells off v.cells) :
  ∃S',stepO gt d env S (.st sz a x)=.done (putV d .undef env) S'∧Hs S' (R.set i (.bx b ty ((ys.set (so+k) v').flatMap AV.cells++post))):=by
 have hb:=(h.ok i _ hi).2
 have hm:=h.ok j _ hj
 have hfl:=flat_length hsz
 have hle:(so+k+1)*es≤ys.length*es:=Nat.mul_le_mul_right _ (by omega)
 rw [Nat.add_mul] at hle
 have hspl:splice (ys.flatMap AV.cells++post) (0+(so+k)*es+off) v.cells=(ys.set (so+k) v').flatMap AV.cells++post:=by
  rw [set_split hk2]
  conv=>lhs;rw [split_at hk2]
  simp only [List.flatMap_append,List.flatMap_cons,aA]
  refine splice_mid ?_ ?_ hv'
  ·rw [flat_length fun y hy=>hsz y (List.mem_of_mem_take hy),lT,Nat.min_eq_left (by omega)];omega
  ·rw [hsz _ (List.getElem_mem _)];exact ho
 refine⟨{ S with boxes:=(b,some (ty,(ys.set (so+k) v').flatMap AV.cells++post))::S.boxes },?_,h.boxTo hi _⟩
 have hg:(Nat.ble (off+v.cells.length) es && (Nat.blt k xs.length && Nat.ble (0+(so+k)*es+off+v.cells.length) (ys.flatMap AV.cells++post).length))=true:=by
  rw [ble_true ho,show Nat.blt k xs.length=true from Nat.ble_eq_true_of_le hk,ble_true (by rw [lA,hfl];omega)];rfl
 simp only [stepO,ha,hx,hv,cond_true,stL,rd_mk hm,hb,hg,hspl]
end
theorem r_mks {C:CallT} {gt:GT} {S:St} {R:List Rs} {d:Option Nat} {env:Env} {ty:TypeId} {es bytes n c:Nat} {z:AV} {x y:DOpd} {gd:Option (Nat×Bool)} {K:Env→St→Prop} {Q:Ex→Env→St→Prop} (h:Hs S R) (hg:Gd env gd) (hl:(opd env x).bind nat? = some n) (hc:(opd env y).bind nat? = some c) (hle:n≤c) (hpos:0<c) (hb:c*bytes≤17592186044416) (hc2:c≤17592186044416) (hz:z.cells.length=es)
  (k:∀t b S',Hs S' (R++[.bx b ty ((List.replicate c z).flatMap AV.cells)]++[.mk t t b])→K (putV d (.sl es ⟨some (t,t),0,some c,false⟩ (List.replicate n z)) env) S'):afterS C d env S K Q (stepI gt ⟨d,.mks ty es bytes z x y,gd⟩ env S):=by
 obtain⟨t,b,S',h1,h2⟩:=hs_mks (gt:=gt) (d:=d) h hl hc hle hpos hb hc2 hz
 exact st_any hg h1 (k t b S' h2)
end Go.Dn

namespace Go.Dn
open Go Go.Proofs.C1
set_option maxRecDepth 100000
attribute [local irreducible] afterS keepE
section
variable {gt:GT} {C:CallT}
end
end Go.Dn

namespace Go.Dn
open Go Go.RowKit
def sb (P:Program) (t:TypeId):Nat:=match P.underlying t with
 | some (.struct _)=>1
 | _=>0
section
variable {P:Program} {W:World} {H:Type} {enc:TypeId×Value→H}
end
end Go.Dn

namespace Go.Proofs.YtbojekglccdajaaGreatDoor
open Go.Dn
theorem u_int:Tryz.prog.underlying 3=some (.int .i64):=by kernel_rfl
end Go.Proofs.YtbojekglccdajaaGreatDoor

namespace Go.Proofs.YtbojekglccdajaaGreatDoor
open Go.Dn
end Go.Proofs.YtbojekglccdajaaGreatDoor

namespace Go.Dn
open Go Go.Proofs.C1
set_option maxRecDepth 100000
attribute [local irreducible] afterS keepE
theorem st_runP {C:CallT} {gt:GT} {d:Option Nat} {op:DOp} {gd:Option (Nat×Bool)} {env env':Env} {S:St} {P:St→Prop} {K:Env→St→Prop} {Q:Ex→Env→St→Prop} (h:∃S',stepO gt d env S op=.done env' S'∧P S') (hg:Gd env gd) (k:∀S',P S'→K env' S'):afterS C d env S K Q (stepI gt ⟨d,op,gd⟩ env S):=by
 obtain⟨S',h1,h2⟩:=h
 exact st_any hg h1 (k S' h2)
section
variable {gt:GT} {C:CallT}
end
end Go.Dn
