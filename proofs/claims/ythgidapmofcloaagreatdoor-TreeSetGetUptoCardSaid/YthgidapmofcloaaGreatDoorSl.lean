/- The code of the functions that are reached, printed by a program (Gen). -/
import Derived.Test.YthgidapmofcloaaGreatDoorSk
set_option linter.unusedSimpArgs false
set_option linter.unusedVariables false
namespace Go.Proofs.C1
open Go Go.Dn
set_option maxRecDepth 100000
abbrev nz : SI := ⟨none,0,some 0,true⟩
abbrev _root_.Go.Dn.DOpd.k (n : Int) : DOpd := .c (.int .i64 n)
/-- emend/emendlaw3.TreeRuns -/
def F3 : DF := ⟨0,
(.seq
(.reg [
.s 0 (.mv (.c (.bool false)))] [])
(.seq
(.reg [
.s 13 (.bldT 9 1 2 (.str []) [(0,(.c (.str [98]))),(1,(.c (.str [97])))]),
.s 14 (.bld [(.int .i64 0),(.str []),(.sl 1 nz []),(.sl 4 nz [])] [(0,1,(.k 3)),(1,1,(.c (.str [49,101,50])))]),
.s 15 (.bld [(.int .i64 0),(.str []),(.sl 1 nz []),(.sl 4 nz [])] [(0,1,(.k 1))]),
.s 16 (.bld [(.int .i64 0),(.str []),(.sl 1 nz []),(.sl 4 nz [])] [(0,1,(.k 4)),(1,1,(.c (.str [120])))]),
.s 17 (.bldT 25 4 2 (.agg [(.int .i64 0),(.str []),(.sl 1 nz []),(.sl 4 nz [])]) [(0,(.t 15)),(1,(.t 16))]),
.s 18 (.bld [(.int .i64 0),(.str []),(.sl 1 nz []),(.sl 4 nz [])] [(0,1,(.k 6)),(3,1,(.t 17))]),
.s 19 (.bldT 25 4 2 (.agg [(.int .i64 0),(.str []),(.sl 1 nz []),(.sl 4 nz [])]) [(0,(.t 14)),(1,(.t 18))]),
.s 20 (.bld [(.int .i64 0),(.str []),(.sl 1 nz []),(.sl 4 nz [])] [(0,1,(.k 7)),(2,1,(.t 13)),(3,1,(.t 19))]),
.s 1 (.alL [(.int .i64 0),(.str []),(.sl 1 nz []),(.sl 4 nz [])]),
.n (.st 4 (.t 1) (.t 20))] [1])
(.seq
(.reg [
.s 22 (.ld true 4 (.t 1)),
.s 23 (.call 15 [(.t 22)]),
.s 21 (.mv (.t 23)),
.s 24 (.ext (.t 21) 0),
.s 25 (.ext (.t 21) 1),
.s 2 (.mv (.t 24)),
.s 3 (.mv (.t 25))] [1,2,3])
(.seq
(.seq
(.reg [
.s 26 (.mv (.t 2)),
.s 27 (.bin .neq (some .str) (.t 26) (.c (.str [123,34,97,34,58,32,91,110,117,108,108,44,32,34,120,34,93,44,32,34,98,34,58,32,49,101,50,125]))),
.s 28 (.mv (.t 27)),
.g 29 (.mv (.t 3)) 28 false,
.g 30 (.bin .neq (some .int) (.t 29) (.k 0)) 28 false,
.s 31 (.pick (.t 28) (.c (.bool true)) (.t 30)),
.s 32 (.mv (.t 31)),
.g 33 (.ld true 4 (.t 1)) 32 false,
.g 34 (.call 16 [(.t 33)]) 32 false,
.g 35 (.bin .neq (some .int) (.t 34) (.k 0)) 32 false,
.s 36 (.pick (.t 32) (.c (.bool true)) (.t 35)),
.s 37 (.mv (.t 36)),
.g 38 (.ld true 4 (.t 1)) 37 false,
.g 39 (.call 17 [(.t 38)]) 37 false,
.g 40 (.bin .neq (some .int) (.t 39) (.k 5)) 37 false,
.s 41 (.pick (.t 37) (.c (.bool true)) (.t 40)),
.s 42 (.mv (.t 41)),
.g 43 (.ld true 4 (.t 1)) 42 false,
.g 44 (.call 18 [(.t 43)]) 42 false,
.g 45 (.bin .neq (some .int) (.t 44) (.k 3)) 42 false,
.s 46 (.pick (.t 42) (.c (.bool true)) (.t 45))] [46])
(.cnd (.t 46)
(.seq
(.reg [
.s 0 (.mv (.c (.bool false)))] [0])
.ret)
.skip))
(.seq
(.reg [
.s 48 (.call 19 [(.c (.str [123,34,97,34,58,49,46,48,44,34,98,34,58,64,50,48,50,54,45,48,50,45,50,56,125]))]),
.s 47 (.mv (.t 48)),
.s 49 (.ext (.t 47) 0),
.s 50 (.ext (.t 47) 1),
.s 4 (.alL [(.int .i64 0),(.str []),(.sl 1 nz []),(.sl 4 nz [])]),
.n (.st 4 (.t 4) (.t 49)),
.s 5 (.mv (.t 50))] [4,5])
(.seq
(.seq
(.reg [
.s 51 (.mv (.t 5)),
.s 52 (.bin .neq (some .ifc) (.t 51) (.c .nilif)),
.s 53 (.mv (.t 52)),
.g 54 (.fa 0 (.t 4)) 53 false,
.g 55 (.ld false 1 (.t 54)) 53 false,
.g 56 (.bin .neq (some .int) (.t 55) (.k 7)) 53 false,
.s 57 (.pick (.t 53) (.c (.bool true)) (.t 56)),
.s 58 (.mv (.t 57)),
.g 59 (.fa 3 (.t 4)) 58 false,
.g 60 (.ld false 1 (.t 59)) 58 false,
.g 61 (.len (.t 60)) 58 false,
.g 62 (.bin .neq (some .int) (.t 61) (.k 2)) 58 false,
.s 63 (.pick (.t 58) (.c (.bool true)) (.t 62)),
.s 64 (.mv (.t 63)),
.g 65 (.fa 3 (.t 4)) 64 false,
.g 66 (.ld false 1 (.t 65)) 64 false,
.g 67 (.ia 4 (.t 66) (.k 0)) 64 false,
.g 68 (.fa 1 (.t 67)) 64 false,
.g 69 (.ld false 1 (.t 68)) 64 false,
.g 70 (.bin .neq (some .str) (.t 69) (.c (.str [49]))) 64 false,
.s 71 (.pick (.t 64) (.c (.bool true)) (.t 70)),
.s 72 (.mv (.t 71)),
.g 73 (.fa 3 (.t 4)) 72 false,
.g 74 (.ld false 1 (.t 73)) 72 false,
.g 75 (.ia 4 (.t 74) (.k 1)) 72 false,
.g 76 (.fa 0 (.t 75)) 72 false,
.g 77 (.ld false 1 (.t 76)) 72 false,
.g 78 (.bin .neq (some .int) (.t 77) (.k 5)) 72 false,
.s 79 (.pick (.t 72) (.c (.bool true)) (.t 78))] [79])
(.cnd (.t 79)
(.seq
(.reg [
.s 0 (.mv (.c (.bool false)))] [0])
.ret)
.skip))
(.seq
(.seq
(.reg [
.s 80 (.call 20 [(.c (.str [123,34,97,34,58,49,44,34,97,34,58,50,125])),(.k 7),(.k 15)]),
.s 81 (.un .not (.t 80)),
.s 82 (.mv (.t 81)),
.g 83 (.call 20 [(.c (.str [91,49,44,93])),(.k 3),(.k 13)]) 82 false,
.g 84 (.un .not (.t 83)) 82 false,
.s 85 (.pick (.t 82) (.c (.bool true)) (.t 84)),
.s 86 (.mv (.t 85)),
.g 87 (.call 20 [(.c (.str [110,117,108])),(.k 0),(.k 13)]) 86 false,
.g 88 (.un .not (.t 87)) 86 false,
.s 89 (.pick (.t 86) (.c (.bool true)) (.t 88)),
.s 90 (.mv (.t 89)),
.g 91 (.call 20 [(.c (.str [48,49])),(.k 0),(.k 12)]) 90 false,
.g 92 (.un .not (.t 91)) 90 false,
.s 93 (.pick (.t 90) (.c (.bool true)) (.t 92)),
.s 94 (.mv (.t 93)),
.g 95 (.call 20 [(.c (.str [64,50,48,50,54,45,48,50,45,51,48])),(.k 0),(.k 20)]) 94 false,
.g 96 (.un .not (.t 95)) 94 false,
.s 97 (.pick (.t 94) (.c (.bool true)) (.t 96)),
.s 98 (.mv (.t 97)),
.g 99 (.call 20 [(.c (.str [91])),(.k 1),(.k 14)]) 98 false,
.g 100 (.un .not (.t 99)) 98 false,
.s 101 (.pick (.t 98) (.c (.bool true)) (.t 100)),
.s 102 (.mv (.t 101)),
.g 103 (.call 20 [(.c (.str [49,32,50])),(.k 2),(.k 13)]) 102 false,
.g 104 (.un .not (.t 103)) 102 false,
.s 105 (.pick (.t 102) (.c (.bool true)) (.t 104))] [105])
(.cnd (.t 105)
(.seq
(.reg [
.s 0 (.mv (.c (.bool false)))] [0])
.ret)
.skip))
(.seq
(.reg [
.s 107 (.call 22 [(.c (.str [123,34,97,34,58,91,53,44,54,93,125]))]),
.s 108 (.bld [(.str []),(.int .i64 0)] [(0,1,(.c (.str [97])))]),
.s 109 (.bld [(.str []),(.int .i64 0)] [(1,1,(.k 1))]),
.s 110 (.bldT 40 2 2 (.agg [(.str []),(.int .i64 0)]) [(0,(.t 108)),(1,(.t 109))]),
.s 111 (.call 21 [(.t 107),(.t 110)]),
.s 106 (.mv (.t 111)),
.s 112 (.ext (.t 106) 0),
.s 113 (.ext (.t 106) 1),
.s 6 (.alL [(.int .i64 0),(.str []),(.sl 1 nz []),(.sl 4 nz [])]),
.n (.st 4 (.t 6) (.t 112)),
.s 7 (.mv (.t 113))] [6,7])
(.seq
(.reg [
.s 115 (.call 22 [(.c (.str [123,34,97,34,58,91,53,44,54,93,125]))]),
.s 116 (.bld [(.str []),(.int .i64 0)] [(0,1,(.c (.str [97])))]),
.s 117 (.bld [(.str []),(.int .i64 0)] [(1,1,(.k 2))]),
.s 118 (.bldT 40 2 2 (.agg [(.str []),(.int .i64 0)]) [(0,(.t 116)),(1,(.t 117))]),
.s 119 (.call 21 [(.t 115),(.t 118)]),
.s 114 (.mv (.t 119)),
.s 120 (.ext (.t 114) 0),
.s 121 (.ext (.t 114) 1),
.s 8 (.alL [(.int .i64 0),(.str []),(.sl 1 nz []),(.sl 4 nz [])]),
.n (.st 4 (.t 8) (.t 120)),
.s 9 (.mv (.t 121))] [6,7,9])
(.seq
(.reg [
.s 123 (.call 22 [(.c (.str [123,34,97,34,58,91,53,44,54,93,125]))]),
.s 124 (.bld [(.str []),(.int .i64 0)] [(0,1,(.c (.str [98])))]),
.s 125 (.bldT 40 2 1 (.agg [(.str []),(.int .i64 0)]) [(0,(.t 124))]),
.s 126 (.call 21 [(.t 123),(.t 125)]),
.s 122 (.mv (.t 126)),
.s 127 (.ext (.t 122) 0),
.s 128 (.ext (.t 122) 1),
.s 10 (.alL [(.int .i64 0),(.str []),(.sl 1 nz []),(.sl 4 nz [])]),
.n (.st 4 (.t 10) (.t 127)),
.s 11 (.mv (.t 128))] [6,7,9,11])
(.seq
(.reg [
.s 130 (.call 22 [(.c (.str [91,49,93]))]),
.s 131 (.call 22 [(.c (.str [50]))]),
.s 132 (.bld [(.str []),(.int .i64 0)] []),
.s 133 (.bldT 40 2 1 (.agg [(.str []),(.int .i64 0)]) [(0,(.t 132))]),
.s 134 (.call 23 [(.t 130),(.t 131),(.t 133)]),
.s 129 (.mv (.t 134)),
.s 135 (.ext (.t 129) 0),
.s 136 (.ext (.t 129) 1),
.s 12 (.alL [(.int .i64 0),(.str []),(.sl 1 nz []),(.sl 4 nz [])]),
.n (.st 4 (.t 12) (.t 135)),
.s 3 (.mv (.t 136))] [3,6,7,9,11,12])
(.seq
(.drw [
((.s 137 (.call 22 [(.c (.str [123,34,97,34,58,49,44,34,98,34,58,50,125]))]),none),[]),
((.s 138 (.call 22 [(.c (.str [123,34,98,34,58,50,44,34,97,34,58,49,125]))]),none),[]),
((.s 139 (.call 24 [(.t 137),(.t 138)]),none),[]),
((.s 140 (.mv (.t 139)),none),[]),
((.g 141 (.call 22 [(.c (.str [49,101,49]))]) 140 true,none),[]),
((.g 142 (.call 22 [(.c (.str [57]))]) 140 true,none),[]),
((.g 143 (.call 25 [(.t 141),(.t 142)]) 140 true,none),[]),
((.g 144 (.bin .eql (some .int) (.t 143) (.k 1)) 140 true,none),[]),
((.s 145 (.pick (.t 140) (.t 144) (.c (.bool false))),none),[]),
((.s 146 (.mv (.t 145)),none),[]),
((.g 147 (.call 22 [(.c (.str [91,49,93]))]) 146 true,none),[]),
((.g 148 (.call 22 [(.c (.str [91,49,44,50,93]))]) 146 true,none),[]),
((.g 149 (.call 25 [(.t 147),(.t 148)]) 146 true,none),[]),
((.g 150 (.bin .eql (some .int) (.t 149) (.k (-1))) 146 true,none),[]),
((.s 151 (.pick (.t 146) (.t 150) (.c (.bool false))),none),[]),
((.s 152 (.mv (.t 151)),none),[]),
((.g 153 (.call 22 [(.c (.str [110,117,108,108]))]) 152 true,none),[]),
((.g 154 (.call 22 [(.c (.str [102,97,108,115,101]))]) 152 true,none),[]),
((.g 155 (.call 25 [(.t 153),(.t 154)]) 152 true,none),[]),
((.g 156 (.bin .eql (some .int) (.t 155) (.k (-1))) 152 true,none),[]),
((.s 157 (.pick (.t 152) (.t 156) (.c (.bool false))),none),[]),
((.s 158 (.mv (.t 157)),none),[]),
((.g 159 (.fa 1 (.t 6)) 158 true,(some 6)),[]),
((.g 160 (.ld false 1 (.t 159)) 158 true,(some 6)),[]),
((.g 161 (.bin .eql (some .str) (.t 160) (.c (.str [54]))) 158 true,none),[]),
((.s 162 (.pick (.t 158) (.t 161) (.c (.bool false))),none),[]),
((.s 163 (.mv (.t 162)),none),[]),
((.g 164 (.mv (.t 7)) 163 true,none),[]),
((.s 165 (.pick (.t 163) (.t 164) (.c (.bool false))),none),[]),
((.s 166 (.mv (.t 165)),none),[]),
((.g 167 (.mv (.t 9)) 166 true,none),[]),
((.g 168 (.un .not (.t 167)) 166 true,none),[]),
((.s 169 (.pick (.t 166) (.t 168) (.c (.bool false))),none),[]),
((.s 170 (.mv (.t 169)),none),[]),
((.g 171 (.mv (.t 11)) 170 true,none),[]),
((.g 172 (.un .not (.t 171)) 170 true,none),[]),
((.s 173 (.pick (.t 170) (.t 172) (.c (.bool false))),none),[]),
((.s 174 (.mv (.t 173)),none),[]),
((.g 175 (.mv (.t 3)) 174 true,none),[]),
((.g 176 (.bin .eql (some .int) (.t 175) (.k 0)) 174 true,none),[]),
((.s 177 (.pick (.t 174) (.t 176) (.c (.bool false))),none),[]),
((.s 178 (.mv (.t 177)),none),[]),
((.g 179 (.ld true 4 (.t 12)) 178 true,(some 12)),[]),
((.g 180 (.call 22 [(.c (.str [91,50,93]))]) 178 true,none),[]),
((.g 181 (.call 24 [(.t 179),(.t 180)]) 178 true,none),[]),
((.s 182 (.pick (.t 178) (.t 181) (.c (.bool false))),none),[]),
((.s 0 (.mv (.t 182)),none),[])] [0])
.ret)))))))))))),
[.tmp 0]⟩
/-- emend/emendlaw3.TreeSetGet -/
def F12 : DF := ⟨4,
(.seq
(.reg [
.s 4 (.bxL (.t 0)),
.s 5 (.bxL (.t 1)),
.s 8 (.mv (.c (.bool false)))] [2,3,4,5])
(.seq
(.seq
(.reg [
.s 21 (.ld true 4 (.t 4)),
.s 22 (.call 26 [(.t 21)]),
.s 23 (.un .not (.t 22)),
.s 24 (.mv (.t 23)),
.g 25 (.ld true 4 (.t 5)) 24 false,
.g 26 (.call 26 [(.t 25)]) 24 false,
.g 27 (.un .not (.t 26)) 24 false,
.s 28 (.pick (.t 24) (.c (.bool true)) (.t 27)),
.s 29 (.mv (.t 28)),
.g 30 (.ld true 4 (.t 4)) 29 false,
.g 31 (.call 16 [(.t 30)]) 29 false,
.g 32 (.bin .neq (some .int) (.t 31) (.k 0)) 29 false,
.s 33 (.pick (.t 29) (.c (.bool true)) (.t 32))] [2,3,4,5,33])
(.cnd (.t 33)
(.seq
(.reg [
.s 34 (.call 3 []),
.s 8 (.mv (.t 34))] [8])
.ret)
.skip))
(.seq
(.seq
(.reg [
.s 35 (.mv (.t 2)),
.s 36 (.len (.t 35)),
.s 37 (.bin .gtr none (.t 36) (.k 70))] [2,3,4,5,37])
(.cnd (.t 37)
(.reg [
.s 38 (.mv (.t 2)),
.s 39 (.slA 2 (.t 38) none (some (.k 70)) none),
.s 2 (.mv (.t 39))] [2,3,4,5])
.skip))
(.seq
(.seq
(.reg [
.s 40 (.mv (.t 3)),
.s 41 (.len (.t 40)),
.s 42 (.bin .gtr none (.t 41) (.k 70))] [2,3,4,5,42])
(.cnd (.t 42)
(.reg [
.s 43 (.mv (.t 3)),
.s 44 (.slA 2 (.t 43) none (some (.k 70)) none),
.s 3 (.mv (.t 44))] [2,3,4,5])
.skip))
(.seq
(.reg [
.s 46 (.ld true 4 (.t 4)),
.s 47 (.ld true 4 (.t 5)),
.s 48 (.mv (.t 2)),
.s 49 (.call 23 [(.t 46),(.t 47),(.t 48)]),
.s 45 (.mv (.t 49)),
.s 50 (.ext (.t 45) 0),
.s 51 (.ext (.t 45) 1),
.s 9 (.alL [(.int .i64 0),(.str []),(.sl 1 nz []),(.sl 4 nz [])]),
.n (.st 4 (.t 9) (.t 50)),
.s 10 (.mv (.t 51))] [2,3,4,5,9,10])
(.seq
(.reg [
.s 53 (.ld true 4 (.t 4)),
.s 54 (.mv (.t 2)),
.s 55 (.call 21 [(.t 53),(.t 54)]),
.s 52 (.mv (.t 55)),
.s 56 (.ext (.t 52) 0),
.s 57 (.ext (.t 52) 1),
.s 11 (.alL [(.int .i64 0),(.str []),(.sl 1 nz []),(.sl 4 nz [])]),
.n (.st 4 (.t 11) (.t 56)),
.s 12 (.mv (.t 57))] [2,3,4,5,9,10,12])
(.seq
(.seq
(.reg [
.s 58 (.mv (.t 12)),
.s 59 (.mv (.t 10)),
.s 60 (.bin .eql (some .int) (.t 59) (.k 0)),
.s 61 (.bin .neq (some .bool) (.t 58) (.t 60))] [2,3,4,5,9,10,61])
(.cnd (.t 61)
(.seq
(.reg [
.s 8 (.mv (.c (.bool false)))] [8])
.ret)
.skip))
(.seq
(.seq
(.reg [
.s 62 (.mv (.t 10)),
.s 63 (.bin .neq (some .int) (.t 62) (.k 0))] [2,3,4,5,9,63])
(.cnd (.t 63)
(.seq
(.reg [
.s 64 (.fa 0 (.t 9)),
.s 65 (.ld false 1 (.t 64)),
.s 66 (.bin .eql (some .int) (.t 65) (.k 0)),
.s 67 (.mv (.t 66)),
.g 68 (.call 3 []) 67 true,
.s 69 (.pick (.t 67) (.t 68) (.c (.bool false))),
.s 8 (.mv (.t 69))] [8])
.ret)
.skip))
(.seq
(.reg [
.s 71 (.ld true 4 (.t 9)),
.s 72 (.mv (.t 2)),
.s 73 (.call 21 [(.t 71),(.t 72)]),
.s 70 (.mv (.t 73)),
.s 74 (.ext (.t 70) 0),
.s 75 (.ext (.t 70) 1),
.s 13 (.alL [(.int .i64 0),(.str []),(.sl 1 nz []),(.sl 4 nz [])]),
.n (.st 4 (.t 13) (.t 74)),
.s 14 (.mv (.t 75))] [2,3,4,5,9,13,14])
(.seq
(.seq
(.reg [
.s 76 (.mv (.t 14)),
.s 77 (.un .not (.t 76)),
.s 78 (.mv (.t 77)),
.g 79 (.ld true 4 (.t 13)) 78 false,
.g 80 (.ld true 4 (.t 5)) 78 false,
.g 81 (.call 32 [(.t 79),(.t 80)]) 78 false,
.g 82 (.un .not (.t 81)) 78 false,
.s 83 (.pick (.t 78) (.c (.bool true)) (.t 82))] [2,3,4,9,83])
(.cnd (.t 83)
(.seq
(.reg [
.s 8 (.mv (.c (.bool false)))] [8])
.ret)
.skip))
(.seq
(.reg [
.s 15 (.mv (.c (.bool false)))] [2,3,4,9,15])
(.seq
(.seq
(.reg [
.s 16 (.mv (.k 0))] [2,3,4,9,15,16])
(.blk 0
(.seq
(.trim [2,3,4,9,15,16])
(.lop
(.seq
(.seq
(.seq
(.reg [
.s 84 (.mv (.t 16)),
.s 85 (.mv (.t 2)),
.s 86 (.len (.t 85)),
.s 87 (.bin .lss none (.t 84) (.t 86)),
.s 88 (.mv (.t 87)),
.g 89 (.mv (.t 16)) 88 true,
.g 90 (.mv (.t 3)) 88 true,
.g 91 (.len (.t 90)) 88 true,
.g 92 (.bin .lss none (.t 89) (.t 91)) 88 true,
.s 93 (.pick (.t 88) (.t 92) (.c (.bool false))),
.s 94 (.mv (.t 93)),
.g 95 (.mv (.t 15)) 94 true,
.g 96 (.un .not (.t 95)) 94 true,
.s 97 (.pick (.t 94) (.t 96) (.c (.bool false)))] [2,3,4,9,15,16,97])
(.cnd (.t 97)
.skip
(.exit 0)))
(.seq
(.blk 1
(.drw [
((.s 100 (.mv (.t 2)),none),[]),
((.s 101 (.mv (.t 16)),none),[]),
((.s 102 (.ia 2 (.t 100) (.t 101)),none),[]),
((.s 103 (.ld true 2 (.t 102)),none),[]),
((.s 104 (.mv (.t 3)),none),[]),
((.s 105 (.mv (.t 16)),none),[]),
((.s 106 (.ia 2 (.t 104) (.t 105)),none),[]),
((.s 107 (.ld true 2 (.t 106)),none),[]),
((.s 108 (.bin .neq (some (.st [(0,.str),(1,.int)])) (.t 103) (.t 107)),none),[]),
((.s 15 (.mv (.t 108)),none),[])] [2,3,4,9,15,16]))
(.reg [
.s 98 (.mv (.t 16)),
.s 99 (.bin .add none (.t 98) (.k 1)),
.s 16 (.mv (.t 99))] [2,3,4,9,15,16])))
(.trim [2,3,4,9,15,16]))))))
(.seq
(.seq
(.reg [
.s 109 (.mv (.t 15))] [3,4,9,109])
(.cnd (.t 109)
(.seq
(.reg [
.s 111 (.ld true 4 (.t 4)),
.s 112 (.mv (.t 3)),
.s 113 (.call 21 [(.t 111),(.t 112)]),
.s 110 (.mv (.t 113)),
.s 114 (.ext (.t 110) 0),
.s 115 (.ext (.t 110) 1),
.s 17 (.alL [(.int .i64 0),(.str []),(.sl 1 nz []),(.sl 4 nz [])]),
.n (.st 4 (.t 17) (.t 114)),
.s 18 (.mv (.t 115))] [3,9,17,18])
(.seq
(.reg [
.s 117 (.ld true 4 (.t 9)),
.s 118 (.mv (.t 3)),
.s 119 (.call 21 [(.t 117),(.t 118)]),
.s 116 (.mv (.t 119)),
.s 120 (.ext (.t 116) 0),
.s 121 (.ext (.t 116) 1),
.s 19 (.alL [(.int .i64 0),(.str []),(.sl 1 nz []),(.sl 4 nz [])]),
.n (.st 4 (.t 19) (.t 120)),
.s 20 (.mv (.t 121))] [17,18,19,20])
(.seq
(.reg [
.s 122 (.mv (.t 18)),
.s 123 (.mv (.t 20)),
.s 124 (.bin .neq (some .bool) (.t 122) (.t 123)),
.s 125 (.mv (.t 124)),
.g 126 (.ld true 4 (.t 17)) 125 false,
.g 127 (.ld true 4 (.t 19)) 125 false,
.g 128 (.call 32 [(.t 126),(.t 127)]) 125 false,
.g 129 (.un .not (.t 128)) 125 false,
.s 130 (.pick (.t 125) (.c (.bool true)) (.t 129))] [130])
(.cnd (.t 130)
(.seq
(.reg [
.s 8 (.mv (.c (.bool false)))] [8])
.ret)
.skip))))
.skip))
(.seq
(.reg [
.s 131 (.call 3 []),
.s 8 (.mv (.t 131))] [8])
.ret)))))))))))))),
[.tmp 8]⟩
/-- emend/tree.Text -/
def F15 : DF := ⟨1,
(.seq
(.reg [
.s 1 (.bxL (.t 0)),
.s 2 (.mv (.c (.str []))),
.s 3 (.mv (.k 0))] [1])
(.seq
(.seq
(.reg [
.s 6 (.ld true 4 (.t 1)),
.s 7 (.call 16 [(.t 6)]),
.s 4 (.mv (.t 7))] [1,4])
(.seq
(.reg [
.s 8 (.mv (.t 4)),
.s 9 (.bin .neq (some .int) (.t 8) (.k 0))] [1,4,9])
(.cnd (.t 9)
(.seq
(.reg [
.s 10 (.mv (.t 4)),
.s 2 (.mv (.c (.str []))),
.s 3 (.mv (.t 10))] [2,3])
.ret)
.skip)))
(.seq
(.reg [
.s 11 (.bld [.nilp,(.sl 1 nz [])] []),
.s 12 (.bxH 78 (.t 11)),
.s 5 (.mv (.t 12))] [1,5])
(.seq
(.reg [
.s 13 (.mv (.t 5)),
.s 14 (.ld true 4 (.t 1)),
.s 15 (.call 47 [(.t 13),(.t 14)])] [5])
(.seq
(.seq
(.reg [
.s 16 (.mv (.t 5)),
.s 17 (.nilc (.t 16)),
.s 18 (.fa 0 (.t 17)),
.s 19 (.call 48 [(.t 18)]),
.s 20 (.bin .gtr none (.t 19) (.k 65536))] [5,20])
(.cnd (.t 20)
(.seq
(.reg [
.s 2 (.mv (.c (.str []))),
.s 3 (.mv (.k 2))] [2,3])
.ret)
.skip))
(.seq
(.reg [
.s 21 (.mv (.t 5)),
.s 22 (.nilc (.t 21)),
.s 23 (.fa 0 (.t 22)),
.s 24 (.call 49 [(.t 23)]),
.s 2 (.mv (.t 24)),
.s 3 (.mv (.k 0))] [2,3])
.ret)))))),
[.tmp 2,.tmp 3]⟩
/-- emend/tree.Right -/
def F16 : DF := ⟨1,
(.seq
(.reg [
.s 1 (.bxL (.t 0)),
.s 2 (.mv (.k 0))] [1])
(.seq
(.blk 0
(.seq
(.reg [
.s 4 (.ld true 4 (.t 1)),
.s 5 (.call 18 [(.t 4)]),
.s 6 (.bin .gtr none (.t 5) (.k 64)),
.s 3 (.mv (.t 6))] [1,3])
(.cnd (.t 3)
(.seq
(.reg [
.s 2 (.mv (.k 4))] [2])
.ret)
(.seq
(.reg [
.s 8 (.ld true 4 (.t 1)),
.s 9 (.call 17 [(.t 8)]),
.s 10 (.bin .gtr none (.t 9) (.k 4096)),
.s 7 (.mv (.t 10))] [1,7])
(.cnd (.t 7)
(.seq
(.reg [
.s 2 (.mv (.k 3))] [2])
.ret)
(.seq
(.reg [
.s 12 (.ld true 4 (.t 1)),
.s 13 (.call 50 [(.t 12)]),
.s 14 (.un .not (.t 13)),
.s 11 (.mv (.t 14))] [11])
(.cnd (.t 11)
(.seq
(.reg [
.s 2 (.mv (.k 1))] [2])
.ret)
.skip)))))))
(.seq
(.reg [
.s 2 (.mv (.k 0))] [2])
.ret))),
[.tmp 2]⟩
/-- emend/tree.Size -/
def F17 : DF := ⟨1,
(.seq
(.reg [
.s 1 (.bxL (.t 0)),
.s 2 (.mv (.k 0))] [1])
(.seq
(.reg [
.s 3 (.mv (.k 1))] [1,3])
(.seq
(.seq
(.reg [
.s 6 (.fa 3 (.t 1)),
.s 7 (.ld false 1 (.t 6)),
.s 8 (.len (.t 7)),
.s 9 (.mv (.k 0))] [3,7,8,9])
(.blk 0
(.seq
(.trim [3,7,8,9])
(.lop
(.seq
(.seq
(.reg [
.s 10 (.bin .lss none (.t 9) (.t 8))] [3,7,8,9,10])
(.seq
(.cnd (.t 10)
.skip
(.exit 0))
(.seq
(.blk 1
(.seq
(.reg [
.s 11 (.ia 4 (.t 7) (.t 9)),
.s 12 (.ld true 4 (.t 11)),
.s 5 (.alL [(.int .i64 0),(.str []),(.sl 1 nz []),(.sl 4 nz [])]),
.n (.st 4 (.t 5) (.t 12))] [3,5,7,8,9])
(.reg [
.s 13 (.mv (.t 3)),
.s 14 (.ld true 4 (.t 5)),
.s 15 (.call 17 [(.t 14)]),
.s 16 (.bin .add none (.t 13) (.t 15)),
.s 3 (.mv (.t 16))] [3,7,8,9])))
(.reg [
.s 17 (.bin .add none (.t 9) (.k 1)),
.s 9 (.mv (.t 17))] [3,7,8,9]))))
(.trim [3,7,8,9]))))))
(.seq
(.reg [
.s 18 (.mv (.t 3)),
.s 2 (.mv (.t 18))] [2])
.ret)))),
[.tmp 2]⟩
/-- emend/tree.Depth -/
def F18 : DF := ⟨1,
(.seq
(.reg [
.s 1 (.bxL (.t 0)),
.s 2 (.mv (.k 0))] [1])
(.seq
(.reg [
.s 3 (.mv (.k 0))] [1,3])
(.seq
(.seq
(.reg [
.s 6 (.fa 3 (.t 1)),
.s 7 (.ld false 1 (.t 6)),
.s 8 (.len (.t 7)),
.s 9 (.mv (.k 0))] [3,7,8,9])
(.blk 0
(.seq
(.trim [3,7,8,9])
(.lop
(.seq
(.seq
(.reg [
.s 10 (.bin .lss none (.t 9) (.t 8))] [3,7,8,9,10])
(.seq
(.cnd (.t 10)
.skip
(.exit 0))
(.seq
(.blk 1
(.seq
(.reg [
.s 11 (.ia 4 (.t 7) (.t 9)),
.s 12 (.ld true 4 (.t 11)),
.s 5 (.alL [(.int .i64 0),(.str []),(.sl 1 nz []),(.sl 4 nz [])]),
.n (.st 4 (.t 5) (.t 12))] [3,5,7,8,9])
(.reg [
.s 13 (.mv (.t 3)),
.s 14 (.ld true 4 (.t 5)),
.s 15 (.call 18 [(.t 14)]),
.s 16 (.mx [(.t 13),(.t 15)]),
.s 3 (.mv (.t 16))] [3,7,8,9])))
(.reg [
.s 17 (.bin .add none (.t 9) (.k 1)),
.s 9 (.mv (.t 17))] [3,7,8,9]))))
(.trim [3,7,8,9]))))))
(.seq
(.reg [
.s 18 (.mv (.t 3)),
.s 19 (.bin .add none (.t 18) (.k 1)),
.s 2 (.mv (.t 19))] [2])
.ret)))),
[.tmp 2]⟩
/-- emend/tree.Parse -/
def F19 : DF := ⟨1,
(.seq
(.reg [
.s 1 (.bxH 9 (.t 0)),
.s 2 (.alL [(.int .i64 0),(.str []),(.sl 1 nz []),(.sl 4 nz [])]),
.s 3 (.mv (.c .nilif))] [1,2])
(.seq
(.reg [
.s 4 (.alH 25 [(.int .i64 0),(.str []),(.sl 1 nz []),(.sl 4 nz [])])] [1,2,4])
(.seq
(.reg [
.s 6 (.ld false 1 (.t 1)),
.s 7 (.mkf 52 [] [(.t 4),(.t 1)]),
.s 8 (.call 51 [(.t 6),(.t 7)]),
.s 5 (.mv (.t 8))] [2,4,5])
(.seq
(.seq
(.reg [
.s 9 (.mv (.t 5)),
.s 10 (.bin .neq (some .ifc) (.t 9) (.c .nilif))] [2,4,5,10])
(.cnd (.t 10)
(.seq
(.reg [
.s 11 (.bld [(.int .i64 0),(.str []),(.sl 1 nz []),(.sl 4 nz [])] []),
.s 12 (.mv (.t 5)),
.n (.st 4 (.t 2) (.t 11)),
.s 3 (.mv (.t 12))] [2,3])
.ret)
.skip))
(.seq
(.reg [
.s 13 (.ld true 4 (.t 4)),
.n (.st 4 (.t 2) (.t 13)),
.s 3 (.mv (.c .nilif))] [2,3])
.ret))))),
[.cell 2 true 4,.tmp 3]⟩
/-- emend/emendlaw3.fails -/
def F20 : DF := ⟨3,
(.seq
(.reg [
.s 6 (.mv (.c (.bool false)))] [0,1,2])
(.seq
(.reg [
.s 10 (.mv (.t 0)),
.s 11 (.call 19 [(.t 10)]),
.s 9 (.mv (.t 11)),
.s 12 (.ext (.t 9) 0),
.s 13 (.ext (.t 9) 1),
.s 7 (.alL [(.int .i64 0),(.str []),(.sl 1 nz []),(.sl 4 nz [])]),
.n (.st 4 (.t 7) (.t 12)),
.s 8 (.mv (.t 13))] [1,2,7,8])
(.seq
(.reg [
.s 14 (.fa 0 (.t 7)),
.s 15 (.ld false 1 (.t 14)),
.s 16 (.bin .eql (some .int) (.t 15) (.k 0)),
.s 17 (.mv (.t 16)),
.g 18 (.mv (.t 8)) 17 true,
.g 19 (.mv (.t 1)) 17 true,
.g 20 (.mv (.t 2)) 17 true,
.g 21 (.bld [(.int .i64 0),(.int .i64 0)] [(0,1,(.t 19)),(1,1,(.t 20))]) 17 true,
.g 22 (.call 41 [(.t 18),(.t 21)]) 17 true,
.s 23 (.pick (.t 17) (.t 22) (.c (.bool false))),
.s 6 (.mv (.t 23))] [6])
.ret))),
[.tmp 6]⟩
/-- emend/tree.Get -/
def F21 : DF := ⟨2,
(.seq
(.reg [
.s 2 (.bxL (.t 0)),
.s 4 (.alL [(.int .i64 0),(.str []),(.sl 1 nz []),(.sl 4 nz [])]),
.s 5 (.mv (.c (.bool false)))] [1,2,4])
(.seq
(.seq
(.reg [
.s 9 (.mv (.t 1)),
.s 10 (.len (.t 9)),
.s 11 (.mv (.k 0))] [2,4,9,10,11])
(.blk 0
(.seq
(.trim [2,4,9,10,11])
(.lop
(.seq
(.seq
(.reg [
.s 12 (.bin .lss none (.t 11) (.t 10))] [2,4,9,10,11,12])
(.seq
(.cnd (.t 12)
.skip
(.exit 0))
(.seq
(.blk 1
(.seq
(.reg [
.s 13 (.ia 2 (.t 9) (.t 11)),
.s 14 (.ld true 2 (.t 13)),
.s 7 (.alL [(.str []),(.int .i64 0)]),
.n (.st 2 (.t 7) (.t 14))] [2,4,7,9,10,11])
(.seq
(.reg [
.s 15 (.ld true 4 (.t 2)),
.s 16 (.ld true 2 (.t 7)),
.s 17 (.call 56 [(.t 15),(.t 16)]),
.s 8 (.mv (.t 17))] [2,4,8,9,10,11])
(.seq
(.seq
(.reg [
.s 18 (.mv (.t 8)),
.s 19 (.bin .lss none (.t 18) (.k 0))] [2,4,8,9,10,11,19])
(.cnd (.t 19)
(.seq
(.reg [
.s 20 (.bld [(.int .i64 0),(.str []),(.sl 1 nz []),(.sl 4 nz [])] []),
.n (.st 4 (.t 4) (.t 20)),
.s 5 (.mv (.c (.bool false)))] [4,5])
.ret)
.skip))
(.reg [
.s 21 (.fa 3 (.t 2)),
.s 22 (.ld false 1 (.t 21)),
.s 23 (.mv (.t 8)),
.s 24 (.ia 4 (.t 22) (.t 23)),
.s 25 (.ld true 4 (.t 24)),
.n (.st 4 (.t 2) (.t 25))] [2,4,9,10,11])))))
(.reg [
.s 26 (.bin .add none (.t 11) (.k 1)),
.s 11 (.mv (.t 26))] [2,4,9,10,11]))))
(.trim [2,4,9,10,11]))))))
(.seq
(.reg [
.s 27 (.ld true 4 (.t 2)),
.s 28 (.call 31 [(.t 27)]),
.n (.st 4 (.t 4) (.t 28)),
.s 5 (.mv (.c (.bool true)))] [4,5])
.ret))),
[.cell 4 true 4,.tmp 5]⟩
/-- emend/emendlaw3.parsed -/
def F22 : DF := ⟨1,
(.seq
(.reg [
.s 2 (.alL [(.int .i64 0),(.str []),(.sl 1 nz []),(.sl 4 nz [])])] [0,2])
(.seq
(.reg [
.s 6 (.mv (.t 0)),
.s 7 (.call 19 [(.t 6)]),
.s 5 (.mv (.t 7)),
.s 8 (.ext (.t 5) 0),
.s 9 (.ext (.t 5) 1),
.s 3 (.alL [(.int .i64 0),(.str []),(.sl 1 nz []),(.sl 4 nz [])]),
.n (.st 4 (.t 3) (.t 8)),
.s 4 (.mv (.t 9))] [2,3])
(.seq
(.reg [
.s 10 (.ld true 4 (.t 3)),
.n (.st 4 (.t 2) (.t 10))] [2])
.ret))),
[.cell 2 true 4]⟩
/-- emend/tree.Set -/
def F23 : DF := ⟨3,
(.seq
(.reg [
.s 3 (.bxL (.t 0)),
.s 4 (.bxL (.t 1)),
.s 6 (.alL [(.int .i64 0),(.str []),(.sl 1 nz []),(.sl 4 nz [])]),
.s 7 (.mv (.k 0))] [2,3,4,6])
(.seq
(.reg [
.s 11 (.ld true 4 (.t 3)),
.s 12 (.ld true 4 (.t 4)),
.s 13 (.mv (.t 2)),
.s 14 (.call 57 [(.t 11),(.t 12),(.t 13)]),
.s 10 (.mv (.t 14)),
.s 15 (.ext (.t 10) 0),
.s 16 (.ext (.t 10) 1),
.s 8 (.alL [(.int .i64 0),(.str []),(.sl 1 nz []),(.sl 4 nz [])]),
.n (.st 4 (.t 8) (.t 15)),
.s 9 (.mv (.t 16))] [6,8,9])
(.seq
(.seq
(.reg [
.s 17 (.mv (.t 9)),
.s 18 (.un .not (.t 17))] [6,8,18])
(.cnd (.t 18)
(.seq
(.reg [
.s 19 (.bld [(.int .i64 0),(.str []),(.sl 1 nz []),(.sl 4 nz [])] []),
.n (.st 4 (.t 6) (.t 19)),
.s 7 (.mv (.k 1))] [6,7])
.ret)
.skip))
(.seq
(.reg [
.s 20 (.ld true 4 (.t 8)),
.n (.st 4 (.t 6) (.t 20)),
.s 7 (.mv (.k 0))] [6,7])
.ret)))),
[.cell 6 true 4,.tmp 7]⟩
/-- emend/tree.Same -/
def F24 : DF := ⟨2,
(.seq
(.reg [
.s 2 (.bxL (.t 0)),
.s 3 (.bxL (.t 1)),
.s 4 (.mv (.c (.bool false)))] [2,3])
(.seq
(.seq
(.reg [
.s 5 (.ld true 4 (.t 2)),
.s 6 (.call 50 [(.t 5)]),
.s 7 (.un .not (.t 6)),
.s 8 (.mv (.t 7)),
.g 9 (.ld true 4 (.t 3)) 8 false,
.g 10 (.call 50 [(.t 9)]) 8 false,
.g 11 (.un .not (.t 10)) 8 false,
.s 12 (.pick (.t 8) (.c (.bool true)) (.t 11))] [2,3,12])
(.cnd (.t 12)
(.seq
(.reg [
.s 13 (.ld true 4 (.t 2)),
.s 14 (.ld true 4 (.t 3)),
.s 15 (.call 58 [(.t 13),(.t 14)]),
.s 4 (.mv (.t 15))] [4])
.ret)
.skip))
(.seq
(.drw [
((.s 16 (.ld true 4 (.t 2)),(some 2)),[]),
((.s 18 (.ld true 4 (.t 3)),(some 3)),[]),
((.s 17 (.call 34 [(.t 16)]),none),[]),
((.s 19 (.call 34 [(.t 18)]),none),[]),
((.s 20 (.call 58 [(.t 17),(.t 19)]),none),[]),
((.s 4 (.mv (.t 20)),none),[])] [4])
.ret))),
[.tmp 4]⟩
/-- emend/tree.Compare -/
def F25 : DF := ⟨2,
(.seq
(.reg [
.s 2 (.bxL (.t 0)),
.s 3 (.bxL (.t 1)),
.s 4 (.mv (.k 0))] [2,3])
(.seq
(.seq
(.reg [
.s 5 (.fa 0 (.t 2)),
.s 6 (.ld false 1 (.t 5)),
.s 7 (.fa 0 (.t 3)),
.s 8 (.ld false 1 (.t 7)),
.s 9 (.bin .neq (some .int) (.t 6) (.t 8))] [2,3,9])
(.cnd (.t 9)
(.seq
(.seq
(.reg [
.s 10 (.fa 0 (.t 2)),
.s 11 (.ld false 1 (.t 10)),
.s 12 (.fa 0 (.t 3)),
.s 13 (.ld false 1 (.t 12)),
.s 14 (.bin .lss none (.t 11) (.t 13))] [14])
(.cnd (.t 14)
(.seq
(.reg [
.s 4 (.mv (.k (-1)))] [4])
.ret)
.skip))
(.seq
(.reg [
.s 4 (.mv (.k 1))] [4])
.ret))
.skip))
(.seq
(.drw [
((.s 15 (.ld true 4 (.t 2)),(some 2)),[]),
((.s 17 (.ld true 4 (.t 3)),(some 3)),[]),
((.s 16 (.call 34 [(.t 15)]),none),[]),
((.s 18 (.call 34 [(.t 17)]),none),[]),
((.s 19 (.call 59 [(.t 16),(.t 18)]),none),[]),
((.s 4 (.mv (.t 19)),none),[])] [4])
.ret))),
[.tmp 4]⟩
/-- emend/emendlaw3.small -/
def F26 : DF := ⟨1,
(.seq
(.reg [
.s 1 (.bxL (.t 0)),
.s 2 (.mv (.c (.bool false)))] [1])
(.seq
(.reg [
.s 3 (.ld true 4 (.t 1)),
.s 4 (.call 28 [(.t 3),(.k 6000)]),
.s 5 (.bin .lss none (.t 4) (.k 6000)),
.s 2 (.mv (.t 5))] [2])
.ret)),
[.tmp 2]⟩
/-- emend/emendref3.Size -/
def F28 : DF := ⟨2,
(.seq
(.reg [
.s 2 (.bxL (.t 0)),
.s 4 (.mv (.k 0))] [1,2])
(.seq
(.reg [
.s 5 (.mv (.k 1))] [1,2,5])
(.seq
(.seq
(.reg [
.s 6 (.mv (.k 0))] [1,2,5,6])
(.blk 0
(.seq
(.trim [1,2,5,6])
(.lop
(.seq
(.seq
(.seq
(.reg [
.s 7 (.mv (.t 6)),
.s 8 (.fa 3 (.t 2)),
.s 9 (.ld false 1 (.t 8)),
.s 10 (.len (.t 9)),
.s 11 (.bin .lss none (.t 7) (.t 10)),
.s 12 (.mv (.t 11)),
.g 13 (.mv (.t 5)) 12 true,
.g 14 (.mv (.t 1)) 12 true,
.g 15 (.bin .lss none (.t 13) (.t 14)) 12 true,
.s 16 (.pick (.t 12) (.t 15) (.c (.bool false)))] [1,2,5,6,16])
(.cnd (.t 16)
.skip
(.exit 0)))
(.seq
(.blk 1
(.reg [
.s 19 (.mv (.t 5)),
.s 20 (.fa 3 (.t 2)),
.s 21 (.ld false 1 (.t 20)),
.s 22 (.mv (.t 6)),
.s 23 (.ia 4 (.t 21) (.t 22)),
.s 24 (.ld true 4 (.t 23)),
.s 25 (.mv (.t 1)),
.s 26 (.mv (.t 5)),
.s 27 (.bin .sub none (.t 25) (.t 26)),
.s 28 (.call 28 [(.t 24),(.t 27)]),
.s 29 (.bin .add none (.t 19) (.t 28)),
.s 5 (.mv (.t 29))] [1,2,5,6]))
(.reg [
.s 17 (.mv (.t 6)),
.s 18 (.bin .add none (.t 17) (.k 1)),
.s 6 (.mv (.t 18))] [1,2,5,6])))
(.trim [1,2,5,6]))))))
(.seq
(.reg [
.s 30 (.mv (.t 5)),
.s 4 (.mv (.t 30))] [4])
.ret)))),
[.tmp 4]⟩
/-- emend/tree.Copy -/
def F31 : DF := ⟨1,
(.seq
(.reg [
.s 1 (.bxL (.t 0)),
.s 2 (.alL [(.int .i64 0),(.str []),(.sl 1 nz []),(.sl 4 nz [])])] [1,2])
(.seq
(.reg [
.s 6 (.fa 0 (.t 1)),
.s 7 (.ld false 1 (.t 6)),
.s 8 (.fa 1 (.t 1)),
.s 9 (.ld false 1 (.t 8)),
.s 10 (.bld [(.int .i64 0),(.str []),(.sl 1 nz []),(.sl 4 nz [])] [(0,1,(.t 7)),(1,1,(.t 9))]),
.s 3 (.alL [(.int .i64 0),(.str []),(.sl 1 nz []),(.sl 4 nz [])]),
.n (.st 4 (.t 3) (.t 10))] [1,2,3])
(.seq
(.reg [
.s 11 (.fa 2 (.t 3)),
.s 12 (.ld false 1 (.t 11)),
.s 13 (.fa 2 (.t 1)),
.s 14 (.ld false 1 (.t 13)),
.s 15 (.app false 9 1 16 (.t 12) (.t 14)),
.s 16 (.fa 2 (.t 3)),
.n (.st 1 (.t 16) (.t 15))] [1,2,3])
(.seq
(.seq
(.reg [
.s 17 (.fa 3 (.t 1)),
.s 18 (.ld false 1 (.t 17)),
.s 19 (.len (.t 18)),
.s 20 (.mv (.k 0))] [2,3,18,19,20])
(.blk 0
(.seq
(.trim [2,3,18,19,20])
(.lop
(.seq
(.seq
(.reg [
.s 21 (.bin .lss none (.t 20) (.t 19))] [2,3,18,19,20,21])
(.seq
(.cnd (.t 21)
.skip
(.exit 0))
(.seq
(.blk 1
(.seq
(.reg [
.s 22 (.ia 4 (.t 18) (.t 20)),
.s 23 (.ld true 4 (.t 22)),
.s 5 (.alL [(.int .i64 0),(.str []),(.sl 1 nz []),(.sl 4 nz [])]),
.n (.st 4 (.t 5) (.t 23))] [2,3,5,18,19,20])
(.drw [
((.s 24 (.fa 3 (.t 3)),(some 3)),[]),
((.s 25 (.ld false 1 (.t 24)),(some 3)),[]),
((.s 26 (.ld true 4 (.t 5)),(some 5)),[]),
((.s 27 (.call 31 [(.t 26)]),none),[]),
((.s 28 (.bldS 4 1 (.agg [(.int .i64 0),(.str []),(.sl 1 nz []),(.sl 4 nz [])]) [(0,(.t 27))]),none),[]),
((.s 29 (.app true 25 4 72 (.t 25) (.t 28)),none),[]),
((.s 30 (.fa 3 (.t 3)),(some 3)),[]),
((.n (.st 1 (.t 30) (.t 29)),(some 3)),[])] [2,3,18,19,20])))
(.reg [
.s 31 (.bin .add none (.t 20) (.k 1)),
.s 20 (.mv (.t 31))] [2,3,18,19,20]))))
(.trim [2,3,18,19,20]))))))
(.seq
(.reg [
.s 32 (.ld true 4 (.t 3)),
.n (.st 4 (.t 2) (.t 32))] [2])
.ret))))),
[.cell 2 true 4]⟩
/-- emend/emendref3.Plain -/
def F32 : DF := ⟨2,
(.seq
(.reg [
.s 2 (.bxL (.t 0)),
.s 3 (.bxL (.t 1)),
.s 4 (.mv (.c (.bool false)))] [2,3])
(.seq
(.seq
(.reg [
.s 7 (.fa 0 (.t 2)),
.s 8 (.ld false 1 (.t 7)),
.s 9 (.fa 0 (.t 3)),
.s 10 (.ld false 1 (.t 9)),
.s 11 (.bin .neq (some .int) (.t 8) (.t 10)),
.s 12 (.mv (.t 11)),
.g 13 (.fa 1 (.t 2)) 12 false,
.g 14 (.ld false 1 (.t 13)) 12 false,
.g 15 (.fa 1 (.t 3)) 12 false,
.g 16 (.ld false 1 (.t 15)) 12 false,
.g 17 (.bin .neq (some .str) (.t 14) (.t 16)) 12 false,
.s 18 (.pick (.t 12) (.c (.bool true)) (.t 17)),
.s 19 (.mv (.t 18)),
.g 20 (.fa 2 (.t 2)) 19 false,
.g 21 (.ld false 1 (.t 20)) 19 false,
.g 22 (.len (.t 21)) 19 false,
.g 23 (.fa 2 (.t 3)) 19 false,
.g 24 (.ld false 1 (.t 23)) 19 false,
.g 25 (.len (.t 24)) 19 false,
.g 26 (.bin .neq (some .int) (.t 22) (.t 25)) 19 false,
.s 27 (.pick (.t 19) (.c (.bool true)) (.t 26)),
.s 28 (.mv (.t 27)),
.g 29 (.fa 3 (.t 2)) 28 false,
.g 30 (.ld false 1 (.t 29)) 28 false,
.g 31 (.len (.t 30)) 28 false,
.g 32 (.fa 3 (.t 3)) 28 false,
.g 33 (.ld false 1 (.t 32)) 28 false,
.g 34 (.len (.t 33)) 28 false,
.g 35 (.bin .neq (some .int) (.t 31) (.t 34)) 28 false,
.s 36 (.pick (.t 28) (.c (.bool true)) (.t 35))] [2,3,36])
(.cnd (.t 36)
(.seq
(.reg [
.s 4 (.mv (.c (.bool false)))] [4])
.ret)
.skip))
(.seq
(.seq
(.reg [
.s 5 (.mv (.k 0))] [2,3,5])
(.blk 0
(.seq
(.trim [2,3,5])
(.lop
(.seq
(.seq
(.seq
(.reg [
.s 37 (.mv (.t 5)),
.s 38 (.fa 2 (.t 2)),
.s 39 (.ld false 1 (.t 38)),
.s 40 (.len (.t 39)),
.s 41 (.bin .lss none (.t 37) (.t 40))] [2,3,5,41])
(.cnd (.t 41)
.skip
(.exit 0)))
(.seq
(.blk 1
(.seq
(.drw [
((.s 44 (.fa 2 (.t 2)),(some 2)),[]),
((.s 45 (.ld false 1 (.t 44)),(some 2)),[]),
((.s 46 (.mv (.t 5)),none),[]),
((.s 47 (.ia 1 (.t 45) (.t 46)),none),[]),
((.s 48 (.ld false 1 (.t 47)),none),[]),
((.s 49 (.fa 2 (.t 3)),(some 3)),[]),
((.s 50 (.ld false 1 (.t 49)),(some 3)),[]),
((.s 51 (.mv (.t 5)),none),[]),
((.s 52 (.ia 1 (.t 50) (.t 51)),none),[]),
((.s 53 (.ld false 1 (.t 52)),none),[]),
((.s 54 (.bin .neq (some .str) (.t 48) (.t 53)),none),[])] [2,3,5,54])
(.cnd (.t 54)
(.seq
(.reg [
.s 4 (.mv (.c (.bool false)))] [4])
.ret)
.skip)))
(.reg [
.s 42 (.mv (.t 5)),
.s 43 (.bin .add none (.t 42) (.k 1)),
.s 5 (.mv (.t 43))] [2,3,5])))
(.trim [2,3,5]))))))
(.seq
(.seq
(.reg [
.s 6 (.mv (.k 0))] [2,3,6])
(.blk 2
(.seq
(.trim [2,3,6])
(.lop
(.seq
(.seq
(.seq
(.reg [
.s 55 (.mv (.t 6)),
.s 56 (.fa 3 (.t 2)),
.s 57 (.ld false 1 (.t 56)),
.s 58 (.len (.t 57)),
.s 59 (.bin .lss none (.t 55) (.t 58))] [2,3,6,59])
(.cnd (.t 59)
.skip
(.exit 2)))
(.seq
(.blk 3
(.seq
(.drw [
((.s 62 (.fa 3 (.t 2)),(some 2)),[]),
((.s 63 (.ld false 1 (.t 62)),(some 2)),[]),
((.s 64 (.mv (.t 6)),none),[]),
((.s 65 (.ia 4 (.t 63) (.t 64)),none),[]),
((.s 66 (.ld true 4 (.t 65)),none),[]),
((.s 67 (.fa 3 (.t 3)),(some 3)),[]),
((.s 68 (.ld false 1 (.t 67)),(some 3)),[]),
((.s 69 (.mv (.t 6)),none),[]),
((.s 70 (.ia 4 (.t 68) (.t 69)),none),[]),
((.s 71 (.ld true 4 (.t 70)),none),[]),
((.s 72 (.call 32 [(.t 66),(.t 71)]),none),[]),
((.s 73 (.un .not (.t 72)),none),[])] [2,3,6,73])
(.cnd (.t 73)
(.seq
(.reg [
.s 4 (.mv (.c (.bool false)))] [4])
.ret)
.skip)))
(.reg [
.s 60 (.mv (.t 6)),
.s 61 (.bin .add none (.t 60) (.k 1)),
.s 6 (.mv (.t 61))] [2,3,6])))
(.trim [2,3,6]))))))
(.seq
(.reg [
.s 4 (.mv (.c (.bool true)))] [4])
.ret))))),
[.tmp 4]⟩
/-- emend/tree.Sorted -/
def F34 : DF := ⟨1,
(.seq
(.reg [
.s 1 (.bxL (.t 0)),
.s 2 (.alL [(.int .i64 0),(.str []),(.sl 1 nz []),(.sl 4 nz [])])] [1,2])
(.seq
(.reg [
.s 8 (.fa 0 (.t 1)),
.s 9 (.ld false 1 (.t 8)),
.s 10 (.fa 1 (.t 1)),
.s 11 (.ld false 1 (.t 10)),
.s 12 (.bld [(.int .i64 0),(.str []),(.sl 1 nz []),(.sl 4 nz [])] [(0,1,(.t 9)),(1,1,(.t 11))]),
.s 3 (.alL [(.int .i64 0),(.str []),(.sl 1 nz []),(.sl 4 nz [])]),
.n (.st 4 (.t 3) (.t 12))] [1,2,3])
(.seq
(.seq
(.reg [
.s 13 (.fa 0 (.t 1)),
.s 14 (.ld false 1 (.t 13)),
.s 15 (.bin .neq (some .int) (.t 14) (.k 7)),
.s 16 (.mv (.t 15)),
.g 17 (.fa 2 (.t 1)) 16 false,
.g 18 (.ld false 1 (.t 17)) 16 false,
.g 19 (.len (.t 18)) 16 false,
.g 20 (.fa 3 (.t 1)) 16 false,
.g 21 (.ld false 1 (.t 20)) 16 false,
.g 22 (.len (.t 21)) 16 false,
.g 23 (.bin .neq (some .int) (.t 19) (.t 22)) 16 false,
.s 24 (.pick (.t 16) (.c (.bool true)) (.t 23))] [1,2,3,24])
(.cnd (.t 24)
(.seq
(.reg [
.s 25 (.fa 2 (.t 3)),
.s 26 (.ld false 1 (.t 25)),
.s 27 (.fa 2 (.t 1)),
.s 28 (.ld false 1 (.t 27)),
.s 29 (.app false 9 1 16 (.t 26) (.t 28)),
.s 30 (.fa 2 (.t 3)),
.n (.st 1 (.t 30) (.t 29))] [1,2,3])
(.seq
(.seq
(.reg [
.s 31 (.fa 3 (.t 1)),
.s 32 (.ld false 1 (.t 31)),
.s 33 (.len (.t 32)),
.s 34 (.mv (.k 0))] [2,3,32,33,34])
(.blk 0
(.seq
(.trim [2,3,32,33,34])
(.lop
(.seq
(.seq
(.reg [
.s 35 (.bin .lss none (.t 34) (.t 33))] [2,3,32,33,34,35])
(.seq
(.cnd (.t 35)
.skip
(.exit 0))
(.seq
(.blk 1
(.seq
(.reg [
.s 36 (.ia 4 (.t 32) (.t 34)),
.s 37 (.ld true 4 (.t 36)),
.s 5 (.alL [(.int .i64 0),(.str []),(.sl 1 nz []),(.sl 4 nz [])]),
.n (.st 4 (.t 5) (.t 37))] [2,3,5,32,33,34])
(.drw [
((.s 38 (.fa 3 (.t 3)),(some 3)),[]),
((.s 39 (.ld false 1 (.t 38)),(some 3)),[]),
((.s 40 (.ld true 4 (.t 5)),(some 5)),[]),
((.s 41 (.call 34 [(.t 40)]),none),[]),
((.s 42 (.bldS 4 1 (.agg [(.int .i64 0),(.str []),(.sl 1 nz []),(.sl 4 nz [])]) [(0,(.t 41))]),none),[]),
((.s 43 (.app true 25 4 72 (.t 39) (.t 42)),none),[]),
((.s 44 (.fa 3 (.t 3)),(some 3)),[]),
((.n (.st 1 (.t 44) (.t 43)),(some 3)),[])] [2,3,32,33,34])))
(.reg [
.s 45 (.bin .add none (.t 34) (.k 1)),
.s 34 (.mv (.t 45))] [2,3,32,33,34]))))
(.trim [2,3,32,33,34]))))))
(.seq
(.reg [
.s 46 (.ld true 4 (.t 3)),
.n (.st 4 (.t 2) (.t 46))] [2])
.ret)))
.skip))
(.seq
(.seq
(.reg [
.s 47 (.fa 2 (.t 1)),
.s 48 (.ld false 1 (.t 47)),
.s 49 (.call 64 [(.t 48)]),
.s 50 (.len (.t 49)),
.s 51 (.mv (.k 0))] [1,2,3,49,50,51])
(.blk 2
(.seq
(.trim [1,2,3,49,50,51])
(.lop
(.seq
(.seq
(.reg [
.s 52 (.bin .lss none (.t 51) (.t 50))] [1,2,3,49,50,51,52])
(.seq
(.cnd (.t 52)
.skip
(.exit 2))
(.seq
(.blk 3
(.seq
(.reg [
.s 53 (.ia 1 (.t 49) (.t 51)),
.s 54 (.ld false 1 (.t 53)),
.s 7 (.mv (.t 54))] [1,2,3,7,49,50,51])
(.seq
(.drw [
((.s 55 (.fa 2 (.t 3)),(some 3)),[]),
((.s 56 (.ld false 1 (.t 55)),(some 3)),[]),
((.s 57 (.fa 2 (.t 1)),(some 1)),[]),
((.s 58 (.ld false 1 (.t 57)),(some 1)),[]),
((.s 59 (.mv (.t 7)),none),[]),
((.s 60 (.ia 1 (.t 58) (.t 59)),none),[]),
((.s 61 (.ld false 1 (.t 60)),none),[]),
((.s 62 (.bldS 1 1 (.str []) [(0,(.t 61))]),none),[]),
((.s 63 (.app false 9 1 16 (.t 56) (.t 62)),none),[]),
((.s 64 (.fa 2 (.t 3)),(some 3)),[]),
((.n (.st 1 (.t 64) (.t 63)),(some 3)),[])] [1,2,3,7,49,50,51])
(.drw [
((.s 65 (.fa 3 (.t 3)),(some 3)),[]),
((.s 66 (.ld false 1 (.t 65)),(some 3)),[]),
((.s 67 (.fa 3 (.t 1)),(some 1)),[]),
((.s 68 (.ld false 1 (.t 67)),(some 1)),[]),
((.s 69 (.mv (.t 7)),none),[]),
((.s 70 (.ia 4 (.t 68) (.t 69)),none),[]),
((.s 71 (.ld true 4 (.t 70)),none),[]),
((.s 72 (.call 34 [(.t 71)]),none),[]),
((.s 73 (.bldS 4 1 (.agg [(.int .i64 0),(.str []),(.sl 1 nz []),(.sl 4 nz [])]) [(0,(.t 72))]),none),[]),
((.s 74 (.app true 25 4 72 (.t 66) (.t 73)),none),[]),
((.s 75 (.fa 3 (.t 3)),(some 3)),[]),
((.n (.st 1 (.t 75) (.t 74)),(some 3)),[])] [1,2,3,49,50,51]))))
(.reg [
.s 76 (.bin .add none (.t 51) (.k 1)),
.s 51 (.mv (.t 76))] [1,2,3,49,50,51]))))
(.trim [1,2,3,49,50,51]))))))
(.seq
(.reg [
.s 77 (.ld true 4 (.t 3)),
.n (.st 4 (.t 2) (.t 77))] [2])
.ret))))),
[.cell 2 true 4]⟩
/-- emend/emendlaw3.refused -/
def F41 : DF := ⟨2,
(.seq
(.reg [
.s 3 (.bxL (.t 1)),
.s 4 (.mv (.c (.bool false)))] [0,3])
(.seq
(.seq
(.reg [
.s 6 (.fa 1 (.t 3)),
.s 7 (.ld false 1 (.t 6)),
.s 8 (.bin .eql (some .int) (.t 7) (.k 0))] [0,3,8])
(.cnd (.t 8)
(.seq
(.reg [
.s 9 (.mv (.t 0)),
.s 10 (.bin .eql (some .ifc) (.t 9) (.c .nilif)),
.s 4 (.mv (.t 10))] [4])
.ret)
.skip))
(.seq
(.reg [
.s 5 (.alH 105 [.nilp])] [0,3,5])
(.seq
(.drw [
((.s 11 (.mv (.t 0)),none),[]),
((.s 12 (.bin .neq (some .ifc) (.t 11) (.c .nilif)),none),[]),
((.s 13 (.mv (.t 12)),none),[]),
((.g 14 (.mv (.t 0)) 13 true,none),[]),
((.g 15 (.mki 107 (.t 5)) 13 true,none),[]),
((.g 16 (.call 74 [(.t 14),(.t 15)]) 13 true,none),[]),
((.s 17 (.pick (.t 13) (.t 16) (.c (.bool false))),none),[]),
((.s 18 (.mv (.t 17)),none),[]),
((.g 19 (.ld false 1 (.t 5)) 18 true,none),[]),
((.g 20 (.bin .neq (some .ptr) (.t 19) (.c .nilp)) 18 true,none),[]),
((.s 21 (.pick (.t 18) (.t 20) (.c (.bool false))),none),[]),
((.s 22 (.mv (.t 21)),none),[]),
((.g 23 (.ld false 1 (.t 5)) 22 true,none),[]),
((.g 24 (.nilc (.t 23)) 22 true,none),[]),
((.g 25 (.fa 0 (.t 24)) 22 true,none),[]),
((.g 26 (.ld true 1 (.t 25)) 22 true,none),[]),
((.g 28 (.fa 0 (.t 3)) 22 true,(some 3)),[]),
((.g 29 (.ld false 1 (.t 28)) 22 true,(some 3)),[]),
((.g 27 (.call 75 [(.t 26)]) 22 true,none),[]),
((.g 30 (.bin .eql (some .int) (.t 27) (.t 29)) 22 true,none),[]),
((.s 31 (.pick (.t 22) (.t 30) (.c (.bool false))),none),[]),
((.s 32 (.mv (.t 31)),none),[]),
((.g 33 (.ld false 1 (.t 5)) 32 true,none),[]),
((.g 34 (.nilc (.t 33)) 32 true,none),[]),
((.g 35 (.fa 1 (.t 34)) 32 true,none),[]),
((.g 36 (.ld false 1 (.t 35)) 32 true,none),[]),
((.g 37 (.fa 1 (.t 3)) 32 true,(some 3)),[]),
((.g 38 (.ld false 1 (.t 37)) 32 true,(some 3)),[]),
((.g 39 (.bin .eql (some .int) (.t 36) (.t 38)) 32 true,none),[]),
((.s 40 (.pick (.t 32) (.t 39) (.c (.bool false))),none),[]),
((.s 41 (.mv (.t 40)),none),[]),
((.g 42 (.mv (.t 0)) 41 true,none),[]),
((.g 43 (.ld false 1 (.t 5)) 41 true,none),[]),
((.g 44 (.nilc (.t 43)) 41 true,none),[]),
((.g 45 (.fa 1 (.t 44)) 41 true,none),[]),
((.g 46 (.ld false 1 (.t 45)) 41 true,none),[]),
((.g 47 (.mki 26 (.t 46)) 41 true,none),[]),
((.g 48 (.call 76 [(.t 42),(.t 47)]) 41 true,none),[]),
((.s 49 (.pick (.t 41) (.t 48) (.c (.bool false))),none),[]),
((.s 4 (.mv (.t 49)),none),[])] [4])
.ret)))),
[.tmp 4]⟩
/-- (*emend/tree.writer).tree -/
def F47 : DF := ⟨2,
(.seq
(.reg [
.s 3 (.bxL (.t 1))] [0,3])
(.seq
(.reg [
.s 12 (.fa 0 (.t 3)),
.s 13 (.ld false 1 (.t 12))] [0,3,13])
(.blk 0
(.seq
(.reg [
.s 15 (.bin .eql (some .int) (.t 13) (.k 1)),
.s 14 (.mv (.t 15))] [0,3,13,14])
(.cnd (.t 14)
(.reg [
.s 16 (.mv (.t 0)),
.s 17 (.call 79 [(.t 16),(.c (.str [110,117,108,108]))])] [])
(.seq
(.seq
(.reg [
.s 19 (.bin .eql (some .int) (.t 13) (.k 2)),
.s 18 (.mv (.t 19))] [0,3,13,18])
(.cnd (.t 18)
.skip
(.reg [
.s 20 (.bin .eql (some .int) (.t 13) (.k 3)),
.s 18 (.mv (.t 20))] [0,3,13,18])))
(.cnd (.t 18)
(.reg [
.s 21 (.mv (.t 0)),
.s 22 (.fa 1 (.t 3)),
.s 23 (.ld false 1 (.t 22)),
.s 24 (.call 79 [(.t 21),(.t 23)])] [])
(.seq
(.reg [
.s 26 (.bin .eql (some .int) (.t 13) (.k 4)),
.s 25 (.mv (.t 26))] [0,3,13,25])
(.cnd (.t 25)
(.seq
(.reg [
.s 28 (.fa 1 (.t 3)),
.s 29 (.ld false 1 (.t 28)),
.s 30 (.call 80 [(.t 29)]),
.s 27 (.mv (.t 30)),
.s 31 (.ext (.t 27) 0),
.s 32 (.ext (.t 27) 1),
.s 4 (.mv (.t 31)),
.s 5 (.mv (.t 32))] [0,4])
(.reg [
.s 33 (.mv (.t 0)),
.s 34 (.mv (.t 4)),
.s 35 (.call 79 [(.t 33),(.t 34)])] []))
(.seq
(.reg [
.s 37 (.bin .eql (some .int) (.t 13) (.k 5)),
.s 36 (.mv (.t 37))] [0,3,13,36])
(.cnd (.t 36)
(.reg [
.s 38 (.mv (.t 0)),
.s 39 (.fa 1 (.t 3)),
.s 40 (.ld false 1 (.t 39)),
.s 41 (.bin .add none (.c (.str [64])) (.t 40)),
.s 42 (.call 79 [(.t 38),(.t 41)])] [])
(.seq
(.reg [
.s 44 (.bin .eql (some .int) (.t 13) (.k 6)),
.s 43 (.mv (.t 44))] [0,3,13,43])
(.cnd (.t 43)
(.seq
(.reg [
.s 45 (.mv (.t 0)),
.s 46 (.call 79 [(.t 45),(.c (.str [91]))])] [0,3])
(.seq
(.seq
(.reg [
.s 47 (.fa 3 (.t 3)),
.s 48 (.ld false 1 (.t 47)),
.s 49 (.len (.t 48)),
.s 50 (.mv (.k 0))] [0,48,49,50])
(.blk 1
(.seq
(.trim [0,48,49,50])
(.lop
(.seq
(.seq
(.reg [
.s 51 (.bin .lss none (.t 50) (.t 49))] [0,48,49,50,51])
(.seq
(.cnd (.t 51)
.skip
(.exit 1))
(.seq
(.blk 2
(.seq
(.reg [
.s 52 (.mv (.t 50)),
.s 53 (.ia 4 (.t 48) (.t 50)),
.s 54 (.ld true 4 (.t 53)),
.s 7 (.alL [(.int .i64 0),(.str []),(.sl 1 nz []),(.sl 4 nz [])]),
.s 6 (.mv (.t 52)),
.n (.st 4 (.t 7) (.t 54))] [0,6,7,48,49,50])
(.seq
(.seq
(.reg [
.s 55 (.mv (.t 6)),
.s 56 (.bin .gtr none (.t 55) (.k 0))] [0,7,48,49,50,56])
(.cnd (.t 56)
(.reg [
.s 57 (.mv (.t 0)),
.s 58 (.call 79 [(.t 57),(.c (.str [44,32]))])] [0,7,48,49,50])
.skip))
(.reg [
.s 59 (.mv (.t 0)),
.s 60 (.ld true 4 (.t 7)),
.s 61 (.call 47 [(.t 59),(.t 60)])] [0,48,49,50]))))
(.reg [
.s 62 (.bin .add none (.t 50) (.k 1)),
.s 50 (.mv (.t 62))] [0,48,49,50]))))
(.trim [0,48,49,50]))))))
(.reg [
.s 63 (.mv (.t 0)),
.s 64 (.call 79 [(.t 63),(.c (.str [93]))])] [])))
(.seq
(.reg [
.s 66 (.bin .eql (some .int) (.t 13) (.k 7)),
.s 65 (.mv (.t 66))] [0,3,65])
(.cnd (.t 65)
(.seq
(.reg [
.s 67 (.mv (.t 0)),
.s 68 (.call 79 [(.t 67),(.c (.str [123]))])] [0,3])
(.seq
(.seq
(.reg [
.s 69 (.fa 2 (.t 3)),
.s 70 (.ld false 1 (.t 69)),
.s 71 (.call 64 [(.t 70)]),
.s 72 (.len (.t 71)),
.s 73 (.mv (.k 0))] [0,3,71,72,73])
(.blk 3
(.seq
(.trim [0,3,71,72,73])
(.lop
(.seq
(.seq
(.reg [
.s 74 (.bin .lss none (.t 73) (.t 72))] [0,3,71,72,73,74])
(.seq
(.cnd (.t 74)
.skip
(.exit 3))
(.seq
(.blk 4
(.seq
(.reg [
.s 75 (.mv (.t 73)),
.s 76 (.ia 1 (.t 71) (.t 73)),
.s 77 (.ld false 1 (.t 76)),
.s 8 (.mv (.t 75)),
.s 9 (.mv (.t 77))] [0,3,8,9,71,72,73])
(.seq
(.seq
(.reg [
.s 78 (.mv (.t 8)),
.s 79 (.bin .gtr none (.t 78) (.k 0))] [0,3,9,71,72,73,79])
(.cnd (.t 79)
(.reg [
.s 80 (.mv (.t 0)),
.s 81 (.call 79 [(.t 80),(.c (.str [44,32]))])] [0,3,9,71,72,73])
.skip))
(.seq
(.reg [
.s 83 (.fa 2 (.t 3)),
.s 84 (.ld false 1 (.t 83)),
.s 85 (.mv (.t 9)),
.s 86 (.ia 1 (.t 84) (.t 85)),
.s 87 (.ld false 1 (.t 86)),
.s 88 (.call 80 [(.t 87)]),
.s 82 (.mv (.t 88)),
.s 89 (.ext (.t 82) 0),
.s 90 (.ext (.t 82) 1),
.s 10 (.mv (.t 89)),
.s 11 (.mv (.t 90))] [0,3,9,10,71,72,73])
(.seq
(.reg [
.s 91 (.mv (.t 0)),
.s 92 (.mv (.t 10)),
.s 93 (.bin .add none (.t 92) (.c (.str [58,32]))),
.s 94 (.call 79 [(.t 91),(.t 93)])] [0,3,9,71,72,73])
(.reg [
.s 95 (.mv (.t 0)),
.s 96 (.fa 3 (.t 3)),
.s 97 (.ld false 1 (.t 96)),
.s 98 (.mv (.t 9)),
.s 99 (.ia 4 (.t 97) (.t 98)),
.s 100 (.ld true 4 (.t 99)),
.s 101 (.call 47 [(.t 95),(.t 100)])] [0,3,71,72,73]))))))
(.reg [
.s 102 (.bin .add none (.t 73) (.k 1)),
.s 73 (.mv (.t 102))] [0,3,71,72,73]))))
(.trim [0,3,71,72,73]))))))
(.reg [
.s 103 (.mv (.t 0)),
.s 104 (.call 79 [(.t 103),(.c (.str [125]))])] [])))
.skip))))))))))))))),
[]⟩
/-- (*strings.Builder).Len -/
def F48 : DF := ⟨1,
(.seq
(.reg [
.s 2 (.mv (.k 0))] [0])
(.seq
(.reg [
.s 3 (.mv (.t 0)),
.s 4 (.nilc (.t 3)),
.s 5 (.fa 1 (.t 4)),
.s 6 (.ld false 1 (.t 5)),
.s 7 (.len (.t 6)),
.s 2 (.mv (.t 7))] [2])
.ret)),
[.tmp 2]⟩
/-- (*strings.Builder).String -/
def F49 : DF := ⟨1,
(.seq
(.reg [
.s 2 (.mv (.c (.str [])))] [0])
(.seq
(.drw [
((.s 3 (.mv (.t 0)),none),[]),
((.s 4 (.nilc (.t 3)),none),[]),
((.s 5 (.fa 1 (.t 4)),none),[]),
((.s 6 (.ld false 1 (.t 5)),none),[]),
((.s 7 (.usd (.t 6)),none),[]),
((.s 8 (.mv (.t 0)),none),[]),
((.s 9 (.nilc (.t 8)),none),[]),
((.s 10 (.fa 1 (.t 9)),none),[]),
((.s 11 (.ld false 1 (.t 10)),none),[]),
((.s 12 (.len (.t 11)),none),[]),
((.s 13 (.ustr 5 (.t 7) (.t 12)),none),[]),
((.s 2 (.mv (.t 13)),none),[])] [2])
.ret)),
[.tmp 2]⟩
/-- emend/tree.formed -/
def F50 : DF := ⟨1,
(.seq
(.reg [
.s 1 (.bxL (.t 0)),
.s 2 (.mv (.c (.bool false)))] [1])
(.seq
(.seq
(.reg [
.s 8 (.fa 3 (.t 1)),
.s 9 (.ld false 1 (.t 8)),
.s 10 (.len (.t 9)),
.s 11 (.mv (.k 0))] [1,9,10,11])
(.blk 0
(.seq
(.trim [1,9,10,11])
(.lop
(.seq
(.seq
(.reg [
.s 12 (.bin .lss none (.t 11) (.t 10))] [1,9,10,11,12])
(.seq
(.cnd (.t 12)
.skip
(.exit 0))
(.seq
(.blk 1
(.seq
(.reg [
.s 13 (.ia 4 (.t 9) (.t 11)),
.s 14 (.ld true 4 (.t 13)),
.s 4 (.alL [(.int .i64 0),(.str []),(.sl 1 nz []),(.sl 4 nz [])]),
.n (.st 4 (.t 4) (.t 14))] [1,4,9,10,11])
(.seq
(.reg [
.s 15 (.ld true 4 (.t 4)),
.s 16 (.call 50 [(.t 15)]),
.s 17 (.un .not (.t 16))] [1,9,10,11,17])
(.cnd (.t 17)
(.seq
(.reg [
.s 2 (.mv (.c (.bool false)))] [2])
.ret)
.skip))))
(.reg [
.s 18 (.bin .add none (.t 11) (.k 1)),
.s 11 (.mv (.t 18))] [1,9,10,11]))))
(.trim [1,9,10,11]))))))
(.seq
(.reg [
.s 19 (.fa 2 (.t 1)),
.s 20 (.ld false 1 (.t 19)),
.s 21 (.len (.t 20)),
.s 22 (.bin .eql (some .int) (.t 21) (.k 0)),
.s 23 (.mv (.t 22)),
.g 24 (.fa 3 (.t 1)) 23 true,
.g 25 (.ld false 1 (.t 24)) 23 true,
.g 26 (.len (.t 25)) 23 true,
.g 27 (.bin .eql (some .int) (.t 26) (.k 0)) 23 true,
.s 28 (.pick (.t 23) (.t 27) (.c (.bool false))),
.s 5 (.mv (.t 28))] [1,5])
(.seq
(.seq
(.reg [
.s 29 (.fa 0 (.t 1)),
.s 30 (.ld false 1 (.t 29))] [1,5,30])
(.blk 2
(.seq
(.reg [
.s 32 (.bin .eql (some .int) (.t 30) (.k 1)),
.s 31 (.mv (.t 32))] [1,5,30,31])
(.cnd (.t 31)
(.seq
(.reg [
.s 33 (.mv (.t 5)),
.s 34 (.mv (.t 33)),
.g 35 (.fa 1 (.t 1)) 34 true,
.g 36 (.ld false 1 (.t 35)) 34 true,
.g 37 (.bin .eql (some .str) (.t 36) (.c (.str []))) 34 true,
.s 38 (.pick (.t 34) (.t 37) (.c (.bool false))),
.s 2 (.mv (.t 38))] [2])
.ret)
(.seq
(.reg [
.s 40 (.bin .eql (some .int) (.t 30) (.k 2)),
.s 39 (.mv (.t 40))] [1,5,30,39])
(.cnd (.t 39)
(.seq
(.reg [
.s 41 (.mv (.t 5)),
.s 42 (.mv (.t 41)),
.g 43 (.fa 1 (.t 1)) 42 true,
.g 44 (.ld false 1 (.t 43)) 42 true,
.g 45 (.bin .eql (some .str) (.t 44) (.c (.str [116,114,117,101]))) 42 true,
.g 46 (.mv (.t 45)) 42 true,
.g 47 (.fa 1 (.t 1)) 46 false,
.g 48 (.ld false 1 (.t 47)) 46 false,
.g 49 (.bin .eql (some .str) (.t 48) (.c (.str [102,97,108,115,101]))) 46 false,
.g 50 (.pick (.t 46) (.c (.bool true)) (.t 49)) 42 true,
.s 51 (.pick (.t 42) (.t 50) (.c (.bool false))),
.s 2 (.mv (.t 51))] [2])
.ret)
(.seq
(.reg [
.s 53 (.bin .eql (some .int) (.t 30) (.k 3)),
.s 52 (.mv (.t 53))] [1,5,30,52])
(.cnd (.t 52)
(.seq
(.reg [
.s 55 (.fa 1 (.t 1)),
.s 56 (.ld false 1 (.t 55)),
.s 57 (.call 81 [(.t 56)]),
.s 54 (.mv (.t 57)),
.s 58 (.ext (.t 54) 0),
.s 59 (.ext (.t 54) 1),
.s 6 (.mv (.t 58)),
.s 7 (.mv (.t 59))] [1,5,6,7])
(.seq
(.reg [
.s 60 (.mv (.t 5)),
.s 61 (.mv (.t 60)),
.g 62 (.mv (.t 7)) 61 true,
.g 63 (.bin .eql (some .int) (.t 62) (.k 0)) 61 true,
.s 64 (.pick (.t 61) (.t 63) (.c (.bool false))),
.s 65 (.mv (.t 64)),
.g 66 (.mv (.t 6)) 65 true,
.g 67 (.fa 1 (.t 1)) 65 true,
.g 68 (.ld false 1 (.t 67)) 65 true,
.g 69 (.bin .eql (some .str) (.t 66) (.t 68)) 65 true,
.s 70 (.pick (.t 65) (.t 69) (.c (.bool false))),
.s 2 (.mv (.t 70))] [2])
.ret))
(.seq
(.reg [
.s 72 (.bin .eql (some .int) (.t 30) (.k 4)),
.s 71 (.mv (.t 72))] [1,5,30,71])
(.cnd (.t 71)
(.seq
(.reg [
.s 73 (.mv (.t 5)),
.s 74 (.mv (.t 73)),
.g 75 (.fa 1 (.t 1)) 74 true,
.g 76 (.ld false 1 (.t 75)) 74 true,
.g 77 (.call 82 [(.t 76)]) 74 true,
.s 78 (.pick (.t 74) (.t 77) (.c (.bool false))),
.s 2 (.mv (.t 78))] [2])
.ret)
(.seq
(.reg [
.s 80 (.bin .eql (some .int) (.t 30) (.k 5)),
.s 79 (.mv (.t 80))] [1,5,30,79])
(.cnd (.t 79)
(.seq
(.reg [
.s 81 (.mv (.t 5)),
.s 82 (.mv (.t 81)),
.g 83 (.fa 1 (.t 1)) 82 true,
.g 84 (.ld false 1 (.t 83)) 82 true,
.g 85 (.call 83 [(.t 84)]) 82 true,
.s 86 (.pick (.t 82) (.t 85) (.c (.bool false))),
.s 2 (.mv (.t 86))] [2])
.ret)
(.seq
(.reg [
.s 88 (.bin .eql (some .int) (.t 30) (.k 6)),
.s 87 (.mv (.t 88))] [1,30,87])
(.cnd (.t 87)
(.seq
(.reg [
.s 89 (.fa 1 (.t 1)),
.s 90 (.ld false 1 (.t 89)),
.s 91 (.bin .eql (some .str) (.t 90) (.c (.str []))),
.s 92 (.mv (.t 91)),
.g 93 (.fa 2 (.t 1)) 92 true,
.g 94 (.ld false 1 (.t 93)) 92 true,
.g 95 (.len (.t 94)) 92 true,
.g 96 (.bin .eql (some .int) (.t 95) (.k 0)) 92 true,
.s 97 (.pick (.t 92) (.t 96) (.c (.bool false))),
.s 2 (.mv (.t 97))] [2])
.ret)
(.seq
(.reg [
.s 99 (.bin .eql (some .int) (.t 30) (.k 7)),
.s 98 (.mv (.t 99))] [1,98])
(.cnd (.t 98)
(.seq
(.reg [
.s 100 (.fa 1 (.t 1)),
.s 101 (.ld false 1 (.t 100)),
.s 102 (.bin .eql (some .str) (.t 101) (.c (.str []))),
.s 103 (.mv (.t 102)),
.g 104 (.fa 2 (.t 1)) 103 true,
.g 105 (.ld false 1 (.t 104)) 103 true,
.g 106 (.len (.t 105)) 103 true,
.g 107 (.fa 3 (.t 1)) 103 true,
.g 108 (.ld false 1 (.t 107)) 103 true,
.g 109 (.len (.t 108)) 103 true,
.g 110 (.bin .eql (some .int) (.t 106) (.t 109)) 103 true,
.s 111 (.pick (.t 103) (.t 110) (.c (.bool false))),
.s 112 (.mv (.t 111)),
.g 113 (.fa 2 (.t 1)) 112 true,
.g 114 (.ld false 1 (.t 113)) 112 true,
.g 115 (.call 84 [(.t 114)]) 112 true,
.s 116 (.pick (.t 112) (.t 115) (.c (.bool false))),
.s 2 (.mv (.t 116))] [2])
.ret)
.skip))))))))))))))))
(.seq
(.reg [
.s 2 (.mv (.c (.bool false)))] [2])
.ret))))),
[.tmp 2]⟩
/-- emend/tree.Read -/
def F51 : DD := ⟨2,
(.seq
(.reg [
.s 4 (.alH 32 [.nilif])] [0,1,4])
(.seq
(.reg [
.s 6 (.mv (.t 0)),
.s 7 (.lenS (.t 6)),
.s 8 (.bin .gtr none (.t 7) (.k 65536))] [0,1,4,8])
(.seq
(.cnd (.t 8)
(.seq
(.reg [
.s 9 (.call 85 [(.k 0),(.k 2)]),
.s 10 (.mki 105 (.t 9)),
.n (.st 1 (.t 4) (.t 10))] [4])
.ret)
.skip)
(.seq
(.reg [
.s 11 (.mv (.t 0)),
.s 12 (.call 86 [(.t 11)]),
.s 5 (.mv (.t 12))] [0,1,4,5])
(.seq
(.reg [
.s 13 (.mv (.t 5)),
.s 14 (.bin .geq none (.t 13) (.k 0))] [0,1,4,5,14])
(.seq
(.cnd (.t 14)
(.seq
(.reg [
.s 15 (.mv (.t 5)),
.s 16 (.call 85 [(.t 15),(.k 10)]),
.s 17 (.mki 105 (.t 16)),
.n (.st 1 (.t 4) (.t 17))] [4])
.ret)
.skip)
.skip)))))),
[.s 18 (.mkf 87 [] [(.t 4)])],18,[0,1,4],
(.seq
(.reg [
.s 19 (.mv (.t 1)),
.s 20 (.mv (.t 0)),
.s 21 (.bld [(.str []),(.int .i64 0),(.int .i64 0)] [(0,1,(.t 20))]),
.s 22 (.bxH 88 (.t 21)),
.s 23 (.callv (.t 19) [(.t 22)])] [4])
(.seq
(.reg [
.n (.st 1 (.t 4) (.c .nilif))] [4])
(.seq
.ret
.skip))),
[.cell 4 false 1],[4]⟩
/-- emend/tree.Parse$1 -/
def F52 : DF := ⟨3,
(.seq
(.reg [
.s 5 (.mv (.t 0)),
.s 6 (.bld [.nilp] [(0,1,(.t 5))]),
.s 4 (.alL [.nilp]),
.n (.st 1 (.t 4) (.t 6))] [1,2,4])
(.seq
(.reg [
.s 7 (.ld true 1 (.t 4)),
.s 8 (.call 53 [(.t 7)])] [1,2,4])
(.seq
(.reg [
.s 9 (.ld true 1 (.t 4)),
.s 10 (.call 54 [(.t 9),(.k 1)]),
.n (.st 4 (.t 1) (.t 10))] [2,4])
(.seq
(.reg [
.s 11 (.ld true 1 (.t 4)),
.s 12 (.call 53 [(.t 11)])] [2,4])
(.seq
(.drw [
((.s 13 (.fa 0 (.t 4)),(some 4)),[]),
((.s 14 (.ld false 1 (.t 13)),(some 4)),[]),
((.s 15 (.nilc (.t 14)),none),[]),
((.s 16 (.fa 1 (.t 15)),none),[]),
((.s 17 (.ld false 1 (.t 16)),none),[]),
((.s 18 (.ld false 1 (.t 2)),none),[]),
((.s 19 (.lenS (.t 18)),none),[]),
((.s 20 (.bin .lss none (.t 17) (.t 19)),none),[])] [4,20])
(.cnd (.t 20)
(.reg [
.s 21 (.fa 0 (.t 4)),
.s 22 (.ld false 1 (.t 21)),
.s 23 (.call 55 [(.t 22)])] [])
.skip)))))),
[]⟩
/-- (emend/tree.parser).blanks -/
def F53 : DF := ⟨1,
(.seq
(.reg [
.s 1 (.bxL (.t 0))] [1])
(.reg [
.s 2 (.fa 0 (.t 1)),
.s 3 (.ld false 1 (.t 2)),
.s 4 (.call 88 [(.t 3),(.f 89)])] [])),
[]⟩
/-- (emend/tree.parser).tree -/
def F54 : DF := ⟨2,
(.seq
(.reg [
.s 2 (.bxL (.t 0)),
.s 4 (.alL [(.int .i64 0),(.str []),(.sl 1 nz []),(.sl 4 nz [])])] [1,2,4])
(.seq
(.reg [
.s 8 (.fa 0 (.t 2)),
.s 9 (.ld false 1 (.t 8)),
.s 10 (.nilc (.t 9)),
.s 11 (.fa 1 (.t 10)),
.s 12 (.ld false 1 (.t 11)),
.s 5 (.mv (.t 12))] [1,2,4,5])
(.seq
(.blk 0
(.seq
(.reg [
.s 14 (.fa 0 (.t 2)),
.s 15 (.ld false 1 (.t 14)),
.s 16 (.call 90 [(.t 15),(.c (.int .u8 34))]),
.s 13 (.mv (.t 16))] [1,2,4,5,13])
(.cnd (.t 13)
(.seq
(.reg [
.s 17 (.fa 0 (.t 2)),
.s 18 (.ld false 1 (.t 17)),
.s 19 (.mv (.t 5)),
.s 20 (.mv (.t 1)),
.s 21 (.call 91 [(.t 18),(.t 19),(.t 20),(.k 1)])] [2,4])
(.seq
(.reg [
.s 22 (.fa 0 (.t 2)),
.s 23 (.ld false 1 (.t 22)),
.s 24 (.call 92 [(.t 23)]),
.s 25 (.bld [(.int .i64 0),(.str []),(.sl 1 nz []),(.sl 4 nz [])] [(0,1,(.k 4)),(1,1,(.t 24))]),
.n (.st 4 (.t 4) (.t 25))] [4])
.ret))
(.seq
(.reg [
.s 27 (.fa 0 (.t 2)),
.s 28 (.ld false 1 (.t 27)),
.s 29 (.call 90 [(.t 28),(.c (.int .u8 91))]),
.s 26 (.mv (.t 29))] [1,2,4,5,26])
(.cnd (.t 26)
(.seq
(.reg [
.s 30 (.fa 0 (.t 2)),
.s 31 (.ld false 1 (.t 30)),
.s 32 (.mv (.t 5)),
.s 33 (.mv (.t 1)),
.s 34 (.call 91 [(.t 31),(.t 32),(.t 33),(.k 1)])] [1,2,4])
(.seq
(.reg [
.s 35 (.ld true 1 (.t 2)),
.s 36 (.mv (.t 1)),
.s 37 (.call 93 [(.t 35),(.t 36)]),
.n (.st 4 (.t 4) (.t 37))] [4])
.ret))
(.seq
(.reg [
.s 39 (.fa 0 (.t 2)),
.s 40 (.ld false 1 (.t 39)),
.s 41 (.call 90 [(.t 40),(.c (.int .u8 123))]),
.s 38 (.mv (.t 41))] [1,2,4,5,38])
(.cnd (.t 38)
(.seq
(.reg [
.s 42 (.fa 0 (.t 2)),
.s 43 (.ld false 1 (.t 42)),
.s 44 (.mv (.t 5)),
.s 45 (.mv (.t 1)),
.s 46 (.call 91 [(.t 43),(.t 44),(.t 45),(.k 1)])] [1,2,4])
(.seq
(.reg [
.s 47 (.ld true 1 (.t 2)),
.s 48 (.mv (.t 1)),
.s 49 (.call 94 [(.t 47),(.t 48)]),
.n (.st 4 (.t 4) (.t 49))] [4])
.ret))
(.seq
(.reg [
.s 51 (.fa 0 (.t 2)),
.s 52 (.ld false 1 (.t 51)),
.s 53 (.call 90 [(.t 52),(.c (.int .u8 64))]),
.s 50 (.mv (.t 53))] [1,2,4,5,50])
(.cnd (.t 50)
(.seq
(.reg [
.s 54 (.fa 0 (.t 2)),
.s 55 (.ld false 1 (.t 54)),
.s 56 (.nilc (.t 55)),
.s 57 (.fa 1 (.t 56)),
.s 58 (.ld false 1 (.t 57)),
.s 59 (.bin .add none (.t 58) (.k 1)),
.s 60 (.nilc (.t 55)),
.s 61 (.fa 1 (.t 60)),
.n (.st 1 (.t 61) (.t 59))] [1,2,4,5])
(.seq
(.reg [
.s 62 (.fa 0 (.t 2)),
.s 63 (.ld false 1 (.t 62)),
.s 64 (.call 88 [(.t 63),(.f 95)]),
.s 6 (.mv (.t 64))] [1,2,4,5,6])
(.seq
(.seq
(.reg [
.s 65 (.mv (.t 6)),
.s 66 (.call 83 [(.t 65)]),
.s 67 (.un .not (.t 66))] [1,2,4,5,6,67])
(.cnd (.t 67)
(.reg [
.s 68 (.mv (.t 5)),
.s 69 (.call 97 [(.t 68),(.k 20)])] [1,2,4,5,6])
.skip))
(.seq
(.reg [
.s 70 (.fa 0 (.t 2)),
.s 71 (.ld false 1 (.t 70)),
.s 72 (.mv (.t 5)),
.s 73 (.mv (.t 1)),
.s 74 (.call 91 [(.t 71),(.t 72),(.t 73),(.k 1)])] [4,6])
(.seq
(.reg [
.s 75 (.mv (.t 6)),
.s 76 (.bld [(.int .i64 0),(.str []),(.sl 1 nz []),(.sl 4 nz [])] [(0,1,(.k 5)),(1,1,(.t 75))]),
.n (.st 4 (.t 4) (.t 76))] [4])
.ret)))))
.skip)))))))))
(.seq
(.reg [
.s 77 (.fa 0 (.t 2)),
.s 78 (.ld false 1 (.t 77)),
.s 79 (.call 98 [(.t 78)]),
.s 7 (.alL [(.int .i64 0),(.str []),(.sl 1 nz []),(.sl 4 nz [])]),
.n (.st 4 (.t 7) (.t 79))] [1,2,4,5,7])
(.seq
(.reg [
.s 80 (.fa 0 (.t 2)),
.s 81 (.ld false 1 (.t 80)),
.s 82 (.mv (.t 5)),
.s 83 (.mv (.t 1)),
.s 84 (.call 91 [(.t 81),(.t 82),(.t 83),(.k 1)])] [4,7])
(.seq
(.reg [
.s 85 (.ld true 4 (.t 7)),
.n (.st 4 (.t 4) (.t 85))] [4])
.ret)))))),
[.cell 4 true 4]⟩
/-- (*emend/tree.Place).Bad -/
def F55 : DF := ⟨1,
(.seq
(.seq
(.drw [
((.s 2 (.mv (.t 0)),none),[]),
((.s 3 (.nilc (.t 2)),none),[]),
((.s 4 (.fa 1 (.t 3)),none),[]),
((.s 5 (.ld false 1 (.t 4)),none),[]),
((.s 6 (.mv (.t 0)),none),[]),
((.s 7 (.nilc (.t 6)),none),[]),
((.s 8 (.fa 0 (.t 7)),none),[]),
((.s 9 (.ld false 1 (.t 8)),none),[]),
((.s 10 (.lenS (.t 9)),none),[]),
((.s 11 (.bin .geq none (.t 5) (.t 10)),none),[])] [0,11])
(.cnd (.t 11)
(.reg [
.s 12 (.mv (.t 0)),
.s 13 (.nilc (.t 12)),
.s 14 (.fa 0 (.t 13)),
.s 15 (.ld false 1 (.t 14)),
.s 16 (.lenS (.t 15)),
.s 17 (.call 97 [(.t 16),(.k 14)])] [0])
.skip))
(.reg [
.s 18 (.mv (.t 0)),
.s 19 (.nilc (.t 18)),
.s 20 (.fa 1 (.t 19)),
.s 21 (.ld false 1 (.t 20)),
.s 22 (.call 97 [(.t 21),(.k 13)])] [])),
[]⟩
/-- emend/tree.part -/
def F56 : DF := ⟨2,
(.seq
(.reg [
.s 2 (.bxL (.t 0)),
.s 3 (.bxL (.t 1)),
.s 4 (.mv (.k 0))] [2,3])
(.seq
(.seq
(.reg [
.s 6 (.fa 0 (.t 2)),
.s 7 (.ld false 1 (.t 6))] [2,3,7])
(.blk 0
(.seq
(.reg [
.s 9 (.bin .eql (some .int) (.t 7) (.k 6)),
.s 8 (.mv (.t 9))] [2,3,7,8])
(.cnd (.t 8)
(.seq
(.reg [
.s 10 (.fa 0 (.t 3)),
.s 11 (.ld false 1 (.t 10)),
.s 12 (.bin .eql (some .str) (.t 11) (.c (.str []))),
.s 13 (.mv (.t 12)),
.g 14 (.fa 1 (.t 3)) 13 true,
.g 15 (.ld false 1 (.t 14)) 13 true,
.g 16 (.bin .geq none (.t 15) (.k 0)) 13 true,
.s 17 (.pick (.t 13) (.t 16) (.c (.bool false))),
.s 18 (.mv (.t 17)),
.g 19 (.fa 1 (.t 3)) 18 true,
.g 20 (.ld false 1 (.t 19)) 18 true,
.g 21 (.fa 3 (.t 2)) 18 true,
.g 22 (.ld false 1 (.t 21)) 18 true,
.g 23 (.len (.t 22)) 18 true,
.g 24 (.bin .lss none (.t 20) (.t 23)) 18 true,
.s 25 (.pick (.t 18) (.t 24) (.c (.bool false)))] [3,25])
(.cnd (.t 25)
(.seq
(.reg [
.s 26 (.fa 1 (.t 3)),
.s 27 (.ld false 1 (.t 26)),
.s 4 (.mv (.t 27))] [4])
.ret)
.skip))
(.seq
(.reg [
.s 29 (.bin .eql (some .int) (.t 7) (.k 7)),
.s 28 (.mv (.t 29))] [2,3,28])
(.cnd (.t 28)
(.seq
(.reg [
.s 30 (.fa 2 (.t 2)),
.s 31 (.ld false 1 (.t 30)),
.s 32 (.fa 0 (.t 3)),
.s 33 (.ld false 1 (.t 32)),
.s 34 (.call 99 [(.t 31),(.t 33)]),
.s 5 (.mv (.t 34))] [2,3,5])
(.seq
(.reg [
.s 35 (.ld true 2 (.t 3)),
.s 36 (.fa 0 (.t 3)),
.s 37 (.ld false 1 (.t 36)),
.s 38 (.bld [(.str []),(.int .i64 0)] [(0,1,(.t 37))]),
.s 39 (.bin .eql (some (.st [(0,.str),(1,.int)])) (.t 35) (.t 38)),
.s 40 (.mv (.t 39)),
.g 41 (.mv (.t 5)) 40 true,
.g 42 (.fa 3 (.t 2)) 40 true,
.g 43 (.ld false 1 (.t 42)) 40 true,
.g 44 (.len (.t 43)) 40 true,
.g 45 (.bin .lss none (.t 41) (.t 44)) 40 true,
.s 46 (.pick (.t 40) (.t 45) (.c (.bool false)))] [5,46])
(.cnd (.t 46)
(.seq
(.reg [
.s 47 (.mv (.t 5)),
.s 4 (.mv (.t 47))] [4])
.ret)
.skip)))
.skip))))))
(.seq
(.reg [
.s 4 (.mv (.k (-1)))] [4])
.ret))),
[.tmp 4]⟩
/-- emend/tree.set -/
def F57 : DF := ⟨3,
(.seq
(.reg [
.s 3 (.bxL (.t 0)),
.s 4 (.bxL (.t 1)),
.s 6 (.alL [(.int .i64 0),(.str []),(.sl 1 nz []),(.sl 4 nz [])]),
.s 7 (.mv (.c (.bool false)))] [2,3,4,6])
(.seq
(.seq
(.reg [
.s 14 (.mv (.t 2)),
.s 15 (.len (.t 14)),
.s 16 (.bin .eql (some .int) (.t 15) (.k 0))] [2,3,4,6,16])
(.cnd (.t 16)
(.seq
(.reg [
.s 17 (.ld true 4 (.t 4)),
.s 18 (.call 31 [(.t 17)]),
.n (.st 4 (.t 6) (.t 18)),
.s 7 (.mv (.c (.bool true)))] [6,7])
.ret)
.skip))
(.seq
(.drw [
((.s 19 (.ld true 4 (.t 3)),(some 3)),[]),
((.s 20 (.mv (.t 2)),none),[]),
((.s 21 (.ia 2 (.t 20) (.k 0)),none),[]),
((.s 22 (.ld true 2 (.t 21)),none),[]),
((.s 23 (.call 56 [(.t 19),(.t 22)]),none),[]),
((.s 8 (.mv (.t 23)),none),[])] [2,3,4,6,8])
(.seq
(.seq
(.reg [
.s 24 (.mv (.t 8)),
.s 25 (.bin .lss none (.t 24) (.k 0))] [2,3,4,6,8,25])
(.cnd (.t 25)
(.seq
(.reg [
.s 26 (.bld [(.int .i64 0),(.str []),(.sl 1 nz []),(.sl 4 nz [])] []),
.n (.st 4 (.t 6) (.t 26)),
.s 7 (.mv (.c (.bool false)))] [6,7])
.ret)
.skip))
(.seq
(.drw [
((.s 28 (.fa 3 (.t 3)),(some 3)),[]),
((.s 29 (.ld false 1 (.t 28)),(some 3)),[]),
((.s 30 (.mv (.t 8)),none),[]),
((.s 31 (.ia 4 (.t 29) (.t 30)),none),[]),
((.s 32 (.ld true 4 (.t 31)),none),[]),
((.s 33 (.ld true 4 (.t 4)),(some 4)),[]),
((.s 34 (.mv (.t 2)),none),[]),
((.s 35 (.slA 2 (.t 34) (some (.k 1)) none none),none),[]),
((.s 9 (.alL [(.int .i64 0),(.str []),(.sl 1 nz []),(.sl 4 nz [])]),none),[]),
((.s 36 (.call 57 [(.t 32),(.t 33),(.t 35)]),none),[]),
((.s 27 (.mv (.t 36)),none),[]),
((.s 37 (.ext (.t 27) 0),none),[]),
((.s 38 (.ext (.t 27) 1),none),[]),
((.n (.st 4 (.t 9) (.t 37)),(some 9)),[]),
((.s 10 (.mv (.t 38)),none),[])] [3,6,8,9,10])
(.seq
(.seq
(.reg [
.s 39 (.mv (.t 10)),
.s 40 (.un .not (.t 39))] [3,6,8,9,40])
(.cnd (.t 40)
(.seq
(.reg [
.s 41 (.bld [(.int .i64 0),(.str []),(.sl 1 nz []),(.sl 4 nz [])] []),
.n (.st 4 (.t 6) (.t 41)),
.s 7 (.mv (.c (.bool false)))] [6,7])
.ret)
.skip))
(.seq
(.reg [
.s 42 (.fa 0 (.t 3)),
.s 43 (.ld false 1 (.t 42)),
.s 44 (.fa 1 (.t 3)),
.s 45 (.ld false 1 (.t 44)),
.s 46 (.bld [(.int .i64 0),(.str []),(.sl 1 nz []),(.sl 4 nz [])] [(0,1,(.t 43)),(1,1,(.t 45))]),
.s 11 (.alL [(.int .i64 0),(.str []),(.sl 1 nz []),(.sl 4 nz [])]),
.n (.st 4 (.t 11) (.t 46))] [3,6,8,9,11])
(.seq
(.reg [
.s 47 (.fa 2 (.t 11)),
.s 48 (.ld false 1 (.t 47)),
.s 49 (.fa 2 (.t 3)),
.s 50 (.ld false 1 (.t 49)),
.s 51 (.app false 9 1 16 (.t 48) (.t 50)),
.s 52 (.fa 2 (.t 11)),
.n (.st 1 (.t 52) (.t 51))] [3,6,8,9,11])
(.seq
(.seq
(.reg [
.s 53 (.fa 3 (.t 3)),
.s 54 (.ld false 1 (.t 53)),
.s 55 (.len (.t 54)),
.s 56 (.mv (.k 0))] [6,8,9,11,54,55,56])
(.blk 0
(.seq
(.trim [6,8,9,11,54,55,56])
(.lop
(.seq
(.seq
(.reg [
.s 57 (.bin .lss none (.t 56) (.t 55))] [6,8,9,11,54,55,56,57])
(.seq
(.cnd (.t 57)
.skip
(.exit 0))
(.seq
(.blk 1
(.seq
(.reg [
.s 58 (.mv (.t 56)),
.s 59 (.ia 4 (.t 54) (.t 56)),
.s 60 (.ld true 4 (.t 59)),
.s 13 (.alL [(.int .i64 0),(.str []),(.sl 1 nz []),(.sl 4 nz [])]),
.s 12 (.mv (.t 58)),
.n (.st 4 (.t 13) (.t 60))] [6,8,9,11,12,13,54,55,56])
(.seq
(.reg [
.s 61 (.mv (.t 12)),
.s 62 (.mv (.t 8)),
.s 63 (.bin .eql (some .int) (.t 61) (.t 62))] [6,8,9,11,13,54,55,56,63])
(.cnd (.t 63)
(.reg [
.s 64 (.fa 3 (.t 11)),
.s 65 (.ld false 1 (.t 64)),
.s 66 (.ld true 4 (.t 9)),
.s 67 (.bldT 25 4 1 (.agg [(.int .i64 0),(.str []),(.sl 1 nz []),(.sl 4 nz [])]) [(0,(.t 66))]),
.s 68 (.app true 25 4 72 (.t 65) (.t 67)),
.s 69 (.fa 3 (.t 11)),
.n (.st 1 (.t 69) (.t 68))] [6,8,9,11,54,55,56])
(.drw [
((.s 70 (.fa 3 (.t 11)),(some 11)),[]),
((.s 71 (.ld false 1 (.t 70)),(some 11)),[]),
((.s 72 (.ld true 4 (.t 13)),(some 13)),[]),
((.s 73 (.call 31 [(.t 72)]),none),[]),
((.s 74 (.bldS 4 1 (.agg [(.int .i64 0),(.str []),(.sl 1 nz []),(.sl 4 nz [])]) [(0,(.t 73))]),none),[]),
((.s 75 (.app true 25 4 72 (.t 71) (.t 74)),none),[]),
((.s 76 (.fa 3 (.t 11)),(some 11)),[]),
((.n (.st 1 (.t 76) (.t 75)),(some 11)),[])] [6,8,9,11,54,55,56])))))
(.reg [
.s 77 (.bin .add none (.t 56) (.k 1)),
.s 56 (.mv (.t 77))] [6,8,9,11,54,55,56]))))
(.trim [6,8,9,11,54,55,56]))))))
(.seq
(.reg [
.s 78 (.ld true 4 (.t 11)),
.n (.st 4 (.t 6) (.t 78)),
.s 7 (.mv (.c (.bool true)))] [6,7])
.ret)))))))))),
[.cell 6 true 4,.tmp 7]⟩
/-- emend/tree.identical -/
def F58 : DF := ⟨2,
(.seq
(.reg [
.s 2 (.bxL (.t 0)),
.s 3 (.bxL (.t 1)),
.s 4 (.mv (.c (.bool false)))] [2,3])
(.seq
(.reg [
.s 5 (.fa 0 (.t 2)),
.s 6 (.ld false 1 (.t 5)),
.s 7 (.fa 0 (.t 3)),
.s 8 (.ld false 1 (.t 7)),
.s 9 (.bin .eql (some .int) (.t 6) (.t 8)),
.s 10 (.mv (.t 9)),
.g 11 (.fa 1 (.t 2)) 10 true,
.g 12 (.ld false 1 (.t 11)) 10 true,
.g 13 (.fa 1 (.t 3)) 10 true,
.g 14 (.ld false 1 (.t 13)) 10 true,
.g 15 (.bin .eql (some .str) (.t 12) (.t 14)) 10 true,
.s 16 (.pick (.t 10) (.t 15) (.c (.bool false))),
.s 17 (.mv (.t 16)),
.g 18 (.fa 2 (.t 2)) 17 true,
.g 19 (.ld false 1 (.t 18)) 17 true,
.g 20 (.fa 2 (.t 3)) 17 true,
.g 21 (.ld false 1 (.t 20)) 17 true,
.g 22 (.call 100 [(.t 19),(.t 21)]) 17 true,
.s 23 (.pick (.t 17) (.t 22) (.c (.bool false))),
.s 24 (.mv (.t 23)),
.g 25 (.fa 3 (.t 2)) 24 true,
.g 26 (.ld false 1 (.t 25)) 24 true,
.g 27 (.fa 3 (.t 3)) 24 true,
.g 28 (.ld false 1 (.t 27)) 24 true,
.g 29 (.call 101 [(.t 26),(.t 28),(.f 58)]) 24 true,
.s 30 (.pick (.t 24) (.t 29) (.c (.bool false))),
.s 4 (.mv (.t 30))] [4])
.ret)),
[.tmp 4]⟩
/-- emend/tree.compare -/
def F59 : DF := ⟨2,
(.seq
(.reg [
.s 2 (.bxL (.t 0)),
.s 3 (.bxL (.t 1)),
.s 4 (.mv (.k 0))] [2,3])
(.seq
(.seq
(.reg [
.s 11 (.fa 0 (.t 2)),
.s 12 (.ld false 1 (.t 11)),
.s 13 (.fa 0 (.t 3)),
.s 14 (.ld false 1 (.t 13)),
.s 15 (.bin .neq (some .int) (.t 12) (.t 14))] [2,3,15])
(.cnd (.t 15)
(.seq
(.reg [
.s 16 (.fa 0 (.t 2)),
.s 17 (.ld false 1 (.t 16)),
.s 18 (.fa 0 (.t 3)),
.s 19 (.ld false 1 (.t 18)),
.s 20 (.bin .sub none (.t 17) (.t 19)),
.s 21 (.call 102 [(.t 20)]),
.s 4 (.mv (.t 21))] [4])
.ret)
.skip))
(.seq
(.seq
(.reg [
.s 22 (.fa 0 (.t 2)),
.s 23 (.ld false 1 (.t 22)),
.s 24 (.bin .eql (some .int) (.t 23) (.k 3))] [2,3,24])
(.cnd (.t 24)
(.seq
(.reg [
.s 26 (.fa 1 (.t 2)),
.s 27 (.ld false 1 (.t 26)),
.s 28 (.fa 1 (.t 3)),
.s 29 (.ld false 1 (.t 28)),
.s 30 (.call 103 [(.t 27),(.t 29)]),
.s 25 (.mv (.t 30)),
.s 31 (.ext (.t 25) 0),
.s 32 (.ext (.t 25) 1),
.s 5 (.mv (.t 31)),
.s 6 (.mv (.t 32))] [2,3,5,6])
(.seq
(.reg [
.s 33 (.mv (.t 6)),
.s 34 (.bin .eql (some .int) (.t 33) (.k 0))] [2,3,5,34])
(.cnd (.t 34)
(.seq
(.reg [
.s 35 (.mv (.t 5)),
.s 4 (.mv (.t 35))] [4])
.ret)
.skip)))
.skip))
(.seq
(.seq
(.reg [
.s 36 (.fa 1 (.t 2)),
.s 37 (.ld false 1 (.t 36)),
.s 38 (.fa 1 (.t 3)),
.s 39 (.ld false 1 (.t 38)),
.s 40 (.call 104 [(.t 37),(.t 39)]),
.s 7 (.mv (.t 40))] [2,3,7])
(.seq
(.reg [
.s 41 (.mv (.t 7)),
.s 42 (.bin .neq (some .int) (.t 41) (.k 0))] [2,3,7,42])
(.cnd (.t 42)
(.seq
(.reg [
.s 43 (.mv (.t 7)),
.s 4 (.mv (.t 43))] [4])
.ret)
.skip)))
(.seq
(.seq
(.reg [
.s 44 (.fa 3 (.t 2)),
.s 45 (.ld false 1 (.t 44)),
.s 46 (.len (.t 45)),
.s 47 (.fa 3 (.t 3)),
.s 48 (.ld false 1 (.t 47)),
.s 49 (.len (.t 48)),
.s 50 (.mn [(.t 46),(.t 49)]),
.s 51 (.mv (.k 0))] [2,3,50,51])
(.blk 0
(.seq
(.trim [2,3,50,51])
(.lop
(.seq
(.seq
(.reg [
.s 52 (.bin .lss none (.t 51) (.t 50))] [2,3,50,51,52])
(.seq
(.cnd (.t 52)
.skip
(.exit 0))
(.seq
(.blk 1
(.seq
(.reg [
.s 53 (.mv (.t 51)),
.s 8 (.mv (.t 53))] [2,3,8,50,51])
(.seq
(.seq
(.reg [
.s 54 (.mv (.t 8)),
.s 55 (.fa 2 (.t 2)),
.s 56 (.ld false 1 (.t 55)),
.s 57 (.len (.t 56)),
.s 58 (.bin .lss none (.t 54) (.t 57)),
.s 59 (.mv (.t 58)),
.g 60 (.mv (.t 8)) 59 true,
.g 61 (.fa 2 (.t 3)) 59 true,
.g 62 (.ld false 1 (.t 61)) 59 true,
.g 63 (.len (.t 62)) 59 true,
.g 64 (.bin .lss none (.t 60) (.t 63)) 59 true,
.s 65 (.pick (.t 59) (.t 64) (.c (.bool false)))] [2,3,8,50,51,65])
(.cnd (.t 65)
(.seq
(.drw [
((.s 66 (.fa 2 (.t 2)),(some 2)),[]),
((.s 67 (.ld false 1 (.t 66)),(some 2)),[]),
((.s 68 (.mv (.t 8)),none),[]),
((.s 69 (.ia 1 (.t 67) (.t 68)),none),[]),
((.s 70 (.ld false 1 (.t 69)),none),[]),
((.s 71 (.fa 2 (.t 3)),(some 3)),[]),
((.s 72 (.ld false 1 (.t 71)),(some 3)),[]),
((.s 73 (.mv (.t 8)),none),[]),
((.s 74 (.ia 1 (.t 72) (.t 73)),none),[]),
((.s 75 (.ld false 1 (.t 74)),none),[]),
((.s 76 (.call 104 [(.t 70),(.t 75)]),none),[]),
((.s 9 (.mv (.t 76)),none),[])] [2,3,8,9,50,51])
(.seq
(.reg [
.s 77 (.mv (.t 9)),
.s 78 (.bin .neq (some .int) (.t 77) (.k 0))] [2,3,8,9,50,51,78])
(.cnd (.t 78)
(.seq
(.reg [
.s 79 (.mv (.t 9)),
.s 4 (.mv (.t 79))] [4])
.ret)
.skip)))
.skip))
(.seq
(.drw [
((.s 80 (.fa 3 (.t 2)),(some 2)),[]),
((.s 81 (.ld false 1 (.t 80)),(some 2)),[]),
((.s 82 (.mv (.t 8)),none),[]),
((.s 83 (.ia 4 (.t 81) (.t 82)),none),[]),
((.s 84 (.ld true 4 (.t 83)),none),[]),
((.s 85 (.fa 3 (.t 3)),(some 3)),[]),
((.s 86 (.ld false 1 (.t 85)),(some 3)),[]),
((.s 87 (.mv (.t 8)),none),[]),
((.s 88 (.ia 4 (.t 86) (.t 87)),none),[]),
((.s 89 (.ld true 4 (.t 88)),none),[]),
((.s 90 (.call 59 [(.t 84),(.t 89)]),none),[]),
((.s 10 (.mv (.t 90)),none),[])] [2,3,10,50,51])
(.seq
(.reg [
.s 91 (.mv (.t 10)),
.s 92 (.bin .neq (some .int) (.t 91) (.k 0))] [2,3,10,50,51,92])
(.cnd (.t 92)
(.seq
(.reg [
.s 93 (.mv (.t 10)),
.s 4 (.mv (.t 93))] [4])
.ret)
.skip))))))
(.reg [
.s 94 (.bin .add none (.t 51) (.k 1)),
.s 51 (.mv (.t 94))] [2,3,50,51]))))
(.trim [2,3,50,51]))))))
(.seq
(.reg [
.s 95 (.fa 3 (.t 2)),
.s 96 (.ld false 1 (.t 95)),
.s 97 (.len (.t 96)),
.s 98 (.fa 3 (.t 3)),
.s 99 (.ld false 1 (.t 98)),
.s 100 (.len (.t 99)),
.s 101 (.bin .sub none (.t 97) (.t 100)),
.s 102 (.call 102 [(.t 101)]),
.s 4 (.mv (.t 102))] [4])
.ret)))))),
[.tmp 4]⟩
/-- emend/tree.order -/
def F64 : DF := ⟨1,
(.seq
(.reg [
.s 1 (.bxH 22 (.t 0)),
.s 2 (.mv (.c (.sl 1 nz [])))] [1])
(.seq
(.reg [
.s 5 (.ld false 1 (.t 1)),
.s 6 (.len (.t 5)),
.s 7 (.mks 3 1 8 (.int .i64 0) (.t 6) (.t 6)),
.s 3 (.mv (.t 7))] [1,3])
(.seq
(.seq
(.reg [
.s 8 (.mv (.t 3)),
.s 9 (.len (.t 8)),
.s 10 (.mv (.k 0))] [1,3,9,10])
(.blk 0
(.seq
(.trim [1,3,9,10])
(.lop
(.seq
(.seq
(.reg [
.s 11 (.bin .lss none (.t 10) (.t 9))] [1,3,9,10,11])
(.seq
(.cnd (.t 11)
.skip
(.exit 0))
(.seq
(.blk 1
(.seq
(.reg [
.s 12 (.mv (.t 10)),
.s 4 (.mv (.t 12))] [1,3,4,9,10])
(.reg [
.s 13 (.mv (.t 3)),
.s 14 (.mv (.t 4)),
.s 15 (.mv (.t 4)),
.s 16 (.ia 1 (.t 13) (.t 14)),
.n (.st 1 (.t 16) (.t 15))] [1,3,9,10])))
(.reg [
.s 17 (.bin .add none (.t 10) (.k 1)),
.s 10 (.mv (.t 17))] [1,3,9,10]))))
(.trim [1,3,9,10]))))))
(.seq
(.reg [
.s 18 (.mv (.t 3)),
.s 19 (.mkf 113 [] [(.t 1)]),
.s 20 (.call 112 [(.t 18),(.t 19)])] [3])
(.seq
(.reg [
.s 21 (.mv (.t 3)),
.s 2 (.mv (.t 21))] [2])
.ret))))),
[.tmp 2]⟩
/-- (emend/api.Place).Where -/
def F75 : DF := ⟨1,
(.seq
(.reg [
.s 1 (.bxL (.t 0)),
.s 2 (.mv (.k 0))] [1])
(.seq
(.reg [
.s 3 (.fa 0 (.t 1)),
.s 4 (.ld false 1 (.t 3)),
.s 2 (.mv (.t 4))] [2])
.ret)),
[.tmp 2]⟩
/-- (*emend/tree.writer).put -/
def F79 : DF := ⟨2,
(.seq
(.reg [
.s 4 (.mv (.t 0)),
.s 5 (.nilc (.t 4)),
.s 6 (.fa 0 (.t 5)),
.s 7 (.call 48 [(.t 6)]),
.s 8 (.bin .leq none (.t 7) (.k 65536))] [0,1,8])
(.cnd (.t 8)
(.reg [
.s 9 (.mv (.t 0)),
.s 10 (.nilc (.t 9)),
.s 11 (.fa 0 (.t 10)),
.s 12 (.mv (.t 1)),
.s 13 (.call 128 [(.t 11),(.t 12)])] [])
.skip)),
[]⟩
/-- emend/text.Quote -/
def F80 : DF := ⟨1,
(.seq
(.reg [
.s 2 (.mv (.c (.str []))),
.s 3 (.mv (.k 0))] [0])
(.seq
(.seq
(.reg [
.s 8 (.mv (.t 0)),
.s 9 (.call 82 [(.t 8)]),
.s 10 (.un .not (.t 9))] [0,10])
(.cnd (.t 10)
(.seq
(.reg [
.s 2 (.mv (.c (.str []))),
.s 3 (.mv (.k 10))] [2,3])
.ret)
.skip))
(.seq
(.reg [
.s 4 (.alH 76 [.nilp,(.sl 1 nz [])])] [0,4])
(.seq
(.reg [
.s 11 (.call 129 [(.t 4),(.c (.int .u8 34))])] [0,4])
(.seq
(.seq
(.reg [
.s 12 (.mv (.t 0)),
.s 13 (.lenS (.t 12)),
.s 14 (.mv (.k 0))] [0,4,13,14])
(.blk 0
(.seq
(.trim [0,4,13,14])
(.lop
(.seq
(.seq
(.reg [
.s 15 (.bin .lss none (.t 14) (.t 13))] [0,4,13,14,15])
(.seq
(.cnd (.t 15)
.skip
(.exit 0))
(.seq
(.blk 1
(.seq
(.reg [
.s 16 (.mv (.t 14)),
.s 5 (.mv (.t 16))] [0,4,5,13,14])
(.seq
(.reg [
.s 17 (.mv (.t 0)),
.s 18 (.mv (.t 5)),
.s 19 (.ixS (.t 17) (.t 18)),
.s 6 (.mv (.t 19))] [0,4,6,13,14])
(.seq
(.reg [
.s 20 (.mv (.t 6)),
.s 21 (.call 130 [(.t 20)]),
.s 7 (.mv (.t 21))] [0,4,6,7,13,14])
(.blk 2
(.seq
(.reg [
.s 25 (.mv (.t 7)),
.s 26 (.bin .neq (some .int) (.t 25) (.c (.int .u8 0))),
.s 24 (.mv (.t 26))] [0,4,6,7,13,14,24])
(.cnd (.t 24)
(.seq
(.reg [
.s 27 (.call 129 [(.t 4),(.c (.int .u8 92))])] [0,4,7,13,14])
(.reg [
.s 28 (.mv (.t 7)),
.s 29 (.call 129 [(.t 4),(.t 28)])] [0,4,13,14]))
(.seq
(.reg [
.s 31 (.mv (.t 6)),
.s 32 (.bin .lss none (.t 31) (.c (.int .u8 32))),
.s 33 (.mv (.t 32)),
.g 34 (.mv (.t 6)) 33 false,
.g 35 (.bin .eql (some .int) (.t 34) (.c (.int .u8 127))) 33 false,
.s 36 (.pick (.t 33) (.c (.bool true)) (.t 35)),
.s 30 (.mv (.t 36))] [0,4,6,13,14,30])
(.cnd (.t 30)
(.seq
(.reg [
.s 37 (.call 128 [(.t 4),(.c (.str [92,117,48,48]))])] [0,4,6,13,14])
(.seq
(.reg [
.s 38 (.mv (.t 6)),
.s 39 (.bin .shr none (.t 38) (.c (.int .u64 4))),
.s 40 (.cvI .i64 (.t 39)),
.s 41 (.call 131 [(.t 40)]),
.s 42 (.call 129 [(.t 4),(.t 41)])] [0,4,6,13,14])
(.reg [
.s 43 (.mv (.t 6)),
.s 44 (.cvI .i64 (.t 43)),
.s 45 (.call 131 [(.t 44)]),
.s 46 (.call 129 [(.t 4),(.t 45)])] [0,4,13,14])))
(.reg [
.s 22 (.mv (.t 6)),
.s 23 (.call 129 [(.t 4),(.t 22)])] [0,4,13,14]))))))))))
(.reg [
.s 47 (.bin .add none (.t 14) (.k 1)),
.s 14 (.mv (.t 47))] [0,4,13,14]))))
(.trim [0,4,13,14]))))))
(.seq
(.reg [
.s 48 (.call 129 [(.t 4),(.c (.int .u8 34))])] [4])
(.seq
(.reg [
.s 49 (.call 49 [(.t 4)]),
.s 2 (.mv (.t 49)),
.s 3 (.mv (.k 0))] [2,3])
.ret))))))),
[.tmp 2,.tmp 3]⟩
/-- emend/num.Normal -/
def F81 : DF := ⟨1,
(.seq
(.reg [
.s 2 (.mv (.c (.str []))),
.s 3 (.mv (.k 0))] [0])
(.seq
(.reg [
.s 7 (.mv (.t 0)),
.s 8 (.call 132 [(.t 7)]),
.s 6 (.mv (.t 8)),
.s 9 (.ext (.t 6) 0),
.s 10 (.ext (.t 6) 1),
.s 4 (.alL [(.bool false),(.str []),(.int .i64 0)]),
.n (.st 3 (.t 4) (.t 9)),
.s 5 (.mv (.t 10))] [4,5])
(.seq
(.seq
(.reg [
.s 11 (.mv (.t 5)),
.s 12 (.bin .neq (some .int) (.t 11) (.k 0))] [4,5,12])
(.cnd (.t 12)
(.seq
(.reg [
.s 13 (.mv (.t 5)),
.s 2 (.mv (.c (.str []))),
.s 3 (.mv (.t 13))] [2,3])
.ret)
.skip))
(.seq
(.reg [
.s 14 (.ld true 3 (.t 4)),
.s 15 (.call 133 [(.t 14)]),
.s 16 (.ext (.t 15) 0),
.s 17 (.ext (.t 15) 1),
.s 2 (.mv (.t 16)),
.s 3 (.mv (.t 17))] [2,3])
.ret)))),
[.tmp 2,.tmp 3]⟩
/-- emend/text.Valid -/
def F82 : DF := ⟨1,
(.seq
(.reg [
.s 2 (.mv (.c (.bool false)))] [0])
(.seq
(.reg [
.s 3 (.mv (.t 0)),
.s 4 (.call 86 [(.t 3)]),
.s 5 (.bin .lss none (.t 4) (.k 0)),
.s 2 (.mv (.t 5))] [2])
.ret)),
[.tmp 2]⟩
/-- emend/tree.Time -/
def F83 : DF := ⟨1,
(.seq
(.reg [
.s 2 (.mv (.c (.bool false)))] [0])
(.seq
(.seq
(.reg [
.s 6 (.mv (.t 0)),
.s 7 (.call 134 [(.t 6)]),
.s 8 (.mv (.t 7)),
.g 9 (.mv (.t 0)) 8 false,
.g 10 (.call 135 [(.t 9)]) 8 false,
.s 11 (.pick (.t 8) (.c (.bool true)) (.t 10))] [0,11])
(.cnd (.t 11)
(.seq
(.reg [
.s 2 (.mv (.c (.bool true)))] [2])
.ret)
.skip))
(.seq
(.reg [
.s 13 (.mv (.t 0)),
.s 14 (.call 136 [(.t 13)]),
.s 12 (.mv (.t 14)),
.s 15 (.ext (.t 12) 0),
.s 16 (.ext (.t 12) 1),
.s 0 (.mv (.t 15))] [0])
(.seq
(.reg [
.s 18 (.mv (.t 0)),
.s 19 (.call 137 [(.t 18),(.c (.str [84]))]),
.s 17 (.mv (.t 19)),
.s 20 (.ext (.t 17) 0),
.s 21 (.ext (.t 17) 1),
.s 22 (.ext (.t 17) 2),
.s 3 (.mv (.t 20)),
.s 4 (.mv (.t 21)),
.s 5 (.mv (.t 22))] [3,4,5])
(.seq
(.reg [
.s 23 (.mv (.t 5)),
.s 24 (.mv (.t 23)),
.g 25 (.mv (.t 3)) 24 true,
.g 26 (.call 134 [(.t 25)]) 24 true,
.s 27 (.pick (.t 24) (.t 26) (.c (.bool false))),
.s 28 (.mv (.t 27)),
.g 29 (.mv (.t 4)) 28 true,
.g 30 (.call 135 [(.t 29)]) 28 true,
.s 31 (.pick (.t 28) (.t 30) (.c (.bool false))),
.s 2 (.mv (.t 31))] [2])
.ret))))),
[.tmp 2]⟩
/-- emend/tree.unlike -/
def F84 : DF := ⟨1,
(.seq
(.reg [
.s 2 (.mv (.c (.bool false)))] [0])
(.seq
(.reg [
.s 6 (.mkm),
.s 3 (.mv (.t 6))] [0,3])
(.seq
(.seq
(.reg [
.s 7 (.mv (.t 0)),
.s 8 (.len (.t 7)),
.s 9 (.mv (.k 0))] [3,7,8,9])
(.blk 0
(.seq
(.trim [3,7,8,9])
(.lop
(.seq
(.seq
(.reg [
.s 10 (.bin .lss none (.t 9) (.t 8))] [3,7,8,9,10])
(.seq
(.cnd (.t 10)
.skip
(.exit 0))
(.seq
(.blk 1
(.seq
(.reg [
.s 11 (.ia 1 (.t 7) (.t 9)),
.s 12 (.ld false 1 (.t 11)),
.s 5 (.mv (.t 12))] [3,5,7,8,9])
(.seq
(.reg [
.s 13 (.mv (.t 3)),
.s 14 (.mv (.t 5)),
.s 15 (.lkp .str (.int .i64 0) (.t 13) (.t 14) false),
.s 16 (.bin .add none (.t 15) (.k 1)),
.n (.mup .str (.t 13) (.t 14) (.t 16))] [3,5,7,8,9])
(.seq
(.reg [
.s 17 (.mv (.t 3)),
.s 18 (.mv (.t 5)),
.s 19 (.lkp .str (.int .i64 0) (.t 17) (.t 18) false),
.s 20 (.bin .gtr none (.t 19) (.k 1)),
.s 21 (.mv (.t 20)),
.g 22 (.mv (.t 5)) 21 false,
.g 23 (.call 82 [(.t 22)]) 21 false,
.g 24 (.un .not (.t 23)) 21 false,
.s 25 (.pick (.t 21) (.c (.bool true)) (.t 24))] [3,7,8,9,25])
(.cnd (.t 25)
(.seq
(.reg [
.s 2 (.mv (.c (.bool false)))] [2])
.ret)
.skip)))))
(.reg [
.s 26 (.bin .add none (.t 9) (.k 1)),
.s 9 (.mv (.t 26))] [3,7,8,9]))))
(.trim [3,7,8,9]))))))
(.seq
(.reg [
.s 2 (.mv (.c (.bool true)))] [2])
.ret)))),
[.tmp 2]⟩
/-- emend/text.Wrong -/
def F85 : DF := ⟨2,
(.seq
(.reg [
.s 4 (.mv (.c .nilp))] [0,1])
(.seq
(.reg [
.s 5 (.mv (.t 0)),
.s 6 (.bld [(.int .i64 0)] [(0,1,(.t 5))]),
.s 7 (.mv (.t 1)),
.s 8 (.bld [(.int .i64 0),(.int .i64 0)] [(0,1,(.t 6)),(1,1,(.t 7))]),
.s 9 (.bxH 111 (.t 8)),
.s 4 (.mv (.t 9))] [4])
.ret)),
[.tmp 4]⟩
/-- emend/text.Bad -/
def F86 : DF := ⟨1,
(.seq
(.reg [
.s 2 (.mv (.k 0))] [0])
(.seq
(.seq
(.reg [
.s 3 (.mv (.k 0))] [0,3])
(.blk 0
(.seq
(.trim [0,3])
(.lop
(.seq
(.seq
(.seq
(.reg [
.s 6 (.mv (.t 3)),
.s 7 (.mv (.t 0)),
.s 8 (.lenS (.t 7)),
.s 9 (.bin .lss none (.t 6) (.t 8))] [0,3,9])
(.cnd (.t 9)
.skip
(.exit 0)))
(.blk 1
(.seq
(.reg [
.s 11 (.mv (.t 0)),
.s 12 (.mv (.t 3)),
.s 13 (.slS (.t 11) (some (.t 12)) none),
.s 14 (.call 138 [(.t 13)]),
.s 10 (.mv (.t 14)),
.s 15 (.ext (.t 10) 0),
.s 16 (.ext (.t 10) 1),
.s 4 (.mv (.t 15)),
.s 5 (.mv (.t 16))] [0,3,5])
(.seq
(.seq
(.reg [
.s 17 (.mv (.t 5)),
.s 18 (.bin .eql (some .int) (.t 17) (.k 0))] [0,3,5,18])
(.cnd (.t 18)
(.seq
(.reg [
.s 19 (.mv (.t 3)),
.s 2 (.mv (.t 19))] [2])
.ret)
.skip))
(.reg [
.s 20 (.mv (.t 3)),
.s 21 (.mv (.t 5)),
.s 22 (.bin .add none (.t 20) (.t 21)),
.s 3 (.mv (.t 22))] [0,3])))))
(.trim [0,3]))))))
(.seq
(.reg [
.s 2 (.mv (.k (-1)))] [2])
.ret))),
[.tmp 2]⟩
/-- emend/tree.Read$1 -/
def F87 : DG := ⟨1,4,
[.s 1 (.mv (.t 4))],[0,1],
(.seq
(.reg [
.s 5 (.mv (.t 1)),
.s 6 (.bin .eql (some .ifc) (.t 5) (.c .nilif))] [0,1,6])
(.seq
(.cnd (.t 6)
.ret
.skip)
(.seq
(.reg [
.s 8 (.mv (.t 1)),
.s 9 (.tas true 105 .nilp (.t 8)),
.s 7 (.mv (.t 9)),
.s 10 (.ext (.t 7) 0),
.s 11 (.ext (.t 7) 1),
.s 2 (.mv (.t 10)),
.s 3 (.mv (.t 11))] [0,1,2,3])
(.seq
(.reg [
.s 12 (.mv (.t 3)),
.s 13 (.un .not (.t 12))] [0,1,2,13])
(.seq
(.cnd (.t 13)
(.reg [
.s 14 (.mv (.t 1)),
.n (.pnc (.t 14))] [0,2])
.skip)
(.seq
(.reg [
.s 15 (.mv (.t 2)),
.s 16 (.mki 105 (.t 15)),
.n (.st 1 (.t 0) (.t 16))] [])
.skip))))))⟩
/-- (*emend/tree.Place).Row -/
def F88 : DF := ⟨2,
(.seq
(.reg [
.s 4 (.mv (.c (.str [])))] [0,1])
(.seq
(.reg [
.s 6 (.mv (.t 0)),
.s 7 (.nilc (.t 6)),
.s 8 (.fa 1 (.t 7)),
.s 9 (.ld false 1 (.t 8)),
.s 5 (.mv (.t 9))] [0,1,5])
(.seq
(.blk 0
(.seq
(.trim [0,1,5])
(.lop
(.seq
(.seq
(.seq
(.drw [
((.s 10 (.mv (.t 0)),none),[]),
((.s 11 (.nilc (.t 10)),none),[]),
((.s 12 (.fa 1 (.t 11)),none),[]),
((.s 13 (.ld false 1 (.t 12)),none),[]),
((.s 14 (.mv (.t 0)),none),[]),
((.s 15 (.nilc (.t 14)),none),[]),
((.s 16 (.fa 0 (.t 15)),none),[]),
((.s 17 (.ld false 1 (.t 16)),none),[]),
((.s 18 (.lenS (.t 17)),none),[]),
((.s 19 (.bin .lss none (.t 13) (.t 18)),none),[]),
((.s 20 (.mv (.t 19)),none),[]),
((.g 21 (.mv (.t 1)) 20 true,none),[]),
((.g 22 (.mv (.t 0)) 20 true,none),[]),
((.g 23 (.nilc (.t 22)) 20 true,none),[]),
((.g 24 (.fa 0 (.t 23)) 20 true,none),[]),
((.g 25 (.ld false 1 (.t 24)) 20 true,none),[]),
((.g 26 (.mv (.t 0)) 20 true,none),[]),
((.g 27 (.nilc (.t 26)) 20 true,none),[]),
((.g 28 (.fa 1 (.t 27)) 20 true,none),[]),
((.g 29 (.ld false 1 (.t 28)) 20 true,none),[]),
((.g 30 (.ixS (.t 25) (.t 29)) 20 true,none),[]),
((.g 31 (.callv (.t 21) [(.t 30)]) 20 true,none),[]),
((.s 32 (.pick (.t 20) (.t 31) (.c (.bool false))),none),[])] [0,1,5,32])
(.cnd (.t 32)
.skip
(.exit 0)))
(.blk 1
(.reg [
.s 33 (.mv (.t 0)),
.s 34 (.nilc (.t 33)),
.s 35 (.fa 1 (.t 34)),
.s 36 (.ld false 1 (.t 35)),
.s 37 (.bin .add none (.t 36) (.k 1)),
.s 38 (.nilc (.t 33)),
.s 39 (.fa 1 (.t 38)),
.n (.st 1 (.t 39) (.t 37))] [0,1,5])))
(.trim [0,1,5])))))
(.seq
(.drw [
((.s 40 (.mv (.t 0)),none),[]),
((.s 41 (.nilc (.t 40)),none),[]),
((.s 42 (.fa 0 (.t 41)),none),[]),
((.s 43 (.ld false 1 (.t 42)),none),[]),
((.s 44 (.mv (.t 5)),none),[]),
((.s 45 (.mv (.t 0)),none),[]),
((.s 46 (.nilc (.t 45)),none),[]),
((.s 47 (.fa 1 (.t 46)),none),[]),
((.s 48 (.ld false 1 (.t 47)),none),[]),
((.s 49 (.slS (.t 43) (some (.t 44)) (some (.t 48))),none),[]),
((.s 4 (.mv (.t 49)),none),[])] [4])
.ret)))),
[.tmp 4]⟩
/-- emend/tree.Blank -/
def F89 : DF := ⟨1,
(.seq
(.reg [
.s 2 (.mv (.c (.bool false)))] [0])
(.seq
(.reg [
.s 3 (.mv (.t 0)),
.s 4 (.bin .eql (some .int) (.t 3) (.c (.int .u8 9))),
.s 5 (.mv (.t 4)),
.g 6 (.mv (.t 0)) 5 false,
.g 7 (.bin .eql (some .int) (.t 6) (.c (.int .u8 10))) 5 false,
.s 8 (.pick (.t 5) (.c (.bool true)) (.t 7)),
.s 9 (.mv (.t 8)),
.g 10 (.mv (.t 0)) 9 false,
.g 11 (.bin .eql (some .int) (.t 10) (.c (.int .u8 13))) 9 false,
.s 12 (.pick (.t 9) (.c (.bool true)) (.t 11)),
.s 13 (.mv (.t 12)),
.g 14 (.mv (.t 0)) 13 false,
.g 15 (.bin .eql (some .int) (.t 14) (.c (.int .u8 32))) 13 false,
.s 16 (.pick (.t 13) (.c (.bool true)) (.t 15)),
.s 2 (.mv (.t 16))] [2])
.ret)),
[.tmp 2]⟩
/-- (*emend/tree.Place).Is -/
def F90 : DF := ⟨2,
(.seq
(.reg [
.s 4 (.mv (.c (.bool false)))] [0,1])
(.seq
(.drw [
((.s 5 (.mv (.t 0)),none),[]),
((.s 6 (.nilc (.t 5)),none),[]),
((.s 7 (.fa 1 (.t 6)),none),[]),
((.s 8 (.ld false 1 (.t 7)),none),[]),
((.s 9 (.mv (.t 0)),none),[]),
((.s 10 (.nilc (.t 9)),none),[]),
((.s 11 (.fa 0 (.t 10)),none),[]),
((.s 12 (.ld false 1 (.t 11)),none),[]),
((.s 13 (.lenS (.t 12)),none),[]),
((.s 14 (.bin .lss none (.t 8) (.t 13)),none),[]),
((.s 15 (.mv (.t 14)),none),[]),
((.g 16 (.mv (.t 0)) 15 true,none),[]),
((.g 17 (.nilc (.t 16)) 15 true,none),[]),
((.g 18 (.fa 0 (.t 17)) 15 true,none),[]),
((.g 19 (.ld false 1 (.t 18)) 15 true,none),[]),
((.g 20 (.mv (.t 0)) 15 true,none),[]),
((.g 21 (.nilc (.t 20)) 15 true,none),[]),
((.g 22 (.fa 1 (.t 21)) 15 true,none),[]),
((.g 23 (.ld false 1 (.t 22)) 15 true,none),[]),
((.g 24 (.ixS (.t 19) (.t 23)) 15 true,none),[]),
((.g 25 (.mv (.t 1)) 15 true,none),[]),
((.g 26 (.bin .eql (some .int) (.t 24) (.t 25)) 15 true,none),[]),
((.s 27 (.pick (.t 15) (.t 26) (.c (.bool false))),none),[]),
((.s 4 (.mv (.t 27)),none),[])] [4])
.ret)),
[.tmp 4]⟩
/-- (*emend/tree.Place).Node -/
def F91 : DF := ⟨4,
(.seq
(.seq
(.reg [
.s 8 (.mv (.t 2)),
.s 9 (.bin .gtr none (.t 8) (.k 64))] [0,1,3,9])
(.cnd (.t 9)
(.reg [
.s 10 (.mv (.t 1)),
.s 11 (.call 97 [(.t 10),(.k 4)])] [0,1,3])
.skip))
(.seq
(.reg [
.s 12 (.mv (.t 0)),
.s 13 (.nilc (.t 12)),
.s 14 (.fa 2 (.t 13)),
.s 15 (.ld false 1 (.t 14)),
.s 16 (.mv (.t 3)),
.s 17 (.bin .add none (.t 15) (.t 16)),
.s 18 (.nilc (.t 12)),
.s 19 (.fa 2 (.t 18)),
.n (.st 1 (.t 19) (.t 17))] [0,1])
(.seq
(.reg [
.s 20 (.mv (.t 0)),
.s 21 (.nilc (.t 20)),
.s 22 (.fa 2 (.t 21)),
.s 23 (.ld false 1 (.t 22)),
.s 24 (.bin .gtr none (.t 23) (.k 4096))] [1,24])
(.cnd (.t 24)
(.reg [
.s 25 (.mv (.t 1)),
.s 26 (.call 97 [(.t 25),(.k 3)])] [])
.skip)))),
[]⟩
/-- (*emend/tree.Place).Quoted -/
def F92 : DF := ⟨1,
(.seq
(.reg [
.s 2 (.mv (.c (.str [])))] [0])
(.seq
(.drw [
((.s 7 (.mv (.t 0)),none),[]),
((.s 8 (.nilc (.t 7)),none),[]),
((.s 9 (.fa 0 (.t 8)),none),[]),
((.s 10 (.ld false 1 (.t 9)),none),[]),
((.s 11 (.mv (.t 0)),none),[]),
((.s 12 (.nilc (.t 11)),none),[]),
((.s 13 (.fa 1 (.t 12)),none),[]),
((.s 14 (.ld false 1 (.t 13)),none),[]),
((.s 15 (.slS (.t 10) (some (.t 14)) none),none),[]),
((.s 16 (.call 139 [(.t 15)]),none),[]),
((.s 6 (.mv (.t 16)),none),[]),
((.s 17 (.ext (.t 6) 0),none),[]),
((.s 18 (.ext (.t 6) 1),none),[]),
((.s 19 (.ext (.t 6) 2),none),[]),
((.s 3 (.mv (.t 17)),none),[]),
((.s 4 (.mv (.t 18)),none),[]),
((.s 5 (.mv (.t 19)),none),[])] [0,3,4,5])
(.seq
(.seq
(.reg [
.s 20 (.mv (.t 5)),
.s 21 (.bin .neq (some .ptr) (.t 20) (.c .nilp))] [0,3,4,5,21])
(.cnd (.t 21)
(.drw [
((.s 22 (.mv (.t 0)),none),[]),
((.s 23 (.nilc (.t 22)),none),[]),
((.s 24 (.fa 1 (.t 23)),none),[]),
((.s 25 (.ld false 1 (.t 24)),none),[]),
((.s 26 (.mv (.t 5)),none),[]),
((.s 27 (.nilc (.t 26)),none),[]),
((.s 28 (.fa 0 (.t 27)),none),[]),
((.s 29 (.fa 0 (.t 28)),none),[]),
((.s 30 (.ld false 1 (.t 29)),none),[]),
((.s 31 (.bin .add none (.t 25) (.t 30)),none),[]),
((.s 32 (.mv (.t 5)),none),[]),
((.s 33 (.nilc (.t 32)),none),[]),
((.s 34 (.fa 1 (.t 33)),none),[]),
((.s 35 (.ld false 1 (.t 34)),none),[]),
((.s 36 (.call 97 [(.t 31),(.t 35)]),none),[])] [0,3,4])
.skip))
(.seq
(.reg [
.s 37 (.mv (.t 0)),
.s 38 (.nilc (.t 37)),
.s 39 (.fa 1 (.t 38)),
.s 40 (.ld false 1 (.t 39)),
.s 41 (.mv (.t 4)),
.s 42 (.bin .add none (.t 40) (.t 41)),
.s 43 (.nilc (.t 37)),
.s 44 (.fa 1 (.t 43)),
.n (.st 1 (.t 44) (.t 42))] [3])
(.seq
(.reg [
.s 45 (.mv (.t 3)),
.s 2 (.mv (.t 45))] [2])
.ret))))),
[.tmp 2]⟩
/-- (emend/tree.parser).list -/
def F93 : DF := ⟨2,
(.seq
(.reg [
.s 2 (.bxL (.t 0)),
.s 4 (.alL [(.int .i64 0),(.str []),(.sl 1 nz []),(.sl 4 nz [])])] [1,2,4])
(.seq
(.reg [
.s 6 (.bld [(.int .i64 0),(.str []),(.sl 1 nz []),(.sl 4 nz [])] [(0,1,(.k 6))]),
.s 5 (.alL [(.int .i64 0),(.str []),(.sl 1 nz []),(.sl 4 nz [])]),
.n (.st 4 (.t 5) (.t 6))] [1,2,4,5])
(.seq
(.reg [
.s 7 (.fa 0 (.t 2)),
.s 8 (.ld false 1 (.t 7)),
.s 9 (.call 140 [(.t 8),(.c (.int .u8 91))])] [1,2,4,5])
(.seq
(.seq
(.reg [
.s 10 (.ld true 1 (.t 2)),
.s 11 (.call 53 [(.t 10)])] [1,2,4,5])
(.seq
(.reg [
.s 12 (.fa 0 (.t 2)),
.s 13 (.ld false 1 (.t 12)),
.s 14 (.call 90 [(.t 13),(.c (.int .u8 93))])] [1,2,4,5,14])
(.cnd (.t 14)
(.seq
(.reg [
.s 15 (.fa 0 (.t 2)),
.s 16 (.ld false 1 (.t 15)),
.s 17 (.nilc (.t 16)),
.s 18 (.fa 1 (.t 17)),
.s 19 (.ld false 1 (.t 18)),
.s 20 (.bin .add none (.t 19) (.k 1)),
.s 21 (.nilc (.t 16)),
.s 22 (.fa 1 (.t 21)),
.n (.st 1 (.t 22) (.t 20))] [4,5])
(.seq
(.reg [
.s 23 (.ld true 4 (.t 5)),
.n (.st 4 (.t 4) (.t 23))] [4])
.ret))
.skip)))
(.blk 0
(.seq
(.trim [1,2,4,5])
(.lop
(.seq
(.blk 1
(.seq
(.reg [
.s 24 (.ld true 1 (.t 2)),
.s 25 (.call 53 [(.t 24)])] [1,2,4,5])
(.seq
(.drw [
((.s 26 (.fa 3 (.t 5)),(some 5)),[]),
((.s 27 (.ld false 1 (.t 26)),(some 5)),[]),
((.s 28 (.ld true 1 (.t 2)),(some 2)),[]),
((.s 29 (.mv (.t 1)),none),[]),
((.s 30 (.bin .add none (.t 29) (.k 1)),none),[]),
((.s 31 (.call 54 [(.t 28),(.t 30)]),none),[]),
((.s 32 (.bldS 4 1 (.agg [(.int .i64 0),(.str []),(.sl 1 nz []),(.sl 4 nz [])]) [(0,(.t 31))]),none),[]),
((.s 33 (.app true 25 4 72 (.t 27) (.t 32)),none),[]),
((.s 34 (.fa 3 (.t 5)),(some 5)),[]),
((.n (.st 1 (.t 34) (.t 33)),(some 5)),[])] [1,2,4,5])
(.seq
(.reg [
.s 35 (.ld true 1 (.t 2)),
.s 36 (.call 53 [(.t 35)])] [1,2,4,5])
(.seq
(.seq
(.reg [
.s 37 (.fa 0 (.t 2)),
.s 38 (.ld false 1 (.t 37)),
.s 39 (.call 90 [(.t 38),(.c (.int .u8 44))]),
.s 40 (.un .not (.t 39))] [1,2,4,5,40])
(.cnd (.t 40)
(.seq
(.reg [
.s 41 (.fa 0 (.t 2)),
.s 42 (.ld false 1 (.t 41)),
.s 43 (.call 140 [(.t 42),(.c (.int .u8 93))])] [4,5])
(.seq
(.reg [
.s 44 (.ld true 4 (.t 5)),
.n (.st 4 (.t 4) (.t 44))] [4])
.ret))
.skip))
(.reg [
.s 45 (.fa 0 (.t 2)),
.s 46 (.ld false 1 (.t 45)),
.s 47 (.nilc (.t 46)),
.s 48 (.fa 1 (.t 47)),
.s 49 (.ld false 1 (.t 48)),
.s 50 (.bin .add none (.t 49) (.k 1)),
.s 51 (.nilc (.t 46)),
.s 52 (.fa 1 (.t 51)),
.n (.st 1 (.t 52) (.t 50))] [1,2,4,5]))))))
(.trim [1,2,4,5]))))))))),
[.cell 4 true 4]⟩
/-- (emend/tree.parser).record -/
def F94 : DF := ⟨2,
(.seq
(.reg [
.s 2 (.bxL (.t 0)),
.s 4 (.alL [(.int .i64 0),(.str []),(.sl 1 nz []),(.sl 4 nz [])])] [1,2,4])
(.seq
(.reg [
.s 9 (.bld [(.int .i64 0),(.str []),(.sl 1 nz []),(.sl 4 nz [])] [(0,1,(.k 7))]),
.s 5 (.alL [(.int .i64 0),(.str []),(.sl 1 nz []),(.sl 4 nz [])]),
.n (.st 4 (.t 5) (.t 9))] [1,2,4,5])
(.seq
(.reg [
.s 10 (.mkm),
.s 6 (.mv (.t 10))] [1,2,4,5,6])
(.seq
(.reg [
.s 11 (.fa 0 (.t 2)),
.s 12 (.ld false 1 (.t 11)),
.s 13 (.call 140 [(.t 12),(.c (.int .u8 123))])] [1,2,4,5,6])
(.seq
(.seq
(.reg [
.s 14 (.ld true 1 (.t 2)),
.s 15 (.call 53 [(.t 14)])] [1,2,4,5,6])
(.seq
(.reg [
.s 16 (.fa 0 (.t 2)),
.s 17 (.ld false 1 (.t 16)),
.s 18 (.call 90 [(.t 17),(.c (.int .u8 125))])] [1,2,4,5,6,18])
(.cnd (.t 18)
(.seq
(.reg [
.s 19 (.fa 0 (.t 2)),
.s 20 (.ld false 1 (.t 19)),
.s 21 (.nilc (.t 20)),
.s 22 (.fa 1 (.t 21)),
.s 23 (.ld false 1 (.t 22)),
.s 24 (.bin .add none (.t 23) (.k 1)),
.s 25 (.nilc (.t 20)),
.s 26 (.fa 1 (.t 25)),
.n (.st 1 (.t 26) (.t 24))] [4,5])
(.seq
(.reg [
.s 27 (.ld true 4 (.t 5)),
.n (.st 4 (.t 4) (.t 27))] [4])
.ret))
.skip)))
(.blk 0
(.seq
(.trim [1,2,4,5,6])
(.lop
(.seq
(.blk 1
(.seq
(.reg [
.s 28 (.ld true 1 (.t 2)),
.s 29 (.call 53 [(.t 28)])] [1,2,4,5,6])
(.seq
(.reg [
.s 30 (.fa 0 (.t 2)),
.s 31 (.ld false 1 (.t 30)),
.s 32 (.nilc (.t 31)),
.s 33 (.fa 1 (.t 32)),
.s 34 (.ld false 1 (.t 33)),
.s 7 (.mv (.t 34))] [1,2,4,5,6,7])
(.seq
(.seq
(.reg [
.s 35 (.fa 0 (.t 2)),
.s 36 (.ld false 1 (.t 35)),
.s 37 (.call 90 [(.t 36),(.c (.int .u8 34))]),
.s 38 (.un .not (.t 37))] [1,2,4,5,6,7,38])
(.cnd (.t 38)
(.reg [
.s 39 (.fa 0 (.t 2)),
.s 40 (.ld false 1 (.t 39)),
.s 41 (.call 55 [(.t 40)])] [1,2,4,5,6,7])
.skip))
(.seq
(.reg [
.s 42 (.fa 0 (.t 2)),
.s 43 (.ld false 1 (.t 42)),
.s 44 (.call 92 [(.t 43)]),
.s 8 (.mv (.t 44))] [1,2,4,5,6,7,8])
(.seq
(.seq
(.reg [
.s 45 (.mv (.t 6)),
.s 46 (.mv (.t 8)),
.s 47 (.lkp .str (.int .i64 0) (.t 45) (.t 46) false),
.s 48 (.bin .add none (.t 47) (.k 1)),
.n (.mup .str (.t 45) (.t 46) (.t 48))] [1,2,4,5,6,7,8])
(.seq
(.reg [
.s 49 (.mv (.t 6)),
.s 50 (.mv (.t 8)),
.s 51 (.lkp .str (.int .i64 0) (.t 49) (.t 50) false),
.s 52 (.bin .gtr none (.t 51) (.k 1))] [1,2,4,5,6,7,8,52])
(.cnd (.t 52)
(.reg [
.s 53 (.mv (.t 7)),
.s 54 (.call 97 [(.t 53),(.k 15)])] [1,2,4,5,6,8])
.skip)))
(.seq
(.reg [
.s 55 (.ld true 1 (.t 2)),
.s 56 (.call 53 [(.t 55)])] [1,2,4,5,6,8])
(.seq
(.reg [
.s 57 (.fa 0 (.t 2)),
.s 58 (.ld false 1 (.t 57)),
.s 59 (.call 140 [(.t 58),(.c (.int .u8 58))])] [1,2,4,5,6,8])
(.seq
(.reg [
.s 60 (.ld true 1 (.t 2)),
.s 61 (.call 53 [(.t 60)])] [1,2,4,5,6,8])
(.seq
(.reg [
.s 62 (.fa 2 (.t 5)),
.s 63 (.ld false 1 (.t 62)),
.s 64 (.mv (.t 8)),
.s 65 (.bldT 9 1 1 (.str []) [(0,(.t 64))]),
.s 66 (.app false 9 1 16 (.t 63) (.t 65)),
.s 67 (.fa 2 (.t 5)),
.n (.st 1 (.t 67) (.t 66))] [1,2,4,5,6])
(.seq
(.drw [
((.s 68 (.fa 3 (.t 5)),(some 5)),[]),
((.s 69 (.ld false 1 (.t 68)),(some 5)),[]),
((.s 70 (.ld true 1 (.t 2)),(some 2)),[]),
((.s 71 (.mv (.t 1)),none),[]),
((.s 72 (.bin .add none (.t 71) (.k 1)),none),[]),
((.s 73 (.call 54 [(.t 70),(.t 72)]),none),[]),
((.s 74 (.bldS 4 1 (.agg [(.int .i64 0),(.str []),(.sl 1 nz []),(.sl 4 nz [])]) [(0,(.t 73))]),none),[]),
((.s 75 (.app true 25 4 72 (.t 69) (.t 74)),none),[]),
((.s 76 (.fa 3 (.t 5)),(some 5)),[]),
((.n (.st 1 (.t 76) (.t 75)),(some 5)),[])] [1,2,4,5,6])
(.seq
(.reg [
.s 77 (.ld true 1 (.t 2)),
.s 78 (.call 53 [(.t 77)])] [1,2,4,5,6])
(.seq
(.seq
(.reg [
.s 79 (.fa 0 (.t 2)),
.s 80 (.ld false 1 (.t 79)),
.s 81 (.call 90 [(.t 80),(.c (.int .u8 44))]),
.s 82 (.un .not (.t 81))] [1,2,4,5,6,82])
(.cnd (.t 82)
(.seq
(.reg [
.s 83 (.fa 0 (.t 2)),
.s 84 (.ld false 1 (.t 83)),
.s 85 (.call 140 [(.t 84),(.c (.int .u8 125))])] [4,5])
(.seq
(.reg [
.s 86 (.ld true 4 (.t 5)),
.n (.st 4 (.t 4) (.t 86))] [4])
.ret))
.skip))
(.reg [
.s 87 (.fa 0 (.t 2)),
.s 88 (.ld false 1 (.t 87)),
.s 89 (.nilc (.t 88)),
.s 90 (.fa 1 (.t 89)),
.s 91 (.ld false 1 (.t 90)),
.s 92 (.bin .add none (.t 91) (.k 1)),
.s 93 (.nilc (.t 88)),
.s 94 (.fa 1 (.t 93)),
.n (.st 1 (.t 94) (.t 92))] [1,2,4,5,6]))))))))))))))
(.trim [1,2,4,5,6])))))))))),
[.cell 4 true 4]⟩
/-- (emend/tree.parser).tree$1 -/
def F95 : DF := ⟨1,
(.seq
(.reg [
.s 2 (.mv (.c (.bool false)))] [0])
(.seq
(.reg [
.s 3 (.mv (.t 0)),
.s 4 (.call 96 [(.t 3)]),
.s 5 (.mv (.t 4)),
.g 6 (.mv (.t 0)) 5 false,
.g 7 (.bin .eql (some .int) (.t 6) (.c (.int .u8 58))) 5 false,
.s 8 (.pick (.t 5) (.c (.bool true)) (.t 7)),
.s 2 (.mv (.t 8))] [2])
.ret)),
[.tmp 2]⟩
/-- emend/tree.InNumber -/
def F96 : DF := ⟨1,
(.seq
(.reg [
.s 2 (.mv (.c (.bool false)))] [0])
(.seq
(.reg [
.s 3 (.mv (.t 0)),
.s 4 (.call 141 [(.t 3)]),
.s 5 (.mv (.t 4)),
.g 6 (.mv (.t 0)) 5 false,
.g 7 (.call 142 [(.t 6)]) 5 false,
.s 8 (.pick (.t 5) (.c (.bool true)) (.t 7)),
.s 9 (.mv (.t 8)),
.g 10 (.mv (.t 0)) 9 false,
.g 11 (.bin .eql (some .int) (.t 10) (.c (.int .u8 43))) 9 false,
.s 12 (.pick (.t 9) (.c (.bool true)) (.t 11)),
.s 13 (.mv (.t 12)),
.g 14 (.mv (.t 0)) 13 false,
.g 15 (.bin .eql (some .int) (.t 14) (.c (.int .u8 45))) 13 false,
.s 16 (.pick (.t 13) (.c (.bool true)) (.t 15)),
.s 17 (.mv (.t 16)),
.g 18 (.mv (.t 0)) 17 false,
.g 19 (.bin .eql (some .int) (.t 18) (.c (.int .u8 46))) 17 false,
.s 20 (.pick (.t 17) (.c (.bool true)) (.t 19)),
.s 2 (.mv (.t 20))] [2])
.ret)),
[.tmp 2]⟩
/-- emend/tree.Fail -/
def F97 : DF := ⟨2,
(.reg [
.s 4 (.mv (.t 0)),
.s 5 (.mv (.t 1)),
.s 6 (.call 85 [(.t 4),(.t 5)]),
.s 7 (.mki 105 (.t 6)),
.n (.pnc (.t 7))] []),
[]⟩
/-- (*emend/tree.Place).Scalar -/
def F98 : DF := ⟨1,
(.seq
(.reg [
.s 2 (.alL [(.int .i64 0),(.str []),(.sl 1 nz []),(.sl 4 nz [])])] [0,2])
(.seq
(.reg [
.s 7 (.mv (.t 0)),
.s 8 (.nilc (.t 7)),
.s 9 (.fa 1 (.t 8)),
.s 10 (.ld false 1 (.t 9)),
.s 3 (.mv (.t 10))] [0,2,3])
(.seq
(.blk 0
(.seq
(.drw [
((.s 12 (.mv (.t 0)),none),[]),
((.s 13 (.nilc (.t 12)),none),[]),
((.s 14 (.fa 1 (.t 13)),none),[]),
((.s 15 (.ld false 1 (.t 14)),none),[]),
((.s 16 (.mv (.t 0)),none),[]),
((.s 17 (.nilc (.t 16)),none),[]),
((.s 18 (.fa 0 (.t 17)),none),[]),
((.s 19 (.ld false 1 (.t 18)),none),[]),
((.s 20 (.lenS (.t 19)),none),[]),
((.s 21 (.bin .lss none (.t 15) (.t 20)),none),[]),
((.s 22 (.mv (.t 21)),none),[]),
((.g 23 (.mv (.t 0)) 22 true,none),[]),
((.g 24 (.nilc (.t 23)) 22 true,none),[]),
((.g 25 (.fa 0 (.t 24)) 22 true,none),[]),
((.g 26 (.ld false 1 (.t 25)) 22 true,none),[]),
((.g 27 (.mv (.t 0)) 22 true,none),[]),
((.g 28 (.nilc (.t 27)) 22 true,none),[]),
((.g 29 (.fa 1 (.t 28)) 22 true,none),[]),
((.g 30 (.ld false 1 (.t 29)) 22 true,none),[]),
((.g 31 (.ixS (.t 26) (.t 30)) 22 true,none),[]),
((.g 32 (.call 141 [(.t 31)]) 22 true,none),[]),
((.g 33 (.mv (.t 32)) 22 true,none),[]),
((.g 34 (.mv (.t 0)) 33 false,none),[]),
((.g 35 (.nilc (.t 34)) 33 false,none),[]),
((.g 36 (.fa 0 (.t 35)) 33 false,none),[]),
((.g 37 (.ld false 1 (.t 36)) 33 false,none),[]),
((.g 38 (.mv (.t 0)) 33 false,none),[]),
((.g 39 (.nilc (.t 38)) 33 false,none),[]),
((.g 40 (.fa 1 (.t 39)) 33 false,none),[]),
((.g 41 (.ld false 1 (.t 40)) 33 false,none),[]),
((.g 42 (.ixS (.t 37) (.t 41)) 33 false,none),[]),
((.g 43 (.bin .eql (some .int) (.t 42) (.c (.int .u8 45))) 33 false,none),[]),
((.g 44 (.pick (.t 33) (.c (.bool true)) (.t 43)) 22 true,none),[]),
((.s 45 (.pick (.t 22) (.t 44) (.c (.bool false))),none),[]),
((.s 11 (.mv (.t 45)),none),[])] [0,2,3,11])
(.cnd (.t 11)
(.seq
(.reg [
.s 47 (.mv (.t 0)),
.s 48 (.call 88 [(.t 47),(.f 96)]),
.s 49 (.call 81 [(.t 48)]),
.s 46 (.mv (.t 49)),
.s 50 (.ext (.t 46) 0),
.s 51 (.ext (.t 46) 1),
.s 4 (.mv (.t 50)),
.s 5 (.mv (.t 51))] [2,3,4,5])
(.seq
(.seq
(.reg [
.s 52 (.mv (.t 5)),
.s 53 (.bin .neq (some .int) (.t 52) (.k 0))] [2,3,4,5,53])
(.cnd (.t 53)
(.reg [
.s 54 (.mv (.t 3)),
.s 55 (.mv (.t 5)),
.s 56 (.call 97 [(.t 54),(.t 55)])] [2,4])
.skip))
(.seq
(.reg [
.s 57 (.mv (.t 4)),
.s 58 (.bld [(.int .i64 0),(.str []),(.sl 1 nz []),(.sl 4 nz [])] [(0,1,(.k 3)),(1,1,(.t 57))]),
.n (.st 4 (.t 2) (.t 58))] [2])
.ret)))
(.seq
(.drw [
((.s 60 (.mv (.t 0)),none),[]),
((.s 61 (.nilc (.t 60)),none),[]),
((.s 62 (.fa 1 (.t 61)),none),[]),
((.s 63 (.ld false 1 (.t 62)),none),[]),
((.s 64 (.mv (.t 0)),none),[]),
((.s 65 (.nilc (.t 64)),none),[]),
((.s 66 (.fa 0 (.t 65)),none),[]),
((.s 67 (.ld false 1 (.t 66)),none),[]),
((.s 68 (.lenS (.t 67)),none),[]),
((.s 69 (.bin .lss none (.t 63) (.t 68)),none),[]),
((.s 70 (.mv (.t 69)),none),[]),
((.g 71 (.mv (.t 0)) 70 true,none),[]),
((.g 72 (.nilc (.t 71)) 70 true,none),[]),
((.g 73 (.fa 0 (.t 72)) 70 true,none),[]),
((.g 74 (.ld false 1 (.t 73)) 70 true,none),[]),
((.g 75 (.mv (.t 0)) 70 true,none),[]),
((.g 76 (.nilc (.t 75)) 70 true,none),[]),
((.g 77 (.fa 1 (.t 76)) 70 true,none),[]),
((.g 78 (.ld false 1 (.t 77)) 70 true,none),[]),
((.g 79 (.ixS (.t 74) (.t 78)) 70 true,none),[]),
((.g 80 (.call 142 [(.t 79)]) 70 true,none),[]),
((.s 81 (.pick (.t 70) (.t 80) (.c (.bool false))),none),[]),
((.s 59 (.mv (.t 81)),none),[])] [0,2,3,59])
(.cnd (.t 59)
(.seq
(.seq
(.reg [
.s 82 (.mv (.t 0)),
.s 83 (.call 88 [(.t 82),(.f 142)]),
.s 6 (.mv (.t 83))] [0,2,3,6])
(.seq
(.reg [
.s 84 (.mv (.t 6))] [0,2,3,6,84])
(.blk 1
(.seq
(.reg [
.s 86 (.bin .eql (some .str) (.t 84) (.c (.str [110,117,108,108]))),
.s 85 (.mv (.t 86))] [0,2,3,6,84,85])
(.cnd (.t 85)
(.seq
(.reg [
.s 87 (.bld [(.int .i64 0),(.str []),(.sl 1 nz []),(.sl 4 nz [])] [(0,1,(.k 1))]),
.n (.st 4 (.t 2) (.t 87))] [2])
.ret)
(.seq
(.seq
(.reg [
.s 89 (.bin .eql (some .str) (.t 84) (.c (.str [116,114,117,101]))),
.s 88 (.mv (.t 89))] [0,2,3,6,84,88])
(.cnd (.t 88)
.skip
(.reg [
.s 90 (.bin .eql (some .str) (.t 84) (.c (.str [102,97,108,115,101]))),
.s 88 (.mv (.t 90))] [0,2,3,6,88])))
(.cnd (.t 88)
(.seq
(.reg [
.s 91 (.mv (.t 6)),
.s 92 (.bld [(.int .i64 0),(.str []),(.sl 1 nz []),(.sl 4 nz [])] [(0,1,(.k 2)),(1,1,(.t 91))]),
.n (.st 4 (.t 2) (.t 92))] [2])
.ret)
.skip)))))))
(.reg [
.s 93 (.mv (.t 3)),
.s 94 (.call 97 [(.t 93),(.k 13)])] [0,2]))
.skip)))))
(.seq
(.reg [
.s 95 (.mv (.t 0)),
.s 96 (.call 55 [(.t 95)])] [2])
(.seq
(.reg [
.s 97 (.bld [(.int .i64 0),(.str []),(.sl 1 nz []),(.sl 4 nz [])] []),
.n (.st 4 (.t 2) (.t 97))] [2])
.ret))))),
[.cell 2 true 4]⟩
/-- slices.Index[[]string,string] -/
def F99 : DF := ⟨2,
(.seq
(.reg [
.s 4 (.mv (.k 0))] [0,1])
(.seq
(.seq
(.reg [
.s 6 (.mv (.t 0)),
.s 7 (.len (.t 6)),
.s 8 (.mv (.k 0))] [0,1,7,8])
(.blk 0
(.seq
(.trim [0,1,7,8])
(.lop
(.seq
(.seq
(.reg [
.s 9 (.bin .lss none (.t 8) (.t 7))] [0,1,7,8,9])
(.seq
(.cnd (.t 9)
.skip
(.exit 0))
(.seq
(.blk 1
(.seq
(.reg [
.s 10 (.mv (.t 8)),
.s 5 (.mv (.t 10))] [0,1,5,7,8])
(.seq
(.reg [
.s 11 (.mv (.t 1)),
.s 12 (.mv (.t 0)),
.s 13 (.mv (.t 5)),
.s 14 (.ia 1 (.t 12) (.t 13)),
.s 15 (.ld false 1 (.t 14)),
.s 16 (.bin .eql (some .str) (.t 11) (.t 15))] [0,1,5,7,8,16])
(.cnd (.t 16)
(.seq
(.reg [
.s 17 (.mv (.t 5)),
.s 4 (.mv (.t 17))] [4])
.ret)
.skip))))
(.reg [
.s 18 (.bin .add none (.t 8) (.k 1)),
.s 8 (.mv (.t 18))] [0,1,7,8]))))
(.trim [0,1,7,8]))))))
(.seq
(.reg [
.s 4 (.mv (.k (-1)))] [4])
.ret))),
[.tmp 4]⟩
/-- slices.Equal[[]string,string] -/
def F100 : DF := ⟨2,
(.seq
(.reg [
.s 4 (.mv (.c (.bool false)))] [0,1])
(.seq
(.seq
(.reg [
.s 6 (.mv (.t 0)),
.s 7 (.len (.t 6)),
.s 8 (.mv (.t 1)),
.s 9 (.len (.t 8)),
.s 10 (.bin .neq (some .int) (.t 7) (.t 9))] [0,1,10])
(.cnd (.t 10)
(.seq
(.reg [
.s 4 (.mv (.c (.bool false)))] [4])
.ret)
.skip))
(.seq
(.seq
(.reg [
.s 11 (.mv (.t 0)),
.s 12 (.len (.t 11)),
.s 13 (.mv (.k 0))] [0,1,12,13])
(.blk 0
(.seq
(.trim [0,1,12,13])
(.lop
(.seq
(.seq
(.reg [
.s 14 (.bin .lss none (.t 13) (.t 12))] [0,1,12,13,14])
(.seq
(.cnd (.t 14)
.skip
(.exit 0))
(.seq
(.blk 1
(.seq
(.reg [
.s 15 (.mv (.t 13)),
.s 5 (.mv (.t 15))] [0,1,5,12,13])
(.seq
(.drw [
((.s 16 (.mv (.t 0)),none),[]),
((.s 17 (.mv (.t 5)),none),[]),
((.s 18 (.ia 1 (.t 16) (.t 17)),none),[]),
((.s 19 (.ld false 1 (.t 18)),none),[]),
((.s 20 (.mv (.t 1)),none),[]),
((.s 21 (.mv (.t 5)),none),[]),
((.s 22 (.ia 1 (.t 20) (.t 21)),none),[]),
((.s 23 (.ld false 1 (.t 22)),none),[]),
((.s 24 (.bin .neq (some .str) (.t 19) (.t 23)),none),[])] [0,1,12,13,24])
(.cnd (.t 24)
(.seq
(.reg [
.s 4 (.mv (.c (.bool false)))] [4])
.ret)
.skip))))
(.reg [
.s 25 (.bin .add none (.t 13) (.k 1)),
.s 13 (.mv (.t 25))] [0,1,12,13]))))
(.trim [0,1,12,13]))))))
(.seq
(.reg [
.s 4 (.mv (.c (.bool true)))] [4])
.ret)))),
[.tmp 4]⟩
/-- slices.EqualFunc[[]emend/api.Tree,[]emend/api.Tree,emend/api.Tree,emend/api.Tree] -/
def F101 : DF := ⟨3,
(.seq
(.reg [
.s 6 (.mv (.c (.bool false)))] [0,1,2])
(.seq
(.seq
(.reg [
.s 10 (.mv (.t 0)),
.s 11 (.len (.t 10)),
.s 12 (.mv (.t 1)),
.s 13 (.len (.t 12)),
.s 14 (.bin .neq (some .int) (.t 11) (.t 13))] [0,1,2,14])
(.cnd (.t 14)
(.seq
(.reg [
.s 6 (.mv (.c (.bool false)))] [6])
.ret)
.skip))
(.seq
(.seq
(.reg [
.s 15 (.mv (.t 0)),
.s 16 (.len (.t 15)),
.s 17 (.mv (.k 0))] [1,2,15,16,17])
(.blk 0
(.seq
(.trim [1,2,15,16,17])
(.lop
(.seq
(.seq
(.reg [
.s 18 (.bin .lss none (.t 17) (.t 16))] [1,2,15,16,17,18])
(.seq
(.cnd (.t 18)
.skip
(.exit 0))
(.seq
(.blk 1
(.seq
(.reg [
.s 19 (.mv (.t 17)),
.s 20 (.ia 4 (.t 15) (.t 17)),
.s 21 (.ld true 4 (.t 20)),
.s 8 (.alL [(.int .i64 0),(.str []),(.sl 1 nz []),(.sl 4 nz [])]),
.s 7 (.mv (.t 19)),
.n (.st 4 (.t 8) (.t 21))] [1,2,7,8,15,16,17])
(.seq
(.reg [
.s 22 (.mv (.t 1)),
.s 23 (.mv (.t 7)),
.s 24 (.ia 4 (.t 22) (.t 23)),
.s 25 (.ld true 4 (.t 24)),
.s 9 (.alL [(.int .i64 0),(.str []),(.sl 1 nz []),(.sl 4 nz [])]),
.n (.st 4 (.t 9) (.t 25))] [1,2,8,9,15,16,17])
(.seq
(.reg [
.s 26 (.mv (.t 2)),
.s 27 (.ld true 4 (.t 8)),
.s 28 (.ld true 4 (.t 9)),
.s 29 (.callv (.t 26) [(.t 27),(.t 28)]),
.s 30 (.un .not (.t 29))] [1,2,15,16,17,30])
(.cnd (.t 30)
(.seq
(.reg [
.s 6 (.mv (.c (.bool false)))] [6])
.ret)
.skip)))))
(.reg [
.s 31 (.bin .add none (.t 17) (.k 1)),
.s 17 (.mv (.t 31))] [1,2,15,16,17]))))
(.trim [1,2,15,16,17]))))))
(.seq
(.reg [
.s 6 (.mv (.c (.bool true)))] [6])
.ret)))),
[.tmp 6]⟩
/-- emend/tree.sign -/
def F102 : DF := ⟨1,
(.seq
(.reg [
.s 2 (.mv (.k 0))] [0])
(.seq
(.reg [
.s 3 (.mv (.t 0)),
.s 4 (.mn [(.k 1),(.t 3)]),
.s 5 (.mx [(.k (-1)),(.t 4)]),
.s 2 (.mv (.t 5))] [2])
.ret)),
[.tmp 2]⟩
/-- emend/num.Compare -/
def F103 : DF := ⟨2,
(.seq
(.reg [
.s 4 (.mv (.k 0)),
.s 5 (.mv (.k 0))] [0,1])
(.seq
(.reg [
.s 10 (.mv (.t 0)),
.s 11 (.call 143 [(.t 10)]),
.s 9 (.mv (.t 11)),
.s 12 (.ext (.t 9) 0),
.s 13 (.ext (.t 9) 1),
.s 6 (.alL [(.bool false),(.str []),(.int .i64 0)]),
.n (.st 3 (.t 6) (.t 12)),
.s 7 (.mv (.t 13))] [1,6,7])
(.seq
(.seq
(.reg [
.s 14 (.mv (.t 7)),
.s 15 (.bin .neq (some .int) (.t 14) (.k 0))] [1,6,7,15])
(.cnd (.t 15)
(.seq
(.reg [
.s 16 (.mv (.t 7)),
.s 4 (.mv (.k 0)),
.s 5 (.mv (.t 16))] [4,5])
.ret)
.skip))
(.seq
(.reg [
.s 18 (.mv (.t 1)),
.s 19 (.call 143 [(.t 18)]),
.s 17 (.mv (.t 19)),
.s 20 (.ext (.t 17) 0),
.s 21 (.ext (.t 17) 1),
.s 8 (.alL [(.bool false),(.str []),(.int .i64 0)]),
.n (.st 3 (.t 8) (.t 20)),
.s 7 (.mv (.t 21))] [6,7,8])
(.seq
(.seq
(.reg [
.s 22 (.mv (.t 7)),
.s 23 (.bin .neq (some .int) (.t 22) (.k 0))] [6,7,8,23])
(.cnd (.t 23)
(.seq
(.reg [
.s 24 (.mv (.t 7)),
.s 4 (.mv (.k 0)),
.s 5 (.mv (.t 24))] [4,5])
.ret)
.skip))
(.seq
(.blk 0
(.seq
(.reg [
.s 26 (.fa 0 (.t 6)),
.s 27 (.ld false 1 (.t 26)),
.s 28 (.mv (.t 27)),
.g 29 (.fa 0 (.t 8)) 28 true,
.g 30 (.ld false 1 (.t 29)) 28 true,
.s 31 (.pick (.t 28) (.t 30) (.c (.bool false))),
.s 25 (.mv (.t 31))] [6,8,25])
(.cnd (.t 25)
(.seq
(.reg [
.s 32 (.ld true 3 (.t 8)),
.s 33 (.ld true 3 (.t 6)),
.s 34 (.call 144 [(.t 32),(.t 33)]),
.s 4 (.mv (.t 34)),
.s 5 (.mv (.k 0))] [4,5])
.ret)
(.seq
(.reg [
.s 36 (.fa 0 (.t 6)),
.s 37 (.ld false 1 (.t 36)),
.s 35 (.mv (.t 37))] [6,8,35])
(.cnd (.t 35)
(.seq
(.reg [
.s 4 (.mv (.k (-1))),
.s 5 (.mv (.k 0))] [4,5])
.ret)
(.seq
(.reg [
.s 39 (.fa 0 (.t 8)),
.s 40 (.ld false 1 (.t 39)),
.s 38 (.mv (.t 40))] [6,8,38])
(.cnd (.t 38)
(.seq
(.reg [
.s 4 (.mv (.k 1)),
.s 5 (.mv (.k 0))] [4,5])
.ret)
.skip)))))))
(.seq
(.reg [
.s 41 (.ld true 3 (.t 6)),
.s 42 (.ld true 3 (.t 8)),
.s 43 (.call 144 [(.t 41),(.t 42)]),
.s 4 (.mv (.t 43)),
.s 5 (.mv (.k 0))] [4,5])
.ret))))))),
[.tmp 4,.tmp 5]⟩
/-- strings.Compare -/
def F104 : DF := ⟨2,
(.seq
(.reg [
.s 4 (.mv (.k 0))] [0,1])
(.seq
(.reg [
.s 5 (.mv (.t 0)),
.s 6 (.mv (.t 1)),
.s 7 (.call 145 [(.t 5),(.t 6)]),
.s 4 (.mv (.t 7))] [4])
.ret)),
[.tmp 4]⟩
/-- slices.SortStableFunc[[]int,int] -/
def F112 : DF := ⟨2,
(.reg [
.s 4 (.mv (.t 0)),
.s 5 (.mv (.t 0)),
.s 6 (.len (.t 5)),
.s 7 (.mv (.t 1)),
.s 8 (.call 150 [(.t 4),(.t 6),(.t 7)])] []),
[]⟩
/-- emend/tree.order$1 -/
def F113 : DF := ⟨3,
(.seq
(.reg [
.s 5 (.mv (.k 0))] [0,1,2])
(.seq
(.drw [
((.s 6 (.ld false 1 (.t 2)),none),[]),
((.s 7 (.mv (.t 0)),none),[]),
((.s 8 (.ia 1 (.t 6) (.t 7)),none),[]),
((.s 9 (.ld false 1 (.t 8)),none),[]),
((.s 10 (.ld false 1 (.t 2)),none),[]),
((.s 11 (.mv (.t 1)),none),[]),
((.s 12 (.ia 1 (.t 10) (.t 11)),none),[]),
((.s 13 (.ld false 1 (.t 12)),none),[]),
((.s 14 (.call 104 [(.t 9),(.t 13)]),none),[]),
((.s 5 (.mv (.t 14)),none),[])] [5])
.ret)),
[.tmp 5]⟩
/-- (*strings.Builder).WriteString -/
def F128 : DF := ⟨2,
(.seq
(.reg [
.s 4 (.mv (.k 0)),
.s 5 (.mv (.c .nilif))] [0,1])
(.seq
(.reg [
.s 6 (.mv (.t 0)),
.s 7 (.call 159 [(.t 6)])] [0,1])
(.seq
(.reg [
.s 8 (.mv (.t 0)),
.s 9 (.mv (.t 0)),
.s 10 (.nilc (.t 9)),
.s 11 (.fa 1 (.t 10)),
.s 12 (.ld false 1 (.t 11)),
.s 13 (.mv (.t 1)),
.s 14 (.app false 5 1 1 (.t 12) (.t 13)),
.s 15 (.nilc (.t 8)),
.s 16 (.fa 1 (.t 15)),
.n (.st 1 (.t 16) (.t 14))] [1])
(.seq
(.reg [
.s 17 (.mv (.t 1)),
.s 18 (.lenS (.t 17)),
.s 4 (.mv (.t 18)),
.s 5 (.mv (.c .nilif))] [4,5])
.ret)))),
[.tmp 4,.tmp 5]⟩
/-- (*strings.Builder).WriteByte -/
def F129 : DF := ⟨2,
(.seq
(.reg [
.s 4 (.mv (.c .nilif))] [0,1])
(.seq
(.reg [
.s 5 (.mv (.t 0)),
.s 6 (.call 159 [(.t 5)])] [0,1])
(.seq
(.reg [
.s 7 (.mv (.t 0)),
.s 8 (.mv (.t 0)),
.s 9 (.nilc (.t 8)),
.s 10 (.fa 1 (.t 9)),
.s 11 (.ld false 1 (.t 10)),
.s 12 (.mv (.t 1)),
.s 13 (.bldT 5 1 1 (.int .u8 0) [(0,(.t 12))]),
.s 14 (.app false 5 1 1 (.t 11) (.t 13)),
.s 15 (.nilc (.t 7)),
.s 16 (.fa 1 (.t 15)),
.n (.st 1 (.t 16) (.t 14))] [])
(.seq
(.reg [
.s 4 (.mv (.c .nilif))] [4])
.ret)))),
[.tmp 4]⟩
/-- emend/text.short -/
def F130 : DF := ⟨1,
(.seq
(.reg [
.s 2 (.mv (.c (.int .u8 0)))] [0])
(.seq
(.seq
(.reg [
.s 3 (.mv (.t 0))] [0,3])
(.blk 0
(.seq
(.seq
(.reg [
.s 5 (.bin .eql (some .int) (.t 3) (.c (.int .u8 34))),
.s 4 (.mv (.t 5))] [0,3,4])
(.cnd (.t 4)
.skip
(.reg [
.s 6 (.bin .eql (some .int) (.t 3) (.c (.int .u8 92))),
.s 4 (.mv (.t 6))] [0,3,4])))
(.cnd (.t 4)
(.seq
(.reg [
.s 7 (.mv (.t 0)),
.s 2 (.mv (.t 7))] [2])
.ret)
(.seq
(.reg [
.s 9 (.bin .eql (some .int) (.t 3) (.c (.int .u8 8))),
.s 8 (.mv (.t 9))] [3,8])
(.cnd (.t 8)
(.seq
(.reg [
.s 2 (.mv (.c (.int .u8 98)))] [2])
.ret)
(.seq
(.reg [
.s 11 (.bin .eql (some .int) (.t 3) (.c (.int .u8 9))),
.s 10 (.mv (.t 11))] [3,10])
(.cnd (.t 10)
(.seq
(.reg [
.s 2 (.mv (.c (.int .u8 116)))] [2])
.ret)
(.seq
(.reg [
.s 13 (.bin .eql (some .int) (.t 3) (.c (.int .u8 10))),
.s 12 (.mv (.t 13))] [3,12])
(.cnd (.t 12)
(.seq
(.reg [
.s 2 (.mv (.c (.int .u8 110)))] [2])
.ret)
(.seq
(.reg [
.s 15 (.bin .eql (some .int) (.t 3) (.c (.int .u8 12))),
.s 14 (.mv (.t 15))] [3,14])
(.cnd (.t 14)
(.seq
(.reg [
.s 2 (.mv (.c (.int .u8 102)))] [2])
.ret)
(.seq
(.reg [
.s 17 (.bin .eql (some .int) (.t 3) (.c (.int .u8 13))),
.s 16 (.mv (.t 17))] [16])
(.cnd (.t 16)
(.seq
(.reg [
.s 2 (.mv (.c (.int .u8 114)))] [2])
.ret)
.skip))))))))))))))
(.seq
(.reg [
.s 2 (.mv (.c (.int .u8 0)))] [2])
.ret))),
[.tmp 2]⟩
/-- emend/text.digit -/
def F131 : DF := ⟨1,
(.seq
(.reg [
.s 2 (.mv (.c (.int .u8 0)))] [0])
(.seq
(.reg [
.s 3 (.mv (.t 0)),
.s 4 (.bin .and none (.t 3) (.k 15)),
.s 5 (.ixS (.c (.str [48,49,50,51,52,53,54,55,56,57,97,98,99,100,101,102])) (.t 4)),
.s 2 (.mv (.t 5))] [2])
.ret)),
[.tmp 2]⟩
/-- emend/num.Split -/
def F132 : DF := ⟨1,
(.seq
(.reg [
.s 2 (.alL [(.bool false),(.str []),(.int .i64 0)]),
.s 3 (.mv (.k 0))] [0,2])
(.seq
(.reg [
.s 13 (.mv (.t 0)),
.s 14 (.call 160 [(.t 13)]),
.s 12 (.mv (.t 14)),
.s 15 (.ext (.t 12) 0),
.s 16 (.ext (.t 12) 1),
.s 17 (.ext (.t 12) 2),
.s 18 (.ext (.t 12) 3),
.s 19 (.ext (.t 12) 4),
.s 4 (.mv (.t 15)),
.s 5 (.mv (.t 16)),
.s 6 (.mv (.t 17)),
.s 7 (.mv (.t 18)),
.s 8 (.mv (.t 19))] [0,2,4,5,6,7,8])
(.seq
(.seq
(.reg [
.s 20 (.mv (.t 8)),
.s 21 (.un .not (.t 20))] [0,2,4,5,6,7,21])
(.cnd (.t 21)
(.seq
(.reg [
.s 22 (.bld [(.bool false),(.str []),(.int .i64 0)] []),
.n (.st 3 (.t 2) (.t 22)),
.s 3 (.mv (.k 12))] [2,3])
.ret)
.skip))
(.seq
(.seq
(.reg [
.s 23 (.mv (.t 0)),
.s 24 (.lenS (.t 23)),
.s 25 (.bin .gtr none (.t 24) (.k 1000))] [2,4,5,6,7,25])
(.cnd (.t 25)
(.seq
(.reg [
.s 26 (.bld [(.bool false),(.str []),(.int .i64 0)] []),
.n (.st 3 (.t 2) (.t 26)),
.s 3 (.mv (.k 2))] [2,3])
.ret)
.skip))
(.seq
(.reg [
.s 28 (.mv (.t 7)),
.s 29 (.call 161 [(.t 28)]),
.s 27 (.mv (.t 29)),
.s 30 (.ext (.t 27) 0),
.s 31 (.ext (.t 27) 1),
.s 9 (.mv (.t 30)),
.s 8 (.mv (.t 31))] [2,4,5,6,8,9])
(.seq
(.seq
(.reg [
.s 32 (.mv (.t 8)),
.s 33 (.un .not (.t 32))] [2,4,5,6,9,33])
(.cnd (.t 33)
(.seq
(.reg [
.s 34 (.bld [(.bool false),(.str []),(.int .i64 0)] []),
.n (.st 3 (.t 2) (.t 34)),
.s 3 (.mv (.k 5))] [2,3])
.ret)
.skip))
(.seq
(.reg [
.s 35 (.mv (.t 5)),
.s 36 (.mv (.t 6)),
.s 37 (.bin .add none (.t 35) (.t 36)),
.s 38 (.call 162 [(.t 37),(.c (.str [48]))]),
.s 10 (.mv (.t 38))] [2,4,6,9,10])
(.seq
(.reg [
.s 39 (.mv (.t 9)),
.s 40 (.mv (.t 6)),
.s 41 (.lenS (.t 40)),
.s 42 (.bin .sub none (.t 39) (.t 41)),
.s 9 (.mv (.t 42))] [2,4,9,10])
(.seq
(.reg [
.s 43 (.mv (.t 10)),
.s 44 (.call 163 [(.t 43),(.c (.str [48]))]),
.s 11 (.mv (.t 44))] [2,4,9,10,11])
(.seq
(.reg [
.s 45 (.mv (.t 9)),
.s 46 (.mv (.t 10)),
.s 47 (.lenS (.t 46)),
.s 48 (.mv (.t 11)),
.s 49 (.lenS (.t 48)),
.s 50 (.bin .sub none (.t 47) (.t 49)),
.s 51 (.bin .add none (.t 45) (.t 50)),
.s 9 (.mv (.t 51))] [2,4,9,11])
(.seq
(.seq
(.reg [
.s 52 (.mv (.t 11)),
.s 53 (.bin .eql (some .str) (.t 52) (.c (.str [])))] [2,4,9,11,53])
(.cnd (.t 53)
(.seq
(.reg [
.s 54 (.bld [(.bool false),(.str []),(.int .i64 0)] []),
.n (.st 3 (.t 2) (.t 54)),
.s 3 (.mv (.k 0))] [2,3])
.ret)
.skip))
(.seq
(.reg [
.s 55 (.mv (.t 4)),
.s 56 (.mv (.t 11)),
.s 57 (.mv (.t 9)),
.s 58 (.bld [(.bool false),(.str []),(.int .i64 0)] [(0,1,(.t 55)),(1,1,(.t 56)),(2,1,(.t 57))]),
.n (.st 3 (.t 2) (.t 58)),
.s 3 (.mv (.k 0))] [2,3])
.ret)))))))))))),
[.cell 2 true 3,.tmp 3]⟩
/-- emend/num.Join -/
def F133 : DF := ⟨1,
(.seq
(.reg [
.s 1 (.bxL (.t 0)),
.s 2 (.mv (.c (.str []))),
.s 3 (.mv (.k 0))] [1])
(.seq
(.reg [
.s 6 (.fa 1 (.t 1)),
.s 7 (.ld false 1 (.t 6)),
.s 8 (.lenS (.t 7)),
.s 4 (.mv (.t 8))] [1,4])
(.seq
(.blk 0
(.seq
(.seq
(.reg [
.s 10 (.fa 1 (.t 1)),
.s 11 (.ld false 1 (.t 10)),
.s 12 (.call 164 [(.t 11)]),
.s 13 (.mv (.t 4)),
.s 14 (.bin .lss none (.t 12) (.t 13)),
.s 9 (.mv (.t 14))] [1,4,9])
(.cnd (.t 9)
.skip
(.seq
(.reg [
.s 15 (.mv (.t 4)),
.s 16 (.bin .gtr none (.t 15) (.k 0)),
.s 17 (.mv (.t 16)),
.g 18 (.fa 1 (.t 1)) 17 true,
.g 19 (.ld false 1 (.t 18)) 17 true,
.g 20 (.ixS (.t 19) (.k 0)) 17 true,
.g 21 (.bin .eql (some .int) (.t 20) (.c (.int .u8 48))) 17 true,
.g 22 (.mv (.t 21)) 17 true,
.g 23 (.fa 1 (.t 1)) 22 false,
.g 24 (.ld false 1 (.t 23)) 22 false,
.g 25 (.mv (.t 4)) 22 false,
.g 26 (.bin .sub none (.t 25) (.k 1)) 22 false,
.g 27 (.ixS (.t 24) (.t 26)) 22 false,
.g 28 (.bin .eql (some .int) (.t 27) (.c (.int .u8 48))) 22 false,
.g 29 (.pick (.t 22) (.c (.bool true)) (.t 28)) 17 true,
.s 30 (.pick (.t 17) (.t 29) (.c (.bool false))),
.s 9 (.mv (.t 30))] [1,4,9])
(.cnd (.t 9)
.skip
(.reg [
.s 31 (.mv (.t 4)),
.s 32 (.bin .eql (some .int) (.t 31) (.k 0)),
.s 33 (.mv (.t 32)),
.g 34 (.fa 2 (.t 1)) 33 true,
.g 35 (.ld false 1 (.t 34)) 33 true,
.g 36 (.bin .neq (some .int) (.t 35) (.k 0)) 33 true,
.g 37 (.mv (.t 36)) 33 true,
.g 38 (.fa 0 (.t 1)) 37 false,
.g 39 (.ld false 1 (.t 38)) 37 false,
.g 40 (.pick (.t 37) (.c (.bool true)) (.t 39)) 33 true,
.s 41 (.pick (.t 33) (.t 40) (.c (.bool false))),
.s 9 (.mv (.t 41))] [1,4,9])))))
(.cnd (.t 9)
(.seq
(.reg [
.s 2 (.mv (.c (.str []))),
.s 3 (.mv (.k 1))] [2,3])
.ret)
(.seq
(.reg [
.s 43 (.fa 2 (.t 1)),
.s 44 (.ld false 1 (.t 43)),
.s 45 (.bin .lss none (.t 44) (.k (-999999))),
.s 46 (.mv (.t 45)),
.g 47 (.fa 2 (.t 1)) 46 false,
.g 48 (.ld false 1 (.t 47)) 46 false,
.g 49 (.bin .gtr none (.t 48) (.k 999999)) 46 false,
.s 50 (.pick (.t 46) (.c (.bool true)) (.t 49)),
.s 42 (.mv (.t 50))] [1,4,42])
(.cnd (.t 42)
(.seq
(.reg [
.s 2 (.mv (.c (.str []))),
.s 3 (.mv (.k 5))] [2,3])
.ret)
(.seq
(.reg [
.s 52 (.mv (.t 4)),
.s 53 (.bin .eql (some .int) (.t 52) (.k 0)),
.s 51 (.mv (.t 53))] [1,51])
(.cnd (.t 51)
(.seq
(.reg [
.s 2 (.mv (.c (.str [48]))),
.s 3 (.mv (.k 0))] [2,3])
.ret)
.skip)))))))
(.seq
(.reg [
.s 54 (.fa 1 (.t 1)),
.s 55 (.ld false 1 (.t 54)),
.s 5 (.mv (.t 55))] [1,5])
(.seq
(.seq
(.reg [
.s 56 (.fa 0 (.t 1)),
.s 57 (.ld false 1 (.t 56))] [1,5,57])
(.cnd (.t 57)
(.reg [
.s 58 (.mv (.t 5)),
.s 59 (.bin .add none (.c (.str [45])) (.t 58)),
.s 5 (.mv (.t 59))] [1,5])
.skip))
(.seq
(.seq
(.reg [
.s 60 (.fa 2 (.t 1)),
.s 61 (.ld false 1 (.t 60)),
.s 62 (.bin .neq (some .int) (.t 61) (.k 0))] [1,5,62])
(.cnd (.t 62)
(.reg [
.s 63 (.mv (.t 5)),
.s 64 (.fa 2 (.t 1)),
.s 65 (.ld false 1 (.t 64)),
.s 66 (.call 165 [(.t 65)]),
.s 67 (.bin .add none (.c (.str [101])) (.t 66)),
.s 68 (.bin .add none (.t 63) (.t 67)),
.s 5 (.mv (.t 68))] [5])
.skip))
(.seq
(.seq
(.reg [
.s 69 (.mv (.t 5)),
.s 70 (.lenS (.t 69)),
.s 71 (.bin .gtr none (.t 70) (.k 1000))] [5,71])
(.cnd (.t 71)
(.seq
(.reg [
.s 2 (.mv (.c (.str []))),
.s 3 (.mv (.k 2))] [2,3])
.ret)
.skip))
(.seq
(.reg [
.s 72 (.mv (.t 5)),
.s 2 (.mv (.t 72)),
.s 3 (.mv (.k 0))] [2,3])
.ret)))))))),
[.tmp 2,.tmp 3]⟩
/-- emend/tree.date -/
def F134 : DF := ⟨1,
(.seq
(.reg [
.s 2 (.mv (.c (.bool false)))] [0])
(.seq
(.seq
(.reg [
.s 3 (.mv (.t 0)),
.s 4 (.lenS (.t 3)),
.s 5 (.bin .neq (some .int) (.t 4) (.k 10)),
.s 6 (.mv (.t 5)),
.g 7 (.mv (.t 0)) 6 false,
.g 8 (.ixS (.t 7) (.k 4)) 6 false,
.g 9 (.bin .neq (some .int) (.t 8) (.c (.int .u8 45))) 6 false,
.s 10 (.pick (.t 6) (.c (.bool true)) (.t 9)),
.s 11 (.mv (.t 10)),
.g 12 (.mv (.t 0)) 11 false,
.g 13 (.ixS (.t 12) (.k 7)) 11 false,
.g 14 (.bin .neq (some .int) (.t 13) (.c (.int .u8 45))) 11 false,
.s 15 (.pick (.t 11) (.c (.bool true)) (.t 14)),
.s 16 (.mv (.t 15)),
.g 17 (.mv (.t 0)) 16 false,
.g 18 (.slS (.t 17) none (some (.k 2))) 16 false,
.g 19 (.call 166 [(.t 18)]) 16 false,
.g 20 (.bin .lss none (.t 19) (.k 0)) 16 false,
.s 21 (.pick (.t 16) (.c (.bool true)) (.t 20)),
.s 22 (.mv (.t 21)),
.g 23 (.mv (.t 0)) 22 false,
.g 24 (.slS (.t 23) (some (.k 2)) (some (.k 4))) 22 false,
.g 25 (.call 166 [(.t 24)]) 22 false,
.g 26 (.bin .lss none (.t 25) (.k 0)) 22 false,
.s 27 (.pick (.t 22) (.c (.bool true)) (.t 26)),
.s 28 (.mv (.t 27)),
.g 29 (.mv (.t 0)) 28 false,
.g 30 (.slS (.t 29) (some (.k 5)) (some (.k 7))) 28 false,
.g 31 (.call 167 [(.t 30),(.k 1),(.k 12)]) 28 false,
.g 32 (.un .not (.t 31)) 28 false,
.s 33 (.pick (.t 28) (.c (.bool true)) (.t 32))] [0,33])
(.cnd (.t 33)
(.seq
(.reg [
.s 2 (.mv (.c (.bool false)))] [2])
.ret)
.skip))
(.seq
(.drw [
((.s 34 (.mv (.t 0)),none),[]),
((.s 35 (.slS (.t 34) (some (.k 8)) none),none),[]),
((.s 36 (.mv (.t 0)),none),[]),
((.s 37 (.slS (.t 36) none (some (.k 2))),none),[]),
((.s 40 (.mv (.t 0)),none),[]),
((.s 41 (.slS (.t 40) (some (.k 2)) (some (.k 4))),none),[]),
((.s 44 (.mv (.t 0)),none),[]),
((.s 45 (.slS (.t 44) (some (.k 5)) (some (.k 7))),none),[]),
((.s 38 (.call 166 [(.t 37)]),none),[]),
((.s 39 (.bin .mul none (.t 38) (.k 100)),none),[]),
((.s 42 (.call 166 [(.t 41)]),none),[]),
((.s 43 (.bin .add none (.t 39) (.t 42)),none),[]),
((.s 46 (.call 166 [(.t 45)]),none),[]),
((.s 47 (.call 168 [(.t 43),(.t 46)]),none),[]),
((.s 48 (.call 167 [(.t 35),(.k 1),(.t 47)]),none),[]),
((.s 2 (.mv (.t 48)),none),[])] [2])
.ret))),
[.tmp 2]⟩
/-- emend/tree.clock -/
def F135 : DF := ⟨1,
(.seq
(.reg [
.s 2 (.mv (.c (.bool false)))] [0])
(.seq
(.seq
(.reg [
.s 4 (.mv (.t 0)),
.s 5 (.lenS (.t 4)),
.s 6 (.bin .lss none (.t 5) (.k 8)),
.s 7 (.mv (.t 6)),
.g 8 (.mv (.t 0)) 7 false,
.g 9 (.ixS (.t 8) (.k 2)) 7 false,
.g 10 (.bin .neq (some .int) (.t 9) (.c (.int .u8 58))) 7 false,
.s 11 (.pick (.t 7) (.c (.bool true)) (.t 10)),
.s 12 (.mv (.t 11)),
.g 13 (.mv (.t 0)) 12 false,
.g 14 (.ixS (.t 13) (.k 5)) 12 false,
.g 15 (.bin .neq (some .int) (.t 14) (.c (.int .u8 58))) 12 false,
.s 16 (.pick (.t 12) (.c (.bool true)) (.t 15)),
.s 17 (.mv (.t 16)),
.g 18 (.mv (.t 0)) 17 false,
.g 19 (.slS (.t 18) none (some (.k 2))) 17 false,
.g 20 (.call 167 [(.t 19),(.k 0),(.k 23)]) 17 false,
.g 21 (.un .not (.t 20)) 17 false,
.s 22 (.pick (.t 17) (.c (.bool true)) (.t 21)),
.s 23 (.mv (.t 22)),
.g 24 (.mv (.t 0)) 23 false,
.g 25 (.slS (.t 24) (some (.k 3)) (some (.k 5))) 23 false,
.g 26 (.call 167 [(.t 25),(.k 0),(.k 59)]) 23 false,
.g 27 (.un .not (.t 26)) 23 false,
.s 28 (.pick (.t 23) (.c (.bool true)) (.t 27)),
.s 29 (.mv (.t 28)),
.g 30 (.mv (.t 0)) 29 false,
.g 31 (.slS (.t 30) (some (.k 6)) (some (.k 8))) 29 false,
.g 32 (.call 167 [(.t 31),(.k 0),(.k 59)]) 29 false,
.g 33 (.un .not (.t 32)) 29 false,
.s 34 (.pick (.t 29) (.c (.bool true)) (.t 33))] [0,34])
(.cnd (.t 34)
(.seq
(.reg [
.s 2 (.mv (.c (.bool false)))] [2])
.ret)
.skip))
(.seq
(.seq
(.reg [
.s 35 (.mv (.t 0)),
.s 36 (.lenS (.t 35)),
.s 37 (.bin .eql (some .int) (.t 36) (.k 8))] [0,37])
(.cnd (.t 37)
(.seq
(.reg [
.s 2 (.mv (.c (.bool true)))] [2])
.ret)
.skip))
(.seq
(.reg [
.s 38 (.mv (.t 0)),
.s 39 (.slS (.t 38) (some (.k 9)) none),
.s 3 (.mv (.t 39))] [0,3])
(.seq
(.reg [
.s 40 (.mv (.t 0)),
.s 41 (.ixS (.t 40) (.k 8)),
.s 42 (.bin .eql (some .int) (.t 41) (.c (.int .u8 46))),
.s 43 (.mv (.t 42)),
.g 44 (.mv (.t 3)) 43 true,
.g 45 (.lenS (.t 44)) 43 true,
.g 46 (.bin .geq none (.t 45) (.k 1)) 43 true,
.s 47 (.pick (.t 43) (.t 46) (.c (.bool false))),
.s 48 (.mv (.t 47)),
.g 49 (.mv (.t 3)) 48 true,
.g 50 (.lenS (.t 49)) 48 true,
.g 51 (.bin .leq none (.t 50) (.k 9)) 48 true,
.s 52 (.pick (.t 48) (.t 51) (.c (.bool false))),
.s 53 (.mv (.t 52)),
.g 54 (.mv (.t 3)) 53 true,
.g 55 (.call 169 [(.t 54),(.c (.str [48,49,50,51,52,53,54,55,56,57]))]) 53 true,
.g 56 (.bin .eql (some .str) (.t 55) (.c (.str []))) 53 true,
.s 57 (.pick (.t 53) (.t 56) (.c (.bool false))),
.s 2 (.mv (.t 57))] [2])
.ret))))),
[.tmp 2]⟩
/-- emend/tree.zone -/
def F136 : DF := ⟨1,
(.seq
(.reg [
.s 2 (.mv (.c (.str []))),
.s 3 (.mv (.c (.str [])))] [0])
(.seq
(.seq
(.reg [
.s 5 (.mv (.t 0)),
.s 6 (.call 170 [(.t 5),(.c (.str [90]))])] [0,6])
(.cnd (.t 6)
(.seq
(.reg [
.s 7 (.mv (.t 0)),
.s 8 (.mv (.t 0)),
.s 9 (.lenS (.t 8)),
.s 10 (.bin .sub none (.t 9) (.k 1)),
.s 11 (.slS (.t 7) none (some (.t 10))),
.s 2 (.mv (.t 11)),
.s 3 (.mv (.c (.str [90])))] [2,3])
.ret)
.skip))
(.seq
(.seq
(.reg [
.s 12 (.mv (.t 0)),
.s 13 (.lenS (.t 12)),
.s 14 (.bin .lss none (.t 13) (.k 6)),
.s 15 (.mv (.t 14)),
.g 16 (.mv (.t 0)) 15 false,
.g 17 (.mv (.t 0)) 15 false,
.g 18 (.lenS (.t 17)) 15 false,
.g 19 (.bin .sub none (.t 18) (.k 6)) 15 false,
.g 20 (.ixS (.t 16) (.t 19)) 15 false,
.g 21 (.bin .neq (some .int) (.t 20) (.c (.int .u8 43))) 15 false,
.g 22 (.mv (.t 21)) 15 false,
.g 23 (.mv (.t 0)) 22 true,
.g 24 (.mv (.t 0)) 22 true,
.g 25 (.lenS (.t 24)) 22 true,
.g 26 (.bin .sub none (.t 25) (.k 6)) 22 true,
.g 27 (.ixS (.t 23) (.t 26)) 22 true,
.g 28 (.bin .neq (some .int) (.t 27) (.c (.int .u8 45))) 22 true,
.g 29 (.pick (.t 22) (.t 28) (.c (.bool false))) 15 false,
.s 30 (.pick (.t 15) (.c (.bool true)) (.t 29))] [0,30])
(.cnd (.t 30)
(.seq
(.reg [
.s 31 (.mv (.t 0)),
.s 2 (.mv (.t 31)),
.s 3 (.mv (.c (.str [])))] [2,3])
.ret)
.skip))
(.seq
(.reg [
.s 32 (.mv (.t 0)),
.s 33 (.mv (.t 0)),
.s 34 (.lenS (.t 33)),
.s 35 (.bin .sub none (.t 34) (.k 6)),
.s 36 (.slS (.t 32) (some (.t 35)) none),
.s 4 (.mv (.t 36))] [0,4])
(.seq
(.seq
(.reg [
.s 37 (.mv (.t 4)),
.s 38 (.ixS (.t 37) (.k 3)),
.s 39 (.bin .neq (some .int) (.t 38) (.c (.int .u8 58))),
.s 40 (.mv (.t 39)),
.g 41 (.mv (.t 4)) 40 false,
.g 42 (.slS (.t 41) (some (.k 1)) (some (.k 3))) 40 false,
.g 43 (.call 167 [(.t 42),(.k 0),(.k 23)]) 40 false,
.g 44 (.un .not (.t 43)) 40 false,
.s 45 (.pick (.t 40) (.c (.bool true)) (.t 44)),
.s 46 (.mv (.t 45)),
.g 47 (.mv (.t 4)) 46 false,
.g 48 (.slS (.t 47) (some (.k 4)) none) 46 false,
.g 49 (.call 167 [(.t 48),(.k 0),(.k 59)]) 46 false,
.g 50 (.un .not (.t 49)) 46 false,
.s 51 (.pick (.t 46) (.c (.bool true)) (.t 50))] [0,4,51])
(.cnd (.t 51)
(.seq
(.reg [
.s 52 (.mv (.t 0)),
.s 2 (.mv (.t 52)),
.s 3 (.mv (.c (.str [])))] [2,3])
.ret)
.skip))
(.seq
(.reg [
.s 53 (.mv (.t 0)),
.s 54 (.mv (.t 0)),
.s 55 (.lenS (.t 54)),
.s 56 (.bin .sub none (.t 55) (.k 6)),
.s 57 (.slS (.t 53) none (some (.t 56))),
.s 58 (.mv (.t 4)),
.s 2 (.mv (.t 57)),
.s 3 (.mv (.t 58))] [2,3])
.ret)))))),
[.tmp 2,.tmp 3]⟩
/-- strings.Cut -/
def F137 : DF := ⟨2,
(.seq
(.reg [
.s 4 (.mv (.c (.str []))),
.s 5 (.mv (.c (.str []))),
.s 6 (.mv (.c (.bool false)))] [0,1])
(.seq
(.reg [
.s 7 (.mv (.t 0)),
.s 8 (.mv (.t 1)),
.s 9 (.call 171 [(.t 7),(.t 8)]),
.s 10 (.ext (.t 9) 0),
.s 11 (.ext (.t 9) 1),
.s 12 (.ext (.t 9) 2),
.s 4 (.mv (.t 10)),
.s 5 (.mv (.t 11)),
.s 6 (.mv (.t 12))] [4,5,6])
.ret)),
[.tmp 4,.tmp 5,.tmp 6]⟩
/-- emend/text.First -/
def F138 : DF := ⟨1,
(.seq
(.reg [
.s 2 (.mv (.k 0)),
.s 3 (.mv (.k 0))] [0])
(.seq
(.seq
(.reg [
.s 6 (.mv (.t 0)),
.s 7 (.bin .eql (some .str) (.t 6) (.c (.str [])))] [0,7])
(.cnd (.t 7)
(.seq
(.reg [
.s 2 (.mv (.k 0)),
.s 3 (.mv (.k 0))] [2,3])
.ret)
.skip))
(.seq
(.reg [
.s 9 (.mv (.t 0)),
.s 10 (.ixS (.t 9) (.k 0)),
.s 11 (.call 172 [(.t 10)]),
.s 8 (.mv (.t 11)),
.s 12 (.ext (.t 8) 0),
.s 13 (.ext (.t 8) 1),
.s 14 (.ext (.t 8) 2),
.s 3 (.mv (.t 12)),
.s 2 (.mv (.t 13)),
.s 4 (.mv (.t 14))] [0,2,3,4])
(.seq
(.seq
(.reg [
.s 15 (.mv (.t 3)),
.s 16 (.bin .eql (some .int) (.t 15) (.k 0)),
.s 17 (.mv (.t 16)),
.g 18 (.mv (.t 3)) 17 false,
.g 19 (.mv (.t 0)) 17 false,
.g 20 (.lenS (.t 19)) 17 false,
.g 21 (.bin .gtr none (.t 18) (.t 20)) 17 false,
.s 22 (.pick (.t 17) (.c (.bool true)) (.t 21))] [0,2,3,4,22])
(.cnd (.t 22)
(.seq
(.reg [
.s 2 (.mv (.k 0)),
.s 3 (.mv (.k 0))] [2,3])
.ret)
.skip))
(.seq
(.seq
(.reg [
.s 5 (.mv (.k 1))] [0,2,3,4,5])
(.blk 0
(.seq
(.trim [0,2,3,4,5])
(.lop
(.seq
(.seq
(.seq
(.reg [
.s 23 (.mv (.t 5)),
.s 24 (.mv (.t 3)),
.s 25 (.bin .lss none (.t 23) (.t 24))] [0,2,3,4,5,25])
(.cnd (.t 25)
.skip
(.exit 0)))
(.seq
(.blk 1
(.seq
(.seq
(.reg [
.s 28 (.mv (.t 0)),
.s 29 (.mv (.t 5)),
.s 30 (.ixS (.t 28) (.t 29)),
.s 31 (.bin .shr none (.t 30) (.c (.int .u64 6))),
.s 32 (.bin .neq (some .int) (.t 31) (.c (.int .u8 2)))] [0,2,3,4,5,32])
(.cnd (.t 32)
(.seq
(.reg [
.s 2 (.mv (.k 0)),
.s 3 (.mv (.k 0))] [2,3])
.ret)
.skip))
(.reg [
.s 33 (.mv (.t 2)),
.s 34 (.bin .shl none (.t 33) (.c (.int .u64 6))),
.s 35 (.mv (.t 0)),
.s 36 (.mv (.t 5)),
.s 37 (.ixS (.t 35) (.t 36)),
.s 38 (.bin .and none (.t 37) (.c (.int .u8 63))),
.s 39 (.cvI .i64 (.t 38)),
.s 40 (.bin .or none (.t 34) (.t 39)),
.s 2 (.mv (.t 40))] [0,2,3,4,5])))
(.reg [
.s 26 (.mv (.t 5)),
.s 27 (.bin .add none (.t 26) (.k 1)),
.s 5 (.mv (.t 27))] [0,2,3,4,5])))
(.trim [0,2,3,4,5]))))))
(.seq
(.seq
(.reg [
.s 41 (.mv (.t 2)),
.s 42 (.mv (.t 4)),
.s 43 (.bin .lss none (.t 41) (.t 42)),
.s 44 (.mv (.t 43)),
.g 45 (.mv (.t 2)) 44 false,
.g 46 (.call 173 [(.t 45)]) 44 false,
.g 47 (.un .not (.t 46)) 44 false,
.s 48 (.pick (.t 44) (.c (.bool true)) (.t 47))] [2,3,48])
(.cnd (.t 48)
(.seq
(.reg [
.s 2 (.mv (.k 0)),
.s 3 (.mv (.k 0))] [2,3])
.ret)
.skip))
(.seq
(.reg [
.s 49 (.mv (.t 2)),
.s 50 (.mv (.t 3)),
.s 2 (.mv (.t 49)),
.s 3 (.mv (.t 50))] [2,3])
.ret))))))),
[.tmp 2,.tmp 3]⟩
/-- emend/text.Quoted -/
def F139 : DF := ⟨1,
(.seq
(.reg [
.s 2 (.mv (.c (.str []))),
.s 3 (.mv (.k 0)),
.s 4 (.mv (.c .nilp))] [0])
(.seq
(.seq
(.reg [
.s 10 (.mv (.t 0)),
.s 11 (.bin .eql (some .str) (.t 10) (.c (.str [])))] [0,11])
(.cnd (.t 11)
(.seq
(.reg [
.s 12 (.call 85 [(.k 0),(.k 14)]),
.s 2 (.mv (.c (.str []))),
.s 3 (.mv (.k 0)),
.s 4 (.mv (.t 12))] [2,3,4])
.ret)
.skip))
(.seq
(.seq
(.reg [
.s 13 (.mv (.t 0)),
.s 14 (.ixS (.t 13) (.k 0)),
.s 15 (.bin .neq (some .int) (.t 14) (.c (.int .u8 34)))] [0,15])
(.cnd (.t 15)
(.seq
(.reg [
.s 16 (.call 85 [(.k 0),(.k 13)]),
.s 2 (.mv (.c (.str []))),
.s 3 (.mv (.k 0)),
.s 4 (.mv (.t 16))] [2,3,4])
.ret)
.skip))
(.seq
(.reg [
.s 5 (.mv (.c (.sl 1 nz [])))] [0,5])
(.seq
(.seq
(.reg [
.s 6 (.mv (.k 1))] [0,5,6])
(.blk 0
(.seq
(.trim [0,5,6])
(.lop
(.seq
(.seq
(.seq
(.reg [
.s 17 (.mv (.t 6)),
.s 18 (.mv (.t 0)),
.s 19 (.lenS (.t 18)),
.s 20 (.bin .lss none (.t 17) (.t 19))] [0,5,6,20])
(.cnd (.t 20)
.skip
(.exit 0)))
(.blk 1
(.seq
(.reg [
.s 21 (.mv (.t 0)),
.s 22 (.mv (.t 6)),
.s 23 (.ixS (.t 21) (.t 22)),
.s 7 (.mv (.t 23))] [0,5,6,7])
(.blk 2
(.seq
(.reg [
.s 31 (.mv (.t 7)),
.s 32 (.bin .eql (some .int) (.t 31) (.c (.int .u8 34))),
.s 30 (.mv (.t 32))] [0,5,6,7,30])
(.cnd (.t 30)
(.seq
(.reg [
.s 33 (.mv (.t 5)),
.s 34 (.cvBS (.t 33)),
.s 35 (.mv (.t 6)),
.s 36 (.bin .add none (.t 35) (.k 1)),
.s 2 (.mv (.t 34)),
.s 3 (.mv (.t 36)),
.s 4 (.mv (.c .nilp))] [2,3,4])
.ret)
(.seq
(.reg [
.s 38 (.mv (.t 7)),
.s 39 (.bin .lss none (.t 38) (.c (.int .u8 32))),
.s 37 (.mv (.t 39))] [0,5,6,7,37])
(.cnd (.t 37)
(.seq
(.reg [
.s 40 (.mv (.t 6)),
.s 41 (.call 85 [(.t 40),(.k 13)]),
.s 2 (.mv (.c (.str []))),
.s 3 (.mv (.k 0)),
.s 4 (.mv (.t 41))] [2,3,4])
.ret)
(.seq
(.reg [
.s 43 (.mv (.t 7)),
.s 44 (.bin .eql (some .int) (.t 43) (.c (.int .u8 92))),
.s 42 (.mv (.t 44))] [0,5,6,7,42])
(.cnd (.t 42)
(.seq
(.reg [
.s 46 (.mv (.t 0)),
.s 47 (.mv (.t 6)),
.s 48 (.bin .add none (.t 47) (.k 1)),
.s 49 (.slS (.t 46) (some (.t 48)) none),
.s 50 (.call 174 [(.t 49)]),
.s 45 (.mv (.t 50)),
.s 51 (.ext (.t 45) 0),
.s 52 (.ext (.t 45) 1),
.s 8 (.mv (.t 51)),
.s 9 (.mv (.t 52))] [0,5,6,8,9])
(.seq
(.seq
(.reg [
.s 53 (.mv (.t 9)),
.s 54 (.bin .eql (some .int) (.t 53) (.k 0))] [0,5,6,8,9,54])
(.cnd (.t 54)
(.seq
(.reg [
.s 55 (.mv (.t 6)),
.s 56 (.call 85 [(.t 55),(.k 11)]),
.s 2 (.mv (.c (.str []))),
.s 3 (.mv (.k 0)),
.s 4 (.mv (.t 56))] [2,3,4])
.ret)
.skip))
(.seq
(.reg [
.s 57 (.mv (.t 5)),
.s 58 (.mv (.t 8)),
.s 59 (.call 175 [(.t 57),(.t 58)]),
.s 5 (.mv (.t 59))] [0,5,6,9])
(.reg [
.s 60 (.mv (.t 6)),
.s 61 (.mv (.t 9)),
.s 62 (.bin .add none (.k 1) (.t 61)),
.s 63 (.bin .add none (.t 60) (.t 62)),
.s 6 (.mv (.t 63))] [0,5,6]))))
(.seq
(.reg [
.s 24 (.mv (.t 5)),
.s 25 (.mv (.t 7)),
.s 26 (.bldT 5 1 1 (.int .u8 0) [(0,(.t 25))]),
.s 27 (.app false 5 1 1 (.t 24) (.t 26)),
.s 5 (.mv (.t 27))] [0,5,6])
(.reg [
.s 28 (.mv (.t 6)),
.s 29 (.bin .add none (.t 28) (.k 1)),
.s 6 (.mv (.t 29))] [0,5,6]))))))))))))
(.trim [0,5,6]))))))
(.seq
(.reg [
.s 64 (.mv (.t 0)),
.s 65 (.lenS (.t 64)),
.s 66 (.call 85 [(.t 65),(.k 14)]),
.s 2 (.mv (.c (.str []))),
.s 3 (.mv (.k 0)),
.s 4 (.mv (.t 66))] [2,3,4])
.ret)))))),
[.tmp 2,.tmp 3,.tmp 4]⟩
/-- (*emend/tree.Place).Must -/
def F140 : DF := ⟨2,
(.seq
(.seq
(.reg [
.s 4 (.mv (.t 0)),
.s 5 (.mv (.t 1)),
.s 6 (.call 90 [(.t 4),(.t 5)]),
.s 7 (.un .not (.t 6))] [0,7])
(.cnd (.t 7)
(.reg [
.s 8 (.mv (.t 0)),
.s 9 (.call 55 [(.t 8)])] [0])
.skip))
(.reg [
.s 10 (.mv (.t 0)),
.s 11 (.nilc (.t 10)),
.s 12 (.fa 1 (.t 11)),
.s 13 (.ld false 1 (.t 12)),
.s 14 (.bin .add none (.t 13) (.k 1)),
.s 15 (.nilc (.t 10)),
.s 16 (.fa 1 (.t 15)),
.n (.st 1 (.t 16) (.t 14))] [])),
[]⟩
/-- emend/tree.Digit -/
def F141 : DF := ⟨1,
(.seq
(.reg [
.s 2 (.mv (.c (.bool false)))] [0])
(.seq
(.reg [
.s 3 (.mv (.t 0)),
.s 4 (.bin .geq none (.t 3) (.c (.int .u8 48))),
.s 5 (.mv (.t 4)),
.g 6 (.mv (.t 0)) 5 true,
.g 7 (.bin .leq none (.t 6) (.c (.int .u8 57))) 5 true,
.s 8 (.pick (.t 5) (.t 7) (.c (.bool false))),
.s 2 (.mv (.t 8))] [2])
.ret)),
[.tmp 2]⟩
/-- emend/tree.Letter -/
def F142 : DF := ⟨1,
(.seq
(.reg [
.s 2 (.mv (.c (.bool false)))] [0])
(.seq
(.reg [
.s 3 (.mv (.t 0)),
.s 4 (.bin .geq none (.t 3) (.c (.int .u8 97))),
.s 5 (.mv (.t 4)),
.g 6 (.mv (.t 0)) 5 true,
.g 7 (.bin .leq none (.t 6) (.c (.int .u8 122))) 5 true,
.s 8 (.pick (.t 5) (.t 7) (.c (.bool false))),
.s 9 (.mv (.t 8)),
.g 10 (.mv (.t 0)) 9 false,
.g 11 (.bin .geq none (.t 10) (.c (.int .u8 65))) 9 false,
.g 12 (.mv (.t 11)) 9 false,
.g 13 (.mv (.t 0)) 12 true,
.g 14 (.bin .leq none (.t 13) (.c (.int .u8 90))) 12 true,
.g 15 (.pick (.t 12) (.t 14) (.c (.bool false))) 9 false,
.s 16 (.pick (.t 9) (.c (.bool true)) (.t 15)),
.s 2 (.mv (.t 16))] [2])
.ret)),
[.tmp 2]⟩
/-- emend/num.right -/
def F143 : DF := ⟨1,
(.seq
(.reg [
.s 2 (.alL [(.bool false),(.str []),(.int .i64 0)]),
.s 3 (.mv (.k 0))] [0,2])
(.seq
(.seq
(.reg [
.s 7 (.mv (.t 0)),
.s 8 (.call 81 [(.t 7)]),
.s 6 (.mv (.t 8)),
.s 9 (.ext (.t 6) 0),
.s 10 (.ext (.t 6) 1),
.s 4 (.mv (.t 9)),
.s 5 (.mv (.t 10))] [0,2,5])
(.seq
(.reg [
.s 11 (.mv (.t 5)),
.s 12 (.bin .neq (some .int) (.t 11) (.k 0))] [0,2,5,12])
(.cnd (.t 12)
(.seq
(.reg [
.s 13 (.bld [(.bool false),(.str []),(.int .i64 0)] []),
.s 14 (.mv (.t 5)),
.n (.st 3 (.t 2) (.t 13)),
.s 3 (.mv (.t 14))] [2,3])
.ret)
.skip)))
(.seq
(.reg [
.s 15 (.mv (.t 0)),
.s 16 (.call 132 [(.t 15)]),
.s 17 (.ext (.t 16) 0),
.s 18 (.ext (.t 16) 1),
.n (.st 3 (.t 2) (.t 17)),
.s 3 (.mv (.t 18))] [2,3])
.ret))),
[.cell 2 true 3,.tmp 3]⟩
/-- emend/num.order -/
def F144 : DF := ⟨2,
(.seq
(.reg [
.s 2 (.bxL (.t 0)),
.s 3 (.bxL (.t 1)),
.s 4 (.mv (.k 0))] [2,3])
(.seq
(.drw [
((.s 7 (.fa 1 (.t 2)),(some 2)),[]),
((.s 8 (.ld false 1 (.t 7)),(some 2)),[]),
((.s 9 (.lenS (.t 8)),none),[]),
((.s 10 (.fa 1 (.t 3)),(some 3)),[]),
((.s 11 (.ld false 1 (.t 10)),(some 3)),[]),
((.s 12 (.lenS (.t 11)),none),[]),
((.s 5 (.mv (.t 9)),none),[]),
((.s 6 (.mv (.t 12)),none),[])] [2,3,5,6])
(.seq
(.blk 0
(.seq
(.reg [
.s 14 (.mv (.t 5)),
.s 15 (.bin .eql (some .int) (.t 14) (.k 0)),
.s 16 (.mv (.t 15)),
.g 17 (.mv (.t 6)) 16 false,
.g 18 (.bin .eql (some .int) (.t 17) (.k 0)) 16 false,
.s 19 (.pick (.t 16) (.c (.bool true)) (.t 18)),
.s 13 (.mv (.t 19))] [2,3,5,6,13])
(.cnd (.t 13)
(.seq
(.reg [
.s 20 (.mv (.t 5)),
.s 21 (.mn [(.k 1),(.t 20)]),
.s 22 (.mv (.t 6)),
.s 23 (.mn [(.k 1),(.t 22)]),
.s 24 (.bin .sub none (.t 21) (.t 23)),
.s 4 (.mv (.t 24))] [4])
.ret)
(.seq
(.reg [
.s 26 (.mv (.t 5)),
.s 27 (.fa 2 (.t 2)),
.s 28 (.ld false 1 (.t 27)),
.s 29 (.bin .add none (.t 26) (.t 28)),
.s 30 (.mv (.t 6)),
.s 31 (.fa 2 (.t 3)),
.s 32 (.ld false 1 (.t 31)),
.s 33 (.bin .add none (.t 30) (.t 32)),
.s 34 (.bin .neq (some .int) (.t 29) (.t 33)),
.s 25 (.mv (.t 34))] [2,3,5,6,25])
(.cnd (.t 25)
(.seq
(.reg [
.s 35 (.mv (.t 5)),
.s 36 (.fa 2 (.t 2)),
.s 37 (.ld false 1 (.t 36)),
.s 38 (.bin .add none (.t 35) (.t 37)),
.s 39 (.mv (.t 6)),
.s 40 (.bin .sub none (.t 38) (.t 39)),
.s 41 (.fa 2 (.t 3)),
.s 42 (.ld false 1 (.t 41)),
.s 43 (.bin .sub none (.t 40) (.t 42)),
.s 44 (.call 176 [(.t 43)]),
.s 4 (.mv (.t 44))] [4])
.ret)
.skip)))))
(.seq
(.reg [
.s 45 (.fa 1 (.t 2)),
.s 46 (.ld false 1 (.t 45)),
.s 47 (.fa 1 (.t 3)),
.s 48 (.ld false 1 (.t 47)),
.s 49 (.call 104 [(.t 46),(.t 48)]),
.s 4 (.mv (.t 49))] [4])
.ret)))),
[.tmp 4]⟩
/-- internal/bytealg.CompareString -/
def F145 : DF := ⟨2,
(.seq
(.reg [
.s 4 (.mv (.k 0))] [0,1])
(.seq
(.reg [
.s 5 (.mv (.t 0)),
.s 6 (.mv (.t 1)),
.s 7 (.xtn .compare [(.t 5),(.t 6)]),
.s 4 (.mv (.t 7))] [4])
.ret)),
[.tmp 4]⟩
/-- slices.stableCmpFunc[int] -/
def F150 : DF := ⟨3,
(.seq
(.reg [
.s 6 (.mv (.k 20))] [0,1,2,6])
(.seq
(.reg [
.s 10 (.mv (.t 6)),
.s 7 (.mv (.k 0)),
.s 8 (.mv (.t 10))] [0,1,2,6,7,8])
(.seq
(.blk 0
(.seq
(.trim [0,1,2,6,7,8])
(.lop
(.seq
(.seq
(.seq
(.reg [
.s 11 (.mv (.t 8)),
.s 12 (.mv (.t 1)),
.s 13 (.bin .leq none (.t 11) (.t 12))] [0,1,2,6,7,8,13])
(.cnd (.t 13)
.skip
(.exit 0)))
(.blk 1
(.seq
(.reg [
.s 14 (.mv (.t 0)),
.s 15 (.mv (.t 7)),
.s 16 (.mv (.t 8)),
.s 17 (.mv (.t 2)),
.s 18 (.call 180 [(.t 14),(.t 15),(.t 16),(.t 17)])] [0,1,2,6,8])
(.seq
(.reg [
.s 19 (.mv (.t 8)),
.s 7 (.mv (.t 19))] [0,1,2,6,7,8])
(.reg [
.s 20 (.mv (.t 8)),
.s 21 (.mv (.t 6)),
.s 22 (.bin .add none (.t 20) (.t 21)),
.s 8 (.mv (.t 22))] [0,1,2,6,7,8])))))
(.trim [0,1,2,6,7,8])))))
(.seq
(.reg [
.s 23 (.mv (.t 0)),
.s 24 (.mv (.t 7)),
.s 25 (.mv (.t 1)),
.s 26 (.mv (.t 2)),
.s 27 (.call 180 [(.t 23),(.t 24),(.t 25),(.t 26)])] [0,1,2,6])
(.blk 2
(.seq
(.trim [0,1,2,6])
(.lop
(.seq
(.seq
(.seq
(.reg [
.s 28 (.mv (.t 6)),
.s 29 (.mv (.t 1)),
.s 30 (.bin .lss none (.t 28) (.t 29))] [0,1,2,6,30])
(.cnd (.t 30)
.skip
(.exit 2)))
(.blk 3
(.seq
(.reg [
.s 31 (.mv (.t 6)),
.s 32 (.bin .mul none (.k 2) (.t 31)),
.s 7 (.mv (.k 0)),
.s 8 (.mv (.t 32))] [0,1,2,6,7,8])
(.seq
(.blk 4
(.seq
(.trim [0,1,2,6,7,8])
(.lop
(.seq
(.seq
(.seq
(.reg [
.s 33 (.mv (.t 8)),
.s 34 (.mv (.t 1)),
.s 35 (.bin .leq none (.t 33) (.t 34))] [0,1,2,6,7,8,35])
(.cnd (.t 35)
.skip
(.exit 4)))
(.blk 5
(.seq
(.reg [
.s 36 (.mv (.t 0)),
.s 37 (.mv (.t 7)),
.s 38 (.mv (.t 7)),
.s 39 (.mv (.t 6)),
.s 40 (.bin .add none (.t 38) (.t 39)),
.s 41 (.mv (.t 8)),
.s 42 (.mv (.t 2)),
.s 43 (.call 181 [(.t 36),(.t 37),(.t 40),(.t 41),(.t 42)])] [0,1,2,6,8])
(.seq
(.reg [
.s 44 (.mv (.t 8)),
.s 7 (.mv (.t 44))] [0,1,2,6,7,8])
(.reg [
.s 45 (.mv (.t 8)),
.s 46 (.mv (.t 6)),
.s 47 (.bin .mul none (.k 2) (.t 46)),
.s 48 (.bin .add none (.t 45) (.t 47)),
.s 8 (.mv (.t 48))] [0,1,2,6,7,8])))))
(.trim [0,1,2,6,7,8])))))
(.seq
(.seq
(.reg [
.s 49 (.mv (.t 7)),
.s 50 (.mv (.t 6)),
.s 51 (.bin .add none (.t 49) (.t 50)),
.s 9 (.mv (.t 51))] [0,1,2,6,7,9])
(.seq
(.reg [
.s 52 (.mv (.t 9)),
.s 53 (.mv (.t 1)),
.s 54 (.bin .lss none (.t 52) (.t 53))] [0,1,2,6,7,9,54])
(.cnd (.t 54)
(.reg [
.s 55 (.mv (.t 0)),
.s 56 (.mv (.t 7)),
.s 57 (.mv (.t 9)),
.s 58 (.mv (.t 1)),
.s 59 (.mv (.t 2)),
.s 60 (.call 181 [(.t 55),(.t 56),(.t 57),(.t 58),(.t 59)])] [0,1,2,6])
.skip)))
(.reg [
.s 61 (.mv (.t 6)),
.s 62 (.bin .mul none (.t 61) (.k 2)),
.s 6 (.mv (.t 62))] [0,1,2,6]))))))
(.trim [0,1,2,6]))))))))),
[]⟩
/-- (*strings.Builder).copyCheck -/
def F159 : DF := ⟨1,
(.seq
(.reg [
.s 2 (.mv (.t 0)),
.s 3 (.nilc (.t 2)),
.s 4 (.fa 0 (.t 3)),
.s 5 (.ld false 1 (.t 4)),
.s 6 (.bin .eql (some .ptr) (.t 5) (.c .nilp))] [0,6])
(.cnd (.t 6)
(.reg [
.s 7 (.mv (.t 0)),
.s 8 (.mv (.t 0)),
.s 9 (.cvU (.t 8)),
.s 10 (.xtn .noEscape [(.t 9)]),
.s 11 (.cvP [(75,(0,2)),(76,(0,2)),(77,(0,2)),(78,(0,2))] (.t 10)),
.s 12 (.nilc (.t 7)),
.s 13 (.fa 0 (.t 12)),
.n (.st 1 (.t 13) (.t 11))] [])
(.seq
(.reg [
.s 14 (.mv (.t 0)),
.s 15 (.nilc (.t 14)),
.s 16 (.fa 0 (.t 15)),
.s 17 (.ld false 1 (.t 16)),
.s 18 (.mv (.t 0)),
.s 19 (.bin .neq (some .ptr) (.t 17) (.t 18))] [19])
(.cnd (.t 19)
.fail
.skip)))),
[]⟩
/-- emend/num.cut -/
def F160 : DF := ⟨1,
(.seq
(.reg [
.s 2 (.mv (.c (.bool false))),
.s 3 (.mv (.c (.str []))),
.s 4 (.mv (.c (.str []))),
.s 5 (.mv (.c (.str []))),
.s 6 (.mv (.c (.bool false)))] [0,4])
(.seq
(.reg [
.s 10 (.mv (.t 0)),
.s 7 (.mv (.t 10))] [4,7])
(.seq
(.seq
(.reg [
.s 11 (.mv (.t 7)),
.s 12 (.call 185 [(.t 11),(.c (.str [45]))]),
.s 2 (.mv (.t 12))] [2,4,7])
(.seq
(.reg [
.s 13 (.mv (.t 2))] [2,4,7,13])
(.cnd (.t 13)
(.reg [
.s 14 (.mv (.t 7)),
.s 15 (.slS (.t 14) (some (.k 1)) none),
.s 7 (.mv (.t 15))] [2,4,7])
.skip)))
(.seq
(.reg [
.s 16 (.mv (.t 7)),
.s 17 (.call 164 [(.t 16)]),
.s 8 (.mv (.t 17))] [2,4,7,8])
(.seq
(.seq
(.reg [
.s 18 (.mv (.t 8)),
.s 19 (.bin .eql (some .int) (.t 18) (.k 0)),
.s 20 (.mv (.t 19)),
.g 21 (.mv (.t 8)) 20 false,
.g 22 (.bin .gtr none (.t 21) (.k 1)) 20 false,
.g 23 (.mv (.t 22)) 20 false,
.g 24 (.mv (.t 7)) 23 true,
.g 25 (.ixS (.t 24) (.k 0)) 23 true,
.g 26 (.bin .eql (some .int) (.t 25) (.c (.int .u8 48))) 23 true,
.g 27 (.pick (.t 23) (.t 26) (.c (.bool false))) 20 false,
.s 28 (.pick (.t 20) (.c (.bool true)) (.t 27))] [2,4,7,8,28])
(.cnd (.t 28)
(.seq
(.reg [
.s 2 (.mv (.c (.bool false))),
.s 3 (.mv (.c (.str []))),
.s 4 (.mv (.c (.str []))),
.s 5 (.mv (.c (.str []))),
.s 6 (.mv (.c (.bool false)))] [2,3,4,5,6])
.ret)
.skip))
(.seq
(.drw [
((.s 29 (.mv (.t 7)),none),[]),
((.s 30 (.mv (.t 8)),none),[]),
((.s 31 (.slS (.t 29) none (some (.t 30))),none),[]),
((.s 32 (.mv (.t 7)),none),[]),
((.s 33 (.mv (.t 8)),none),[]),
((.s 34 (.slS (.t 32) (some (.t 33)) none),none),[]),
((.s 3 (.mv (.t 31)),none),[]),
((.s 7 (.mv (.t 34)),none),[])] [2,3,4,7])
(.seq
(.seq
(.reg [
.s 35 (.mv (.t 7)),
.s 36 (.call 185 [(.t 35),(.c (.str [46]))])] [2,3,4,7,36])
(.cnd (.t 36)
(.seq
(.seq
(.reg [
.s 37 (.mv (.t 7)),
.s 38 (.slS (.t 37) (some (.k 1)) none),
.s 39 (.call 164 [(.t 38)]),
.s 8 (.mv (.t 39))] [2,3,7,8])
(.seq
(.reg [
.s 40 (.mv (.t 8)),
.s 41 (.bin .eql (some .int) (.t 40) (.k 0))] [2,3,7,8,41])
(.cnd (.t 41)
(.seq
(.reg [
.s 2 (.mv (.c (.bool false))),
.s 3 (.mv (.c (.str []))),
.s 4 (.mv (.c (.str []))),
.s 5 (.mv (.c (.str []))),
.s 6 (.mv (.c (.bool false)))] [2,3,4,5,6])
.ret)
.skip)))
(.drw [
((.s 42 (.mv (.t 7)),none),[]),
((.s 43 (.mv (.t 8)),none),[]),
((.s 44 (.bin .add none (.k 1) (.t 43)),none),[]),
((.s 45 (.slS (.t 42) (some (.k 1)) (some (.t 44))),none),[]),
((.s 46 (.mv (.t 7)),none),[]),
((.s 47 (.mv (.t 8)),none),[]),
((.s 48 (.bin .add none (.k 1) (.t 47)),none),[]),
((.s 49 (.slS (.t 46) (some (.t 48)) none),none),[]),
((.s 4 (.mv (.t 45)),none),[]),
((.s 7 (.mv (.t 49)),none),[])] [2,3,4,7]))
.skip))
(.seq
(.seq
(.reg [
.s 50 (.mv (.t 7)),
.s 51 (.bin .eql (some .str) (.t 50) (.c (.str [])))] [2,3,4,7,51])
(.cnd (.t 51)
(.seq
(.reg [
.s 52 (.mv (.t 2)),
.s 53 (.mv (.t 3)),
.s 54 (.mv (.t 4)),
.s 2 (.mv (.t 52)),
.s 3 (.mv (.t 53)),
.s 4 (.mv (.t 54)),
.s 5 (.mv (.c (.str []))),
.s 6 (.mv (.c (.bool true)))] [2,3,4,5,6])
.ret)
.skip))
(.seq
(.seq
(.reg [
.s 55 (.mv (.t 7)),
.s 56 (.ixS (.t 55) (.k 0)),
.s 57 (.bin .neq (some .int) (.t 56) (.c (.int .u8 101))),
.s 58 (.mv (.t 57)),
.g 59 (.mv (.t 7)) 58 true,
.g 60 (.ixS (.t 59) (.k 0)) 58 true,
.g 61 (.bin .neq (some .int) (.t 60) (.c (.int .u8 69))) 58 true,
.s 62 (.pick (.t 58) (.t 61) (.c (.bool false)))] [2,3,4,7,62])
(.cnd (.t 62)
(.seq
(.reg [
.s 2 (.mv (.c (.bool false))),
.s 3 (.mv (.c (.str []))),
.s 4 (.mv (.c (.str []))),
.s 5 (.mv (.c (.str []))),
.s 6 (.mv (.c (.bool false)))] [2,3,4,5,6])
.ret)
.skip))
(.seq
(.reg [
.s 63 (.mv (.t 7)),
.s 64 (.slS (.t 63) (some (.k 1)) none),
.s 5 (.mv (.t 64))] [2,3,4,5])
(.seq
(.reg [
.s 65 (.mv (.t 5)),
.s 66 (.call 186 [(.t 65),(.c (.str [45]))]),
.s 9 (.mv (.t 66))] [2,3,4,5,9])
(.seq
(.seq
(.reg [
.s 67 (.mv (.t 9)),
.s 68 (.mv (.t 5)),
.s 69 (.bin .eql (some .str) (.t 67) (.t 68))] [2,3,4,5,9,69])
(.cnd (.t 69)
(.reg [
.s 70 (.mv (.t 5)),
.s 71 (.call 186 [(.t 70),(.c (.str [43]))]),
.s 9 (.mv (.t 71))] [2,3,4,5,9])
.skip))
(.seq
(.seq
(.reg [
.s 72 (.mv (.t 9)),
.s 73 (.bin .eql (some .str) (.t 72) (.c (.str []))),
.s 74 (.mv (.t 73)),
.g 75 (.mv (.t 9)) 74 false,
.g 76 (.call 164 [(.t 75)]) 74 false,
.g 77 (.mv (.t 9)) 74 false,
.g 78 (.lenS (.t 77)) 74 false,
.g 79 (.bin .lss none (.t 76) (.t 78)) 74 false,
.s 80 (.pick (.t 74) (.c (.bool true)) (.t 79))] [2,3,4,5,80])
(.cnd (.t 80)
(.seq
(.reg [
.s 2 (.mv (.c (.bool false))),
.s 3 (.mv (.c (.str []))),
.s 4 (.mv (.c (.str []))),
.s 5 (.mv (.c (.str []))),
.s 6 (.mv (.c (.bool false)))] [2,3,4,5,6])
.ret)
.skip))
(.seq
(.reg [
.s 81 (.mv (.t 2)),
.s 82 (.mv (.t 3)),
.s 83 (.mv (.t 4)),
.s 84 (.mv (.t 5)),
.s 2 (.mv (.t 81)),
.s 3 (.mv (.t 82)),
.s 4 (.mv (.t 83)),
.s 5 (.mv (.t 84)),
.s 6 (.mv (.c (.bool true)))] [2,3,4,5,6])
.ret)))))))))))))),
[.tmp 2,.tmp 3,.tmp 4,.tmp 5,.tmp 6]⟩
/-- emend/num.exponent -/
def F161 : DF := ⟨1,
(.seq
(.reg [
.s 2 (.mv (.k 0)),
.s 3 (.mv (.c (.bool false)))] [0])
(.seq
(.reg [
.s 7 (.mv (.t 0)),
.s 8 (.call 185 [(.t 7),(.c (.str [45]))]),
.s 4 (.mv (.t 8))] [0,4])
(.seq
(.reg [
.s 9 (.mv (.t 0)),
.s 10 (.call 162 [(.t 9),(.c (.str [43,45]))]),
.s 11 (.call 162 [(.t 10),(.c (.str [48]))]),
.s 0 (.mv (.t 11))] [0,4])
(.seq
(.seq
(.reg [
.s 12 (.mv (.t 0)),
.s 13 (.lenS (.t 12)),
.s 14 (.bin .gtr none (.t 13) (.k 6))] [0,4,14])
(.cnd (.t 14)
(.seq
(.reg [
.s 2 (.mv (.k 0)),
.s 3 (.mv (.c (.bool false)))] [2,3])
.ret)
.skip))
(.seq
(.reg [
.s 16 (.mv (.t 0)),
.s 17 (.bin .add none (.c (.str [48])) (.t 16)),
.s 18 (.call 187 [(.t 17)]),
.s 15 (.mv (.t 18)),
.s 19 (.ext (.t 15) 0),
.s 20 (.ext (.t 15) 1),
.s 5 (.mv (.t 19)),
.s 6 (.mv (.t 20))] [4,5])
(.seq
(.seq
(.reg [
.s 21 (.mv (.t 4))] [5,21])
(.cnd (.t 21)
(.seq
(.reg [
.s 22 (.mv (.t 5)),
.s 23 (.un .neg (.t 22)),
.s 2 (.mv (.t 23)),
.s 3 (.mv (.c (.bool true)))] [2,3])
.ret)
.skip))
(.seq
(.reg [
.s 24 (.mv (.t 5)),
.s 2 (.mv (.t 24)),
.s 3 (.mv (.c (.bool true)))] [2,3])
.ret))))))),
[.tmp 2,.tmp 3]⟩
/-- strings.TrimLeft -/
def F162 : DF := ⟨2,
(.seq
(.reg [
.s 4 (.mv (.c (.str [])))] [0,1])
(.seq
(.seq
(.reg [
.s 7 (.mv (.t 0)),
.s 8 (.bin .eql (some .str) (.t 7) (.c (.str []))),
.s 9 (.mv (.t 8)),
.g 10 (.mv (.t 1)) 9 false,
.g 11 (.bin .eql (some .str) (.t 10) (.c (.str []))) 9 false,
.s 12 (.pick (.t 9) (.c (.bool true)) (.t 11))] [0,1,12])
(.cnd (.t 12)
(.seq
(.reg [
.s 13 (.mv (.t 0)),
.s 4 (.mv (.t 13))] [4])
.ret)
.skip))
(.seq
(.seq
(.reg [
.s 14 (.mv (.t 1)),
.s 15 (.lenS (.t 14)),
.s 16 (.bin .eql (some .int) (.t 15) (.k 1)),
.s 17 (.mv (.t 16)),
.g 18 (.mv (.t 1)) 17 true,
.g 19 (.ixS (.t 18) (.k 0)) 17 true,
.g 20 (.bin .lss none (.t 19) (.c (.int .u8 128))) 17 true,
.s 21 (.pick (.t 17) (.t 20) (.c (.bool false)))] [0,1,21])
(.cnd (.t 21)
(.seq
(.reg [
.s 22 (.mv (.t 0)),
.s 23 (.mv (.t 1)),
.s 24 (.ixS (.t 23) (.k 0)),
.s 25 (.call 188 [(.t 22),(.t 24)]),
.s 4 (.mv (.t 25))] [4])
.ret)
.skip))
(.seq
(.seq
(.reg [
.s 27 (.mv (.t 1)),
.s 28 (.call 189 [(.t 27)]),
.s 26 (.mv (.t 28)),
.s 29 (.ext (.t 26) 0),
.s 30 (.ext (.t 26) 1),
.s 5 (.alH 218 [(.bool false),(.bool false),(.bool false),(.bool false),(.bool false),(.bool false),(.bool false),(.bool false),(.bool false),(.bool false),(.bool false),(.bool false),(.bool false),(.bool false),(.bool false),(.bool false),(.bool false),(.bool false),(.bool false),(.bool false),(.bool false),(.bool false),(.bool false),(.bool false),(.bool false),(.bool false),(.bool false),(.bool false),(.bool false),(.bool false),(.bool false),(.bool false),(.bool false),(.bool false),(.bool false),(.bool false),(.bool false),(.bool false),(.bool false),(.bool false),(.bool false),(.bool false),(.bool false),(.bool false),(.bool false),(.bool false),(.bool false),(.bool false),(.bool false),(.bool false),(.bool false),(.bool false),(.bool false),(.bool false),(.bool false),(.bool false),(.bool false),(.bool false),(.bool false),(.bool false),(.bool false),(.bool false),(.bool false),(.bool false),(.bool false),(.bool false),(.bool false),(.bool false),(.bool false),(.bool false),(.bool false),(.bool false),(.bool false),(.bool false),(.bool false),(.bool false),(.bool false),(.bool false),(.bool false),(.bool false),(.bool false),(.bool false),(.bool false),(.bool false),(.bool false),(.bool false),(.bool false),(.bool false),(.bool false),(.bool false),(.bool false),(.bool false),(.bool false),(.bool false),(.bool false),(.bool false),(.bool false),(.bool false),(.bool false),(.bool false),(.bool false),(.bool false),(.bool false),(.bool false),(.bool false),(.bool false),(.bool false),(.bool false),(.bool false),(.bool false),(.bool false),(.bool false),(.bool false),(.bool false),(.bool false),(.bool false),(.bool false),(.bool false),(.bool false),(.bool false),(.bool false),(.bool false),(.bool false),(.bool false),(.bool false),(.bool false),(.bool false),(.bool false),(.bool false),(.bool false),(.bool false),(.bool false),(.bool false),(.bool false),(.bool false),(.bool false),(.bool false),(.bool false),(.bool false),(.bool false),(.bool false),(.bool false),(.bool false),(.bool false),(.bool false),(.bool false),(.bool false),(.bool false),(.bool false),(.bool false),(.bool false),(.bool false),(.bool false),(.bool false),(.bool false),(.bool false),(.bool false),(.bool false),(.bool false),(.bool false),(.bool false),(.bool false),(.bool false),(.bool false),(.bool false),(.bool false),(.bool false),(.bool false),(.bool false),(.bool false),(.bool false),(.bool false),(.bool false),(.bool false),(.bool false),(.bool false),(.bool false),(.bool false),(.bool false),(.bool false),(.bool false),(.bool false),(.bool false),(.bool false),(.bool false),(.bool false),(.bool false),(.bool false),(.bool false),(.bool false),(.bool false),(.bool false),(.bool false),(.bool false),(.bool false),(.bool false),(.bool false),(.bool false),(.bool false),(.bool false),(.bool false),(.bool false),(.bool false),(.bool false),(.bool false),(.bool false),(.bool false),(.bool false),(.bool false),(.bool false),(.bool false),(.bool false),(.bool false),(.bool false),(.bool false),(.bool false),(.bool false),(.bool false),(.bool false),(.bool false),(.bool false),(.bool false),(.bool false),(.bool false),(.bool false),(.bool false),(.bool false),(.bool false),(.bool false),(.bool false),(.bool false),(.bool false),(.bool false),(.bool false),(.bool false),(.bool false),(.bool false),(.bool false),(.bool false),(.bool false),(.bool false),(.bool false),(.bool false),(.bool false),(.bool false),(.bool false),(.bool false),(.bool false),(.bool false),(.bool false),(.bool false),(.bool false),(.bool false),(.bool false),(.bool false),(.bool false)]),
.n (.st 256 (.t 5) (.t 29)),
.s 6 (.mv (.t 30))] [0,1,5,6])
(.seq
(.reg [
.s 31 (.mv (.t 6))] [0,1,5,31])
(.cnd (.t 31)
(.seq
(.reg [
.s 32 (.mv (.t 0)),
.s 33 (.call 190 [(.t 32),(.t 5)]),
.s 4 (.mv (.t 33))] [4])
.ret)
.skip)))
(.seq
(.reg [
.s 34 (.mv (.t 0)),
.s 35 (.mv (.t 1)),
.s 36 (.call 191 [(.t 34),(.t 35)]),
.s 4 (.mv (.t 36))] [4])
.ret))))),
[.tmp 4]⟩
/-- strings.TrimRight -/
def F163 : DF := ⟨2,
(.seq
(.reg [
.s 4 (.mv (.c (.str [])))] [0,1])
(.seq
(.seq
(.reg [
.s 7 (.mv (.t 0)),
.s 8 (.bin .eql (some .str) (.t 7) (.c (.str []))),
.s 9 (.mv (.t 8)),
.g 10 (.mv (.t 1)) 9 false,
.g 11 (.bin .eql (some .str) (.t 10) (.c (.str []))) 9 false,
.s 12 (.pick (.t 9) (.c (.bool true)) (.t 11))] [0,1,12])
(.cnd (.t 12)
(.seq
(.reg [
.s 13 (.mv (.t 0)),
.s 4 (.mv (.t 13))] [4])
.ret)
.skip))
(.seq
(.seq
(.reg [
.s 14 (.mv (.t 1)),
.s 15 (.lenS (.t 14)),
.s 16 (.bin .eql (some .int) (.t 15) (.k 1)),
.s 17 (.mv (.t 16)),
.g 18 (.mv (.t 1)) 17 true,
.g 19 (.ixS (.t 18) (.k 0)) 17 true,
.g 20 (.bin .lss none (.t 19) (.c (.int .u8 128))) 17 true,
.s 21 (.pick (.t 17) (.t 20) (.c (.bool false)))] [0,1,21])
(.cnd (.t 21)
(.seq
(.reg [
.s 22 (.mv (.t 0)),
.s 23 (.mv (.t 1)),
.s 24 (.ixS (.t 23) (.k 0)),
.s 25 (.call 192 [(.t 22),(.t 24)]),
.s 4 (.mv (.t 25))] [4])
.ret)
.skip))
(.seq
(.seq
(.reg [
.s 27 (.mv (.t 1)),
.s 28 (.call 189 [(.t 27)]),
.s 26 (.mv (.t 28)),
.s 29 (.ext (.t 26) 0),
.s 30 (.ext (.t 26) 1),
.s 5 (.alH 218 [(.bool false),(.bool false),(.bool false),(.bool false),(.bool false),(.bool false),(.bool false),(.bool false),(.bool false),(.bool false),(.bool false),(.bool false),(.bool false),(.bool false),(.bool false),(.bool false),(.bool false),(.bool false),(.bool false),(.bool false),(.bool false),(.bool false),(.bool false),(.bool false),(.bool false),(.bool false),(.bool false),(.bool false),(.bool false),(.bool false),(.bool false),(.bool false),(.bool false),(.bool false),(.bool false),(.bool false),(.bool false),(.bool false),(.bool false),(.bool false),(.bool false),(.bool false),(.bool false),(.bool false),(.bool false),(.bool false),(.bool false),(.bool false),(.bool false),(.bool false),(.bool false),(.bool false),(.bool false),(.bool false),(.bool false),(.bool false),(.bool false),(.bool false),(.bool false),(.bool false),(.bool false),(.bool false),(.bool false),(.bool false),(.bool false),(.bool false),(.bool false),(.bool false),(.bool false),(.bool false),(.bool false),(.bool false),(.bool false),(.bool false),(.bool false),(.bool false),(.bool false),(.bool false),(.bool false),(.bool false),(.bool false),(.bool false),(.bool false),(.bool false),(.bool false),(.bool false),(.bool false),(.bool false),(.bool false),(.bool false),(.bool false),(.bool false),(.bool false),(.bool false),(.bool false),(.bool false),(.bool false),(.bool false),(.bool false),(.bool false),(.bool false),(.bool false),(.bool false),(.bool false),(.bool false),(.bool false),(.bool false),(.bool false),(.bool false),(.bool false),(.bool false),(.bool false),(.bool false),(.bool false),(.bool false),(.bool false),(.bool false),(.bool false),(.bool false),(.bool false),(.bool false),(.bool false),(.bool false),(.bool false),(.bool false),(.bool false),(.bool false),(.bool false),(.bool false),(.bool false),(.bool false),(.bool false),(.bool false),(.bool false),(.bool false),(.bool false),(.bool false),(.bool false),(.bool false),(.bool false),(.bool false),(.bool false),(.bool false),(.bool false),(.bool false),(.bool false),(.bool false),(.bool false),(.bool false),(.bool false),(.bool false),(.bool false),(.bool false),(.bool false),(.bool false),(.bool false),(.bool false),(.bool false),(.bool false),(.bool false),(.bool false),(.bool false),(.bool false),(.bool false),(.bool false),(.bool false),(.bool false),(.bool false),(.bool false),(.bool false),(.bool false),(.bool false),(.bool false),(.bool false),(.bool false),(.bool false),(.bool false),(.bool false),(.bool false),(.bool false),(.bool false),(.bool false),(.bool false),(.bool false),(.bool false),(.bool false),(.bool false),(.bool false),(.bool false),(.bool false),(.bool false),(.bool false),(.bool false),(.bool false),(.bool false),(.bool false),(.bool false),(.bool false),(.bool false),(.bool false),(.bool false),(.bool false),(.bool false),(.bool false),(.bool false),(.bool false),(.bool false),(.bool false),(.bool false),(.bool false),(.bool false),(.bool false),(.bool false),(.bool false),(.bool false),(.bool false),(.bool false),(.bool false),(.bool false),(.bool false),(.bool false),(.bool false),(.bool false),(.bool false),(.bool false),(.bool false),(.bool false),(.bool false),(.bool false),(.bool false),(.bool false),(.bool false),(.bool false),(.bool false),(.bool false),(.bool false),(.bool false),(.bool false),(.bool false),(.bool false),(.bool false),(.bool false),(.bool false),(.bool false),(.bool false),(.bool false),(.bool false),(.bool false),(.bool false),(.bool false),(.bool false),(.bool false),(.bool false),(.bool false),(.bool false),(.bool false)]),
.n (.st 256 (.t 5) (.t 29)),
.s 6 (.mv (.t 30))] [0,1,5,6])
(.seq
(.reg [
.s 31 (.mv (.t 6))] [0,1,5,31])
(.cnd (.t 31)
(.seq
(.reg [
.s 32 (.mv (.t 0)),
.s 33 (.call 193 [(.t 32),(.t 5)]),
.s 4 (.mv (.t 33))] [4])
.ret)
.skip)))
(.seq
(.reg [
.s 34 (.mv (.t 0)),
.s 35 (.mv (.t 1)),
.s 36 (.call 194 [(.t 34),(.t 35)]),
.s 4 (.mv (.t 36))] [4])
.ret))))),
[.tmp 4]⟩
/-- emend/num.run -/
def F164 : DF := ⟨1,
(.seq
(.reg [
.s 2 (.mv (.k 0))] [0])
(.seq
(.reg [
.s 3 (.mv (.k 0))] [0,3])
(.seq
(.blk 0
(.seq
(.trim [0,3])
(.lop
(.seq
(.seq
(.seq
(.reg [
.s 4 (.mv (.t 3)),
.s 5 (.mv (.t 0)),
.s 6 (.lenS (.t 5)),
.s 7 (.bin .lss none (.t 4) (.t 6)),
.s 8 (.mv (.t 7)),
.g 9 (.mv (.t 0)) 8 true,
.g 10 (.mv (.t 3)) 8 true,
.g 11 (.ixS (.t 9) (.t 10)) 8 true,
.g 12 (.call 195 [(.t 11)]) 8 true,
.s 13 (.pick (.t 8) (.t 12) (.c (.bool false)))] [0,3,13])
(.cnd (.t 13)
.skip
(.exit 0)))
(.blk 1
(.reg [
.s 14 (.mv (.t 3)),
.s 15 (.bin .add none (.t 14) (.k 1)),
.s 3 (.mv (.t 15))] [0,3])))
(.trim [0,3])))))
(.seq
(.reg [
.s 16 (.mv (.t 3)),
.s 2 (.mv (.t 16))] [2])
.ret)))),
[.tmp 2]⟩
/-- strconv.Itoa -/
def F165 : DF := ⟨1,
(.seq
(.reg [
.s 2 (.mv (.c (.str [])))] [0])
(.seq
(.reg [
.s 3 (.mv (.t 0)),
.s 4 (.call 196 [(.t 3)]),
.s 2 (.mv (.t 4))] [2])
.ret)),
[.tmp 2]⟩
/-- emend/tree.two -/
def F166 : DF := ⟨1,
(.seq
(.reg [
.s 2 (.mv (.k 0))] [0])
(.seq
(.seq
(.reg [
.s 3 (.mv (.t 0)),
.s 4 (.lenS (.t 3)),
.s 5 (.bin .neq (some .int) (.t 4) (.k 2)),
.s 6 (.mv (.t 5)),
.g 7 (.mv (.t 0)) 6 false,
.g 8 (.ixS (.t 7) (.k 0)) 6 false,
.g 9 (.bin .lss none (.t 8) (.c (.int .u8 48))) 6 false,
.s 10 (.pick (.t 6) (.c (.bool true)) (.t 9)),
.s 11 (.mv (.t 10)),
.g 12 (.mv (.t 0)) 11 false,
.g 13 (.ixS (.t 12) (.k 0)) 11 false,
.g 14 (.bin .gtr none (.t 13) (.c (.int .u8 57))) 11 false,
.s 15 (.pick (.t 11) (.c (.bool true)) (.t 14)),
.s 16 (.mv (.t 15)),
.g 17 (.mv (.t 0)) 16 false,
.g 18 (.ixS (.t 17) (.k 1)) 16 false,
.g 19 (.bin .lss none (.t 18) (.c (.int .u8 48))) 16 false,
.s 20 (.pick (.t 16) (.c (.bool true)) (.t 19)),
.s 21 (.mv (.t 20)),
.g 22 (.mv (.t 0)) 21 false,
.g 23 (.ixS (.t 22) (.k 1)) 21 false,
.g 24 (.bin .gtr none (.t 23) (.c (.int .u8 57))) 21 false,
.s 25 (.pick (.t 21) (.c (.bool true)) (.t 24))] [0,25])
(.cnd (.t 25)
(.seq
(.reg [
.s 2 (.mv (.k (-1)))] [2])
.ret)
.skip))
(.seq
(.drw [
((.s 26 (.mv (.t 0)),none),[]),
((.s 27 (.ixS (.t 26) (.k 0)),none),[]),
((.s 28 (.bin .sub none (.t 27) (.c (.int .u8 48))),none),[]),
((.s 29 (.cvI .i64 (.t 28)),none),[]),
((.s 30 (.bin .mul none (.t 29) (.k 10)),none),[]),
((.s 31 (.mv (.t 0)),none),[]),
((.s 32 (.ixS (.t 31) (.k 1)),none),[]),
((.s 33 (.bin .sub none (.t 32) (.c (.int .u8 48))),none),[]),
((.s 34 (.cvI .i64 (.t 33)),none),[]),
((.s 35 (.bin .add none (.t 30) (.t 34)),none),[]),
((.s 2 (.mv (.t 35)),none),[])] [2])
.ret))),
[.tmp 2]⟩
/-- emend/tree.within -/
def F167 : DF := ⟨3,
(.seq
(.reg [
.s 6 (.mv (.c (.bool false)))] [0,1,2])
(.seq
(.reg [
.s 7 (.mv (.t 0)),
.s 8 (.call 166 [(.t 7)]),
.s 9 (.mv (.t 1)),
.s 10 (.bin .geq none (.t 8) (.t 9)),
.s 11 (.mv (.t 10)),
.g 12 (.mv (.t 0)) 11 true,
.g 13 (.call 166 [(.t 12)]) 11 true,
.g 14 (.mv (.t 2)) 11 true,
.g 15 (.bin .leq none (.t 13) (.t 14)) 11 true,
.s 16 (.pick (.t 11) (.t 15) (.c (.bool false))),
.s 6 (.mv (.t 16))] [6])
.ret)),
[.tmp 6]⟩
/-- emend/tree.days -/
def F168 : DF := ⟨2,
(.seq
(.reg [
.s 4 (.mv (.k 0))] [0,1])
(.seq
(.seq
(.reg [
.s 5 (.mv (.t 1))] [0,5])
(.blk 0
(.seq
(.seq
(.reg [
.s 7 (.bin .eql (some .int) (.t 5) (.k 4)),
.s 6 (.mv (.t 7))] [0,5,6])
(.cnd (.t 6)
.skip
(.seq
(.reg [
.s 8 (.bin .eql (some .int) (.t 5) (.k 6)),
.s 6 (.mv (.t 8))] [0,5,6])
(.cnd (.t 6)
.skip
(.seq
(.reg [
.s 9 (.bin .eql (some .int) (.t 5) (.k 9)),
.s 6 (.mv (.t 9))] [0,5,6])
(.cnd (.t 6)
.skip
(.reg [
.s 10 (.bin .eql (some .int) (.t 5) (.k 11)),
.s 6 (.mv (.t 10))] [0,5,6])))))))
(.cnd (.t 6)
(.seq
(.reg [
.s 4 (.mv (.k 30))] [4])
.ret)
(.seq
(.reg [
.s 12 (.bin .eql (some .int) (.t 5) (.k 2)),
.s 11 (.mv (.t 12))] [0,11])
(.cnd (.t 11)
(.seq
(.seq
(.reg [
.s 13 (.mv (.t 0)),
.s 14 (.bin .rem none (.t 13) (.k 4)),
.s 15 (.bin .eql (some .int) (.t 14) (.k 0)),
.s 16 (.mv (.t 15)),
.g 17 (.mv (.t 0)) 16 true,
.g 18 (.bin .rem none (.t 17) (.k 100)) 16 true,
.g 19 (.bin .neq (some .int) (.t 18) (.k 0)) 16 true,
.g 20 (.mv (.t 19)) 16 true,
.g 21 (.mv (.t 0)) 20 false,
.g 22 (.bin .rem none (.t 21) (.k 400)) 20 false,
.g 23 (.bin .eql (some .int) (.t 22) (.k 0)) 20 false,
.g 24 (.pick (.t 20) (.c (.bool true)) (.t 23)) 16 true,
.s 25 (.pick (.t 16) (.t 24) (.c (.bool false)))] [25])
(.cnd (.t 25)
(.seq
(.reg [
.s 4 (.mv (.k 29))] [4])
.ret)
.skip))
(.seq
(.reg [
.s 4 (.mv (.k 28))] [4])
.ret))
.skip))))))
(.seq
(.reg [
.s 4 (.mv (.k 31))] [4])
.ret))),
[.tmp 4]⟩
/-- strings.Trim -/
def F169 : DF := ⟨2,
(.seq
(.reg [
.s 4 (.mv (.c (.str [])))] [0,1])
(.seq
(.seq
(.reg [
.s 7 (.mv (.t 0)),
.s 8 (.bin .eql (some .str) (.t 7) (.c (.str []))),
.s 9 (.mv (.t 8)),
.g 10 (.mv (.t 1)) 9 false,
.g 11 (.bin .eql (some .str) (.t 10) (.c (.str []))) 9 false,
.s 12 (.pick (.t 9) (.c (.bool true)) (.t 11))] [0,1,12])
(.cnd (.t 12)
(.seq
(.reg [
.s 13 (.mv (.t 0)),
.s 4 (.mv (.t 13))] [4])
.ret)
.skip))
(.seq
(.seq
(.reg [
.s 14 (.mv (.t 1)),
.s 15 (.lenS (.t 14)),
.s 16 (.bin .eql (some .int) (.t 15) (.k 1)),
.s 17 (.mv (.t 16)),
.g 18 (.mv (.t 1)) 17 true,
.g 19 (.ixS (.t 18) (.k 0)) 17 true,
.g 20 (.bin .lss none (.t 19) (.c (.int .u8 128))) 17 true,
.s 21 (.pick (.t 17) (.t 20) (.c (.bool false)))] [0,1,21])
(.cnd (.t 21)
(.seq
(.drw [
((.s 22 (.mv (.t 0)),none),[]),
((.s 23 (.mv (.t 1)),none),[]),
((.s 24 (.ixS (.t 23) (.k 0)),none),[]),
((.s 26 (.mv (.t 1)),none),[]),
((.s 27 (.ixS (.t 26) (.k 0)),none),[]),
((.s 25 (.call 192 [(.t 22),(.t 24)]),none),[]),
((.s 28 (.call 188 [(.t 25),(.t 27)]),none),[]),
((.s 4 (.mv (.t 28)),none),[])] [4])
.ret)
.skip))
(.seq
(.seq
(.reg [
.s 30 (.mv (.t 1)),
.s 31 (.call 189 [(.t 30)]),
.s 29 (.mv (.t 31)),
.s 32 (.ext (.t 29) 0),
.s 33 (.ext (.t 29) 1),
.s 5 (.alH 218 [(.bool false),(.bool false),(.bool false),(.bool false),(.bool false),(.bool false),(.bool false),(.bool false),(.bool false),(.bool false),(.bool false),(.bool false),(.bool false),(.bool false),(.bool false),(.bool false),(.bool false),(.bool false),(.bool false),(.bool false),(.bool false),(.bool false),(.bool false),(.bool false),(.bool false),(.bool false),(.bool false),(.bool false),(.bool false),(.bool false),(.bool false),(.bool false),(.bool false),(.bool false),(.bool false),(.bool false),(.bool false),(.bool false),(.bool false),(.bool false),(.bool false),(.bool false),(.bool false),(.bool false),(.bool false),(.bool false),(.bool false),(.bool false),(.bool false),(.bool false),(.bool false),(.bool false),(.bool false),(.bool false),(.bool false),(.bool false),(.bool false),(.bool false),(.bool false),(.bool false),(.bool false),(.bool false),(.bool false),(.bool false),(.bool false),(.bool false),(.bool false),(.bool false),(.bool false),(.bool false),(.bool false),(.bool false),(.bool false),(.bool false),(.bool false),(.bool false),(.bool false),(.bool false),(.bool false),(.bool false),(.bool false),(.bool false),(.bool false),(.bool false),(.bool false),(.bool false),(.bool false),(.bool false),(.bool false),(.bool false),(.bool false),(.bool false),(.bool false),(.bool false),(.bool false),(.bool false),(.bool false),(.bool false),(.bool false),(.bool false),(.bool false),(.bool false),(.bool false),(.bool false),(.bool false),(.bool false),(.bool false),(.bool false),(.bool false),(.bool false),(.bool false),(.bool false),(.bool false),(.bool false),(.bool false),(.bool false),(.bool false),(.bool false),(.bool false),(.bool false),(.bool false),(.bool false),(.bool false),(.bool false),(.bool false),(.bool false),(.bool false),(.bool false),(.bool false),(.bool false),(.bool false),(.bool false),(.bool false),(.bool false),(.bool false),(.bool false),(.bool false),(.bool false),(.bool false),(.bool false),(.bool false),(.bool false),(.bool false),(.bool false),(.bool false),(.bool false),(.bool false),(.bool false),(.bool false),(.bool false),(.bool false),(.bool false),(.bool false),(.bool false),(.bool false),(.bool false),(.bool false),(.bool false),(.bool false),(.bool false),(.bool false),(.bool false),(.bool false),(.bool false),(.bool false),(.bool false),(.bool false),(.bool false),(.bool false),(.bool false),(.bool false),(.bool false),(.bool false),(.bool false),(.bool false),(.bool false),(.bool false),(.bool false),(.bool false),(.bool false),(.bool false),(.bool false),(.bool false),(.bool false),(.bool false),(.bool false),(.bool false),(.bool false),(.bool false),(.bool false),(.bool false),(.bool false),(.bool false),(.bool false),(.bool false),(.bool false),(.bool false),(.bool false),(.bool false),(.bool false),(.bool false),(.bool false),(.bool false),(.bool false),(.bool false),(.bool false),(.bool false),(.bool false),(.bool false),(.bool false),(.bool false),(.bool false),(.bool false),(.bool false),(.bool false),(.bool false),(.bool false),(.bool false),(.bool false),(.bool false),(.bool false),(.bool false),(.bool false),(.bool false),(.bool false),(.bool false),(.bool false),(.bool false),(.bool false),(.bool false),(.bool false),(.bool false),(.bool false),(.bool false),(.bool false),(.bool false),(.bool false),(.bool false),(.bool false),(.bool false),(.bool false),(.bool false),(.bool false),(.bool false),(.bool false),(.bool false),(.bool false),(.bool false),(.bool false),(.bool false),(.bool false),(.bool false),(.bool false),(.bool false),(.bool false),(.bool false)]),
.n (.st 256 (.t 5) (.t 32)),
.s 6 (.mv (.t 33))] [0,1,5,6])
(.seq
(.reg [
.s 34 (.mv (.t 6))] [0,1,5,34])
(.cnd (.t 34)
(.seq
(.reg [
.s 35 (.mv (.t 0)),
.s 36 (.call 193 [(.t 35),(.t 5)]),
.s 37 (.call 190 [(.t 36),(.t 5)]),
.s 4 (.mv (.t 37))] [4])
.ret)
.skip)))
(.seq
(.reg [
.s 38 (.mv (.t 0)),
.s 39 (.mv (.t 1)),
.s 40 (.call 194 [(.t 38),(.t 39)]),
.s 41 (.mv (.t 1)),
.s 42 (.call 191 [(.t 40),(.t 41)]),
.s 4 (.mv (.t 42))] [4])
.ret))))),
[.tmp 4]⟩
/-- strings.HasSuffix -/
def F170 : DF := ⟨2,
(.seq
(.reg [
.s 4 (.mv (.c (.bool false)))] [0,1])
(.seq
(.reg [
.s 5 (.mv (.t 0)),
.s 6 (.mv (.t 1)),
.s 7 (.call 197 [(.t 5),(.t 6)]),
.s 4 (.mv (.t 7))] [4])
.ret)),
[.tmp 4]⟩
/-- internal/stringslite.Cut -/
def F171 : DF := ⟨2,
(.seq
(.reg [
.s 4 (.mv (.c (.str []))),
.s 5 (.mv (.c (.str []))),
.s 6 (.mv (.c (.bool false)))] [0,1])
(.seq
(.seq
(.reg [
.s 8 (.mv (.t 0)),
.s 9 (.mv (.t 1)),
.s 10 (.call 198 [(.t 8),(.t 9)]),
.s 7 (.mv (.t 10))] [0,1,7])
(.seq
(.reg [
.s 11 (.mv (.t 7)),
.s 12 (.bin .geq none (.t 11) (.k 0))] [0,1,7,12])
(.cnd (.t 12)
(.seq
(.drw [
((.s 13 (.mv (.t 0)),none),[]),
((.s 14 (.mv (.t 7)),none),[]),
((.s 15 (.slS (.t 13) none (some (.t 14))),none),[]),
((.s 16 (.mv (.t 0)),none),[]),
((.s 17 (.mv (.t 7)),none),[]),
((.s 18 (.mv (.t 1)),none),[]),
((.s 19 (.lenS (.t 18)),none),[]),
((.s 20 (.bin .add none (.t 17) (.t 19)),none),[]),
((.s 21 (.slS (.t 16) (some (.t 20)) none),none),[]),
((.s 4 (.mv (.t 15)),none),[]),
((.s 5 (.mv (.t 21)),none),[]),
((.s 6 (.mv (.c (.bool true))),none),[])] [4,5,6])
.ret)
.skip)))
(.seq
(.reg [
.s 22 (.mv (.t 0)),
.s 4 (.mv (.t 22)),
.s 5 (.mv (.c (.str []))),
.s 6 (.mv (.c (.bool false)))] [4,5,6])
.ret))),
[.tmp 4,.tmp 5,.tmp 6]⟩
/-- emend/text.row -/
def F172 : DF := ⟨1,
(.seq
(.reg [
.s 2 (.mv (.k 0)),
.s 3 (.mv (.k 0)),
.s 4 (.mv (.k 0))] [0])
(.seq
(.blk 0
(.seq
(.reg [
.s 6 (.mv (.t 0)),
.s 7 (.bin .shr none (.t 6) (.c (.int .u64 7))),
.s 8 (.bin .eql (some .int) (.t 7) (.c (.int .u8 0))),
.s 5 (.mv (.t 8))] [0,5])
(.cnd (.t 5)
(.seq
(.reg [
.s 9 (.mv (.t 0)),
.s 10 (.cvI .i64 (.t 9)),
.s 2 (.mv (.k 1)),
.s 3 (.mv (.t 10)),
.s 4 (.mv (.k 0))] [2,3,4])
.ret)
(.seq
(.reg [
.s 12 (.mv (.t 0)),
.s 13 (.bin .shr none (.t 12) (.c (.int .u64 5))),
.s 14 (.bin .eql (some .int) (.t 13) (.c (.int .u8 6))),
.s 11 (.mv (.t 14))] [0,11])
(.cnd (.t 11)
(.seq
(.reg [
.s 15 (.mv (.t 0)),
.s 16 (.bin .and none (.t 15) (.c (.int .u8 31))),
.s 17 (.cvI .i64 (.t 16)),
.s 2 (.mv (.k 2)),
.s 3 (.mv (.t 17)),
.s 4 (.mv (.k 128))] [2,3,4])
.ret)
(.seq
(.reg [
.s 19 (.mv (.t 0)),
.s 20 (.bin .shr none (.t 19) (.c (.int .u64 4))),
.s 21 (.bin .eql (some .int) (.t 20) (.c (.int .u8 14))),
.s 18 (.mv (.t 21))] [0,18])
(.cnd (.t 18)
(.seq
(.reg [
.s 22 (.mv (.t 0)),
.s 23 (.bin .and none (.t 22) (.c (.int .u8 15))),
.s 24 (.cvI .i64 (.t 23)),
.s 2 (.mv (.k 3)),
.s 3 (.mv (.t 24)),
.s 4 (.mv (.k 2048))] [2,3,4])
.ret)
(.seq
(.reg [
.s 26 (.mv (.t 0)),
.s 27 (.bin .shr none (.t 26) (.c (.int .u64 3))),
.s 28 (.bin .eql (some .int) (.t 27) (.c (.int .u8 30))),
.s 25 (.mv (.t 28))] [0,25])
(.cnd (.t 25)
(.seq
(.reg [
.s 29 (.mv (.t 0)),
.s 30 (.bin .and none (.t 29) (.c (.int .u8 7))),
.s 31 (.cvI .i64 (.t 30)),
.s 2 (.mv (.k 4)),
.s 3 (.mv (.t 31)),
.s 4 (.mv (.k 65536))] [2,3,4])
.ret)
.skip)))))))))
(.seq
(.reg [
.s 2 (.mv (.k 0)),
.s 3 (.mv (.k 0)),
.s 4 (.mv (.k 0))] [2,3,4])
.ret))),
[.tmp 2,.tmp 3,.tmp 4]⟩
/-- emend/text.character -/
def F173 : DF := ⟨1,
(.seq
(.reg [
.s 2 (.mv (.c (.bool false)))] [0])
(.seq
(.reg [
.s 3 (.mv (.t 0)),
.s 4 (.bin .geq none (.t 3) (.k 0)),
.s 5 (.mv (.t 4)),
.g 6 (.mv (.t 0)) 5 true,
.g 7 (.bin .leq none (.t 6) (.k 1114111)) 5 true,
.s 8 (.pick (.t 5) (.t 7) (.c (.bool false))),
.s 9 (.mv (.t 8)),
.g 10 (.mv (.t 0)) 9 true,
.g 11 (.bin .lss none (.t 10) (.k 55296)) 9 true,
.g 12 (.mv (.t 11)) 9 true,
.g 13 (.mv (.t 0)) 12 false,
.g 14 (.bin .gtr none (.t 13) (.k 57343)) 12 false,
.g 15 (.pick (.t 12) (.c (.bool true)) (.t 14)) 9 true,
.s 16 (.pick (.t 9) (.t 15) (.c (.bool false))),
.s 2 (.mv (.t 16))] [2])
.ret)),
[.tmp 2]⟩
/-- emend/text.Escaped -/
def F174 : DF := ⟨1,
(.seq
(.reg [
.s 2 (.mv (.k 0)),
.s 3 (.mv (.k 0))] [0])
(.seq
(.seq
(.reg [
.s 4 (.mv (.t 0)),
.s 5 (.bin .eql (some .str) (.t 4) (.c (.str [])))] [0,5])
(.cnd (.t 5)
(.seq
(.reg [
.s 2 (.mv (.k 0)),
.s 3 (.mv (.k 0))] [2,3])
.ret)
.skip))
(.seq
(.seq
(.reg [
.s 6 (.mv (.t 0)),
.s 7 (.ixS (.t 6) (.k 0))] [0,7])
(.blk 0
(.seq
(.seq
(.reg [
.s 9 (.bin .eql (some .int) (.t 7) (.c (.int .u8 34))),
.s 8 (.mv (.t 9))] [0,7,8])
(.cnd (.t 8)
.skip
(.seq
(.reg [
.s 10 (.bin .eql (some .int) (.t 7) (.c (.int .u8 92))),
.s 8 (.mv (.t 10))] [0,7,8])
(.cnd (.t 8)
.skip
(.reg [
.s 11 (.bin .eql (some .int) (.t 7) (.c (.int .u8 47))),
.s 8 (.mv (.t 11))] [0,7,8])))))
(.cnd (.t 8)
(.seq
(.reg [
.s 12 (.mv (.t 0)),
.s 13 (.ixS (.t 12) (.k 0)),
.s 14 (.cvI .i64 (.t 13)),
.s 2 (.mv (.t 14)),
.s 3 (.mv (.k 1))] [2,3])
.ret)
(.seq
(.reg [
.s 16 (.bin .eql (some .int) (.t 7) (.c (.int .u8 98))),
.s 15 (.mv (.t 16))] [0,7,15])
(.cnd (.t 15)
(.seq
(.reg [
.s 2 (.mv (.k 8)),
.s 3 (.mv (.k 1))] [2,3])
.ret)
(.seq
(.reg [
.s 18 (.bin .eql (some .int) (.t 7) (.c (.int .u8 116))),
.s 17 (.mv (.t 18))] [0,7,17])
(.cnd (.t 17)
(.seq
(.reg [
.s 2 (.mv (.k 9)),
.s 3 (.mv (.k 1))] [2,3])
.ret)
(.seq
(.reg [
.s 20 (.bin .eql (some .int) (.t 7) (.c (.int .u8 110))),
.s 19 (.mv (.t 20))] [0,7,19])
(.cnd (.t 19)
(.seq
(.reg [
.s 2 (.mv (.k 10)),
.s 3 (.mv (.k 1))] [2,3])
.ret)
(.seq
(.reg [
.s 22 (.bin .eql (some .int) (.t 7) (.c (.int .u8 102))),
.s 21 (.mv (.t 22))] [0,7,21])
(.cnd (.t 21)
(.seq
(.reg [
.s 2 (.mv (.k 12)),
.s 3 (.mv (.k 1))] [2,3])
.ret)
(.seq
(.reg [
.s 24 (.bin .eql (some .int) (.t 7) (.c (.int .u8 114))),
.s 23 (.mv (.t 24))] [0,7,23])
(.cnd (.t 23)
(.seq
(.reg [
.s 2 (.mv (.k 13)),
.s 3 (.mv (.k 1))] [2,3])
.ret)
(.seq
(.reg [
.s 26 (.bin .eql (some .int) (.t 7) (.c (.int .u8 117))),
.s 25 (.mv (.t 26))] [0,25])
(.cnd (.t 25)
(.seq
(.reg [
.s 27 (.mv (.t 0)),
.s 28 (.call 199 [(.t 27)]),
.s 29 (.ext (.t 28) 0),
.s 30 (.ext (.t 28) 1),
.s 2 (.mv (.t 29)),
.s 3 (.mv (.t 30))] [2,3])
.ret)
.skip))))))))))))))))
(.seq
(.reg [
.s 2 (.mv (.k 0)),
.s 3 (.mv (.k 0))] [2,3])
.ret)))),
[.tmp 2,.tmp 3]⟩
/-- emend/text.put -/
def F175 : DF := ⟨2,
(.seq
(.reg [
.s 3 (.bxH 3 (.t 1)),
.s 4 (.mv (.c (.sl 1 nz [])))] [0,3])
(.seq
(.reg [
.s 6 (.mkf 200 [] [(.t 3)]),
.s 5 (.mv (.t 6))] [0,3,5])
(.seq
(.blk 0
(.seq
(.reg [
.s 8 (.ld false 1 (.t 3)),
.s 9 (.bin .lss none (.t 8) (.k 128)),
.s 7 (.mv (.t 9))] [0,3,5,7])
(.cnd (.t 7)
(.seq
(.reg [
.s 10 (.mv (.t 0)),
.s 11 (.ld false 1 (.t 3)),
.s 12 (.cvI .u8 (.t 11)),
.s 13 (.bldT 5 1 1 (.int .u8 0) [(0,(.t 12))]),
.s 14 (.app false 5 1 1 (.t 10) (.t 13)),
.s 4 (.mv (.t 14))] [4])
.ret)
(.seq
(.reg [
.s 16 (.ld false 1 (.t 3)),
.s 17 (.bin .lss none (.t 16) (.k 2048)),
.s 15 (.mv (.t 17))] [0,3,5,15])
(.cnd (.t 15)
(.seq
(.drw [
((.s 18 (.mv (.t 0)),none),[]),
((.s 19 (.ld false 1 (.t 3)),none),[]),
((.s 20 (.bin .shr none (.t 19) (.c (.int .u64 6))),none),[]),
((.s 21 (.bin .or none (.k 192) (.t 20)),none),[]),
((.s 22 (.cvI .u8 (.t 21)),none),[]),
((.s 23 (.mv (.t 5)),none),[]),
((.s 24 (.callv (.t 23) [(.k 0)]),none),[(.s 19 (.ld false 1 (.t 3)),none)]),
((.s 25 (.bldS 1 2 (.int .u8 0) [(0,(.t 22)),(1,(.t 24))]),none),[]),
((.s 26 (.app false 5 1 1 (.t 18) (.t 25)),none),[]),
((.s 4 (.mv (.t 26)),none),[])] [4])
.ret)
(.seq
(.reg [
.s 28 (.ld false 1 (.t 3)),
.s 29 (.bin .lss none (.t 28) (.k 65536)),
.s 27 (.mv (.t 29))] [0,3,5,27])
(.cnd (.t 27)
(.seq
(.drw [
((.s 30 (.mv (.t 0)),none),[]),
((.s 31 (.ld false 1 (.t 3)),none),[]),
((.s 32 (.bin .shr none (.t 31) (.c (.int .u64 12))),none),[]),
((.s 33 (.bin .or none (.k 224) (.t 32)),none),[]),
((.s 34 (.cvI .u8 (.t 33)),none),[]),
((.s 35 (.mv (.t 5)),none),[]),
((.s 37 (.mv (.t 5)),none),[]),
((.s 36 (.callv (.t 35) [(.k 6)]),none),[(.s 31 (.ld false 1 (.t 3)),none)]),
((.s 38 (.callv (.t 37) [(.k 0)]),none),[(.s 31 (.ld false 1 (.t 3)),none)]),
((.s 39 (.bldS 1 3 (.int .u8 0) [(0,(.t 34)),(1,(.t 36)),(2,(.t 38))]),none),[]),
((.s 40 (.app false 5 1 1 (.t 30) (.t 39)),none),[]),
((.s 4 (.mv (.t 40)),none),[])] [4])
.ret)
.skip)))))))
(.seq
(.drw [
((.s 41 (.mv (.t 0)),none),[]),
((.s 42 (.ld false 1 (.t 3)),none),[]),
((.s 43 (.bin .shr none (.t 42) (.c (.int .u64 18))),none),[]),
((.s 44 (.bin .or none (.k 240) (.t 43)),none),[]),
((.s 45 (.cvI .u8 (.t 44)),none),[]),
((.s 46 (.mv (.t 5)),none),[]),
((.s 48 (.mv (.t 5)),none),[]),
((.s 50 (.mv (.t 5)),none),[]),
((.s 47 (.callv (.t 46) [(.k 12)]),none),[(.s 42 (.ld false 1 (.t 3)),none)]),
((.s 49 (.callv (.t 48) [(.k 6)]),none),[(.s 42 (.ld false 1 (.t 3)),none)]),
((.s 51 (.callv (.t 50) [(.k 0)]),none),[(.s 42 (.ld false 1 (.t 3)),none)]),
((.s 52 (.bldS 1 4 (.int .u8 0) [(0,(.t 45)),(1,(.t 47)),(2,(.t 49)),(3,(.t 51))]),none),[]),
((.s 53 (.app false 5 1 1 (.t 41) (.t 52)),none),[]),
((.s 4 (.mv (.t 53)),none),[])] [4])
.ret)))),
[.tmp 4]⟩
/-- emend/num.sign -/
def F176 : DF := ⟨1,
(.seq
(.reg [
.s 2 (.mv (.k 0))] [0])
(.seq
(.reg [
.s 3 (.mv (.t 0)),
.s 4 (.mn [(.k 1),(.t 3)]),
.s 5 (.mx [(.k (-1)),(.t 4)]),
.s 2 (.mv (.t 5))] [2])
.ret)),
[.tmp 2]⟩
/-- slices.insertionSortCmpFunc[int] -/
def F180 : DF := ⟨4,
(.seq
(.reg [
.s 10 (.mv (.t 1)),
.s 11 (.bin .add none (.t 10) (.k 1)),
.s 8 (.mv (.t 11))] [0,1,2,3,8])
(.blk 0
(.seq
(.trim [0,1,2,3,8])
(.lop
(.seq
(.seq
(.seq
(.reg [
.s 12 (.mv (.t 8)),
.s 13 (.mv (.t 2)),
.s 14 (.bin .lss none (.t 12) (.t 13))] [0,1,2,3,8,14])
(.cnd (.t 14)
.skip
(.exit 0)))
(.seq
(.blk 1
(.seq
(.reg [
.s 17 (.mv (.t 8)),
.s 9 (.mv (.t 17))] [0,1,2,3,8,9])
(.blk 2
(.seq
(.trim [0,1,2,3,8,9])
(.lop
(.seq
(.seq
(.seq
(.drw [
((.s 18 (.mv (.t 9)),none),[]),
((.s 19 (.mv (.t 1)),none),[]),
((.s 20 (.bin .gtr none (.t 18) (.t 19)),none),[]),
((.s 21 (.mv (.t 20)),none),[]),
((.g 22 (.mv (.t 3)) 21 true,none),[]),
((.g 23 (.mv (.t 0)) 21 true,none),[]),
((.g 24 (.mv (.t 9)) 21 true,none),[]),
((.g 25 (.ia 1 (.t 23) (.t 24)) 21 true,none),[]),
((.g 26 (.ld false 1 (.t 25)) 21 true,none),[]),
((.g 27 (.mv (.t 0)) 21 true,none),[]),
((.g 28 (.mv (.t 9)) 21 true,none),[]),
((.g 29 (.bin .sub none (.t 28) (.k 1)) 21 true,none),[]),
((.g 30 (.ia 1 (.t 27) (.t 29)) 21 true,none),[]),
((.g 31 (.ld false 1 (.t 30)) 21 true,none),[]),
((.g 32 (.callv (.t 22) [(.t 26),(.t 31)]) 21 true,none),[]),
((.g 33 (.bin .lss none (.t 32) (.k 0)) 21 true,none),[]),
((.s 34 (.pick (.t 21) (.t 33) (.c (.bool false))),none),[])] [0,1,2,3,8,9,34])
(.cnd (.t 34)
.skip
(.exit 2)))
(.seq
(.blk 3
(.drw [
((.s 37 (.mv (.t 0)),none),[]),
((.s 38 (.mv (.t 9)),none),[]),
((.s 39 (.mv (.t 0)),none),[]),
((.s 40 (.mv (.t 9)),none),[]),
((.s 41 (.bin .sub none (.t 40) (.k 1)),none),[]),
((.s 42 (.mv (.t 0)),none),[]),
((.s 43 (.mv (.t 9)),none),[]),
((.s 44 (.bin .sub none (.t 43) (.k 1)),none),[]),
((.s 45 (.ia 1 (.t 42) (.t 44)),none),[]),
((.s 46 (.ld false 1 (.t 45)),none),[]),
((.s 47 (.mv (.t 0)),none),[]),
((.s 48 (.mv (.t 9)),none),[]),
((.s 49 (.ia 1 (.t 47) (.t 48)),none),[]),
((.s 50 (.ld false 1 (.t 49)),none),[]),
((.s 51 (.ia 1 (.t 37) (.t 38)),none),[]),
((.n (.st 1 (.t 51) (.t 46)),none),[]),
((.s 52 (.ia 1 (.t 39) (.t 41)),none),[]),
((.n (.st 1 (.t 52) (.t 50)),none),[])] [0,1,2,3,8,9]))
(.reg [
.s 35 (.mv (.t 9)),
.s 36 (.bin .sub none (.t 35) (.k 1)),
.s 9 (.mv (.t 36))] [0,1,2,3,8,9])))
(.trim [0,1,2,3,8,9])))))))
(.reg [
.s 15 (.mv (.t 8)),
.s 16 (.bin .add none (.t 15) (.k 1)),
.s 8 (.mv (.t 16))] [0,1,2,3,8])))
(.trim [0,1,2,3,8])))))),
[]⟩
/-- slices.symMergeCmpFunc[int] -/
def F181 : DF := ⟨5,
(.seq
(.seq
(.reg [
.s 25 (.mv (.t 2)),
.s 26 (.mv (.t 1)),
.s 27 (.bin .sub none (.t 25) (.t 26)),
.s 28 (.bin .eql (some .int) (.t 27) (.k 1))] [0,1,2,3,4,28])
(.cnd (.t 28)
(.seq
(.reg [
.s 29 (.mv (.t 2)),
.s 10 (.mv (.t 29))] [0,1,3,4,10])
(.seq
(.reg [
.s 30 (.mv (.t 3)),
.s 11 (.mv (.t 30))] [0,1,4,10,11])
(.seq
(.blk 0
(.seq
(.trim [0,1,4,10,11])
(.lop
(.seq
(.seq
(.seq
(.reg [
.s 31 (.mv (.t 10)),
.s 32 (.mv (.t 11)),
.s 33 (.bin .lss none (.t 31) (.t 32))] [0,1,4,10,11,33])
(.cnd (.t 33)
.skip
(.exit 0)))
(.blk 1
(.seq
(.reg [
.s 34 (.mv (.t 10)),
.s 35 (.mv (.t 11)),
.s 36 (.bin .add none (.t 34) (.t 35)),
.s 37 (.cvI .u64 (.t 36)),
.s 38 (.bin .shr none (.t 37) (.c (.int .u64 1))),
.s 39 (.cvI .i64 (.t 38)),
.s 12 (.mv (.t 39))] [0,1,4,10,11,12])
(.seq
(.drw [
((.s 40 (.mv (.t 4)),none),[]),
((.s 41 (.mv (.t 0)),none),[]),
((.s 42 (.mv (.t 12)),none),[]),
((.s 43 (.ia 1 (.t 41) (.t 42)),none),[]),
((.s 44 (.ld false 1 (.t 43)),none),[]),
((.s 45 (.mv (.t 0)),none),[]),
((.s 46 (.mv (.t 1)),none),[]),
((.s 47 (.ia 1 (.t 45) (.t 46)),none),[]),
((.s 48 (.ld false 1 (.t 47)),none),[]),
((.s 49 (.callv (.t 40) [(.t 44),(.t 48)]),none),[]),
((.s 50 (.bin .lss none (.t 49) (.k 0)),none),[])] [0,1,4,10,11,12,50])
(.cnd (.t 50)
(.reg [
.s 51 (.mv (.t 12)),
.s 52 (.bin .add none (.t 51) (.k 1)),
.s 10 (.mv (.t 52))] [0,1,4,10,11])
(.reg [
.s 53 (.mv (.t 12)),
.s 11 (.mv (.t 53))] [0,1,4,10,11]))))))
(.trim [0,1,4,10,11])))))
(.seq
(.seq
(.reg [
.s 54 (.mv (.t 1)),
.s 13 (.mv (.t 54))] [0,10,13])
(.blk 2
(.seq
(.trim [0,10,13])
(.lop
(.seq
(.seq
(.seq
(.reg [
.s 55 (.mv (.t 13)),
.s 56 (.mv (.t 10)),
.s 57 (.bin .sub none (.t 56) (.k 1)),
.s 58 (.bin .lss none (.t 55) (.t 57))] [0,10,13,58])
(.cnd (.t 58)
.skip
(.exit 2)))
(.seq
(.blk 3
(.drw [
((.s 61 (.mv (.t 0)),none),[]),
((.s 62 (.mv (.t 13)),none),[]),
((.s 63 (.mv (.t 0)),none),[]),
((.s 64 (.mv (.t 13)),none),[]),
((.s 65 (.bin .add none (.t 64) (.k 1)),none),[]),
((.s 66 (.mv (.t 0)),none),[]),
((.s 67 (.mv (.t 13)),none),[]),
((.s 68 (.bin .add none (.t 67) (.k 1)),none),[]),
((.s 69 (.ia 1 (.t 66) (.t 68)),none),[]),
((.s 70 (.ld false 1 (.t 69)),none),[]),
((.s 71 (.mv (.t 0)),none),[]),
((.s 72 (.mv (.t 13)),none),[]),
((.s 73 (.ia 1 (.t 71) (.t 72)),none),[]),
((.s 74 (.ld false 1 (.t 73)),none),[]),
((.s 75 (.ia 1 (.t 61) (.t 62)),none),[]),
((.n (.st 1 (.t 75) (.t 70)),none),[]),
((.s 76 (.ia 1 (.t 63) (.t 65)),none),[]),
((.n (.st 1 (.t 76) (.t 74)),none),[])] [0,10,13]))
(.reg [
.s 59 (.mv (.t 13)),
.s 60 (.bin .add none (.t 59) (.k 1)),
.s 13 (.mv (.t 60))] [0,10,13])))
(.trim [0,10,13]))))))
.ret))))
.skip))
(.seq
(.seq
(.reg [
.s 77 (.mv (.t 3)),
.s 78 (.mv (.t 2)),
.s 79 (.bin .sub none (.t 77) (.t 78)),
.s 80 (.bin .eql (some .int) (.t 79) (.k 1))] [0,1,2,3,4,80])
(.cnd (.t 80)
(.seq
(.reg [
.s 81 (.mv (.t 1)),
.s 14 (.mv (.t 81))] [0,2,4,14])
(.seq
(.reg [
.s 82 (.mv (.t 2)),
.s 15 (.mv (.t 82))] [0,2,4,14,15])
(.seq
(.blk 4
(.seq
(.trim [0,2,4,14,15])
(.lop
(.seq
(.seq
(.seq
(.reg [
.s 83 (.mv (.t 14)),
.s 84 (.mv (.t 15)),
.s 85 (.bin .lss none (.t 83) (.t 84))] [0,2,4,14,15,85])
(.cnd (.t 85)
.skip
(.exit 4)))
(.blk 5
(.seq
(.reg [
.s 86 (.mv (.t 14)),
.s 87 (.mv (.t 15)),
.s 88 (.bin .add none (.t 86) (.t 87)),
.s 89 (.cvI .u64 (.t 88)),
.s 90 (.bin .shr none (.t 89) (.c (.int .u64 1))),
.s 91 (.cvI .i64 (.t 90)),
.s 16 (.mv (.t 91))] [0,2,4,14,15,16])
(.seq
(.drw [
((.s 92 (.mv (.t 4)),none),[]),
((.s 93 (.mv (.t 0)),none),[]),
((.s 94 (.mv (.t 2)),none),[]),
((.s 95 (.ia 1 (.t 93) (.t 94)),none),[]),
((.s 96 (.ld false 1 (.t 95)),none),[]),
((.s 97 (.mv (.t 0)),none),[]),
((.s 98 (.mv (.t 16)),none),[]),
((.s 99 (.ia 1 (.t 97) (.t 98)),none),[]),
((.s 100 (.ld false 1 (.t 99)),none),[]),
((.s 101 (.callv (.t 92) [(.t 96),(.t 100)]),none),[]),
((.s 102 (.bin .lss none (.t 101) (.k 0)),none),[]),
((.s 103 (.un .not (.t 102)),none),[])] [0,2,4,14,15,16,103])
(.cnd (.t 103)
(.reg [
.s 104 (.mv (.t 16)),
.s 105 (.bin .add none (.t 104) (.k 1)),
.s 14 (.mv (.t 105))] [0,2,4,14,15])
(.reg [
.s 106 (.mv (.t 16)),
.s 15 (.mv (.t 106))] [0,2,4,14,15]))))))
(.trim [0,2,4,14,15])))))
(.seq
(.seq
(.reg [
.s 107 (.mv (.t 2)),
.s 17 (.mv (.t 107))] [0,14,17])
(.blk 6
(.seq
(.trim [0,14,17])
(.lop
(.seq
(.seq
(.seq
(.reg [
.s 108 (.mv (.t 17)),
.s 109 (.mv (.t 14)),
.s 110 (.bin .gtr none (.t 108) (.t 109))] [0,14,17,110])
(.cnd (.t 110)
.skip
(.exit 6)))
(.seq
(.blk 7
(.drw [
((.s 113 (.mv (.t 0)),none),[]),
((.s 114 (.mv (.t 17)),none),[]),
((.s 115 (.mv (.t 0)),none),[]),
((.s 116 (.mv (.t 17)),none),[]),
((.s 117 (.bin .sub none (.t 116) (.k 1)),none),[]),
((.s 118 (.mv (.t 0)),none),[]),
((.s 119 (.mv (.t 17)),none),[]),
((.s 120 (.bin .sub none (.t 119) (.k 1)),none),[]),
((.s 121 (.ia 1 (.t 118) (.t 120)),none),[]),
((.s 122 (.ld false 1 (.t 121)),none),[]),
((.s 123 (.mv (.t 0)),none),[]),
((.s 124 (.mv (.t 17)),none),[]),
((.s 125 (.ia 1 (.t 123) (.t 124)),none),[]),
((.s 126 (.ld false 1 (.t 125)),none),[]),
((.s 127 (.ia 1 (.t 113) (.t 114)),none),[]),
((.n (.st 1 (.t 127) (.t 122)),none),[]),
((.s 128 (.ia 1 (.t 115) (.t 117)),none),[]),
((.n (.st 1 (.t 128) (.t 126)),none),[])] [0,14,17]))
(.reg [
.s 111 (.mv (.t 17)),
.s 112 (.bin .sub none (.t 111) (.k 1)),
.s 17 (.mv (.t 112))] [0,14,17])))
(.trim [0,14,17]))))))
.ret))))
.skip))
(.seq
(.reg [
.s 129 (.mv (.t 1)),
.s 130 (.mv (.t 3)),
.s 131 (.bin .add none (.t 129) (.t 130)),
.s 132 (.cvI .u64 (.t 131)),
.s 133 (.bin .shr none (.t 132) (.c (.int .u64 1))),
.s 134 (.cvI .i64 (.t 133)),
.s 18 (.mv (.t 134))] [0,1,2,3,4,18])
(.seq
(.reg [
.s 135 (.mv (.t 18)),
.s 136 (.mv (.t 2)),
.s 137 (.bin .add none (.t 135) (.t 136)),
.s 19 (.mv (.t 137))] [0,1,2,3,4,18,19])
(.seq
(.reg [
.s 20 (.mv (.k 0)),
.s 21 (.mv (.k 0))] [0,1,2,3,4,18,19])
(.seq
(.seq
(.reg [
.s 138 (.mv (.t 2)),
.s 139 (.mv (.t 18)),
.s 140 (.bin .gtr none (.t 138) (.t 139))] [0,1,2,3,4,18,19,140])
(.cnd (.t 140)
(.seq
(.reg [
.s 141 (.mv (.t 19)),
.s 142 (.mv (.t 3)),
.s 143 (.bin .sub none (.t 141) (.t 142)),
.s 20 (.mv (.t 143))] [0,1,2,3,4,18,19,20])
(.reg [
.s 144 (.mv (.t 18)),
.s 21 (.mv (.t 144))] [0,1,2,3,4,18,19,20,21]))
(.seq
(.reg [
.s 145 (.mv (.t 1)),
.s 20 (.mv (.t 145))] [0,1,2,3,4,18,19,20])
(.reg [
.s 146 (.mv (.t 2)),
.s 21 (.mv (.t 146))] [0,1,2,3,4,18,19,20,21]))))
(.seq
(.reg [
.s 147 (.mv (.t 19)),
.s 148 (.bin .sub none (.t 147) (.k 1)),
.s 22 (.mv (.t 148))] [0,1,2,3,4,18,19,20,21,22])
(.seq
(.blk 8
(.seq
(.trim [0,1,2,3,4,18,19,20,21,22])
(.lop
(.seq
(.seq
(.seq
(.reg [
.s 149 (.mv (.t 20)),
.s 150 (.mv (.t 21)),
.s 151 (.bin .lss none (.t 149) (.t 150))] [0,1,2,3,4,18,19,20,21,22,151])
(.cnd (.t 151)
.skip
(.exit 8)))
(.blk 9
(.seq
(.reg [
.s 152 (.mv (.t 20)),
.s 153 (.mv (.t 21)),
.s 154 (.bin .add none (.t 152) (.t 153)),
.s 155 (.cvI .u64 (.t 154)),
.s 156 (.bin .shr none (.t 155) (.c (.int .u64 1))),
.s 157 (.cvI .i64 (.t 156)),
.s 23 (.mv (.t 157))] [0,1,2,3,4,18,19,20,21,22,23])
(.seq
(.drw [
((.s 158 (.mv (.t 4)),none),[]),
((.s 159 (.mv (.t 0)),none),[]),
((.s 160 (.mv (.t 22)),none),[]),
((.s 161 (.mv (.t 23)),none),[]),
((.s 162 (.bin .sub none (.t 160) (.t 161)),none),[]),
((.s 163 (.ia 1 (.t 159) (.t 162)),none),[]),
((.s 164 (.ld false 1 (.t 163)),none),[]),
((.s 165 (.mv (.t 0)),none),[]),
((.s 166 (.mv (.t 23)),none),[]),
((.s 167 (.ia 1 (.t 165) (.t 166)),none),[]),
((.s 168 (.ld false 1 (.t 167)),none),[]),
((.s 169 (.callv (.t 158) [(.t 164),(.t 168)]),none),[]),
((.s 170 (.bin .lss none (.t 169) (.k 0)),none),[]),
((.s 171 (.un .not (.t 170)),none),[])] [0,1,2,3,4,18,19,20,21,22,23,171])
(.cnd (.t 171)
(.reg [
.s 172 (.mv (.t 23)),
.s 173 (.bin .add none (.t 172) (.k 1)),
.s 20 (.mv (.t 173))] [0,1,2,3,4,18,19,20,21,22])
(.reg [
.s 174 (.mv (.t 23)),
.s 21 (.mv (.t 174))] [0,1,2,3,4,18,19,20,21,22]))))))
(.trim [0,1,2,3,4,18,19,20,21,22])))))
(.seq
(.reg [
.s 175 (.mv (.t 19)),
.s 176 (.mv (.t 20)),
.s 177 (.bin .sub none (.t 175) (.t 176)),
.s 24 (.mv (.t 177))] [0,1,2,3,4,18,20,24])
(.seq
(.seq
(.reg [
.s 178 (.mv (.t 20)),
.s 179 (.mv (.t 2)),
.s 180 (.bin .lss none (.t 178) (.t 179)),
.s 181 (.mv (.t 180)),
.g 182 (.mv (.t 2)) 181 true,
.g 183 (.mv (.t 24)) 181 true,
.g 184 (.bin .lss none (.t 182) (.t 183)) 181 true,
.s 185 (.pick (.t 181) (.t 184) (.c (.bool false)))] [0,1,2,3,4,18,20,24,185])
(.cnd (.t 185)
(.reg [
.s 186 (.mv (.t 0)),
.s 187 (.mv (.t 20)),
.s 188 (.mv (.t 2)),
.s 189 (.mv (.t 24)),
.s 190 (.mv (.t 4)),
.s 191 (.call 201 [(.t 186),(.t 187),(.t 188),(.t 189),(.t 190)])] [0,1,3,4,18,20,24])
.skip))
(.seq
(.seq
(.reg [
.s 192 (.mv (.t 1)),
.s 193 (.mv (.t 20)),
.s 194 (.bin .lss none (.t 192) (.t 193)),
.s 195 (.mv (.t 194)),
.g 196 (.mv (.t 20)) 195 true,
.g 197 (.mv (.t 18)) 195 true,
.g 198 (.bin .lss none (.t 196) (.t 197)) 195 true,
.s 199 (.pick (.t 195) (.t 198) (.c (.bool false)))] [0,1,3,4,18,20,24,199])
(.cnd (.t 199)
(.reg [
.s 200 (.mv (.t 0)),
.s 201 (.mv (.t 1)),
.s 202 (.mv (.t 20)),
.s 203 (.mv (.t 18)),
.s 204 (.mv (.t 4)),
.s 205 (.call 181 [(.t 200),(.t 201),(.t 202),(.t 203),(.t 204)])] [0,3,4,18,24])
.skip))
(.seq
(.reg [
.s 206 (.mv (.t 18)),
.s 207 (.mv (.t 24)),
.s 208 (.bin .lss none (.t 206) (.t 207)),
.s 209 (.mv (.t 208)),
.g 210 (.mv (.t 24)) 209 true,
.g 211 (.mv (.t 3)) 209 true,
.g 212 (.bin .lss none (.t 210) (.t 211)) 209 true,
.s 213 (.pick (.t 209) (.t 212) (.c (.bool false)))] [0,3,4,18,24,213])
(.cnd (.t 213)
(.reg [
.s 214 (.mv (.t 0)),
.s 215 (.mv (.t 18)),
.s 216 (.mv (.t 24)),
.s 217 (.mv (.t 3)),
.s 218 (.mv (.t 4)),
.s 219 (.call 181 [(.t 214),(.t 215),(.t 216),(.t 217),(.t 218)])] [])
.skip))))))))))))),
[]⟩
/-- strings.HasPrefix -/
def F185 : DF := ⟨2,
(.seq
(.reg [
.s 4 (.mv (.c (.bool false)))] [0,1])
(.seq
(.reg [
.s 5 (.mv (.t 0)),
.s 6 (.mv (.t 1)),
.s 7 (.call 204 [(.t 5),(.t 6)]),
.s 4 (.mv (.t 7))] [4])
.ret)),
[.tmp 4]⟩
/-- strings.TrimPrefix -/
def F186 : DF := ⟨2,
(.seq
(.reg [
.s 4 (.mv (.c (.str [])))] [0,1])
(.seq
(.reg [
.s 5 (.mv (.t 0)),
.s 6 (.mv (.t 1)),
.s 7 (.call 205 [(.t 5),(.t 6)]),
.s 4 (.mv (.t 7))] [4])
.ret)),
[.tmp 4]⟩
/-- strconv.Atoi -/
def F187 : DF := ⟨1,
(.seq
(.reg [
.s 2 (.mv (.k 0)),
.s 3 (.mv (.c .nilif))] [0])
(.seq
(.reg [
.s 7 (.mv (.t 0)),
.s 8 (.call 206 [(.t 7)]),
.s 6 (.mv (.t 8)),
.s 9 (.ext (.t 6) 0),
.s 10 (.ext (.t 6) 1),
.s 4 (.mv (.t 9)),
.s 5 (.mv (.t 10))] [0,4,5])
(.seq
(.seq
(.reg [
.s 11 (.mv (.t 5)),
.s 12 (.bin .neq (some .ifc) (.t 11) (.c .nilif))] [0,4,5,12])
(.cnd (.t 12)
(.seq
(.reg [
.s 13 (.mv (.t 4)),
.s 14 (.mv (.t 0)),
.s 15 (.mv (.t 5)),
.s 16 (.call 207 [(.c (.str [65,116,111,105])),(.t 14),(.k 0),(.k 0),(.t 15)]),
.s 2 (.mv (.t 13)),
.s 3 (.mv (.t 16))] [2,3])
.ret)
.skip))
(.seq
(.reg [
.s 17 (.mv (.t 4)),
.s 2 (.mv (.t 17)),
.s 3 (.mv (.c .nilif))] [2,3])
.ret)))),
[.tmp 2,.tmp 3]⟩
/-- strings.trimLeftByte -/
def F188 : DF := ⟨2,
(.seq
(.reg [
.s 4 (.mv (.c (.str [])))] [0,1])
(.seq
(.blk 0
(.seq
(.trim [0,1])
(.lop
(.seq
(.seq
(.seq
(.reg [
.s 5 (.mv (.t 0)),
.s 6 (.lenS (.t 5)),
.s 7 (.bin .gtr none (.t 6) (.k 0)),
.s 8 (.mv (.t 7)),
.g 9 (.mv (.t 0)) 8 true,
.g 10 (.ixS (.t 9) (.k 0)) 8 true,
.g 11 (.mv (.t 1)) 8 true,
.g 12 (.bin .eql (some .int) (.t 10) (.t 11)) 8 true,
.s 13 (.pick (.t 8) (.t 12) (.c (.bool false)))] [0,1,13])
(.cnd (.t 13)
.skip
(.exit 0)))
(.blk 1
(.reg [
.s 14 (.mv (.t 0)),
.s 15 (.slS (.t 14) (some (.k 1)) none),
.s 0 (.mv (.t 15))] [0,1])))
(.trim [0,1])))))
(.seq
(.reg [
.s 16 (.mv (.t 0)),
.s 4 (.mv (.t 16))] [4])
.ret))),
[.tmp 4]⟩
/-- strings.makeASCIISet -/
def F189 : DF := ⟨1,
(.seq
(.reg [
.s 2 (.alL [(.bool false),(.bool false),(.bool false),(.bool false),(.bool false),(.bool false),(.bool false),(.bool false),(.bool false),(.bool false),(.bool false),(.bool false),(.bool false),(.bool false),(.bool false),(.bool false),(.bool false),(.bool false),(.bool false),(.bool false),(.bool false),(.bool false),(.bool false),(.bool false),(.bool false),(.bool false),(.bool false),(.bool false),(.bool false),(.bool false),(.bool false),(.bool false),(.bool false),(.bool false),(.bool false),(.bool false),(.bool false),(.bool false),(.bool false),(.bool false),(.bool false),(.bool false),(.bool false),(.bool false),(.bool false),(.bool false),(.bool false),(.bool false),(.bool false),(.bool false),(.bool false),(.bool false),(.bool false),(.bool false),(.bool false),(.bool false),(.bool false),(.bool false),(.bool false),(.bool false),(.bool false),(.bool false),(.bool false),(.bool false),(.bool false),(.bool false),(.bool false),(.bool false),(.bool false),(.bool false),(.bool false),(.bool false),(.bool false),(.bool false),(.bool false),(.bool false),(.bool false),(.bool false),(.bool false),(.bool false),(.bool false),(.bool false),(.bool false),(.bool false),(.bool false),(.bool false),(.bool false),(.bool false),(.bool false),(.bool false),(.bool false),(.bool false),(.bool false),(.bool false),(.bool false),(.bool false),(.bool false),(.bool false),(.bool false),(.bool false),(.bool false),(.bool false),(.bool false),(.bool false),(.bool false),(.bool false),(.bool false),(.bool false),(.bool false),(.bool false),(.bool false),(.bool false),(.bool false),(.bool false),(.bool false),(.bool false),(.bool false),(.bool false),(.bool false),(.bool false),(.bool false),(.bool false),(.bool false),(.bool false),(.bool false),(.bool false),(.bool false),(.bool false),(.bool false),(.bool false),(.bool false),(.bool false),(.bool false),(.bool false),(.bool false),(.bool false),(.bool false),(.bool false),(.bool false),(.bool false),(.bool false),(.bool false),(.bool false),(.bool false),(.bool false),(.bool false),(.bool false),(.bool false),(.bool false),(.bool false),(.bool false),(.bool false),(.bool false),(.bool false),(.bool false),(.bool false),(.bool false),(.bool false),(.bool false),(.bool false),(.bool false),(.bool false),(.bool false),(.bool false),(.bool false),(.bool false),(.bool false),(.bool false),(.bool false),(.bool false),(.bool false),(.bool false),(.bool false),(.bool false),(.bool false),(.bool false),(.bool false),(.bool false),(.bool false),(.bool false),(.bool false),(.bool false),(.bool false),(.bool false),(.bool false),(.bool false),(.bool false),(.bool false),(.bool false),(.bool false),(.bool false),(.bool false),(.bool false),(.bool false),(.bool false),(.bool false),(.bool false),(.bool false),(.bool false),(.bool false),(.bool false),(.bool false),(.bool false),(.bool false),(.bool false),(.bool false),(.bool false),(.bool false),(.bool false),(.bool false),(.bool false),(.bool false),(.bool false),(.bool false),(.bool false),(.bool false),(.bool false),(.bool false),(.bool false),(.bool false),(.bool false),(.bool false),(.bool false),(.bool false),(.bool false),(.bool false),(.bool false),(.bool false),(.bool false),(.bool false),(.bool false),(.bool false),(.bool false),(.bool false),(.bool false),(.bool false),(.bool false),(.bool false),(.bool false),(.bool false),(.bool false),(.bool false),(.bool false),(.bool false),(.bool false),(.bool false),(.bool false),(.bool false),(.bool false),(.bool false),(.bool false),(.bool false),(.bool false),(.bool false),(.bool false),(.bool false)]),
.s 3 (.mv (.c (.bool false)))] [0,2])
(.seq
(.seq
(.reg [
.s 4 (.mv (.k 0))] [0,2,4])
(.blk 0
(.seq
(.trim [0,2,4])
(.lop
(.seq
(.seq
(.seq
(.reg [
.s 6 (.mv (.t 4)),
.s 7 (.mv (.t 0)),
.s 8 (.lenS (.t 7)),
.s 9 (.bin .lss none (.t 6) (.t 8))] [0,2,4,9])
(.cnd (.t 9)
.skip
(.exit 0)))
(.seq
(.blk 1
(.seq
(.reg [
.s 12 (.mv (.t 0)),
.s 13 (.mv (.t 4)),
.s 14 (.ixS (.t 12) (.t 13)),
.s 5 (.mv (.t 14))] [0,2,4,5])
(.seq
(.seq
(.reg [
.s 15 (.mv (.t 5)),
.s 16 (.bin .geq none (.t 15) (.c (.int .u8 128)))] [0,2,4,5,16])
(.cnd (.t 16)
(.seq
(.reg [
.s 17 (.ld true 256 (.t 2)),
.n (.st 256 (.t 2) (.t 17)),
.s 3 (.mv (.c (.bool false)))] [2,3])
.ret)
.skip))
(.reg [
.s 18 (.mv (.t 5)),
.s 19 (.iaA 1 256 (.t 2) (.t 18)),
.n (.st 1 (.t 19) (.c (.bool true)))] [0,2,4]))))
(.reg [
.s 10 (.mv (.t 4)),
.s 11 (.bin .add none (.t 10) (.k 1)),
.s 4 (.mv (.t 11))] [0,2,4])))
(.trim [0,2,4]))))))
(.seq
(.reg [
.s 20 (.ld true 256 (.t 2)),
.n (.st 256 (.t 2) (.t 20)),
.s 3 (.mv (.c (.bool true)))] [2,3])
.ret))),
[.cell 2 true 256,.tmp 3]⟩
/-- strings.trimLeftASCII -/
def F190 : DF := ⟨2,
(.seq
(.reg [
.s 4 (.mv (.c (.str [])))] [0,1])
(.seq
(.blk 0
(.seq
(.trim [0,1])
(.lop
(.seq
(.seq
(.seq
(.reg [
.s 5 (.mv (.t 0)),
.s 6 (.lenS (.t 5)),
.s 7 (.bin .gtr none (.t 6) (.k 0))] [0,1,7])
(.cnd (.t 7)
.skip
(.exit 0)))
(.blk 1
(.seq
(.seq
(.reg [
.s 8 (.mv (.t 1)),
.s 9 (.mv (.t 0)),
.s 10 (.ixS (.t 9) (.k 0)),
.s 11 (.call 208 [(.t 8),(.t 10)]),
.s 12 (.un .not (.t 11))] [0,1,12])
(.cnd (.t 12)
(.exit 0)
.skip))
(.reg [
.s 13 (.mv (.t 0)),
.s 14 (.slS (.t 13) (some (.k 1)) none),
.s 0 (.mv (.t 14))] [0,1]))))
(.trim [0,1])))))
(.seq
(.reg [
.s 15 (.mv (.t 0)),
.s 4 (.mv (.t 15))] [4])
.ret))),
[.tmp 4]⟩
/-- strings.trimLeftUnicode -/
def F191 : DF := ⟨2,
(.seq
(.reg [
.s 4 (.mv (.c (.str [])))] [0,1])
(.seq
(.blk 0
(.seq
(.trim [0,1])
(.lop
(.seq
(.seq
(.seq
(.reg [
.s 7 (.mv (.t 0)),
.s 8 (.lenS (.t 7)),
.s 9 (.bin .gtr none (.t 8) (.k 0))] [0,1,9])
(.cnd (.t 9)
.skip
(.exit 0)))
(.blk 1
(.seq
(.reg [
.s 11 (.mv (.t 0)),
.s 12 (.call 209 [(.t 11)]),
.s 10 (.mv (.t 12)),
.s 13 (.ext (.t 10) 0),
.s 14 (.ext (.t 10) 1),
.s 5 (.mv (.t 13)),
.s 6 (.mv (.t 14))] [0,1,5,6])
(.seq
(.seq
(.reg [
.s 15 (.mv (.t 1)),
.s 16 (.mv (.t 5)),
.s 17 (.call 210 [(.t 15),(.t 16)]),
.s 18 (.un .not (.t 17))] [0,1,6,18])
(.cnd (.t 18)
(.exit 0)
.skip))
(.reg [
.s 19 (.mv (.t 0)),
.s 20 (.mv (.t 6)),
.s 21 (.slS (.t 19) (some (.t 20)) none),
.s 0 (.mv (.t 21))] [0,1])))))
(.trim [0,1])))))
(.seq
(.reg [
.s 22 (.mv (.t 0)),
.s 4 (.mv (.t 22))] [4])
.ret))),
[.tmp 4]⟩
/-- strings.trimRightByte -/
def F192 : DF := ⟨2,
(.seq
(.reg [
.s 4 (.mv (.c (.str [])))] [0,1])
(.seq
(.blk 0
(.seq
(.trim [0,1])
(.lop
(.seq
(.seq
(.seq
(.reg [
.s 5 (.mv (.t 0)),
.s 6 (.lenS (.t 5)),
.s 7 (.bin .gtr none (.t 6) (.k 0)),
.s 8 (.mv (.t 7)),
.g 9 (.mv (.t 0)) 8 true,
.g 10 (.mv (.t 0)) 8 true,
.g 11 (.lenS (.t 10)) 8 true,
.g 12 (.bin .sub none (.t 11) (.k 1)) 8 true,
.g 13 (.ixS (.t 9) (.t 12)) 8 true,
.g 14 (.mv (.t 1)) 8 true,
.g 15 (.bin .eql (some .int) (.t 13) (.t 14)) 8 true,
.s 16 (.pick (.t 8) (.t 15) (.c (.bool false)))] [0,1,16])
(.cnd (.t 16)
.skip
(.exit 0)))
(.blk 1
(.reg [
.s 17 (.mv (.t 0)),
.s 18 (.mv (.t 0)),
.s 19 (.lenS (.t 18)),
.s 20 (.bin .sub none (.t 19) (.k 1)),
.s 21 (.slS (.t 17) none (some (.t 20))),
.s 0 (.mv (.t 21))] [0,1])))
(.trim [0,1])))))
(.seq
(.reg [
.s 22 (.mv (.t 0)),
.s 4 (.mv (.t 22))] [4])
.ret))),
[.tmp 4]⟩
/-- strings.trimRightASCII -/
def F193 : DF := ⟨2,
(.seq
(.reg [
.s 4 (.mv (.c (.str [])))] [0,1])
(.seq
(.blk 0
(.seq
(.trim [0,1])
(.lop
(.seq
(.seq
(.seq
(.reg [
.s 5 (.mv (.t 0)),
.s 6 (.lenS (.t 5)),
.s 7 (.bin .gtr none (.t 6) (.k 0))] [0,1,7])
(.cnd (.t 7)
.skip
(.exit 0)))
(.blk 1
(.seq
(.seq
(.reg [
.s 8 (.mv (.t 1)),
.s 9 (.mv (.t 0)),
.s 10 (.mv (.t 0)),
.s 11 (.lenS (.t 10)),
.s 12 (.bin .sub none (.t 11) (.k 1)),
.s 13 (.ixS (.t 9) (.t 12)),
.s 14 (.call 208 [(.t 8),(.t 13)]),
.s 15 (.un .not (.t 14))] [0,1,15])
(.cnd (.t 15)
(.exit 0)
.skip))
(.reg [
.s 16 (.mv (.t 0)),
.s 17 (.mv (.t 0)),
.s 18 (.lenS (.t 17)),
.s 19 (.bin .sub none (.t 18) (.k 1)),
.s 20 (.slS (.t 16) none (some (.t 19))),
.s 0 (.mv (.t 20))] [0,1]))))
(.trim [0,1])))))
(.seq
(.reg [
.s 21 (.mv (.t 0)),
.s 4 (.mv (.t 21))] [4])
.ret))),
[.tmp 4]⟩
/-- strings.trimRightUnicode -/
def F194 : DF := ⟨2,
(.seq
(.reg [
.s 4 (.mv (.c (.str [])))] [0,1])
(.seq
(.blk 0
(.seq
(.trim [0,1])
(.lop
(.seq
(.seq
(.seq
(.reg [
.s 7 (.mv (.t 0)),
.s 8 (.lenS (.t 7)),
.s 9 (.bin .gtr none (.t 8) (.k 0))] [0,1,9])
(.cnd (.t 9)
.skip
(.exit 0)))
(.blk 1
(.seq
(.reg [
.s 10 (.mv (.t 0)),
.s 11 (.mv (.t 0)),
.s 12 (.lenS (.t 11)),
.s 13 (.bin .sub none (.t 12) (.k 1)),
.s 14 (.ixS (.t 10) (.t 13)),
.s 15 (.cvI .i32 (.t 14)),
.s 5 (.mv (.t 15)),
.s 6 (.mv (.k 1))] [0,1,5,6])
(.seq
(.seq
(.reg [
.s 16 (.mv (.t 5)),
.s 17 (.bin .geq none (.t 16) (.c (.int .i32 128)))] [0,1,5,6,17])
(.cnd (.t 17)
(.reg [
.s 19 (.mv (.t 0)),
.s 20 (.call 211 [(.t 19)]),
.s 18 (.mv (.t 20)),
.s 21 (.ext (.t 18) 0),
.s 22 (.ext (.t 18) 1),
.s 5 (.mv (.t 21)),
.s 6 (.mv (.t 22))] [0,1,5,6])
.skip))
(.seq
(.seq
(.reg [
.s 23 (.mv (.t 1)),
.s 24 (.mv (.t 5)),
.s 25 (.call 210 [(.t 23),(.t 24)]),
.s 26 (.un .not (.t 25))] [0,1,6,26])
(.cnd (.t 26)
(.exit 0)
.skip))
(.reg [
.s 27 (.mv (.t 0)),
.s 28 (.mv (.t 0)),
.s 29 (.lenS (.t 28)),
.s 30 (.mv (.t 6)),
.s 31 (.bin .sub none (.t 29) (.t 30)),
.s 32 (.slS (.t 27) none (some (.t 31))),
.s 0 (.mv (.t 32))] [0,1]))))))
(.trim [0,1])))))
(.seq
(.reg [
.s 33 (.mv (.t 0)),
.s 4 (.mv (.t 33))] [4])
.ret))),
[.tmp 4]⟩
/-- emend/num.digit -/
def F195 : DF := ⟨1,
(.seq
(.reg [
.s 2 (.mv (.c (.bool false)))] [0])
(.seq
(.reg [
.s 3 (.mv (.t 0)),
.s 4 (.bin .geq none (.t 3) (.c (.int .u8 48))),
.s 5 (.mv (.t 4)),
.g 6 (.mv (.t 0)) 5 true,
.g 7 (.bin .leq none (.t 6) (.c (.int .u8 57))) 5 true,
.s 8 (.pick (.t 5) (.t 7) (.c (.bool false))),
.s 2 (.mv (.t 8))] [2])
.ret)),
[.tmp 2]⟩
/-- internal/strconv.Itoa -/
def F196 : DF := ⟨1,
(.seq
(.reg [
.s 2 (.mv (.c (.str [])))] [0])
(.seq
(.reg [
.s 3 (.mv (.t 0)),
.s 4 (.call 212 [(.t 3),(.k 10)]),
.s 2 (.mv (.t 4))] [2])
.ret)),
[.tmp 2]⟩
/-- internal/stringslite.HasSuffix -/
def F197 : DF := ⟨2,
(.seq
(.reg [
.s 4 (.mv (.c (.bool false)))] [0,1])
(.seq
(.reg [
.s 5 (.mv (.t 0)),
.s 6 (.lenS (.t 5)),
.s 7 (.mv (.t 1)),
.s 8 (.lenS (.t 7)),
.s 9 (.bin .geq none (.t 6) (.t 8)),
.s 10 (.mv (.t 9)),
.g 11 (.mv (.t 0)) 10 true,
.g 12 (.mv (.t 0)) 10 true,
.g 13 (.lenS (.t 12)) 10 true,
.g 14 (.mv (.t 1)) 10 true,
.g 15 (.lenS (.t 14)) 10 true,
.g 16 (.bin .sub none (.t 13) (.t 15)) 10 true,
.g 17 (.slS (.t 11) (some (.t 16)) none) 10 true,
.g 18 (.mv (.t 1)) 10 true,
.g 19 (.bin .eql (some .str) (.t 17) (.t 18)) 10 true,
.s 20 (.pick (.t 10) (.t 19) (.c (.bool false))),
.s 4 (.mv (.t 20))] [4])
.ret)),
[.tmp 4]⟩
/-- internal/stringslite.Index -/
def F198 : DF := ⟨2,
(.seq
(.reg [
.s 4 (.mv (.k 0))] [0,1])
(.seq
(.reg [
.s 14 (.mv (.t 1)),
.s 15 (.lenS (.t 14)),
.s 5 (.mv (.t 15))] [0,1,5])
(.seq
(.blk 0
(.seq
(.reg [
.s 17 (.mv (.t 5)),
.s 18 (.bin .eql (some .int) (.t 17) (.k 0)),
.s 19 (.mv (.t 18)),
.g 20 (.mv (.t 1)) 19 false,
.g 21 (.mv (.t 0)) 19 false,
.g 22 (.bin .eql (some .str) (.t 20) (.t 21)) 19 false,
.s 23 (.pick (.t 19) (.c (.bool true)) (.t 22)),
.s 16 (.mv (.t 23))] [0,1,5,16])
(.cnd (.t 16)
(.seq
(.reg [
.s 4 (.mv (.k 0))] [4])
.ret)
(.seq
(.reg [
.s 25 (.mv (.t 5)),
.s 26 (.bin .eql (some .int) (.t 25) (.k 1)),
.s 24 (.mv (.t 26))] [0,1,5,24])
(.cnd (.t 24)
(.seq
(.reg [
.s 27 (.mv (.t 0)),
.s 28 (.mv (.t 1)),
.s 29 (.ixS (.t 28) (.k 0)),
.s 30 (.call 213 [(.t 27),(.t 29)]),
.s 4 (.mv (.t 30))] [4])
.ret)
(.seq
(.reg [
.s 32 (.mv (.t 5)),
.s 33 (.mv (.t 0)),
.s 34 (.lenS (.t 33)),
.s 35 (.bin .geq none (.t 32) (.t 34)),
.s 31 (.mv (.t 35))] [0,1,5,31])
(.cnd (.t 31)
(.seq
(.reg [
.s 4 (.mv (.k (-1)))] [4])
.ret)
(.seq
(.reg [
.s 37 (.mv (.t 5)),
.s 38 (.ld false 1 (.g 1)),
.s 39 (.bin .leq none (.t 37) (.t 38)),
.s 40 (.mv (.t 39)),
.g 41 (.mv (.t 0)) 40 true,
.g 42 (.lenS (.t 41)) 40 true,
.g 43 (.bin .leq none (.t 42) (.k 64)) 40 true,
.s 44 (.pick (.t 40) (.t 43) (.c (.bool false))),
.s 36 (.mv (.t 44))] [0,1,5,36])
(.cnd (.t 36)
(.seq
.fail
.ret)
.skip)))))))))
(.seq
(.reg [
.s 48 (.mv (.t 1)),
.s 49 (.ixS (.t 48) (.k 0)),
.s 6 (.mv (.t 49))] [0,1,5,6])
(.seq
(.reg [
.s 50 (.mv (.t 1)),
.s 51 (.ixS (.t 50) (.k 1)),
.s 7 (.mv (.t 51))] [0,1,5,6,7])
(.seq
(.reg [
.s 8 (.mv (.k 0))] [0,1,5,6,7,8])
(.seq
(.reg [
.s 52 (.mv (.t 0)),
.s 53 (.lenS (.t 52)),
.s 54 (.mv (.t 5)),
.s 55 (.bin .sub none (.t 53) (.t 54)),
.s 56 (.bin .add none (.t 55) (.k 1)),
.s 9 (.mv (.t 56))] [0,1,5,6,7,8,9])
(.seq
(.reg [
.s 10 (.mv (.k 0))] [0,1,5,6,7,8,9,10])
(.seq
(.blk 1
(.seq
(.trim [0,1,5,6,7,8,9,10])
(.lop
(.seq
(.seq
(.seq
(.reg [
.s 57 (.mv (.t 8)),
.s 58 (.mv (.t 9)),
.s 59 (.bin .lss none (.t 57) (.t 58))] [0,1,5,6,7,8,9,10,59])
(.cnd (.t 59)
.skip
(.exit 1)))
(.blk 2
(.seq
(.seq
(.reg [
.s 60 (.mv (.t 0)),
.s 61 (.mv (.t 8)),
.s 62 (.ixS (.t 60) (.t 61)),
.s 63 (.mv (.t 6)),
.s 64 (.bin .neq (some .int) (.t 62) (.t 63))] [0,1,5,6,7,8,9,10,64])
(.cnd (.t 64)
(.seq
(.reg [
.s 65 (.mv (.t 0)),
.s 66 (.mv (.t 8)),
.s 67 (.bin .add none (.t 66) (.k 1)),
.s 68 (.mv (.t 9)),
.s 69 (.slS (.t 65) (some (.t 67)) (some (.t 68))),
.s 70 (.mv (.t 6)),
.s 71 (.call 213 [(.t 69),(.t 70)]),
.s 11 (.mv (.t 71))] [0,1,5,6,7,8,9,10,11])
(.seq
(.seq
(.reg [
.s 72 (.mv (.t 11)),
.s 73 (.bin .lss none (.t 72) (.k 0))] [0,1,5,6,7,8,9,10,11,73])
(.cnd (.t 73)
(.seq
(.reg [
.s 4 (.mv (.k (-1)))] [4])
.ret)
.skip))
(.reg [
.s 74 (.mv (.t 8)),
.s 75 (.mv (.t 11)),
.s 76 (.bin .add none (.t 75) (.k 1)),
.s 77 (.bin .add none (.t 74) (.t 76)),
.s 8 (.mv (.t 77))] [0,1,5,6,7,8,9,10])))
.skip))
(.seq
(.seq
(.reg [
.s 78 (.mv (.t 0)),
.s 79 (.mv (.t 8)),
.s 80 (.bin .add none (.t 79) (.k 1)),
.s 81 (.ixS (.t 78) (.t 80)),
.s 82 (.mv (.t 7)),
.s 83 (.bin .eql (some .int) (.t 81) (.t 82)),
.s 84 (.mv (.t 83)),
.g 85 (.mv (.t 0)) 84 true,
.g 86 (.mv (.t 8)) 84 true,
.g 87 (.mv (.t 8)) 84 true,
.g 88 (.mv (.t 5)) 84 true,
.g 89 (.bin .add none (.t 87) (.t 88)) 84 true,
.g 90 (.slS (.t 85) (some (.t 86)) (some (.t 89))) 84 true,
.g 91 (.mv (.t 1)) 84 true,
.g 92 (.bin .eql (some .str) (.t 90) (.t 91)) 84 true,
.s 93 (.pick (.t 84) (.t 92) (.c (.bool false)))] [0,1,5,6,7,8,9,10,93])
(.cnd (.t 93)
(.seq
(.reg [
.s 94 (.mv (.t 8)),
.s 4 (.mv (.t 94))] [4])
.ret)
.skip))
(.seq
(.reg [
.s 95 (.mv (.t 8)),
.s 96 (.bin .add none (.t 95) (.k 1)),
.s 8 (.mv (.t 96))] [0,1,5,6,7,8,9,10])
(.seq
(.reg [
.s 97 (.mv (.t 10)),
.s 98 (.bin .add none (.t 97) (.k 1)),
.s 10 (.mv (.t 98))] [0,1,5,6,7,8,9,10])
(.seq
(.reg [
.s 99 (.mv (.t 5)),
.s 100 (.ld false 1 (.g 1)),
.s 101 (.bin .leq none (.t 99) (.t 100)),
.s 102 (.mv (.t 101)),
.g 103 (.mv (.t 10)) 102 true,
.g 104 (.mv (.t 8)) 102 true,
.g 105 (.call 215 [(.t 104)]) 102 true,
.g 106 (.bin .gtr none (.t 103) (.t 105)) 102 true,
.s 107 (.pick (.t 102) (.t 106) (.c (.bool false)))] [0,1,5,6,7,8,9,10,107])
(.cnd (.t 107)
(.seq
.fail
(.seq
(.seq
(.reg [
.s 113 (.mv (.t 12)),
.s 114 (.bin .geq none (.t 113) (.k 0))] [8,12,114])
(.cnd (.t 114)
(.seq
(.reg [
.s 115 (.mv (.t 12)),
.s 116 (.mv (.t 8)),
.s 117 (.bin .add none (.t 115) (.t 116)),
.s 4 (.mv (.t 117))] [4])
.ret)
.skip))
(.seq
(.reg [
.s 4 (.mv (.k (-1)))] [4])
.ret)))
(.seq
(.reg [
.s 118 (.mv (.t 5)),
.s 119 (.ld false 1 (.g 1)),
.s 120 (.bin .gtr none (.t 118) (.t 119)),
.s 121 (.mv (.t 120)),
.g 122 (.mv (.t 10)) 121 true,
.g 123 (.mv (.t 8)) 121 true,
.g 124 (.bin .shr none (.t 123) (.c (.int .u64 4))) 121 true,
.g 125 (.bin .add none (.k 4) (.t 124)) 121 true,
.g 126 (.bin .geq none (.t 122) (.t 125)) 121 true,
.s 127 (.pick (.t 121) (.t 126) (.c (.bool false))),
.s 128 (.mv (.t 127)),
.g 129 (.mv (.t 8)) 128 true,
.g 130 (.mv (.t 9)) 128 true,
.g 131 (.bin .lss none (.t 129) (.t 130)) 128 true,
.s 132 (.pick (.t 128) (.t 131) (.c (.bool false)))] [0,1,5,6,7,8,9,10,132])
(.cnd (.t 132)
(.seq
(.reg [
.s 133 (.mv (.t 0)),
.s 134 (.mv (.t 8)),
.s 135 (.slS (.t 133) (some (.t 134)) none),
.s 136 (.mv (.t 1)),
.s 137 (.call 216 [(.t 135),(.t 136)]),
.s 13 (.mv (.t 137))] [8,13])
(.seq
(.seq
(.reg [
.s 138 (.mv (.t 13)),
.s 139 (.bin .lss none (.t 138) (.k 0))] [8,13,139])
(.cnd (.t 139)
(.seq
(.reg [
.s 4 (.mv (.k (-1)))] [4])
.ret)
.skip))
(.seq
(.reg [
.s 140 (.mv (.t 8)),
.s 141 (.mv (.t 13)),
.s 142 (.bin .add none (.t 140) (.t 141)),
.s 4 (.mv (.t 142))] [4])
.ret)))
.skip))))))))))
(.trim [0,1,5,6,7,8,9,10])))))
(.seq
(.reg [
.s 4 (.mv (.k (-1)))] [4])
.ret)))))))))),
[.tmp 4]⟩
/-- emend/text.pair -/
def F199 : DF := ⟨1,
(.seq
(.reg [
.s 2 (.mv (.k 0)),
.s 3 (.mv (.k 0))] [0])
(.seq
(.reg [
.s 6 (.mv (.t 0)),
.s 7 (.slS (.t 6) (some (.k 1)) none),
.s 8 (.call 217 [(.t 7),(.k 4)]),
.s 4 (.mv (.t 8))] [0,4])
(.seq
(.seq
(.reg [
.s 9 (.mv (.t 4)),
.s 10 (.bin .lss none (.t 9) (.k 55296)),
.s 11 (.mv (.t 10)),
.g 12 (.mv (.t 4)) 11 false,
.g 13 (.bin .gtr none (.t 12) (.k 57343)) 11 false,
.s 14 (.pick (.t 11) (.c (.bool true)) (.t 13))] [0,4,14])
(.cnd (.t 14)
(.seq
(.seq
(.reg [
.s 15 (.mv (.t 4)),
.s 16 (.bin .lss none (.t 15) (.k 0))] [4,16])
(.cnd (.t 16)
(.seq
(.reg [
.s 2 (.mv (.k 0)),
.s 3 (.mv (.k 0))] [2,3])
.ret)
.skip))
(.seq
(.reg [
.s 17 (.mv (.t 4)),
.s 2 (.mv (.t 17)),
.s 3 (.mv (.k 5))] [2,3])
.ret))
.skip))
(.seq
(.seq
(.reg [
.s 18 (.mv (.t 4)),
.s 19 (.bin .geq none (.t 18) (.k 56320)),
.s 20 (.mv (.t 19)),
.g 21 (.mv (.t 0)) 20 false,
.g 22 (.slS (.t 21) (some (.k 5)) none) 20 false,
.g 23 (.call 185 [(.t 22),(.c (.str [92,117]))]) 20 false,
.g 24 (.un .not (.t 23)) 20 false,
.s 25 (.pick (.t 20) (.c (.bool true)) (.t 24))] [0,4,25])
(.cnd (.t 25)
(.seq
(.reg [
.s 2 (.mv (.k 0)),
.s 3 (.mv (.k 0))] [2,3])
.ret)
.skip))
(.seq
(.reg [
.s 26 (.mv (.t 0)),
.s 27 (.slS (.t 26) (some (.k 7)) none),
.s 28 (.call 217 [(.t 27),(.k 4)]),
.s 5 (.mv (.t 28))] [4,5])
(.seq
(.seq
(.reg [
.s 29 (.mv (.t 5)),
.s 30 (.bin .lss none (.t 29) (.k 56320)),
.s 31 (.mv (.t 30)),
.g 32 (.mv (.t 5)) 31 false,
.g 33 (.bin .gtr none (.t 32) (.k 57343)) 31 false,
.s 34 (.pick (.t 31) (.c (.bool true)) (.t 33))] [4,5,34])
(.cnd (.t 34)
(.seq
(.reg [
.s 2 (.mv (.k 0)),
.s 3 (.mv (.k 0))] [2,3])
.ret)
.skip))
(.seq
(.reg [
.s 35 (.mv (.t 4)),
.s 36 (.bin .sub none (.t 35) (.k 55296)),
.s 37 (.bin .shl none (.t 36) (.c (.int .u64 10))),
.s 38 (.bin .add none (.k 65536) (.t 37)),
.s 39 (.mv (.t 5)),
.s 40 (.bin .add none (.t 38) (.t 39)),
.s 41 (.bin .sub none (.t 40) (.k 56320)),
.s 2 (.mv (.t 41)),
.s 3 (.mv (.k 11))] [2,3])
.ret))))))),
[.tmp 2,.tmp 3]⟩
/-- emend/text.put$1 -/
def F200 : DF := ⟨2,
(.seq
(.reg [
.s 3 (.mv (.c (.int .u8 0)))] [0,1])
(.seq
(.reg [
.s 4 (.ld false 1 (.t 1)),
.s 5 (.mv (.t 0)),
.s 6 (.bin .shr none (.t 4) (.t 5)),
.s 7 (.bin .and none (.t 6) (.k 63)),
.s 8 (.bin .or none (.k 128) (.t 7)),
.s 9 (.cvI .u8 (.t 8)),
.s 3 (.mv (.t 9))] [3])
.ret)),
[.tmp 3]⟩
/-- slices.rotateCmpFunc[int] -/
def F201 : DF := ⟨5,
(.seq
(.reg [
.s 12 (.mv (.t 2)),
.s 13 (.mv (.t 1)),
.s 14 (.bin .sub none (.t 12) (.t 13)),
.s 10 (.mv (.t 14))] [0,2,3,4,10])
(.seq
(.reg [
.s 15 (.mv (.t 3)),
.s 16 (.mv (.t 2)),
.s 17 (.bin .sub none (.t 15) (.t 16)),
.s 11 (.mv (.t 17))] [0,2,4,10,11])
(.seq
(.blk 0
(.seq
(.trim [0,2,4,10,11])
(.lop
(.seq
(.seq
(.seq
(.reg [
.s 18 (.mv (.t 10)),
.s 19 (.mv (.t 11)),
.s 20 (.bin .neq (some .int) (.t 18) (.t 19))] [0,2,4,10,11,20])
(.cnd (.t 20)
.skip
(.exit 0)))
(.blk 1
(.seq
(.reg [
.s 21 (.mv (.t 10)),
.s 22 (.mv (.t 11)),
.s 23 (.bin .gtr none (.t 21) (.t 22))] [0,2,4,10,11,23])
(.cnd (.t 23)
(.seq
(.reg [
.s 24 (.mv (.t 0)),
.s 25 (.mv (.t 2)),
.s 26 (.mv (.t 10)),
.s 27 (.bin .sub none (.t 25) (.t 26)),
.s 28 (.mv (.t 2)),
.s 29 (.mv (.t 11)),
.s 30 (.mv (.t 4)),
.s 31 (.call 218 [(.t 24),(.t 27),(.t 28),(.t 29),(.t 30)])] [0,2,4,10,11])
(.reg [
.s 32 (.mv (.t 10)),
.s 33 (.mv (.t 11)),
.s 34 (.bin .sub none (.t 32) (.t 33)),
.s 10 (.mv (.t 34))] [0,2,4,10,11]))
(.seq
(.reg [
.s 35 (.mv (.t 0)),
.s 36 (.mv (.t 2)),
.s 37 (.mv (.t 10)),
.s 38 (.bin .sub none (.t 36) (.t 37)),
.s 39 (.mv (.t 2)),
.s 40 (.mv (.t 11)),
.s 41 (.bin .add none (.t 39) (.t 40)),
.s 42 (.mv (.t 10)),
.s 43 (.bin .sub none (.t 41) (.t 42)),
.s 44 (.mv (.t 10)),
.s 45 (.mv (.t 4)),
.s 46 (.call 218 [(.t 35),(.t 38),(.t 43),(.t 44),(.t 45)])] [0,2,4,10,11])
(.reg [
.s 47 (.mv (.t 11)),
.s 48 (.mv (.t 10)),
.s 49 (.bin .sub none (.t 47) (.t 48)),
.s 11 (.mv (.t 49))] [0,2,4,10,11]))))))
(.trim [0,2,4,10,11])))))
(.reg [
.s 50 (.mv (.t 0)),
.s 51 (.mv (.t 2)),
.s 52 (.mv (.t 10)),
.s 53 (.bin .sub none (.t 51) (.t 52)),
.s 54 (.mv (.t 2)),
.s 55 (.mv (.t 10)),
.s 56 (.mv (.t 4)),
.s 57 (.call 218 [(.t 50),(.t 53),(.t 54),(.t 55),(.t 56)])] [])))),
[]⟩
/-- internal/stringslite.HasPrefix -/
def F204 : DF := ⟨2,
(.seq
(.reg [
.s 4 (.mv (.c (.bool false)))] [0,1])
(.seq
(.reg [
.s 5 (.mv (.t 0)),
.s 6 (.lenS (.t 5)),
.s 7 (.mv (.t 1)),
.s 8 (.lenS (.t 7)),
.s 9 (.bin .geq none (.t 6) (.t 8)),
.s 10 (.mv (.t 9)),
.g 11 (.mv (.t 0)) 10 true,
.g 12 (.mv (.t 1)) 10 true,
.g 13 (.lenS (.t 12)) 10 true,
.g 14 (.slS (.t 11) none (some (.t 13))) 10 true,
.g 15 (.mv (.t 1)) 10 true,
.g 16 (.bin .eql (some .str) (.t 14) (.t 15)) 10 true,
.s 17 (.pick (.t 10) (.t 16) (.c (.bool false))),
.s 4 (.mv (.t 17))] [4])
.ret)),
[.tmp 4]⟩
/-- internal/stringslite.TrimPrefix -/
def F205 : DF := ⟨2,
(.seq
(.reg [
.s 4 (.mv (.c (.str [])))] [0,1])
(.seq
(.seq
(.reg [
.s 5 (.mv (.t 0)),
.s 6 (.mv (.t 1)),
.s 7 (.call 204 [(.t 5),(.t 6)])] [0,1,7])
(.cnd (.t 7)
(.seq
(.reg [
.s 8 (.mv (.t 0)),
.s 9 (.mv (.t 1)),
.s 10 (.lenS (.t 9)),
.s 11 (.slS (.t 8) (some (.t 10)) none),
.s 4 (.mv (.t 11))] [4])
.ret)
.skip))
(.seq
(.reg [
.s 12 (.mv (.t 0)),
.s 4 (.mv (.t 12))] [4])
.ret))),
[.tmp 4]⟩
/-- internal/strconv.Atoi -/
def F206 : DF := ⟨1,
(.seq
(.reg [
.s 2 (.mv (.k 0)),
.s 3 (.mv (.c .nilif))] [0])
(.seq
(.reg [
.s 11 (.mv (.t 0)),
.s 12 (.lenS (.t 11)),
.s 4 (.mv (.t 12))] [0,4])
(.seq
(.seq
(.reg [
.s 13 (.mv (.c (.bool false))),
.g 14 (.mv (.t 4)) 13 true,
.g 15 (.bin .lss none (.k 0) (.t 14)) 13 true,
.g 16 (.mv (.t 15)) 13 true,
.g 17 (.mv (.t 4)) 16 true,
.g 18 (.bin .lss none (.t 17) (.k 10)) 16 true,
.g 19 (.pick (.t 16) (.t 18) (.c (.bool false))) 13 true,
.s 20 (.pick (.t 13) (.t 19) (.c (.bool false))),
.s 21 (.mv (.t 20)),
.g 22 (.mv (.c (.bool true))) 21 false,
.g 23 (.mv (.t 4)) 22 true,
.g 24 (.bin .lss none (.k 0) (.t 23)) 22 true,
.g 25 (.mv (.t 24)) 22 true,
.g 26 (.mv (.t 4)) 25 true,
.g 27 (.bin .lss none (.t 26) (.k 19)) 25 true,
.g 28 (.pick (.t 25) (.t 27) (.c (.bool false))) 22 true,
.g 29 (.pick (.t 22) (.t 28) (.c (.bool false))) 21 false,
.s 30 (.pick (.t 21) (.c (.bool true)) (.t 29))] [0,30])
(.cnd (.t 30)
(.seq
(.reg [
.s 31 (.mv (.t 0)),
.s 5 (.mv (.t 31))] [0,5])
(.seq
(.seq
(.reg [
.s 32 (.mv (.t 0)),
.s 33 (.ixS (.t 32) (.k 0)),
.s 34 (.bin .eql (some .int) (.t 33) (.c (.int .u8 45))),
.s 35 (.mv (.t 34)),
.g 36 (.mv (.t 0)) 35 false,
.g 37 (.ixS (.t 36) (.k 0)) 35 false,
.g 38 (.bin .eql (some .int) (.t 37) (.c (.int .u8 43))) 35 false,
.s 39 (.pick (.t 35) (.c (.bool true)) (.t 38))] [0,5,39])
(.cnd (.t 39)
(.seq
(.reg [
.s 40 (.mv (.t 0)),
.s 41 (.slS (.t 40) (some (.k 1)) none),
.s 0 (.mv (.t 41))] [0,5])
(.seq
(.reg [
.s 42 (.mv (.t 0)),
.s 43 (.lenS (.t 42)),
.s 44 (.bin .lss none (.t 43) (.k 1))] [0,5,44])
(.cnd (.t 44)
(.seq
(.reg [
.s 45 (.mki 230 (.k 2)),
.s 2 (.mv (.k 0)),
.s 3 (.mv (.t 45))] [2,3])
.ret)
.skip)))
.skip))
(.seq
(.reg [
.s 6 (.mv (.k 0))] [0,5,6])
(.seq
(.seq
(.reg [
.s 46 (.mv (.t 0)),
.s 47 (.cvSB 5 (.t 46)),
.s 48 (.len (.t 47)),
.s 49 (.mv (.k 0))] [5,6,47,48,49])
(.blk 0
(.seq
(.trim [5,6,47,48,49])
(.lop
(.seq
(.seq
(.reg [
.s 50 (.bin .lss none (.t 49) (.t 48))] [5,6,47,48,49,50])
(.seq
(.cnd (.t 50)
.skip
(.exit 0))
(.seq
(.blk 1
(.seq
(.reg [
.s 51 (.ia 1 (.t 47) (.t 49)),
.s 52 (.ld false 1 (.t 51)),
.s 8 (.mv (.t 52))] [5,6,8,47,48,49])
(.seq
(.reg [
.s 53 (.mv (.t 8)),
.s 54 (.bin .sub none (.t 53) (.c (.int .u8 48))),
.s 8 (.mv (.t 54))] [5,6,8,47,48,49])
(.seq
(.seq
(.reg [
.s 55 (.mv (.t 8)),
.s 56 (.bin .gtr none (.t 55) (.c (.int .u8 9)))] [5,6,8,47,48,49,56])
(.cnd (.t 56)
(.seq
(.reg [
.s 57 (.mki 230 (.k 2)),
.s 2 (.mv (.k 0)),
.s 3 (.mv (.t 57))] [2,3])
.ret)
.skip))
(.reg [
.s 58 (.mv (.t 6)),
.s 59 (.bin .mul none (.t 58) (.k 10)),
.s 60 (.mv (.t 8)),
.s 61 (.cvI .i64 (.t 60)),
.s 62 (.bin .add none (.t 59) (.t 61)),
.s 6 (.mv (.t 62))] [5,6,47,48,49])))))
(.reg [
.s 63 (.bin .add none (.t 49) (.k 1)),
.s 49 (.mv (.t 63))] [5,6,47,48,49]))))
(.trim [5,6,47,48,49]))))))
(.seq
(.seq
(.reg [
.s 64 (.mv (.t 5)),
.s 65 (.ixS (.t 64) (.k 0)),
.s 66 (.bin .eql (some .int) (.t 65) (.c (.int .u8 45)))] [6,66])
(.cnd (.t 66)
(.reg [
.s 67 (.mv (.t 6)),
.s 68 (.un .neg (.t 67)),
.s 6 (.mv (.t 68))] [6])
.skip))
(.seq
(.reg [
.s 69 (.mv (.t 6)),
.s 2 (.mv (.t 69)),
.s 3 (.mv (.c .nilif))] [2,3])
.ret))))))
.skip))
(.seq
(.reg [
.s 71 (.mv (.t 0)),
.s 72 (.call 220 [(.t 71),(.k 10),(.k 0)]),
.s 70 (.mv (.t 72)),
.s 73 (.ext (.t 70) 0),
.s 74 (.ext (.t 70) 1),
.s 9 (.mv (.t 73)),
.s 10 (.mv (.t 74))] [9,10])
(.seq
(.reg [
.s 75 (.mv (.t 9)),
.s 76 (.mv (.t 10)),
.s 2 (.mv (.t 75)),
.s 3 (.mv (.t 76))] [2,3])
.ret))))),
[.tmp 2,.tmp 3]⟩
/-- strconv.toError -/
def F207 : DF := ⟨5,
(.seq
(.reg [
.s 10 (.mv (.c .nilif))] [0,1,2,3,4])
(.seq
(.seq
(.reg [
.s 11 (.mv (.t 4))] [0,1,2,3,4,11])
(.blk 0
(.seq
(.reg [
.s 13 (.mki 230 (.k 2)),
.s 14 (.bin .eql none (.t 11) (.t 13)),
.s 12 (.mv (.t 14))] [0,1,2,3,4,11,12])
(.cnd (.t 12)
(.seq
(.reg [
.s 15 (.mv (.t 0)),
.s 16 (.mv (.t 1)),
.s 17 (.call 221 [(.t 15),(.t 16)]),
.s 18 (.mki 233 (.t 17)),
.s 10 (.mv (.t 18))] [10])
.ret)
(.seq
(.reg [
.s 20 (.mki 230 (.k 1)),
.s 21 (.bin .eql none (.t 11) (.t 20)),
.s 19 (.mv (.t 21))] [0,1,2,3,4,11,19])
(.cnd (.t 19)
(.seq
(.reg [
.s 22 (.mv (.t 0)),
.s 23 (.mv (.t 1)),
.s 24 (.call 222 [(.t 22),(.t 23)]),
.s 25 (.mki 233 (.t 24)),
.s 10 (.mv (.t 25))] [10])
.ret)
(.seq
(.reg [
.s 27 (.mki 230 (.k 3)),
.s 28 (.bin .eql none (.t 11) (.t 27)),
.s 26 (.mv (.t 28))] [0,1,2,3,4,11,26])
(.cnd (.t 26)
(.seq
(.reg [
.s 29 (.mv (.t 0)),
.s 30 (.mv (.t 1)),
.s 31 (.mv (.t 2)),
.s 32 (.call 223 [(.t 29),(.t 30),(.t 31)]),
.s 33 (.mki 233 (.t 32)),
.s 10 (.mv (.t 33))] [10])
.ret)
(.seq
(.reg [
.s 35 (.mki 230 (.k 4)),
.s 36 (.bin .eql none (.t 11) (.t 35)),
.s 34 (.mv (.t 36))] [0,1,3,4,34])
(.cnd (.t 34)
(.seq
(.reg [
.s 37 (.mv (.t 0)),
.s 38 (.mv (.t 1)),
.s 39 (.mv (.t 3)),
.s 40 (.call 224 [(.t 37),(.t 38),(.t 39)]),
.s 41 (.mki 233 (.t 40)),
.s 10 (.mv (.t 41))] [10])
.ret)
.skip))))))))))
(.seq
(.reg [
.s 42 (.mv (.t 4)),
.s 10 (.mv (.t 42))] [10])
.ret))),
[.tmp 10]⟩
/-- (*strings.asciiSet).contains -/
def F208 : DF := ⟨2,
(.seq
(.reg [
.s 4 (.mv (.c (.bool false)))] [0,1])
(.seq
(.reg [
.s 5 (.mv (.t 0)),
.s 6 (.mv (.t 1)),
.s 7 (.nilc (.t 5)),
.s 8 (.iaA 1 256 (.t 7) (.t 6)),
.s 9 (.ld false 1 (.t 8)),
.s 4 (.mv (.t 9))] [4])
.ret)),
[.tmp 4]⟩
/-- unicode/utf8.DecodeRuneInString -/
def F209 : DF := ⟨1,
(.seq
(.reg [
.s 2 (.mv (.c (.int .i32 0))),
.s 3 (.mv (.k 0))] [0])
(.seq
(.seq
(.reg [
.s 4 (.mv (.t 0)),
.s 5 (.bin .neq (some .str) (.t 4) (.c (.str []))),
.s 6 (.mv (.t 5)),
.g 7 (.mv (.t 0)) 6 true,
.g 8 (.ixS (.t 7) (.k 0)) 6 true,
.g 9 (.bin .lss none (.t 8) (.c (.int .u8 128))) 6 true,
.s 10 (.pick (.t 6) (.t 9) (.c (.bool false)))] [0,10])
(.cnd (.t 10)
(.seq
(.reg [
.s 11 (.mv (.t 0)),
.s 12 (.ixS (.t 11) (.k 0)),
.s 13 (.cvI .i32 (.t 12)),
.s 2 (.mv (.t 13)),
.s 3 (.mv (.k 1))] [2,3])
.ret)
(.reg [
.s 15 (.mv (.t 0)),
.s 16 (.call 225 [(.t 15)]),
.s 14 (.mv (.t 16)),
.s 17 (.ext (.t 14) 0),
.s 18 (.ext (.t 14) 1),
.s 2 (.mv (.t 17)),
.s 3 (.mv (.t 18))] [2,3])))
.ret)),
[.tmp 2,.tmp 3]⟩
/-- strings.ContainsRune -/
def F210 : DF := ⟨2,
(.seq
(.reg [
.s 4 (.mv (.c (.bool false)))] [0,1])
(.seq
(.reg [
.s 5 (.mv (.t 0)),
.s 6 (.mv (.t 1)),
.s 7 (.call 226 [(.t 5),(.t 6)]),
.s 8 (.bin .geq none (.t 7) (.k 0)),
.s 4 (.mv (.t 8))] [4])
.ret)),
[.tmp 4]⟩
/-- unicode/utf8.DecodeLastRuneInString -/
def F211 : DF := ⟨1,
(.seq
(.reg [
.s 2 (.mv (.c (.int .i32 0))),
.s 3 (.mv (.k 0))] [0])
(.seq
(.reg [
.s 7 (.mv (.t 0)),
.s 8 (.lenS (.t 7)),
.s 4 (.mv (.t 8))] [0,4])
(.seq
(.seq
(.reg [
.s 9 (.mv (.t 4)),
.s 10 (.bin .eql (some .int) (.t 9) (.k 0))] [0,4,10])
(.cnd (.t 10)
(.seq
(.reg [
.s 2 (.mv (.c (.int .i32 65533))),
.s 3 (.mv (.k 0))] [2,3])
.ret)
.skip))
(.seq
(.reg [
.s 11 (.mv (.t 4)),
.s 12 (.bin .sub none (.t 11) (.k 1)),
.s 5 (.mv (.t 12))] [0,4,5])
(.seq
(.reg [
.s 13 (.mv (.t 0)),
.s 14 (.mv (.t 5)),
.s 15 (.ixS (.t 13) (.t 14)),
.s 16 (.cvI .i32 (.t 15)),
.s 2 (.mv (.t 16))] [0,2,4,5])
(.seq
(.seq
(.reg [
.s 17 (.mv (.t 2)),
.s 18 (.bin .lss none (.t 17) (.c (.int .i32 128)))] [0,2,4,5,18])
(.cnd (.t 18)
(.seq
(.reg [
.s 19 (.mv (.t 2)),
.s 2 (.mv (.t 19)),
.s 3 (.mv (.k 1))] [2,3])
.ret)
.skip))
(.seq
(.reg [
.s 20 (.mv (.t 4)),
.s 21 (.bin .sub none (.t 20) (.k 4)),
.s 22 (.mx [(.t 21),(.k 0)]),
.s 6 (.mv (.t 22))] [0,4,5,6])
(.seq
(.seq
(.reg [
.s 23 (.mv (.t 5)),
.s 24 (.bin .sub none (.t 23) (.k 1)),
.s 5 (.mv (.t 24))] [0,4,5,6])
(.blk 0
(.seq
(.trim [0,4,5,6])
(.lop
(.seq
(.seq
(.seq
(.reg [
.s 25 (.mv (.t 5)),
.s 26 (.mv (.t 6)),
.s 27 (.bin .geq none (.t 25) (.t 26))] [0,4,5,6,27])
(.cnd (.t 27)
.skip
(.exit 0)))
(.seq
(.blk 1
(.seq
(.reg [
.s 30 (.mv (.t 0)),
.s 31 (.mv (.t 5)),
.s 32 (.ixS (.t 30) (.t 31)),
.s 33 (.call 227 [(.t 32)])] [0,4,5,6,33])
(.cnd (.t 33)
(.exit 0)
.skip)))
(.reg [
.s 28 (.mv (.t 5)),
.s 29 (.bin .sub none (.t 28) (.k 1)),
.s 5 (.mv (.t 29))] [0,4,5,6])))
(.trim [0,4,5,6]))))))
(.seq
(.seq
(.reg [
.s 34 (.mv (.t 5)),
.s 35 (.bin .lss none (.t 34) (.k 0))] [0,4,5,35])
(.cnd (.t 35)
(.reg [
.s 5 (.mv (.k 0))] [0,4,5])
.skip))
(.seq
(.reg [
.s 37 (.mv (.t 0)),
.s 38 (.mv (.t 5)),
.s 39 (.mv (.t 4)),
.s 40 (.slS (.t 37) (some (.t 38)) (some (.t 39))),
.s 41 (.call 209 [(.t 40)]),
.s 36 (.mv (.t 41)),
.s 42 (.ext (.t 36) 0),
.s 43 (.ext (.t 36) 1),
.s 2 (.mv (.t 42)),
.s 3 (.mv (.t 43))] [2,3,4,5])
(.seq
(.seq
(.reg [
.s 44 (.mv (.t 5)),
.s 45 (.mv (.t 3)),
.s 46 (.bin .add none (.t 44) (.t 45)),
.s 47 (.mv (.t 4)),
.s 48 (.bin .neq (some .int) (.t 46) (.t 47))] [2,3,48])
(.cnd (.t 48)
(.seq
(.reg [
.s 2 (.mv (.c (.int .i32 65533))),
.s 3 (.mv (.k 1))] [2,3])
.ret)
.skip))
(.seq
(.reg [
.s 49 (.mv (.t 2)),
.s 50 (.mv (.t 3)),
.s 2 (.mv (.t 49)),
.s 3 (.mv (.t 50))] [2,3])
.ret)))))))))))),
[.tmp 2,.tmp 3]⟩
/-- internal/strconv.FormatInt -/
def F212 : DF := ⟨2,
(.seq
(.reg [
.s 4 (.mv (.c (.str [])))] [0,1])
(.seq
(.seq
(.reg [
.s 10 (.mv (.t 1)),
.s 11 (.bin .eql (some .int) (.t 10) (.k 10))] [0,1,11])
(.cnd (.t 11)
(.seq
(.seq
(.reg [
.s 12 (.mv (.t 0)),
.s 13 (.bin .leq none (.k 0) (.t 12)),
.s 14 (.mv (.t 13)),
.g 15 (.mv (.t 0)) 14 true,
.g 16 (.bin .lss none (.t 15) (.k 100)) 14 true,
.s 17 (.pick (.t 14) (.t 16) (.c (.bool false)))] [0,17])
(.cnd (.t 17)
(.seq
(.reg [
.s 18 (.mv (.t 0)),
.s 19 (.call 228 [(.t 18)]),
.s 4 (.mv (.t 19))] [4])
.ret)
.skip))
(.seq
(.reg [
.s 5 (.alH 237 [(.int .u8 0),(.int .u8 0),(.int .u8 0),(.int .u8 0),(.int .u8 0),(.int .u8 0),(.int .u8 0),(.int .u8 0),(.int .u8 0),(.int .u8 0),(.int .u8 0),(.int .u8 0),(.int .u8 0),(.int .u8 0),(.int .u8 0),(.int .u8 0),(.int .u8 0),(.int .u8 0),(.int .u8 0),(.int .u8 0),(.int .u8 0),(.int .u8 0),(.int .u8 0),(.int .u8 0)])] [0,5])
(.seq
(.reg [
.s 20 (.mv (.t 0)),
.s 21 (.cvI .u64 (.t 20)),
.s 6 (.mv (.t 21))] [0,5,6])
(.seq
(.seq
(.reg [
.s 22 (.mv (.t 0)),
.s 23 (.bin .lss none (.t 22) (.k 0))] [0,5,6,23])
(.cnd (.t 23)
(.reg [
.s 24 (.mv (.t 6)),
.s 25 (.un .neg (.t 24)),
.s 6 (.mv (.t 25))] [0,5,6])
.skip))
(.seq
(.reg [
.s 26 (.mv (.t 6)),
.s 27 (.call 229 [(.t 26)]),
.s 7 (.mv (.t 27))] [0,5,6,7])
(.seq
(.reg [
.s 28 (.mv (.t 7)),
.s 29 (.bin .add none (.k 1) (.t 28)),
.s 30 (.slP 1 24 (.t 5) (some (.k 1)) (some (.t 29))),
.s 31 (.mv (.t 6)),
.s 32 (.call 230 [(.t 30),(.t 31)])] [0,5,7])
(.seq
(.seq
(.reg [
.s 33 (.mv (.t 0)),
.s 34 (.bin .lss none (.t 33) (.k 0))] [5,7,34])
(.cnd (.t 34)
(.seq
(.reg [
.s 35 (.iaA 1 24 (.t 5) (.k 0)),
.n (.st 1 (.t 35) (.c (.int .u8 45)))] [5,7])
(.seq
(.reg [
.s 36 (.mv (.t 7)),
.s 37 (.bin .add none (.k 1) (.t 36)),
.s 38 (.slP 1 24 (.t 5) none (some (.t 37))),
.s 39 (.cvBS (.t 38)),
.s 4 (.mv (.t 39))] [4])
.ret))
.skip))
(.seq
(.reg [
.s 40 (.mv (.t 7)),
.s 41 (.bin .add none (.k 1) (.t 40)),
.s 42 (.slP 1 24 (.t 5) (some (.k 1)) (some (.t 41))),
.s 43 (.cvBS (.t 42)),
.s 4 (.mv (.t 43))] [4])
.ret))))))))
.skip))
(.seq
(.reg [
.s 45 (.mv (.t 0)),
.s 46 (.cvI .u64 (.t 45)),
.s 47 (.mv (.t 1)),
.s 48 (.mv (.t 0)),
.s 49 (.bin .lss none (.t 48) (.k 0)),
.s 50 (.call 231 [(.c (.sl 1 nz [])),(.t 46),(.t 47),(.t 49),(.c (.bool false))]),
.s 44 (.mv (.t 50)),
.s 51 (.ext (.t 44) 0),
.s 52 (.ext (.t 44) 1),
.s 8 (.mv (.t 51)),
.s 9 (.mv (.t 52))] [9])
(.seq
(.reg [
.s 53 (.mv (.t 9)),
.s 4 (.mv (.t 53))] [4])
.ret)))),
[.tmp 4]⟩
/-- internal/stringslite.IndexByte -/
def F213 : DF := ⟨2,
(.seq
(.reg [
.s 4 (.mv (.k 0))] [0,1])
(.seq
(.reg [
.s 5 (.mv (.t 0)),
.s 6 (.mv (.t 1)),
.s 7 (.xtn .indexByte [(.t 5),(.t 6)]),
.s 4 (.mv (.t 7))] [4])
.ret)),
[.tmp 4]⟩
/-- internal/bytealg.Cutover -/
def F215 : DF := ⟨1,
(.seq
(.reg [
.s 2 (.mv (.k 0))] [0])
(.seq
(.reg [
.s 3 (.mv (.t 0)),
.s 4 (.bin .add none (.t 3) (.k 16)),
.s 5 (.bin .quo none (.t 4) (.k 8)),
.s 2 (.mv (.t 5))] [2])
.ret)),
[.tmp 2]⟩
/-- internal/bytealg.IndexRabinKarp[string] -/
def F216 : DF := ⟨2,
(.seq
(.reg [
.s 4 (.mv (.k 0))] [0,1])
(.seq
(.reg [
.s 12 (.mv (.t 1)),
.s 13 (.call 233 [(.t 12)]),
.s 11 (.mv (.t 13)),
.s 14 (.ext (.t 11) 0),
.s 15 (.ext (.t 11) 1),
.s 5 (.mv (.t 14)),
.s 6 (.mv (.t 15))] [0,1,5,6])
(.seq
(.reg [
.s 16 (.mv (.t 1)),
.s 17 (.lenS (.t 16)),
.s 7 (.mv (.t 17))] [0,1,5,6,7])
(.seq
(.reg [
.s 8 (.mv (.c (.int .u32 0)))] [0,1,5,6,7,8])
(.seq
(.seq
(.reg [
.s 9 (.mv (.k 0))] [0,1,5,6,7,8,9])
(.blk 0
(.seq
(.trim [0,1,5,6,7,8,9])
(.lop
(.seq
(.seq
(.seq
(.reg [
.s 18 (.mv (.t 9)),
.s 19 (.mv (.t 7)),
.s 20 (.bin .lss none (.t 18) (.t 19))] [0,1,5,6,7,8,9,20])
(.cnd (.t 20)
.skip
(.exit 0)))
(.seq
(.blk 1
(.reg [
.s 23 (.mv (.t 8)),
.s 24 (.bin .mul none (.t 23) (.c (.int .u32 16777619))),
.s 25 (.mv (.t 0)),
.s 26 (.mv (.t 9)),
.s 27 (.ixS (.t 25) (.t 26)),
.s 28 (.cvI .u32 (.t 27)),
.s 29 (.bin .add none (.t 24) (.t 28)),
.s 8 (.mv (.t 29))] [0,1,5,6,7,8,9]))
(.reg [
.s 21 (.mv (.t 9)),
.s 22 (.bin .add none (.t 21) (.k 1)),
.s 9 (.mv (.t 22))] [0,1,5,6,7,8,9])))
(.trim [0,1,5,6,7,8,9]))))))
(.seq
(.seq
(.reg [
.s 30 (.mv (.t 8)),
.s 31 (.mv (.t 5)),
.s 32 (.bin .eql (some .int) (.t 30) (.t 31)),
.s 33 (.mv (.t 32)),
.g 34 (.mv (.t 0)) 33 true,
.g 35 (.mv (.t 7)) 33 true,
.g 36 (.slS (.t 34) none (some (.t 35))) 33 true,
.g 37 (.mv (.t 1)) 33 true,
.g 38 (.bin .eql (some .str) (.t 36) (.t 37)) 33 true,
.s 39 (.pick (.t 33) (.t 38) (.c (.bool false)))] [0,1,5,6,7,8,39])
(.cnd (.t 39)
(.seq
(.reg [
.s 4 (.mv (.k 0))] [4])
.ret)
.skip))
(.seq
(.seq
(.reg [
.s 40 (.mv (.t 7)),
.s 10 (.mv (.t 40))] [0,1,5,6,7,8,10])
(.blk 2
(.seq
(.trim [0,1,5,6,7,8,10])
(.lop
(.seq
(.seq
(.seq
(.reg [
.s 41 (.mv (.t 10)),
.s 42 (.mv (.t 0)),
.s 43 (.lenS (.t 42)),
.s 44 (.bin .lss none (.t 41) (.t 43))] [0,1,5,6,7,8,10,44])
(.cnd (.t 44)
.skip
(.exit 2)))
(.blk 3
(.seq
(.reg [
.s 45 (.mv (.t 8)),
.s 46 (.bin .mul none (.t 45) (.c (.int .u32 16777619))),
.s 8 (.mv (.t 46))] [0,1,5,6,7,8,10])
(.seq
(.reg [
.s 47 (.mv (.t 8)),
.s 48 (.mv (.t 0)),
.s 49 (.mv (.t 10)),
.s 50 (.ixS (.t 48) (.t 49)),
.s 51 (.cvI .u32 (.t 50)),
.s 52 (.bin .add none (.t 47) (.t 51)),
.s 8 (.mv (.t 52))] [0,1,5,6,7,8,10])
(.seq
(.reg [
.s 53 (.mv (.t 8)),
.s 54 (.mv (.t 6)),
.s 55 (.mv (.t 0)),
.s 56 (.mv (.t 10)),
.s 57 (.mv (.t 7)),
.s 58 (.bin .sub none (.t 56) (.t 57)),
.s 59 (.ixS (.t 55) (.t 58)),
.s 60 (.cvI .u32 (.t 59)),
.s 61 (.bin .mul none (.t 54) (.t 60)),
.s 62 (.bin .sub none (.t 53) (.t 61)),
.s 8 (.mv (.t 62))] [0,1,5,6,7,8,10])
(.seq
(.reg [
.s 63 (.mv (.t 10)),
.s 64 (.bin .add none (.t 63) (.k 1)),
.s 10 (.mv (.t 64))] [0,1,5,6,7,8,10])
(.seq
(.reg [
.s 65 (.mv (.t 8)),
.s 66 (.mv (.t 5)),
.s 67 (.bin .eql (some .int) (.t 65) (.t 66)),
.s 68 (.mv (.t 67)),
.g 69 (.mv (.t 0)) 68 true,
.g 70 (.mv (.t 10)) 68 true,
.g 71 (.mv (.t 7)) 68 true,
.g 72 (.bin .sub none (.t 70) (.t 71)) 68 true,
.g 73 (.mv (.t 10)) 68 true,
.g 74 (.slS (.t 69) (some (.t 72)) (some (.t 73))) 68 true,
.g 75 (.mv (.t 1)) 68 true,
.g 76 (.bin .eql (some .str) (.t 74) (.t 75)) 68 true,
.s 77 (.pick (.t 68) (.t 76) (.c (.bool false)))] [0,1,5,6,7,8,10,77])
(.cnd (.t 77)
(.seq
(.reg [
.s 78 (.mv (.t 10)),
.s 79 (.mv (.t 7)),
.s 80 (.bin .sub none (.t 78) (.t 79)),
.s 4 (.mv (.t 80))] [4])
.ret)
.skip))))))))
(.trim [0,1,5,6,7,8,10]))))))
(.seq
(.reg [
.s 4 (.mv (.k (-1)))] [4])
.ret)))))))),
[.tmp 4]⟩
/-- emend/text.Hex -/
def F217 : DF := ⟨2,
(.seq
(.reg [
.s 4 (.mv (.k 0))] [0,1])
(.seq
(.seq
(.reg [
.s 8 (.mv (.t 0)),
.s 9 (.lenS (.t 8)),
.s 10 (.mv (.t 1)),
.s 11 (.bin .lss none (.t 9) (.t 10))] [0,1,11])
(.cnd (.t 11)
(.seq
(.reg [
.s 4 (.mv (.k (-1)))] [4])
.ret)
.skip))
(.seq
(.reg [
.s 5 (.mv (.k 0))] [0,1,5])
(.seq
(.seq
(.reg [
.s 12 (.mv (.t 1)),
.s 13 (.mv (.k 0))] [0,5,12,13])
(.blk 0
(.seq
(.trim [0,5,12,13])
(.lop
(.seq
(.seq
(.reg [
.s 14 (.bin .lss none (.t 13) (.t 12))] [0,5,12,13,14])
(.seq
(.cnd (.t 14)
.skip
(.exit 0))
(.seq
(.blk 1
(.seq
(.reg [
.s 15 (.mv (.t 13)),
.s 6 (.mv (.t 15))] [0,5,6,12,13])
(.seq
(.reg [
.s 16 (.mv (.t 0)),
.s 17 (.mv (.t 6)),
.s 18 (.ixS (.t 16) (.t 17)),
.s 19 (.call 234 [(.t 18)]),
.s 7 (.mv (.t 19))] [0,5,7,12,13])
(.seq
(.seq
(.reg [
.s 20 (.mv (.t 7)),
.s 21 (.bin .lss none (.t 20) (.k 0))] [0,5,7,12,13,21])
(.cnd (.t 21)
(.seq
(.reg [
.s 4 (.mv (.k (-1)))] [4])
.ret)
.skip))
(.reg [
.s 22 (.mv (.t 5)),
.s 23 (.bin .shl none (.t 22) (.c (.int .u64 4))),
.s 24 (.mv (.t 7)),
.s 25 (.bin .or none (.t 23) (.t 24)),
.s 5 (.mv (.t 25))] [0,5,12,13])))))
(.reg [
.s 26 (.bin .add none (.t 13) (.k 1)),
.s 13 (.mv (.t 26))] [0,5,12,13]))))
(.trim [0,5,12,13]))))))
(.seq
(.reg [
.s 27 (.mv (.t 5)),
.s 4 (.mv (.t 27))] [4])
.ret))))),
[.tmp 4]⟩
/-- slices.swapRangeCmpFunc[int] -/
def F218 : DF := ⟨5,
(.seq
(.reg [
.s 10 (.mv (.k 0))] [0,1,2,3,10])
(.blk 0
(.seq
(.trim [0,1,2,3,10])
(.lop
(.seq
(.seq
(.seq
(.reg [
.s 11 (.mv (.t 10)),
.s 12 (.mv (.t 3)),
.s 13 (.bin .lss none (.t 11) (.t 12))] [0,1,2,3,10,13])
(.cnd (.t 13)
.skip
(.exit 0)))
(.seq
(.blk 1
(.drw [
((.s 16 (.mv (.t 0)),none),[]),
((.s 17 (.mv (.t 1)),none),[]),
((.s 18 (.mv (.t 10)),none),[]),
((.s 19 (.bin .add none (.t 17) (.t 18)),none),[]),
((.s 20 (.mv (.t 0)),none),[]),
((.s 21 (.mv (.t 2)),none),[]),
((.s 22 (.mv (.t 10)),none),[]),
((.s 23 (.bin .add none (.t 21) (.t 22)),none),[]),
((.s 24 (.mv (.t 0)),none),[]),
((.s 25 (.mv (.t 2)),none),[]),
((.s 26 (.mv (.t 10)),none),[]),
((.s 27 (.bin .add none (.t 25) (.t 26)),none),[]),
((.s 28 (.ia 1 (.t 24) (.t 27)),none),[]),
((.s 29 (.ld false 1 (.t 28)),none),[]),
((.s 30 (.mv (.t 0)),none),[]),
((.s 31 (.mv (.t 1)),none),[]),
((.s 32 (.mv (.t 10)),none),[]),
((.s 33 (.bin .add none (.t 31) (.t 32)),none),[]),
((.s 34 (.ia 1 (.t 30) (.t 33)),none),[]),
((.s 35 (.ld false 1 (.t 34)),none),[]),
((.s 36 (.ia 1 (.t 16) (.t 19)),none),[]),
((.n (.st 1 (.t 36) (.t 29)),none),[]),
((.s 37 (.ia 1 (.t 20) (.t 23)),none),[]),
((.n (.st 1 (.t 37) (.t 35)),none),[])] [0,1,2,3,10]))
(.reg [
.s 14 (.mv (.t 10)),
.s 15 (.bin .add none (.t 14) (.k 1)),
.s 10 (.mv (.t 15))] [0,1,2,3,10])))
(.trim [0,1,2,3,10])))))),
[]⟩
/-- internal/strconv.ParseInt -/
def F220 : DF := ⟨3,
(.seq
(.reg [
.s 6 (.mv (.k 0)),
.s 7 (.mv (.c .nilif))] [0,1,2])
(.seq
(.seq
(.reg [
.s 12 (.mv (.t 0)),
.s 13 (.bin .eql (some .str) (.t 12) (.c (.str [])))] [0,1,2,13])
(.cnd (.t 13)
(.seq
(.reg [
.s 14 (.mki 230 (.k 2)),
.s 6 (.mv (.k 0)),
.s 7 (.mv (.t 14))] [6,7])
.ret)
.skip))
(.seq
(.reg [
.s 8 (.mv (.c (.bool false)))] [0,1,2,8])
(.seq
(.seq
(.reg [
.s 15 (.mv (.t 0)),
.s 16 (.ixS (.t 15) (.k 0))] [0,1,2,8,16])
(.blk 0
(.seq
(.reg [
.s 18 (.bin .eql (some .int) (.t 16) (.c (.int .u8 43))),
.s 17 (.mv (.t 18))] [0,1,2,8,16,17])
(.cnd (.t 17)
(.reg [
.s 19 (.mv (.t 0)),
.s 20 (.slS (.t 19) (some (.k 1)) none),
.s 0 (.mv (.t 20))] [0,1,2,8])
(.seq
(.reg [
.s 22 (.bin .eql (some .int) (.t 16) (.c (.int .u8 45))),
.s 21 (.mv (.t 22))] [0,1,2,8,21])
(.cnd (.t 21)
(.seq
(.reg [
.s 23 (.mv (.t 0)),
.s 24 (.slS (.t 23) (some (.k 1)) none),
.s 0 (.mv (.t 24))] [0,1,2])
(.reg [
.s 8 (.mv (.c (.bool true)))] [0,1,2,8]))
.skip))))))
(.seq
(.reg [
.s 9 (.mv (.c (.int .u64 0)))] [0,1,2,8])
(.seq
(.reg [
.s 26 (.mv (.t 0)),
.s 27 (.mv (.t 1)),
.s 28 (.mv (.t 2)),
.s 29 (.call 235 [(.t 26),(.t 27),(.t 28)]),
.s 25 (.mv (.t 29)),
.s 30 (.ext (.t 25) 0),
.s 31 (.ext (.t 25) 1),
.s 9 (.mv (.t 30)),
.s 7 (.mv (.t 31))] [2,7,8,9])
(.seq
(.seq
(.reg [
.s 32 (.mv (.t 7)),
.s 33 (.bin .neq (some .ifc) (.t 32) (.c .nilif)),
.s 34 (.mv (.t 33)),
.g 35 (.mv (.t 7)) 34 true,
.g 36 (.mki 230 (.k 1)) 34 true,
.g 37 (.bin .neq none (.t 35) (.t 36)) 34 true,
.s 38 (.pick (.t 34) (.t 37) (.c (.bool false)))] [2,7,8,9,38])
(.cnd (.t 38)
(.seq
(.reg [
.s 39 (.mv (.t 7)),
.s 6 (.mv (.k 0)),
.s 7 (.mv (.t 39))] [6,7])
.ret)
.skip))
(.seq
(.seq
(.reg [
.s 40 (.mv (.t 2)),
.s 41 (.bin .eql (some .int) (.t 40) (.k 0))] [2,8,9,41])
(.cnd (.t 41)
(.reg [
.s 2 (.mv (.k 64))] [2,8,9])
.skip))
(.seq
(.reg [
.s 42 (.mv (.t 2)),
.s 43 (.bin .sub none (.t 42) (.k 1)),
.s 44 (.cvI .u64 (.t 43)),
.s 45 (.bin .shl none (.c (.int .u64 1)) (.t 44)),
.s 10 (.mv (.t 45))] [8,9,10])
(.seq
(.seq
(.reg [
.s 46 (.mv (.t 8)),
.s 47 (.un .not (.t 46)),
.s 48 (.mv (.t 47)),
.g 49 (.mv (.t 9)) 48 true,
.g 50 (.mv (.t 10)) 48 true,
.g 51 (.bin .geq none (.t 49) (.t 50)) 48 true,
.s 52 (.pick (.t 48) (.t 51) (.c (.bool false)))] [8,9,10,52])
(.cnd (.t 52)
(.seq
(.reg [
.s 53 (.mv (.t 10)),
.s 54 (.bin .sub none (.t 53) (.c (.int .u64 1))),
.s 55 (.cvI .i64 (.t 54)),
.s 56 (.mki 230 (.k 1)),
.s 6 (.mv (.t 55)),
.s 7 (.mv (.t 56))] [6,7])
.ret)
.skip))
(.seq
(.seq
(.reg [
.s 57 (.mv (.t 8)),
.s 58 (.mv (.t 57)),
.g 59 (.mv (.t 9)) 58 true,
.g 60 (.mv (.t 10)) 58 true,
.g 61 (.bin .gtr none (.t 59) (.t 60)) 58 true,
.s 62 (.pick (.t 58) (.t 61) (.c (.bool false)))] [8,9,10,62])
(.cnd (.t 62)
(.seq
(.reg [
.s 63 (.mv (.t 10)),
.s 64 (.cvI .i64 (.t 63)),
.s 65 (.un .neg (.t 64)),
.s 66 (.mki 230 (.k 1)),
.s 6 (.mv (.t 65)),
.s 7 (.mv (.t 66))] [6,7])
.ret)
.skip))
(.seq
(.reg [
.s 67 (.mv (.t 9)),
.s 68 (.cvI .i64 (.t 67)),
.s 11 (.mv (.t 68))] [8,11])
(.seq
(.seq
(.reg [
.s 69 (.mv (.t 8))] [11,69])
(.cnd (.t 69)
(.reg [
.s 70 (.mv (.t 11)),
.s 71 (.un .neg (.t 70)),
.s 11 (.mv (.t 71))] [11])
.skip))
(.seq
(.reg [
.s 72 (.mv (.t 11)),
.s 6 (.mv (.t 72)),
.s 7 (.mv (.c .nilif))] [6,7])
.ret)))))))))))))),
[.tmp 6,.tmp 7]⟩
/-- strconv.syntaxError -/
def F221 : DF := ⟨2,
(.seq
(.reg [
.s 4 (.mv (.c .nilp))] [0,1])
(.seq
(.drw [
((.s 5 (.mv (.t 0)),none),[]),
((.s 6 (.mv (.t 1)),none),[]),
((.s 8 (.ld false 1 (.g 2)),none),[]),
((.s 7 (.call 236 [(.t 6)]),none),[]),
((.s 9 (.bld [(.str []),(.str []),.nilif] [(0,1,(.t 5)),(1,1,(.t 7)),(2,1,(.t 8))]),none),[]),
((.s 10 (.bxH 248 (.t 9)),none),[]),
((.s 4 (.mv (.t 10)),none),[])] [4])
.ret)),
[.tmp 4]⟩
/-- strconv.rangeError -/
def F222 : DF := ⟨2,
(.seq
(.reg [
.s 4 (.mv (.c .nilp))] [0,1])
(.seq
(.drw [
((.s 5 (.mv (.t 0)),none),[]),
((.s 6 (.mv (.t 1)),none),[]),
((.s 8 (.ld false 1 (.g 3)),none),[]),
((.s 7 (.call 236 [(.t 6)]),none),[]),
((.s 9 (.bld [(.str []),(.str []),.nilif] [(0,1,(.t 5)),(1,1,(.t 7)),(2,1,(.t 8))]),none),[]),
((.s 10 (.bxH 248 (.t 9)),none),[]),
((.s 4 (.mv (.t 10)),none),[])] [4])
.ret)),
[.tmp 4]⟩
/-- strconv.baseError -/
def F223 : DF := ⟨3,
(.seq
(.reg [
.s 6 (.mv (.c .nilp))] [0,1,2])
(.seq
(.reg [
.s 7 (.mv (.t 0)),
.s 8 (.mv (.t 1)),
.s 9 (.call 236 [(.t 8)]),
.s 10 (.mv (.t 2)),
.s 11 (.call 165 [(.t 10)]),
.s 12 (.bin .add none (.c (.str [105,110,118,97,108,105,100,32,98,97,115,101,32])) (.t 11)),
.s 13 (.call 237 [(.t 12)]),
.s 14 (.bld [(.str []),(.str []),.nilif] [(0,1,(.t 7)),(1,1,(.t 9)),(2,1,(.t 13))]),
.s 15 (.bxH 248 (.t 14)),
.s 6 (.mv (.t 15))] [6])
.ret)),
[.tmp 6]⟩
/-- strconv.bitSizeError -/
def F224 : DF := ⟨3,
(.seq
(.reg [
.s 6 (.mv (.c .nilp))] [0,1,2])
(.seq
(.reg [
.s 7 (.mv (.t 0)),
.s 8 (.mv (.t 1)),
.s 9 (.call 236 [(.t 8)]),
.s 10 (.mv (.t 2)),
.s 11 (.call 165 [(.t 10)]),
.s 12 (.bin .add none (.c (.str [105,110,118,97,108,105,100,32,98,105,116,32,115,105,122,101,32])) (.t 11)),
.s 13 (.call 237 [(.t 12)]),
.s 14 (.bld [(.str []),(.str []),.nilif] [(0,1,(.t 7)),(1,1,(.t 9)),(2,1,(.t 13))]),
.s 15 (.bxH 248 (.t 14)),
.s 6 (.mv (.t 15))] [6])
.ret)),
[.tmp 6]⟩
/-- unicode/utf8.decodeRuneInStringSlow -/
def F225 : DF := ⟨1,
(.seq
(.reg [
.s 2 (.mv (.c (.int .i32 0))),
.s 3 (.mv (.k 0))] [0])
(.seq
(.reg [
.s 13 (.mv (.t 0)),
.s 14 (.lenS (.t 13)),
.s 4 (.mv (.t 14))] [0,4])
(.seq
(.seq
(.reg [
.s 15 (.mv (.t 4)),
.s 16 (.bin .lss none (.t 15) (.k 1))] [0,4,16])
(.cnd (.t 16)
(.seq
(.reg [
.s 2 (.mv (.c (.int .i32 65533))),
.s 3 (.mv (.k 0))] [2,3])
.ret)
.skip))
(.seq
(.reg [
.s 17 (.mv (.t 0)),
.s 18 (.ixS (.t 17) (.k 0)),
.s 5 (.mv (.t 18))] [0,4,5])
(.seq
(.reg [
.s 19 (.mv (.t 5)),
.s 20 (.iaA 1 256 (.g 4) (.t 19)),
.s 21 (.ld false 1 (.t 20)),
.s 6 (.mv (.t 21))] [0,4,5,6])
(.seq
(.seq
(.reg [
.s 22 (.mv (.t 6)),
.s 23 (.bin .geq none (.t 22) (.c (.int .u8 240)))] [0,4,5,6,23])
(.cnd (.t 23)
(.seq
(.reg [
.s 24 (.mv (.t 6)),
.s 25 (.cvI .i32 (.t 24)),
.s 26 (.bin .shl none (.t 25) (.c (.int .u64 31))),
.s 27 (.bin .shr none (.t 26) (.c (.int .u64 31))),
.s 7 (.mv (.t 27))] [0,7])
(.seq
(.reg [
.s 28 (.mv (.t 0)),
.s 29 (.ixS (.t 28) (.k 0)),
.s 30 (.cvI .i32 (.t 29)),
.s 31 (.mv (.t 7)),
.s 32 (.bin .andNot none (.t 30) (.t 31)),
.s 33 (.mv (.t 7)),
.s 34 (.bin .and none (.c (.int .i32 65533)) (.t 33)),
.s 35 (.bin .or none (.t 32) (.t 34)),
.s 2 (.mv (.t 35)),
.s 3 (.mv (.k 1))] [2,3])
.ret))
.skip))
(.seq
(.reg [
.s 36 (.mv (.t 6)),
.s 37 (.bin .and none (.t 36) (.c (.int .u8 7))),
.s 38 (.cvI .i64 (.t 37)),
.s 8 (.mv (.t 38))] [0,4,5,6,8])
(.seq
(.reg [
.s 39 (.mv (.t 6)),
.s 40 (.bin .shr none (.t 39) (.c (.int .u64 4))),
.s 41 (.iaA 2 16 (.g 5) (.t 40)),
.s 42 (.ld true 2 (.t 41)),
.s 9 (.alL [(.int .u8 0),(.int .u8 0)]),
.n (.st 2 (.t 9) (.t 42))] [0,4,5,8,9])
(.seq
(.seq
(.reg [
.s 43 (.mv (.t 4)),
.s 44 (.mv (.t 8)),
.s 45 (.bin .lss none (.t 43) (.t 44))] [0,5,8,9,45])
(.cnd (.t 45)
(.seq
(.reg [
.s 2 (.mv (.c (.int .i32 65533))),
.s 3 (.mv (.k 1))] [2,3])
.ret)
.skip))
(.seq
(.reg [
.s 46 (.mv (.t 0)),
.s 47 (.ixS (.t 46) (.k 1)),
.s 10 (.mv (.t 47))] [0,5,8,9,10])
(.seq
(.seq
(.reg [
.s 48 (.mv (.t 10)),
.s 49 (.fa 0 (.t 9)),
.s 50 (.ld false 1 (.t 49)),
.s 51 (.bin .lss none (.t 48) (.t 50)),
.s 52 (.mv (.t 51)),
.g 53 (.fa 1 (.t 9)) 52 false,
.g 54 (.ld false 1 (.t 53)) 52 false,
.g 55 (.mv (.t 10)) 52 false,
.g 56 (.bin .lss none (.t 54) (.t 55)) 52 false,
.s 57 (.pick (.t 52) (.c (.bool true)) (.t 56))] [0,5,8,10,57])
(.cnd (.t 57)
(.seq
(.reg [
.s 2 (.mv (.c (.int .i32 65533))),
.s 3 (.mv (.k 1))] [2,3])
.ret)
.skip))
(.seq
(.seq
(.reg [
.s 58 (.mv (.t 8)),
.s 59 (.bin .leq none (.t 58) (.k 2))] [0,5,8,10,59])
(.cnd (.t 59)
(.seq
(.reg [
.s 60 (.mv (.t 5)),
.s 61 (.bin .and none (.t 60) (.c (.int .u8 31))),
.s 62 (.cvI .i32 (.t 61)),
.s 63 (.bin .shl none (.t 62) (.c (.int .u64 6))),
.s 64 (.mv (.t 10)),
.s 65 (.bin .and none (.t 64) (.c (.int .u8 63))),
.s 66 (.cvI .i32 (.t 65)),
.s 67 (.bin .or none (.t 63) (.t 66)),
.s 2 (.mv (.t 67)),
.s 3 (.mv (.k 2))] [2,3])
.ret)
.skip))
(.seq
(.reg [
.s 68 (.mv (.t 0)),
.s 69 (.ixS (.t 68) (.k 2)),
.s 11 (.mv (.t 69))] [0,5,8,10,11])
(.seq
(.seq
(.reg [
.s 70 (.mv (.t 11)),
.s 71 (.bin .lss none (.t 70) (.c (.int .u8 128))),
.s 72 (.mv (.t 71)),
.g 73 (.mv (.t 11)) 72 false,
.g 74 (.bin .lss none (.c (.int .u8 191)) (.t 73)) 72 false,
.s 75 (.pick (.t 72) (.c (.bool true)) (.t 74))] [0,5,8,10,11,75])
(.cnd (.t 75)
(.seq
(.reg [
.s 2 (.mv (.c (.int .i32 65533))),
.s 3 (.mv (.k 1))] [2,3])
.ret)
.skip))
(.seq
(.seq
(.reg [
.s 76 (.mv (.t 8)),
.s 77 (.bin .leq none (.t 76) (.k 3))] [0,5,10,11,77])
(.cnd (.t 77)
(.seq
(.reg [
.s 78 (.mv (.t 5)),
.s 79 (.bin .and none (.t 78) (.c (.int .u8 15))),
.s 80 (.cvI .i32 (.t 79)),
.s 81 (.bin .shl none (.t 80) (.c (.int .u64 12))),
.s 82 (.mv (.t 10)),
.s 83 (.bin .and none (.t 82) (.c (.int .u8 63))),
.s 84 (.cvI .i32 (.t 83)),
.s 85 (.bin .shl none (.t 84) (.c (.int .u64 6))),
.s 86 (.bin .or none (.t 81) (.t 85)),
.s 87 (.mv (.t 11)),
.s 88 (.bin .and none (.t 87) (.c (.int .u8 63))),
.s 89 (.cvI .i32 (.t 88)),
.s 90 (.bin .or none (.t 86) (.t 89)),
.s 2 (.mv (.t 90)),
.s 3 (.mv (.k 3))] [2,3])
.ret)
.skip))
(.seq
(.reg [
.s 91 (.mv (.t 0)),
.s 92 (.ixS (.t 91) (.k 3)),
.s 12 (.mv (.t 92))] [5,10,11,12])
(.seq
(.seq
(.reg [
.s 93 (.mv (.t 12)),
.s 94 (.bin .lss none (.t 93) (.c (.int .u8 128))),
.s 95 (.mv (.t 94)),
.g 96 (.mv (.t 12)) 95 false,
.g 97 (.bin .lss none (.c (.int .u8 191)) (.t 96)) 95 false,
.s 98 (.pick (.t 95) (.c (.bool true)) (.t 97))] [5,10,11,12,98])
(.cnd (.t 98)
(.seq
(.reg [
.s 2 (.mv (.c (.int .i32 65533))),
.s 3 (.mv (.k 1))] [2,3])
.ret)
.skip))
(.seq
(.reg [
.s 99 (.mv (.t 5)),
.s 100 (.bin .and none (.t 99) (.c (.int .u8 7))),
.s 101 (.cvI .i32 (.t 100)),
.s 102 (.bin .shl none (.t 101) (.c (.int .u64 18))),
.s 103 (.mv (.t 10)),
.s 104 (.bin .and none (.t 103) (.c (.int .u8 63))),
.s 105 (.cvI .i32 (.t 104)),
.s 106 (.bin .shl none (.t 105) (.c (.int .u64 12))),
.s 107 (.bin .or none (.t 102) (.t 106)),
.s 108 (.mv (.t 11)),
.s 109 (.bin .and none (.t 108) (.c (.int .u8 63))),
.s 110 (.cvI .i32 (.t 109)),
.s 111 (.bin .shl none (.t 110) (.c (.int .u64 6))),
.s 112 (.bin .or none (.t 107) (.t 111)),
.s 113 (.mv (.t 12)),
.s 114 (.bin .and none (.t 113) (.c (.int .u8 63))),
.s 115 (.cvI .i32 (.t 114)),
.s 116 (.bin .or none (.t 112) (.t 115)),
.s 2 (.mv (.t 116)),
.s 3 (.mv (.k 4))] [2,3])
.ret)))))))))))))))))),
[.tmp 2,.tmp 3]⟩
/-- strings.IndexRune -/
def F226 : DF := ⟨2,
(.seq
(.reg [
.s 4 (.mv (.k 0))] [0,1])
(.blk 0
(.seq
(.reg [
.s 161 (.mv (.t 1)),
.s 162 (.bin .leq none (.c (.int .i32 0)) (.t 161)),
.s 163 (.mv (.t 162)),
.g 164 (.mv (.t 1)) 163 true,
.g 165 (.bin .lss none (.t 164) (.c (.int .i32 128))) 163 true,
.s 166 (.pick (.t 163) (.t 165) (.c (.bool false))),
.s 160 (.mv (.t 166))] [0,1,160])
(.cnd (.t 160)
(.seq
(.reg [
.s 167 (.mv (.t 0)),
.s 168 (.mv (.t 1)),
.s 169 (.cvI .u8 (.t 168)),
.s 170 (.call 238 [(.t 167),(.t 169)]),
.s 4 (.mv (.t 170))] [4])
.ret)
(.seq
(.reg [
.s 172 (.mv (.t 1)),
.s 173 (.bin .eql (some .int) (.t 172) (.c (.int .i32 65533))),
.s 171 (.mv (.t 173))] [0,1,171])
(.cnd (.t 171)
(.seq
(.seq
.fail
(.blk 9
(.seq
(.trim [175])
(.lop
(.seq
(.seq
.fail
(.seq
(.cnd (.t 177)
.skip
(.exit 9))
(.blk 10
(.seq
(.reg [
.s 178 (.ext (.t 176) 1),
.s 179 (.ext (.t 176) 2),
.s 5 (.mv (.t 178)),
.s 6 (.mv (.t 179))] [5,6,175])
(.seq
(.reg [
.s 180 (.mv (.t 6)),
.s 181 (.bin .eql (some .int) (.t 180) (.c (.int .i32 65533)))] [5,175,181])
(.cnd (.t 181)
(.seq
(.reg [
.s 182 (.mv (.t 5)),
.s 4 (.mv (.t 182))] [4])
.ret)
.skip))))))
(.trim [175]))))))
(.seq
(.reg [
.s 4 (.mv (.k (-1)))] [4])
.ret))
(.seq
(.reg [
.s 184 (.mv (.t 1)),
.s 185 (.call 239 [(.t 184)]),
.s 186 (.un .not (.t 185)),
.s 183 (.mv (.t 186))] [0,1,183])
(.cnd (.t 183)
(.seq
(.reg [
.s 4 (.mv (.k (-1)))] [4])
.ret)
.fail)))))))),
[.tmp 4]⟩
/-- unicode/utf8.RuneStart -/
def F227 : DF := ⟨1,
(.seq
(.reg [
.s 2 (.mv (.c (.bool false)))] [0])
(.seq
(.reg [
.s 3 (.mv (.t 0)),
.s 4 (.bin .and none (.t 3) (.c (.int .u8 192))),
.s 5 (.bin .neq (some .int) (.t 4) (.c (.int .u8 128))),
.s 2 (.mv (.t 5))] [2])
.ret)),
[.tmp 2]⟩
/-- internal/strconv.small -/
def F228 : DF := ⟨1,
(.seq
(.reg [
.s 2 (.mv (.c (.str [])))] [0])
(.seq
(.seq
(.reg [
.s 3 (.mv (.t 0)),
.s 4 (.bin .lss none (.t 3) (.k 10))] [0,4])
(.cnd (.t 4)
(.seq
(.reg [
.s 5 (.mv (.t 0)),
.s 6 (.mv (.t 0)),
.s 7 (.bin .add none (.t 6) (.k 1)),
.s 8 (.slS (.c (.str [48,49,50,51,52,53,54,55,56,57,97,98,99,100,101,102,103,104,105,106,107,108,109,110,111,112,113,114,115,116,117,118,119,120,121,122])) (some (.t 5)) (some (.t 7))),
.s 2 (.mv (.t 8))] [2])
.ret)
.skip))
(.seq
(.reg [
.s 9 (.mv (.t 0)),
.s 10 (.bin .mul none (.t 9) (.k 2)),
.s 11 (.mv (.t 0)),
.s 12 (.bin .mul none (.t 11) (.k 2)),
.s 13 (.bin .add none (.t 12) (.k 2)),
.s 14 (.slS (.c (.str [48,48,48,49,48,50,48,51,48,52,48,53,48,54,48,55,48,56,48,57,49,48,49,49,49,50,49,51,49,52,49,53,49,54,49,55,49,56,49,57,50,48,50,49,50,50,50,51,50,52,50,53,50,54,50,55,50,56,50,57,51,48,51,49,51,50,51,51,51,52,51,53,51,54,51,55,51,56,51,57,52,48,52,49,52,50,52,51,52,52,52,53,52,54,52,55,52,56,52,57,53,48,53,49,53,50,53,51,53,52,53,53,53,54,53,55,53,56,53,57,54,48,54,49,54,50,54,51,54,52,54,53,54,54,54,55,54,56,54,57,55,48,55,49,55,50,55,51,55,52,55,53,55,54,55,55,55,56,55,57,56,48,56,49,56,50,56,51,56,52,56,53,56,54,56,55,56,56,56,57,57,48,57,49,57,50,57,51,57,52,57,53,57,54,57,55,57,56,57,57])) (some (.t 10)) (some (.t 13))),
.s 2 (.mv (.t 14))] [2])
.ret))),
[.tmp 2]⟩
/-- internal/strconv.numDigits -/
def F229 : DF := ⟨1,
(.seq
(.reg [
.s 2 (.mv (.k 0))] [0])
(.seq
(.reg [
.s 4 (.mv (.t 0)),
.s 5 (.call 241 [(.t 4)]),
.s 6 (.call 240 [(.t 5)]),
.s 3 (.mv (.t 6))] [0,3])
(.seq
(.reg [
.s 7 (.mv (.t 3)),
.s 8 (.mv (.t 0)),
.s 9 (.mv (.t 3)),
.s 10 (.iaA 1 20 (.g 6) (.t 9)),
.s 11 (.ld false 1 (.t 10)),
.s 12 (.bin .geq none (.t 8) (.t 11)),
.s 13 (.call 242 [(.t 12)]),
.s 14 (.bin .add none (.t 7) (.t 13)),
.s 2 (.mv (.t 14))] [2])
.ret))),
[.tmp 2]⟩
end Go.Proofs.C1
