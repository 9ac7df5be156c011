/- The code of the functions that are reached, printed by a program (Gen). -/
import Derived.Test.YthjebaophnkpbaaGreatDoorAk
set_option linter.unusedSimpArgs false
set_option linter.unusedVariables false
namespace Go.Proofs.C1
open Go Go.Dn
set_option maxRecDepth 100000
/-- emend/emendlaw4.CstRuns -/
def F3 : DF := ⟨0,
(.seq
(.reg [
.s 0 (.mv (.c (.bool false)))] [])
(.seq
(.reg [
.s 15 (.call 8 []),
.s 1 (.alL [(.int .i64 0),(.str []),(.str []),(.str []),(.int .i64 0),(.str []),(.sl 1 ⟨none,0,(some 0),true⟩ []),(.sl 4 ⟨none,0,(some 0),true⟩ []),(.str []),(.sl 14 ⟨none,0,(some 0),true⟩ []),(.sl 1 ⟨none,0,(some 0),true⟩ []),(.str []),(.str []),(.int .i64 0)]),
.n (.st 14 (.t 1) (.t 15))] [1])
(.seq
(.reg [
.s 17 (.ld true 14 (.t 1)),
.s 18 (.call 9 [(.t 17)]),
.s 16 (.mv (.t 18)),
.s 19 (.ext (.t 16) 0),
.s 20 (.ext (.t 16) 1),
.s 2 (.alL [(.int .i64 0),(.str []),(.sl 1 ⟨none,0,(some 0),true⟩ []),(.sl 4 ⟨none,0,(some 0),true⟩ [])]),
.n (.st 4 (.t 2) (.t 19)),
.s 3 (.mv (.t 20))] [1,2,3])
(.seq
(.reg [
.s 22 (.ld true 4 (.t 2)),
.s 23 (.call 10 [(.t 22)]),
.s 21 (.mv (.t 23)),
.s 24 (.ext (.t 21) 0),
.s 25 (.ext (.t 21) 1),
.s 4 (.mv (.t 24)),
.s 5 (.mv (.t 25))] [1,3,4,5])
(.seq
(.seq
(.reg [
.s 26 (.ld true 14 (.t 1)),
.s 27 (.call 11 [(.t 26)]),
.s 28 (.bin .neq (some .str) (.t 27) (.c (.str [91,49,44,32,123,34,97,34,58,32,50,125,93]))),
.s 29 (.mv (.t 28)),
.g 30 (.mv (.t 3)) 29 false,
.g 31 (.bin .neq (some .int) (.t 30) (.c (.int .i64 0))) 29 false,
.s 32 (.pick (.t 29) (.c (.bool true)) (.t 31)),
.s 33 (.mv (.t 32)),
.g 34 (.mv (.t 5)) 33 false,
.g 35 (.bin .neq (some .int) (.t 34) (.c (.int .i64 0))) 33 false,
.s 36 (.pick (.t 33) (.c (.bool true)) (.t 35)),
.s 37 (.mv (.t 36)),
.g 38 (.mv (.t 4)) 37 false,
.g 39 (.bin .neq (some .str) (.t 38) (.c (.str [91,49,44,32,123,34,97,34,58,32,50,125,93]))) 37 false,
.s 40 (.pick (.t 37) (.c (.bool true)) (.t 39)),
.s 41 (.mv (.t 40)),
.g 42 (.ld true 14 (.t 1)) 41 false,
.g 43 (.call 12 [(.t 42)]) 41 false,
.g 44 (.bin .neq (some .int) (.t 43) (.c (.int .i64 13))) 41 false,
.s 45 (.pick (.t 41) (.c (.bool true)) (.t 44)),
.s 46 (.mv (.t 45)),
.g 47 (.ld true 14 (.t 1)) 46 false,
.g 48 (.call 13 [(.t 47)]) 46 false,
.g 49 (.bin .neq (some .int) (.t 48) (.c (.int .i64 4))) 46 false,
.s 50 (.pick (.t 46) (.c (.bool true)) (.t 49)),
.s 51 (.mv (.t 50)),
.g 52 (.ld true 14 (.t 1)) 51 false,
.g 53 (.call 14 [(.t 52)]) 51 false,
.g 54 (.un .not (.t 53)) 51 false,
.s 55 (.pick (.t 51) (.c (.bool true)) (.t 54))] [1,55])
(.cnd (.t 55)
(.seq
(.reg [
.s 0 (.mv (.c (.bool false)))] [0])
.ret)
.skip))
(.seq
(.reg [
.s 57 (.ld true 14 (.t 1)),
.s 58 (.bld [(.str []),(.int .i64 0)] [(1,1,(.c (.int .i64 0)))]),
.s 59 (.bldT 41 2 1 (.agg [(.str []),(.int .i64 0)]) [(0,(.t 58))]),
.s 60 (.call 15 [(.t 57),(.t 59)]),
.s 56 (.mv (.t 60)),
.s 61 (.ext (.t 56) 0),
.s 62 (.ext (.t 56) 1),
.s 63 (.ext (.t 56) 2),
.s 6 (.alL [(.int .i64 0),(.str []),(.str []),(.str []),(.int .i64 0),(.str []),(.sl 1 ⟨none,0,(some 0),true⟩ []),(.sl 4 ⟨none,0,(some 0),true⟩ []),(.str []),(.sl 14 ⟨none,0,(some 0),true⟩ []),(.sl 1 ⟨none,0,(some 0),true⟩ []),(.str []),(.str []),(.int .i64 0)]),
.n (.st 14 (.t 6) (.t 61)),
.s 7 (.mv (.t 62)),
.s 8 (.mv (.t 63))] [1,6,7,8])
(.seq
(.reg [
.s 65 (.ld true 14 (.t 1)),
.s 66 (.bld [(.str []),(.int .i64 0)] [(1,1,(.c (.int .i64 1)))]),
.s 67 (.bld [(.str []),(.int .i64 0)] [(0,1,(.c (.str [97])))]),
.s 68 (.bldT 41 2 2 (.agg [(.str []),(.int .i64 0)]) [(0,(.t 66)),(1,(.t 67))]),
.s 69 (.call 15 [(.t 65),(.t 68)]),
.s 64 (.mv (.t 69)),
.s 70 (.ext (.t 64) 0),
.s 71 (.ext (.t 64) 1),
.s 72 (.ext (.t 64) 2),
.s 9 (.alL [(.int .i64 0),(.str []),(.str []),(.str []),(.int .i64 0),(.str []),(.sl 1 ⟨none,0,(some 0),true⟩ []),(.sl 4 ⟨none,0,(some 0),true⟩ []),(.str []),(.sl 14 ⟨none,0,(some 0),true⟩ []),(.sl 1 ⟨none,0,(some 0),true⟩ []),(.str []),(.str []),(.int .i64 0)]),
.n (.st 14 (.t 9) (.t 70)),
.s 10 (.mv (.t 71)),
.s 11 (.mv (.t 72))] [1,6,7,8,9,10,11])
(.seq
(.reg [
.s 74 (.ld true 14 (.t 1)),
.s 75 (.bld [(.str []),(.int .i64 0)] [(1,1,(.c (.int .i64 2)))]),
.s 76 (.bldT 41 2 1 (.agg [(.str []),(.int .i64 0)]) [(0,(.t 75))]),
.s 77 (.call 15 [(.t 74),(.t 76)]),
.s 73 (.mv (.t 77)),
.s 78 (.ext (.t 73) 0),
.s 79 (.ext (.t 73) 1),
.s 80 (.ext (.t 73) 2),
.s 12 (.alL [(.int .i64 0),(.str []),(.str []),(.str []),(.int .i64 0),(.str []),(.sl 1 ⟨none,0,(some 0),true⟩ []),(.sl 4 ⟨none,0,(some 0),true⟩ []),(.str []),(.sl 14 ⟨none,0,(some 0),true⟩ []),(.sl 1 ⟨none,0,(some 0),true⟩ []),(.str []),(.str []),(.int .i64 0)]),
.n (.st 14 (.t 12) (.t 78)),
.s 13 (.mv (.t 79)),
.s 14 (.mv (.t 80))] [1,6,7,8,9,10,11,14])
(.seq
(.seq
(.reg [
.s 81 (.fa 3 (.t 6)),
.s 82 (.ld false 1 (.t 81)),
.s 83 (.bin .neq (some .str) (.t 82) (.c (.str [49]))),
.s 84 (.mv (.t 83)),
.g 85 (.mv (.t 7)) 84 false,
.g 86 (.bin .neq (some .int) (.t 85) (.c (.int .i64 1))) 84 false,
.s 87 (.pick (.t 84) (.c (.bool true)) (.t 86)),
.s 88 (.mv (.t 87)),
.g 89 (.mv (.t 8)) 88 false,
.g 90 (.un .not (.t 89)) 88 false,
.s 91 (.pick (.t 88) (.c (.bool true)) (.t 90)),
.s 92 (.mv (.t 91)),
.g 93 (.ld true 14 (.t 9)) 92 false,
.g 94 (.call 11 [(.t 93)]) 92 false,
.g 95 (.bin .neq (some .str) (.t 94) (.c (.str [34,97,34,58,32,50]))) 92 false,
.s 96 (.pick (.t 92) (.c (.bool true)) (.t 95)),
.s 97 (.mv (.t 96)),
.g 98 (.mv (.t 10)) 97 false,
.g 99 (.bin .neq (some .int) (.t 98) (.c (.int .i64 5))) 97 false,
.s 100 (.pick (.t 97) (.c (.bool true)) (.t 99)),
.s 101 (.mv (.t 100)),
.g 102 (.mv (.t 11)) 101 false,
.g 103 (.un .not (.t 102)) 101 false,
.s 104 (.pick (.t 101) (.c (.bool true)) (.t 103)),
.s 105 (.mv (.t 104)),
.g 106 (.mv (.t 14)) 105 false,
.s 107 (.pick (.t 105) (.c (.bool true)) (.t 106))] [1,107])
(.cnd (.t 107)
(.seq
(.reg [
.s 0 (.mv (.c (.bool false)))] [0])
.ret)
.skip))
(.seq
(.seq
(.ndet [
.s 108 (.alL [(.bool false)]),
.n (.st 1 (.t 108) (.c (.bool true))),
.n (.st 1 (.t 108) (.c (.bool false))),
.s 109 (.ld false 1 (.t 108))] [1,109])
(.cnd (.t 109)
(.seq
(.drw [
((.s 110 (.fa 9 (.t 1)),(some 1)),[]),
((.s 111 (.ld false 1 (.t 110)),(some 1)),[]),
((.s 112 (.ia 14 (.t 111) (.c (.int .i64 1))),none),[]),
((.s 113 (.fa 9 (.t 112)),none),[]),
((.s 114 (.ld false 1 (.t 113)),none),[]),
((.s 115 (.fa 9 (.t 1)),(some 1)),[]),
((.s 116 (.ld false 1 (.t 115)),(some 1)),[]),
((.s 117 (.ia 14 (.t 116) (.c (.int .i64 1))),none),[]),
((.s 118 (.fa 9 (.t 117)),none),[]),
((.s 119 (.ld false 1 (.t 118)),none),[]),
((.s 120 (.ia 14 (.t 119) (.c (.int .i64 0))),none),[]),
((.s 121 (.ld true 14 (.t 120)),none),[]),
((.s 122 (.len (.t 114)),none),[]),
((.s 123 (.bldS 14 1 (.agg [(.int .i64 0),(.str []),(.str []),(.str []),(.int .i64 0),(.str []),(.sl 1 ⟨none,0,(some 0),true⟩ []),(.sl 4 ⟨none,0,(some 0),true⟩ []),(.str []),(.sl 14 ⟨none,0,(some 0),true⟩ []),(.sl 1 ⟨none,0,(some 0),true⟩ []),(.str []),(.str []),(.int .i64 0)]) [(0,(.c (.agg [(.int .i64 0),(.str []),(.str []),(.str []),(.int .i64 0),(.str []),(.sl 1 ⟨none,0,(some 0),true⟩ []),(.sl 4 ⟨none,0,(some 0),true⟩ []),(.str []),(.sl 14 ⟨none,0,(some 0),true⟩ []),(.sl 1 ⟨none,0,(some 0),true⟩ []),(.str []),(.str []),(.int .i64 0)])))]),none),[]),
((.s 124 (.app true 28 14 232 (.t 114) (.t 123)),none),[]),
((.s 125 (.ia 14 (.t 111) (.c (.int .i64 1))),none),[]),
((.s 126 (.fa 9 (.t 125)),none),[]),
((.n (.st 1 (.t 126) (.t 124)),none),[])] [1,121,122,124])
(.reg [
.s 127 (.ia 14 (.t 124) (.t 122)),
.n (.st 14 (.t 127) (.t 121))] [1]))
(.drw [
((.s 128 (.fa 9 (.t 1)),(some 1)),[]),
((.s 129 (.ld false 1 (.t 128)),(some 1)),[]),
((.s 130 (.fa 9 (.t 1)),(some 1)),[]),
((.s 131 (.ld false 1 (.t 130)),(some 1)),[]),
((.s 132 (.ia 14 (.t 131) (.c (.int .i64 1))),none),[]),
((.s 133 (.fa 9 (.t 132)),none),[]),
((.s 134 (.ld false 1 (.t 133)),none),[]),
((.s 135 (.fa 9 (.t 1)),(some 1)),[]),
((.s 136 (.ld false 1 (.t 135)),(some 1)),[]),
((.s 137 (.ia 14 (.t 136) (.c (.int .i64 1))),none),[]),
((.s 138 (.fa 9 (.t 137)),none),[]),
((.s 139 (.ld false 1 (.t 138)),none),[]),
((.s 140 (.ia 14 (.t 139) (.c (.int .i64 0))),none),[]),
((.s 141 (.ld true 14 (.t 140)),none),[]),
((.s 142 (.bldS 14 1 (.agg [(.int .i64 0),(.str []),(.str []),(.str []),(.int .i64 0),(.str []),(.sl 1 ⟨none,0,(some 0),true⟩ []),(.sl 4 ⟨none,0,(some 0),true⟩ []),(.str []),(.sl 14 ⟨none,0,(some 0),true⟩ []),(.sl 1 ⟨none,0,(some 0),true⟩ []),(.str []),(.str []),(.int .i64 0)]) [(0,(.t 141))]),none),[]),
((.s 143 (.app true 28 14 232 (.t 134) (.t 142)),none),[]),
((.s 144 (.ia 14 (.t 129) (.c (.int .i64 1))),none),[]),
((.s 145 (.fa 9 (.t 144)),none),[]),
((.n (.st 1 (.t 145) (.t 143)),none),[])] [1])))
(.seq
(.reg [
.s 146 (.fa 9 (.t 1)),
.s 147 (.ld false 1 (.t 146)),
.s 148 (.bldT 9 1 1 (.str []) [(0,(.c (.str [44])))]),
.s 149 (.ia 14 (.t 147) (.c (.int .i64 1))),
.s 150 (.fa 10 (.t 149)),
.n (.st 1 (.t 150) (.t 148))] [1])
(.seq
(.reg [
.s 152 (.ld true 14 (.t 1)),
.s 153 (.call 9 [(.t 152)]),
.s 151 (.mv (.t 153)),
.s 154 (.ext (.t 151) 0),
.s 155 (.ext (.t 151) 1),
.s 3 (.mv (.t 155))] [1,3])
(.seq
(.reg [
.s 156 (.mv (.t 3)),
.s 157 (.bin .eql (some .int) (.t 156) (.c (.int .i64 1))),
.s 158 (.mv (.t 157)),
.g 159 (.ld true 14 (.t 1)) 158 true,
.g 160 (.call 14 [(.t 159)]) 158 true,
.g 161 (.un .not (.t 160)) 158 true,
.s 162 (.pick (.t 158) (.t 161) (.c (.bool false))),
.s 163 (.mv (.t 162)),
.g 164 (.bld [(.int .i64 0),(.str []),(.str []),(.str []),(.int .i64 0),(.str []),(.sl 1 ⟨none,0,(some 0),true⟩ []),(.sl 4 ⟨none,0,(some 0),true⟩ []),(.str []),(.sl 14 ⟨none,0,(some 0),true⟩ []),(.sl 1 ⟨none,0,(some 0),true⟩ []),(.str []),(.str []),(.int .i64 0)] []) 163 true,
.g 165 (.call 11 [(.t 164)]) 163 true,
.g 166 (.bin .eql (some .str) (.t 165) (.c (.str []))) 163 true,
.s 167 (.pick (.t 163) (.t 166) (.c (.bool false))),
.s 0 (.mv (.t 167))] [0])
.ret))))))))))))),
[.tmp 0]⟩
/-- emend/emendlaw4.CstApart -/
def F6 : DF := ⟨1,
(.seq
(.reg [
.s 1 (.bxL (.t 0)),
.s 2 (.mv (.c (.bool false)))] [1])
(.seq
(.seq
(.reg [
.s 8 (.ld true 14 (.t 1)),
.s 9 (.call 16 [(.t 8),(.c (.int .i64 3000))]),
.s 10 (.bin .geq none (.t 9) (.c (.int .i64 3000)))] [1,10])
(.cnd (.t 10)
(.seq
(.reg [
.s 11 (.call 3 []),
.s 2 (.mv (.t 11))] [2])
.ret)
.skip))
(.seq
(.reg [
.s 12 (.ld true 14 (.t 1)),
.s 13 (.call 17 [(.t 12)]),
.s 3 (.alL [(.int .i64 0),(.str []),(.str []),(.str []),(.int .i64 0),(.str []),(.sl 1 ⟨none,0,(some 0),true⟩ []),(.sl 4 ⟨none,0,(some 0),true⟩ []),(.str []),(.sl 14 ⟨none,0,(some 0),true⟩ []),(.sl 1 ⟨none,0,(some 0),true⟩ []),(.str []),(.str []),(.int .i64 0)]),
.n (.st 14 (.t 3) (.t 13))] [1,3])
(.seq
(.reg [
.s 14 (.ld true 14 (.t 3)),
.s 15 (.call 24 [(.t 14)]),
.s 4 (.alL [(.int .i64 0),(.str []),(.str []),(.str []),(.int .i64 0),(.str []),(.sl 1 ⟨none,0,(some 0),true⟩ []),(.sl 4 ⟨none,0,(some 0),true⟩ []),(.str []),(.sl 14 ⟨none,0,(some 0),true⟩ []),(.sl 1 ⟨none,0,(some 0),true⟩ []),(.str []),(.str []),(.int .i64 0)]),
.n (.st 14 (.t 4) (.t 15))] [1,3,4])
(.seq
(.seq
(.reg [
.s 5 (.mv (.c (.int .i64 0)))] [1,3,4,5])
(.blk 0
(.seq
(.trim [1,3,4,5])
(.lop
(.seq
(.seq
(.seq
(.reg [
.s 16 (.mv (.t 5)),
.s 17 (.fa 9 (.t 4)),
.s 18 (.ld false 1 (.t 17)),
.s 19 (.len (.t 18)),
.s 20 (.bin .lss none (.t 16) (.t 19))] [1,3,4,5,20])
(.cnd (.t 20)
.skip
(.exit 0)))
(.seq
(.blk 1
(.seq
(.reg [
.s 23 (.fa 9 (.t 4)),
.s 24 (.ld false 1 (.t 23)),
.s 25 (.mv (.t 5)),
.s 26 (.ia 14 (.t 24) (.t 25)),
.s 27 (.fa 1 (.t 26)),
.n (.st 1 (.t 27) (.c (.str [103,111,110,101])))] [1,3,4,5])
(.reg [
.s 28 (.fa 9 (.t 4)),
.s 29 (.ld false 1 (.t 28)),
.s 30 (.mv (.t 5)),
.s 31 (.ia 14 (.t 29) (.t 30)),
.s 32 (.fa 0 (.t 31)),
.n (.st 1 (.t 32) (.c (.int .i64 (-7))))] [1,3,4,5])))
(.reg [
.s 21 (.mv (.t 5)),
.s 22 (.bin .add none (.t 21) (.c (.int .i64 1))),
.s 5 (.mv (.t 22))] [1,3,4,5])))
(.trim [1,3,4,5]))))))
(.seq
(.seq
(.reg [
.s 6 (.mv (.c (.int .i64 0)))] [1,3,4,6])
(.blk 2
(.seq
(.trim [1,3,4,6])
(.lop
(.seq
(.seq
(.seq
(.reg [
.s 33 (.mv (.t 6)),
.s 34 (.fa 10 (.t 4)),
.s 35 (.ld false 1 (.t 34)),
.s 36 (.len (.t 35)),
.s 37 (.bin .lss none (.t 33) (.t 36))] [1,3,4,6,37])
(.cnd (.t 37)
.skip
(.exit 2)))
(.seq
(.blk 3
(.reg [
.s 40 (.fa 10 (.t 4)),
.s 41 (.ld false 1 (.t 40)),
.s 42 (.mv (.t 6)),
.s 43 (.ia 1 (.t 41) (.t 42)),
.n (.st 1 (.t 43) (.c (.str [103,111,110,101])))] [1,3,4,6]))
(.reg [
.s 38 (.mv (.t 6)),
.s 39 (.bin .add none (.t 38) (.c (.int .i64 1))),
.s 6 (.mv (.t 39))] [1,3,4,6])))
(.trim [1,3,4,6]))))))
(.seq
(.seq
(.reg [
.s 7 (.mv (.c (.int .i64 0)))] [1,3,4,7])
(.blk 4
(.seq
(.trim [1,3,4,7])
(.lop
(.seq
(.seq
(.seq
(.reg [
.s 44 (.mv (.t 7)),
.s 45 (.fa 4 (.t 4)),
.s 46 (.fa 2 (.t 45)),
.s 47 (.ld false 1 (.t 46)),
.s 48 (.len (.t 47)),
.s 49 (.bin .lss none (.t 44) (.t 48))] [1,3,4,7,49])
(.cnd (.t 49)
.skip
(.exit 4)))
(.seq
(.blk 5
(.reg [
.s 52 (.fa 4 (.t 4)),
.s 53 (.fa 2 (.t 52)),
.s 54 (.ld false 1 (.t 53)),
.s 55 (.mv (.t 7)),
.s 56 (.ia 1 (.t 54) (.t 55)),
.n (.st 1 (.t 56) (.c (.str [103,111,110,101])))] [1,3,4,7]))
(.reg [
.s 50 (.mv (.t 7)),
.s 51 (.bin .add none (.t 50) (.c (.int .i64 1))),
.s 7 (.mv (.t 51))] [1,3,4,7])))
(.trim [1,3,4,7]))))))
(.seq
(.reg [
.s 57 (.ld true 14 (.t 3)),
.s 58 (.ld true 14 (.t 1)),
.s 59 (.call 23 [(.t 57),(.t 58)]),
.s 60 (.mv (.t 59)),
.g 61 (.call 3 []) 60 true,
.s 62 (.pick (.t 60) (.t 61) (.c (.bool false))),
.s 2 (.mv (.t 62))] [2])
.ret)))))))),
[.tmp 2]⟩
/-- emend/emendlaw4.list -/
def F8 : DF := ⟨0,
(.seq
(.reg [
.s 0 (.alL [(.int .i64 0),(.str []),(.str []),(.str []),(.int .i64 0),(.str []),(.sl 1 ⟨none,0,(some 0),true⟩ []),(.sl 4 ⟨none,0,(some 0),true⟩ []),(.str []),(.sl 14 ⟨none,0,(some 0),true⟩ []),(.sl 1 ⟨none,0,(some 0),true⟩ []),(.str []),(.str []),(.int .i64 0)])] [0])
(.seq
(.reg [
.s 4 (.bld [(.int .i64 0),(.str []),(.sl 1 ⟨none,0,(some 0),true⟩ []),(.sl 4 ⟨none,0,(some 0),true⟩ [])] [(0,1,(.c (.int .i64 3))),(1,1,(.c (.str [49])))]),
.s 5 (.bld [(.int .i64 0),(.str []),(.str []),(.str []),(.int .i64 0),(.str []),(.sl 1 ⟨none,0,(some 0),true⟩ []),(.sl 4 ⟨none,0,(some 0),true⟩ []),(.str []),(.sl 14 ⟨none,0,(some 0),true⟩ []),(.sl 1 ⟨none,0,(some 0),true⟩ []),(.str []),(.str []),(.int .i64 0)] [(0,1,(.c (.int .i64 3))),(3,1,(.c (.str [49]))),(4,4,(.t 4))]),
.s 1 (.alL [(.int .i64 0),(.str []),(.str []),(.str []),(.int .i64 0),(.str []),(.sl 1 ⟨none,0,(some 0),true⟩ []),(.sl 4 ⟨none,0,(some 0),true⟩ []),(.str []),(.sl 14 ⟨none,0,(some 0),true⟩ []),(.sl 1 ⟨none,0,(some 0),true⟩ []),(.str []),(.str []),(.int .i64 0)]),
.n (.st 14 (.t 1) (.t 5))] [0,1])
(.seq
(.reg [
.s 6 (.bld [(.int .i64 0),(.str []),(.sl 1 ⟨none,0,(some 0),true⟩ []),(.sl 4 ⟨none,0,(some 0),true⟩ [])] [(0,1,(.c (.int .i64 3))),(1,1,(.c (.str [50])))]),
.s 7 (.bld [(.int .i64 0),(.str []),(.str []),(.str []),(.int .i64 0),(.str []),(.sl 1 ⟨none,0,(some 0),true⟩ []),(.sl 4 ⟨none,0,(some 0),true⟩ []),(.str []),(.sl 14 ⟨none,0,(some 0),true⟩ []),(.sl 1 ⟨none,0,(some 0),true⟩ []),(.str []),(.str []),(.int .i64 0)] [(0,1,(.c (.int .i64 3))),(1,1,(.c (.str [34,97,34,58,32]))),(2,1,(.c (.str [97]))),(3,1,(.c (.str [50]))),(4,4,(.t 6))]),
.s 2 (.alL [(.int .i64 0),(.str []),(.str []),(.str []),(.int .i64 0),(.str []),(.sl 1 ⟨none,0,(some 0),true⟩ []),(.sl 4 ⟨none,0,(some 0),true⟩ []),(.str []),(.sl 14 ⟨none,0,(some 0),true⟩ []),(.sl 1 ⟨none,0,(some 0),true⟩ []),(.str []),(.str []),(.int .i64 0)]),
.n (.st 14 (.t 2) (.t 7))] [0,1,2])
(.seq
(.reg [
.s 8 (.ld true 14 (.t 2)),
.s 9 (.bldT 28 14 1 (.agg [(.int .i64 0),(.str []),(.str []),(.str []),(.int .i64 0),(.str []),(.sl 1 ⟨none,0,(some 0),true⟩ []),(.sl 4 ⟨none,0,(some 0),true⟩ []),(.str []),(.sl 14 ⟨none,0,(some 0),true⟩ []),(.sl 1 ⟨none,0,(some 0),true⟩ []),(.str []),(.str []),(.int .i64 0)]) [(0,(.t 8))]),
.s 10 (.bld [(.int .i64 0),(.str []),(.str []),(.str []),(.int .i64 0),(.str []),(.sl 1 ⟨none,0,(some 0),true⟩ []),(.sl 4 ⟨none,0,(some 0),true⟩ []),(.str []),(.sl 14 ⟨none,0,(some 0),true⟩ []),(.sl 1 ⟨none,0,(some 0),true⟩ []),(.str []),(.str []),(.int .i64 0)] [(0,1,(.c (.int .i64 7))),(1,1,(.c (.str [32]))),(8,1,(.c (.str [123]))),(11,1,(.c (.str [125]))),(9,1,(.t 9))]),
.s 3 (.alL [(.int .i64 0),(.str []),(.str []),(.str []),(.int .i64 0),(.str []),(.sl 1 ⟨none,0,(some 0),true⟩ []),(.sl 4 ⟨none,0,(some 0),true⟩ []),(.str []),(.sl 14 ⟨none,0,(some 0),true⟩ []),(.sl 1 ⟨none,0,(some 0),true⟩ []),(.str []),(.str []),(.int .i64 0)]),
.n (.st 14 (.t 3) (.t 10))] [0,1,3])
(.seq
(.reg [
.s 11 (.bldT 9 1 1 (.str []) [(0,(.c (.str [44])))]),
.s 12 (.ld true 14 (.t 1)),
.s 13 (.ld true 14 (.t 3)),
.s 14 (.bldT 28 14 2 (.agg [(.int .i64 0),(.str []),(.str []),(.str []),(.int .i64 0),(.str []),(.sl 1 ⟨none,0,(some 0),true⟩ []),(.sl 4 ⟨none,0,(some 0),true⟩ []),(.str []),(.sl 14 ⟨none,0,(some 0),true⟩ []),(.sl 1 ⟨none,0,(some 0),true⟩ []),(.str []),(.str []),(.int .i64 0)]) [(0,(.t 12)),(1,(.t 13))]),
.s 15 (.bld [(.int .i64 0),(.str []),(.str []),(.str []),(.int .i64 0),(.str []),(.sl 1 ⟨none,0,(some 0),true⟩ []),(.sl 4 ⟨none,0,(some 0),true⟩ []),(.str []),(.sl 14 ⟨none,0,(some 0),true⟩ []),(.sl 1 ⟨none,0,(some 0),true⟩ []),(.str []),(.str []),(.int .i64 0)] [(0,1,(.c (.int .i64 6))),(8,1,(.c (.str [91]))),(11,1,(.c (.str [93]))),(10,1,(.t 11)),(9,1,(.t 14))]),
.n (.st 14 (.t 0) (.t 15))] [0])
.ret))))),
[.cell 0 true 14]⟩
/-- emend/cst.Tree -/
def F9 : DF := ⟨1,
(.seq
(.reg [
.s 1 (.bxL (.t 0)),
.s 2 (.alL [(.int .i64 0),(.str []),(.sl 1 ⟨none,0,(some 0),true⟩ []),(.sl 4 ⟨none,0,(some 0),true⟩ [])]),
.s 3 (.mv (.c (.int .i64 0)))] [1,2])
(.seq
(.seq
(.reg [
.s 4 (.ld true 14 (.t 1)),
.s 5 (.call 14 [(.t 4)]),
.s 6 (.un .not (.t 5))] [1,2,6])
(.cnd (.t 6)
(.seq
(.reg [
.s 7 (.bld [(.int .i64 0),(.str []),(.sl 1 ⟨none,0,(some 0),true⟩ []),(.sl 4 ⟨none,0,(some 0),true⟩ [])] []),
.n (.st 4 (.t 2) (.t 7)),
.s 3 (.mv (.c (.int .i64 1)))] [2,3])
.ret)
.skip))
(.seq
(.reg [
.s 8 (.ld true 14 (.t 1)),
.s 9 (.call 32 [(.t 8)]),
.n (.st 4 (.t 2) (.t 9)),
.s 3 (.mv (.c (.int .i64 0)))] [2,3])
.ret))),
[.cell 2 true 4,.tmp 3]⟩
/-- emend/tree.Text -/
def F10 : DF := ⟨1,
(.seq
(.reg [
.s 1 (.bxL (.t 0)),
.s 2 (.mv (.c (.str []))),
.s 3 (.mv (.c (.int .i64 0)))] [1])
(.seq
(.seq
(.reg [
.s 6 (.ld true 4 (.t 1)),
.s 7 (.call 28 [(.t 6)]),
.s 4 (.mv (.t 7))] [1,4])
(.seq
(.reg [
.s 8 (.mv (.t 4)),
.s 9 (.bin .neq (some .int) (.t 8) (.c (.int .i64 0)))] [1,4,9])
(.cnd (.t 9)
(.seq
(.reg [
.s 10 (.mv (.t 4)),
.s 2 (.mv (.c (.str []))),
.s 3 (.mv (.t 10))] [2,3])
.ret)
.skip)))
(.seq
(.reg [
.s 11 (.bld [.nilp,(.sl 1 ⟨none,0,(some 0),true⟩ [])] []),
.s 12 (.bxH 65 (.t 11)),
.s 5 (.mv (.t 12))] [1,5])
(.seq
(.reg [
.s 13 (.mv (.t 5)),
.s 14 (.ld true 4 (.t 1)),
.s 15 (.call 33 [(.t 13),(.t 14)])] [5])
(.seq
(.seq
(.reg [
.s 16 (.mv (.t 5)),
.s 17 (.nilc (.t 16)),
.s 18 (.fa 0 (.t 17)),
.s 19 (.call 34 [(.t 18)]),
.s 20 (.bin .gtr none (.t 19) (.c (.int .i64 65536)))] [5,20])
(.cnd (.t 20)
(.seq
(.reg [
.s 2 (.mv (.c (.str []))),
.s 3 (.mv (.c (.int .i64 2)))] [2,3])
.ret)
.skip))
(.seq
(.reg [
.s 21 (.mv (.t 5)),
.s 22 (.nilc (.t 21)),
.s 23 (.fa 0 (.t 22)),
.s 24 (.call 35 [(.t 23)]),
.s 2 (.mv (.t 24)),
.s 3 (.mv (.c (.int .i64 0)))] [2,3])
.ret)))))),
[.tmp 2,.tmp 3]⟩
/-- emend/cst.Flatten -/
def F11 : DF := ⟨1,
(.seq
(.reg [
.s 1 (.bxL (.t 0)),
.s 2 (.mv (.c (.str [])))] [1])
(.seq
(.reg [
.s 3 (.alH 63 [.nilp,(.sl 1 ⟨none,0,(some 0),true⟩ [])])] [1,3])
(.seq
(.reg [
.s 4 (.ld true 14 (.t 1)),
.s 5 (.mkf 37 [] [(.t 3)]),
.s 6 (.call 36 [(.t 4),(.t 5)])] [3])
(.seq
(.reg [
.s 7 (.call 35 [(.t 3)]),
.s 2 (.mv (.t 7))] [2])
.ret)))),
[.tmp 2]⟩
/-- emend/cst.Len -/
def F12 : DF := ⟨1,
(.seq
(.reg [
.s 1 (.bxL (.t 0)),
.s 2 (.mv (.c (.int .i64 0)))] [1])
(.seq
(.reg [
.s 3 (.alH 3 [(.int .i64 0)]),
.n (.st 1 (.t 3) (.c (.int .i64 0)))] [1,3])
(.seq
(.reg [
.s 4 (.ld true 14 (.t 1)),
.s 5 (.mkf 39 [] [(.t 3)]),
.s 6 (.call 36 [(.t 4),(.t 5)])] [3])
(.seq
(.reg [
.s 7 (.ld false 1 (.t 3)),
.s 2 (.mv (.t 7))] [2])
.ret)))),
[.tmp 2]⟩
/-- emend/cst.Count -/
def F13 : DF := ⟨1,
(.seq
(.reg [
.s 1 (.bxL (.t 0)),
.s 2 (.mv (.c (.int .i64 0)))] [1])
(.seq
(.reg [
.s 3 (.mv (.c (.int .i64 1)))] [1,3])
(.seq
(.seq
(.reg [
.s 6 (.fa 9 (.t 1)),
.s 7 (.ld false 1 (.t 6)),
.s 8 (.len (.t 7)),
.s 9 (.mv (.c (.int .i64 0)))] [3,7,8,9])
(.blk 0
(.seq
(.trim [3,7,8,9])
(.lop
(.seq
(.seq
(.reg [
.s 10 (.bin .lss none (.t 9) (.t 8))] [3,7,8,9,10])
(.seq
(.cnd (.t 10)
.skip
(.exit 0))
(.seq
(.blk 1
(.seq
(.reg [
.s 11 (.ia 14 (.t 7) (.t 9)),
.s 12 (.ld true 14 (.t 11)),
.s 5 (.alL [(.int .i64 0),(.str []),(.str []),(.str []),(.int .i64 0),(.str []),(.sl 1 ⟨none,0,(some 0),true⟩ []),(.sl 4 ⟨none,0,(some 0),true⟩ []),(.str []),(.sl 14 ⟨none,0,(some 0),true⟩ []),(.sl 1 ⟨none,0,(some 0),true⟩ []),(.str []),(.str []),(.int .i64 0)]),
.n (.st 14 (.t 5) (.t 12))] [3,5,7,8,9])
(.reg [
.s 13 (.mv (.t 3)),
.s 14 (.ld true 14 (.t 5)),
.s 15 (.call 13 [(.t 14)]),
.s 16 (.bin .add none (.t 13) (.t 15)),
.s 3 (.mv (.t 16))] [3,7,8,9])))
(.reg [
.s 17 (.bin .add none (.t 9) (.c (.int .i64 1))),
.s 9 (.mv (.t 17))] [3,7,8,9]))))
(.trim [3,7,8,9]))))))
(.seq
(.reg [
.s 18 (.mv (.t 3)),
.s 2 (.mv (.t 18))] [2])
.ret)))),
[.tmp 2]⟩
/-- emend/cst.Right -/
def F14 : DF := ⟨1,
(.seq
(.reg [
.s 1 (.bxL (.t 0)),
.s 2 (.mv (.c (.bool false)))] [1])
(.seq
(.reg [
.s 3 (.ld true 14 (.t 1)),
.s 4 (.call 40 [(.t 3)]),
.s 5 (.bin .leq none (.t 4) (.c (.int .i64 64))),
.s 6 (.mv (.t 5)),
.g 7 (.ld true 14 (.t 1)) 6 true,
.g 8 (.call 13 [(.t 7)]) 6 true,
.g 9 (.bin .leq none (.t 8) (.c (.int .i64 4096))) 6 true,
.s 10 (.pick (.t 6) (.t 9) (.c (.bool false))),
.s 11 (.mv (.t 10)),
.g 12 (.ld true 14 (.t 1)) 11 true,
.g 13 (.call 41 [(.t 12)]) 11 true,
.s 14 (.pick (.t 11) (.t 13) (.c (.bool false))),
.s 2 (.mv (.t 14))] [2])
.ret)),
[.tmp 2]⟩
/-- emend/cst.Find -/
def F15 : DF := ⟨2,
(.seq
(.reg [
.s 2 (.bxL (.t 0)),
.s 4 (.alL [(.int .i64 0),(.str []),(.str []),(.str []),(.int .i64 0),(.str []),(.sl 1 ⟨none,0,(some 0),true⟩ []),(.sl 4 ⟨none,0,(some 0),true⟩ []),(.str []),(.sl 14 ⟨none,0,(some 0),true⟩ []),(.sl 1 ⟨none,0,(some 0),true⟩ []),(.str []),(.str []),(.int .i64 0)]),
.s 5 (.mv (.c (.int .i64 0))),
.s 6 (.mv (.c (.bool false)))] [1,2,4])
(.seq
(.reg [
.s 7 (.mv (.c (.int .i64 0)))] [1,2,4,7])
(.seq
(.seq
(.reg [
.s 13 (.mv (.t 1)),
.s 14 (.len (.t 13)),
.s 15 (.mv (.c (.int .i64 0)))] [2,4,7,13,14,15])
(.blk 0
(.seq
(.trim [2,4,7,13,14,15])
(.lop
(.seq
(.seq
(.reg [
.s 16 (.bin .lss none (.t 15) (.t 14))] [2,4,7,13,14,15,16])
(.seq
(.cnd (.t 16)
.skip
(.exit 0))
(.seq
(.blk 1
(.seq
(.reg [
.s 17 (.ia 2 (.t 13) (.t 15)),
.s 18 (.ld true 2 (.t 17)),
.s 9 (.alL [(.str []),(.int .i64 0)]),
.n (.st 2 (.t 9) (.t 18))] [2,4,7,9,13,14,15])
(.seq
(.reg [
.s 19 (.ld true 14 (.t 2)),
.s 20 (.ld true 2 (.t 9)),
.s 21 (.call 42 [(.t 19),(.t 20)]),
.s 10 (.mv (.t 21))] [2,4,7,10,13,14,15])
(.seq
(.seq
(.reg [
.s 22 (.mv (.t 10)),
.s 23 (.bin .lss none (.t 22) (.c (.int .i64 0)))] [2,4,7,10,13,14,15,23])
(.cnd (.t 23)
(.seq
(.reg [
.s 24 (.bld [(.int .i64 0),(.str []),(.str []),(.str []),(.int .i64 0),(.str []),(.sl 1 ⟨none,0,(some 0),true⟩ []),(.sl 4 ⟨none,0,(some 0),true⟩ []),(.str []),(.sl 14 ⟨none,0,(some 0),true⟩ []),(.sl 1 ⟨none,0,(some 0),true⟩ []),(.str []),(.str []),(.int .i64 0)] []),
.n (.st 14 (.t 4) (.t 24)),
.s 5 (.mv (.c (.int .i64 0))),
.s 6 (.mv (.c (.bool false)))] [4,5,6])
.ret)
.skip))
(.seq
(.reg [
.s 25 (.mv (.t 7)),
.s 26 (.fa 1 (.t 2)),
.s 27 (.ld false 1 (.t 26)),
.s 28 (.lenS (.t 27)),
.s 29 (.fa 8 (.t 2)),
.s 30 (.ld false 1 (.t 29)),
.s 31 (.lenS (.t 30)),
.s 32 (.bin .add none (.t 28) (.t 31)),
.s 33 (.bin .add none (.t 25) (.t 32)),
.s 7 (.mv (.t 33))] [2,4,7,10,13,14,15])
(.seq
(.seq
(.reg [
.s 34 (.fa 9 (.t 2)),
.s 35 (.ld false 1 (.t 34)),
.s 36 (.mv (.t 10)),
.s 37 (.slA 14 (.t 35) none (some (.t 36)) none),
.s 38 (.len (.t 37)),
.s 39 (.mv (.c (.int .i64 0)))] [2,4,7,10,13,14,15,37,38,39])
(.blk 2
(.seq
(.trim [2,4,7,10,13,14,15,37,38,39])
(.lop
(.seq
(.seq
(.reg [
.s 40 (.bin .lss none (.t 39) (.t 38))] [2,4,7,10,13,14,15,37,38,39,40])
(.seq
(.cnd (.t 40)
.skip
(.exit 2))
(.seq
(.blk 3
(.seq
(.reg [
.s 41 (.mv (.t 39)),
.s 42 (.ia 14 (.t 37) (.t 39)),
.s 43 (.ld true 14 (.t 42)),
.s 12 (.alL [(.int .i64 0),(.str []),(.str []),(.str []),(.int .i64 0),(.str []),(.sl 1 ⟨none,0,(some 0),true⟩ []),(.sl 4 ⟨none,0,(some 0),true⟩ []),(.str []),(.sl 14 ⟨none,0,(some 0),true⟩ []),(.sl 1 ⟨none,0,(some 0),true⟩ []),(.str []),(.str []),(.int .i64 0)]),
.s 11 (.mv (.t 41)),
.n (.st 14 (.t 12) (.t 43))] [2,4,7,10,11,12,13,14,15,37,38,39])
(.seq
(.reg [
.s 44 (.mv (.t 7)),
.s 45 (.ld true 14 (.t 12)),
.s 46 (.call 12 [(.t 45)]),
.s 47 (.bin .add none (.t 44) (.t 46)),
.s 7 (.mv (.t 47))] [2,4,7,10,11,13,14,15,37,38,39])
(.seq
(.reg [
.s 48 (.mv (.t 11)),
.s 49 (.fa 10 (.t 2)),
.s 50 (.ld false 1 (.t 49)),
.s 51 (.len (.t 50)),
.s 52 (.bin .lss none (.t 48) (.t 51))] [2,4,7,10,11,13,14,15,37,38,39,52])
(.cnd (.t 52)
(.reg [
.s 53 (.mv (.t 7)),
.s 54 (.fa 10 (.t 2)),
.s 55 (.ld false 1 (.t 54)),
.s 56 (.mv (.t 11)),
.s 57 (.ia 1 (.t 55) (.t 56)),
.s 58 (.ld false 1 (.t 57)),
.s 59 (.lenS (.t 58)),
.s 60 (.bin .add none (.t 53) (.t 59)),
.s 7 (.mv (.t 60))] [2,4,7,10,13,14,15,37,38,39])
.skip)))))
(.reg [
.s 61 (.bin .add none (.t 39) (.c (.int .i64 1))),
.s 39 (.mv (.t 61))] [2,4,7,10,13,14,15,37,38,39]))))
(.trim [2,4,7,10,13,14,15,37,38,39]))))))
(.reg [
.s 62 (.fa 9 (.t 2)),
.s 63 (.ld false 1 (.t 62)),
.s 64 (.mv (.t 10)),
.s 65 (.ia 14 (.t 63) (.t 64)),
.s 66 (.ld true 14 (.t 65)),
.n (.st 14 (.t 2) (.t 66))] [2,4,7,13,14,15])))))))
(.reg [
.s 67 (.bin .add none (.t 15) (.c (.int .i64 1))),
.s 15 (.mv (.t 67))] [2,4,7,13,14,15]))))
(.trim [2,4,7,13,14,15]))))))
(.seq
(.reg [
.s 68 (.ld true 14 (.t 2)),
.s 69 (.call 24 [(.t 68)]),
.s 70 (.mv (.t 7)),
.n (.st 14 (.t 4) (.t 69)),
.s 5 (.mv (.t 70)),
.s 6 (.mv (.c (.bool true)))] [4,5,6])
.ret)))),
[.cell 4 true 14,.tmp 5,.tmp 6]⟩
/-- emend/emendlaw4.size -/
def F16 : DF := ⟨2,
(.seq
(.reg [
.s 2 (.bxL (.t 0)),
.s 4 (.mv (.c (.int .i64 0)))] [1,2])
(.seq
(.drw [
((.s 7 (.fa 4 (.t 2)),(some 2)),[]),
((.s 8 (.ld true 4 (.t 7)),(some 2)),[]),
((.s 9 (.mv (.t 1)),none),[]),
((.s 12 (.fa 10 (.t 2)),(some 2)),[]),
((.s 13 (.ld false 1 (.t 12)),(some 2)),[]),
((.s 14 (.len (.t 13)),none),[]),
((.s 10 (.call 43 [(.t 8),(.t 9)]),none),[]),
((.s 11 (.bin .add none (.c (.int .i64 1)) (.t 10)),none),[]),
((.s 15 (.bin .add none (.t 11) (.t 14)),none),[]),
((.s 5 (.mv (.t 15)),none),[])] [1,2,5])
(.seq
(.seq
(.reg [
.s 6 (.mv (.c (.int .i64 0)))] [1,2,5,6])
(.blk 0
(.seq
(.trim [1,2,5,6])
(.lop
(.seq
(.seq
(.seq
(.reg [
.s 16 (.mv (.t 6)),
.s 17 (.fa 9 (.t 2)),
.s 18 (.ld false 1 (.t 17)),
.s 19 (.len (.t 18)),
.s 20 (.bin .lss none (.t 16) (.t 19)),
.s 21 (.mv (.t 20)),
.g 22 (.mv (.t 5)) 21 true,
.g 23 (.mv (.t 1)) 21 true,
.g 24 (.bin .lss none (.t 22) (.t 23)) 21 true,
.s 25 (.pick (.t 21) (.t 24) (.c (.bool false)))] [1,2,5,6,25])
(.cnd (.t 25)
.skip
(.exit 0)))
(.seq
(.blk 1
(.reg [
.s 28 (.mv (.t 5)),
.s 29 (.fa 9 (.t 2)),
.s 30 (.ld false 1 (.t 29)),
.s 31 (.mv (.t 6)),
.s 32 (.ia 14 (.t 30) (.t 31)),
.s 33 (.ld true 14 (.t 32)),
.s 34 (.mv (.t 1)),
.s 35 (.mv (.t 5)),
.s 36 (.bin .sub none (.t 34) (.t 35)),
.s 37 (.call 16 [(.t 33),(.t 36)]),
.s 38 (.bin .add none (.t 28) (.t 37)),
.s 5 (.mv (.t 38))] [1,2,5,6]))
(.reg [
.s 26 (.mv (.t 6)),
.s 27 (.bin .add none (.t 26) (.c (.int .i64 1))),
.s 6 (.mv (.t 27))] [1,2,5,6])))
(.trim [1,2,5,6]))))))
(.seq
(.reg [
.s 39 (.mv (.t 5)),
.s 4 (.mv (.t 39))] [4])
.ret)))),
[.tmp 4]⟩
/-- emend/emendref4.Copy -/
def F17 : DF := ⟨1,
(.seq
(.reg [
.s 1 (.bxL (.t 0)),
.s 2 (.alL [(.int .i64 0),(.str []),(.str []),(.str []),(.int .i64 0),(.str []),(.sl 1 ⟨none,0,(some 0),true⟩ []),(.sl 4 ⟨none,0,(some 0),true⟩ []),(.str []),(.sl 14 ⟨none,0,(some 0),true⟩ []),(.sl 1 ⟨none,0,(some 0),true⟩ []),(.str []),(.str []),(.int .i64 0)])] [1,2])
(.seq
(.reg [
.s 5 (.ld true 14 (.t 1)),
.s 3 (.alL [(.int .i64 0),(.str []),(.str []),(.str []),(.int .i64 0),(.str []),(.sl 1 ⟨none,0,(some 0),true⟩ []),(.sl 4 ⟨none,0,(some 0),true⟩ []),(.str []),(.sl 14 ⟨none,0,(some 0),true⟩ []),(.sl 1 ⟨none,0,(some 0),true⟩ []),(.str []),(.str []),(.int .i64 0)]),
.n (.st 14 (.t 3) (.t 5))] [1,2,3])
(.seq
(.reg [
.s 6 (.fa 4 (.t 1)),
.s 7 (.ld true 4 (.t 6)),
.s 8 (.call 44 [(.t 7)]),
.s 9 (.fa 4 (.t 3)),
.n (.st 4 (.t 9) (.t 8))] [1,2,3])
(.seq
(.reg [
.s 10 (.fa 9 (.t 3)),
.n (.st 1 (.t 10) (.c (.sl 14 ⟨none,0,(some 0),true⟩ [])))] [1,2,3])
(.seq
(.reg [
.s 11 (.fa 10 (.t 3)),
.n (.st 1 (.t 11) (.c (.sl 1 ⟨none,0,(some 0),true⟩ [])))] [1,2,3])
(.seq
(.reg [
.s 12 (.fa 10 (.t 3)),
.s 13 (.ld false 1 (.t 12)),
.s 14 (.fa 10 (.t 1)),
.s 15 (.ld false 1 (.t 14)),
.s 16 (.app false 9 1 16 (.t 13) (.t 15)),
.s 17 (.fa 10 (.t 3)),
.n (.st 1 (.t 17) (.t 16))] [1,2,3])
(.seq
(.seq
(.reg [
.s 4 (.mv (.c (.int .i64 0)))] [1,2,3,4])
(.blk 0
(.seq
(.trim [1,2,3,4])
(.lop
(.seq
(.seq
(.seq
(.reg [
.s 18 (.mv (.t 4)),
.s 19 (.fa 9 (.t 1)),
.s 20 (.ld false 1 (.t 19)),
.s 21 (.len (.t 20)),
.s 22 (.bin .lss none (.t 18) (.t 21))] [1,2,3,4,22])
(.cnd (.t 22)
.skip
(.exit 0)))
(.seq
(.blk 1
(.drw [
((.s 25 (.fa 9 (.t 3)),(some 3)),[]),
((.s 26 (.ld false 1 (.t 25)),(some 3)),[]),
((.s 27 (.fa 9 (.t 1)),(some 1)),[]),
((.s 28 (.ld false 1 (.t 27)),(some 1)),[]),
((.s 29 (.mv (.t 4)),none),[]),
((.s 30 (.ia 14 (.t 28) (.t 29)),none),[]),
((.s 31 (.ld true 14 (.t 30)),none),[]),
((.s 32 (.call 17 [(.t 31)]),none),[]),
((.s 33 (.bldS 14 1 (.agg [(.int .i64 0),(.str []),(.str []),(.str []),(.int .i64 0),(.str []),(.sl 1 ⟨none,0,(some 0),true⟩ []),(.sl 4 ⟨none,0,(some 0),true⟩ []),(.str []),(.sl 14 ⟨none,0,(some 0),true⟩ []),(.sl 1 ⟨none,0,(some 0),true⟩ []),(.str []),(.str []),(.int .i64 0)]) [(0,(.t 32))]),none),[]),
((.s 34 (.app true 28 14 232 (.t 26) (.t 33)),none),[]),
((.s 35 (.fa 9 (.t 3)),(some 3)),[]),
((.n (.st 1 (.t 35) (.t 34)),(some 3)),[])] [1,2,3,4]))
(.reg [
.s 23 (.mv (.t 4)),
.s 24 (.bin .add none (.t 23) (.c (.int .i64 1))),
.s 4 (.mv (.t 24))] [1,2,3,4])))
(.trim [1,2,3,4]))))))
(.seq
(.reg [
.s 36 (.ld true 14 (.t 3)),
.n (.st 14 (.t 2) (.t 36))] [2])
.ret)))))))),
[.cell 2 true 14]⟩
/-- emend/emendref3.Plain -/
def F21 : DF := ⟨2,
(.seq
(.reg [
.s 2 (.bxL (.t 0)),
.s 3 (.bxL (.t 1)),
.s 4 (.mv (.c (.bool false)))] [2,3])
(.seq
(.seq
(.reg [
.s 7 (.fa 0 (.t 2)),
.s 8 (.ld false 1 (.t 7)),
.s 9 (.fa 0 (.t 3)),
.s 10 (.ld false 1 (.t 9)),
.s 11 (.bin .neq (some .int) (.t 8) (.t 10)),
.s 12 (.mv (.t 11)),
.g 13 (.fa 1 (.t 2)) 12 false,
.g 14 (.ld false 1 (.t 13)) 12 false,
.g 15 (.fa 1 (.t 3)) 12 false,
.g 16 (.ld false 1 (.t 15)) 12 false,
.g 17 (.bin .neq (some .str) (.t 14) (.t 16)) 12 false,
.s 18 (.pick (.t 12) (.c (.bool true)) (.t 17)),
.s 19 (.mv (.t 18)),
.g 20 (.fa 2 (.t 2)) 19 false,
.g 21 (.ld false 1 (.t 20)) 19 false,
.g 22 (.len (.t 21)) 19 false,
.g 23 (.fa 2 (.t 3)) 19 false,
.g 24 (.ld false 1 (.t 23)) 19 false,
.g 25 (.len (.t 24)) 19 false,
.g 26 (.bin .neq (some .int) (.t 22) (.t 25)) 19 false,
.s 27 (.pick (.t 19) (.c (.bool true)) (.t 26)),
.s 28 (.mv (.t 27)),
.g 29 (.fa 3 (.t 2)) 28 false,
.g 30 (.ld false 1 (.t 29)) 28 false,
.g 31 (.len (.t 30)) 28 false,
.g 32 (.fa 3 (.t 3)) 28 false,
.g 33 (.ld false 1 (.t 32)) 28 false,
.g 34 (.len (.t 33)) 28 false,
.g 35 (.bin .neq (some .int) (.t 31) (.t 34)) 28 false,
.s 36 (.pick (.t 28) (.c (.bool true)) (.t 35))] [2,3,36])
(.cnd (.t 36)
(.seq
(.reg [
.s 4 (.mv (.c (.bool false)))] [4])
.ret)
.skip))
(.seq
(.seq
(.reg [
.s 5 (.mv (.c (.int .i64 0)))] [2,3,5])
(.blk 0
(.seq
(.trim [2,3,5])
(.lop
(.seq
(.seq
(.seq
(.reg [
.s 37 (.mv (.t 5)),
.s 38 (.fa 2 (.t 2)),
.s 39 (.ld false 1 (.t 38)),
.s 40 (.len (.t 39)),
.s 41 (.bin .lss none (.t 37) (.t 40))] [2,3,5,41])
(.cnd (.t 41)
.skip
(.exit 0)))
(.seq
(.blk 1
(.seq
(.drw [
((.s 44 (.fa 2 (.t 2)),(some 2)),[]),
((.s 45 (.ld false 1 (.t 44)),(some 2)),[]),
((.s 46 (.mv (.t 5)),none),[]),
((.s 47 (.ia 1 (.t 45) (.t 46)),none),[]),
((.s 48 (.ld false 1 (.t 47)),none),[]),
((.s 49 (.fa 2 (.t 3)),(some 3)),[]),
((.s 50 (.ld false 1 (.t 49)),(some 3)),[]),
((.s 51 (.mv (.t 5)),none),[]),
((.s 52 (.ia 1 (.t 50) (.t 51)),none),[]),
((.s 53 (.ld false 1 (.t 52)),none),[]),
((.s 54 (.bin .neq (some .str) (.t 48) (.t 53)),none),[])] [2,3,5,54])
(.cnd (.t 54)
(.seq
(.reg [
.s 4 (.mv (.c (.bool false)))] [4])
.ret)
.skip)))
(.reg [
.s 42 (.mv (.t 5)),
.s 43 (.bin .add none (.t 42) (.c (.int .i64 1))),
.s 5 (.mv (.t 43))] [2,3,5])))
(.trim [2,3,5]))))))
(.seq
(.seq
(.reg [
.s 6 (.mv (.c (.int .i64 0)))] [2,3,6])
(.blk 2
(.seq
(.trim [2,3,6])
(.lop
(.seq
(.seq
(.seq
(.reg [
.s 55 (.mv (.t 6)),
.s 56 (.fa 3 (.t 2)),
.s 57 (.ld false 1 (.t 56)),
.s 58 (.len (.t 57)),
.s 59 (.bin .lss none (.t 55) (.t 58))] [2,3,6,59])
(.cnd (.t 59)
.skip
(.exit 2)))
(.seq
(.blk 3
(.seq
(.drw [
((.s 62 (.fa 3 (.t 2)),(some 2)),[]),
((.s 63 (.ld false 1 (.t 62)),(some 2)),[]),
((.s 64 (.mv (.t 6)),none),[]),
((.s 65 (.ia 4 (.t 63) (.t 64)),none),[]),
((.s 66 (.ld true 4 (.t 65)),none),[]),
((.s 67 (.fa 3 (.t 3)),(some 3)),[]),
((.s 68 (.ld false 1 (.t 67)),(some 3)),[]),
((.s 69 (.mv (.t 6)),none),[]),
((.s 70 (.ia 4 (.t 68) (.t 69)),none),[]),
((.s 71 (.ld true 4 (.t 70)),none),[]),
((.s 72 (.call 21 [(.t 66),(.t 71)]),none),[]),
((.s 73 (.un .not (.t 72)),none),[])] [2,3,6,73])
(.cnd (.t 73)
(.seq
(.reg [
.s 4 (.mv (.c (.bool false)))] [4])
.ret)
.skip)))
(.reg [
.s 60 (.mv (.t 6)),
.s 61 (.bin .add none (.t 60) (.c (.int .i64 1))),
.s 6 (.mv (.t 61))] [2,3,6])))
(.trim [2,3,6]))))))
(.seq
(.reg [
.s 4 (.mv (.c (.bool true)))] [4])
.ret))))),
[.tmp 4]⟩
/-- emend/emendref4.Same -/
def F23 : DF := ⟨2,
(.seq
(.reg [
.s 2 (.bxL (.t 0)),
.s 3 (.bxL (.t 1)),
.s 4 (.mv (.c (.bool false)))] [2,3])
(.seq
(.seq
(.reg [
.s 7 (.fa 0 (.t 2)),
.s 8 (.ld false 1 (.t 7)),
.s 9 (.fa 0 (.t 3)),
.s 10 (.ld false 1 (.t 9)),
.s 11 (.bin .neq (some .int) (.t 8) (.t 10)),
.s 12 (.mv (.t 11)),
.g 13 (.fa 1 (.t 2)) 12 false,
.g 14 (.ld false 1 (.t 13)) 12 false,
.g 15 (.fa 1 (.t 3)) 12 false,
.g 16 (.ld false 1 (.t 15)) 12 false,
.g 17 (.bin .neq (some .str) (.t 14) (.t 16)) 12 false,
.s 18 (.pick (.t 12) (.c (.bool true)) (.t 17)),
.s 19 (.mv (.t 18)),
.g 20 (.fa 2 (.t 2)) 19 false,
.g 21 (.ld false 1 (.t 20)) 19 false,
.g 22 (.fa 2 (.t 3)) 19 false,
.g 23 (.ld false 1 (.t 22)) 19 false,
.g 24 (.bin .neq (some .str) (.t 21) (.t 23)) 19 false,
.s 25 (.pick (.t 19) (.c (.bool true)) (.t 24)),
.s 26 (.mv (.t 25)),
.g 27 (.fa 3 (.t 2)) 26 false,
.g 28 (.ld false 1 (.t 27)) 26 false,
.g 29 (.fa 3 (.t 3)) 26 false,
.g 30 (.ld false 1 (.t 29)) 26 false,
.g 31 (.bin .neq (some .str) (.t 28) (.t 30)) 26 false,
.s 32 (.pick (.t 26) (.c (.bool true)) (.t 31)),
.s 33 (.mv (.t 32)),
.g 34 (.fa 8 (.t 2)) 33 false,
.g 35 (.ld false 1 (.t 34)) 33 false,
.g 36 (.fa 8 (.t 3)) 33 false,
.g 37 (.ld false 1 (.t 36)) 33 false,
.g 38 (.bin .neq (some .str) (.t 35) (.t 37)) 33 false,
.s 39 (.pick (.t 33) (.c (.bool true)) (.t 38)),
.s 40 (.mv (.t 39)),
.g 41 (.fa 11 (.t 2)) 40 false,
.g 42 (.ld false 1 (.t 41)) 40 false,
.g 43 (.fa 11 (.t 3)) 40 false,
.g 44 (.ld false 1 (.t 43)) 40 false,
.g 45 (.bin .neq (some .str) (.t 42) (.t 44)) 40 false,
.s 46 (.pick (.t 40) (.c (.bool true)) (.t 45)),
.s 47 (.mv (.t 46)),
.g 48 (.fa 12 (.t 2)) 47 false,
.g 49 (.ld false 1 (.t 48)) 47 false,
.g 50 (.fa 12 (.t 3)) 47 false,
.g 51 (.ld false 1 (.t 50)) 47 false,
.g 52 (.bin .neq (some .str) (.t 49) (.t 51)) 47 false,
.s 53 (.pick (.t 47) (.c (.bool true)) (.t 52)),
.s 54 (.mv (.t 53)),
.g 55 (.fa 13 (.t 2)) 54 false,
.g 56 (.ld false 1 (.t 55)) 54 false,
.g 57 (.fa 13 (.t 3)) 54 false,
.g 58 (.ld false 1 (.t 57)) 54 false,
.g 59 (.bin .neq (some .int) (.t 56) (.t 58)) 54 false,
.s 60 (.pick (.t 54) (.c (.bool true)) (.t 59)),
.s 61 (.mv (.t 60)),
.g 62 (.fa 9 (.t 2)) 61 false,
.g 63 (.ld false 1 (.t 62)) 61 false,
.g 64 (.len (.t 63)) 61 false,
.g 65 (.fa 9 (.t 3)) 61 false,
.g 66 (.ld false 1 (.t 65)) 61 false,
.g 67 (.len (.t 66)) 61 false,
.g 68 (.bin .neq (some .int) (.t 64) (.t 67)) 61 false,
.s 69 (.pick (.t 61) (.c (.bool true)) (.t 68)),
.s 70 (.mv (.t 69)),
.g 71 (.fa 10 (.t 2)) 70 false,
.g 72 (.ld false 1 (.t 71)) 70 false,
.g 73 (.len (.t 72)) 70 false,
.g 74 (.fa 10 (.t 3)) 70 false,
.g 75 (.ld false 1 (.t 74)) 70 false,
.g 76 (.len (.t 75)) 70 false,
.g 77 (.bin .neq (some .int) (.t 73) (.t 76)) 70 false,
.s 78 (.pick (.t 70) (.c (.bool true)) (.t 77)),
.s 79 (.mv (.t 78)),
.g 80 (.fa 4 (.t 2)) 79 false,
.g 81 (.ld true 4 (.t 80)) 79 false,
.g 82 (.fa 4 (.t 3)) 79 false,
.g 83 (.ld true 4 (.t 82)) 79 false,
.g 84 (.call 21 [(.t 81),(.t 83)]) 79 false,
.g 85 (.un .not (.t 84)) 79 false,
.s 86 (.pick (.t 79) (.c (.bool true)) (.t 85))] [2,3,86])
(.cnd (.t 86)
(.seq
(.reg [
.s 4 (.mv (.c (.bool false)))] [4])
.ret)
.skip))
(.seq
(.seq
(.reg [
.s 5 (.mv (.c (.int .i64 0)))] [2,3,5])
(.blk 0
(.seq
(.trim [2,3,5])
(.lop
(.seq
(.seq
(.seq
(.reg [
.s 87 (.mv (.t 5)),
.s 88 (.fa 10 (.t 2)),
.s 89 (.ld false 1 (.t 88)),
.s 90 (.len (.t 89)),
.s 91 (.bin .lss none (.t 87) (.t 90))] [2,3,5,91])
(.cnd (.t 91)
.skip
(.exit 0)))
(.seq
(.blk 1
(.seq
(.drw [
((.s 94 (.fa 10 (.t 2)),(some 2)),[]),
((.s 95 (.ld false 1 (.t 94)),(some 2)),[]),
((.s 96 (.mv (.t 5)),none),[]),
((.s 97 (.ia 1 (.t 95) (.t 96)),none),[]),
((.s 98 (.ld false 1 (.t 97)),none),[]),
((.s 99 (.fa 10 (.t 3)),(some 3)),[]),
((.s 100 (.ld false 1 (.t 99)),(some 3)),[]),
((.s 101 (.mv (.t 5)),none),[]),
((.s 102 (.ia 1 (.t 100) (.t 101)),none),[]),
((.s 103 (.ld false 1 (.t 102)),none),[]),
((.s 104 (.bin .neq (some .str) (.t 98) (.t 103)),none),[])] [2,3,5,104])
(.cnd (.t 104)
(.seq
(.reg [
.s 4 (.mv (.c (.bool false)))] [4])
.ret)
.skip)))
(.reg [
.s 92 (.mv (.t 5)),
.s 93 (.bin .add none (.t 92) (.c (.int .i64 1))),
.s 5 (.mv (.t 93))] [2,3,5])))
(.trim [2,3,5]))))))
(.seq
(.seq
(.reg [
.s 6 (.mv (.c (.int .i64 0)))] [2,3,6])
(.blk 2
(.seq
(.trim [2,3,6])
(.lop
(.seq
(.seq
(.seq
(.reg [
.s 105 (.mv (.t 6)),
.s 106 (.fa 9 (.t 2)),
.s 107 (.ld false 1 (.t 106)),
.s 108 (.len (.t 107)),
.s 109 (.bin .lss none (.t 105) (.t 108))] [2,3,6,109])
(.cnd (.t 109)
.skip
(.exit 2)))
(.seq
(.blk 3
(.seq
(.drw [
((.s 112 (.fa 9 (.t 2)),(some 2)),[]),
((.s 113 (.ld false 1 (.t 112)),(some 2)),[]),
((.s 114 (.mv (.t 6)),none),[]),
((.s 115 (.ia 14 (.t 113) (.t 114)),none),[]),
((.s 116 (.ld true 14 (.t 115)),none),[]),
((.s 117 (.fa 9 (.t 3)),(some 3)),[]),
((.s 118 (.ld false 1 (.t 117)),(some 3)),[]),
((.s 119 (.mv (.t 6)),none),[]),
((.s 120 (.ia 14 (.t 118) (.t 119)),none),[]),
((.s 121 (.ld true 14 (.t 120)),none),[]),
((.s 122 (.call 23 [(.t 116),(.t 121)]),none),[]),
((.s 123 (.un .not (.t 122)),none),[])] [2,3,6,123])
(.cnd (.t 123)
(.seq
(.reg [
.s 4 (.mv (.c (.bool false)))] [4])
.ret)
.skip)))
(.reg [
.s 110 (.mv (.t 6)),
.s 111 (.bin .add none (.t 110) (.c (.int .i64 1))),
.s 6 (.mv (.t 111))] [2,3,6])))
(.trim [2,3,6]))))))
(.seq
(.reg [
.s 4 (.mv (.c (.bool true)))] [4])
.ret))))),
[.tmp 4]⟩
/-- emend/cst.Copy -/
def F24 : DF := ⟨1,
(.seq
(.reg [
.s 1 (.bxL (.t 0)),
.s 2 (.alL [(.int .i64 0),(.str []),(.str []),(.str []),(.int .i64 0),(.str []),(.sl 1 ⟨none,0,(some 0),true⟩ []),(.sl 4 ⟨none,0,(some 0),true⟩ []),(.str []),(.sl 14 ⟨none,0,(some 0),true⟩ []),(.sl 1 ⟨none,0,(some 0),true⟩ []),(.str []),(.str []),(.int .i64 0)])] [1,2])
(.seq
(.reg [
.s 6 (.ld true 14 (.t 1)),
.s 3 (.alL [(.int .i64 0),(.str []),(.str []),(.str []),(.int .i64 0),(.str []),(.sl 1 ⟨none,0,(some 0),true⟩ []),(.sl 4 ⟨none,0,(some 0),true⟩ []),(.str []),(.sl 14 ⟨none,0,(some 0),true⟩ []),(.sl 1 ⟨none,0,(some 0),true⟩ []),(.str []),(.str []),(.int .i64 0)]),
.n (.st 14 (.t 3) (.t 6))] [1,2,3])
(.seq
(.reg [
.s 7 (.fa 4 (.t 1)),
.s 8 (.ld true 4 (.t 7)),
.s 9 (.call 49 [(.t 8)]),
.s 10 (.fa 4 (.t 3)),
.n (.st 4 (.t 10) (.t 9))] [1,2,3])
(.seq
(.reg [
.s 11 (.fa 10 (.t 1)),
.s 12 (.ld false 1 (.t 11)),
.s 13 (.app false 9 1 16 (.c (.sl 1 ⟨none,0,(some 0),true⟩ [])) (.t 12)),
.s 14 (.fa 9 (.t 3)),
.n (.st 1 (.t 14) (.c (.sl 14 ⟨none,0,(some 0),true⟩ []))),
.s 15 (.fa 10 (.t 3)),
.n (.st 1 (.t 15) (.t 13))] [1,2,3])
(.seq
(.seq
(.reg [
.s 16 (.fa 9 (.t 1)),
.s 17 (.ld false 1 (.t 16)),
.s 18 (.len (.t 17)),
.s 19 (.mv (.c (.int .i64 0)))] [2,3,17,18,19])
(.blk 0
(.seq
(.trim [2,3,17,18,19])
(.lop
(.seq
(.seq
(.reg [
.s 20 (.bin .lss none (.t 19) (.t 18))] [2,3,17,18,19,20])
(.seq
(.cnd (.t 20)
.skip
(.exit 0))
(.seq
(.blk 1
(.seq
(.reg [
.s 21 (.ia 14 (.t 17) (.t 19)),
.s 22 (.ld true 14 (.t 21)),
.s 5 (.alL [(.int .i64 0),(.str []),(.str []),(.str []),(.int .i64 0),(.str []),(.sl 1 ⟨none,0,(some 0),true⟩ []),(.sl 4 ⟨none,0,(some 0),true⟩ []),(.str []),(.sl 14 ⟨none,0,(some 0),true⟩ []),(.sl 1 ⟨none,0,(some 0),true⟩ []),(.str []),(.str []),(.int .i64 0)]),
.n (.st 14 (.t 5) (.t 22))] [2,3,5,17,18,19])
(.drw [
((.s 23 (.fa 9 (.t 3)),(some 3)),[]),
((.s 24 (.ld false 1 (.t 23)),(some 3)),[]),
((.s 25 (.ld true 14 (.t 5)),(some 5)),[]),
((.s 26 (.call 24 [(.t 25)]),none),[]),
((.s 27 (.bldS 14 1 (.agg [(.int .i64 0),(.str []),(.str []),(.str []),(.int .i64 0),(.str []),(.sl 1 ⟨none,0,(some 0),true⟩ []),(.sl 4 ⟨none,0,(some 0),true⟩ []),(.str []),(.sl 14 ⟨none,0,(some 0),true⟩ []),(.sl 1 ⟨none,0,(some 0),true⟩ []),(.str []),(.str []),(.int .i64 0)]) [(0,(.t 26))]),none),[]),
((.s 28 (.app true 28 14 232 (.t 24) (.t 27)),none),[]),
((.s 29 (.fa 9 (.t 3)),(some 3)),[]),
((.n (.st 1 (.t 29) (.t 28)),(some 3)),[])] [2,3,17,18,19])))
(.reg [
.s 30 (.bin .add none (.t 19) (.c (.int .i64 1))),
.s 19 (.mv (.t 30))] [2,3,17,18,19]))))
(.trim [2,3,17,18,19]))))))
(.seq
(.reg [
.s 31 (.ld true 14 (.t 3)),
.n (.st 14 (.t 2) (.t 31))] [2])
.ret)))))),
[.cell 2 true 14]⟩
/-- emend/tree.Right -/
def F28 : DF := ⟨1,
(.seq
(.reg [
.s 1 (.bxL (.t 0)),
.s 2 (.mv (.c (.int .i64 0)))] [1])
(.seq
(.blk 0
(.seq
(.reg [
.s 4 (.ld true 4 (.t 1)),
.s 5 (.call 52 [(.t 4)]),
.s 6 (.bin .gtr none (.t 5) (.c (.int .i64 64))),
.s 3 (.mv (.t 6))] [1,3])
(.cnd (.t 3)
(.seq
(.reg [
.s 2 (.mv (.c (.int .i64 4)))] [2])
.ret)
(.seq
(.reg [
.s 8 (.ld true 4 (.t 1)),
.s 9 (.call 53 [(.t 8)]),
.s 10 (.bin .gtr none (.t 9) (.c (.int .i64 4096))),
.s 7 (.mv (.t 10))] [1,7])
(.cnd (.t 7)
(.seq
(.reg [
.s 2 (.mv (.c (.int .i64 3)))] [2])
.ret)
(.seq
(.reg [
.s 12 (.ld true 4 (.t 1)),
.s 13 (.call 54 [(.t 12)]),
.s 14 (.un .not (.t 13)),
.s 11 (.mv (.t 14))] [11])
(.cnd (.t 11)
(.seq
(.reg [
.s 2 (.mv (.c (.int .i64 1)))] [2])
.ret)
.skip)))))))
(.seq
(.reg [
.s 2 (.mv (.c (.int .i64 0)))] [2])
.ret))),
[.tmp 2]⟩
/-- emend/tree.Same -/
def F30 : DF := ⟨2,
(.seq
(.reg [
.s 2 (.bxL (.t 0)),
.s 3 (.bxL (.t 1)),
.s 4 (.mv (.c (.bool false)))] [2,3])
(.seq
(.seq
(.reg [
.s 5 (.ld true 4 (.t 2)),
.s 6 (.call 54 [(.t 5)]),
.s 7 (.un .not (.t 6)),
.s 8 (.mv (.t 7)),
.g 9 (.ld true 4 (.t 3)) 8 false,
.g 10 (.call 54 [(.t 9)]) 8 false,
.g 11 (.un .not (.t 10)) 8 false,
.s 12 (.pick (.t 8) (.c (.bool true)) (.t 11))] [2,3,12])
(.cnd (.t 12)
(.seq
(.reg [
.s 13 (.ld true 4 (.t 2)),
.s 14 (.ld true 4 (.t 3)),
.s 15 (.call 56 [(.t 13),(.t 14)]),
.s 4 (.mv (.t 15))] [4])
.ret)
.skip))
(.seq
(.drw [
((.s 16 (.ld true 4 (.t 2)),(some 2)),[]),
((.s 18 (.ld true 4 (.t 3)),(some 3)),[]),
((.s 17 (.call 57 [(.t 16)]),none),[]),
((.s 19 (.call 57 [(.t 18)]),none),[]),
((.s 20 (.call 56 [(.t 17),(.t 19)]),none),[]),
((.s 4 (.mv (.t 20)),none),[])] [4])
.ret))),
[.tmp 4]⟩
/-- emend/cst.made -/
def F32 : DF := ⟨1,
(.seq
(.reg [
.s 1 (.bxL (.t 0)),
.s 2 (.alL [(.int .i64 0),(.str []),(.sl 1 ⟨none,0,(some 0),true⟩ []),(.sl 4 ⟨none,0,(some 0),true⟩ [])])] [1,2])
(.seq
(.seq
(.reg [
.s 6 (.ld true 14 (.t 1)),
.s 7 (.call 58 [(.t 6)])] [1,2,7])
(.cnd (.t 7)
(.seq
(.reg [
.s 8 (.fa 4 (.t 1)),
.s 9 (.ld true 4 (.t 8)),
.s 10 (.call 49 [(.t 9)]),
.n (.st 4 (.t 2) (.t 10))] [2])
.ret)
.skip))
(.seq
(.reg [
.s 11 (.fa 0 (.t 1)),
.s 12 (.ld false 1 (.t 11)),
.s 13 (.bld [(.int .i64 0),(.str []),(.sl 1 ⟨none,0,(some 0),true⟩ []),(.sl 4 ⟨none,0,(some 0),true⟩ [])] [(0,1,(.t 12))]),
.s 3 (.alL [(.int .i64 0),(.str []),(.sl 1 ⟨none,0,(some 0),true⟩ []),(.sl 4 ⟨none,0,(some 0),true⟩ [])]),
.n (.st 4 (.t 3) (.t 13))] [1,2,3])
(.seq
(.seq
(.reg [
.s 14 (.fa 9 (.t 1)),
.s 15 (.ld false 1 (.t 14)),
.s 16 (.len (.t 15)),
.s 17 (.mv (.c (.int .i64 0)))] [1,2,3,15,16,17])
(.blk 0
(.seq
(.trim [1,2,3,15,16,17])
(.lop
(.seq
(.seq
(.reg [
.s 18 (.bin .lss none (.t 17) (.t 16))] [1,2,3,15,16,17,18])
(.seq
(.cnd (.t 18)
.skip
(.exit 0))
(.seq
(.blk 1
(.seq
(.reg [
.s 19 (.ia 14 (.t 15) (.t 17)),
.s 20 (.ld true 14 (.t 19)),
.s 5 (.alL [(.int .i64 0),(.str []),(.str []),(.str []),(.int .i64 0),(.str []),(.sl 1 ⟨none,0,(some 0),true⟩ []),(.sl 4 ⟨none,0,(some 0),true⟩ []),(.str []),(.sl 14 ⟨none,0,(some 0),true⟩ []),(.sl 1 ⟨none,0,(some 0),true⟩ []),(.str []),(.str []),(.int .i64 0)]),
.n (.st 14 (.t 5) (.t 20))] [1,2,3,5,15,16,17])
(.seq
(.seq
(.reg [
.s 21 (.fa 0 (.t 1)),
.s 22 (.ld false 1 (.t 21)),
.s 23 (.bin .eql (some .int) (.t 22) (.c (.int .i64 7)))] [1,2,3,5,15,16,17,23])
(.cnd (.t 23)
(.reg [
.s 24 (.fa 2 (.t 3)),
.s 25 (.ld false 1 (.t 24)),
.s 26 (.fa 2 (.t 5)),
.s 27 (.ld false 1 (.t 26)),
.s 28 (.bldT 9 1 1 (.str []) [(0,(.t 27))]),
.s 29 (.app false 9 1 16 (.t 25) (.t 28)),
.s 30 (.fa 2 (.t 3)),
.n (.st 1 (.t 30) (.t 29))] [1,2,3,5,15,16,17])
.skip))
(.drw [
((.s 31 (.fa 3 (.t 3)),(some 3)),[]),
((.s 32 (.ld false 1 (.t 31)),(some 3)),[]),
((.s 33 (.ld true 14 (.t 5)),(some 5)),[]),
((.s 34 (.call 32 [(.t 33)]),none),[]),
((.s 35 (.bldS 4 1 (.agg [(.int .i64 0),(.str []),(.sl 1 ⟨none,0,(some 0),true⟩ []),(.sl 4 ⟨none,0,(some 0),true⟩ [])]) [(0,(.t 34))]),none),[]),
((.s 36 (.app true 25 4 72 (.t 32) (.t 35)),none),[]),
((.s 37 (.fa 3 (.t 3)),(some 3)),[]),
((.n (.st 1 (.t 37) (.t 36)),(some 3)),[])] [1,2,3,15,16,17]))))
(.reg [
.s 38 (.bin .add none (.t 17) (.c (.int .i64 1))),
.s 17 (.mv (.t 38))] [1,2,3,15,16,17]))))
(.trim [1,2,3,15,16,17]))))))
(.seq
(.reg [
.s 39 (.ld true 4 (.t 3)),
.n (.st 4 (.t 2) (.t 39))] [2])
.ret))))),
[.cell 2 true 4]⟩
/-- (*emend/tree.writer).tree -/
def F33 : DF := ⟨2,
(.seq
(.reg [
.s 3 (.bxL (.t 1))] [0,3])
(.seq
(.reg [
.s 12 (.fa 0 (.t 3)),
.s 13 (.ld false 1 (.t 12))] [0,3,13])
(.blk 0
(.seq
(.reg [
.s 15 (.bin .eql (some .int) (.t 13) (.c (.int .i64 1))),
.s 14 (.mv (.t 15))] [0,3,13,14])
(.cnd (.t 14)
(.reg [
.s 16 (.mv (.t 0)),
.s 17 (.call 59 [(.t 16),(.c (.str [110,117,108,108]))])] [])
(.seq
(.seq
(.reg [
.s 19 (.bin .eql (some .int) (.t 13) (.c (.int .i64 2))),
.s 18 (.mv (.t 19))] [0,3,13,18])
(.cnd (.t 18)
.skip
(.reg [
.s 20 (.bin .eql (some .int) (.t 13) (.c (.int .i64 3))),
.s 18 (.mv (.t 20))] [0,3,13,18])))
(.cnd (.t 18)
(.reg [
.s 21 (.mv (.t 0)),
.s 22 (.fa 1 (.t 3)),
.s 23 (.ld false 1 (.t 22)),
.s 24 (.call 59 [(.t 21),(.t 23)])] [])
(.seq
(.reg [
.s 26 (.bin .eql (some .int) (.t 13) (.c (.int .i64 4))),
.s 25 (.mv (.t 26))] [0,3,13,25])
(.cnd (.t 25)
(.seq
(.reg [
.s 28 (.fa 1 (.t 3)),
.s 29 (.ld false 1 (.t 28)),
.s 30 (.call 60 [(.t 29)]),
.s 27 (.mv (.t 30)),
.s 31 (.ext (.t 27) 0),
.s 32 (.ext (.t 27) 1),
.s 4 (.mv (.t 31)),
.s 5 (.mv (.t 32))] [0,4])
(.reg [
.s 33 (.mv (.t 0)),
.s 34 (.mv (.t 4)),
.s 35 (.call 59 [(.t 33),(.t 34)])] []))
(.seq
(.reg [
.s 37 (.bin .eql (some .int) (.t 13) (.c (.int .i64 5))),
.s 36 (.mv (.t 37))] [0,3,13,36])
(.cnd (.t 36)
(.reg [
.s 38 (.mv (.t 0)),
.s 39 (.fa 1 (.t 3)),
.s 40 (.ld false 1 (.t 39)),
.s 41 (.bin .add none (.c (.str [64])) (.t 40)),
.s 42 (.call 59 [(.t 38),(.t 41)])] [])
(.seq
(.reg [
.s 44 (.bin .eql (some .int) (.t 13) (.c (.int .i64 6))),
.s 43 (.mv (.t 44))] [0,3,13,43])
(.cnd (.t 43)
(.seq
(.reg [
.s 45 (.mv (.t 0)),
.s 46 (.call 59 [(.t 45),(.c (.str [91]))])] [0,3])
(.seq
(.seq
(.reg [
.s 47 (.fa 3 (.t 3)),
.s 48 (.ld false 1 (.t 47)),
.s 49 (.len (.t 48)),
.s 50 (.mv (.c (.int .i64 0)))] [0,48,49,50])
(.blk 1
(.seq
(.trim [0,48,49,50])
(.lop
(.seq
(.seq
(.reg [
.s 51 (.bin .lss none (.t 50) (.t 49))] [0,48,49,50,51])
(.seq
(.cnd (.t 51)
.skip
(.exit 1))
(.seq
(.blk 2
(.seq
(.reg [
.s 52 (.mv (.t 50)),
.s 53 (.ia 4 (.t 48) (.t 50)),
.s 54 (.ld true 4 (.t 53)),
.s 7 (.alL [(.int .i64 0),(.str []),(.sl 1 ⟨none,0,(some 0),true⟩ []),(.sl 4 ⟨none,0,(some 0),true⟩ [])]),
.s 6 (.mv (.t 52)),
.n (.st 4 (.t 7) (.t 54))] [0,6,7,48,49,50])
(.seq
(.seq
(.reg [
.s 55 (.mv (.t 6)),
.s 56 (.bin .gtr none (.t 55) (.c (.int .i64 0)))] [0,7,48,49,50,56])
(.cnd (.t 56)
(.reg [
.s 57 (.mv (.t 0)),
.s 58 (.call 59 [(.t 57),(.c (.str [44,32]))])] [0,7,48,49,50])
.skip))
(.reg [
.s 59 (.mv (.t 0)),
.s 60 (.ld true 4 (.t 7)),
.s 61 (.call 33 [(.t 59),(.t 60)])] [0,48,49,50]))))
(.reg [
.s 62 (.bin .add none (.t 50) (.c (.int .i64 1))),
.s 50 (.mv (.t 62))] [0,48,49,50]))))
(.trim [0,48,49,50]))))))
(.reg [
.s 63 (.mv (.t 0)),
.s 64 (.call 59 [(.t 63),(.c (.str [93]))])] [])))
(.seq
(.reg [
.s 66 (.bin .eql (some .int) (.t 13) (.c (.int .i64 7))),
.s 65 (.mv (.t 66))] [0,3,65])
(.cnd (.t 65)
(.seq
(.reg [
.s 67 (.mv (.t 0)),
.s 68 (.call 59 [(.t 67),(.c (.str [123]))])] [0,3])
(.seq
(.seq
(.reg [
.s 69 (.fa 2 (.t 3)),
.s 70 (.ld false 1 (.t 69)),
.s 71 (.call 61 [(.t 70)]),
.s 72 (.len (.t 71)),
.s 73 (.mv (.c (.int .i64 0)))] [0,3,71,72,73])
(.blk 3
(.seq
(.trim [0,3,71,72,73])
(.lop
(.seq
(.seq
(.reg [
.s 74 (.bin .lss none (.t 73) (.t 72))] [0,3,71,72,73,74])
(.seq
(.cnd (.t 74)
.skip
(.exit 3))
(.seq
(.blk 4
(.seq
(.reg [
.s 75 (.mv (.t 73)),
.s 76 (.ia 1 (.t 71) (.t 73)),
.s 77 (.ld false 1 (.t 76)),
.s 8 (.mv (.t 75)),
.s 9 (.mv (.t 77))] [0,3,8,9,71,72,73])
(.seq
(.seq
(.reg [
.s 78 (.mv (.t 8)),
.s 79 (.bin .gtr none (.t 78) (.c (.int .i64 0)))] [0,3,9,71,72,73,79])
(.cnd (.t 79)
(.reg [
.s 80 (.mv (.t 0)),
.s 81 (.call 59 [(.t 80),(.c (.str [44,32]))])] [0,3,9,71,72,73])
.skip))
(.seq
(.reg [
.s 83 (.fa 2 (.t 3)),
.s 84 (.ld false 1 (.t 83)),
.s 85 (.mv (.t 9)),
.s 86 (.ia 1 (.t 84) (.t 85)),
.s 87 (.ld false 1 (.t 86)),
.s 88 (.call 60 [(.t 87)]),
.s 82 (.mv (.t 88)),
.s 89 (.ext (.t 82) 0),
.s 90 (.ext (.t 82) 1),
.s 10 (.mv (.t 89)),
.s 11 (.mv (.t 90))] [0,3,9,10,71,72,73])
(.seq
(.reg [
.s 91 (.mv (.t 0)),
.s 92 (.mv (.t 10)),
.s 93 (.bin .add none (.t 92) (.c (.str [58,32]))),
.s 94 (.call 59 [(.t 91),(.t 93)])] [0,3,9,71,72,73])
(.reg [
.s 95 (.mv (.t 0)),
.s 96 (.fa 3 (.t 3)),
.s 97 (.ld false 1 (.t 96)),
.s 98 (.mv (.t 9)),
.s 99 (.ia 4 (.t 97) (.t 98)),
.s 100 (.ld true 4 (.t 99)),
.s 101 (.call 33 [(.t 95),(.t 100)])] [0,3,71,72,73]))))))
(.reg [
.s 102 (.bin .add none (.t 73) (.c (.int .i64 1))),
.s 73 (.mv (.t 102))] [0,3,71,72,73]))))
(.trim [0,3,71,72,73]))))))
(.reg [
.s 103 (.mv (.t 0)),
.s 104 (.call 59 [(.t 103),(.c (.str [125]))])] [])))
.skip))))))))))))))),
[]⟩
/-- (*strings.Builder).Len -/
def F34 : DF := ⟨1,
(.seq
(.reg [
.s 2 (.mv (.c (.int .i64 0)))] [0])
(.seq
(.reg [
.s 3 (.mv (.t 0)),
.s 4 (.nilc (.t 3)),
.s 5 (.fa 1 (.t 4)),
.s 6 (.ld false 1 (.t 5)),
.s 7 (.len (.t 6)),
.s 2 (.mv (.t 7))] [2])
.ret)),
[.tmp 2]⟩
/-- (*strings.Builder).String -/
def F35 : DF := ⟨1,
(.seq
(.reg [
.s 2 (.mv (.c (.str [])))] [0])
(.seq
(.drw [
((.s 3 (.mv (.t 0)),none),[]),
((.s 4 (.nilc (.t 3)),none),[]),
((.s 5 (.fa 1 (.t 4)),none),[]),
((.s 6 (.ld false 1 (.t 5)),none),[]),
((.s 7 (.usd (.t 6)),none),[]),
((.s 8 (.mv (.t 0)),none),[]),
((.s 9 (.nilc (.t 8)),none),[]),
((.s 10 (.fa 1 (.t 9)),none),[]),
((.s 11 (.ld false 1 (.t 10)),none),[]),
((.s 12 (.len (.t 11)),none),[]),
((.s 13 (.ustr 5 (.t 7) (.t 12)),none),[]),
((.s 2 (.mv (.t 13)),none),[])] [2])
.ret)),
[.tmp 2]⟩
/-- emend/cst.pieces -/
def F36 : DF := ⟨2,
(.seq
(.reg [
.s 2 (.bxL (.t 0))] [1,2])
(.seq
(.reg [
.s 6 (.mv (.t 1)),
.s 7 (.fa 1 (.t 2)),
.s 8 (.ld false 1 (.t 7)),
.s 9 (.callv (.t 6) [(.t 8)])] [1,2])
(.seq
(.seq
(.reg [
.s 10 (.ld true 14 (.t 2)),
.s 11 (.call 58 [(.t 10)])] [1,2,11])
(.cnd (.t 11)
(.reg [
.s 12 (.mv (.t 1)),
.s 13 (.fa 3 (.t 2)),
.s 14 (.ld false 1 (.t 13)),
.s 15 (.callv (.t 12) [(.t 14)])] [1,2])
(.seq
(.reg [
.s 16 (.mv (.t 1)),
.s 17 (.fa 8 (.t 2)),
.s 18 (.ld false 1 (.t 17)),
.s 19 (.callv (.t 16) [(.t 18)])] [1,2])
(.seq
(.seq
(.reg [
.s 20 (.fa 9 (.t 2)),
.s 21 (.ld false 1 (.t 20)),
.s 22 (.len (.t 21)),
.s 23 (.mv (.c (.int .i64 0)))] [1,2,21,22,23])
(.blk 0
(.seq
(.trim [1,2,21,22,23])
(.lop
(.seq
(.seq
(.reg [
.s 24 (.bin .lss none (.t 23) (.t 22))] [1,2,21,22,23,24])
(.seq
(.cnd (.t 24)
.skip
(.exit 0))
(.seq
(.blk 1
(.seq
(.reg [
.s 25 (.mv (.t 23)),
.s 26 (.ia 14 (.t 21) (.t 23)),
.s 27 (.ld true 14 (.t 26)),
.s 5 (.alL [(.int .i64 0),(.str []),(.str []),(.str []),(.int .i64 0),(.str []),(.sl 1 ⟨none,0,(some 0),true⟩ []),(.sl 4 ⟨none,0,(some 0),true⟩ []),(.str []),(.sl 14 ⟨none,0,(some 0),true⟩ []),(.sl 1 ⟨none,0,(some 0),true⟩ []),(.str []),(.str []),(.int .i64 0)]),
.s 4 (.mv (.t 25)),
.n (.st 14 (.t 5) (.t 27))] [1,2,4,5,21,22,23])
(.seq
(.seq
(.reg [
.s 28 (.mv (.t 4)),
.s 29 (.bin .gtr none (.t 28) (.c (.int .i64 0))),
.s 30 (.mv (.t 29)),
.g 31 (.mv (.t 4)) 30 true,
.g 32 (.bin .sub none (.t 31) (.c (.int .i64 1))) 30 true,
.g 33 (.fa 10 (.t 2)) 30 true,
.g 34 (.ld false 1 (.t 33)) 30 true,
.g 35 (.len (.t 34)) 30 true,
.g 36 (.bin .lss none (.t 32) (.t 35)) 30 true,
.s 37 (.pick (.t 30) (.t 36) (.c (.bool false)))] [1,2,4,5,21,22,23,37])
(.cnd (.t 37)
(.reg [
.s 38 (.mv (.t 1)),
.s 39 (.fa 10 (.t 2)),
.s 40 (.ld false 1 (.t 39)),
.s 41 (.mv (.t 4)),
.s 42 (.bin .sub none (.t 41) (.c (.int .i64 1))),
.s 43 (.ia 1 (.t 40) (.t 42)),
.s 44 (.ld false 1 (.t 43)),
.s 45 (.callv (.t 38) [(.t 44)])] [1,2,5,21,22,23])
.skip))
(.reg [
.s 46 (.ld true 14 (.t 5)),
.s 47 (.mv (.t 1)),
.s 48 (.call 36 [(.t 46),(.t 47)])] [1,2,21,22,23]))))
(.reg [
.s 49 (.bin .add none (.t 23) (.c (.int .i64 1))),
.s 23 (.mv (.t 49))] [1,2,21,22,23]))))
(.trim [1,2,21,22,23]))))))
(.reg [
.s 50 (.mv (.t 1)),
.s 51 (.fa 11 (.t 2)),
.s 52 (.ld false 1 (.t 51)),
.s 53 (.callv (.t 50) [(.t 52)])] [1,2])))))
(.reg [
.s 54 (.mv (.t 1)),
.s 55 (.fa 12 (.t 2)),
.s 56 (.ld false 1 (.t 55)),
.s 57 (.callv (.t 54) [(.t 56)])] [])))),
[]⟩
/-- emend/cst.Flatten$1 -/
def F37 : DF := ⟨2,
(.reg [
.s 3 (.mv (.t 0)),
.s 4 (.call 38 [(.t 1),(.t 3)])] []),
[]⟩
/-- (*strings.Builder).WriteString -/
def F38 : DF := ⟨2,
(.seq
(.reg [
.s 4 (.mv (.c (.int .i64 0))),
.s 5 (.mv (.c .nilif))] [0,1])
(.seq
(.reg [
.s 6 (.mv (.t 0)),
.s 7 (.call 62 [(.t 6)])] [0,1])
(.seq
(.reg [
.s 8 (.mv (.t 0)),
.s 9 (.mv (.t 0)),
.s 10 (.nilc (.t 9)),
.s 11 (.fa 1 (.t 10)),
.s 12 (.ld false 1 (.t 11)),
.s 13 (.mv (.t 1)),
.s 14 (.app false 5 1 1 (.t 12) (.t 13)),
.s 15 (.nilc (.t 8)),
.s 16 (.fa 1 (.t 15)),
.n (.st 1 (.t 16) (.t 14))] [1])
(.seq
(.reg [
.s 17 (.mv (.t 1)),
.s 18 (.lenS (.t 17)),
.s 4 (.mv (.t 18)),
.s 5 (.mv (.c .nilif))] [4,5])
.ret)))),
[.tmp 4,.tmp 5]⟩
/-- emend/cst.Len$1 -/
def F39 : DF := ⟨2,
(.reg [
.s 3 (.ld false 1 (.t 1)),
.s 4 (.mv (.t 0)),
.s 5 (.lenS (.t 4)),
.s 6 (.bin .add none (.t 3) (.t 5)),
.n (.st 1 (.t 1) (.t 6))] []),
[]⟩
/-- emend/cst.depth -/
def F40 : DF := ⟨1,
(.seq
(.reg [
.s 1 (.bxL (.t 0)),
.s 2 (.mv (.c (.int .i64 0)))] [1])
(.seq
(.reg [
.s 3 (.mv (.c (.int .i64 0)))] [1,3])
(.seq
(.seq
(.reg [
.s 6 (.fa 9 (.t 1)),
.s 7 (.ld false 1 (.t 6)),
.s 8 (.len (.t 7)),
.s 9 (.mv (.c (.int .i64 0)))] [3,7,8,9])
(.blk 0
(.seq
(.trim [3,7,8,9])
(.lop
(.seq
(.seq
(.reg [
.s 10 (.bin .lss none (.t 9) (.t 8))] [3,7,8,9,10])
(.seq
(.cnd (.t 10)
.skip
(.exit 0))
(.seq
(.blk 1
(.seq
(.reg [
.s 11 (.ia 14 (.t 7) (.t 9)),
.s 12 (.ld true 14 (.t 11)),
.s 5 (.alL [(.int .i64 0),(.str []),(.str []),(.str []),(.int .i64 0),(.str []),(.sl 1 ⟨none,0,(some 0),true⟩ []),(.sl 4 ⟨none,0,(some 0),true⟩ []),(.str []),(.sl 14 ⟨none,0,(some 0),true⟩ []),(.sl 1 ⟨none,0,(some 0),true⟩ []),(.str []),(.str []),(.int .i64 0)]),
.n (.st 14 (.t 5) (.t 12))] [3,5,7,8,9])
(.reg [
.s 13 (.mv (.t 3)),
.s 14 (.ld true 14 (.t 5)),
.s 15 (.call 40 [(.t 14)]),
.s 16 (.mx [(.t 13),(.t 15)]),
.s 3 (.mv (.t 16))] [3,7,8,9])))
(.reg [
.s 17 (.bin .add none (.t 9) (.c (.int .i64 1))),
.s 9 (.mv (.t 17))] [3,7,8,9]))))
(.trim [3,7,8,9]))))))
(.seq
(.reg [
.s 18 (.mv (.t 3)),
.s 19 (.bin .add none (.t 18) (.c (.int .i64 1))),
.s 2 (.mv (.t 19))] [2])
.ret)))),
[.tmp 2]⟩
/-- emend/cst.formed -/
def F41 : DF := ⟨1,
(.seq
(.reg [
.s 1 (.bxL (.t 0)),
.s 2 (.mv (.c (.bool false)))] [1])
(.seq
(.seq
(.reg [
.s 6 (.ld true 14 (.t 1)),
.s 7 (.call 58 [(.t 6)])] [1,7])
(.cnd (.t 7)
(.seq
(.reg [
.s 8 (.fa 4 (.t 1)),
.s 9 (.fa 0 (.t 8)),
.s 10 (.ld false 1 (.t 9)),
.s 11 (.fa 0 (.t 1)),
.s 12 (.ld false 1 (.t 11)),
.s 13 (.bin .eql (some .int) (.t 10) (.t 12)),
.s 14 (.mv (.t 13)),
.g 15 (.fa 4 (.t 1)) 14 true,
.g 16 (.ld true 4 (.t 15)) 14 true,
.g 17 (.call 28 [(.t 16)]) 14 true,
.g 18 (.bin .eql (some .int) (.t 17) (.c (.int .i64 0))) 14 true,
.s 19 (.pick (.t 14) (.t 18) (.c (.bool false))),
.s 20 (.mv (.t 19)),
.g 21 (.fa 8 (.t 1)) 20 true,
.g 22 (.ld false 1 (.t 21)) 20 true,
.g 23 (.bin .eql (some .str) (.t 22) (.c (.str []))) 20 true,
.s 24 (.pick (.t 20) (.t 23) (.c (.bool false))),
.s 25 (.mv (.t 24)),
.g 26 (.fa 11 (.t 1)) 25 true,
.g 27 (.ld false 1 (.t 26)) 25 true,
.g 28 (.bin .eql (some .str) (.t 27) (.c (.str []))) 25 true,
.s 29 (.pick (.t 25) (.t 28) (.c (.bool false))),
.s 30 (.mv (.t 29)),
.g 31 (.fa 9 (.t 1)) 30 true,
.g 32 (.ld false 1 (.t 31)) 30 true,
.g 33 (.len (.t 32)) 30 true,
.g 34 (.bin .eql (some .int) (.t 33) (.c (.int .i64 0))) 30 true,
.s 35 (.pick (.t 30) (.t 34) (.c (.bool false))),
.s 36 (.mv (.t 35)),
.g 37 (.fa 10 (.t 1)) 36 true,
.g 38 (.ld false 1 (.t 37)) 36 true,
.g 39 (.len (.t 38)) 36 true,
.g 40 (.bin .eql (some .int) (.t 39) (.c (.int .i64 0))) 36 true,
.s 41 (.pick (.t 36) (.t 40) (.c (.bool false))),
.s 2 (.mv (.t 41))] [2])
.ret)
.skip))
(.seq
(.seq
(.reg [
.s 42 (.fa 0 (.t 1)),
.s 43 (.ld false 1 (.t 42)),
.s 44 (.bin .neq (some .int) (.t 43) (.c (.int .i64 6))),
.s 45 (.mv (.t 44)),
.g 46 (.fa 0 (.t 1)) 45 true,
.g 47 (.ld false 1 (.t 46)) 45 true,
.g 48 (.bin .neq (some .int) (.t 47) (.c (.int .i64 7))) 45 true,
.s 49 (.pick (.t 45) (.t 48) (.c (.bool false))),
.s 50 (.mv (.t 49)),
.g 51 (.fa 3 (.t 1)) 50 false,
.g 52 (.ld false 1 (.t 51)) 50 false,
.g 53 (.bin .neq (some .str) (.t 52) (.c (.str []))) 50 false,
.s 54 (.pick (.t 50) (.c (.bool true)) (.t 53)),
.s 55 (.mv (.t 54)),
.g 56 (.fa 4 (.t 1)) 55 false,
.g 57 (.ld true 4 (.t 56)) 55 false,
.g 58 (.bld [(.int .i64 0),(.str []),(.sl 1 ⟨none,0,(some 0),true⟩ []),(.sl 4 ⟨none,0,(some 0),true⟩ [])] []) 55 false,
.g 59 (.call 30 [(.t 57),(.t 58)]) 55 false,
.g 60 (.un .not (.t 59)) 55 false,
.s 61 (.pick (.t 55) (.c (.bool true)) (.t 60)),
.s 62 (.mv (.t 61)),
.g 63 (.fa 10 (.t 1)) 62 false,
.g 64 (.ld false 1 (.t 63)) 62 false,
.g 65 (.len (.t 64)) 62 false,
.g 66 (.fa 9 (.t 1)) 62 false,
.g 67 (.ld false 1 (.t 66)) 62 false,
.g 68 (.len (.t 67)) 62 false,
.g 69 (.bin .sub none (.t 68) (.c (.int .i64 1))) 62 false,
.g 70 (.mx [(.c (.int .i64 0)),(.t 69)]) 62 false,
.g 71 (.bin .neq (some .int) (.t 65) (.t 70)) 62 false,
.s 72 (.pick (.t 62) (.c (.bool true)) (.t 71))] [1,72])
(.cnd (.t 72)
(.seq
(.reg [
.s 2 (.mv (.c (.bool false)))] [2])
.ret)
.skip))
(.seq
(.reg [
.s 73 (.mkm),
.s 3 (.mv (.t 73))] [1,3])
(.seq
(.seq
(.reg [
.s 74 (.fa 9 (.t 1)),
.s 75 (.ld false 1 (.t 74)),
.s 76 (.len (.t 75)),
.s 77 (.mv (.c (.int .i64 0)))] [1,3,75,76,77])
(.blk 0
(.seq
(.trim [1,3,75,76,77])
(.lop
(.seq
(.seq
(.reg [
.s 78 (.bin .lss none (.t 77) (.t 76))] [1,3,75,76,77,78])
(.seq
(.cnd (.t 78)
.skip
(.exit 0))
(.seq
(.blk 1
(.seq
(.reg [
.s 79 (.ia 14 (.t 75) (.t 77)),
.s 80 (.ld true 14 (.t 79)),
.s 5 (.alL [(.int .i64 0),(.str []),(.str []),(.str []),(.int .i64 0),(.str []),(.sl 1 ⟨none,0,(some 0),true⟩ []),(.sl 4 ⟨none,0,(some 0),true⟩ []),(.str []),(.sl 14 ⟨none,0,(some 0),true⟩ []),(.sl 1 ⟨none,0,(some 0),true⟩ []),(.str []),(.str []),(.int .i64 0)]),
.n (.st 14 (.t 5) (.t 80))] [1,3,5,75,76,77])
(.seq
(.reg [
.s 81 (.mv (.t 3)),
.s 82 (.fa 2 (.t 5)),
.s 83 (.ld false 1 (.t 82)),
.s 84 (.lkp .str (.int .i64 0) (.t 81) (.t 83) false),
.s 85 (.bin .add none (.t 84) (.c (.int .i64 1))),
.n (.mup .str (.t 81) (.t 83) (.t 85))] [1,3,5,75,76,77])
(.seq
(.reg [
.s 86 (.fa 0 (.t 1)),
.s 87 (.ld false 1 (.t 86)),
.s 88 (.bin .eql (some .int) (.t 87) (.c (.int .i64 7))),
.s 89 (.mv (.t 88)),
.g 90 (.mv (.t 3)) 89 true,
.g 91 (.fa 2 (.t 5)) 89 true,
.g 92 (.ld false 1 (.t 91)) 89 true,
.g 93 (.lkp .str (.int .i64 0) (.t 90) (.t 92) false) 89 true,
.g 94 (.bin .gtr none (.t 93) (.c (.int .i64 1))) 89 true,
.g 95 (.mv (.t 94)) 89 true,
.g 96 (.fa 2 (.t 5)) 95 false,
.g 97 (.ld false 1 (.t 96)) 95 false,
.g 98 (.call 63 [(.t 97)]) 95 false,
.g 99 (.un .not (.t 98)) 95 false,
.g 100 (.pick (.t 95) (.c (.bool true)) (.t 99)) 89 true,
.s 101 (.pick (.t 89) (.t 100) (.c (.bool false))),
.s 102 (.mv (.t 101)),
.g 103 (.fa 0 (.t 1)) 102 false,
.g 104 (.ld false 1 (.t 103)) 102 false,
.g 105 (.bin .eql (some .int) (.t 104) (.c (.int .i64 6))) 102 false,
.g 106 (.mv (.t 105)) 102 false,
.g 107 (.fa 2 (.t 5)) 106 true,
.g 108 (.ld false 1 (.t 107)) 106 true,
.g 109 (.bin .neq (some .str) (.t 108) (.c (.str []))) 106 true,
.g 110 (.pick (.t 106) (.t 109) (.c (.bool false))) 102 false,
.s 111 (.pick (.t 102) (.c (.bool true)) (.t 110)),
.s 112 (.mv (.t 111)),
.g 113 (.ld true 14 (.t 5)) 112 false,
.g 114 (.call 41 [(.t 113)]) 112 false,
.g 115 (.un .not (.t 114)) 112 false,
.s 116 (.pick (.t 112) (.c (.bool true)) (.t 115))] [1,3,75,76,77,116])
(.cnd (.t 116)
(.seq
(.reg [
.s 2 (.mv (.c (.bool false)))] [2])
.ret)
.skip)))))
(.reg [
.s 117 (.bin .add none (.t 77) (.c (.int .i64 1))),
.s 77 (.mv (.t 117))] [1,3,75,76,77]))))
(.trim [1,3,75,76,77]))))))
(.seq
(.reg [
.s 2 (.mv (.c (.bool true)))] [2])
.ret)))))),
[.tmp 2]⟩
/-- emend/cst.kid -/
def F42 : DF := ⟨2,
(.seq
(.reg [
.s 2 (.bxL (.t 0)),
.s 3 (.bxL (.t 1)),
.s 4 (.mv (.c (.int .i64 0)))] [2,3])
(.seq
(.seq
(.reg [
.s 7 (.fa 0 (.t 2)),
.s 8 (.ld false 1 (.t 7))] [2,3,8])
(.blk 0
(.seq
(.reg [
.s 10 (.bin .eql (some .int) (.t 8) (.c (.int .i64 6))),
.s 9 (.mv (.t 10))] [2,3,8,9])
(.cnd (.t 9)
(.seq
(.reg [
.s 11 (.fa 0 (.t 3)),
.s 12 (.ld false 1 (.t 11)),
.s 13 (.bin .eql (some .str) (.t 12) (.c (.str []))),
.s 14 (.mv (.t 13)),
.g 15 (.fa 1 (.t 3)) 14 true,
.g 16 (.ld false 1 (.t 15)) 14 true,
.g 17 (.bin .geq none (.t 16) (.c (.int .i64 0))) 14 true,
.s 18 (.pick (.t 14) (.t 17) (.c (.bool false))),
.s 19 (.mv (.t 18)),
.g 20 (.fa 1 (.t 3)) 19 true,
.g 21 (.ld false 1 (.t 20)) 19 true,
.g 22 (.fa 9 (.t 2)) 19 true,
.g 23 (.ld false 1 (.t 22)) 19 true,
.g 24 (.len (.t 23)) 19 true,
.g 25 (.bin .lss none (.t 21) (.t 24)) 19 true,
.s 26 (.pick (.t 19) (.t 25) (.c (.bool false)))] [3,26])
(.cnd (.t 26)
(.seq
(.reg [
.s 27 (.fa 1 (.t 3)),
.s 28 (.ld false 1 (.t 27)),
.s 4 (.mv (.t 28))] [4])
.ret)
.skip))
(.seq
(.reg [
.s 30 (.bin .eql (some .int) (.t 8) (.c (.int .i64 7))),
.s 29 (.mv (.t 30))] [2,3,29])
(.cnd (.t 29)
(.seq
(.reg [
.s 31 (.fa 9 (.t 2)),
.s 32 (.ld false 1 (.t 31)),
.s 33 (.len (.t 32)),
.s 34 (.mv (.c (.int .i64 0)))] [3,32,33,34])
(.blk 1
(.seq
(.trim [3,32,33,34])
(.lop
(.seq
(.seq
(.reg [
.s 35 (.bin .lss none (.t 34) (.t 33))] [3,32,33,34,35])
(.seq
(.cnd (.t 35)
.skip
(.exit 1))
(.seq
(.blk 2
(.seq
(.reg [
.s 36 (.mv (.t 34)),
.s 37 (.ia 14 (.t 32) (.t 34)),
.s 38 (.ld true 14 (.t 37)),
.s 6 (.alL [(.int .i64 0),(.str []),(.str []),(.str []),(.int .i64 0),(.str []),(.sl 1 ⟨none,0,(some 0),true⟩ []),(.sl 4 ⟨none,0,(some 0),true⟩ []),(.str []),(.sl 14 ⟨none,0,(some 0),true⟩ []),(.sl 1 ⟨none,0,(some 0),true⟩ []),(.str []),(.str []),(.int .i64 0)]),
.s 5 (.mv (.t 36)),
.n (.st 14 (.t 6) (.t 38))] [3,5,6,32,33,34])
(.seq
(.reg [
.s 39 (.ld true 2 (.t 3)),
.s 40 (.fa 2 (.t 6)),
.s 41 (.ld false 1 (.t 40)),
.s 42 (.bld [(.str []),(.int .i64 0)] [(0,1,(.t 41))]),
.s 43 (.bin .eql (some (.st [(0,.str),(1,.int)])) (.t 39) (.t 42))] [3,5,32,33,34,43])
(.cnd (.t 43)
(.seq
(.reg [
.s 44 (.mv (.t 5)),
.s 4 (.mv (.t 44))] [4])
.ret)
.skip))))
(.reg [
.s 45 (.bin .add none (.t 34) (.c (.int .i64 1))),
.s 34 (.mv (.t 45))] [3,32,33,34]))))
(.trim [3,32,33,34]))))))
.skip))))))
(.seq
(.reg [
.s 4 (.mv (.c (.int .i64 (-1))))] [4])
.ret))),
[.tmp 4]⟩
/-- emend/emendref3.Size -/
def F43 : DF := ⟨2,
(.seq
(.reg [
.s 2 (.bxL (.t 0)),
.s 4 (.mv (.c (.int .i64 0)))] [1,2])
(.seq
(.reg [
.s 5 (.mv (.c (.int .i64 1)))] [1,2,5])
(.seq
(.seq
(.reg [
.s 6 (.mv (.c (.int .i64 0)))] [1,2,5,6])
(.blk 0
(.seq
(.trim [1,2,5,6])
(.lop
(.seq
(.seq
(.seq
(.reg [
.s 7 (.mv (.t 6)),
.s 8 (.fa 3 (.t 2)),
.s 9 (.ld false 1 (.t 8)),
.s 10 (.len (.t 9)),
.s 11 (.bin .lss none (.t 7) (.t 10)),
.s 12 (.mv (.t 11)),
.g 13 (.mv (.t 5)) 12 true,
.g 14 (.mv (.t 1)) 12 true,
.g 15 (.bin .lss none (.t 13) (.t 14)) 12 true,
.s 16 (.pick (.t 12) (.t 15) (.c (.bool false)))] [1,2,5,6,16])
(.cnd (.t 16)
.skip
(.exit 0)))
(.seq
(.blk 1
(.reg [
.s 19 (.mv (.t 5)),
.s 20 (.fa 3 (.t 2)),
.s 21 (.ld false 1 (.t 20)),
.s 22 (.mv (.t 6)),
.s 23 (.ia 4 (.t 21) (.t 22)),
.s 24 (.ld true 4 (.t 23)),
.s 25 (.mv (.t 1)),
.s 26 (.mv (.t 5)),
.s 27 (.bin .sub none (.t 25) (.t 26)),
.s 28 (.call 43 [(.t 24),(.t 27)]),
.s 29 (.bin .add none (.t 19) (.t 28)),
.s 5 (.mv (.t 29))] [1,2,5,6]))
(.reg [
.s 17 (.mv (.t 6)),
.s 18 (.bin .add none (.t 17) (.c (.int .i64 1))),
.s 6 (.mv (.t 18))] [1,2,5,6])))
(.trim [1,2,5,6]))))))
(.seq
(.reg [
.s 30 (.mv (.t 5)),
.s 4 (.mv (.t 30))] [4])
.ret)))),
[.tmp 4]⟩
/-- emend/emendref3.Copy -/
def F44 : DF := ⟨1,
(.seq
(.reg [
.s 1 (.bxL (.t 0)),
.s 2 (.alL [(.int .i64 0),(.str []),(.sl 1 ⟨none,0,(some 0),true⟩ []),(.sl 4 ⟨none,0,(some 0),true⟩ [])])] [1,2])
(.seq
(.reg [
.s 5 (.fa 0 (.t 1)),
.s 6 (.ld false 1 (.t 5)),
.s 7 (.fa 1 (.t 1)),
.s 8 (.ld false 1 (.t 7)),
.s 9 (.bld [(.int .i64 0),(.str []),(.sl 1 ⟨none,0,(some 0),true⟩ []),(.sl 4 ⟨none,0,(some 0),true⟩ [])] [(0,1,(.t 6)),(1,1,(.t 8))]),
.s 3 (.alL [(.int .i64 0),(.str []),(.sl 1 ⟨none,0,(some 0),true⟩ []),(.sl 4 ⟨none,0,(some 0),true⟩ [])]),
.n (.st 4 (.t 3) (.t 9))] [1,2,3])
(.seq
(.reg [
.s 10 (.fa 2 (.t 3)),
.s 11 (.ld false 1 (.t 10)),
.s 12 (.fa 2 (.t 1)),
.s 13 (.ld false 1 (.t 12)),
.s 14 (.app false 9 1 16 (.t 11) (.t 13)),
.s 15 (.fa 2 (.t 3)),
.n (.st 1 (.t 15) (.t 14))] [1,2,3])
(.seq
(.seq
(.reg [
.s 4 (.mv (.c (.int .i64 0)))] [1,2,3,4])
(.blk 0
(.seq
(.trim [1,2,3,4])
(.lop
(.seq
(.seq
(.seq
(.reg [
.s 16 (.mv (.t 4)),
.s 17 (.fa 3 (.t 1)),
.s 18 (.ld false 1 (.t 17)),
.s 19 (.len (.t 18)),
.s 20 (.bin .lss none (.t 16) (.t 19))] [1,2,3,4,20])
(.cnd (.t 20)
.skip
(.exit 0)))
(.seq
(.blk 1
(.drw [
((.s 23 (.fa 3 (.t 3)),(some 3)),[]),
((.s 24 (.ld false 1 (.t 23)),(some 3)),[]),
((.s 25 (.fa 3 (.t 1)),(some 1)),[]),
((.s 26 (.ld false 1 (.t 25)),(some 1)),[]),
((.s 27 (.mv (.t 4)),none),[]),
((.s 28 (.ia 4 (.t 26) (.t 27)),none),[]),
((.s 29 (.ld true 4 (.t 28)),none),[]),
((.s 30 (.call 44 [(.t 29)]),none),[]),
((.s 31 (.bldS 4 1 (.agg [(.int .i64 0),(.str []),(.sl 1 ⟨none,0,(some 0),true⟩ []),(.sl 4 ⟨none,0,(some 0),true⟩ [])]) [(0,(.t 30))]),none),[]),
((.s 32 (.app true 25 4 72 (.t 24) (.t 31)),none),[]),
((.s 33 (.fa 3 (.t 3)),(some 3)),[]),
((.n (.st 1 (.t 33) (.t 32)),(some 3)),[])] [1,2,3,4]))
(.reg [
.s 21 (.mv (.t 4)),
.s 22 (.bin .add none (.t 21) (.c (.int .i64 1))),
.s 4 (.mv (.t 22))] [1,2,3,4])))
(.trim [1,2,3,4]))))))
(.seq
(.reg [
.s 34 (.ld true 4 (.t 3)),
.n (.st 4 (.t 2) (.t 34))] [2])
.ret))))),
[.cell 2 true 4]⟩
/-- emend/tree.Copy -/
def F49 : DF := ⟨1,
(.seq
(.reg [
.s 1 (.bxL (.t 0)),
.s 2 (.alL [(.int .i64 0),(.str []),(.sl 1 ⟨none,0,(some 0),true⟩ []),(.sl 4 ⟨none,0,(some 0),true⟩ [])])] [1,2])
(.seq
(.reg [
.s 6 (.fa 0 (.t 1)),
.s 7 (.ld false 1 (.t 6)),
.s 8 (.fa 1 (.t 1)),
.s 9 (.ld false 1 (.t 8)),
.s 10 (.bld [(.int .i64 0),(.str []),(.sl 1 ⟨none,0,(some 0),true⟩ []),(.sl 4 ⟨none,0,(some 0),true⟩ [])] [(0,1,(.t 7)),(1,1,(.t 9))]),
.s 3 (.alL [(.int .i64 0),(.str []),(.sl 1 ⟨none,0,(some 0),true⟩ []),(.sl 4 ⟨none,0,(some 0),true⟩ [])]),
.n (.st 4 (.t 3) (.t 10))] [1,2,3])
(.seq
(.reg [
.s 11 (.fa 2 (.t 3)),
.s 12 (.ld false 1 (.t 11)),
.s 13 (.fa 2 (.t 1)),
.s 14 (.ld false 1 (.t 13)),
.s 15 (.app false 9 1 16 (.t 12) (.t 14)),
.s 16 (.fa 2 (.t 3)),
.n (.st 1 (.t 16) (.t 15))] [1,2,3])
(.seq
(.seq
(.reg [
.s 17 (.fa 3 (.t 1)),
.s 18 (.ld false 1 (.t 17)),
.s 19 (.len (.t 18)),
.s 20 (.mv (.c (.int .i64 0)))] [2,3,18,19,20])
(.blk 0
(.seq
(.trim [2,3,18,19,20])
(.lop
(.seq
(.seq
(.reg [
.s 21 (.bin .lss none (.t 20) (.t 19))] [2,3,18,19,20,21])
(.seq
(.cnd (.t 21)
.skip
(.exit 0))
(.seq
(.blk 1
(.seq
(.reg [
.s 22 (.ia 4 (.t 18) (.t 20)),
.s 23 (.ld true 4 (.t 22)),
.s 5 (.alL [(.int .i64 0),(.str []),(.sl 1 ⟨none,0,(some 0),true⟩ []),(.sl 4 ⟨none,0,(some 0),true⟩ [])]),
.n (.st 4 (.t 5) (.t 23))] [2,3,5,18,19,20])
(.drw [
((.s 24 (.fa 3 (.t 3)),(some 3)),[]),
((.s 25 (.ld false 1 (.t 24)),(some 3)),[]),
((.s 26 (.ld true 4 (.t 5)),(some 5)),[]),
((.s 27 (.call 49 [(.t 26)]),none),[]),
((.s 28 (.bldS 4 1 (.agg [(.int .i64 0),(.str []),(.sl 1 ⟨none,0,(some 0),true⟩ []),(.sl 4 ⟨none,0,(some 0),true⟩ [])]) [(0,(.t 27))]),none),[]),
((.s 29 (.app true 25 4 72 (.t 25) (.t 28)),none),[]),
((.s 30 (.fa 3 (.t 3)),(some 3)),[]),
((.n (.st 1 (.t 30) (.t 29)),(some 3)),[])] [2,3,18,19,20])))
(.reg [
.s 31 (.bin .add none (.t 20) (.c (.int .i64 1))),
.s 20 (.mv (.t 31))] [2,3,18,19,20]))))
(.trim [2,3,18,19,20]))))))
(.seq
(.reg [
.s 32 (.ld true 4 (.t 3)),
.n (.st 4 (.t 2) (.t 32))] [2])
.ret))))),
[.cell 2 true 4]⟩
/-- emend/tree.Depth -/
def F52 : DF := ⟨1,
(.seq
(.reg [
.s 1 (.bxL (.t 0)),
.s 2 (.mv (.c (.int .i64 0)))] [1])
(.seq
(.reg [
.s 3 (.mv (.c (.int .i64 0)))] [1,3])
(.seq
(.seq
(.reg [
.s 6 (.fa 3 (.t 1)),
.s 7 (.ld false 1 (.t 6)),
.s 8 (.len (.t 7)),
.s 9 (.mv (.c (.int .i64 0)))] [3,7,8,9])
(.blk 0
(.seq
(.trim [3,7,8,9])
(.lop
(.seq
(.seq
(.reg [
.s 10 (.bin .lss none (.t 9) (.t 8))] [3,7,8,9,10])
(.seq
(.cnd (.t 10)
.skip
(.exit 0))
(.seq
(.blk 1
(.seq
(.reg [
.s 11 (.ia 4 (.t 7) (.t 9)),
.s 12 (.ld true 4 (.t 11)),
.s 5 (.alL [(.int .i64 0),(.str []),(.sl 1 ⟨none,0,(some 0),true⟩ []),(.sl 4 ⟨none,0,(some 0),true⟩ [])]),
.n (.st 4 (.t 5) (.t 12))] [3,5,7,8,9])
(.reg [
.s 13 (.mv (.t 3)),
.s 14 (.ld true 4 (.t 5)),
.s 15 (.call 52 [(.t 14)]),
.s 16 (.mx [(.t 13),(.t 15)]),
.s 3 (.mv (.t 16))] [3,7,8,9])))
(.reg [
.s 17 (.bin .add none (.t 9) (.c (.int .i64 1))),
.s 9 (.mv (.t 17))] [3,7,8,9]))))
(.trim [3,7,8,9]))))))
(.seq
(.reg [
.s 18 (.mv (.t 3)),
.s 19 (.bin .add none (.t 18) (.c (.int .i64 1))),
.s 2 (.mv (.t 19))] [2])
.ret)))),
[.tmp 2]⟩
/-- emend/tree.Size -/
def F53 : DF := ⟨1,
(.seq
(.reg [
.s 1 (.bxL (.t 0)),
.s 2 (.mv (.c (.int .i64 0)))] [1])
(.seq
(.reg [
.s 3 (.mv (.c (.int .i64 1)))] [1,3])
(.seq
(.seq
(.reg [
.s 6 (.fa 3 (.t 1)),
.s 7 (.ld false 1 (.t 6)),
.s 8 (.len (.t 7)),
.s 9 (.mv (.c (.int .i64 0)))] [3,7,8,9])
(.blk 0
(.seq
(.trim [3,7,8,9])
(.lop
(.seq
(.seq
(.reg [
.s 10 (.bin .lss none (.t 9) (.t 8))] [3,7,8,9,10])
(.seq
(.cnd (.t 10)
.skip
(.exit 0))
(.seq
(.blk 1
(.seq
(.reg [
.s 11 (.ia 4 (.t 7) (.t 9)),
.s 12 (.ld true 4 (.t 11)),
.s 5 (.alL [(.int .i64 0),(.str []),(.sl 1 ⟨none,0,(some 0),true⟩ []),(.sl 4 ⟨none,0,(some 0),true⟩ [])]),
.n (.st 4 (.t 5) (.t 12))] [3,5,7,8,9])
(.reg [
.s 13 (.mv (.t 3)),
.s 14 (.ld true 4 (.t 5)),
.s 15 (.call 53 [(.t 14)]),
.s 16 (.bin .add none (.t 13) (.t 15)),
.s 3 (.mv (.t 16))] [3,7,8,9])))
(.reg [
.s 17 (.bin .add none (.t 9) (.c (.int .i64 1))),
.s 9 (.mv (.t 17))] [3,7,8,9]))))
(.trim [3,7,8,9]))))))
(.seq
(.reg [
.s 18 (.mv (.t 3)),
.s 2 (.mv (.t 18))] [2])
.ret)))),
[.tmp 2]⟩
/-- emend/tree.formed -/
def F54 : DF := ⟨1,
(.seq
(.reg [
.s 1 (.bxL (.t 0)),
.s 2 (.mv (.c (.bool false)))] [1])
(.seq
(.seq
(.reg [
.s 8 (.fa 3 (.t 1)),
.s 9 (.ld false 1 (.t 8)),
.s 10 (.len (.t 9)),
.s 11 (.mv (.c (.int .i64 0)))] [1,9,10,11])
(.blk 0
(.seq
(.trim [1,9,10,11])
(.lop
(.seq
(.seq
(.reg [
.s 12 (.bin .lss none (.t 11) (.t 10))] [1,9,10,11,12])
(.seq
(.cnd (.t 12)
.skip
(.exit 0))
(.seq
(.blk 1
(.seq
(.reg [
.s 13 (.ia 4 (.t 9) (.t 11)),
.s 14 (.ld true 4 (.t 13)),
.s 4 (.alL [(.int .i64 0),(.str []),(.sl 1 ⟨none,0,(some 0),true⟩ []),(.sl 4 ⟨none,0,(some 0),true⟩ [])]),
.n (.st 4 (.t 4) (.t 14))] [1,4,9,10,11])
(.seq
(.reg [
.s 15 (.ld true 4 (.t 4)),
.s 16 (.call 54 [(.t 15)]),
.s 17 (.un .not (.t 16))] [1,9,10,11,17])
(.cnd (.t 17)
(.seq
(.reg [
.s 2 (.mv (.c (.bool false)))] [2])
.ret)
.skip))))
(.reg [
.s 18 (.bin .add none (.t 11) (.c (.int .i64 1))),
.s 11 (.mv (.t 18))] [1,9,10,11]))))
(.trim [1,9,10,11]))))))
(.seq
(.reg [
.s 19 (.fa 2 (.t 1)),
.s 20 (.ld false 1 (.t 19)),
.s 21 (.len (.t 20)),
.s 22 (.bin .eql (some .int) (.t 21) (.c (.int .i64 0))),
.s 23 (.mv (.t 22)),
.g 24 (.fa 3 (.t 1)) 23 true,
.g 25 (.ld false 1 (.t 24)) 23 true,
.g 26 (.len (.t 25)) 23 true,
.g 27 (.bin .eql (some .int) (.t 26) (.c (.int .i64 0))) 23 true,
.s 28 (.pick (.t 23) (.t 27) (.c (.bool false))),
.s 5 (.mv (.t 28))] [1,5])
(.seq
(.seq
(.reg [
.s 29 (.fa 0 (.t 1)),
.s 30 (.ld false 1 (.t 29))] [1,5,30])
(.blk 2
(.seq
(.reg [
.s 32 (.bin .eql (some .int) (.t 30) (.c (.int .i64 1))),
.s 31 (.mv (.t 32))] [1,5,30,31])
(.cnd (.t 31)
(.seq
(.reg [
.s 33 (.mv (.t 5)),
.s 34 (.mv (.t 33)),
.g 35 (.fa 1 (.t 1)) 34 true,
.g 36 (.ld false 1 (.t 35)) 34 true,
.g 37 (.bin .eql (some .str) (.t 36) (.c (.str []))) 34 true,
.s 38 (.pick (.t 34) (.t 37) (.c (.bool false))),
.s 2 (.mv (.t 38))] [2])
.ret)
(.seq
(.reg [
.s 40 (.bin .eql (some .int) (.t 30) (.c (.int .i64 2))),
.s 39 (.mv (.t 40))] [1,5,30,39])
(.cnd (.t 39)
(.seq
(.reg [
.s 41 (.mv (.t 5)),
.s 42 (.mv (.t 41)),
.g 43 (.fa 1 (.t 1)) 42 true,
.g 44 (.ld false 1 (.t 43)) 42 true,
.g 45 (.bin .eql (some .str) (.t 44) (.c (.str [116,114,117,101]))) 42 true,
.g 46 (.mv (.t 45)) 42 true,
.g 47 (.fa 1 (.t 1)) 46 false,
.g 48 (.ld false 1 (.t 47)) 46 false,
.g 49 (.bin .eql (some .str) (.t 48) (.c (.str [102,97,108,115,101]))) 46 false,
.g 50 (.pick (.t 46) (.c (.bool true)) (.t 49)) 42 true,
.s 51 (.pick (.t 42) (.t 50) (.c (.bool false))),
.s 2 (.mv (.t 51))] [2])
.ret)
(.seq
(.reg [
.s 53 (.bin .eql (some .int) (.t 30) (.c (.int .i64 3))),
.s 52 (.mv (.t 53))] [1,5,30,52])
(.cnd (.t 52)
(.seq
(.reg [
.s 55 (.fa 1 (.t 1)),
.s 56 (.ld false 1 (.t 55)),
.s 57 (.call 66 [(.t 56)]),
.s 54 (.mv (.t 57)),
.s 58 (.ext (.t 54) 0),
.s 59 (.ext (.t 54) 1),
.s 6 (.mv (.t 58)),
.s 7 (.mv (.t 59))] [1,5,6,7])
(.seq
(.reg [
.s 60 (.mv (.t 5)),
.s 61 (.mv (.t 60)),
.g 62 (.mv (.t 7)) 61 true,
.g 63 (.bin .eql (some .int) (.t 62) (.c (.int .i64 0))) 61 true,
.s 64 (.pick (.t 61) (.t 63) (.c (.bool false))),
.s 65 (.mv (.t 64)),
.g 66 (.mv (.t 6)) 65 true,
.g 67 (.fa 1 (.t 1)) 65 true,
.g 68 (.ld false 1 (.t 67)) 65 true,
.g 69 (.bin .eql (some .str) (.t 66) (.t 68)) 65 true,
.s 70 (.pick (.t 65) (.t 69) (.c (.bool false))),
.s 2 (.mv (.t 70))] [2])
.ret))
(.seq
(.reg [
.s 72 (.bin .eql (some .int) (.t 30) (.c (.int .i64 4))),
.s 71 (.mv (.t 72))] [1,5,30,71])
(.cnd (.t 71)
(.seq
(.reg [
.s 73 (.mv (.t 5)),
.s 74 (.mv (.t 73)),
.g 75 (.fa 1 (.t 1)) 74 true,
.g 76 (.ld false 1 (.t 75)) 74 true,
.g 77 (.call 63 [(.t 76)]) 74 true,
.s 78 (.pick (.t 74) (.t 77) (.c (.bool false))),
.s 2 (.mv (.t 78))] [2])
.ret)
(.seq
(.reg [
.s 80 (.bin .eql (some .int) (.t 30) (.c (.int .i64 5))),
.s 79 (.mv (.t 80))] [1,5,30,79])
(.cnd (.t 79)
(.seq
(.reg [
.s 81 (.mv (.t 5)),
.s 82 (.mv (.t 81)),
.g 83 (.fa 1 (.t 1)) 82 true,
.g 84 (.ld false 1 (.t 83)) 82 true,
.g 85 (.call 67 [(.t 84)]) 82 true,
.s 86 (.pick (.t 82) (.t 85) (.c (.bool false))),
.s 2 (.mv (.t 86))] [2])
.ret)
(.seq
(.reg [
.s 88 (.bin .eql (some .int) (.t 30) (.c (.int .i64 6))),
.s 87 (.mv (.t 88))] [1,30,87])
(.cnd (.t 87)
(.seq
(.reg [
.s 89 (.fa 1 (.t 1)),
.s 90 (.ld false 1 (.t 89)),
.s 91 (.bin .eql (some .str) (.t 90) (.c (.str []))),
.s 92 (.mv (.t 91)),
.g 93 (.fa 2 (.t 1)) 92 true,
.g 94 (.ld false 1 (.t 93)) 92 true,
.g 95 (.len (.t 94)) 92 true,
.g 96 (.bin .eql (some .int) (.t 95) (.c (.int .i64 0))) 92 true,
.s 97 (.pick (.t 92) (.t 96) (.c (.bool false))),
.s 2 (.mv (.t 97))] [2])
.ret)
(.seq
(.reg [
.s 99 (.bin .eql (some .int) (.t 30) (.c (.int .i64 7))),
.s 98 (.mv (.t 99))] [1,98])
(.cnd (.t 98)
(.seq
(.reg [
.s 100 (.fa 1 (.t 1)),
.s 101 (.ld false 1 (.t 100)),
.s 102 (.bin .eql (some .str) (.t 101) (.c (.str []))),
.s 103 (.mv (.t 102)),
.g 104 (.fa 2 (.t 1)) 103 true,
.g 105 (.ld false 1 (.t 104)) 103 true,
.g 106 (.len (.t 105)) 103 true,
.g 107 (.fa 3 (.t 1)) 103 true,
.g 108 (.ld false 1 (.t 107)) 103 true,
.g 109 (.len (.t 108)) 103 true,
.g 110 (.bin .eql (some .int) (.t 106) (.t 109)) 103 true,
.s 111 (.pick (.t 103) (.t 110) (.c (.bool false))),
.s 112 (.mv (.t 111)),
.g 113 (.fa 2 (.t 1)) 112 true,
.g 114 (.ld false 1 (.t 113)) 112 true,
.g 115 (.call 68 [(.t 114)]) 112 true,
.s 116 (.pick (.t 112) (.t 115) (.c (.bool false))),
.s 2 (.mv (.t 116))] [2])
.ret)
.skip))))))))))))))))
(.seq
(.reg [
.s 2 (.mv (.c (.bool false)))] [2])
.ret))))),
[.tmp 2]⟩
/-- emend/tree.identical -/
def F56 : DF := ⟨2,
(.seq
(.reg [
.s 2 (.bxL (.t 0)),
.s 3 (.bxL (.t 1)),
.s 4 (.mv (.c (.bool false)))] [2,3])
(.seq
(.reg [
.s 5 (.fa 0 (.t 2)),
.s 6 (.ld false 1 (.t 5)),
.s 7 (.fa 0 (.t 3)),
.s 8 (.ld false 1 (.t 7)),
.s 9 (.bin .eql (some .int) (.t 6) (.t 8)),
.s 10 (.mv (.t 9)),
.g 11 (.fa 1 (.t 2)) 10 true,
.g 12 (.ld false 1 (.t 11)) 10 true,
.g 13 (.fa 1 (.t 3)) 10 true,
.g 14 (.ld false 1 (.t 13)) 10 true,
.g 15 (.bin .eql (some .str) (.t 12) (.t 14)) 10 true,
.s 16 (.pick (.t 10) (.t 15) (.c (.bool false))),
.s 17 (.mv (.t 16)),
.g 18 (.fa 2 (.t 2)) 17 true,
.g 19 (.ld false 1 (.t 18)) 17 true,
.g 20 (.fa 2 (.t 3)) 17 true,
.g 21 (.ld false 1 (.t 20)) 17 true,
.g 22 (.call 70 [(.t 19),(.t 21)]) 17 true,
.s 23 (.pick (.t 17) (.t 22) (.c (.bool false))),
.s 24 (.mv (.t 23)),
.g 25 (.fa 3 (.t 2)) 24 true,
.g 26 (.ld false 1 (.t 25)) 24 true,
.g 27 (.fa 3 (.t 3)) 24 true,
.g 28 (.ld false 1 (.t 27)) 24 true,
.g 29 (.call 71 [(.t 26),(.t 28),(.f 56)]) 24 true,
.s 30 (.pick (.t 24) (.t 29) (.c (.bool false))),
.s 4 (.mv (.t 30))] [4])
.ret)),
[.tmp 4]⟩
/-- emend/tree.Sorted -/
def F57 : DF := ⟨1,
(.seq
(.reg [
.s 1 (.bxL (.t 0)),
.s 2 (.alL [(.int .i64 0),(.str []),(.sl 1 ⟨none,0,(some 0),true⟩ []),(.sl 4 ⟨none,0,(some 0),true⟩ [])])] [1,2])
(.seq
(.reg [
.s 8 (.fa 0 (.t 1)),
.s 9 (.ld false 1 (.t 8)),
.s 10 (.fa 1 (.t 1)),
.s 11 (.ld false 1 (.t 10)),
.s 12 (.bld [(.int .i64 0),(.str []),(.sl 1 ⟨none,0,(some 0),true⟩ []),(.sl 4 ⟨none,0,(some 0),true⟩ [])] [(0,1,(.t 9)),(1,1,(.t 11))]),
.s 3 (.alL [(.int .i64 0),(.str []),(.sl 1 ⟨none,0,(some 0),true⟩ []),(.sl 4 ⟨none,0,(some 0),true⟩ [])]),
.n (.st 4 (.t 3) (.t 12))] [1,2,3])
(.seq
(.seq
(.reg [
.s 13 (.fa 0 (.t 1)),
.s 14 (.ld false 1 (.t 13)),
.s 15 (.bin .neq (some .int) (.t 14) (.c (.int .i64 7))),
.s 16 (.mv (.t 15)),
.g 17 (.fa 2 (.t 1)) 16 false,
.g 18 (.ld false 1 (.t 17)) 16 false,
.g 19 (.len (.t 18)) 16 false,
.g 20 (.fa 3 (.t 1)) 16 false,
.g 21 (.ld false 1 (.t 20)) 16 false,
.g 22 (.len (.t 21)) 16 false,
.g 23 (.bin .neq (some .int) (.t 19) (.t 22)) 16 false,
.s 24 (.pick (.t 16) (.c (.bool true)) (.t 23))] [1,2,3,24])
(.cnd (.t 24)
(.seq
(.reg [
.s 25 (.fa 2 (.t 3)),
.s 26 (.ld false 1 (.t 25)),
.s 27 (.fa 2 (.t 1)),
.s 28 (.ld false 1 (.t 27)),
.s 29 (.app false 9 1 16 (.t 26) (.t 28)),
.s 30 (.fa 2 (.t 3)),
.n (.st 1 (.t 30) (.t 29))] [1,2,3])
(.seq
(.seq
(.reg [
.s 31 (.fa 3 (.t 1)),
.s 32 (.ld false 1 (.t 31)),
.s 33 (.len (.t 32)),
.s 34 (.mv (.c (.int .i64 0)))] [2,3,32,33,34])
(.blk 0
(.seq
(.trim [2,3,32,33,34])
(.lop
(.seq
(.seq
(.reg [
.s 35 (.bin .lss none (.t 34) (.t 33))] [2,3,32,33,34,35])
(.seq
(.cnd (.t 35)
.skip
(.exit 0))
(.seq
(.blk 1
(.seq
(.reg [
.s 36 (.ia 4 (.t 32) (.t 34)),
.s 37 (.ld true 4 (.t 36)),
.s 5 (.alL [(.int .i64 0),(.str []),(.sl 1 ⟨none,0,(some 0),true⟩ []),(.sl 4 ⟨none,0,(some 0),true⟩ [])]),
.n (.st 4 (.t 5) (.t 37))] [2,3,5,32,33,34])
(.drw [
((.s 38 (.fa 3 (.t 3)),(some 3)),[]),
((.s 39 (.ld false 1 (.t 38)),(some 3)),[]),
((.s 40 (.ld true 4 (.t 5)),(some 5)),[]),
((.s 41 (.call 57 [(.t 40)]),none),[]),
((.s 42 (.bldS 4 1 (.agg [(.int .i64 0),(.str []),(.sl 1 ⟨none,0,(some 0),true⟩ []),(.sl 4 ⟨none,0,(some 0),true⟩ [])]) [(0,(.t 41))]),none),[]),
((.s 43 (.app true 25 4 72 (.t 39) (.t 42)),none),[]),
((.s 44 (.fa 3 (.t 3)),(some 3)),[]),
((.n (.st 1 (.t 44) (.t 43)),(some 3)),[])] [2,3,32,33,34])))
(.reg [
.s 45 (.bin .add none (.t 34) (.c (.int .i64 1))),
.s 34 (.mv (.t 45))] [2,3,32,33,34]))))
(.trim [2,3,32,33,34]))))))
(.seq
(.reg [
.s 46 (.ld true 4 (.t 3)),
.n (.st 4 (.t 2) (.t 46))] [2])
.ret)))
.skip))
(.seq
(.seq
(.reg [
.s 47 (.fa 2 (.t 1)),
.s 48 (.ld false 1 (.t 47)),
.s 49 (.call 61 [(.t 48)]),
.s 50 (.len (.t 49)),
.s 51 (.mv (.c (.int .i64 0)))] [1,2,3,49,50,51])
(.blk 2
(.seq
(.trim [1,2,3,49,50,51])
(.lop
(.seq
(.seq
(.reg [
.s 52 (.bin .lss none (.t 51) (.t 50))] [1,2,3,49,50,51,52])
(.seq
(.cnd (.t 52)
.skip
(.exit 2))
(.seq
(.blk 3
(.seq
(.reg [
.s 53 (.ia 1 (.t 49) (.t 51)),
.s 54 (.ld false 1 (.t 53)),
.s 7 (.mv (.t 54))] [1,2,3,7,49,50,51])
(.seq
(.drw [
((.s 55 (.fa 2 (.t 3)),(some 3)),[]),
((.s 56 (.ld false 1 (.t 55)),(some 3)),[]),
((.s 57 (.fa 2 (.t 1)),(some 1)),[]),
((.s 58 (.ld false 1 (.t 57)),(some 1)),[]),
((.s 59 (.mv (.t 7)),none),[]),
((.s 60 (.ia 1 (.t 58) (.t 59)),none),[]),
((.s 61 (.ld false 1 (.t 60)),none),[]),
((.s 62 (.bldS 1 1 (.str []) [(0,(.t 61))]),none),[]),
((.s 63 (.app false 9 1 16 (.t 56) (.t 62)),none),[]),
((.s 64 (.fa 2 (.t 3)),(some 3)),[]),
((.n (.st 1 (.t 64) (.t 63)),(some 3)),[])] [1,2,3,7,49,50,51])
(.drw [
((.s 65 (.fa 3 (.t 3)),(some 3)),[]),
((.s 66 (.ld false 1 (.t 65)),(some 3)),[]),
((.s 67 (.fa 3 (.t 1)),(some 1)),[]),
((.s 68 (.ld false 1 (.t 67)),(some 1)),[]),
((.s 69 (.mv (.t 7)),none),[]),
((.s 70 (.ia 4 (.t 68) (.t 69)),none),[]),
((.s 71 (.ld true 4 (.t 70)),none),[]),
((.s 72 (.call 57 [(.t 71)]),none),[]),
((.s 73 (.bldS 4 1 (.agg [(.int .i64 0),(.str []),(.sl 1 ⟨none,0,(some 0),true⟩ []),(.sl 4 ⟨none,0,(some 0),true⟩ [])]) [(0,(.t 72))]),none),[]),
((.s 74 (.app true 25 4 72 (.t 66) (.t 73)),none),[]),
((.s 75 (.fa 3 (.t 3)),(some 3)),[]),
((.n (.st 1 (.t 75) (.t 74)),(some 3)),[])] [1,2,3,49,50,51]))))
(.reg [
.s 76 (.bin .add none (.t 51) (.c (.int .i64 1))),
.s 51 (.mv (.t 76))] [1,2,3,49,50,51]))))
(.trim [1,2,3,49,50,51]))))))
(.seq
(.reg [
.s 77 (.ld true 4 (.t 3)),
.n (.st 4 (.t 2) (.t 77))] [2])
.ret))))),
[.cell 2 true 4]⟩
/-- emend/cst.leaf -/
def F58 : DF := ⟨1,
(.seq
(.reg [
.s 1 (.bxL (.t 0)),
.s 2 (.mv (.c (.bool false)))] [1])
(.seq
(.reg [
.s 3 (.fa 0 (.t 1)),
.s 4 (.ld false 1 (.t 3)),
.s 5 (.call 72 [(.t 4)]),
.s 2 (.mv (.t 5))] [2])
.ret)),
[.tmp 2]⟩
/-- (*emend/tree.writer).put -/
def F59 : DF := ⟨2,
(.seq
(.reg [
.s 4 (.mv (.t 0)),
.s 5 (.nilc (.t 4)),
.s 6 (.fa 0 (.t 5)),
.s 7 (.call 34 [(.t 6)]),
.s 8 (.bin .leq none (.t 7) (.c (.int .i64 65536)))] [0,1,8])
(.cnd (.t 8)
(.reg [
.s 9 (.mv (.t 0)),
.s 10 (.nilc (.t 9)),
.s 11 (.fa 0 (.t 10)),
.s 12 (.mv (.t 1)),
.s 13 (.call 38 [(.t 11),(.t 12)])] [])
.skip)),
[]⟩
/-- emend/text.Quote -/
def F60 : DF := ⟨1,
(.seq
(.reg [
.s 2 (.mv (.c (.str []))),
.s 3 (.mv (.c (.int .i64 0)))] [0])
(.seq
(.seq
(.reg [
.s 8 (.mv (.t 0)),
.s 9 (.call 63 [(.t 8)]),
.s 10 (.un .not (.t 9))] [0,10])
(.cnd (.t 10)
(.seq
(.reg [
.s 2 (.mv (.c (.str []))),
.s 3 (.mv (.c (.int .i64 10)))] [2,3])
.ret)
.skip))
(.seq
(.reg [
.s 4 (.alH 63 [.nilp,(.sl 1 ⟨none,0,(some 0),true⟩ [])])] [0,4])
(.seq
(.reg [
.s 11 (.call 73 [(.t 4),(.c (.int .u8 34))])] [0,4])
(.seq
(.seq
(.reg [
.s 12 (.mv (.t 0)),
.s 13 (.lenS (.t 12)),
.s 14 (.mv (.c (.int .i64 0)))] [0,4,13,14])
(.blk 0
(.seq
(.trim [0,4,13,14])
(.lop
(.seq
(.seq
(.reg [
.s 15 (.bin .lss none (.t 14) (.t 13))] [0,4,13,14,15])
(.seq
(.cnd (.t 15)
.skip
(.exit 0))
(.seq
(.blk 1
(.seq
(.reg [
.s 16 (.mv (.t 14)),
.s 5 (.mv (.t 16))] [0,4,5,13,14])
(.seq
(.reg [
.s 17 (.mv (.t 0)),
.s 18 (.mv (.t 5)),
.s 19 (.ixS (.t 17) (.t 18)),
.s 6 (.mv (.t 19))] [0,4,6,13,14])
(.seq
(.reg [
.s 20 (.mv (.t 6)),
.s 21 (.call 74 [(.t 20)]),
.s 7 (.mv (.t 21))] [0,4,6,7,13,14])
(.blk 2
(.seq
(.reg [
.s 25 (.mv (.t 7)),
.s 26 (.bin .neq (some .int) (.t 25) (.c (.int .u8 0))),
.s 24 (.mv (.t 26))] [0,4,6,7,13,14,24])
(.cnd (.t 24)
(.seq
(.reg [
.s 27 (.call 73 [(.t 4),(.c (.int .u8 92))])] [0,4,7,13,14])
(.reg [
.s 28 (.mv (.t 7)),
.s 29 (.call 73 [(.t 4),(.t 28)])] [0,4,13,14]))
(.seq
(.reg [
.s 31 (.mv (.t 6)),
.s 32 (.bin .lss none (.t 31) (.c (.int .u8 32))),
.s 33 (.mv (.t 32)),
.g 34 (.mv (.t 6)) 33 false,
.g 35 (.bin .eql (some .int) (.t 34) (.c (.int .u8 127))) 33 false,
.s 36 (.pick (.t 33) (.c (.bool true)) (.t 35)),
.s 30 (.mv (.t 36))] [0,4,6,13,14,30])
(.cnd (.t 30)
(.seq
(.reg [
.s 37 (.call 38 [(.t 4),(.c (.str [92,117,48,48]))])] [0,4,6,13,14])
(.seq
(.reg [
.s 38 (.mv (.t 6)),
.s 39 (.bin .shr none (.t 38) (.c (.int .u64 4))),
.s 40 (.cvI .i64 (.t 39)),
.s 41 (.call 75 [(.t 40)]),
.s 42 (.call 73 [(.t 4),(.t 41)])] [0,4,6,13,14])
(.reg [
.s 43 (.mv (.t 6)),
.s 44 (.cvI .i64 (.t 43)),
.s 45 (.call 75 [(.t 44)]),
.s 46 (.call 73 [(.t 4),(.t 45)])] [0,4,13,14])))
(.reg [
.s 22 (.mv (.t 6)),
.s 23 (.call 73 [(.t 4),(.t 22)])] [0,4,13,14]))))))))))
(.reg [
.s 47 (.bin .add none (.t 14) (.c (.int .i64 1))),
.s 14 (.mv (.t 47))] [0,4,13,14]))))
(.trim [0,4,13,14]))))))
(.seq
(.reg [
.s 48 (.call 73 [(.t 4),(.c (.int .u8 34))])] [4])
(.seq
(.reg [
.s 49 (.call 35 [(.t 4)]),
.s 2 (.mv (.t 49)),
.s 3 (.mv (.c (.int .i64 0)))] [2,3])
.ret))))))),
[.tmp 2,.tmp 3]⟩
/-- emend/tree.order -/
def F61 : DF := ⟨1,
(.seq
(.reg [
.s 1 (.bxH 22 (.t 0)),
.s 2 (.mv (.c (.sl 1 ⟨none,0,(some 0),true⟩ [])))] [1])
(.seq
(.reg [
.s 5 (.ld false 1 (.t 1)),
.s 6 (.len (.t 5)),
.s 7 (.mks 3 1 8 (.int .i64 0) (.t 6) (.t 6)),
.s 3 (.mv (.t 7))] [1,3])
(.seq
(.seq
(.reg [
.s 8 (.mv (.t 3)),
.s 9 (.len (.t 8)),
.s 10 (.mv (.c (.int .i64 0)))] [1,3,9,10])
(.blk 0
(.seq
(.trim [1,3,9,10])
(.lop
(.seq
(.seq
(.reg [
.s 11 (.bin .lss none (.t 10) (.t 9))] [1,3,9,10,11])
(.seq
(.cnd (.t 11)
.skip
(.exit 0))
(.seq
(.blk 1
(.seq
(.reg [
.s 12 (.mv (.t 10)),
.s 4 (.mv (.t 12))] [1,3,4,9,10])
(.reg [
.s 13 (.mv (.t 3)),
.s 14 (.mv (.t 4)),
.s 15 (.mv (.t 4)),
.s 16 (.ia 1 (.t 13) (.t 14)),
.n (.st 1 (.t 16) (.t 15))] [1,3,9,10])))
(.reg [
.s 17 (.bin .add none (.t 10) (.c (.int .i64 1))),
.s 10 (.mv (.t 17))] [1,3,9,10]))))
(.trim [1,3,9,10]))))))
(.seq
(.reg [
.s 18 (.mv (.t 3)),
.s 19 (.mkf 77 [] [(.t 1)]),
.s 20 (.call 76 [(.t 18),(.t 19)])] [3])
(.seq
(.reg [
.s 21 (.mv (.t 3)),
.s 2 (.mv (.t 21))] [2])
.ret))))),
[.tmp 2]⟩
/-- (*strings.Builder).copyCheck -/
def F62 : DF := ⟨1,
(.seq
(.reg [
.s 2 (.mv (.t 0)),
.s 3 (.nilc (.t 2)),
.s 4 (.fa 0 (.t 3)),
.s 5 (.ld false 1 (.t 4)),
.s 6 (.bin .eql (some .ptr) (.t 5) (.c .nilp))] [0,6])
(.cnd (.t 6)
(.reg [
.s 7 (.mv (.t 0)),
.s 8 (.mv (.t 0)),
.s 9 (.cvU (.t 8)),
.s 10 (.xtn .noEscape [(.t 9)]),
.s 11 (.cvP [(62,(0,2)),(63,(0,2)),(64,(0,2)),(65,(0,2))] (.t 10)),
.s 12 (.nilc (.t 7)),
.s 13 (.fa 0 (.t 12)),
.n (.st 1 (.t 13) (.t 11))] [])
(.seq
(.reg [
.s 14 (.mv (.t 0)),
.s 15 (.nilc (.t 14)),
.s 16 (.fa 0 (.t 15)),
.s 17 (.ld false 1 (.t 16)),
.s 18 (.mv (.t 0)),
.s 19 (.bin .neq (some .ptr) (.t 17) (.t 18))] [19])
(.cnd (.t 19)
.fail
.skip)))),
[]⟩
/-- emend/text.Valid -/
def F63 : DF := ⟨1,
(.seq
(.reg [
.s 2 (.mv (.c (.bool false)))] [0])
(.seq
(.reg [
.s 3 (.mv (.t 0)),
.s 4 (.call 80 [(.t 3)]),
.s 5 (.bin .lss none (.t 4) (.c (.int .i64 0))),
.s 2 (.mv (.t 5))] [2])
.ret)),
[.tmp 2]⟩
/-- emend/num.Normal -/
def F66 : DF := ⟨1,
(.seq
(.reg [
.s 2 (.mv (.c (.str []))),
.s 3 (.mv (.c (.int .i64 0)))] [0])
(.seq
(.reg [
.s 7 (.mv (.t 0)),
.s 8 (.call 84 [(.t 7)]),
.s 6 (.mv (.t 8)),
.s 9 (.ext (.t 6) 0),
.s 10 (.ext (.t 6) 1),
.s 4 (.alL [(.bool false),(.str []),(.int .i64 0)]),
.n (.st 3 (.t 4) (.t 9)),
.s 5 (.mv (.t 10))] [4,5])
(.seq
(.seq
(.reg [
.s 11 (.mv (.t 5)),
.s 12 (.bin .neq (some .int) (.t 11) (.c (.int .i64 0)))] [4,5,12])
(.cnd (.t 12)
(.seq
(.reg [
.s 13 (.mv (.t 5)),
.s 2 (.mv (.c (.str []))),
.s 3 (.mv (.t 13))] [2,3])
.ret)
.skip))
(.seq
(.reg [
.s 14 (.ld true 3 (.t 4)),
.s 15 (.call 85 [(.t 14)]),
.s 16 (.ext (.t 15) 0),
.s 17 (.ext (.t 15) 1),
.s 2 (.mv (.t 16)),
.s 3 (.mv (.t 17))] [2,3])
.ret)))),
[.tmp 2,.tmp 3]⟩
/-- emend/tree.Time -/
def F67 : DF := ⟨1,
(.seq
(.reg [
.s 2 (.mv (.c (.bool false)))] [0])
(.seq
(.seq
(.reg [
.s 6 (.mv (.t 0)),
.s 7 (.call 86 [(.t 6)]),
.s 8 (.mv (.t 7)),
.g 9 (.mv (.t 0)) 8 false,
.g 10 (.call 87 [(.t 9)]) 8 false,
.s 11 (.pick (.t 8) (.c (.bool true)) (.t 10))] [0,11])
(.cnd (.t 11)
(.seq
(.reg [
.s 2 (.mv (.c (.bool true)))] [2])
.ret)
.skip))
(.seq
(.reg [
.s 13 (.mv (.t 0)),
.s 14 (.call 88 [(.t 13)]),
.s 12 (.mv (.t 14)),
.s 15 (.ext (.t 12) 0),
.s 16 (.ext (.t 12) 1),
.s 0 (.mv (.t 15))] [0])
(.seq
(.reg [
.s 18 (.mv (.t 0)),
.s 19 (.call 89 [(.t 18),(.c (.str [84]))]),
.s 17 (.mv (.t 19)),
.s 20 (.ext (.t 17) 0),
.s 21 (.ext (.t 17) 1),
.s 22 (.ext (.t 17) 2),
.s 3 (.mv (.t 20)),
.s 4 (.mv (.t 21)),
.s 5 (.mv (.t 22))] [3,4,5])
(.seq
(.reg [
.s 23 (.mv (.t 5)),
.s 24 (.mv (.t 23)),
.g 25 (.mv (.t 3)) 24 true,
.g 26 (.call 86 [(.t 25)]) 24 true,
.s 27 (.pick (.t 24) (.t 26) (.c (.bool false))),
.s 28 (.mv (.t 27)),
.g 29 (.mv (.t 4)) 28 true,
.g 30 (.call 87 [(.t 29)]) 28 true,
.s 31 (.pick (.t 28) (.t 30) (.c (.bool false))),
.s 2 (.mv (.t 31))] [2])
.ret))))),
[.tmp 2]⟩
/-- emend/tree.unlike -/
def F68 : DF := ⟨1,
(.seq
(.reg [
.s 2 (.mv (.c (.bool false)))] [0])
(.seq
(.reg [
.s 6 (.mkm),
.s 3 (.mv (.t 6))] [0,3])
(.seq
(.seq
(.reg [
.s 7 (.mv (.t 0)),
.s 8 (.len (.t 7)),
.s 9 (.mv (.c (.int .i64 0)))] [3,7,8,9])
(.blk 0
(.seq
(.trim [3,7,8,9])
(.lop
(.seq
(.seq
(.reg [
.s 10 (.bin .lss none (.t 9) (.t 8))] [3,7,8,9,10])
(.seq
(.cnd (.t 10)
.skip
(.exit 0))
(.seq
(.blk 1
(.seq
(.reg [
.s 11 (.ia 1 (.t 7) (.t 9)),
.s 12 (.ld false 1 (.t 11)),
.s 5 (.mv (.t 12))] [3,5,7,8,9])
(.seq
(.reg [
.s 13 (.mv (.t 3)),
.s 14 (.mv (.t 5)),
.s 15 (.lkp .str (.int .i64 0) (.t 13) (.t 14) false),
.s 16 (.bin .add none (.t 15) (.c (.int .i64 1))),
.n (.mup .str (.t 13) (.t 14) (.t 16))] [3,5,7,8,9])
(.seq
(.reg [
.s 17 (.mv (.t 3)),
.s 18 (.mv (.t 5)),
.s 19 (.lkp .str (.int .i64 0) (.t 17) (.t 18) false),
.s 20 (.bin .gtr none (.t 19) (.c (.int .i64 1))),
.s 21 (.mv (.t 20)),
.g 22 (.mv (.t 5)) 21 false,
.g 23 (.call 63 [(.t 22)]) 21 false,
.g 24 (.un .not (.t 23)) 21 false,
.s 25 (.pick (.t 21) (.c (.bool true)) (.t 24))] [3,7,8,9,25])
(.cnd (.t 25)
(.seq
(.reg [
.s 2 (.mv (.c (.bool false)))] [2])
.ret)
.skip)))))
(.reg [
.s 26 (.bin .add none (.t 9) (.c (.int .i64 1))),
.s 9 (.mv (.t 26))] [3,7,8,9]))))
(.trim [3,7,8,9]))))))
(.seq
(.reg [
.s 2 (.mv (.c (.bool true)))] [2])
.ret)))),
[.tmp 2]⟩
/-- slices.Equal[[]string,string] -/
def F70 : DF := ⟨2,
(.seq
(.reg [
.s 4 (.mv (.c (.bool false)))] [0,1])
(.seq
(.seq
(.reg [
.s 6 (.mv (.t 0)),
.s 7 (.len (.t 6)),
.s 8 (.mv (.t 1)),
.s 9 (.len (.t 8)),
.s 10 (.bin .neq (some .int) (.t 7) (.t 9))] [0,1,10])
(.cnd (.t 10)
(.seq
(.reg [
.s 4 (.mv (.c (.bool false)))] [4])
.ret)
.skip))
(.seq
(.seq
(.reg [
.s 11 (.mv (.t 0)),
.s 12 (.len (.t 11)),
.s 13 (.mv (.c (.int .i64 0)))] [0,1,12,13])
(.blk 0
(.seq
(.trim [0,1,12,13])
(.lop
(.seq
(.seq
(.reg [
.s 14 (.bin .lss none (.t 13) (.t 12))] [0,1,12,13,14])
(.seq
(.cnd (.t 14)
.skip
(.exit 0))
(.seq
(.blk 1
(.seq
(.reg [
.s 15 (.mv (.t 13)),
.s 5 (.mv (.t 15))] [0,1,5,12,13])
(.seq
(.drw [
((.s 16 (.mv (.t 0)),none),[]),
((.s 17 (.mv (.t 5)),none),[]),
((.s 18 (.ia 1 (.t 16) (.t 17)),none),[]),
((.s 19 (.ld false 1 (.t 18)),none),[]),
((.s 20 (.mv (.t 1)),none),[]),
((.s 21 (.mv (.t 5)),none),[]),
((.s 22 (.ia 1 (.t 20) (.t 21)),none),[]),
((.s 23 (.ld false 1 (.t 22)),none),[]),
((.s 24 (.bin .neq (some .str) (.t 19) (.t 23)),none),[])] [0,1,12,13,24])
(.cnd (.t 24)
(.seq
(.reg [
.s 4 (.mv (.c (.bool false)))] [4])
.ret)
.skip))))
(.reg [
.s 25 (.bin .add none (.t 13) (.c (.int .i64 1))),
.s 13 (.mv (.t 25))] [0,1,12,13]))))
(.trim [0,1,12,13]))))))
(.seq
(.reg [
.s 4 (.mv (.c (.bool true)))] [4])
.ret)))),
[.tmp 4]⟩
/-- slices.EqualFunc[[]emend/api.Tree,[]emend/api.Tree,emend/api.Tree,emend/api.Tree] -/
def F71 : DF := ⟨3,
(.seq
(.reg [
.s 6 (.mv (.c (.bool false)))] [0,1,2])
(.seq
(.seq
(.reg [
.s 10 (.mv (.t 0)),
.s 11 (.len (.t 10)),
.s 12 (.mv (.t 1)),
.s 13 (.len (.t 12)),
.s 14 (.bin .neq (some .int) (.t 11) (.t 13))] [0,1,2,14])
(.cnd (.t 14)
(.seq
(.reg [
.s 6 (.mv (.c (.bool false)))] [6])
.ret)
.skip))
(.seq
(.seq
(.reg [
.s 15 (.mv (.t 0)),
.s 16 (.len (.t 15)),
.s 17 (.mv (.c (.int .i64 0)))] [1,2,15,16,17])
(.blk 0
(.seq
(.trim [1,2,15,16,17])
(.lop
(.seq
(.seq
(.reg [
.s 18 (.bin .lss none (.t 17) (.t 16))] [1,2,15,16,17,18])
(.seq
(.cnd (.t 18)
.skip
(.exit 0))
(.seq
(.blk 1
(.seq
(.reg [
.s 19 (.mv (.t 17)),
.s 20 (.ia 4 (.t 15) (.t 17)),
.s 21 (.ld true 4 (.t 20)),
.s 8 (.alL [(.int .i64 0),(.str []),(.sl 1 ⟨none,0,(some 0),true⟩ []),(.sl 4 ⟨none,0,(some 0),true⟩ [])]),
.s 7 (.mv (.t 19)),
.n (.st 4 (.t 8) (.t 21))] [1,2,7,8,15,16,17])
(.seq
(.reg [
.s 22 (.mv (.t 1)),
.s 23 (.mv (.t 7)),
.s 24 (.ia 4 (.t 22) (.t 23)),
.s 25 (.ld true 4 (.t 24)),
.s 9 (.alL [(.int .i64 0),(.str []),(.sl 1 ⟨none,0,(some 0),true⟩ []),(.sl 4 ⟨none,0,(some 0),true⟩ [])]),
.n (.st 4 (.t 9) (.t 25))] [1,2,8,9,15,16,17])
(.seq
(.reg [
.s 26 (.mv (.t 2)),
.s 27 (.ld true 4 (.t 8)),
.s 28 (.ld true 4 (.t 9)),
.s 29 (.callv (.t 26) [(.t 27),(.t 28)]),
.s 30 (.un .not (.t 29))] [1,2,15,16,17,30])
(.cnd (.t 30)
(.seq
(.reg [
.s 6 (.mv (.c (.bool false)))] [6])
.ret)
.skip)))))
(.reg [
.s 31 (.bin .add none (.t 17) (.c (.int .i64 1))),
.s 17 (.mv (.t 31))] [1,2,15,16,17]))))
(.trim [1,2,15,16,17]))))))
(.seq
(.reg [
.s 6 (.mv (.c (.bool true)))] [6])
.ret)))),
[.tmp 6]⟩
/-- emend/tree.Scalar -/
def F72 : DF := ⟨1,
(.seq
(.reg [
.s 2 (.mv (.c (.bool false)))] [0])
(.seq
(.reg [
.s 3 (.mv (.t 0)),
.s 4 (.bin .geq none (.t 3) (.c (.int .i64 1))),
.s 5 (.mv (.t 4)),
.g 6 (.mv (.t 0)) 5 true,
.g 7 (.bin .leq none (.t 6) (.c (.int .i64 5))) 5 true,
.s 8 (.pick (.t 5) (.t 7) (.c (.bool false))),
.s 2 (.mv (.t 8))] [2])
.ret)),
[.tmp 2]⟩
/-- (*strings.Builder).WriteByte -/
def F73 : DF := ⟨2,
(.seq
(.reg [
.s 4 (.mv (.c .nilif))] [0,1])
(.seq
(.reg [
.s 5 (.mv (.t 0)),
.s 6 (.call 62 [(.t 5)])] [0,1])
(.seq
(.reg [
.s 7 (.mv (.t 0)),
.s 8 (.mv (.t 0)),
.s 9 (.nilc (.t 8)),
.s 10 (.fa 1 (.t 9)),
.s 11 (.ld false 1 (.t 10)),
.s 12 (.mv (.t 1)),
.s 13 (.bldT 5 1 1 (.int .u8 0) [(0,(.t 12))]),
.s 14 (.app false 5 1 1 (.t 11) (.t 13)),
.s 15 (.nilc (.t 7)),
.s 16 (.fa 1 (.t 15)),
.n (.st 1 (.t 16) (.t 14))] [])
(.seq
(.reg [
.s 4 (.mv (.c .nilif))] [4])
.ret)))),
[.tmp 4]⟩
/-- emend/text.short -/
def F74 : DF := ⟨1,
(.seq
(.reg [
.s 2 (.mv (.c (.int .u8 0)))] [0])
(.seq
(.seq
(.reg [
.s 3 (.mv (.t 0))] [0,3])
(.blk 0
(.seq
(.seq
(.reg [
.s 5 (.bin .eql (some .int) (.t 3) (.c (.int .u8 34))),
.s 4 (.mv (.t 5))] [0,3,4])
(.cnd (.t 4)
.skip
(.reg [
.s 6 (.bin .eql (some .int) (.t 3) (.c (.int .u8 92))),
.s 4 (.mv (.t 6))] [0,3,4])))
(.cnd (.t 4)
(.seq
(.reg [
.s 7 (.mv (.t 0)),
.s 2 (.mv (.t 7))] [2])
.ret)
(.seq
(.reg [
.s 9 (.bin .eql (some .int) (.t 3) (.c (.int .u8 8))),
.s 8 (.mv (.t 9))] [3,8])
(.cnd (.t 8)
(.seq
(.reg [
.s 2 (.mv (.c (.int .u8 98)))] [2])
.ret)
(.seq
(.reg [
.s 11 (.bin .eql (some .int) (.t 3) (.c (.int .u8 9))),
.s 10 (.mv (.t 11))] [3,10])
(.cnd (.t 10)
(.seq
(.reg [
.s 2 (.mv (.c (.int .u8 116)))] [2])
.ret)
(.seq
(.reg [
.s 13 (.bin .eql (some .int) (.t 3) (.c (.int .u8 10))),
.s 12 (.mv (.t 13))] [3,12])
(.cnd (.t 12)
(.seq
(.reg [
.s 2 (.mv (.c (.int .u8 110)))] [2])
.ret)
(.seq
(.reg [
.s 15 (.bin .eql (some .int) (.t 3) (.c (.int .u8 12))),
.s 14 (.mv (.t 15))] [3,14])
(.cnd (.t 14)
(.seq
(.reg [
.s 2 (.mv (.c (.int .u8 102)))] [2])
.ret)
(.seq
(.reg [
.s 17 (.bin .eql (some .int) (.t 3) (.c (.int .u8 13))),
.s 16 (.mv (.t 17))] [16])
(.cnd (.t 16)
(.seq
(.reg [
.s 2 (.mv (.c (.int .u8 114)))] [2])
.ret)
.skip))))))))))))))
(.seq
(.reg [
.s 2 (.mv (.c (.int .u8 0)))] [2])
.ret))),
[.tmp 2]⟩
/-- emend/text.digit -/
def F75 : DF := ⟨1,
(.seq
(.reg [
.s 2 (.mv (.c (.int .u8 0)))] [0])
(.seq
(.reg [
.s 3 (.mv (.t 0)),
.s 4 (.bin .and none (.t 3) (.c (.int .i64 15))),
.s 5 (.ixS (.c (.str [48,49,50,51,52,53,54,55,56,57,97,98,99,100,101,102])) (.t 4)),
.s 2 (.mv (.t 5))] [2])
.ret)),
[.tmp 2]⟩
/-- slices.SortStableFunc[[]int,int] -/
def F76 : DF := ⟨2,
(.reg [
.s 4 (.mv (.t 0)),
.s 5 (.mv (.t 0)),
.s 6 (.len (.t 5)),
.s 7 (.mv (.t 1)),
.s 8 (.call 90 [(.t 4),(.t 6),(.t 7)])] []),
[]⟩
/-- emend/tree.order$1 -/
def F77 : DF := ⟨3,
(.seq
(.reg [
.s 5 (.mv (.c (.int .i64 0)))] [0,1,2])
(.seq
(.drw [
((.s 6 (.ld false 1 (.t 2)),none),[]),
((.s 7 (.mv (.t 0)),none),[]),
((.s 8 (.ia 1 (.t 6) (.t 7)),none),[]),
((.s 9 (.ld false 1 (.t 8)),none),[]),
((.s 10 (.ld false 1 (.t 2)),none),[]),
((.s 11 (.mv (.t 1)),none),[]),
((.s 12 (.ia 1 (.t 10) (.t 11)),none),[]),
((.s 13 (.ld false 1 (.t 12)),none),[]),
((.s 14 (.call 78 [(.t 9),(.t 13)]),none),[]),
((.s 5 (.mv (.t 14)),none),[])] [5])
.ret)),
[.tmp 5]⟩
/-- strings.Compare -/
def F78 : DF := ⟨2,
(.seq
(.reg [
.s 4 (.mv (.c (.int .i64 0)))] [0,1])
(.seq
(.reg [
.s 5 (.mv (.t 0)),
.s 6 (.mv (.t 1)),
.s 7 (.call 91 [(.t 5),(.t 6)]),
.s 4 (.mv (.t 7))] [4])
.ret)),
[.tmp 4]⟩
/-- emend/text.Bad -/
def F80 : DF := ⟨1,
(.seq
(.reg [
.s 2 (.mv (.c (.int .i64 0)))] [0])
(.seq
(.seq
(.reg [
.s 3 (.mv (.c (.int .i64 0)))] [0,3])
(.blk 0
(.seq
(.trim [0,3])
(.lop
(.seq
(.seq
(.seq
(.reg [
.s 6 (.mv (.t 3)),
.s 7 (.mv (.t 0)),
.s 8 (.lenS (.t 7)),
.s 9 (.bin .lss none (.t 6) (.t 8))] [0,3,9])
(.cnd (.t 9)
.skip
(.exit 0)))
(.blk 1
(.seq
(.reg [
.s 11 (.mv (.t 0)),
.s 12 (.mv (.t 3)),
.s 13 (.slS (.t 11) (some (.t 12)) none),
.s 14 (.call 92 [(.t 13)]),
.s 10 (.mv (.t 14)),
.s 15 (.ext (.t 10) 0),
.s 16 (.ext (.t 10) 1),
.s 4 (.mv (.t 15)),
.s 5 (.mv (.t 16))] [0,3,5])
(.seq
(.seq
(.reg [
.s 17 (.mv (.t 5)),
.s 18 (.bin .eql (some .int) (.t 17) (.c (.int .i64 0)))] [0,3,5,18])
(.cnd (.t 18)
(.seq
(.reg [
.s 19 (.mv (.t 3)),
.s 2 (.mv (.t 19))] [2])
.ret)
.skip))
(.reg [
.s 20 (.mv (.t 3)),
.s 21 (.mv (.t 5)),
.s 22 (.bin .add none (.t 20) (.t 21)),
.s 3 (.mv (.t 22))] [0,3])))))
(.trim [0,3]))))))
(.seq
(.reg [
.s 2 (.mv (.c (.int .i64 (-1))))] [2])
.ret))),
[.tmp 2]⟩
/-- emend/num.Split -/
def F84 : DF := ⟨1,
(.seq
(.reg [
.s 2 (.alL [(.bool false),(.str []),(.int .i64 0)]),
.s 3 (.mv (.c (.int .i64 0)))] [0,2])
(.seq
(.reg [
.s 13 (.mv (.t 0)),
.s 14 (.call 96 [(.t 13)]),
.s 12 (.mv (.t 14)),
.s 15 (.ext (.t 12) 0),
.s 16 (.ext (.t 12) 1),
.s 17 (.ext (.t 12) 2),
.s 18 (.ext (.t 12) 3),
.s 19 (.ext (.t 12) 4),
.s 4 (.mv (.t 15)),
.s 5 (.mv (.t 16)),
.s 6 (.mv (.t 17)),
.s 7 (.mv (.t 18)),
.s 8 (.mv (.t 19))] [0,2,4,5,6,7,8])
(.seq
(.seq
(.reg [
.s 20 (.mv (.t 8)),
.s 21 (.un .not (.t 20))] [0,2,4,5,6,7,21])
(.cnd (.t 21)
(.seq
(.reg [
.s 22 (.bld [(.bool false),(.str []),(.int .i64 0)] []),
.n (.st 3 (.t 2) (.t 22)),
.s 3 (.mv (.c (.int .i64 12)))] [2,3])
.ret)
.skip))
(.seq
(.seq
(.reg [
.s 23 (.mv (.t 0)),
.s 24 (.lenS (.t 23)),
.s 25 (.bin .gtr none (.t 24) (.c (.int .i64 1000)))] [2,4,5,6,7,25])
(.cnd (.t 25)
(.seq
(.reg [
.s 26 (.bld [(.bool false),(.str []),(.int .i64 0)] []),
.n (.st 3 (.t 2) (.t 26)),
.s 3 (.mv (.c (.int .i64 2)))] [2,3])
.ret)
.skip))
(.seq
(.reg [
.s 28 (.mv (.t 7)),
.s 29 (.call 97 [(.t 28)]),
.s 27 (.mv (.t 29)),
.s 30 (.ext (.t 27) 0),
.s 31 (.ext (.t 27) 1),
.s 9 (.mv (.t 30)),
.s 8 (.mv (.t 31))] [2,4,5,6,8,9])
(.seq
(.seq
(.reg [
.s 32 (.mv (.t 8)),
.s 33 (.un .not (.t 32))] [2,4,5,6,9,33])
(.cnd (.t 33)
(.seq
(.reg [
.s 34 (.bld [(.bool false),(.str []),(.int .i64 0)] []),
.n (.st 3 (.t 2) (.t 34)),
.s 3 (.mv (.c (.int .i64 5)))] [2,3])
.ret)
.skip))
(.seq
(.reg [
.s 35 (.mv (.t 5)),
.s 36 (.mv (.t 6)),
.s 37 (.bin .add none (.t 35) (.t 36)),
.s 38 (.call 98 [(.t 37),(.c (.str [48]))]),
.s 10 (.mv (.t 38))] [2,4,6,9,10])
(.seq
(.reg [
.s 39 (.mv (.t 9)),
.s 40 (.mv (.t 6)),
.s 41 (.lenS (.t 40)),
.s 42 (.bin .sub none (.t 39) (.t 41)),
.s 9 (.mv (.t 42))] [2,4,9,10])
(.seq
(.reg [
.s 43 (.mv (.t 10)),
.s 44 (.call 99 [(.t 43),(.c (.str [48]))]),
.s 11 (.mv (.t 44))] [2,4,9,10,11])
(.seq
(.reg [
.s 45 (.mv (.t 9)),
.s 46 (.mv (.t 10)),
.s 47 (.lenS (.t 46)),
.s 48 (.mv (.t 11)),
.s 49 (.lenS (.t 48)),
.s 50 (.bin .sub none (.t 47) (.t 49)),
.s 51 (.bin .add none (.t 45) (.t 50)),
.s 9 (.mv (.t 51))] [2,4,9,11])
(.seq
(.seq
(.reg [
.s 52 (.mv (.t 11)),
.s 53 (.bin .eql (some .str) (.t 52) (.c (.str [])))] [2,4,9,11,53])
(.cnd (.t 53)
(.seq
(.reg [
.s 54 (.bld [(.bool false),(.str []),(.int .i64 0)] []),
.n (.st 3 (.t 2) (.t 54)),
.s 3 (.mv (.c (.int .i64 0)))] [2,3])
.ret)
.skip))
(.seq
(.reg [
.s 55 (.mv (.t 4)),
.s 56 (.mv (.t 11)),
.s 57 (.mv (.t 9)),
.s 58 (.bld [(.bool false),(.str []),(.int .i64 0)] [(0,1,(.t 55)),(1,1,(.t 56)),(2,1,(.t 57))]),
.n (.st 3 (.t 2) (.t 58)),
.s 3 (.mv (.c (.int .i64 0)))] [2,3])
.ret)))))))))))),
[.cell 2 true 3,.tmp 3]⟩
/-- emend/num.Join -/
def F85 : DF := ⟨1,
(.seq
(.reg [
.s 1 (.bxL (.t 0)),
.s 2 (.mv (.c (.str []))),
.s 3 (.mv (.c (.int .i64 0)))] [1])
(.seq
(.reg [
.s 6 (.fa 1 (.t 1)),
.s 7 (.ld false 1 (.t 6)),
.s 8 (.lenS (.t 7)),
.s 4 (.mv (.t 8))] [1,4])
(.seq
(.blk 0
(.seq
(.seq
(.reg [
.s 10 (.fa 1 (.t 1)),
.s 11 (.ld false 1 (.t 10)),
.s 12 (.call 100 [(.t 11)]),
.s 13 (.mv (.t 4)),
.s 14 (.bin .lss none (.t 12) (.t 13)),
.s 9 (.mv (.t 14))] [1,4,9])
(.cnd (.t 9)
.skip
(.seq
(.reg [
.s 15 (.mv (.t 4)),
.s 16 (.bin .gtr none (.t 15) (.c (.int .i64 0))),
.s 17 (.mv (.t 16)),
.g 18 (.fa 1 (.t 1)) 17 true,
.g 19 (.ld false 1 (.t 18)) 17 true,
.g 20 (.ixS (.t 19) (.c (.int .i64 0))) 17 true,
.g 21 (.bin .eql (some .int) (.t 20) (.c (.int .u8 48))) 17 true,
.g 22 (.mv (.t 21)) 17 true,
.g 23 (.fa 1 (.t 1)) 22 false,
.g 24 (.ld false 1 (.t 23)) 22 false,
.g 25 (.mv (.t 4)) 22 false,
.g 26 (.bin .sub none (.t 25) (.c (.int .i64 1))) 22 false,
.g 27 (.ixS (.t 24) (.t 26)) 22 false,
.g 28 (.bin .eql (some .int) (.t 27) (.c (.int .u8 48))) 22 false,
.g 29 (.pick (.t 22) (.c (.bool true)) (.t 28)) 17 true,
.s 30 (.pick (.t 17) (.t 29) (.c (.bool false))),
.s 9 (.mv (.t 30))] [1,4,9])
(.cnd (.t 9)
.skip
(.reg [
.s 31 (.mv (.t 4)),
.s 32 (.bin .eql (some .int) (.t 31) (.c (.int .i64 0))),
.s 33 (.mv (.t 32)),
.g 34 (.fa 2 (.t 1)) 33 true,
.g 35 (.ld false 1 (.t 34)) 33 true,
.g 36 (.bin .neq (some .int) (.t 35) (.c (.int .i64 0))) 33 true,
.g 37 (.mv (.t 36)) 33 true,
.g 38 (.fa 0 (.t 1)) 37 false,
.g 39 (.ld false 1 (.t 38)) 37 false,
.g 40 (.pick (.t 37) (.c (.bool true)) (.t 39)) 33 true,
.s 41 (.pick (.t 33) (.t 40) (.c (.bool false))),
.s 9 (.mv (.t 41))] [1,4,9])))))
(.cnd (.t 9)
(.seq
(.reg [
.s 2 (.mv (.c (.str []))),
.s 3 (.mv (.c (.int .i64 1)))] [2,3])
.ret)
(.seq
(.reg [
.s 43 (.fa 2 (.t 1)),
.s 44 (.ld false 1 (.t 43)),
.s 45 (.bin .lss none (.t 44) (.c (.int .i64 (-999999)))),
.s 46 (.mv (.t 45)),
.g 47 (.fa 2 (.t 1)) 46 false,
.g 48 (.ld false 1 (.t 47)) 46 false,
.g 49 (.bin .gtr none (.t 48) (.c (.int .i64 999999))) 46 false,
.s 50 (.pick (.t 46) (.c (.bool true)) (.t 49)),
.s 42 (.mv (.t 50))] [1,4,42])
(.cnd (.t 42)
(.seq
(.reg [
.s 2 (.mv (.c (.str []))),
.s 3 (.mv (.c (.int .i64 5)))] [2,3])
.ret)
(.seq
(.reg [
.s 52 (.mv (.t 4)),
.s 53 (.bin .eql (some .int) (.t 52) (.c (.int .i64 0))),
.s 51 (.mv (.t 53))] [1,51])
(.cnd (.t 51)
(.seq
(.reg [
.s 2 (.mv (.c (.str [48]))),
.s 3 (.mv (.c (.int .i64 0)))] [2,3])
.ret)
.skip)))))))
(.seq
(.reg [
.s 54 (.fa 1 (.t 1)),
.s 55 (.ld false 1 (.t 54)),
.s 5 (.mv (.t 55))] [1,5])
(.seq
(.seq
(.reg [
.s 56 (.fa 0 (.t 1)),
.s 57 (.ld false 1 (.t 56))] [1,5,57])
(.cnd (.t 57)
(.reg [
.s 58 (.mv (.t 5)),
.s 59 (.bin .add none (.c (.str [45])) (.t 58)),
.s 5 (.mv (.t 59))] [1,5])
.skip))
(.seq
(.seq
(.reg [
.s 60 (.fa 2 (.t 1)),
.s 61 (.ld false 1 (.t 60)),
.s 62 (.bin .neq (some .int) (.t 61) (.c (.int .i64 0)))] [1,5,62])
(.cnd (.t 62)
(.reg [
.s 63 (.mv (.t 5)),
.s 64 (.fa 2 (.t 1)),
.s 65 (.ld false 1 (.t 64)),
.s 66 (.call 101 [(.t 65)]),
.s 67 (.bin .add none (.c (.str [101])) (.t 66)),
.s 68 (.bin .add none (.t 63) (.t 67)),
.s 5 (.mv (.t 68))] [5])
.skip))
(.seq
(.seq
(.reg [
.s 69 (.mv (.t 5)),
.s 70 (.lenS (.t 69)),
.s 71 (.bin .gtr none (.t 70) (.c (.int .i64 1000)))] [5,71])
(.cnd (.t 71)
(.seq
(.reg [
.s 2 (.mv (.c (.str []))),
.s 3 (.mv (.c (.int .i64 2)))] [2,3])
.ret)
.skip))
(.seq
(.reg [
.s 72 (.mv (.t 5)),
.s 2 (.mv (.t 72)),
.s 3 (.mv (.c (.int .i64 0)))] [2,3])
.ret)))))))),
[.tmp 2,.tmp 3]⟩
/-- emend/tree.date -/
def F86 : DF := ⟨1,
(.seq
(.reg [
.s 2 (.mv (.c (.bool false)))] [0])
(.seq
(.seq
(.reg [
.s 3 (.mv (.t 0)),
.s 4 (.lenS (.t 3)),
.s 5 (.bin .neq (some .int) (.t 4) (.c (.int .i64 10))),
.s 6 (.mv (.t 5)),
.g 7 (.mv (.t 0)) 6 false,
.g 8 (.ixS (.t 7) (.c (.int .i64 4))) 6 false,
.g 9 (.bin .neq (some .int) (.t 8) (.c (.int .u8 45))) 6 false,
.s 10 (.pick (.t 6) (.c (.bool true)) (.t 9)),
.s 11 (.mv (.t 10)),
.g 12 (.mv (.t 0)) 11 false,
.g 13 (.ixS (.t 12) (.c (.int .i64 7))) 11 false,
.g 14 (.bin .neq (some .int) (.t 13) (.c (.int .u8 45))) 11 false,
.s 15 (.pick (.t 11) (.c (.bool true)) (.t 14)),
.s 16 (.mv (.t 15)),
.g 17 (.mv (.t 0)) 16 false,
.g 18 (.slS (.t 17) none (some (.c (.int .i64 2)))) 16 false,
.g 19 (.call 102 [(.t 18)]) 16 false,
.g 20 (.bin .lss none (.t 19) (.c (.int .i64 0))) 16 false,
.s 21 (.pick (.t 16) (.c (.bool true)) (.t 20)),
.s 22 (.mv (.t 21)),
.g 23 (.mv (.t 0)) 22 false,
.g 24 (.slS (.t 23) (some (.c (.int .i64 2))) (some (.c (.int .i64 4)))) 22 false,
.g 25 (.call 102 [(.t 24)]) 22 false,
.g 26 (.bin .lss none (.t 25) (.c (.int .i64 0))) 22 false,
.s 27 (.pick (.t 22) (.c (.bool true)) (.t 26)),
.s 28 (.mv (.t 27)),
.g 29 (.mv (.t 0)) 28 false,
.g 30 (.slS (.t 29) (some (.c (.int .i64 5))) (some (.c (.int .i64 7)))) 28 false,
.g 31 (.call 103 [(.t 30),(.c (.int .i64 1)),(.c (.int .i64 12))]) 28 false,
.g 32 (.un .not (.t 31)) 28 false,
.s 33 (.pick (.t 28) (.c (.bool true)) (.t 32))] [0,33])
(.cnd (.t 33)
(.seq
(.reg [
.s 2 (.mv (.c (.bool false)))] [2])
.ret)
.skip))
(.seq
(.drw [
((.s 34 (.mv (.t 0)),none),[]),
((.s 35 (.slS (.t 34) (some (.c (.int .i64 8))) none),none),[]),
((.s 36 (.mv (.t 0)),none),[]),
((.s 37 (.slS (.t 36) none (some (.c (.int .i64 2)))),none),[]),
((.s 40 (.mv (.t 0)),none),[]),
((.s 41 (.slS (.t 40) (some (.c (.int .i64 2))) (some (.c (.int .i64 4)))),none),[]),
((.s 44 (.mv (.t 0)),none),[]),
((.s 45 (.slS (.t 44) (some (.c (.int .i64 5))) (some (.c (.int .i64 7)))),none),[]),
((.s 38 (.call 102 [(.t 37)]),none),[]),
((.s 39 (.bin .mul none (.t 38) (.c (.int .i64 100))),none),[]),
((.s 42 (.call 102 [(.t 41)]),none),[]),
((.s 43 (.bin .add none (.t 39) (.t 42)),none),[]),
((.s 46 (.call 102 [(.t 45)]),none),[]),
((.s 47 (.call 104 [(.t 43),(.t 46)]),none),[]),
((.s 48 (.call 103 [(.t 35),(.c (.int .i64 1)),(.t 47)]),none),[]),
((.s 2 (.mv (.t 48)),none),[])] [2])
.ret))),
[.tmp 2]⟩
/-- emend/tree.clock -/
def F87 : DF := ⟨1,
(.seq
(.reg [
.s 2 (.mv (.c (.bool false)))] [0])
(.seq
(.seq
(.reg [
.s 4 (.mv (.t 0)),
.s 5 (.lenS (.t 4)),
.s 6 (.bin .lss none (.t 5) (.c (.int .i64 8))),
.s 7 (.mv (.t 6)),
.g 8 (.mv (.t 0)) 7 false,
.g 9 (.ixS (.t 8) (.c (.int .i64 2))) 7 false,
.g 10 (.bin .neq (some .int) (.t 9) (.c (.int .u8 58))) 7 false,
.s 11 (.pick (.t 7) (.c (.bool true)) (.t 10)),
.s 12 (.mv (.t 11)),
.g 13 (.mv (.t 0)) 12 false,
.g 14 (.ixS (.t 13) (.c (.int .i64 5))) 12 false,
.g 15 (.bin .neq (some .int) (.t 14) (.c (.int .u8 58))) 12 false,
.s 16 (.pick (.t 12) (.c (.bool true)) (.t 15)),
.s 17 (.mv (.t 16)),
.g 18 (.mv (.t 0)) 17 false,
.g 19 (.slS (.t 18) none (some (.c (.int .i64 2)))) 17 false,
.g 20 (.call 103 [(.t 19),(.c (.int .i64 0)),(.c (.int .i64 23))]) 17 false,
.g 21 (.un .not (.t 20)) 17 false,
.s 22 (.pick (.t 17) (.c (.bool true)) (.t 21)),
.s 23 (.mv (.t 22)),
.g 24 (.mv (.t 0)) 23 false,
.g 25 (.slS (.t 24) (some (.c (.int .i64 3))) (some (.c (.int .i64 5)))) 23 false,
.g 26 (.call 103 [(.t 25),(.c (.int .i64 0)),(.c (.int .i64 59))]) 23 false,
.g 27 (.un .not (.t 26)) 23 false,
.s 28 (.pick (.t 23) (.c (.bool true)) (.t 27)),
.s 29 (.mv (.t 28)),
.g 30 (.mv (.t 0)) 29 false,
.g 31 (.slS (.t 30) (some (.c (.int .i64 6))) (some (.c (.int .i64 8)))) 29 false,
.g 32 (.call 103 [(.t 31),(.c (.int .i64 0)),(.c (.int .i64 59))]) 29 false,
.g 33 (.un .not (.t 32)) 29 false,
.s 34 (.pick (.t 29) (.c (.bool true)) (.t 33))] [0,34])
(.cnd (.t 34)
(.seq
(.reg [
.s 2 (.mv (.c (.bool false)))] [2])
.ret)
.skip))
(.seq
(.seq
(.reg [
.s 35 (.mv (.t 0)),
.s 36 (.lenS (.t 35)),
.s 37 (.bin .eql (some .int) (.t 36) (.c (.int .i64 8)))] [0,37])
(.cnd (.t 37)
(.seq
(.reg [
.s 2 (.mv (.c (.bool true)))] [2])
.ret)
.skip))
(.seq
(.reg [
.s 38 (.mv (.t 0)),
.s 39 (.slS (.t 38) (some (.c (.int .i64 9))) none),
.s 3 (.mv (.t 39))] [0,3])
(.seq
(.reg [
.s 40 (.mv (.t 0)),
.s 41 (.ixS (.t 40) (.c (.int .i64 8))),
.s 42 (.bin .eql (some .int) (.t 41) (.c (.int .u8 46))),
.s 43 (.mv (.t 42)),
.g 44 (.mv (.t 3)) 43 true,
.g 45 (.lenS (.t 44)) 43 true,
.g 46 (.bin .geq none (.t 45) (.c (.int .i64 1))) 43 true,
.s 47 (.pick (.t 43) (.t 46) (.c (.bool false))),
.s 48 (.mv (.t 47)),
.g 49 (.mv (.t 3)) 48 true,
.g 50 (.lenS (.t 49)) 48 true,
.g 51 (.bin .leq none (.t 50) (.c (.int .i64 9))) 48 true,
.s 52 (.pick (.t 48) (.t 51) (.c (.bool false))),
.s 53 (.mv (.t 52)),
.g 54 (.mv (.t 3)) 53 true,
.g 55 (.call 105 [(.t 54),(.c (.str [48,49,50,51,52,53,54,55,56,57]))]) 53 true,
.g 56 (.bin .eql (some .str) (.t 55) (.c (.str []))) 53 true,
.s 57 (.pick (.t 53) (.t 56) (.c (.bool false))),
.s 2 (.mv (.t 57))] [2])
.ret))))),
[.tmp 2]⟩
/-- emend/tree.zone -/
def F88 : DF := ⟨1,
(.seq
(.reg [
.s 2 (.mv (.c (.str []))),
.s 3 (.mv (.c (.str [])))] [0])
(.seq
(.seq
(.reg [
.s 5 (.mv (.t 0)),
.s 6 (.call 106 [(.t 5),(.c (.str [90]))])] [0,6])
(.cnd (.t 6)
(.seq
(.reg [
.s 7 (.mv (.t 0)),
.s 8 (.mv (.t 0)),
.s 9 (.lenS (.t 8)),
.s 10 (.bin .sub none (.t 9) (.c (.int .i64 1))),
.s 11 (.slS (.t 7) none (some (.t 10))),
.s 2 (.mv (.t 11)),
.s 3 (.mv (.c (.str [90])))] [2,3])
.ret)
.skip))
(.seq
(.seq
(.reg [
.s 12 (.mv (.t 0)),
.s 13 (.lenS (.t 12)),
.s 14 (.bin .lss none (.t 13) (.c (.int .i64 6))),
.s 15 (.mv (.t 14)),
.g 16 (.mv (.t 0)) 15 false,
.g 17 (.mv (.t 0)) 15 false,
.g 18 (.lenS (.t 17)) 15 false,
.g 19 (.bin .sub none (.t 18) (.c (.int .i64 6))) 15 false,
.g 20 (.ixS (.t 16) (.t 19)) 15 false,
.g 21 (.bin .neq (some .int) (.t 20) (.c (.int .u8 43))) 15 false,
.g 22 (.mv (.t 21)) 15 false,
.g 23 (.mv (.t 0)) 22 true,
.g 24 (.mv (.t 0)) 22 true,
.g 25 (.lenS (.t 24)) 22 true,
.g 26 (.bin .sub none (.t 25) (.c (.int .i64 6))) 22 true,
.g 27 (.ixS (.t 23) (.t 26)) 22 true,
.g 28 (.bin .neq (some .int) (.t 27) (.c (.int .u8 45))) 22 true,
.g 29 (.pick (.t 22) (.t 28) (.c (.bool false))) 15 false,
.s 30 (.pick (.t 15) (.c (.bool true)) (.t 29))] [0,30])
(.cnd (.t 30)
(.seq
(.reg [
.s 31 (.mv (.t 0)),
.s 2 (.mv (.t 31)),
.s 3 (.mv (.c (.str [])))] [2,3])
.ret)
.skip))
(.seq
(.reg [
.s 32 (.mv (.t 0)),
.s 33 (.mv (.t 0)),
.s 34 (.lenS (.t 33)),
.s 35 (.bin .sub none (.t 34) (.c (.int .i64 6))),
.s 36 (.slS (.t 32) (some (.t 35)) none),
.s 4 (.mv (.t 36))] [0,4])
(.seq
(.seq
(.reg [
.s 37 (.mv (.t 4)),
.s 38 (.ixS (.t 37) (.c (.int .i64 3))),
.s 39 (.bin .neq (some .int) (.t 38) (.c (.int .u8 58))),
.s 40 (.mv (.t 39)),
.g 41 (.mv (.t 4)) 40 false,
.g 42 (.slS (.t 41) (some (.c (.int .i64 1))) (some (.c (.int .i64 3)))) 40 false,
.g 43 (.call 103 [(.t 42),(.c (.int .i64 0)),(.c (.int .i64 23))]) 40 false,
.g 44 (.un .not (.t 43)) 40 false,
.s 45 (.pick (.t 40) (.c (.bool true)) (.t 44)),
.s 46 (.mv (.t 45)),
.g 47 (.mv (.t 4)) 46 false,
.g 48 (.slS (.t 47) (some (.c (.int .i64 4))) none) 46 false,
.g 49 (.call 103 [(.t 48),(.c (.int .i64 0)),(.c (.int .i64 59))]) 46 false,
.g 50 (.un .not (.t 49)) 46 false,
.s 51 (.pick (.t 46) (.c (.bool true)) (.t 50))] [0,4,51])
(.cnd (.t 51)
(.seq
(.reg [
.s 52 (.mv (.t 0)),
.s 2 (.mv (.t 52)),
.s 3 (.mv (.c (.str [])))] [2,3])
.ret)
.skip))
(.seq
(.reg [
.s 53 (.mv (.t 0)),
.s 54 (.mv (.t 0)),
.s 55 (.lenS (.t 54)),
.s 56 (.bin .sub none (.t 55) (.c (.int .i64 6))),
.s 57 (.slS (.t 53) none (some (.t 56))),
.s 58 (.mv (.t 4)),
.s 2 (.mv (.t 57)),
.s 3 (.mv (.t 58))] [2,3])
.ret)))))),
[.tmp 2,.tmp 3]⟩
/-- strings.Cut -/
def F89 : DF := ⟨2,
(.seq
(.reg [
.s 4 (.mv (.c (.str []))),
.s 5 (.mv (.c (.str []))),
.s 6 (.mv (.c (.bool false)))] [0,1])
(.seq
(.reg [
.s 7 (.mv (.t 0)),
.s 8 (.mv (.t 1)),
.s 9 (.call 107 [(.t 7),(.t 8)]),
.s 10 (.ext (.t 9) 0),
.s 11 (.ext (.t 9) 1),
.s 12 (.ext (.t 9) 2),
.s 4 (.mv (.t 10)),
.s 5 (.mv (.t 11)),
.s 6 (.mv (.t 12))] [4,5,6])
.ret)),
[.tmp 4,.tmp 5,.tmp 6]⟩
/-- slices.stableCmpFunc[int] -/
def F90 : DF := ⟨3,
(.seq
(.reg [
.s 6 (.mv (.c (.int .i64 20)))] [0,1,2,6])
(.seq
(.reg [
.s 10 (.mv (.t 6)),
.s 7 (.mv (.c (.int .i64 0))),
.s 8 (.mv (.t 10))] [0,1,2,6,7,8])
(.seq
(.blk 0
(.seq
(.trim [0,1,2,6,7,8])
(.lop
(.seq
(.seq
(.seq
(.reg [
.s 11 (.mv (.t 8)),
.s 12 (.mv (.t 1)),
.s 13 (.bin .leq none (.t 11) (.t 12))] [0,1,2,6,7,8,13])
(.cnd (.t 13)
.skip
(.exit 0)))
(.blk 1
(.seq
(.reg [
.s 14 (.mv (.t 0)),
.s 15 (.mv (.t 7)),
.s 16 (.mv (.t 8)),
.s 17 (.mv (.t 2)),
.s 18 (.call 108 [(.t 14),(.t 15),(.t 16),(.t 17)])] [0,1,2,6,8])
(.seq
(.reg [
.s 19 (.mv (.t 8)),
.s 7 (.mv (.t 19))] [0,1,2,6,7,8])
(.reg [
.s 20 (.mv (.t 8)),
.s 21 (.mv (.t 6)),
.s 22 (.bin .add none (.t 20) (.t 21)),
.s 8 (.mv (.t 22))] [0,1,2,6,7,8])))))
(.trim [0,1,2,6,7,8])))))
(.seq
(.reg [
.s 23 (.mv (.t 0)),
.s 24 (.mv (.t 7)),
.s 25 (.mv (.t 1)),
.s 26 (.mv (.t 2)),
.s 27 (.call 108 [(.t 23),(.t 24),(.t 25),(.t 26)])] [0,1,2,6])
(.blk 2
(.seq
(.trim [0,1,2,6])
(.lop
(.seq
(.seq
(.seq
(.reg [
.s 28 (.mv (.t 6)),
.s 29 (.mv (.t 1)),
.s 30 (.bin .lss none (.t 28) (.t 29))] [0,1,2,6,30])
(.cnd (.t 30)
.skip
(.exit 2)))
(.blk 3
(.seq
(.reg [
.s 31 (.mv (.t 6)),
.s 32 (.bin .mul none (.c (.int .i64 2)) (.t 31)),
.s 7 (.mv (.c (.int .i64 0))),
.s 8 (.mv (.t 32))] [0,1,2,6,7,8])
(.seq
(.blk 4
(.seq
(.trim [0,1,2,6,7,8])
(.lop
(.seq
(.seq
(.seq
(.reg [
.s 33 (.mv (.t 8)),
.s 34 (.mv (.t 1)),
.s 35 (.bin .leq none (.t 33) (.t 34))] [0,1,2,6,7,8,35])
(.cnd (.t 35)
.skip
(.exit 4)))
(.blk 5
(.seq
(.reg [
.s 36 (.mv (.t 0)),
.s 37 (.mv (.t 7)),
.s 38 (.mv (.t 7)),
.s 39 (.mv (.t 6)),
.s 40 (.bin .add none (.t 38) (.t 39)),
.s 41 (.mv (.t 8)),
.s 42 (.mv (.t 2)),
.s 43 (.call 109 [(.t 36),(.t 37),(.t 40),(.t 41),(.t 42)])] [0,1,2,6,8])
(.seq
(.reg [
.s 44 (.mv (.t 8)),
.s 7 (.mv (.t 44))] [0,1,2,6,7,8])
(.reg [
.s 45 (.mv (.t 8)),
.s 46 (.mv (.t 6)),
.s 47 (.bin .mul none (.c (.int .i64 2)) (.t 46)),
.s 48 (.bin .add none (.t 45) (.t 47)),
.s 8 (.mv (.t 48))] [0,1,2,6,7,8])))))
(.trim [0,1,2,6,7,8])))))
(.seq
(.seq
(.reg [
.s 49 (.mv (.t 7)),
.s 50 (.mv (.t 6)),
.s 51 (.bin .add none (.t 49) (.t 50)),
.s 9 (.mv (.t 51))] [0,1,2,6,7,9])
(.seq
(.reg [
.s 52 (.mv (.t 9)),
.s 53 (.mv (.t 1)),
.s 54 (.bin .lss none (.t 52) (.t 53))] [0,1,2,6,7,9,54])
(.cnd (.t 54)
(.reg [
.s 55 (.mv (.t 0)),
.s 56 (.mv (.t 7)),
.s 57 (.mv (.t 9)),
.s 58 (.mv (.t 1)),
.s 59 (.mv (.t 2)),
.s 60 (.call 109 [(.t 55),(.t 56),(.t 57),(.t 58),(.t 59)])] [0,1,2,6])
.skip)))
(.reg [
.s 61 (.mv (.t 6)),
.s 62 (.bin .mul none (.t 61) (.c (.int .i64 2))),
.s 6 (.mv (.t 62))] [0,1,2,6]))))))
(.trim [0,1,2,6]))))))))),
[]⟩
/-- internal/bytealg.CompareString -/
def F91 : DF := ⟨2,
(.seq
(.reg [
.s 4 (.mv (.c (.int .i64 0)))] [0,1])
(.seq
(.reg [
.s 5 (.mv (.t 0)),
.s 6 (.mv (.t 1)),
.s 7 (.xtn .compare [(.t 5),(.t 6)]),
.s 4 (.mv (.t 7))] [4])
.ret)),
[.tmp 4]⟩
/-- emend/text.First -/
def F92 : DF := ⟨1,
(.seq
(.reg [
.s 2 (.mv (.c (.int .i64 0))),
.s 3 (.mv (.c (.int .i64 0)))] [0])
(.seq
(.seq
(.reg [
.s 6 (.mv (.t 0)),
.s 7 (.bin .eql (some .str) (.t 6) (.c (.str [])))] [0,7])
(.cnd (.t 7)
(.seq
(.reg [
.s 2 (.mv (.c (.int .i64 0))),
.s 3 (.mv (.c (.int .i64 0)))] [2,3])
.ret)
.skip))
(.seq
(.reg [
.s 9 (.mv (.t 0)),
.s 10 (.ixS (.t 9) (.c (.int .i64 0))),
.s 11 (.call 111 [(.t 10)]),
.s 8 (.mv (.t 11)),
.s 12 (.ext (.t 8) 0),
.s 13 (.ext (.t 8) 1),
.s 14 (.ext (.t 8) 2),
.s 3 (.mv (.t 12)),
.s 2 (.mv (.t 13)),
.s 4 (.mv (.t 14))] [0,2,3,4])
(.seq
(.seq
(.reg [
.s 15 (.mv (.t 3)),
.s 16 (.bin .eql (some .int) (.t 15) (.c (.int .i64 0))),
.s 17 (.mv (.t 16)),
.g 18 (.mv (.t 3)) 17 false,
.g 19 (.mv (.t 0)) 17 false,
.g 20 (.lenS (.t 19)) 17 false,
.g 21 (.bin .gtr none (.t 18) (.t 20)) 17 false,
.s 22 (.pick (.t 17) (.c (.bool true)) (.t 21))] [0,2,3,4,22])
(.cnd (.t 22)
(.seq
(.reg [
.s 2 (.mv (.c (.int .i64 0))),
.s 3 (.mv (.c (.int .i64 0)))] [2,3])
.ret)
.skip))
(.seq
(.seq
(.reg [
.s 5 (.mv (.c (.int .i64 1)))] [0,2,3,4,5])
(.blk 0
(.seq
(.trim [0,2,3,4,5])
(.lop
(.seq
(.seq
(.seq
(.reg [
.s 23 (.mv (.t 5)),
.s 24 (.mv (.t 3)),
.s 25 (.bin .lss none (.t 23) (.t 24))] [0,2,3,4,5,25])
(.cnd (.t 25)
.skip
(.exit 0)))
(.seq
(.blk 1
(.seq
(.seq
(.reg [
.s 28 (.mv (.t 0)),
.s 29 (.mv (.t 5)),
.s 30 (.ixS (.t 28) (.t 29)),
.s 31 (.bin .shr none (.t 30) (.c (.int .u64 6))),
.s 32 (.bin .neq (some .int) (.t 31) (.c (.int .u8 2)))] [0,2,3,4,5,32])
(.cnd (.t 32)
(.seq
(.reg [
.s 2 (.mv (.c (.int .i64 0))),
.s 3 (.mv (.c (.int .i64 0)))] [2,3])
.ret)
.skip))
(.reg [
.s 33 (.mv (.t 2)),
.s 34 (.bin .shl none (.t 33) (.c (.int .u64 6))),
.s 35 (.mv (.t 0)),
.s 36 (.mv (.t 5)),
.s 37 (.ixS (.t 35) (.t 36)),
.s 38 (.bin .and none (.t 37) (.c (.int .u8 63))),
.s 39 (.cvI .i64 (.t 38)),
.s 40 (.bin .or none (.t 34) (.t 39)),
.s 2 (.mv (.t 40))] [0,2,3,4,5])))
(.reg [
.s 26 (.mv (.t 5)),
.s 27 (.bin .add none (.t 26) (.c (.int .i64 1))),
.s 5 (.mv (.t 27))] [0,2,3,4,5])))
(.trim [0,2,3,4,5]))))))
(.seq
(.seq
(.reg [
.s 41 (.mv (.t 2)),
.s 42 (.mv (.t 4)),
.s 43 (.bin .lss none (.t 41) (.t 42)),
.s 44 (.mv (.t 43)),
.g 45 (.mv (.t 2)) 44 false,
.g 46 (.call 112 [(.t 45)]) 44 false,
.g 47 (.un .not (.t 46)) 44 false,
.s 48 (.pick (.t 44) (.c (.bool true)) (.t 47))] [2,3,48])
(.cnd (.t 48)
(.seq
(.reg [
.s 2 (.mv (.c (.int .i64 0))),
.s 3 (.mv (.c (.int .i64 0)))] [2,3])
.ret)
.skip))
(.seq
(.reg [
.s 49 (.mv (.t 2)),
.s 50 (.mv (.t 3)),
.s 2 (.mv (.t 49)),
.s 3 (.mv (.t 50))] [2,3])
.ret))))))),
[.tmp 2,.tmp 3]⟩
/-- emend/num.cut -/
def F96 : DF := ⟨1,
(.seq
(.reg [
.s 2 (.mv (.c (.bool false))),
.s 3 (.mv (.c (.str []))),
.s 4 (.mv (.c (.str []))),
.s 5 (.mv (.c (.str []))),
.s 6 (.mv (.c (.bool false)))] [0,4])
(.seq
(.reg [
.s 10 (.mv (.t 0)),
.s 7 (.mv (.t 10))] [4,7])
(.seq
(.seq
(.reg [
.s 11 (.mv (.t 7)),
.s 12 (.call 119 [(.t 11),(.c (.str [45]))]),
.s 2 (.mv (.t 12))] [2,4,7])
(.seq
(.reg [
.s 13 (.mv (.t 2))] [2,4,7,13])
(.cnd (.t 13)
(.reg [
.s 14 (.mv (.t 7)),
.s 15 (.slS (.t 14) (some (.c (.int .i64 1))) none),
.s 7 (.mv (.t 15))] [2,4,7])
.skip)))
(.seq
(.reg [
.s 16 (.mv (.t 7)),
.s 17 (.call 100 [(.t 16)]),
.s 8 (.mv (.t 17))] [2,4,7,8])
(.seq
(.seq
(.reg [
.s 18 (.mv (.t 8)),
.s 19 (.bin .eql (some .int) (.t 18) (.c (.int .i64 0))),
.s 20 (.mv (.t 19)),
.g 21 (.mv (.t 8)) 20 false,
.g 22 (.bin .gtr none (.t 21) (.c (.int .i64 1))) 20 false,
.g 23 (.mv (.t 22)) 20 false,
.g 24 (.mv (.t 7)) 23 true,
.g 25 (.ixS (.t 24) (.c (.int .i64 0))) 23 true,
.g 26 (.bin .eql (some .int) (.t 25) (.c (.int .u8 48))) 23 true,
.g 27 (.pick (.t 23) (.t 26) (.c (.bool false))) 20 false,
.s 28 (.pick (.t 20) (.c (.bool true)) (.t 27))] [2,4,7,8,28])
(.cnd (.t 28)
(.seq
(.reg [
.s 2 (.mv (.c (.bool false))),
.s 3 (.mv (.c (.str []))),
.s 4 (.mv (.c (.str []))),
.s 5 (.mv (.c (.str []))),
.s 6 (.mv (.c (.bool false)))] [2,3,4,5,6])
.ret)
.skip))
(.seq
(.drw [
((.s 29 (.mv (.t 7)),none),[]),
((.s 30 (.mv (.t 8)),none),[]),
((.s 31 (.slS (.t 29) none (some (.t 30))),none),[]),
((.s 32 (.mv (.t 7)),none),[]),
((.s 33 (.mv (.t 8)),none),[]),
((.s 34 (.slS (.t 32) (some (.t 33)) none),none),[]),
((.s 3 (.mv (.t 31)),none),[]),
((.s 7 (.mv (.t 34)),none),[])] [2,3,4,7])
(.seq
(.seq
(.reg [
.s 35 (.mv (.t 7)),
.s 36 (.call 119 [(.t 35),(.c (.str [46]))])] [2,3,4,7,36])
(.cnd (.t 36)
(.seq
(.seq
(.reg [
.s 37 (.mv (.t 7)),
.s 38 (.slS (.t 37) (some (.c (.int .i64 1))) none),
.s 39 (.call 100 [(.t 38)]),
.s 8 (.mv (.t 39))] [2,3,7,8])
(.seq
(.reg [
.s 40 (.mv (.t 8)),
.s 41 (.bin .eql (some .int) (.t 40) (.c (.int .i64 0)))] [2,3,7,8,41])
(.cnd (.t 41)
(.seq
(.reg [
.s 2 (.mv (.c (.bool false))),
.s 3 (.mv (.c (.str []))),
.s 4 (.mv (.c (.str []))),
.s 5 (.mv (.c (.str []))),
.s 6 (.mv (.c (.bool false)))] [2,3,4,5,6])
.ret)
.skip)))
(.drw [
((.s 42 (.mv (.t 7)),none),[]),
((.s 43 (.mv (.t 8)),none),[]),
((.s 44 (.bin .add none (.c (.int .i64 1)) (.t 43)),none),[]),
((.s 45 (.slS (.t 42) (some (.c (.int .i64 1))) (some (.t 44))),none),[]),
((.s 46 (.mv (.t 7)),none),[]),
((.s 47 (.mv (.t 8)),none),[]),
((.s 48 (.bin .add none (.c (.int .i64 1)) (.t 47)),none),[]),
((.s 49 (.slS (.t 46) (some (.t 48)) none),none),[]),
((.s 4 (.mv (.t 45)),none),[]),
((.s 7 (.mv (.t 49)),none),[])] [2,3,4,7]))
.skip))
(.seq
(.seq
(.reg [
.s 50 (.mv (.t 7)),
.s 51 (.bin .eql (some .str) (.t 50) (.c (.str [])))] [2,3,4,7,51])
(.cnd (.t 51)
(.seq
(.reg [
.s 52 (.mv (.t 2)),
.s 53 (.mv (.t 3)),
.s 54 (.mv (.t 4)),
.s 2 (.mv (.t 52)),
.s 3 (.mv (.t 53)),
.s 4 (.mv (.t 54)),
.s 5 (.mv (.c (.str []))),
.s 6 (.mv (.c (.bool true)))] [2,3,4,5,6])
.ret)
.skip))
(.seq
(.seq
(.reg [
.s 55 (.mv (.t 7)),
.s 56 (.ixS (.t 55) (.c (.int .i64 0))),
.s 57 (.bin .neq (some .int) (.t 56) (.c (.int .u8 101))),
.s 58 (.mv (.t 57)),
.g 59 (.mv (.t 7)) 58 true,
.g 60 (.ixS (.t 59) (.c (.int .i64 0))) 58 true,
.g 61 (.bin .neq (some .int) (.t 60) (.c (.int .u8 69))) 58 true,
.s 62 (.pick (.t 58) (.t 61) (.c (.bool false)))] [2,3,4,7,62])
(.cnd (.t 62)
(.seq
(.reg [
.s 2 (.mv (.c (.bool false))),
.s 3 (.mv (.c (.str []))),
.s 4 (.mv (.c (.str []))),
.s 5 (.mv (.c (.str []))),
.s 6 (.mv (.c (.bool false)))] [2,3,4,5,6])
.ret)
.skip))
(.seq
(.reg [
.s 63 (.mv (.t 7)),
.s 64 (.slS (.t 63) (some (.c (.int .i64 1))) none),
.s 5 (.mv (.t 64))] [2,3,4,5])
(.seq
(.reg [
.s 65 (.mv (.t 5)),
.s 66 (.call 120 [(.t 65),(.c (.str [45]))]),
.s 9 (.mv (.t 66))] [2,3,4,5,9])
(.seq
(.seq
(.reg [
.s 67 (.mv (.t 9)),
.s 68 (.mv (.t 5)),
.s 69 (.bin .eql (some .str) (.t 67) (.t 68))] [2,3,4,5,9,69])
(.cnd (.t 69)
(.reg [
.s 70 (.mv (.t 5)),
.s 71 (.call 120 [(.t 70),(.c (.str [43]))]),
.s 9 (.mv (.t 71))] [2,3,4,5,9])
.skip))
(.seq
(.seq
(.reg [
.s 72 (.mv (.t 9)),
.s 73 (.bin .eql (some .str) (.t 72) (.c (.str []))),
.s 74 (.mv (.t 73)),
.g 75 (.mv (.t 9)) 74 false,
.g 76 (.call 100 [(.t 75)]) 74 false,
.g 77 (.mv (.t 9)) 74 false,
.g 78 (.lenS (.t 77)) 74 false,
.g 79 (.bin .lss none (.t 76) (.t 78)) 74 false,
.s 80 (.pick (.t 74) (.c (.bool true)) (.t 79))] [2,3,4,5,80])
(.cnd (.t 80)
(.seq
(.reg [
.s 2 (.mv (.c (.bool false))),
.s 3 (.mv (.c (.str []))),
.s 4 (.mv (.c (.str []))),
.s 5 (.mv (.c (.str []))),
.s 6 (.mv (.c (.bool false)))] [2,3,4,5,6])
.ret)
.skip))
(.seq
(.reg [
.s 81 (.mv (.t 2)),
.s 82 (.mv (.t 3)),
.s 83 (.mv (.t 4)),
.s 84 (.mv (.t 5)),
.s 2 (.mv (.t 81)),
.s 3 (.mv (.t 82)),
.s 4 (.mv (.t 83)),
.s 5 (.mv (.t 84)),
.s 6 (.mv (.c (.bool true)))] [2,3,4,5,6])
.ret)))))))))))))),
[.tmp 2,.tmp 3,.tmp 4,.tmp 5,.tmp 6]⟩
/-- emend/num.exponent -/
def F97 : DF := ⟨1,
(.seq
(.reg [
.s 2 (.mv (.c (.int .i64 0))),
.s 3 (.mv (.c (.bool false)))] [0])
(.seq
(.reg [
.s 7 (.mv (.t 0)),
.s 8 (.call 119 [(.t 7),(.c (.str [45]))]),
.s 4 (.mv (.t 8))] [0,4])
(.seq
(.reg [
.s 9 (.mv (.t 0)),
.s 10 (.call 98 [(.t 9),(.c (.str [43,45]))]),
.s 11 (.call 98 [(.t 10),(.c (.str [48]))]),
.s 0 (.mv (.t 11))] [0,4])
(.seq
(.seq
(.reg [
.s 12 (.mv (.t 0)),
.s 13 (.lenS (.t 12)),
.s 14 (.bin .gtr none (.t 13) (.c (.int .i64 6)))] [0,4,14])
(.cnd (.t 14)
(.seq
(.reg [
.s 2 (.mv (.c (.int .i64 0))),
.s 3 (.mv (.c (.bool false)))] [2,3])
.ret)
.skip))
(.seq
(.reg [
.s 16 (.mv (.t 0)),
.s 17 (.bin .add none (.c (.str [48])) (.t 16)),
.s 18 (.call 121 [(.t 17)]),
.s 15 (.mv (.t 18)),
.s 19 (.ext (.t 15) 0),
.s 20 (.ext (.t 15) 1),
.s 5 (.mv (.t 19)),
.s 6 (.mv (.t 20))] [4,5])
(.seq
(.seq
(.reg [
.s 21 (.mv (.t 4))] [5,21])
(.cnd (.t 21)
(.seq
(.reg [
.s 22 (.mv (.t 5)),
.s 23 (.un .neg (.t 22)),
.s 2 (.mv (.t 23)),
.s 3 (.mv (.c (.bool true)))] [2,3])
.ret)
.skip))
(.seq
(.reg [
.s 24 (.mv (.t 5)),
.s 2 (.mv (.t 24)),
.s 3 (.mv (.c (.bool true)))] [2,3])
.ret))))))),
[.tmp 2,.tmp 3]⟩
/-- strings.TrimLeft -/
def F98 : DF := ⟨2,
(.seq
(.reg [
.s 4 (.mv (.c (.str [])))] [0,1])
(.seq
(.seq
(.reg [
.s 7 (.mv (.t 0)),
.s 8 (.bin .eql (some .str) (.t 7) (.c (.str []))),
.s 9 (.mv (.t 8)),
.g 10 (.mv (.t 1)) 9 false,
.g 11 (.bin .eql (some .str) (.t 10) (.c (.str []))) 9 false,
.s 12 (.pick (.t 9) (.c (.bool true)) (.t 11))] [0,1,12])
(.cnd (.t 12)
(.seq
(.reg [
.s 13 (.mv (.t 0)),
.s 4 (.mv (.t 13))] [4])
.ret)
.skip))
(.seq
(.seq
(.reg [
.s 14 (.mv (.t 1)),
.s 15 (.lenS (.t 14)),
.s 16 (.bin .eql (some .int) (.t 15) (.c (.int .i64 1))),
.s 17 (.mv (.t 16)),
.g 18 (.mv (.t 1)) 17 true,
.g 19 (.ixS (.t 18) (.c (.int .i64 0))) 17 true,
.g 20 (.bin .lss none (.t 19) (.c (.int .u8 128))) 17 true,
.s 21 (.pick (.t 17) (.t 20) (.c (.bool false)))] [0,1,21])
(.cnd (.t 21)
(.seq
(.reg [
.s 22 (.mv (.t 0)),
.s 23 (.mv (.t 1)),
.s 24 (.ixS (.t 23) (.c (.int .i64 0))),
.s 25 (.call 122 [(.t 22),(.t 24)]),
.s 4 (.mv (.t 25))] [4])
.ret)
.skip))
(.seq
(.seq
(.reg [
.s 27 (.mv (.t 1)),
.s 28 (.call 123 [(.t 27)]),
.s 26 (.mv (.t 28)),
.s 29 (.ext (.t 26) 0),
.s 30 (.ext (.t 26) 1),
.s 5 (.alH 141 [(.bool false),(.bool false),(.bool false),(.bool false),(.bool false),(.bool false),(.bool false),(.bool false),(.bool false),(.bool false),(.bool false),(.bool false),(.bool false),(.bool false),(.bool false),(.bool false),(.bool false),(.bool false),(.bool false),(.bool false),(.bool false),(.bool false),(.bool false),(.bool false),(.bool false),(.bool false),(.bool false),(.bool false),(.bool false),(.bool false),(.bool false),(.bool false),(.bool false),(.bool false),(.bool false),(.bool false),(.bool false),(.bool false),(.bool false),(.bool false),(.bool false),(.bool false),(.bool false),(.bool false),(.bool false),(.bool false),(.bool false),(.bool false),(.bool false),(.bool false),(.bool false),(.bool false),(.bool false),(.bool false),(.bool false),(.bool false),(.bool false),(.bool false),(.bool false),(.bool false),(.bool false),(.bool false),(.bool false),(.bool false),(.bool false),(.bool false),(.bool false),(.bool false),(.bool false),(.bool false),(.bool false),(.bool false),(.bool false),(.bool false),(.bool false),(.bool false),(.bool false),(.bool false),(.bool false),(.bool false),(.bool false),(.bool false),(.bool false),(.bool false),(.bool false),(.bool false),(.bool false),(.bool false),(.bool false),(.bool false),(.bool false),(.bool false),(.bool false),(.bool false),(.bool false),(.bool false),(.bool false),(.bool false),(.bool false),(.bool false),(.bool false),(.bool false),(.bool false),(.bool false),(.bool false),(.bool false),(.bool false),(.bool false),(.bool false),(.bool false),(.bool false),(.bool false),(.bool false),(.bool false),(.bool false),(.bool false),(.bool false),(.bool false),(.bool false),(.bool false),(.bool false),(.bool false),(.bool false),(.bool false),(.bool false),(.bool false),(.bool false),(.bool false),(.bool false),(.bool false),(.bool false),(.bool false),(.bool false),(.bool false),(.bool false),(.bool false),(.bool false),(.bool false),(.bool false),(.bool false),(.bool false),(.bool false),(.bool false),(.bool false),(.bool false),(.bool false),(.bool false),(.bool false),(.bool false),(.bool false),(.bool false),(.bool false),(.bool false),(.bool false),(.bool false),(.bool false),(.bool false),(.bool false),(.bool false),(.bool false),(.bool false),(.bool false),(.bool false),(.bool false),(.bool false),(.bool false),(.bool false),(.bool false),(.bool false),(.bool false),(.bool false),(.bool false),(.bool false),(.bool false),(.bool false),(.bool false),(.bool false),(.bool false),(.bool false),(.bool false),(.bool false),(.bool false),(.bool false),(.bool false),(.bool false),(.bool false),(.bool false),(.bool false),(.bool false),(.bool false),(.bool false),(.bool false),(.bool false),(.bool false),(.bool false),(.bool false),(.bool false),(.bool false),(.bool false),(.bool false),(.bool false),(.bool false),(.bool false),(.bool false),(.bool false),(.bool false),(.bool false),(.bool false),(.bool false),(.bool false),(.bool false),(.bool false),(.bool false),(.bool false),(.bool false),(.bool false),(.bool false),(.bool false),(.bool false),(.bool false),(.bool false),(.bool false),(.bool false),(.bool false),(.bool false),(.bool false),(.bool false),(.bool false),(.bool false),(.bool false),(.bool false),(.bool false),(.bool false),(.bool false),(.bool false),(.bool false),(.bool false),(.bool false),(.bool false),(.bool false),(.bool false),(.bool false),(.bool false),(.bool false),(.bool false),(.bool false),(.bool false),(.bool false),(.bool false),(.bool false),(.bool false),(.bool false),(.bool false),(.bool false),(.bool false),(.bool false)]),
.n (.st 256 (.t 5) (.t 29)),
.s 6 (.mv (.t 30))] [0,1,5,6])
(.seq
(.reg [
.s 31 (.mv (.t 6))] [0,1,5,31])
(.cnd (.t 31)
(.seq
(.reg [
.s 32 (.mv (.t 0)),
.s 33 (.call 124 [(.t 32),(.t 5)]),
.s 4 (.mv (.t 33))] [4])
.ret)
.skip)))
(.seq
(.reg [
.s 34 (.mv (.t 0)),
.s 35 (.mv (.t 1)),
.s 36 (.call 125 [(.t 34),(.t 35)]),
.s 4 (.mv (.t 36))] [4])
.ret))))),
[.tmp 4]⟩
/-- strings.TrimRight -/
def F99 : DF := ⟨2,
(.seq
(.reg [
.s 4 (.mv (.c (.str [])))] [0,1])
(.seq
(.seq
(.reg [
.s 7 (.mv (.t 0)),
.s 8 (.bin .eql (some .str) (.t 7) (.c (.str []))),
.s 9 (.mv (.t 8)),
.g 10 (.mv (.t 1)) 9 false,
.g 11 (.bin .eql (some .str) (.t 10) (.c (.str []))) 9 false,
.s 12 (.pick (.t 9) (.c (.bool true)) (.t 11))] [0,1,12])
(.cnd (.t 12)
(.seq
(.reg [
.s 13 (.mv (.t 0)),
.s 4 (.mv (.t 13))] [4])
.ret)
.skip))
(.seq
(.seq
(.reg [
.s 14 (.mv (.t 1)),
.s 15 (.lenS (.t 14)),
.s 16 (.bin .eql (some .int) (.t 15) (.c (.int .i64 1))),
.s 17 (.mv (.t 16)),
.g 18 (.mv (.t 1)) 17 true,
.g 19 (.ixS (.t 18) (.c (.int .i64 0))) 17 true,
.g 20 (.bin .lss none (.t 19) (.c (.int .u8 128))) 17 true,
.s 21 (.pick (.t 17) (.t 20) (.c (.bool false)))] [0,1,21])
(.cnd (.t 21)
(.seq
(.reg [
.s 22 (.mv (.t 0)),
.s 23 (.mv (.t 1)),
.s 24 (.ixS (.t 23) (.c (.int .i64 0))),
.s 25 (.call 126 [(.t 22),(.t 24)]),
.s 4 (.mv (.t 25))] [4])
.ret)
.skip))
(.seq
(.seq
(.reg [
.s 27 (.mv (.t 1)),
.s 28 (.call 123 [(.t 27)]),
.s 26 (.mv (.t 28)),
.s 29 (.ext (.t 26) 0),
.s 30 (.ext (.t 26) 1),
.s 5 (.alH 141 [(.bool false),(.bool false),(.bool false),(.bool false),(.bool false),(.bool false),(.bool false),(.bool false),(.bool false),(.bool false),(.bool false),(.bool false),(.bool false),(.bool false),(.bool false),(.bool false),(.bool false),(.bool false),(.bool false),(.bool false),(.bool false),(.bool false),(.bool false),(.bool false),(.bool false),(.bool false),(.bool false),(.bool false),(.bool false),(.bool false),(.bool false),(.bool false),(.bool false),(.bool false),(.bool false),(.bool false),(.bool false),(.bool false),(.bool false),(.bool false),(.bool false),(.bool false),(.bool false),(.bool false),(.bool false),(.bool false),(.bool false),(.bool false),(.bool false),(.bool false),(.bool false),(.bool false),(.bool false),(.bool false),(.bool false),(.bool false),(.bool false),(.bool false),(.bool false),(.bool false),(.bool false),(.bool false),(.bool false),(.bool false),(.bool false),(.bool false),(.bool false),(.bool false),(.bool false),(.bool false),(.bool false),(.bool false),(.bool false),(.bool false),(.bool false),(.bool false),(.bool false),(.bool false),(.bool false),(.bool false),(.bool false),(.bool false),(.bool false),(.bool false),(.bool false),(.bool false),(.bool false),(.bool false),(.bool false),(.bool false),(.bool false),(.bool false),(.bool false),(.bool false),(.bool false),(.bool false),(.bool false),(.bool false),(.bool false),(.bool false),(.bool false),(.bool false),(.bool false),(.bool false),(.bool false),(.bool false),(.bool false),(.bool false),(.bool false),(.bool false),(.bool false),(.bool false),(.bool false),(.bool false),(.bool false),(.bool false),(.bool false),(.bool false),(.bool false),(.bool false),(.bool false),(.bool false),(.bool false),(.bool false),(.bool false),(.bool false),(.bool false),(.bool false),(.bool false),(.bool false),(.bool false),(.bool false),(.bool false),(.bool false),(.bool false),(.bool false),(.bool false),(.bool false),(.bool false),(.bool false),(.bool false),(.bool false),(.bool false),(.bool false),(.bool false),(.bool false),(.bool false),(.bool false),(.bool false),(.bool false),(.bool false),(.bool false),(.bool false),(.bool false),(.bool false),(.bool false),(.bool false),(.bool false),(.bool false),(.bool false),(.bool false),(.bool false),(.bool false),(.bool false),(.bool false),(.bool false),(.bool false),(.bool false),(.bool false),(.bool false),(.bool false),(.bool false),(.bool false),(.bool false),(.bool false),(.bool false),(.bool false),(.bool false),(.bool false),(.bool false),(.bool false),(.bool false),(.bool false),(.bool false),(.bool false),(.bool false),(.bool false),(.bool false),(.bool false),(.bool false),(.bool false),(.bool false),(.bool false),(.bool false),(.bool false),(.bool false),(.bool false),(.bool false),(.bool false),(.bool false),(.bool false),(.bool false),(.bool false),(.bool false),(.bool false),(.bool false),(.bool false),(.bool false),(.bool false),(.bool false),(.bool false),(.bool false),(.bool false),(.bool false),(.bool false),(.bool false),(.bool false),(.bool false),(.bool false),(.bool false),(.bool false),(.bool false),(.bool false),(.bool false),(.bool false),(.bool false),(.bool false),(.bool false),(.bool false),(.bool false),(.bool false),(.bool false),(.bool false),(.bool false),(.bool false),(.bool false),(.bool false),(.bool false),(.bool false),(.bool false),(.bool false),(.bool false),(.bool false),(.bool false),(.bool false),(.bool false),(.bool false),(.bool false),(.bool false),(.bool false),(.bool false),(.bool false),(.bool false),(.bool false),(.bool false),(.bool false)]),
.n (.st 256 (.t 5) (.t 29)),
.s 6 (.mv (.t 30))] [0,1,5,6])
(.seq
(.reg [
.s 31 (.mv (.t 6))] [0,1,5,31])
(.cnd (.t 31)
(.seq
(.reg [
.s 32 (.mv (.t 0)),
.s 33 (.call 127 [(.t 32),(.t 5)]),
.s 4 (.mv (.t 33))] [4])
.ret)
.skip)))
(.seq
(.reg [
.s 34 (.mv (.t 0)),
.s 35 (.mv (.t 1)),
.s 36 (.call 128 [(.t 34),(.t 35)]),
.s 4 (.mv (.t 36))] [4])
.ret))))),
[.tmp 4]⟩
/-- emend/num.run -/
def F100 : DF := ⟨1,
(.seq
(.reg [
.s 2 (.mv (.c (.int .i64 0)))] [0])
(.seq
(.reg [
.s 3 (.mv (.c (.int .i64 0)))] [0,3])
(.seq
(.blk 0
(.seq
(.trim [0,3])
(.lop
(.seq
(.seq
(.seq
(.reg [
.s 4 (.mv (.t 3)),
.s 5 (.mv (.t 0)),
.s 6 (.lenS (.t 5)),
.s 7 (.bin .lss none (.t 4) (.t 6)),
.s 8 (.mv (.t 7)),
.g 9 (.mv (.t 0)) 8 true,
.g 10 (.mv (.t 3)) 8 true,
.g 11 (.ixS (.t 9) (.t 10)) 8 true,
.g 12 (.call 129 [(.t 11)]) 8 true,
.s 13 (.pick (.t 8) (.t 12) (.c (.bool false)))] [0,3,13])
(.cnd (.t 13)
.skip
(.exit 0)))
(.blk 1
(.reg [
.s 14 (.mv (.t 3)),
.s 15 (.bin .add none (.t 14) (.c (.int .i64 1))),
.s 3 (.mv (.t 15))] [0,3])))
(.trim [0,3])))))
(.seq
(.reg [
.s 16 (.mv (.t 3)),
.s 2 (.mv (.t 16))] [2])
.ret)))),
[.tmp 2]⟩
/-- strconv.Itoa -/
def F101 : DF := ⟨1,
(.seq
(.reg [
.s 2 (.mv (.c (.str [])))] [0])
(.seq
(.reg [
.s 3 (.mv (.t 0)),
.s 4 (.call 130 [(.t 3)]),
.s 2 (.mv (.t 4))] [2])
.ret)),
[.tmp 2]⟩
/-- emend/tree.two -/
def F102 : DF := ⟨1,
(.seq
(.reg [
.s 2 (.mv (.c (.int .i64 0)))] [0])
(.seq
(.seq
(.reg [
.s 3 (.mv (.t 0)),
.s 4 (.lenS (.t 3)),
.s 5 (.bin .neq (some .int) (.t 4) (.c (.int .i64 2))),
.s 6 (.mv (.t 5)),
.g 7 (.mv (.t 0)) 6 false,
.g 8 (.ixS (.t 7) (.c (.int .i64 0))) 6 false,
.g 9 (.bin .lss none (.t 8) (.c (.int .u8 48))) 6 false,
.s 10 (.pick (.t 6) (.c (.bool true)) (.t 9)),
.s 11 (.mv (.t 10)),
.g 12 (.mv (.t 0)) 11 false,
.g 13 (.ixS (.t 12) (.c (.int .i64 0))) 11 false,
.g 14 (.bin .gtr none (.t 13) (.c (.int .u8 57))) 11 false,
.s 15 (.pick (.t 11) (.c (.bool true)) (.t 14)),
.s 16 (.mv (.t 15)),
.g 17 (.mv (.t 0)) 16 false,
.g 18 (.ixS (.t 17) (.c (.int .i64 1))) 16 false,
.g 19 (.bin .lss none (.t 18) (.c (.int .u8 48))) 16 false,
.s 20 (.pick (.t 16) (.c (.bool true)) (.t 19)),
.s 21 (.mv (.t 20)),
.g 22 (.mv (.t 0)) 21 false,
.g 23 (.ixS (.t 22) (.c (.int .i64 1))) 21 false,
.g 24 (.bin .gtr none (.t 23) (.c (.int .u8 57))) 21 false,
.s 25 (.pick (.t 21) (.c (.bool true)) (.t 24))] [0,25])
(.cnd (.t 25)
(.seq
(.reg [
.s 2 (.mv (.c (.int .i64 (-1))))] [2])
.ret)
.skip))
(.seq
(.drw [
((.s 26 (.mv (.t 0)),none),[]),
((.s 27 (.ixS (.t 26) (.c (.int .i64 0))),none),[]),
((.s 28 (.bin .sub none (.t 27) (.c (.int .u8 48))),none),[]),
((.s 29 (.cvI .i64 (.t 28)),none),[]),
((.s 30 (.bin .mul none (.t 29) (.c (.int .i64 10))),none),[]),
((.s 31 (.mv (.t 0)),none),[]),
((.s 32 (.ixS (.t 31) (.c (.int .i64 1))),none),[]),
((.s 33 (.bin .sub none (.t 32) (.c (.int .u8 48))),none),[]),
((.s 34 (.cvI .i64 (.t 33)),none),[]),
((.s 35 (.bin .add none (.t 30) (.t 34)),none),[]),
((.s 2 (.mv (.t 35)),none),[])] [2])
.ret))),
[.tmp 2]⟩
/-- emend/tree.within -/
def F103 : DF := ⟨3,
(.seq
(.reg [
.s 6 (.mv (.c (.bool false)))] [0,1,2])
(.seq
(.reg [
.s 7 (.mv (.t 0)),
.s 8 (.call 102 [(.t 7)]),
.s 9 (.mv (.t 1)),
.s 10 (.bin .geq none (.t 8) (.t 9)),
.s 11 (.mv (.t 10)),
.g 12 (.mv (.t 0)) 11 true,
.g 13 (.call 102 [(.t 12)]) 11 true,
.g 14 (.mv (.t 2)) 11 true,
.g 15 (.bin .leq none (.t 13) (.t 14)) 11 true,
.s 16 (.pick (.t 11) (.t 15) (.c (.bool false))),
.s 6 (.mv (.t 16))] [6])
.ret)),
[.tmp 6]⟩
/-- emend/tree.days -/
def F104 : DF := ⟨2,
(.seq
(.reg [
.s 4 (.mv (.c (.int .i64 0)))] [0,1])
(.seq
(.seq
(.reg [
.s 5 (.mv (.t 1))] [0,5])
(.blk 0
(.seq
(.seq
(.reg [
.s 7 (.bin .eql (some .int) (.t 5) (.c (.int .i64 4))),
.s 6 (.mv (.t 7))] [0,5,6])
(.cnd (.t 6)
.skip
(.seq
(.reg [
.s 8 (.bin .eql (some .int) (.t 5) (.c (.int .i64 6))),
.s 6 (.mv (.t 8))] [0,5,6])
(.cnd (.t 6)
.skip
(.seq
(.reg [
.s 9 (.bin .eql (some .int) (.t 5) (.c (.int .i64 9))),
.s 6 (.mv (.t 9))] [0,5,6])
(.cnd (.t 6)
.skip
(.reg [
.s 10 (.bin .eql (some .int) (.t 5) (.c (.int .i64 11))),
.s 6 (.mv (.t 10))] [0,5,6])))))))
(.cnd (.t 6)
(.seq
(.reg [
.s 4 (.mv (.c (.int .i64 30)))] [4])
.ret)
(.seq
(.reg [
.s 12 (.bin .eql (some .int) (.t 5) (.c (.int .i64 2))),
.s 11 (.mv (.t 12))] [0,11])
(.cnd (.t 11)
(.seq
(.seq
(.reg [
.s 13 (.mv (.t 0)),
.s 14 (.bin .rem none (.t 13) (.c (.int .i64 4))),
.s 15 (.bin .eql (some .int) (.t 14) (.c (.int .i64 0))),
.s 16 (.mv (.t 15)),
.g 17 (.mv (.t 0)) 16 true,
.g 18 (.bin .rem none (.t 17) (.c (.int .i64 100))) 16 true,
.g 19 (.bin .neq (some .int) (.t 18) (.c (.int .i64 0))) 16 true,
.g 20 (.mv (.t 19)) 16 true,
.g 21 (.mv (.t 0)) 20 false,
.g 22 (.bin .rem none (.t 21) (.c (.int .i64 400))) 20 false,
.g 23 (.bin .eql (some .int) (.t 22) (.c (.int .i64 0))) 20 false,
.g 24 (.pick (.t 20) (.c (.bool true)) (.t 23)) 16 true,
.s 25 (.pick (.t 16) (.t 24) (.c (.bool false)))] [25])
(.cnd (.t 25)
(.seq
(.reg [
.s 4 (.mv (.c (.int .i64 29)))] [4])
.ret)
.skip))
(.seq
(.reg [
.s 4 (.mv (.c (.int .i64 28)))] [4])
.ret))
.skip))))))
(.seq
(.reg [
.s 4 (.mv (.c (.int .i64 31)))] [4])
.ret))),
[.tmp 4]⟩
/-- strings.Trim -/
def F105 : DF := ⟨2,
(.seq
(.reg [
.s 4 (.mv (.c (.str [])))] [0,1])
(.seq
(.seq
(.reg [
.s 7 (.mv (.t 0)),
.s 8 (.bin .eql (some .str) (.t 7) (.c (.str []))),
.s 9 (.mv (.t 8)),
.g 10 (.mv (.t 1)) 9 false,
.g 11 (.bin .eql (some .str) (.t 10) (.c (.str []))) 9 false,
.s 12 (.pick (.t 9) (.c (.bool true)) (.t 11))] [0,1,12])
(.cnd (.t 12)
(.seq
(.reg [
.s 13 (.mv (.t 0)),
.s 4 (.mv (.t 13))] [4])
.ret)
.skip))
(.seq
(.seq
(.reg [
.s 14 (.mv (.t 1)),
.s 15 (.lenS (.t 14)),
.s 16 (.bin .eql (some .int) (.t 15) (.c (.int .i64 1))),
.s 17 (.mv (.t 16)),
.g 18 (.mv (.t 1)) 17 true,
.g 19 (.ixS (.t 18) (.c (.int .i64 0))) 17 true,
.g 20 (.bin .lss none (.t 19) (.c (.int .u8 128))) 17 true,
.s 21 (.pick (.t 17) (.t 20) (.c (.bool false)))] [0,1,21])
(.cnd (.t 21)
(.seq
(.drw [
((.s 22 (.mv (.t 0)),none),[]),
((.s 23 (.mv (.t 1)),none),[]),
((.s 24 (.ixS (.t 23) (.c (.int .i64 0))),none),[]),
((.s 26 (.mv (.t 1)),none),[]),
((.s 27 (.ixS (.t 26) (.c (.int .i64 0))),none),[]),
((.s 25 (.call 126 [(.t 22),(.t 24)]),none),[]),
((.s 28 (.call 122 [(.t 25),(.t 27)]),none),[]),
((.s 4 (.mv (.t 28)),none),[])] [4])
.ret)
.skip))
(.seq
(.seq
(.reg [
.s 30 (.mv (.t 1)),
.s 31 (.call 123 [(.t 30)]),
.s 29 (.mv (.t 31)),
.s 32 (.ext (.t 29) 0),
.s 33 (.ext (.t 29) 1),
.s 5 (.alH 141 [(.bool false),(.bool false),(.bool false),(.bool false),(.bool false),(.bool false),(.bool false),(.bool false),(.bool false),(.bool false),(.bool false),(.bool false),(.bool false),(.bool false),(.bool false),(.bool false),(.bool false),(.bool false),(.bool false),(.bool false),(.bool false),(.bool false),(.bool false),(.bool false),(.bool false),(.bool false),(.bool false),(.bool false),(.bool false),(.bool false),(.bool false),(.bool false),(.bool false),(.bool false),(.bool false),(.bool false),(.bool false),(.bool false),(.bool false),(.bool false),(.bool false),(.bool false),(.bool false),(.bool false),(.bool false),(.bool false),(.bool false),(.bool false),(.bool false),(.bool false),(.bool false),(.bool false),(.bool false),(.bool false),(.bool false),(.bool false),(.bool false),(.bool false),(.bool false),(.bool false),(.bool false),(.bool false),(.bool false),(.bool false),(.bool false),(.bool false),(.bool false),(.bool false),(.bool false),(.bool false),(.bool false),(.bool false),(.bool false),(.bool false),(.bool false),(.bool false),(.bool false),(.bool false),(.bool false),(.bool false),(.bool false),(.bool false),(.bool false),(.bool false),(.bool false),(.bool false),(.bool false),(.bool false),(.bool false),(.bool false),(.bool false),(.bool false),(.bool false),(.bool false),(.bool false),(.bool false),(.bool false),(.bool false),(.bool false),(.bool false),(.bool false),(.bool false),(.bool false),(.bool false),(.bool false),(.bool false),(.bool false),(.bool false),(.bool false),(.bool false),(.bool false),(.bool false),(.bool false),(.bool false),(.bool false),(.bool false),(.bool false),(.bool false),(.bool false),(.bool false),(.bool false),(.bool false),(.bool false),(.bool false),(.bool false),(.bool false),(.bool false),(.bool false),(.bool false),(.bool false),(.bool false),(.bool false),(.bool false),(.bool false),(.bool false),(.bool false),(.bool false),(.bool false),(.bool false),(.bool false),(.bool false),(.bool false),(.bool false),(.bool false),(.bool false),(.bool false),(.bool false),(.bool false),(.bool false),(.bool false),(.bool false),(.bool false),(.bool false),(.bool false),(.bool false),(.bool false),(.bool false),(.bool false),(.bool false),(.bool false),(.bool false),(.bool false),(.bool false),(.bool false),(.bool false),(.bool false),(.bool false),(.bool false),(.bool false),(.bool false),(.bool false),(.bool false),(.bool false),(.bool false),(.bool false),(.bool false),(.bool false),(.bool false),(.bool false),(.bool false),(.bool false),(.bool false),(.bool false),(.bool false),(.bool false),(.bool false),(.bool false),(.bool false),(.bool false),(.bool false),(.bool false),(.bool false),(.bool false),(.bool false),(.bool false),(.bool false),(.bool false),(.bool false),(.bool false),(.bool false),(.bool false),(.bool false),(.bool false),(.bool false),(.bool false),(.bool false),(.bool false),(.bool false),(.bool false),(.bool false),(.bool false),(.bool false),(.bool false),(.bool false),(.bool false),(.bool false),(.bool false),(.bool false),(.bool false),(.bool false),(.bool false),(.bool false),(.bool false),(.bool false),(.bool false),(.bool false),(.bool false),(.bool false),(.bool false),(.bool false),(.bool false),(.bool false),(.bool false),(.bool false),(.bool false),(.bool false),(.bool false),(.bool false),(.bool false),(.bool false),(.bool false),(.bool false),(.bool false),(.bool false),(.bool false),(.bool false),(.bool false),(.bool false),(.bool false),(.bool false),(.bool false),(.bool false),(.bool false),(.bool false),(.bool false),(.bool false)]),
.n (.st 256 (.t 5) (.t 32)),
.s 6 (.mv (.t 33))] [0,1,5,6])
(.seq
(.reg [
.s 34 (.mv (.t 6))] [0,1,5,34])
(.cnd (.t 34)
(.seq
(.reg [
.s 35 (.mv (.t 0)),
.s 36 (.call 127 [(.t 35),(.t 5)]),
.s 37 (.call 124 [(.t 36),(.t 5)]),
.s 4 (.mv (.t 37))] [4])
.ret)
.skip)))
(.seq
(.reg [
.s 38 (.mv (.t 0)),
.s 39 (.mv (.t 1)),
.s 40 (.call 128 [(.t 38),(.t 39)]),
.s 41 (.mv (.t 1)),
.s 42 (.call 125 [(.t 40),(.t 41)]),
.s 4 (.mv (.t 42))] [4])
.ret))))),
[.tmp 4]⟩
/-- strings.HasSuffix -/
def F106 : DF := ⟨2,
(.seq
(.reg [
.s 4 (.mv (.c (.bool false)))] [0,1])
(.seq
(.reg [
.s 5 (.mv (.t 0)),
.s 6 (.mv (.t 1)),
.s 7 (.call 131 [(.t 5),(.t 6)]),
.s 4 (.mv (.t 7))] [4])
.ret)),
[.tmp 4]⟩
/-- internal/stringslite.Cut -/
def F107 : DF := ⟨2,
(.seq
(.reg [
.s 4 (.mv (.c (.str []))),
.s 5 (.mv (.c (.str []))),
.s 6 (.mv (.c (.bool false)))] [0,1])
(.seq
(.seq
(.reg [
.s 8 (.mv (.t 0)),
.s 9 (.mv (.t 1)),
.s 10 (.call 132 [(.t 8),(.t 9)]),
.s 7 (.mv (.t 10))] [0,1,7])
(.seq
(.reg [
.s 11 (.mv (.t 7)),
.s 12 (.bin .geq none (.t 11) (.c (.int .i64 0)))] [0,1,7,12])
(.cnd (.t 12)
(.seq
(.drw [
((.s 13 (.mv (.t 0)),none),[]),
((.s 14 (.mv (.t 7)),none),[]),
((.s 15 (.slS (.t 13) none (some (.t 14))),none),[]),
((.s 16 (.mv (.t 0)),none),[]),
((.s 17 (.mv (.t 7)),none),[]),
((.s 18 (.mv (.t 1)),none),[]),
((.s 19 (.lenS (.t 18)),none),[]),
((.s 20 (.bin .add none (.t 17) (.t 19)),none),[]),
((.s 21 (.slS (.t 16) (some (.t 20)) none),none),[]),
((.s 4 (.mv (.t 15)),none),[]),
((.s 5 (.mv (.t 21)),none),[]),
((.s 6 (.mv (.c (.bool true))),none),[])] [4,5,6])
.ret)
.skip)))
(.seq
(.reg [
.s 22 (.mv (.t 0)),
.s 4 (.mv (.t 22)),
.s 5 (.mv (.c (.str []))),
.s 6 (.mv (.c (.bool false)))] [4,5,6])
.ret))),
[.tmp 4,.tmp 5,.tmp 6]⟩
/-- slices.insertionSortCmpFunc[int] -/
def F108 : DF := ⟨4,
(.seq
(.reg [
.s 10 (.mv (.t 1)),
.s 11 (.bin .add none (.t 10) (.c (.int .i64 1))),
.s 8 (.mv (.t 11))] [0,1,2,3,8])
(.blk 0
(.seq
(.trim [0,1,2,3,8])
(.lop
(.seq
(.seq
(.seq
(.reg [
.s 12 (.mv (.t 8)),
.s 13 (.mv (.t 2)),
.s 14 (.bin .lss none (.t 12) (.t 13))] [0,1,2,3,8,14])
(.cnd (.t 14)
.skip
(.exit 0)))
(.seq
(.blk 1
(.seq
(.reg [
.s 17 (.mv (.t 8)),
.s 9 (.mv (.t 17))] [0,1,2,3,8,9])
(.blk 2
(.seq
(.trim [0,1,2,3,8,9])
(.lop
(.seq
(.seq
(.seq
(.drw [
((.s 18 (.mv (.t 9)),none),[]),
((.s 19 (.mv (.t 1)),none),[]),
((.s 20 (.bin .gtr none (.t 18) (.t 19)),none),[]),
((.s 21 (.mv (.t 20)),none),[]),
((.g 22 (.mv (.t 3)) 21 true,none),[]),
((.g 23 (.mv (.t 0)) 21 true,none),[]),
((.g 24 (.mv (.t 9)) 21 true,none),[]),
((.g 25 (.ia 1 (.t 23) (.t 24)) 21 true,none),[]),
((.g 26 (.ld false 1 (.t 25)) 21 true,none),[]),
((.g 27 (.mv (.t 0)) 21 true,none),[]),
((.g 28 (.mv (.t 9)) 21 true,none),[]),
((.g 29 (.bin .sub none (.t 28) (.c (.int .i64 1))) 21 true,none),[]),
((.g 30 (.ia 1 (.t 27) (.t 29)) 21 true,none),[]),
((.g 31 (.ld false 1 (.t 30)) 21 true,none),[]),
((.g 32 (.callv (.t 22) [(.t 26),(.t 31)]) 21 true,none),[]),
((.g 33 (.bin .lss none (.t 32) (.c (.int .i64 0))) 21 true,none),[]),
((.s 34 (.pick (.t 21) (.t 33) (.c (.bool false))),none),[])] [0,1,2,3,8,9,34])
(.cnd (.t 34)
.skip
(.exit 2)))
(.seq
(.blk 3
(.drw [
((.s 37 (.mv (.t 0)),none),[]),
((.s 38 (.mv (.t 9)),none),[]),
((.s 39 (.mv (.t 0)),none),[]),
((.s 40 (.mv (.t 9)),none),[]),
((.s 41 (.bin .sub none (.t 40) (.c (.int .i64 1))),none),[]),
((.s 42 (.mv (.t 0)),none),[]),
((.s 43 (.mv (.t 9)),none),[]),
((.s 44 (.bin .sub none (.t 43) (.c (.int .i64 1))),none),[]),
((.s 45 (.ia 1 (.t 42) (.t 44)),none),[]),
((.s 46 (.ld false 1 (.t 45)),none),[]),
((.s 47 (.mv (.t 0)),none),[]),
((.s 48 (.mv (.t 9)),none),[]),
((.s 49 (.ia 1 (.t 47) (.t 48)),none),[]),
((.s 50 (.ld false 1 (.t 49)),none),[]),
((.s 51 (.ia 1 (.t 37) (.t 38)),none),[]),
((.n (.st 1 (.t 51) (.t 46)),none),[]),
((.s 52 (.ia 1 (.t 39) (.t 41)),none),[]),
((.n (.st 1 (.t 52) (.t 50)),none),[])] [0,1,2,3,8,9]))
(.reg [
.s 35 (.mv (.t 9)),
.s 36 (.bin .sub none (.t 35) (.c (.int .i64 1))),
.s 9 (.mv (.t 36))] [0,1,2,3,8,9])))
(.trim [0,1,2,3,8,9])))))))
(.reg [
.s 15 (.mv (.t 8)),
.s 16 (.bin .add none (.t 15) (.c (.int .i64 1))),
.s 8 (.mv (.t 16))] [0,1,2,3,8])))
(.trim [0,1,2,3,8])))))),
[]⟩
/-- slices.symMergeCmpFunc[int] -/
def F109 : DF := ⟨5,
(.seq
(.seq
(.reg [
.s 25 (.mv (.t 2)),
.s 26 (.mv (.t 1)),
.s 27 (.bin .sub none (.t 25) (.t 26)),
.s 28 (.bin .eql (some .int) (.t 27) (.c (.int .i64 1)))] [0,1,2,3,4,28])
(.cnd (.t 28)
(.seq
(.reg [
.s 29 (.mv (.t 2)),
.s 10 (.mv (.t 29))] [0,1,3,4,10])
(.seq
(.reg [
.s 30 (.mv (.t 3)),
.s 11 (.mv (.t 30))] [0,1,4,10,11])
(.seq
(.blk 0
(.seq
(.trim [0,1,4,10,11])
(.lop
(.seq
(.seq
(.seq
(.reg [
.s 31 (.mv (.t 10)),
.s 32 (.mv (.t 11)),
.s 33 (.bin .lss none (.t 31) (.t 32))] [0,1,4,10,11,33])
(.cnd (.t 33)
.skip
(.exit 0)))
(.blk 1
(.seq
(.reg [
.s 34 (.mv (.t 10)),
.s 35 (.mv (.t 11)),
.s 36 (.bin .add none (.t 34) (.t 35)),
.s 37 (.cvI .u64 (.t 36)),
.s 38 (.bin .shr none (.t 37) (.c (.int .u64 1))),
.s 39 (.cvI .i64 (.t 38)),
.s 12 (.mv (.t 39))] [0,1,4,10,11,12])
(.seq
(.drw [
((.s 40 (.mv (.t 4)),none),[]),
((.s 41 (.mv (.t 0)),none),[]),
((.s 42 (.mv (.t 12)),none),[]),
((.s 43 (.ia 1 (.t 41) (.t 42)),none),[]),
((.s 44 (.ld false 1 (.t 43)),none),[]),
((.s 45 (.mv (.t 0)),none),[]),
((.s 46 (.mv (.t 1)),none),[]),
((.s 47 (.ia 1 (.t 45) (.t 46)),none),[]),
((.s 48 (.ld false 1 (.t 47)),none),[]),
((.s 49 (.callv (.t 40) [(.t 44),(.t 48)]),none),[]),
((.s 50 (.bin .lss none (.t 49) (.c (.int .i64 0))),none),[])] [0,1,4,10,11,12,50])
(.cnd (.t 50)
(.reg [
.s 51 (.mv (.t 12)),
.s 52 (.bin .add none (.t 51) (.c (.int .i64 1))),
.s 10 (.mv (.t 52))] [0,1,4,10,11])
(.reg [
.s 53 (.mv (.t 12)),
.s 11 (.mv (.t 53))] [0,1,4,10,11]))))))
(.trim [0,1,4,10,11])))))
(.seq
(.seq
(.reg [
.s 54 (.mv (.t 1)),
.s 13 (.mv (.t 54))] [0,10,13])
(.blk 2
(.seq
(.trim [0,10,13])
(.lop
(.seq
(.seq
(.seq
(.reg [
.s 55 (.mv (.t 13)),
.s 56 (.mv (.t 10)),
.s 57 (.bin .sub none (.t 56) (.c (.int .i64 1))),
.s 58 (.bin .lss none (.t 55) (.t 57))] [0,10,13,58])
(.cnd (.t 58)
.skip
(.exit 2)))
(.seq
(.blk 3
(.drw [
((.s 61 (.mv (.t 0)),none),[]),
((.s 62 (.mv (.t 13)),none),[]),
((.s 63 (.mv (.t 0)),none),[]),
((.s 64 (.mv (.t 13)),none),[]),
((.s 65 (.bin .add none (.t 64) (.c (.int .i64 1))),none),[]),
((.s 66 (.mv (.t 0)),none),[]),
((.s 67 (.mv (.t 13)),none),[]),
((.s 68 (.bin .add none (.t 67) (.c (.int .i64 1))),none),[]),
((.s 69 (.ia 1 (.t 66) (.t 68)),none),[]),
((.s 70 (.ld false 1 (.t 69)),none),[]),
((.s 71 (.mv (.t 0)),none),[]),
((.s 72 (.mv (.t 13)),none),[]),
((.s 73 (.ia 1 (.t 71) (.t 72)),none),[]),
((.s 74 (.ld false 1 (.t 73)),none),[]),
((.s 75 (.ia 1 (.t 61) (.t 62)),none),[]),
((.n (.st 1 (.t 75) (.t 70)),none),[]),
((.s 76 (.ia 1 (.t 63) (.t 65)),none),[]),
((.n (.st 1 (.t 76) (.t 74)),none),[])] [0,10,13]))
(.reg [
.s 59 (.mv (.t 13)),
.s 60 (.bin .add none (.t 59) (.c (.int .i64 1))),
.s 13 (.mv (.t 60))] [0,10,13])))
(.trim [0,10,13]))))))
.ret))))
.skip))
(.seq
(.seq
(.reg [
.s 77 (.mv (.t 3)),
.s 78 (.mv (.t 2)),
.s 79 (.bin .sub none (.t 77) (.t 78)),
.s 80 (.bin .eql (some .int) (.t 79) (.c (.int .i64 1)))] [0,1,2,3,4,80])
(.cnd (.t 80)
(.seq
(.reg [
.s 81 (.mv (.t 1)),
.s 14 (.mv (.t 81))] [0,2,4,14])
(.seq
(.reg [
.s 82 (.mv (.t 2)),
.s 15 (.mv (.t 82))] [0,2,4,14,15])
(.seq
(.blk 4
(.seq
(.trim [0,2,4,14,15])
(.lop
(.seq
(.seq
(.seq
(.reg [
.s 83 (.mv (.t 14)),
.s 84 (.mv (.t 15)),
.s 85 (.bin .lss none (.t 83) (.t 84))] [0,2,4,14,15,85])
(.cnd (.t 85)
.skip
(.exit 4)))
(.blk 5
(.seq
(.reg [
.s 86 (.mv (.t 14)),
.s 87 (.mv (.t 15)),
.s 88 (.bin .add none (.t 86) (.t 87)),
.s 89 (.cvI .u64 (.t 88)),
.s 90 (.bin .shr none (.t 89) (.c (.int .u64 1))),
.s 91 (.cvI .i64 (.t 90)),
.s 16 (.mv (.t 91))] [0,2,4,14,15,16])
(.seq
(.drw [
((.s 92 (.mv (.t 4)),none),[]),
((.s 93 (.mv (.t 0)),none),[]),
((.s 94 (.mv (.t 2)),none),[]),
((.s 95 (.ia 1 (.t 93) (.t 94)),none),[]),
((.s 96 (.ld false 1 (.t 95)),none),[]),
((.s 97 (.mv (.t 0)),none),[]),
((.s 98 (.mv (.t 16)),none),[]),
((.s 99 (.ia 1 (.t 97) (.t 98)),none),[]),
((.s 100 (.ld false 1 (.t 99)),none),[]),
((.s 101 (.callv (.t 92) [(.t 96),(.t 100)]),none),[]),
((.s 102 (.bin .lss none (.t 101) (.c (.int .i64 0))),none),[]),
((.s 103 (.un .not (.t 102)),none),[])] [0,2,4,14,15,16,103])
(.cnd (.t 103)
(.reg [
.s 104 (.mv (.t 16)),
.s 105 (.bin .add none (.t 104) (.c (.int .i64 1))),
.s 14 (.mv (.t 105))] [0,2,4,14,15])
(.reg [
.s 106 (.mv (.t 16)),
.s 15 (.mv (.t 106))] [0,2,4,14,15]))))))
(.trim [0,2,4,14,15])))))
(.seq
(.seq
(.reg [
.s 107 (.mv (.t 2)),
.s 17 (.mv (.t 107))] [0,14,17])
(.blk 6
(.seq
(.trim [0,14,17])
(.lop
(.seq
(.seq
(.seq
(.reg [
.s 108 (.mv (.t 17)),
.s 109 (.mv (.t 14)),
.s 110 (.bin .gtr none (.t 108) (.t 109))] [0,14,17,110])
(.cnd (.t 110)
.skip
(.exit 6)))
(.seq
(.blk 7
(.drw [
((.s 113 (.mv (.t 0)),none),[]),
((.s 114 (.mv (.t 17)),none),[]),
((.s 115 (.mv (.t 0)),none),[]),
((.s 116 (.mv (.t 17)),none),[]),
((.s 117 (.bin .sub none (.t 116) (.c (.int .i64 1))),none),[]),
((.s 118 (.mv (.t 0)),none),[]),
((.s 119 (.mv (.t 17)),none),[]),
((.s 120 (.bin .sub none (.t 119) (.c (.int .i64 1))),none),[]),
((.s 121 (.ia 1 (.t 118) (.t 120)),none),[]),
((.s 122 (.ld false 1 (.t 121)),none),[]),
((.s 123 (.mv (.t 0)),none),[]),
((.s 124 (.mv (.t 17)),none),[]),
((.s 125 (.ia 1 (.t 123) (.t 124)),none),[]),
((.s 126 (.ld false 1 (.t 125)),none),[]),
((.s 127 (.ia 1 (.t 113) (.t 114)),none),[]),
((.n (.st 1 (.t 127) (.t 122)),none),[]),
((.s 128 (.ia 1 (.t 115) (.t 117)),none),[]),
((.n (.st 1 (.t 128) (.t 126)),none),[])] [0,14,17]))
(.reg [
.s 111 (.mv (.t 17)),
.s 112 (.bin .sub none (.t 111) (.c (.int .i64 1))),
.s 17 (.mv (.t 112))] [0,14,17])))
(.trim [0,14,17]))))))
.ret))))
.skip))
(.seq
(.reg [
.s 129 (.mv (.t 1)),
.s 130 (.mv (.t 3)),
.s 131 (.bin .add none (.t 129) (.t 130)),
.s 132 (.cvI .u64 (.t 131)),
.s 133 (.bin .shr none (.t 132) (.c (.int .u64 1))),
.s 134 (.cvI .i64 (.t 133)),
.s 18 (.mv (.t 134))] [0,1,2,3,4,18])
(.seq
(.reg [
.s 135 (.mv (.t 18)),
.s 136 (.mv (.t 2)),
.s 137 (.bin .add none (.t 135) (.t 136)),
.s 19 (.mv (.t 137))] [0,1,2,3,4,18,19])
(.seq
(.reg [
.s 20 (.mv (.c (.int .i64 0))),
.s 21 (.mv (.c (.int .i64 0)))] [0,1,2,3,4,18,19])
(.seq
(.seq
(.reg [
.s 138 (.mv (.t 2)),
.s 139 (.mv (.t 18)),
.s 140 (.bin .gtr none (.t 138) (.t 139))] [0,1,2,3,4,18,19,140])
(.cnd (.t 140)
(.seq
(.reg [
.s 141 (.mv (.t 19)),
.s 142 (.mv (.t 3)),
.s 143 (.bin .sub none (.t 141) (.t 142)),
.s 20 (.mv (.t 143))] [0,1,2,3,4,18,19,20])
(.reg [
.s 144 (.mv (.t 18)),
.s 21 (.mv (.t 144))] [0,1,2,3,4,18,19,20,21]))
(.seq
(.reg [
.s 145 (.mv (.t 1)),
.s 20 (.mv (.t 145))] [0,1,2,3,4,18,19,20])
(.reg [
.s 146 (.mv (.t 2)),
.s 21 (.mv (.t 146))] [0,1,2,3,4,18,19,20,21]))))
(.seq
(.reg [
.s 147 (.mv (.t 19)),
.s 148 (.bin .sub none (.t 147) (.c (.int .i64 1))),
.s 22 (.mv (.t 148))] [0,1,2,3,4,18,19,20,21,22])
(.seq
(.blk 8
(.seq
(.trim [0,1,2,3,4,18,19,20,21,22])
(.lop
(.seq
(.seq
(.seq
(.reg [
.s 149 (.mv (.t 20)),
.s 150 (.mv (.t 21)),
.s 151 (.bin .lss none (.t 149) (.t 150))] [0,1,2,3,4,18,19,20,21,22,151])
(.cnd (.t 151)
.skip
(.exit 8)))
(.blk 9
(.seq
(.reg [
.s 152 (.mv (.t 20)),
.s 153 (.mv (.t 21)),
.s 154 (.bin .add none (.t 152) (.t 153)),
.s 155 (.cvI .u64 (.t 154)),
.s 156 (.bin .shr none (.t 155) (.c (.int .u64 1))),
.s 157 (.cvI .i64 (.t 156)),
.s 23 (.mv (.t 157))] [0,1,2,3,4,18,19,20,21,22,23])
(.seq
(.drw [
((.s 158 (.mv (.t 4)),none),[]),
((.s 159 (.mv (.t 0)),none),[]),
((.s 160 (.mv (.t 22)),none),[]),
((.s 161 (.mv (.t 23)),none),[]),
((.s 162 (.bin .sub none (.t 160) (.t 161)),none),[]),
((.s 163 (.ia 1 (.t 159) (.t 162)),none),[]),
((.s 164 (.ld false 1 (.t 163)),none),[]),
((.s 165 (.mv (.t 0)),none),[]),
((.s 166 (.mv (.t 23)),none),[]),
((.s 167 (.ia 1 (.t 165) (.t 166)),none),[]),
((.s 168 (.ld false 1 (.t 167)),none),[]),
((.s 169 (.callv (.t 158) [(.t 164),(.t 168)]),none),[]),
((.s 170 (.bin .lss none (.t 169) (.c (.int .i64 0))),none),[]),
((.s 171 (.un .not (.t 170)),none),[])] [0,1,2,3,4,18,19,20,21,22,23,171])
(.cnd (.t 171)
(.reg [
.s 172 (.mv (.t 23)),
.s 173 (.bin .add none (.t 172) (.c (.int .i64 1))),
.s 20 (.mv (.t 173))] [0,1,2,3,4,18,19,20,21,22])
(.reg [
.s 174 (.mv (.t 23)),
.s 21 (.mv (.t 174))] [0,1,2,3,4,18,19,20,21,22]))))))
(.trim [0,1,2,3,4,18,19,20,21,22])))))
(.seq
(.reg [
.s 175 (.mv (.t 19)),
.s 176 (.mv (.t 20)),
.s 177 (.bin .sub none (.t 175) (.t 176)),
.s 24 (.mv (.t 177))] [0,1,2,3,4,18,20,24])
(.seq
(.seq
(.reg [
.s 178 (.mv (.t 20)),
.s 179 (.mv (.t 2)),
.s 180 (.bin .lss none (.t 178) (.t 179)),
.s 181 (.mv (.t 180)),
.g 182 (.mv (.t 2)) 181 true,
.g 183 (.mv (.t 24)) 181 true,
.g 184 (.bin .lss none (.t 182) (.t 183)) 181 true,
.s 185 (.pick (.t 181) (.t 184) (.c (.bool false)))] [0,1,2,3,4,18,20,24,185])
(.cnd (.t 185)
(.reg [
.s 186 (.mv (.t 0)),
.s 187 (.mv (.t 20)),
.s 188 (.mv (.t 2)),
.s 189 (.mv (.t 24)),
.s 190 (.mv (.t 4)),
.s 191 (.call 133 [(.t 186),(.t 187),(.t 188),(.t 189),(.t 190)])] [0,1,3,4,18,20,24])
.skip))
(.seq
(.seq
(.reg [
.s 192 (.mv (.t 1)),
.s 193 (.mv (.t 20)),
.s 194 (.bin .lss none (.t 192) (.t 193)),
.s 195 (.mv (.t 194)),
.g 196 (.mv (.t 20)) 195 true,
.g 197 (.mv (.t 18)) 195 true,
.g 198 (.bin .lss none (.t 196) (.t 197)) 195 true,
.s 199 (.pick (.t 195) (.t 198) (.c (.bool false)))] [0,1,3,4,18,20,24,199])
(.cnd (.t 199)
(.reg [
.s 200 (.mv (.t 0)),
.s 201 (.mv (.t 1)),
.s 202 (.mv (.t 20)),
.s 203 (.mv (.t 18)),
.s 204 (.mv (.t 4)),
.s 205 (.call 109 [(.t 200),(.t 201),(.t 202),(.t 203),(.t 204)])] [0,3,4,18,24])
.skip))
(.seq
(.reg [
.s 206 (.mv (.t 18)),
.s 207 (.mv (.t 24)),
.s 208 (.bin .lss none (.t 206) (.t 207)),
.s 209 (.mv (.t 208)),
.g 210 (.mv (.t 24)) 209 true,
.g 211 (.mv (.t 3)) 209 true,
.g 212 (.bin .lss none (.t 210) (.t 211)) 209 true,
.s 213 (.pick (.t 209) (.t 212) (.c (.bool false)))] [0,3,4,18,24,213])
(.cnd (.t 213)
(.reg [
.s 214 (.mv (.t 0)),
.s 215 (.mv (.t 18)),
.s 216 (.mv (.t 24)),
.s 217 (.mv (.t 3)),
.s 218 (.mv (.t 4)),
.s 219 (.call 109 [(.t 214),(.t 215),(.t 216),(.t 217),(.t 218)])] [])
.skip))))))))))))),
[]⟩
/-- emend/text.row -/
def F111 : DF := ⟨1,
(.seq
(.reg [
.s 2 (.mv (.c (.int .i64 0))),
.s 3 (.mv (.c (.int .i64 0))),
.s 4 (.mv (.c (.int .i64 0)))] [0])
(.seq
(.blk 0
(.seq
(.reg [
.s 6 (.mv (.t 0)),
.s 7 (.bin .shr none (.t 6) (.c (.int .u64 7))),
.s 8 (.bin .eql (some .int) (.t 7) (.c (.int .u8 0))),
.s 5 (.mv (.t 8))] [0,5])
(.cnd (.t 5)
(.seq
(.reg [
.s 9 (.mv (.t 0)),
.s 10 (.cvI .i64 (.t 9)),
.s 2 (.mv (.c (.int .i64 1))),
.s 3 (.mv (.t 10)),
.s 4 (.mv (.c (.int .i64 0)))] [2,3,4])
.ret)
(.seq
(.reg [
.s 12 (.mv (.t 0)),
.s 13 (.bin .shr none (.t 12) (.c (.int .u64 5))),
.s 14 (.bin .eql (some .int) (.t 13) (.c (.int .u8 6))),
.s 11 (.mv (.t 14))] [0,11])
(.cnd (.t 11)
(.seq
(.reg [
.s 15 (.mv (.t 0)),
.s 16 (.bin .and none (.t 15) (.c (.int .u8 31))),
.s 17 (.cvI .i64 (.t 16)),
.s 2 (.mv (.c (.int .i64 2))),
.s 3 (.mv (.t 17)),
.s 4 (.mv (.c (.int .i64 128)))] [2,3,4])
.ret)
(.seq
(.reg [
.s 19 (.mv (.t 0)),
.s 20 (.bin .shr none (.t 19) (.c (.int .u64 4))),
.s 21 (.bin .eql (some .int) (.t 20) (.c (.int .u8 14))),
.s 18 (.mv (.t 21))] [0,18])
(.cnd (.t 18)
(.seq
(.reg [
.s 22 (.mv (.t 0)),
.s 23 (.bin .and none (.t 22) (.c (.int .u8 15))),
.s 24 (.cvI .i64 (.t 23)),
.s 2 (.mv (.c (.int .i64 3))),
.s 3 (.mv (.t 24)),
.s 4 (.mv (.c (.int .i64 2048)))] [2,3,4])
.ret)
(.seq
(.reg [
.s 26 (.mv (.t 0)),
.s 27 (.bin .shr none (.t 26) (.c (.int .u64 3))),
.s 28 (.bin .eql (some .int) (.t 27) (.c (.int .u8 30))),
.s 25 (.mv (.t 28))] [0,25])
(.cnd (.t 25)
(.seq
(.reg [
.s 29 (.mv (.t 0)),
.s 30 (.bin .and none (.t 29) (.c (.int .u8 7))),
.s 31 (.cvI .i64 (.t 30)),
.s 2 (.mv (.c (.int .i64 4))),
.s 3 (.mv (.t 31)),
.s 4 (.mv (.c (.int .i64 65536)))] [2,3,4])
.ret)
.skip)))))))))
(.seq
(.reg [
.s 2 (.mv (.c (.int .i64 0))),
.s 3 (.mv (.c (.int .i64 0))),
.s 4 (.mv (.c (.int .i64 0)))] [2,3,4])
.ret))),
[.tmp 2,.tmp 3,.tmp 4]⟩
/-- emend/text.character -/
def F112 : DF := ⟨1,
(.seq
(.reg [
.s 2 (.mv (.c (.bool false)))] [0])
(.seq
(.reg [
.s 3 (.mv (.t 0)),
.s 4 (.bin .geq none (.t 3) (.c (.int .i64 0))),
.s 5 (.mv (.t 4)),
.g 6 (.mv (.t 0)) 5 true,
.g 7 (.bin .leq none (.t 6) (.c (.int .i64 1114111))) 5 true,
.s 8 (.pick (.t 5) (.t 7) (.c (.bool false))),
.s 9 (.mv (.t 8)),
.g 10 (.mv (.t 0)) 9 true,
.g 11 (.bin .lss none (.t 10) (.c (.int .i64 55296))) 9 true,
.g 12 (.mv (.t 11)) 9 true,
.g 13 (.mv (.t 0)) 12 false,
.g 14 (.bin .gtr none (.t 13) (.c (.int .i64 57343))) 12 false,
.g 15 (.pick (.t 12) (.c (.bool true)) (.t 14)) 9 true,
.s 16 (.pick (.t 9) (.t 15) (.c (.bool false))),
.s 2 (.mv (.t 16))] [2])
.ret)),
[.tmp 2]⟩
/-- strings.HasPrefix -/
def F119 : DF := ⟨2,
(.seq
(.reg [
.s 4 (.mv (.c (.bool false)))] [0,1])
(.seq
(.reg [
.s 5 (.mv (.t 0)),
.s 6 (.mv (.t 1)),
.s 7 (.call 137 [(.t 5),(.t 6)]),
.s 4 (.mv (.t 7))] [4])
.ret)),
[.tmp 4]⟩
/-- strings.TrimPrefix -/
def F120 : DF := ⟨2,
(.seq
(.reg [
.s 4 (.mv (.c (.str [])))] [0,1])
(.seq
(.reg [
.s 5 (.mv (.t 0)),
.s 6 (.mv (.t 1)),
.s 7 (.call 138 [(.t 5),(.t 6)]),
.s 4 (.mv (.t 7))] [4])
.ret)),
[.tmp 4]⟩
/-- strconv.Atoi -/
def F121 : DF := ⟨1,
(.seq
(.reg [
.s 2 (.mv (.c (.int .i64 0))),
.s 3 (.mv (.c .nilif))] [0])
(.seq
(.reg [
.s 7 (.mv (.t 0)),
.s 8 (.call 139 [(.t 7)]),
.s 6 (.mv (.t 8)),
.s 9 (.ext (.t 6) 0),
.s 10 (.ext (.t 6) 1),
.s 4 (.mv (.t 9)),
.s 5 (.mv (.t 10))] [0,4,5])
(.seq
(.seq
(.reg [
.s 11 (.mv (.t 5)),
.s 12 (.bin .neq (some .ifc) (.t 11) (.c .nilif))] [0,4,5,12])
(.cnd (.t 12)
(.seq
(.reg [
.s 13 (.mv (.t 4)),
.s 14 (.mv (.t 0)),
.s 15 (.mv (.t 5)),
.s 16 (.call 140 [(.c (.str [65,116,111,105])),(.t 14),(.c (.int .i64 0)),(.c (.int .i64 0)),(.t 15)]),
.s 2 (.mv (.t 13)),
.s 3 (.mv (.t 16))] [2,3])
.ret)
.skip))
(.seq
(.reg [
.s 17 (.mv (.t 4)),
.s 2 (.mv (.t 17)),
.s 3 (.mv (.c .nilif))] [2,3])
.ret)))),
[.tmp 2,.tmp 3]⟩
/-- strings.trimLeftByte -/
def F122 : DF := ⟨2,
(.seq
(.reg [
.s 4 (.mv (.c (.str [])))] [0,1])
(.seq
(.blk 0
(.seq
(.trim [0,1])
(.lop
(.seq
(.seq
(.seq
(.reg [
.s 5 (.mv (.t 0)),
.s 6 (.lenS (.t 5)),
.s 7 (.bin .gtr none (.t 6) (.c (.int .i64 0))),
.s 8 (.mv (.t 7)),
.g 9 (.mv (.t 0)) 8 true,
.g 10 (.ixS (.t 9) (.c (.int .i64 0))) 8 true,
.g 11 (.mv (.t 1)) 8 true,
.g 12 (.bin .eql (some .int) (.t 10) (.t 11)) 8 true,
.s 13 (.pick (.t 8) (.t 12) (.c (.bool false)))] [0,1,13])
(.cnd (.t 13)
.skip
(.exit 0)))
(.blk 1
(.reg [
.s 14 (.mv (.t 0)),
.s 15 (.slS (.t 14) (some (.c (.int .i64 1))) none),
.s 0 (.mv (.t 15))] [0,1])))
(.trim [0,1])))))
(.seq
(.reg [
.s 16 (.mv (.t 0)),
.s 4 (.mv (.t 16))] [4])
.ret))),
[.tmp 4]⟩
/-- strings.makeASCIISet -/
def F123 : DF := ⟨1,
(.seq
(.reg [
.s 2 (.alL [(.bool false),(.bool false),(.bool false),(.bool false),(.bool false),(.bool false),(.bool false),(.bool false),(.bool false),(.bool false),(.bool false),(.bool false),(.bool false),(.bool false),(.bool false),(.bool false),(.bool false),(.bool false),(.bool false),(.bool false),(.bool false),(.bool false),(.bool false),(.bool false),(.bool false),(.bool false),(.bool false),(.bool false),(.bool false),(.bool false),(.bool false),(.bool false),(.bool false),(.bool false),(.bool false),(.bool false),(.bool false),(.bool false),(.bool false),(.bool false),(.bool false),(.bool false),(.bool false),(.bool false),(.bool false),(.bool false),(.bool false),(.bool false),(.bool false),(.bool false),(.bool false),(.bool false),(.bool false),(.bool false),(.bool false),(.bool false),(.bool false),(.bool false),(.bool false),(.bool false),(.bool false),(.bool false),(.bool false),(.bool false),(.bool false),(.bool false),(.bool false),(.bool false),(.bool false),(.bool false),(.bool false),(.bool false),(.bool false),(.bool false),(.bool false),(.bool false),(.bool false),(.bool false),(.bool false),(.bool false),(.bool false),(.bool false),(.bool false),(.bool false),(.bool false),(.bool false),(.bool false),(.bool false),(.bool false),(.bool false),(.bool false),(.bool false),(.bool false),(.bool false),(.bool false),(.bool false),(.bool false),(.bool false),(.bool false),(.bool false),(.bool false),(.bool false),(.bool false),(.bool false),(.bool false),(.bool false),(.bool false),(.bool false),(.bool false),(.bool false),(.bool false),(.bool false),(.bool false),(.bool false),(.bool false),(.bool false),(.bool false),(.bool false),(.bool false),(.bool false),(.bool false),(.bool false),(.bool false),(.bool false),(.bool false),(.bool false),(.bool false),(.bool false),(.bool false),(.bool false),(.bool false),(.bool false),(.bool false),(.bool false),(.bool false),(.bool false),(.bool false),(.bool false),(.bool false),(.bool false),(.bool false),(.bool false),(.bool false),(.bool false),(.bool false),(.bool false),(.bool false),(.bool false),(.bool false),(.bool false),(.bool false),(.bool false),(.bool false),(.bool false),(.bool false),(.bool false),(.bool false),(.bool false),(.bool false),(.bool false),(.bool false),(.bool false),(.bool false),(.bool false),(.bool false),(.bool false),(.bool false),(.bool false),(.bool false),(.bool false),(.bool false),(.bool false),(.bool false),(.bool false),(.bool false),(.bool false),(.bool false),(.bool false),(.bool false),(.bool false),(.bool false),(.bool false),(.bool false),(.bool false),(.bool false),(.bool false),(.bool false),(.bool false),(.bool false),(.bool false),(.bool false),(.bool false),(.bool false),(.bool false),(.bool false),(.bool false),(.bool false),(.bool false),(.bool false),(.bool false),(.bool false),(.bool false),(.bool false),(.bool false),(.bool false),(.bool false),(.bool false),(.bool false),(.bool false),(.bool false),(.bool false),(.bool false),(.bool false),(.bool false),(.bool false),(.bool false),(.bool false),(.bool false),(.bool false),(.bool false),(.bool false),(.bool false),(.bool false),(.bool false),(.bool false),(.bool false),(.bool false),(.bool false),(.bool false),(.bool false),(.bool false),(.bool false),(.bool false),(.bool false),(.bool false),(.bool false),(.bool false),(.bool false),(.bool false),(.bool false),(.bool false),(.bool false),(.bool false),(.bool false),(.bool false),(.bool false),(.bool false),(.bool false),(.bool false),(.bool false),(.bool false),(.bool false),(.bool false),(.bool false),(.bool false),(.bool false)]),
.s 3 (.mv (.c (.bool false)))] [0,2])
(.seq
(.seq
(.reg [
.s 4 (.mv (.c (.int .i64 0)))] [0,2,4])
(.blk 0
(.seq
(.trim [0,2,4])
(.lop
(.seq
(.seq
(.seq
(.reg [
.s 6 (.mv (.t 4)),
.s 7 (.mv (.t 0)),
.s 8 (.lenS (.t 7)),
.s 9 (.bin .lss none (.t 6) (.t 8))] [0,2,4,9])
(.cnd (.t 9)
.skip
(.exit 0)))
(.seq
(.blk 1
(.seq
(.reg [
.s 12 (.mv (.t 0)),
.s 13 (.mv (.t 4)),
.s 14 (.ixS (.t 12) (.t 13)),
.s 5 (.mv (.t 14))] [0,2,4,5])
(.seq
(.seq
(.reg [
.s 15 (.mv (.t 5)),
.s 16 (.bin .geq none (.t 15) (.c (.int .u8 128)))] [0,2,4,5,16])
(.cnd (.t 16)
(.seq
(.reg [
.s 17 (.ld true 256 (.t 2)),
.n (.st 256 (.t 2) (.t 17)),
.s 3 (.mv (.c (.bool false)))] [2,3])
.ret)
.skip))
(.reg [
.s 18 (.mv (.t 5)),
.s 19 (.iaA 1 256 (.t 2) (.t 18)),
.n (.st 1 (.t 19) (.c (.bool true)))] [0,2,4]))))
(.reg [
.s 10 (.mv (.t 4)),
.s 11 (.bin .add none (.t 10) (.c (.int .i64 1))),
.s 4 (.mv (.t 11))] [0,2,4])))
(.trim [0,2,4]))))))
(.seq
(.reg [
.s 20 (.ld true 256 (.t 2)),
.n (.st 256 (.t 2) (.t 20)),
.s 3 (.mv (.c (.bool true)))] [2,3])
.ret))),
[.cell 2 true 256,.tmp 3]⟩
/-- strings.trimLeftASCII -/
def F124 : DF := ⟨2,
(.seq
(.reg [
.s 4 (.mv (.c (.str [])))] [0,1])
(.seq
(.blk 0
(.seq
(.trim [0,1])
(.lop
(.seq
(.seq
(.seq
(.reg [
.s 5 (.mv (.t 0)),
.s 6 (.lenS (.t 5)),
.s 7 (.bin .gtr none (.t 6) (.c (.int .i64 0)))] [0,1,7])
(.cnd (.t 7)
.skip
(.exit 0)))
(.blk 1
(.seq
(.seq
(.reg [
.s 8 (.mv (.t 1)),
.s 9 (.mv (.t 0)),
.s 10 (.ixS (.t 9) (.c (.int .i64 0))),
.s 11 (.call 141 [(.t 8),(.t 10)]),
.s 12 (.un .not (.t 11))] [0,1,12])
(.cnd (.t 12)
(.exit 0)
.skip))
(.reg [
.s 13 (.mv (.t 0)),
.s 14 (.slS (.t 13) (some (.c (.int .i64 1))) none),
.s 0 (.mv (.t 14))] [0,1]))))
(.trim [0,1])))))
(.seq
(.reg [
.s 15 (.mv (.t 0)),
.s 4 (.mv (.t 15))] [4])
.ret))),
[.tmp 4]⟩
/-- strings.trimLeftUnicode -/
def F125 : DF := ⟨2,
(.seq
(.reg [
.s 4 (.mv (.c (.str [])))] [0,1])
(.seq
(.blk 0
(.seq
(.trim [0,1])
(.lop
(.seq
(.seq
(.seq
(.reg [
.s 7 (.mv (.t 0)),
.s 8 (.lenS (.t 7)),
.s 9 (.bin .gtr none (.t 8) (.c (.int .i64 0)))] [0,1,9])
(.cnd (.t 9)
.skip
(.exit 0)))
(.blk 1
(.seq
(.reg [
.s 11 (.mv (.t 0)),
.s 12 (.call 142 [(.t 11)]),
.s 10 (.mv (.t 12)),
.s 13 (.ext (.t 10) 0),
.s 14 (.ext (.t 10) 1),
.s 5 (.mv (.t 13)),
.s 6 (.mv (.t 14))] [0,1,5,6])
(.seq
(.seq
(.reg [
.s 15 (.mv (.t 1)),
.s 16 (.mv (.t 5)),
.s 17 (.call 143 [(.t 15),(.t 16)]),
.s 18 (.un .not (.t 17))] [0,1,6,18])
(.cnd (.t 18)
(.exit 0)
.skip))
(.reg [
.s 19 (.mv (.t 0)),
.s 20 (.mv (.t 6)),
.s 21 (.slS (.t 19) (some (.t 20)) none),
.s 0 (.mv (.t 21))] [0,1])))))
(.trim [0,1])))))
(.seq
(.reg [
.s 22 (.mv (.t 0)),
.s 4 (.mv (.t 22))] [4])
.ret))),
[.tmp 4]⟩
/-- strings.trimRightByte -/
def F126 : DF := ⟨2,
(.seq
(.reg [
.s 4 (.mv (.c (.str [])))] [0,1])
(.seq
(.blk 0
(.seq
(.trim [0,1])
(.lop
(.seq
(.seq
(.seq
(.reg [
.s 5 (.mv (.t 0)),
.s 6 (.lenS (.t 5)),
.s 7 (.bin .gtr none (.t 6) (.c (.int .i64 0))),
.s 8 (.mv (.t 7)),
.g 9 (.mv (.t 0)) 8 true,
.g 10 (.mv (.t 0)) 8 true,
.g 11 (.lenS (.t 10)) 8 true,
.g 12 (.bin .sub none (.t 11) (.c (.int .i64 1))) 8 true,
.g 13 (.ixS (.t 9) (.t 12)) 8 true,
.g 14 (.mv (.t 1)) 8 true,
.g 15 (.bin .eql (some .int) (.t 13) (.t 14)) 8 true,
.s 16 (.pick (.t 8) (.t 15) (.c (.bool false)))] [0,1,16])
(.cnd (.t 16)
.skip
(.exit 0)))
(.blk 1
(.reg [
.s 17 (.mv (.t 0)),
.s 18 (.mv (.t 0)),
.s 19 (.lenS (.t 18)),
.s 20 (.bin .sub none (.t 19) (.c (.int .i64 1))),
.s 21 (.slS (.t 17) none (some (.t 20))),
.s 0 (.mv (.t 21))] [0,1])))
(.trim [0,1])))))
(.seq
(.reg [
.s 22 (.mv (.t 0)),
.s 4 (.mv (.t 22))] [4])
.ret))),
[.tmp 4]⟩
/-- strings.trimRightASCII -/
def F127 : DF := ⟨2,
(.seq
(.reg [
.s 4 (.mv (.c (.str [])))] [0,1])
(.seq
(.blk 0
(.seq
(.trim [0,1])
(.lop
(.seq
(.seq
(.seq
(.reg [
.s 5 (.mv (.t 0)),
.s 6 (.lenS (.t 5)),
.s 7 (.bin .gtr none (.t 6) (.c (.int .i64 0)))] [0,1,7])
(.cnd (.t 7)
.skip
(.exit 0)))
(.blk 1
(.seq
(.seq
(.reg [
.s 8 (.mv (.t 1)),
.s 9 (.mv (.t 0)),
.s 10 (.mv (.t 0)),
.s 11 (.lenS (.t 10)),
.s 12 (.bin .sub none (.t 11) (.c (.int .i64 1))),
.s 13 (.ixS (.t 9) (.t 12)),
.s 14 (.call 141 [(.t 8),(.t 13)]),
.s 15 (.un .not (.t 14))] [0,1,15])
(.cnd (.t 15)
(.exit 0)
.skip))
(.reg [
.s 16 (.mv (.t 0)),
.s 17 (.mv (.t 0)),
.s 18 (.lenS (.t 17)),
.s 19 (.bin .sub none (.t 18) (.c (.int .i64 1))),
.s 20 (.slS (.t 16) none (some (.t 19))),
.s 0 (.mv (.t 20))] [0,1]))))
(.trim [0,1])))))
(.seq
(.reg [
.s 21 (.mv (.t 0)),
.s 4 (.mv (.t 21))] [4])
.ret))),
[.tmp 4]⟩
/-- strings.trimRightUnicode -/
def F128 : DF := ⟨2,
(.seq
(.reg [
.s 4 (.mv (.c (.str [])))] [0,1])
(.seq
(.blk 0
(.seq
(.trim [0,1])
(.lop
(.seq
(.seq
(.seq
(.reg [
.s 7 (.mv (.t 0)),
.s 8 (.lenS (.t 7)),
.s 9 (.bin .gtr none (.t 8) (.c (.int .i64 0)))] [0,1,9])
(.cnd (.t 9)
.skip
(.exit 0)))
(.blk 1
(.seq
(.reg [
.s 10 (.mv (.t 0)),
.s 11 (.mv (.t 0)),
.s 12 (.lenS (.t 11)),
.s 13 (.bin .sub none (.t 12) (.c (.int .i64 1))),
.s 14 (.ixS (.t 10) (.t 13)),
.s 15 (.cvI .i32 (.t 14)),
.s 5 (.mv (.t 15)),
.s 6 (.mv (.c (.int .i64 1)))] [0,1,5,6])
(.seq
(.seq
(.reg [
.s 16 (.mv (.t 5)),
.s 17 (.bin .geq none (.t 16) (.c (.int .i32 128)))] [0,1,5,6,17])
(.cnd (.t 17)
(.reg [
.s 19 (.mv (.t 0)),
.s 20 (.call 144 [(.t 19)]),
.s 18 (.mv (.t 20)),
.s 21 (.ext (.t 18) 0),
.s 22 (.ext (.t 18) 1),
.s 5 (.mv (.t 21)),
.s 6 (.mv (.t 22))] [0,1,5,6])
.skip))
(.seq
(.seq
(.reg [
.s 23 (.mv (.t 1)),
.s 24 (.mv (.t 5)),
.s 25 (.call 143 [(.t 23),(.t 24)]),
.s 26 (.un .not (.t 25))] [0,1,6,26])
(.cnd (.t 26)
(.exit 0)
.skip))
(.reg [
.s 27 (.mv (.t 0)),
.s 28 (.mv (.t 0)),
.s 29 (.lenS (.t 28)),
.s 30 (.mv (.t 6)),
.s 31 (.bin .sub none (.t 29) (.t 30)),
.s 32 (.slS (.t 27) none (some (.t 31))),
.s 0 (.mv (.t 32))] [0,1]))))))
(.trim [0,1])))))
(.seq
(.reg [
.s 33 (.mv (.t 0)),
.s 4 (.mv (.t 33))] [4])
.ret))),
[.tmp 4]⟩
/-- emend/num.digit -/
def F129 : DF := ⟨1,
(.seq
(.reg [
.s 2 (.mv (.c (.bool false)))] [0])
(.seq
(.reg [
.s 3 (.mv (.t 0)),
.s 4 (.bin .geq none (.t 3) (.c (.int .u8 48))),
.s 5 (.mv (.t 4)),
.g 6 (.mv (.t 0)) 5 true,
.g 7 (.bin .leq none (.t 6) (.c (.int .u8 57))) 5 true,
.s 8 (.pick (.t 5) (.t 7) (.c (.bool false))),
.s 2 (.mv (.t 8))] [2])
.ret)),
[.tmp 2]⟩
/-- internal/strconv.Itoa -/
def F130 : DF := ⟨1,
(.seq
(.reg [
.s 2 (.mv (.c (.str [])))] [0])
(.seq
(.reg [
.s 3 (.mv (.t 0)),
.s 4 (.call 145 [(.t 3),(.c (.int .i64 10))]),
.s 2 (.mv (.t 4))] [2])
.ret)),
[.tmp 2]⟩
/-- internal/stringslite.HasSuffix -/
def F131 : DF := ⟨2,
(.seq
(.reg [
.s 4 (.mv (.c (.bool false)))] [0,1])
(.seq
(.reg [
.s 5 (.mv (.t 0)),
.s 6 (.lenS (.t 5)),
.s 7 (.mv (.t 1)),
.s 8 (.lenS (.t 7)),
.s 9 (.bin .geq none (.t 6) (.t 8)),
.s 10 (.mv (.t 9)),
.g 11 (.mv (.t 0)) 10 true,
.g 12 (.mv (.t 0)) 10 true,
.g 13 (.lenS (.t 12)) 10 true,
.g 14 (.mv (.t 1)) 10 true,
.g 15 (.lenS (.t 14)) 10 true,
.g 16 (.bin .sub none (.t 13) (.t 15)) 10 true,
.g 17 (.slS (.t 11) (some (.t 16)) none) 10 true,
.g 18 (.mv (.t 1)) 10 true,
.g 19 (.bin .eql (some .str) (.t 17) (.t 18)) 10 true,
.s 20 (.pick (.t 10) (.t 19) (.c (.bool false))),
.s 4 (.mv (.t 20))] [4])
.ret)),
[.tmp 4]⟩
/-- internal/stringslite.Index -/
def F132 : DF := ⟨2,
(.seq
(.reg [
.s 4 (.mv (.c (.int .i64 0)))] [0,1])
(.seq
(.reg [
.s 14 (.mv (.t 1)),
.s 15 (.lenS (.t 14)),
.s 5 (.mv (.t 15))] [0,1,5])
(.seq
(.blk 0
(.seq
(.reg [
.s 17 (.mv (.t 5)),
.s 18 (.bin .eql (some .int) (.t 17) (.c (.int .i64 0))),
.s 19 (.mv (.t 18)),
.g 20 (.mv (.t 1)) 19 false,
.g 21 (.mv (.t 0)) 19 false,
.g 22 (.bin .eql (some .str) (.t 20) (.t 21)) 19 false,
.s 23 (.pick (.t 19) (.c (.bool true)) (.t 22)),
.s 16 (.mv (.t 23))] [0,1,5,16])
(.cnd (.t 16)
(.seq
(.reg [
.s 4 (.mv (.c (.int .i64 0)))] [4])
.ret)
(.seq
(.reg [
.s 25 (.mv (.t 5)),
.s 26 (.bin .eql (some .int) (.t 25) (.c (.int .i64 1))),
.s 24 (.mv (.t 26))] [0,1,5,24])
(.cnd (.t 24)
(.seq
(.reg [
.s 27 (.mv (.t 0)),
.s 28 (.mv (.t 1)),
.s 29 (.ixS (.t 28) (.c (.int .i64 0))),
.s 30 (.call 146 [(.t 27),(.t 29)]),
.s 4 (.mv (.t 30))] [4])
.ret)
(.seq
(.reg [
.s 32 (.mv (.t 5)),
.s 33 (.mv (.t 0)),
.s 34 (.lenS (.t 33)),
.s 35 (.bin .geq none (.t 32) (.t 34)),
.s 31 (.mv (.t 35))] [0,1,5,31])
(.cnd (.t 31)
(.seq
(.reg [
.s 4 (.mv (.c (.int .i64 (-1))))] [4])
.ret)
(.seq
(.reg [
.s 37 (.mv (.t 5)),
.s 38 (.ld false 1 (.g 0)),
.s 39 (.bin .leq none (.t 37) (.t 38)),
.s 40 (.mv (.t 39)),
.g 41 (.mv (.t 0)) 40 true,
.g 42 (.lenS (.t 41)) 40 true,
.g 43 (.bin .leq none (.t 42) (.c (.int .i64 64))) 40 true,
.s 44 (.pick (.t 40) (.t 43) (.c (.bool false))),
.s 36 (.mv (.t 44))] [0,1,5,36])
(.cnd (.t 36)
(.seq
.fail
.ret)
.skip)))))))))
(.seq
(.reg [
.s 48 (.mv (.t 1)),
.s 49 (.ixS (.t 48) (.c (.int .i64 0))),
.s 6 (.mv (.t 49))] [0,1,5,6])
(.seq
(.reg [
.s 50 (.mv (.t 1)),
.s 51 (.ixS (.t 50) (.c (.int .i64 1))),
.s 7 (.mv (.t 51))] [0,1,5,6,7])
(.seq
(.reg [
.s 8 (.mv (.c (.int .i64 0)))] [0,1,5,6,7,8])
(.seq
(.reg [
.s 52 (.mv (.t 0)),
.s 53 (.lenS (.t 52)),
.s 54 (.mv (.t 5)),
.s 55 (.bin .sub none (.t 53) (.t 54)),
.s 56 (.bin .add none (.t 55) (.c (.int .i64 1))),
.s 9 (.mv (.t 56))] [0,1,5,6,7,8,9])
(.seq
(.reg [
.s 10 (.mv (.c (.int .i64 0)))] [0,1,5,6,7,8,9,10])
(.seq
(.blk 1
(.seq
(.trim [0,1,5,6,7,8,9,10])
(.lop
(.seq
(.seq
(.seq
(.reg [
.s 57 (.mv (.t 8)),
.s 58 (.mv (.t 9)),
.s 59 (.bin .lss none (.t 57) (.t 58))] [0,1,5,6,7,8,9,10,59])
(.cnd (.t 59)
.skip
(.exit 1)))
(.blk 2
(.seq
(.seq
(.reg [
.s 60 (.mv (.t 0)),
.s 61 (.mv (.t 8)),
.s 62 (.ixS (.t 60) (.t 61)),
.s 63 (.mv (.t 6)),
.s 64 (.bin .neq (some .int) (.t 62) (.t 63))] [0,1,5,6,7,8,9,10,64])
(.cnd (.t 64)
(.seq
(.reg [
.s 65 (.mv (.t 0)),
.s 66 (.mv (.t 8)),
.s 67 (.bin .add none (.t 66) (.c (.int .i64 1))),
.s 68 (.mv (.t 9)),
.s 69 (.slS (.t 65) (some (.t 67)) (some (.t 68))),
.s 70 (.mv (.t 6)),
.s 71 (.call 146 [(.t 69),(.t 70)]),
.s 11 (.mv (.t 71))] [0,1,5,6,7,8,9,10,11])
(.seq
(.seq
(.reg [
.s 72 (.mv (.t 11)),
.s 73 (.bin .lss none (.t 72) (.c (.int .i64 0)))] [0,1,5,6,7,8,9,10,11,73])
(.cnd (.t 73)
(.seq
(.reg [
.s 4 (.mv (.c (.int .i64 (-1))))] [4])
.ret)
.skip))
(.reg [
.s 74 (.mv (.t 8)),
.s 75 (.mv (.t 11)),
.s 76 (.bin .add none (.t 75) (.c (.int .i64 1))),
.s 77 (.bin .add none (.t 74) (.t 76)),
.s 8 (.mv (.t 77))] [0,1,5,6,7,8,9,10])))
.skip))
(.seq
(.seq
(.reg [
.s 78 (.mv (.t 0)),
.s 79 (.mv (.t 8)),
.s 80 (.bin .add none (.t 79) (.c (.int .i64 1))),
.s 81 (.ixS (.t 78) (.t 80)),
.s 82 (.mv (.t 7)),
.s 83 (.bin .eql (some .int) (.t 81) (.t 82)),
.s 84 (.mv (.t 83)),
.g 85 (.mv (.t 0)) 84 true,
.g 86 (.mv (.t 8)) 84 true,
.g 87 (.mv (.t 8)) 84 true,
.g 88 (.mv (.t 5)) 84 true,
.g 89 (.bin .add none (.t 87) (.t 88)) 84 true,
.g 90 (.slS (.t 85) (some (.t 86)) (some (.t 89))) 84 true,
.g 91 (.mv (.t 1)) 84 true,
.g 92 (.bin .eql (some .str) (.t 90) (.t 91)) 84 true,
.s 93 (.pick (.t 84) (.t 92) (.c (.bool false)))] [0,1,5,6,7,8,9,10,93])
(.cnd (.t 93)
(.seq
(.reg [
.s 94 (.mv (.t 8)),
.s 4 (.mv (.t 94))] [4])
.ret)
.skip))
(.seq
(.reg [
.s 95 (.mv (.t 8)),
.s 96 (.bin .add none (.t 95) (.c (.int .i64 1))),
.s 8 (.mv (.t 96))] [0,1,5,6,7,8,9,10])
(.seq
(.reg [
.s 97 (.mv (.t 10)),
.s 98 (.bin .add none (.t 97) (.c (.int .i64 1))),
.s 10 (.mv (.t 98))] [0,1,5,6,7,8,9,10])
(.seq
(.reg [
.s 99 (.mv (.t 5)),
.s 100 (.ld false 1 (.g 0)),
.s 101 (.bin .leq none (.t 99) (.t 100)),
.s 102 (.mv (.t 101)),
.g 103 (.mv (.t 10)) 102 true,
.g 104 (.mv (.t 8)) 102 true,
.g 105 (.call 148 [(.t 104)]) 102 true,
.g 106 (.bin .gtr none (.t 103) (.t 105)) 102 true,
.s 107 (.pick (.t 102) (.t 106) (.c (.bool false)))] [0,1,5,6,7,8,9,10,107])
(.cnd (.t 107)
(.seq
.fail
(.seq
(.seq
(.reg [
.s 113 (.mv (.t 12)),
.s 114 (.bin .geq none (.t 113) (.c (.int .i64 0)))] [8,12,114])
(.cnd (.t 114)
(.seq
(.reg [
.s 115 (.mv (.t 12)),
.s 116 (.mv (.t 8)),
.s 117 (.bin .add none (.t 115) (.t 116)),
.s 4 (.mv (.t 117))] [4])
.ret)
.skip))
(.seq
(.reg [
.s 4 (.mv (.c (.int .i64 (-1))))] [4])
.ret)))
(.seq
(.reg [
.s 118 (.mv (.t 5)),
.s 119 (.ld false 1 (.g 0)),
.s 120 (.bin .gtr none (.t 118) (.t 119)),
.s 121 (.mv (.t 120)),
.g 122 (.mv (.t 10)) 121 true,
.g 123 (.mv (.t 8)) 121 true,
.g 124 (.bin .shr none (.t 123) (.c (.int .u64 4))) 121 true,
.g 125 (.bin .add none (.c (.int .i64 4)) (.t 124)) 121 true,
.g 126 (.bin .geq none (.t 122) (.t 125)) 121 true,
.s 127 (.pick (.t 121) (.t 126) (.c (.bool false))),
.s 128 (.mv (.t 127)),
.g 129 (.mv (.t 8)) 128 true,
.g 130 (.mv (.t 9)) 128 true,
.g 131 (.bin .lss none (.t 129) (.t 130)) 128 true,
.s 132 (.pick (.t 128) (.t 131) (.c (.bool false)))] [0,1,5,6,7,8,9,10,132])
(.cnd (.t 132)
(.seq
(.reg [
.s 133 (.mv (.t 0)),
.s 134 (.mv (.t 8)),
.s 135 (.slS (.t 133) (some (.t 134)) none),
.s 136 (.mv (.t 1)),
.s 137 (.call 149 [(.t 135),(.t 136)]),
.s 13 (.mv (.t 137))] [8,13])
(.seq
(.seq
(.reg [
.s 138 (.mv (.t 13)),
.s 139 (.bin .lss none (.t 138) (.c (.int .i64 0)))] [8,13,139])
(.cnd (.t 139)
(.seq
(.reg [
.s 4 (.mv (.c (.int .i64 (-1))))] [4])
.ret)
.skip))
(.seq
(.reg [
.s 140 (.mv (.t 8)),
.s 141 (.mv (.t 13)),
.s 142 (.bin .add none (.t 140) (.t 141)),
.s 4 (.mv (.t 142))] [4])
.ret)))
.skip))))))))))
(.trim [0,1,5,6,7,8,9,10])))))
(.seq
(.reg [
.s 4 (.mv (.c (.int .i64 (-1))))] [4])
.ret)))))))))),
[.tmp 4]⟩
/-- slices.rotateCmpFunc[int] -/
def F133 : DF := ⟨5,
(.seq
(.reg [
.s 12 (.mv (.t 2)),
.s 13 (.mv (.t 1)),
.s 14 (.bin .sub none (.t 12) (.t 13)),
.s 10 (.mv (.t 14))] [0,2,3,4,10])
(.seq
(.reg [
.s 15 (.mv (.t 3)),
.s 16 (.mv (.t 2)),
.s 17 (.bin .sub none (.t 15) (.t 16)),
.s 11 (.mv (.t 17))] [0,2,4,10,11])
(.seq
(.blk 0
(.seq
(.trim [0,2,4,10,11])
(.lop
(.seq
(.seq
(.seq
(.reg [
.s 18 (.mv (.t 10)),
.s 19 (.mv (.t 11)),
.s 20 (.bin .neq (some .int) (.t 18) (.t 19))] [0,2,4,10,11,20])
(.cnd (.t 20)
.skip
(.exit 0)))
(.blk 1
(.seq
(.reg [
.s 21 (.mv (.t 10)),
.s 22 (.mv (.t 11)),
.s 23 (.bin .gtr none (.t 21) (.t 22))] [0,2,4,10,11,23])
(.cnd (.t 23)
(.seq
(.reg [
.s 24 (.mv (.t 0)),
.s 25 (.mv (.t 2)),
.s 26 (.mv (.t 10)),
.s 27 (.bin .sub none (.t 25) (.t 26)),
.s 28 (.mv (.t 2)),
.s 29 (.mv (.t 11)),
.s 30 (.mv (.t 4)),
.s 31 (.call 150 [(.t 24),(.t 27),(.t 28),(.t 29),(.t 30)])] [0,2,4,10,11])
(.reg [
.s 32 (.mv (.t 10)),
.s 33 (.mv (.t 11)),
.s 34 (.bin .sub none (.t 32) (.t 33)),
.s 10 (.mv (.t 34))] [0,2,4,10,11]))
(.seq
(.reg [
.s 35 (.mv (.t 0)),
.s 36 (.mv (.t 2)),
.s 37 (.mv (.t 10)),
.s 38 (.bin .sub none (.t 36) (.t 37)),
.s 39 (.mv (.t 2)),
.s 40 (.mv (.t 11)),
.s 41 (.bin .add none (.t 39) (.t 40)),
.s 42 (.mv (.t 10)),
.s 43 (.bin .sub none (.t 41) (.t 42)),
.s 44 (.mv (.t 10)),
.s 45 (.mv (.t 4)),
.s 46 (.call 150 [(.t 35),(.t 38),(.t 43),(.t 44),(.t 45)])] [0,2,4,10,11])
(.reg [
.s 47 (.mv (.t 11)),
.s 48 (.mv (.t 10)),
.s 49 (.bin .sub none (.t 47) (.t 48)),
.s 11 (.mv (.t 49))] [0,2,4,10,11]))))))
(.trim [0,2,4,10,11])))))
(.reg [
.s 50 (.mv (.t 0)),
.s 51 (.mv (.t 2)),
.s 52 (.mv (.t 10)),
.s 53 (.bin .sub none (.t 51) (.t 52)),
.s 54 (.mv (.t 2)),
.s 55 (.mv (.t 10)),
.s 56 (.mv (.t 4)),
.s 57 (.call 150 [(.t 50),(.t 53),(.t 54),(.t 55),(.t 56)])] [])))),
[]⟩
/-- internal/stringslite.HasPrefix -/
def F137 : DF := ⟨2,
(.seq
(.reg [
.s 4 (.mv (.c (.bool false)))] [0,1])
(.seq
(.reg [
.s 5 (.mv (.t 0)),
.s 6 (.lenS (.t 5)),
.s 7 (.mv (.t 1)),
.s 8 (.lenS (.t 7)),
.s 9 (.bin .geq none (.t 6) (.t 8)),
.s 10 (.mv (.t 9)),
.g 11 (.mv (.t 0)) 10 true,
.g 12 (.mv (.t 1)) 10 true,
.g 13 (.lenS (.t 12)) 10 true,
.g 14 (.slS (.t 11) none (some (.t 13))) 10 true,
.g 15 (.mv (.t 1)) 10 true,
.g 16 (.bin .eql (some .str) (.t 14) (.t 15)) 10 true,
.s 17 (.pick (.t 10) (.t 16) (.c (.bool false))),
.s 4 (.mv (.t 17))] [4])
.ret)),
[.tmp 4]⟩
/-- internal/stringslite.TrimPrefix -/
def F138 : DF := ⟨2,
(.seq
(.reg [
.s 4 (.mv (.c (.str [])))] [0,1])
(.seq
(.seq
(.reg [
.s 5 (.mv (.t 0)),
.s 6 (.mv (.t 1)),
.s 7 (.call 137 [(.t 5),(.t 6)])] [0,1,7])
(.cnd (.t 7)
(.seq
(.reg [
.s 8 (.mv (.t 0)),
.s 9 (.mv (.t 1)),
.s 10 (.lenS (.t 9)),
.s 11 (.slS (.t 8) (some (.t 10)) none),
.s 4 (.mv (.t 11))] [4])
.ret)
.skip))
(.seq
(.reg [
.s 12 (.mv (.t 0)),
.s 4 (.mv (.t 12))] [4])
.ret))),
[.tmp 4]⟩
/-- internal/strconv.Atoi -/
def F139 : DF := ⟨1,
(.seq
(.reg [
.s 2 (.mv (.c (.int .i64 0))),
.s 3 (.mv (.c .nilif))] [0])
(.seq
(.reg [
.s 11 (.mv (.t 0)),
.s 12 (.lenS (.t 11)),
.s 4 (.mv (.t 12))] [0,4])
(.seq
(.seq
(.reg [
.s 13 (.mv (.c (.bool false))),
.g 14 (.mv (.t 4)) 13 true,
.g 15 (.bin .lss none (.c (.int .i64 0)) (.t 14)) 13 true,
.g 16 (.mv (.t 15)) 13 true,
.g 17 (.mv (.t 4)) 16 true,
.g 18 (.bin .lss none (.t 17) (.c (.int .i64 10))) 16 true,
.g 19 (.pick (.t 16) (.t 18) (.c (.bool false))) 13 true,
.s 20 (.pick (.t 13) (.t 19) (.c (.bool false))),
.s 21 (.mv (.t 20)),
.g 22 (.mv (.c (.bool true))) 21 false,
.g 23 (.mv (.t 4)) 22 true,
.g 24 (.bin .lss none (.c (.int .i64 0)) (.t 23)) 22 true,
.g 25 (.mv (.t 24)) 22 true,
.g 26 (.mv (.t 4)) 25 true,
.g 27 (.bin .lss none (.t 26) (.c (.int .i64 19))) 25 true,
.g 28 (.pick (.t 25) (.t 27) (.c (.bool false))) 22 true,
.g 29 (.pick (.t 22) (.t 28) (.c (.bool false))) 21 false,
.s 30 (.pick (.t 21) (.c (.bool true)) (.t 29))] [0,30])
(.cnd (.t 30)
(.seq
(.reg [
.s 31 (.mv (.t 0)),
.s 5 (.mv (.t 31))] [0,5])
(.seq
(.seq
(.reg [
.s 32 (.mv (.t 0)),
.s 33 (.ixS (.t 32) (.c (.int .i64 0))),
.s 34 (.bin .eql (some .int) (.t 33) (.c (.int .u8 45))),
.s 35 (.mv (.t 34)),
.g 36 (.mv (.t 0)) 35 false,
.g 37 (.ixS (.t 36) (.c (.int .i64 0))) 35 false,
.g 38 (.bin .eql (some .int) (.t 37) (.c (.int .u8 43))) 35 false,
.s 39 (.pick (.t 35) (.c (.bool true)) (.t 38))] [0,5,39])
(.cnd (.t 39)
(.seq
(.reg [
.s 40 (.mv (.t 0)),
.s 41 (.slS (.t 40) (some (.c (.int .i64 1))) none),
.s 0 (.mv (.t 41))] [0,5])
(.seq
(.reg [
.s 42 (.mv (.t 0)),
.s 43 (.lenS (.t 42)),
.s 44 (.bin .lss none (.t 43) (.c (.int .i64 1)))] [0,5,44])
(.cnd (.t 44)
(.seq
(.reg [
.s 45 (.mki 156 (.c (.int .i64 2))),
.s 2 (.mv (.c (.int .i64 0))),
.s 3 (.mv (.t 45))] [2,3])
.ret)
.skip)))
.skip))
(.seq
(.reg [
.s 6 (.mv (.c (.int .i64 0)))] [0,5,6])
(.seq
(.seq
(.reg [
.s 46 (.mv (.t 0)),
.s 47 (.cvSB 5 (.t 46)),
.s 48 (.len (.t 47)),
.s 49 (.mv (.c (.int .i64 0)))] [5,6,47,48,49])
(.blk 0
(.seq
(.trim [5,6,47,48,49])
(.lop
(.seq
(.seq
(.reg [
.s 50 (.bin .lss none (.t 49) (.t 48))] [5,6,47,48,49,50])
(.seq
(.cnd (.t 50)
.skip
(.exit 0))
(.seq
(.blk 1
(.seq
(.reg [
.s 51 (.ia 1 (.t 47) (.t 49)),
.s 52 (.ld false 1 (.t 51)),
.s 8 (.mv (.t 52))] [5,6,8,47,48,49])
(.seq
(.reg [
.s 53 (.mv (.t 8)),
.s 54 (.bin .sub none (.t 53) (.c (.int .u8 48))),
.s 8 (.mv (.t 54))] [5,6,8,47,48,49])
(.seq
(.seq
(.reg [
.s 55 (.mv (.t 8)),
.s 56 (.bin .gtr none (.t 55) (.c (.int .u8 9)))] [5,6,8,47,48,49,56])
(.cnd (.t 56)
(.seq
(.reg [
.s 57 (.mki 156 (.c (.int .i64 2))),
.s 2 (.mv (.c (.int .i64 0))),
.s 3 (.mv (.t 57))] [2,3])
.ret)
.skip))
(.reg [
.s 58 (.mv (.t 6)),
.s 59 (.bin .mul none (.t 58) (.c (.int .i64 10))),
.s 60 (.mv (.t 8)),
.s 61 (.cvI .i64 (.t 60)),
.s 62 (.bin .add none (.t 59) (.t 61)),
.s 6 (.mv (.t 62))] [5,6,47,48,49])))))
(.reg [
.s 63 (.bin .add none (.t 49) (.c (.int .i64 1))),
.s 49 (.mv (.t 63))] [5,6,47,48,49]))))
(.trim [5,6,47,48,49]))))))
(.seq
(.seq
(.reg [
.s 64 (.mv (.t 5)),
.s 65 (.ixS (.t 64) (.c (.int .i64 0))),
.s 66 (.bin .eql (some .int) (.t 65) (.c (.int .u8 45)))] [6,66])
(.cnd (.t 66)
(.reg [
.s 67 (.mv (.t 6)),
.s 68 (.un .neg (.t 67)),
.s 6 (.mv (.t 68))] [6])
.skip))
(.seq
(.reg [
.s 69 (.mv (.t 6)),
.s 2 (.mv (.t 69)),
.s 3 (.mv (.c .nilif))] [2,3])
.ret))))))
.skip))
(.seq
(.reg [
.s 71 (.mv (.t 0)),
.s 72 (.call 152 [(.t 71),(.c (.int .i64 10)),(.c (.int .i64 0))]),
.s 70 (.mv (.t 72)),
.s 73 (.ext (.t 70) 0),
.s 74 (.ext (.t 70) 1),
.s 9 (.mv (.t 73)),
.s 10 (.mv (.t 74))] [9,10])
(.seq
(.reg [
.s 75 (.mv (.t 9)),
.s 76 (.mv (.t 10)),
.s 2 (.mv (.t 75)),
.s 3 (.mv (.t 76))] [2,3])
.ret))))),
[.tmp 2,.tmp 3]⟩
/-- strconv.toError -/
def F140 : DF := ⟨5,
(.seq
(.reg [
.s 10 (.mv (.c .nilif))] [0,1,2,3,4])
(.seq
(.seq
(.reg [
.s 11 (.mv (.t 4))] [0,1,2,3,4,11])
(.blk 0
(.seq
(.reg [
.s 13 (.mki 156 (.c (.int .i64 2))),
.s 14 (.bin .eql none (.t 11) (.t 13)),
.s 12 (.mv (.t 14))] [0,1,2,3,4,11,12])
(.cnd (.t 12)
(.seq
(.reg [
.s 15 (.mv (.t 0)),
.s 16 (.mv (.t 1)),
.s 17 (.call 153 [(.t 15),(.t 16)]),
.s 18 (.mki 159 (.t 17)),
.s 10 (.mv (.t 18))] [10])
.ret)
(.seq
(.reg [
.s 20 (.mki 156 (.c (.int .i64 1))),
.s 21 (.bin .eql none (.t 11) (.t 20)),
.s 19 (.mv (.t 21))] [0,1,2,3,4,11,19])
(.cnd (.t 19)
(.seq
(.reg [
.s 22 (.mv (.t 0)),
.s 23 (.mv (.t 1)),
.s 24 (.call 154 [(.t 22),(.t 23)]),
.s 25 (.mki 159 (.t 24)),
.s 10 (.mv (.t 25))] [10])
.ret)
(.seq
(.reg [
.s 27 (.mki 156 (.c (.int .i64 3))),
.s 28 (.bin .eql none (.t 11) (.t 27)),
.s 26 (.mv (.t 28))] [0,1,2,3,4,11,26])
(.cnd (.t 26)
(.seq
(.reg [
.s 29 (.mv (.t 0)),
.s 30 (.mv (.t 1)),
.s 31 (.mv (.t 2)),
.s 32 (.call 155 [(.t 29),(.t 30),(.t 31)]),
.s 33 (.mki 159 (.t 32)),
.s 10 (.mv (.t 33))] [10])
.ret)
(.seq
(.reg [
.s 35 (.mki 156 (.c (.int .i64 4))),
.s 36 (.bin .eql none (.t 11) (.t 35)),
.s 34 (.mv (.t 36))] [0,1,3,4,34])
(.cnd (.t 34)
(.seq
(.reg [
.s 37 (.mv (.t 0)),
.s 38 (.mv (.t 1)),
.s 39 (.mv (.t 3)),
.s 40 (.call 156 [(.t 37),(.t 38),(.t 39)]),
.s 41 (.mki 159 (.t 40)),
.s 10 (.mv (.t 41))] [10])
.ret)
.skip))))))))))
(.seq
(.reg [
.s 42 (.mv (.t 4)),
.s 10 (.mv (.t 42))] [10])
.ret))),
[.tmp 10]⟩
/-- (*strings.asciiSet).contains -/
def F141 : DF := ⟨2,
(.seq
(.reg [
.s 4 (.mv (.c (.bool false)))] [0,1])
(.seq
(.reg [
.s 5 (.mv (.t 0)),
.s 6 (.mv (.t 1)),
.s 7 (.nilc (.t 5)),
.s 8 (.iaA 1 256 (.t 7) (.t 6)),
.s 9 (.ld false 1 (.t 8)),
.s 4 (.mv (.t 9))] [4])
.ret)),
[.tmp 4]⟩
/-- unicode/utf8.DecodeRuneInString -/
def F142 : DF := ⟨1,
(.seq
(.reg [
.s 2 (.mv (.c (.int .i32 0))),
.s 3 (.mv (.c (.int .i64 0)))] [0])
(.seq
(.seq
(.reg [
.s 4 (.mv (.t 0)),
.s 5 (.bin .neq (some .str) (.t 4) (.c (.str []))),
.s 6 (.mv (.t 5)),
.g 7 (.mv (.t 0)) 6 true,
.g 8 (.ixS (.t 7) (.c (.int .i64 0))) 6 true,
.g 9 (.bin .lss none (.t 8) (.c (.int .u8 128))) 6 true,
.s 10 (.pick (.t 6) (.t 9) (.c (.bool false)))] [0,10])
(.cnd (.t 10)
(.seq
(.reg [
.s 11 (.mv (.t 0)),
.s 12 (.ixS (.t 11) (.c (.int .i64 0))),
.s 13 (.cvI .i32 (.t 12)),
.s 2 (.mv (.t 13)),
.s 3 (.mv (.c (.int .i64 1)))] [2,3])
.ret)
(.reg [
.s 15 (.mv (.t 0)),
.s 16 (.call 157 [(.t 15)]),
.s 14 (.mv (.t 16)),
.s 17 (.ext (.t 14) 0),
.s 18 (.ext (.t 14) 1),
.s 2 (.mv (.t 17)),
.s 3 (.mv (.t 18))] [2,3])))
.ret)),
[.tmp 2,.tmp 3]⟩
/-- strings.ContainsRune -/
def F143 : DF := ⟨2,
(.seq
(.reg [
.s 4 (.mv (.c (.bool false)))] [0,1])
(.seq
(.reg [
.s 5 (.mv (.t 0)),
.s 6 (.mv (.t 1)),
.s 7 (.call 158 [(.t 5),(.t 6)]),
.s 8 (.bin .geq none (.t 7) (.c (.int .i64 0))),
.s 4 (.mv (.t 8))] [4])
.ret)),
[.tmp 4]⟩
/-- unicode/utf8.DecodeLastRuneInString -/
def F144 : DF := ⟨1,
(.seq
(.reg [
.s 2 (.mv (.c (.int .i32 0))),
.s 3 (.mv (.c (.int .i64 0)))] [0])
(.seq
(.reg [
.s 7 (.mv (.t 0)),
.s 8 (.lenS (.t 7)),
.s 4 (.mv (.t 8))] [0,4])
(.seq
(.seq
(.reg [
.s 9 (.mv (.t 4)),
.s 10 (.bin .eql (some .int) (.t 9) (.c (.int .i64 0)))] [0,4,10])
(.cnd (.t 10)
(.seq
(.reg [
.s 2 (.mv (.c (.int .i32 65533))),
.s 3 (.mv (.c (.int .i64 0)))] [2,3])
.ret)
.skip))
(.seq
(.reg [
.s 11 (.mv (.t 4)),
.s 12 (.bin .sub none (.t 11) (.c (.int .i64 1))),
.s 5 (.mv (.t 12))] [0,4,5])
(.seq
(.reg [
.s 13 (.mv (.t 0)),
.s 14 (.mv (.t 5)),
.s 15 (.ixS (.t 13) (.t 14)),
.s 16 (.cvI .i32 (.t 15)),
.s 2 (.mv (.t 16))] [0,2,4,5])
(.seq
(.seq
(.reg [
.s 17 (.mv (.t 2)),
.s 18 (.bin .lss none (.t 17) (.c (.int .i32 128)))] [0,2,4,5,18])
(.cnd (.t 18)
(.seq
(.reg [
.s 19 (.mv (.t 2)),
.s 2 (.mv (.t 19)),
.s 3 (.mv (.c (.int .i64 1)))] [2,3])
.ret)
.skip))
(.seq
(.reg [
.s 20 (.mv (.t 4)),
.s 21 (.bin .sub none (.t 20) (.c (.int .i64 4))),
.s 22 (.mx [(.t 21),(.c (.int .i64 0))]),
.s 6 (.mv (.t 22))] [0,4,5,6])
(.seq
(.seq
(.reg [
.s 23 (.mv (.t 5)),
.s 24 (.bin .sub none (.t 23) (.c (.int .i64 1))),
.s 5 (.mv (.t 24))] [0,4,5,6])
(.blk 0
(.seq
(.trim [0,4,5,6])
(.lop
(.seq
(.seq
(.seq
(.reg [
.s 25 (.mv (.t 5)),
.s 26 (.mv (.t 6)),
.s 27 (.bin .geq none (.t 25) (.t 26))] [0,4,5,6,27])
(.cnd (.t 27)
.skip
(.exit 0)))
(.seq
(.blk 1
(.seq
(.reg [
.s 30 (.mv (.t 0)),
.s 31 (.mv (.t 5)),
.s 32 (.ixS (.t 30) (.t 31)),
.s 33 (.call 159 [(.t 32)])] [0,4,5,6,33])
(.cnd (.t 33)
(.exit 0)
.skip)))
(.reg [
.s 28 (.mv (.t 5)),
.s 29 (.bin .sub none (.t 28) (.c (.int .i64 1))),
.s 5 (.mv (.t 29))] [0,4,5,6])))
(.trim [0,4,5,6]))))))
(.seq
(.seq
(.reg [
.s 34 (.mv (.t 5)),
.s 35 (.bin .lss none (.t 34) (.c (.int .i64 0)))] [0,4,5,35])
(.cnd (.t 35)
(.reg [
.s 5 (.mv (.c (.int .i64 0)))] [0,4,5])
.skip))
(.seq
(.reg [
.s 37 (.mv (.t 0)),
.s 38 (.mv (.t 5)),
.s 39 (.mv (.t 4)),
.s 40 (.slS (.t 37) (some (.t 38)) (some (.t 39))),
.s 41 (.call 142 [(.t 40)]),
.s 36 (.mv (.t 41)),
.s 42 (.ext (.t 36) 0),
.s 43 (.ext (.t 36) 1),
.s 2 (.mv (.t 42)),
.s 3 (.mv (.t 43))] [2,3,4,5])
(.seq
(.seq
(.reg [
.s 44 (.mv (.t 5)),
.s 45 (.mv (.t 3)),
.s 46 (.bin .add none (.t 44) (.t 45)),
.s 47 (.mv (.t 4)),
.s 48 (.bin .neq (some .int) (.t 46) (.t 47))] [2,3,48])
(.cnd (.t 48)
(.seq
(.reg [
.s 2 (.mv (.c (.int .i32 65533))),
.s 3 (.mv (.c (.int .i64 1)))] [2,3])
.ret)
.skip))
(.seq
(.reg [
.s 49 (.mv (.t 2)),
.s 50 (.mv (.t 3)),
.s 2 (.mv (.t 49)),
.s 3 (.mv (.t 50))] [2,3])
.ret)))))))))))),
[.tmp 2,.tmp 3]⟩
/-- internal/strconv.FormatInt -/
def F145 : DF := ⟨2,
(.seq
(.reg [
.s 4 (.mv (.c (.str [])))] [0,1])
(.seq
(.seq
(.reg [
.s 10 (.mv (.t 1)),
.s 11 (.bin .eql (some .int) (.t 10) (.c (.int .i64 10)))] [0,1,11])
(.cnd (.t 11)
(.seq
(.seq
(.reg [
.s 12 (.mv (.t 0)),
.s 13 (.bin .leq none (.c (.int .i64 0)) (.t 12)),
.s 14 (.mv (.t 13)),
.g 15 (.mv (.t 0)) 14 true,
.g 16 (.bin .lss none (.t 15) (.c (.int .i64 100))) 14 true,
.s 17 (.pick (.t 14) (.t 16) (.c (.bool false)))] [0,17])
(.cnd (.t 17)
(.seq
(.reg [
.s 18 (.mv (.t 0)),
.s 19 (.call 160 [(.t 18)]),
.s 4 (.mv (.t 19))] [4])
.ret)
.skip))
(.seq
(.reg [
.s 5 (.alH 163 [(.int .u8 0),(.int .u8 0),(.int .u8 0),(.int .u8 0),(.int .u8 0),(.int .u8 0),(.int .u8 0),(.int .u8 0),(.int .u8 0),(.int .u8 0),(.int .u8 0),(.int .u8 0),(.int .u8 0),(.int .u8 0),(.int .u8 0),(.int .u8 0),(.int .u8 0),(.int .u8 0),(.int .u8 0),(.int .u8 0),(.int .u8 0),(.int .u8 0),(.int .u8 0),(.int .u8 0)])] [0,5])
(.seq
(.reg [
.s 20 (.mv (.t 0)),
.s 21 (.cvI .u64 (.t 20)),
.s 6 (.mv (.t 21))] [0,5,6])
(.seq
(.seq
(.reg [
.s 22 (.mv (.t 0)),
.s 23 (.bin .lss none (.t 22) (.c (.int .i64 0)))] [0,5,6,23])
(.cnd (.t 23)
(.reg [
.s 24 (.mv (.t 6)),
.s 25 (.un .neg (.t 24)),
.s 6 (.mv (.t 25))] [0,5,6])
.skip))
(.seq
(.reg [
.s 26 (.mv (.t 6)),
.s 27 (.call 161 [(.t 26)]),
.s 7 (.mv (.t 27))] [0,5,6,7])
(.seq
(.reg [
.s 28 (.mv (.t 7)),
.s 29 (.bin .add none (.c (.int .i64 1)) (.t 28)),
.s 30 (.slP 1 24 (.t 5) (some (.c (.int .i64 1))) (some (.t 29))),
.s 31 (.mv (.t 6)),
.s 32 (.call 162 [(.t 30),(.t 31)])] [0,5,7])
(.seq
(.seq
(.reg [
.s 33 (.mv (.t 0)),
.s 34 (.bin .lss none (.t 33) (.c (.int .i64 0)))] [5,7,34])
(.cnd (.t 34)
(.seq
(.reg [
.s 35 (.iaA 1 24 (.t 5) (.c (.int .i64 0))),
.n (.st 1 (.t 35) (.c (.int .u8 45)))] [5,7])
(.seq
(.reg [
.s 36 (.mv (.t 7)),
.s 37 (.bin .add none (.c (.int .i64 1)) (.t 36)),
.s 38 (.slP 1 24 (.t 5) none (some (.t 37))),
.s 39 (.cvBS (.t 38)),
.s 4 (.mv (.t 39))] [4])
.ret))
.skip))
(.seq
(.reg [
.s 40 (.mv (.t 7)),
.s 41 (.bin .add none (.c (.int .i64 1)) (.t 40)),
.s 42 (.slP 1 24 (.t 5) (some (.c (.int .i64 1))) (some (.t 41))),
.s 43 (.cvBS (.t 42)),
.s 4 (.mv (.t 43))] [4])
.ret))))))))
.skip))
(.seq
(.reg [
.s 45 (.mv (.t 0)),
.s 46 (.cvI .u64 (.t 45)),
.s 47 (.mv (.t 1)),
.s 48 (.mv (.t 0)),
.s 49 (.bin .lss none (.t 48) (.c (.int .i64 0))),
.s 50 (.call 163 [(.c (.sl 1 ⟨none,0,(some 0),true⟩ [])),(.t 46),(.t 47),(.t 49),(.c (.bool false))]),
.s 44 (.mv (.t 50)),
.s 51 (.ext (.t 44) 0),
.s 52 (.ext (.t 44) 1),
.s 8 (.mv (.t 51)),
.s 9 (.mv (.t 52))] [9])
(.seq
(.reg [
.s 53 (.mv (.t 9)),
.s 4 (.mv (.t 53))] [4])
.ret)))),
[.tmp 4]⟩
/-- internal/stringslite.IndexByte -/
def F146 : DF := ⟨2,
(.seq
(.reg [
.s 4 (.mv (.c (.int .i64 0)))] [0,1])
(.seq
(.reg [
.s 5 (.mv (.t 0)),
.s 6 (.mv (.t 1)),
.s 7 (.xtn .indexByte [(.t 5),(.t 6)]),
.s 4 (.mv (.t 7))] [4])
.ret)),
[.tmp 4]⟩
/-- internal/bytealg.Cutover -/
def F148 : DF := ⟨1,
(.seq
(.reg [
.s 2 (.mv (.c (.int .i64 0)))] [0])
(.seq
(.reg [
.s 3 (.mv (.t 0)),
.s 4 (.bin .add none (.t 3) (.c (.int .i64 16))),
.s 5 (.bin .quo none (.t 4) (.c (.int .i64 8))),
.s 2 (.mv (.t 5))] [2])
.ret)),
[.tmp 2]⟩
/-- internal/bytealg.IndexRabinKarp[string] -/
def F149 : DF := ⟨2,
(.seq
(.reg [
.s 4 (.mv (.c (.int .i64 0)))] [0,1])
(.seq
(.reg [
.s 12 (.mv (.t 1)),
.s 13 (.call 165 [(.t 12)]),
.s 11 (.mv (.t 13)),
.s 14 (.ext (.t 11) 0),
.s 15 (.ext (.t 11) 1),
.s 5 (.mv (.t 14)),
.s 6 (.mv (.t 15))] [0,1,5,6])
(.seq
(.reg [
.s 16 (.mv (.t 1)),
.s 17 (.lenS (.t 16)),
.s 7 (.mv (.t 17))] [0,1,5,6,7])
(.seq
(.reg [
.s 8 (.mv (.c (.int .u32 0)))] [0,1,5,6,7,8])
(.seq
(.seq
(.reg [
.s 9 (.mv (.c (.int .i64 0)))] [0,1,5,6,7,8,9])
(.blk 0
(.seq
(.trim [0,1,5,6,7,8,9])
(.lop
(.seq
(.seq
(.seq
(.reg [
.s 18 (.mv (.t 9)),
.s 19 (.mv (.t 7)),
.s 20 (.bin .lss none (.t 18) (.t 19))] [0,1,5,6,7,8,9,20])
(.cnd (.t 20)
.skip
(.exit 0)))
(.seq
(.blk 1
(.reg [
.s 23 (.mv (.t 8)),
.s 24 (.bin .mul none (.t 23) (.c (.int .u32 16777619))),
.s 25 (.mv (.t 0)),
.s 26 (.mv (.t 9)),
.s 27 (.ixS (.t 25) (.t 26)),
.s 28 (.cvI .u32 (.t 27)),
.s 29 (.bin .add none (.t 24) (.t 28)),
.s 8 (.mv (.t 29))] [0,1,5,6,7,8,9]))
(.reg [
.s 21 (.mv (.t 9)),
.s 22 (.bin .add none (.t 21) (.c (.int .i64 1))),
.s 9 (.mv (.t 22))] [0,1,5,6,7,8,9])))
(.trim [0,1,5,6,7,8,9]))))))
(.seq
(.seq
(.reg [
.s 30 (.mv (.t 8)),
.s 31 (.mv (.t 5)),
.s 32 (.bin .eql (some .int) (.t 30) (.t 31)),
.s 33 (.mv (.t 32)),
.g 34 (.mv (.t 0)) 33 true,
.g 35 (.mv (.t 7)) 33 true,
.g 36 (.slS (.t 34) none (some (.t 35))) 33 true,
.g 37 (.mv (.t 1)) 33 true,
.g 38 (.bin .eql (some .str) (.t 36) (.t 37)) 33 true,
.s 39 (.pick (.t 33) (.t 38) (.c (.bool false)))] [0,1,5,6,7,8,39])
(.cnd (.t 39)
(.seq
(.reg [
.s 4 (.mv (.c (.int .i64 0)))] [4])
.ret)
.skip))
(.seq
(.seq
(.reg [
.s 40 (.mv (.t 7)),
.s 10 (.mv (.t 40))] [0,1,5,6,7,8,10])
(.blk 2
(.seq
(.trim [0,1,5,6,7,8,10])
(.lop
(.seq
(.seq
(.seq
(.reg [
.s 41 (.mv (.t 10)),
.s 42 (.mv (.t 0)),
.s 43 (.lenS (.t 42)),
.s 44 (.bin .lss none (.t 41) (.t 43))] [0,1,5,6,7,8,10,44])
(.cnd (.t 44)
.skip
(.exit 2)))
(.blk 3
(.seq
(.reg [
.s 45 (.mv (.t 8)),
.s 46 (.bin .mul none (.t 45) (.c (.int .u32 16777619))),
.s 8 (.mv (.t 46))] [0,1,5,6,7,8,10])
(.seq
(.reg [
.s 47 (.mv (.t 8)),
.s 48 (.mv (.t 0)),
.s 49 (.mv (.t 10)),
.s 50 (.ixS (.t 48) (.t 49)),
.s 51 (.cvI .u32 (.t 50)),
.s 52 (.bin .add none (.t 47) (.t 51)),
.s 8 (.mv (.t 52))] [0,1,5,6,7,8,10])
(.seq
(.reg [
.s 53 (.mv (.t 8)),
.s 54 (.mv (.t 6)),
.s 55 (.mv (.t 0)),
.s 56 (.mv (.t 10)),
.s 57 (.mv (.t 7)),
.s 58 (.bin .sub none (.t 56) (.t 57)),
.s 59 (.ixS (.t 55) (.t 58)),
.s 60 (.cvI .u32 (.t 59)),
.s 61 (.bin .mul none (.t 54) (.t 60)),
.s 62 (.bin .sub none (.t 53) (.t 61)),
.s 8 (.mv (.t 62))] [0,1,5,6,7,8,10])
(.seq
(.reg [
.s 63 (.mv (.t 10)),
.s 64 (.bin .add none (.t 63) (.c (.int .i64 1))),
.s 10 (.mv (.t 64))] [0,1,5,6,7,8,10])
(.seq
(.reg [
.s 65 (.mv (.t 8)),
.s 66 (.mv (.t 5)),
.s 67 (.bin .eql (some .int) (.t 65) (.t 66)),
.s 68 (.mv (.t 67)),
.g 69 (.mv (.t 0)) 68 true,
.g 70 (.mv (.t 10)) 68 true,
.g 71 (.mv (.t 7)) 68 true,
.g 72 (.bin .sub none (.t 70) (.t 71)) 68 true,
.g 73 (.mv (.t 10)) 68 true,
.g 74 (.slS (.t 69) (some (.t 72)) (some (.t 73))) 68 true,
.g 75 (.mv (.t 1)) 68 true,
.g 76 (.bin .eql (some .str) (.t 74) (.t 75)) 68 true,
.s 77 (.pick (.t 68) (.t 76) (.c (.bool false)))] [0,1,5,6,7,8,10,77])
(.cnd (.t 77)
(.seq
(.reg [
.s 78 (.mv (.t 10)),
.s 79 (.mv (.t 7)),
.s 80 (.bin .sub none (.t 78) (.t 79)),
.s 4 (.mv (.t 80))] [4])
.ret)
.skip))))))))
(.trim [0,1,5,6,7,8,10]))))))
(.seq
(.reg [
.s 4 (.mv (.c (.int .i64 (-1))))] [4])
.ret)))))))),
[.tmp 4]⟩
/-- slices.swapRangeCmpFunc[int] -/
def F150 : DF := ⟨5,
(.seq
(.reg [
.s 10 (.mv (.c (.int .i64 0)))] [0,1,2,3,10])
(.blk 0
(.seq
(.trim [0,1,2,3,10])
(.lop
(.seq
(.seq
(.seq
(.reg [
.s 11 (.mv (.t 10)),
.s 12 (.mv (.t 3)),
.s 13 (.bin .lss none (.t 11) (.t 12))] [0,1,2,3,10,13])
(.cnd (.t 13)
.skip
(.exit 0)))
(.seq
(.blk 1
(.drw [
((.s 16 (.mv (.t 0)),none),[]),
((.s 17 (.mv (.t 1)),none),[]),
((.s 18 (.mv (.t 10)),none),[]),
((.s 19 (.bin .add none (.t 17) (.t 18)),none),[]),
((.s 20 (.mv (.t 0)),none),[]),
((.s 21 (.mv (.t 2)),none),[]),
((.s 22 (.mv (.t 10)),none),[]),
((.s 23 (.bin .add none (.t 21) (.t 22)),none),[]),
((.s 24 (.mv (.t 0)),none),[]),
((.s 25 (.mv (.t 2)),none),[]),
((.s 26 (.mv (.t 10)),none),[]),
((.s 27 (.bin .add none (.t 25) (.t 26)),none),[]),
((.s 28 (.ia 1 (.t 24) (.t 27)),none),[]),
((.s 29 (.ld false 1 (.t 28)),none),[]),
((.s 30 (.mv (.t 0)),none),[]),
((.s 31 (.mv (.t 1)),none),[]),
((.s 32 (.mv (.t 10)),none),[]),
((.s 33 (.bin .add none (.t 31) (.t 32)),none),[]),
((.s 34 (.ia 1 (.t 30) (.t 33)),none),[]),
((.s 35 (.ld false 1 (.t 34)),none),[]),
((.s 36 (.ia 1 (.t 16) (.t 19)),none),[]),
((.n (.st 1 (.t 36) (.t 29)),none),[]),
((.s 37 (.ia 1 (.t 20) (.t 23)),none),[]),
((.n (.st 1 (.t 37) (.t 35)),none),[])] [0,1,2,3,10]))
(.reg [
.s 14 (.mv (.t 10)),
.s 15 (.bin .add none (.t 14) (.c (.int .i64 1))),
.s 10 (.mv (.t 15))] [0,1,2,3,10])))
(.trim [0,1,2,3,10])))))),
[]⟩
/-- internal/strconv.ParseInt -/
def F152 : DF := ⟨3,
(.seq
(.reg [
.s 6 (.mv (.c (.int .i64 0))),
.s 7 (.mv (.c .nilif))] [0,1,2])
(.seq
(.seq
(.reg [
.s 12 (.mv (.t 0)),
.s 13 (.bin .eql (some .str) (.t 12) (.c (.str [])))] [0,1,2,13])
(.cnd (.t 13)
(.seq
(.reg [
.s 14 (.mki 156 (.c (.int .i64 2))),
.s 6 (.mv (.c (.int .i64 0))),
.s 7 (.mv (.t 14))] [6,7])
.ret)
.skip))
(.seq
(.reg [
.s 8 (.mv (.c (.bool false)))] [0,1,2,8])
(.seq
(.seq
(.reg [
.s 15 (.mv (.t 0)),
.s 16 (.ixS (.t 15) (.c (.int .i64 0)))] [0,1,2,8,16])
(.blk 0
(.seq
(.reg [
.s 18 (.bin .eql (some .int) (.t 16) (.c (.int .u8 43))),
.s 17 (.mv (.t 18))] [0,1,2,8,16,17])
(.cnd (.t 17)
(.reg [
.s 19 (.mv (.t 0)),
.s 20 (.slS (.t 19) (some (.c (.int .i64 1))) none),
.s 0 (.mv (.t 20))] [0,1,2,8])
(.seq
(.reg [
.s 22 (.bin .eql (some .int) (.t 16) (.c (.int .u8 45))),
.s 21 (.mv (.t 22))] [0,1,2,8,21])
(.cnd (.t 21)
(.seq
(.reg [
.s 23 (.mv (.t 0)),
.s 24 (.slS (.t 23) (some (.c (.int .i64 1))) none),
.s 0 (.mv (.t 24))] [0,1,2])
(.reg [
.s 8 (.mv (.c (.bool true)))] [0,1,2,8]))
.skip))))))
(.seq
(.reg [
.s 9 (.mv (.c (.int .u64 0)))] [0,1,2,8])
(.seq
(.reg [
.s 26 (.mv (.t 0)),
.s 27 (.mv (.t 1)),
.s 28 (.mv (.t 2)),
.s 29 (.call 166 [(.t 26),(.t 27),(.t 28)]),
.s 25 (.mv (.t 29)),
.s 30 (.ext (.t 25) 0),
.s 31 (.ext (.t 25) 1),
.s 9 (.mv (.t 30)),
.s 7 (.mv (.t 31))] [2,7,8,9])
(.seq
(.seq
(.reg [
.s 32 (.mv (.t 7)),
.s 33 (.bin .neq (some .ifc) (.t 32) (.c .nilif)),
.s 34 (.mv (.t 33)),
.g 35 (.mv (.t 7)) 34 true,
.g 36 (.mki 156 (.c (.int .i64 1))) 34 true,
.g 37 (.bin .neq none (.t 35) (.t 36)) 34 true,
.s 38 (.pick (.t 34) (.t 37) (.c (.bool false)))] [2,7,8,9,38])
(.cnd (.t 38)
(.seq
(.reg [
.s 39 (.mv (.t 7)),
.s 6 (.mv (.c (.int .i64 0))),
.s 7 (.mv (.t 39))] [6,7])
.ret)
.skip))
(.seq
(.seq
(.reg [
.s 40 (.mv (.t 2)),
.s 41 (.bin .eql (some .int) (.t 40) (.c (.int .i64 0)))] [2,8,9,41])
(.cnd (.t 41)
(.reg [
.s 2 (.mv (.c (.int .i64 64)))] [2,8,9])
.skip))
(.seq
(.reg [
.s 42 (.mv (.t 2)),
.s 43 (.bin .sub none (.t 42) (.c (.int .i64 1))),
.s 44 (.cvI .u64 (.t 43)),
.s 45 (.bin .shl none (.c (.int .u64 1)) (.t 44)),
.s 10 (.mv (.t 45))] [8,9,10])
(.seq
(.seq
(.reg [
.s 46 (.mv (.t 8)),
.s 47 (.un .not (.t 46)),
.s 48 (.mv (.t 47)),
.g 49 (.mv (.t 9)) 48 true,
.g 50 (.mv (.t 10)) 48 true,
.g 51 (.bin .geq none (.t 49) (.t 50)) 48 true,
.s 52 (.pick (.t 48) (.t 51) (.c (.bool false)))] [8,9,10,52])
(.cnd (.t 52)
(.seq
(.reg [
.s 53 (.mv (.t 10)),
.s 54 (.bin .sub none (.t 53) (.c (.int .u64 1))),
.s 55 (.cvI .i64 (.t 54)),
.s 56 (.mki 156 (.c (.int .i64 1))),
.s 6 (.mv (.t 55)),
.s 7 (.mv (.t 56))] [6,7])
.ret)
.skip))
(.seq
(.seq
(.reg [
.s 57 (.mv (.t 8)),
.s 58 (.mv (.t 57)),
.g 59 (.mv (.t 9)) 58 true,
.g 60 (.mv (.t 10)) 58 true,
.g 61 (.bin .gtr none (.t 59) (.t 60)) 58 true,
.s 62 (.pick (.t 58) (.t 61) (.c (.bool false)))] [8,9,10,62])
(.cnd (.t 62)
(.seq
(.reg [
.s 63 (.mv (.t 10)),
.s 64 (.cvI .i64 (.t 63)),
.s 65 (.un .neg (.t 64)),
.s 66 (.mki 156 (.c (.int .i64 1))),
.s 6 (.mv (.t 65)),
.s 7 (.mv (.t 66))] [6,7])
.ret)
.skip))
(.seq
(.reg [
.s 67 (.mv (.t 9)),
.s 68 (.cvI .i64 (.t 67)),
.s 11 (.mv (.t 68))] [8,11])
(.seq
(.seq
(.reg [
.s 69 (.mv (.t 8))] [11,69])
(.cnd (.t 69)
(.reg [
.s 70 (.mv (.t 11)),
.s 71 (.un .neg (.t 70)),
.s 11 (.mv (.t 71))] [11])
.skip))
(.seq
(.reg [
.s 72 (.mv (.t 11)),
.s 6 (.mv (.t 72)),
.s 7 (.mv (.c .nilif))] [6,7])
.ret)))))))))))))),
[.tmp 6,.tmp 7]⟩
/-- strconv.syntaxError -/
def F153 : DF := ⟨2,
(.seq
(.reg [
.s 4 (.mv (.c .nilp))] [0,1])
(.seq
(.drw [
((.s 5 (.mv (.t 0)),none),[]),
((.s 6 (.mv (.t 1)),none),[]),
((.s 8 (.ld false 1 (.g 1)),none),[]),
((.s 7 (.call 167 [(.t 6)]),none),[]),
((.s 9 (.bld [(.str []),(.str []),.nilif] [(0,1,(.t 5)),(1,1,(.t 7)),(2,1,(.t 8))]),none),[]),
((.s 10 (.bxH 175 (.t 9)),none),[]),
((.s 4 (.mv (.t 10)),none),[])] [4])
.ret)),
[.tmp 4]⟩
/-- strconv.rangeError -/
def F154 : DF := ⟨2,
(.seq
(.reg [
.s 4 (.mv (.c .nilp))] [0,1])
(.seq
(.drw [
((.s 5 (.mv (.t 0)),none),[]),
((.s 6 (.mv (.t 1)),none),[]),
((.s 8 (.ld false 1 (.g 2)),none),[]),
((.s 7 (.call 167 [(.t 6)]),none),[]),
((.s 9 (.bld [(.str []),(.str []),.nilif] [(0,1,(.t 5)),(1,1,(.t 7)),(2,1,(.t 8))]),none),[]),
((.s 10 (.bxH 175 (.t 9)),none),[]),
((.s 4 (.mv (.t 10)),none),[])] [4])
.ret)),
[.tmp 4]⟩
/-- strconv.baseError -/
def F155 : DF := ⟨3,
(.seq
(.reg [
.s 6 (.mv (.c .nilp))] [0,1,2])
(.seq
(.reg [
.s 7 (.mv (.t 0)),
.s 8 (.mv (.t 1)),
.s 9 (.call 167 [(.t 8)]),
.s 10 (.mv (.t 2)),
.s 11 (.call 101 [(.t 10)]),
.s 12 (.bin .add none (.c (.str [105,110,118,97,108,105,100,32,98,97,115,101,32])) (.t 11)),
.s 13 (.call 168 [(.t 12)]),
.s 14 (.bld [(.str []),(.str []),.nilif] [(0,1,(.t 7)),(1,1,(.t 9)),(2,1,(.t 13))]),
.s 15 (.bxH 175 (.t 14)),
.s 6 (.mv (.t 15))] [6])
.ret)),
[.tmp 6]⟩
/-- strconv.bitSizeError -/
def F156 : DF := ⟨3,
(.seq
(.reg [
.s 6 (.mv (.c .nilp))] [0,1,2])
(.seq
(.reg [
.s 7 (.mv (.t 0)),
.s 8 (.mv (.t 1)),
.s 9 (.call 167 [(.t 8)]),
.s 10 (.mv (.t 2)),
.s 11 (.call 101 [(.t 10)]),
.s 12 (.bin .add none (.c (.str [105,110,118,97,108,105,100,32,98,105,116,32,115,105,122,101,32])) (.t 11)),
.s 13 (.call 168 [(.t 12)]),
.s 14 (.bld [(.str []),(.str []),.nilif] [(0,1,(.t 7)),(1,1,(.t 9)),(2,1,(.t 13))]),
.s 15 (.bxH 175 (.t 14)),
.s 6 (.mv (.t 15))] [6])
.ret)),
[.tmp 6]⟩
/-- unicode/utf8.decodeRuneInStringSlow -/
def F157 : DF := ⟨1,
(.seq
(.reg [
.s 2 (.mv (.c (.int .i32 0))),
.s 3 (.mv (.c (.int .i64 0)))] [0])
(.seq
(.reg [
.s 13 (.mv (.t 0)),
.s 14 (.lenS (.t 13)),
.s 4 (.mv (.t 14))] [0,4])
(.seq
(.seq
(.reg [
.s 15 (.mv (.t 4)),
.s 16 (.bin .lss none (.t 15) (.c (.int .i64 1)))] [0,4,16])
(.cnd (.t 16)
(.seq
(.reg [
.s 2 (.mv (.c (.int .i32 65533))),
.s 3 (.mv (.c (.int .i64 0)))] [2,3])
.ret)
.skip))
(.seq
(.reg [
.s 17 (.mv (.t 0)),
.s 18 (.ixS (.t 17) (.c (.int .i64 0))),
.s 5 (.mv (.t 18))] [0,4,5])
(.seq
(.reg [
.s 19 (.mv (.t 5)),
.s 20 (.iaA 1 256 (.g 3) (.t 19)),
.s 21 (.ld false 1 (.t 20)),
.s 6 (.mv (.t 21))] [0,4,5,6])
(.seq
(.seq
(.reg [
.s 22 (.mv (.t 6)),
.s 23 (.bin .geq none (.t 22) (.c (.int .u8 240)))] [0,4,5,6,23])
(.cnd (.t 23)
(.seq
(.reg [
.s 24 (.mv (.t 6)),
.s 25 (.cvI .i32 (.t 24)),
.s 26 (.bin .shl none (.t 25) (.c (.int .u64 31))),
.s 27 (.bin .shr none (.t 26) (.c (.int .u64 31))),
.s 7 (.mv (.t 27))] [0,7])
(.seq
(.reg [
.s 28 (.mv (.t 0)),
.s 29 (.ixS (.t 28) (.c (.int .i64 0))),
.s 30 (.cvI .i32 (.t 29)),
.s 31 (.mv (.t 7)),
.s 32 (.bin .andNot none (.t 30) (.t 31)),
.s 33 (.mv (.t 7)),
.s 34 (.bin .and none (.c (.int .i32 65533)) (.t 33)),
.s 35 (.bin .or none (.t 32) (.t 34)),
.s 2 (.mv (.t 35)),
.s 3 (.mv (.c (.int .i64 1)))] [2,3])
.ret))
.skip))
(.seq
(.reg [
.s 36 (.mv (.t 6)),
.s 37 (.bin .and none (.t 36) (.c (.int .u8 7))),
.s 38 (.cvI .i64 (.t 37)),
.s 8 (.mv (.t 38))] [0,4,5,6,8])
(.seq
(.reg [
.s 39 (.mv (.t 6)),
.s 40 (.bin .shr none (.t 39) (.c (.int .u64 4))),
.s 41 (.iaA 2 16 (.g 4) (.t 40)),
.s 42 (.ld true 2 (.t 41)),
.s 9 (.alL [(.int .u8 0),(.int .u8 0)]),
.n (.st 2 (.t 9) (.t 42))] [0,4,5,8,9])
(.seq
(.seq
(.reg [
.s 43 (.mv (.t 4)),
.s 44 (.mv (.t 8)),
.s 45 (.bin .lss none (.t 43) (.t 44))] [0,5,8,9,45])
(.cnd (.t 45)
(.seq
(.reg [
.s 2 (.mv (.c (.int .i32 65533))),
.s 3 (.mv (.c (.int .i64 1)))] [2,3])
.ret)
.skip))
(.seq
(.reg [
.s 46 (.mv (.t 0)),
.s 47 (.ixS (.t 46) (.c (.int .i64 1))),
.s 10 (.mv (.t 47))] [0,5,8,9,10])
(.seq
(.seq
(.reg [
.s 48 (.mv (.t 10)),
.s 49 (.fa 0 (.t 9)),
.s 50 (.ld false 1 (.t 49)),
.s 51 (.bin .lss none (.t 48) (.t 50)),
.s 52 (.mv (.t 51)),
.g 53 (.fa 1 (.t 9)) 52 false,
.g 54 (.ld false 1 (.t 53)) 52 false,
.g 55 (.mv (.t 10)) 52 false,
.g 56 (.bin .lss none (.t 54) (.t 55)) 52 false,
.s 57 (.pick (.t 52) (.c (.bool true)) (.t 56))] [0,5,8,10,57])
(.cnd (.t 57)
(.seq
(.reg [
.s 2 (.mv (.c (.int .i32 65533))),
.s 3 (.mv (.c (.int .i64 1)))] [2,3])
.ret)
.skip))
(.seq
(.seq
(.reg [
.s 58 (.mv (.t 8)),
.s 59 (.bin .leq none (.t 58) (.c (.int .i64 2)))] [0,5,8,10,59])
(.cnd (.t 59)
(.seq
(.reg [
.s 60 (.mv (.t 5)),
.s 61 (.bin .and none (.t 60) (.c (.int .u8 31))),
.s 62 (.cvI .i32 (.t 61)),
.s 63 (.bin .shl none (.t 62) (.c (.int .u64 6))),
.s 64 (.mv (.t 10)),
.s 65 (.bin .and none (.t 64) (.c (.int .u8 63))),
.s 66 (.cvI .i32 (.t 65)),
.s 67 (.bin .or none (.t 63) (.t 66)),
.s 2 (.mv (.t 67)),
.s 3 (.mv (.c (.int .i64 2)))] [2,3])
.ret)
.skip))
(.seq
(.reg [
.s 68 (.mv (.t 0)),
.s 69 (.ixS (.t 68) (.c (.int .i64 2))),
.s 11 (.mv (.t 69))] [0,5,8,10,11])
(.seq
(.seq
(.reg [
.s 70 (.mv (.t 11)),
.s 71 (.bin .lss none (.t 70) (.c (.int .u8 128))),
.s 72 (.mv (.t 71)),
.g 73 (.mv (.t 11)) 72 false,
.g 74 (.bin .lss none (.c (.int .u8 191)) (.t 73)) 72 false,
.s 75 (.pick (.t 72) (.c (.bool true)) (.t 74))] [0,5,8,10,11,75])
(.cnd (.t 75)
(.seq
(.reg [
.s 2 (.mv (.c (.int .i32 65533))),
.s 3 (.mv (.c (.int .i64 1)))] [2,3])
.ret)
.skip))
(.seq
(.seq
(.reg [
.s 76 (.mv (.t 8)),
.s 77 (.bin .leq none (.t 76) (.c (.int .i64 3)))] [0,5,10,11,77])
(.cnd (.t 77)
(.seq
(.reg [
.s 78 (.mv (.t 5)),
.s 79 (.bin .and none (.t 78) (.c (.int .u8 15))),
.s 80 (.cvI .i32 (.t 79)),
.s 81 (.bin .shl none (.t 80) (.c (.int .u64 12))),
.s 82 (.mv (.t 10)),
.s 83 (.bin .and none (.t 82) (.c (.int .u8 63))),
.s 84 (.cvI .i32 (.t 83)),
.s 85 (.bin .shl none (.t 84) (.c (.int .u64 6))),
.s 86 (.bin .or none (.t 81) (.t 85)),
.s 87 (.mv (.t 11)),
.s 88 (.bin .and none (.t 87) (.c (.int .u8 63))),
.s 89 (.cvI .i32 (.t 88)),
.s 90 (.bin .or none (.t 86) (.t 89)),
.s 2 (.mv (.t 90)),
.s 3 (.mv (.c (.int .i64 3)))] [2,3])
.ret)
.skip))
(.seq
(.reg [
.s 91 (.mv (.t 0)),
.s 92 (.ixS (.t 91) (.c (.int .i64 3))),
.s 12 (.mv (.t 92))] [5,10,11,12])
(.seq
(.seq
(.reg [
.s 93 (.mv (.t 12)),
.s 94 (.bin .lss none (.t 93) (.c (.int .u8 128))),
.s 95 (.mv (.t 94)),
.g 96 (.mv (.t 12)) 95 false,
.g 97 (.bin .lss none (.c (.int .u8 191)) (.t 96)) 95 false,
.s 98 (.pick (.t 95) (.c (.bool true)) (.t 97))] [5,10,11,12,98])
(.cnd (.t 98)
(.seq
(.reg [
.s 2 (.mv (.c (.int .i32 65533))),
.s 3 (.mv (.c (.int .i64 1)))] [2,3])
.ret)
.skip))
(.seq
(.reg [
.s 99 (.mv (.t 5)),
.s 100 (.bin .and none (.t 99) (.c (.int .u8 7))),
.s 101 (.cvI .i32 (.t 100)),
.s 102 (.bin .shl none (.t 101) (.c (.int .u64 18))),
.s 103 (.mv (.t 10)),
.s 104 (.bin .and none (.t 103) (.c (.int .u8 63))),
.s 105 (.cvI .i32 (.t 104)),
.s 106 (.bin .shl none (.t 105) (.c (.int .u64 12))),
.s 107 (.bin .or none (.t 102) (.t 106)),
.s 108 (.mv (.t 11)),
.s 109 (.bin .and none (.t 108) (.c (.int .u8 63))),
.s 110 (.cvI .i32 (.t 109)),
.s 111 (.bin .shl none (.t 110) (.c (.int .u64 6))),
.s 112 (.bin .or none (.t 107) (.t 111)),
.s 113 (.mv (.t 12)),
.s 114 (.bin .and none (.t 113) (.c (.int .u8 63))),
.s 115 (.cvI .i32 (.t 114)),
.s 116 (.bin .or none (.t 112) (.t 115)),
.s 2 (.mv (.t 116)),
.s 3 (.mv (.c (.int .i64 4)))] [2,3])
.ret)))))))))))))))))),
[.tmp 2,.tmp 3]⟩
/-- strings.IndexRune -/
def F158 : DF := ⟨2,
(.seq
(.reg [
.s 4 (.mv (.c (.int .i64 0)))] [0,1])
(.blk 0
(.seq
(.reg [
.s 161 (.mv (.t 1)),
.s 162 (.bin .leq none (.c (.int .i32 0)) (.t 161)),
.s 163 (.mv (.t 162)),
.g 164 (.mv (.t 1)) 163 true,
.g 165 (.bin .lss none (.t 164) (.c (.int .i32 128))) 163 true,
.s 166 (.pick (.t 163) (.t 165) (.c (.bool false))),
.s 160 (.mv (.t 166))] [0,1,160])
(.cnd (.t 160)
(.seq
(.reg [
.s 167 (.mv (.t 0)),
.s 168 (.mv (.t 1)),
.s 169 (.cvI .u8 (.t 168)),
.s 170 (.call 169 [(.t 167),(.t 169)]),
.s 4 (.mv (.t 170))] [4])
.ret)
(.seq
(.reg [
.s 172 (.mv (.t 1)),
.s 173 (.bin .eql (some .int) (.t 172) (.c (.int .i32 65533))),
.s 171 (.mv (.t 173))] [0,1,171])
(.cnd (.t 171)
(.seq
(.seq
.fail
(.blk 9
(.seq
(.trim [175])
(.lop
(.seq
(.seq
.fail
(.seq
(.cnd (.t 177)
.skip
(.exit 9))
(.blk 10
(.seq
(.reg [
.s 178 (.ext (.t 176) 1),
.s 179 (.ext (.t 176) 2),
.s 5 (.mv (.t 178)),
.s 6 (.mv (.t 179))] [5,6,175])
(.seq
(.reg [
.s 180 (.mv (.t 6)),
.s 181 (.bin .eql (some .int) (.t 180) (.c (.int .i32 65533)))] [5,175,181])
(.cnd (.t 181)
(.seq
(.reg [
.s 182 (.mv (.t 5)),
.s 4 (.mv (.t 182))] [4])
.ret)
.skip))))))
(.trim [175]))))))
(.seq
(.reg [
.s 4 (.mv (.c (.int .i64 (-1))))] [4])
.ret))
(.seq
(.reg [
.s 184 (.mv (.t 1)),
.s 185 (.call 170 [(.t 184)]),
.s 186 (.un .not (.t 185)),
.s 183 (.mv (.t 186))] [0,1,183])
(.cnd (.t 183)
(.seq
(.reg [
.s 4 (.mv (.c (.int .i64 (-1))))] [4])
.ret)
.fail)))))))),
[.tmp 4]⟩
/-- unicode/utf8.RuneStart -/
def F159 : DF := ⟨1,
(.seq
(.reg [
.s 2 (.mv (.c (.bool false)))] [0])
(.seq
(.reg [
.s 3 (.mv (.t 0)),
.s 4 (.bin .and none (.t 3) (.c (.int .u8 192))),
.s 5 (.bin .neq (some .int) (.t 4) (.c (.int .u8 128))),
.s 2 (.mv (.t 5))] [2])
.ret)),
[.tmp 2]⟩
/-- internal/strconv.small -/
def F160 : DF := ⟨1,
(.seq
(.reg [
.s 2 (.mv (.c (.str [])))] [0])
(.seq
(.seq
(.reg [
.s 3 (.mv (.t 0)),
.s 4 (.bin .lss none (.t 3) (.c (.int .i64 10)))] [0,4])
(.cnd (.t 4)
(.seq
(.reg [
.s 5 (.mv (.t 0)),
.s 6 (.mv (.t 0)),
.s 7 (.bin .add none (.t 6) (.c (.int .i64 1))),
.s 8 (.slS (.c (.str [48,49,50,51,52,53,54,55,56,57,97,98,99,100,101,102,103,104,105,106,107,108,109,110,111,112,113,114,115,116,117,118,119,120,121,122])) (some (.t 5)) (some (.t 7))),
.s 2 (.mv (.t 8))] [2])
.ret)
.skip))
(.seq
(.reg [
.s 9 (.mv (.t 0)),
.s 10 (.bin .mul none (.t 9) (.c (.int .i64 2))),
.s 11 (.mv (.t 0)),
.s 12 (.bin .mul none (.t 11) (.c (.int .i64 2))),
.s 13 (.bin .add none (.t 12) (.c (.int .i64 2))),
.s 14 (.slS (.c (.str [48,48,48,49,48,50,48,51,48,52,48,53,48,54,48,55,48,56,48,57,49,48,49,49,49,50,49,51,49,52,49,53,49,54,49,55,49,56,49,57,50,48,50,49,50,50,50,51,50,52,50,53,50,54,50,55,50,56,50,57,51,48,51,49,51,50,51,51,51,52,51,53,51,54,51,55,51,56,51,57,52,48,52,49,52,50,52,51,52,52,52,53,52,54,52,55,52,56,52,57,53,48,53,49,53,50,53,51,53,52,53,53,53,54,53,55,53,56,53,57,54,48,54,49,54,50,54,51,54,52,54,53,54,54,54,55,54,56,54,57,55,48,55,49,55,50,55,51,55,52,55,53,55,54,55,55,55,56,55,57,56,48,56,49,56,50,56,51,56,52,56,53,56,54,56,55,56,56,56,57,57,48,57,49,57,50,57,51,57,52,57,53,57,54,57,55,57,56,57,57])) (some (.t 10)) (some (.t 13))),
.s 2 (.mv (.t 14))] [2])
.ret))),
[.tmp 2]⟩
/-- internal/strconv.numDigits -/
def F161 : DF := ⟨1,
(.seq
(.reg [
.s 2 (.mv (.c (.int .i64 0)))] [0])
(.seq
(.reg [
.s 4 (.mv (.t 0)),
.s 5 (.call 172 [(.t 4)]),
.s 6 (.call 171 [(.t 5)]),
.s 3 (.mv (.t 6))] [0,3])
(.seq
(.reg [
.s 7 (.mv (.t 3)),
.s 8 (.mv (.t 0)),
.s 9 (.mv (.t 3)),
.s 10 (.iaA 1 20 (.g 5) (.t 9)),
.s 11 (.ld false 1 (.t 10)),
.s 12 (.bin .geq none (.t 8) (.t 11)),
.s 13 (.call 173 [(.t 12)]),
.s 14 (.bin .add none (.t 7) (.t 13)),
.s 2 (.mv (.t 14))] [2])
.ret))),
[.tmp 2]⟩
/-- internal/strconv.formatBase10 -/
def F162 : DF := ⟨2,
(.seq
(.reg [
.s 17 (.mv (.t 0)),
.s 18 (.len (.t 17)),
.s 4 (.mv (.t 18))] [0,1,4])
(.seq
(.blk 0
(.seq
(.trim [0,1,4])
(.lop
(.seq
(.seq
(.seq
(.reg [
.s 19 (.mv (.t 4)),
.s 20 (.bin .geq none (.t 19) (.c (.int .i64 8)))] [0,1,4,20])
(.cnd (.t 20)
.skip
(.exit 0)))
(.blk 1
(.seq
(.reg [
.s 21 (.mv (.t 1)),
.s 22 (.bin .rem none (.t 21) (.c (.int .u64 100000000))),
.s 23 (.cvI .u32 (.t 22)),
.s 5 (.mv (.t 23))] [0,1,4,5])
(.seq
(.reg [
.s 24 (.mv (.t 1)),
.s 25 (.bin .quo none (.t 24) (.c (.int .u64 100000000))),
.s 1 (.mv (.t 25))] [0,1,4,5])
(.seq
(.reg [
.s 26 (.mv (.t 5)),
.s 27 (.bin .quo none (.t 26) (.c (.int .u32 10000))),
.s 28 (.mv (.t 5)),
.s 29 (.bin .rem none (.t 28) (.c (.int .u32 10000))),
.s 6 (.mv (.t 27)),
.s 7 (.mv (.t 29))] [0,1,4,6,7])
(.seq
(.reg [
.s 30 (.mv (.t 7)),
.s 31 (.bin .quo none (.t 30) (.c (.int .u32 100))),
.s 32 (.bin .mul none (.t 31) (.c (.int .u32 2))),
.s 33 (.mv (.t 7)),
.s 34 (.bin .rem none (.t 33) (.c (.int .u32 100))),
.s 35 (.bin .mul none (.t 34) (.c (.int .u32 2))),
.s 8 (.mv (.t 32)),
.s 9 (.mv (.t 35))] [0,1,4,6,8,9])
(.seq
(.reg [
.s 36 (.mv (.t 6)),
.s 37 (.bin .quo none (.t 36) (.c (.int .u32 100))),
.s 38 (.bin .mul none (.t 37) (.c (.int .u32 2))),
.s 39 (.mv (.t 6)),
.s 40 (.bin .rem none (.t 39) (.c (.int .u32 100))),
.s 41 (.bin .mul none (.t 40) (.c (.int .u32 2))),
.s 10 (.mv (.t 38)),
.s 11 (.mv (.t 41))] [0,1,4,8,9,10,11])
(.seq
(.drw [
((.s 42 (.mv (.t 0)),none),[]),
((.s 43 (.mv (.t 4)),none),[]),
((.s 44 (.bin .sub none (.t 43) (.c (.int .i64 1))),none),[]),
((.s 45 (.mv (.t 0)),none),[]),
((.s 46 (.mv (.t 4)),none),[]),
((.s 47 (.bin .sub none (.t 46) (.c (.int .i64 2))),none),[]),
((.s 48 (.mv (.t 9)),none),[]),
((.s 49 (.bin .add none (.t 48) (.c (.int .u32 1))),none),[]),
((.s 50 (.ixS (.c (.str [48,48,48,49,48,50,48,51,48,52,48,53,48,54,48,55,48,56,48,57,49,48,49,49,49,50,49,51,49,52,49,53,49,54,49,55,49,56,49,57,50,48,50,49,50,50,50,51,50,52,50,53,50,54,50,55,50,56,50,57,51,48,51,49,51,50,51,51,51,52,51,53,51,54,51,55,51,56,51,57,52,48,52,49,52,50,52,51,52,52,52,53,52,54,52,55,52,56,52,57,53,48,53,49,53,50,53,51,53,52,53,53,53,54,53,55,53,56,53,57,54,48,54,49,54,50,54,51,54,52,54,53,54,54,54,55,54,56,54,57,55,48,55,49,55,50,55,51,55,52,55,53,55,54,55,55,55,56,55,57,56,48,56,49,56,50,56,51,56,52,56,53,56,54,56,55,56,56,56,57,57,48,57,49,57,50,57,51,57,52,57,53,57,54,57,55,57,56,57,57])) (.t 49)),none),[]),
((.s 51 (.mv (.t 9)),none),[]),
((.s 52 (.ixS (.c (.str [48,48,48,49,48,50,48,51,48,52,48,53,48,54,48,55,48,56,48,57,49,48,49,49,49,50,49,51,49,52,49,53,49,54,49,55,49,56,49,57,50,48,50,49,50,50,50,51,50,52,50,53,50,54,50,55,50,56,50,57,51,48,51,49,51,50,51,51,51,52,51,53,51,54,51,55,51,56,51,57,52,48,52,49,52,50,52,51,52,52,52,53,52,54,52,55,52,56,52,57,53,48,53,49,53,50,53,51,53,52,53,53,53,54,53,55,53,56,53,57,54,48,54,49,54,50,54,51,54,52,54,53,54,54,54,55,54,56,54,57,55,48,55,49,55,50,55,51,55,52,55,53,55,54,55,55,55,56,55,57,56,48,56,49,56,50,56,51,56,52,56,53,56,54,56,55,56,56,56,57,57,48,57,49,57,50,57,51,57,52,57,53,57,54,57,55,57,56,57,57])) (.t 51)),none),[]),
((.s 53 (.ia 1 (.t 42) (.t 44)),none),[]),
((.n (.st 1 (.t 53) (.t 50)),none),[]),
((.s 54 (.ia 1 (.t 45) (.t 47)),none),[]),
((.n (.st 1 (.t 54) (.t 52)),none),[])] [0,1,4,8,10,11])
(.seq
(.drw [
((.s 55 (.mv (.t 0)),none),[]),
((.s 56 (.mv (.t 4)),none),[]),
((.s 57 (.bin .sub none (.t 56) (.c (.int .i64 3))),none),[]),
((.s 58 (.mv (.t 0)),none),[]),
((.s 59 (.mv (.t 4)),none),[]),
((.s 60 (.bin .sub none (.t 59) (.c (.int .i64 4))),none),[]),
((.s 61 (.mv (.t 8)),none),[]),
((.s 62 (.bin .add none (.t 61) (.c (.int .u32 1))),none),[]),
((.s 63 (.ixS (.c (.str [48,48,48,49,48,50,48,51,48,52,48,53,48,54,48,55,48,56,48,57,49,48,49,49,49,50,49,51,49,52,49,53,49,54,49,55,49,56,49,57,50,48,50,49,50,50,50,51,50,52,50,53,50,54,50,55,50,56,50,57,51,48,51,49,51,50,51,51,51,52,51,53,51,54,51,55,51,56,51,57,52,48,52,49,52,50,52,51,52,52,52,53,52,54,52,55,52,56,52,57,53,48,53,49,53,50,53,51,53,52,53,53,53,54,53,55,53,56,53,57,54,48,54,49,54,50,54,51,54,52,54,53,54,54,54,55,54,56,54,57,55,48,55,49,55,50,55,51,55,52,55,53,55,54,55,55,55,56,55,57,56,48,56,49,56,50,56,51,56,52,56,53,56,54,56,55,56,56,56,57,57,48,57,49,57,50,57,51,57,52,57,53,57,54,57,55,57,56,57,57])) (.t 62)),none),[]),
((.s 64 (.mv (.t 8)),none),[]),
((.s 65 (.ixS (.c (.str [48,48,48,49,48,50,48,51,48,52,48,53,48,54,48,55,48,56,48,57,49,48,49,49,49,50,49,51,49,52,49,53,49,54,49,55,49,56,49,57,50,48,50,49,50,50,50,51,50,52,50,53,50,54,50,55,50,56,50,57,51,48,51,49,51,50,51,51,51,52,51,53,51,54,51,55,51,56,51,57,52,48,52,49,52,50,52,51,52,52,52,53,52,54,52,55,52,56,52,57,53,48,53,49,53,50,53,51,53,52,53,53,53,54,53,55,53,56,53,57,54,48,54,49,54,50,54,51,54,52,54,53,54,54,54,55,54,56,54,57,55,48,55,49,55,50,55,51,55,52,55,53,55,54,55,55,55,56,55,57,56,48,56,49,56,50,56,51,56,52,56,53,56,54,56,55,56,56,56,57,57,48,57,49,57,50,57,51,57,52,57,53,57,54,57,55,57,56,57,57])) (.t 64)),none),[]),
((.s 66 (.ia 1 (.t 55) (.t 57)),none),[]),
((.n (.st 1 (.t 66) (.t 63)),none),[]),
((.s 67 (.ia 1 (.t 58) (.t 60)),none),[]),
((.n (.st 1 (.t 67) (.t 65)),none),[])] [0,1,4,10,11])
(.seq
(.drw [
((.s 68 (.mv (.t 0)),none),[]),
((.s 69 (.mv (.t 4)),none),[]),
((.s 70 (.bin .sub none (.t 69) (.c (.int .i64 5))),none),[]),
((.s 71 (.mv (.t 0)),none),[]),
((.s 72 (.mv (.t 4)),none),[]),
((.s 73 (.bin .sub none (.t 72) (.c (.int .i64 6))),none),[]),
((.s 74 (.mv (.t 11)),none),[]),
((.s 75 (.bin .add none (.t 74) (.c (.int .u32 1))),none),[]),
((.s 76 (.ixS (.c (.str [48,48,48,49,48,50,48,51,48,52,48,53,48,54,48,55,48,56,48,57,49,48,49,49,49,50,49,51,49,52,49,53,49,54,49,55,49,56,49,57,50,48,50,49,50,50,50,51,50,52,50,53,50,54,50,55,50,56,50,57,51,48,51,49,51,50,51,51,51,52,51,53,51,54,51,55,51,56,51,57,52,48,52,49,52,50,52,51,52,52,52,53,52,54,52,55,52,56,52,57,53,48,53,49,53,50,53,51,53,52,53,53,53,54,53,55,53,56,53,57,54,48,54,49,54,50,54,51,54,52,54,53,54,54,54,55,54,56,54,57,55,48,55,49,55,50,55,51,55,52,55,53,55,54,55,55,55,56,55,57,56,48,56,49,56,50,56,51,56,52,56,53,56,54,56,55,56,56,56,57,57,48,57,49,57,50,57,51,57,52,57,53,57,54,57,55,57,56,57,57])) (.t 75)),none),[]),
((.s 77 (.mv (.t 11)),none),[]),
((.s 78 (.ixS (.c (.str [48,48,48,49,48,50,48,51,48,52,48,53,48,54,48,55,48,56,48,57,49,48,49,49,49,50,49,51,49,52,49,53,49,54,49,55,49,56,49,57,50,48,50,49,50,50,50,51,50,52,50,53,50,54,50,55,50,56,50,57,51,48,51,49,51,50,51,51,51,52,51,53,51,54,51,55,51,56,51,57,52,48,52,49,52,50,52,51,52,52,52,53,52,54,52,55,52,56,52,57,53,48,53,49,53,50,53,51,53,52,53,53,53,54,53,55,53,56,53,57,54,48,54,49,54,50,54,51,54,52,54,53,54,54,54,55,54,56,54,57,55,48,55,49,55,50,55,51,55,52,55,53,55,54,55,55,55,56,55,57,56,48,56,49,56,50,56,51,56,52,56,53,56,54,56,55,56,56,56,57,57,48,57,49,57,50,57,51,57,52,57,53,57,54,57,55,57,56,57,57])) (.t 77)),none),[]),
((.s 79 (.ia 1 (.t 68) (.t 70)),none),[]),
((.n (.st 1 (.t 79) (.t 76)),none),[]),
((.s 80 (.ia 1 (.t 71) (.t 73)),none),[]),
((.n (.st 1 (.t 80) (.t 78)),none),[])] [0,1,4,10])
(.seq
(.drw [
((.s 81 (.mv (.t 0)),none),[]),
((.s 82 (.mv (.t 4)),none),[]),
((.s 83 (.bin .sub none (.t 82) (.c (.int .i64 7))),none),[]),
((.s 84 (.mv (.t 0)),none),[]),
((.s 85 (.mv (.t 4)),none),[]),
((.s 86 (.bin .sub none (.t 85) (.c (.int .i64 8))),none),[]),
((.s 87 (.mv (.t 10)),none),[]),
((.s 88 (.bin .add none (.t 87) (.c (.int .u32 1))),none),[]),
((.s 89 (.ixS (.c (.str [48,48,48,49,48,50,48,51,48,52,48,53,48,54,48,55,48,56,48,57,49,48,49,49,49,50,49,51,49,52,49,53,49,54,49,55,49,56,49,57,50,48,50,49,50,50,50,51,50,52,50,53,50,54,50,55,50,56,50,57,51,48,51,49,51,50,51,51,51,52,51,53,51,54,51,55,51,56,51,57,52,48,52,49,52,50,52,51,52,52,52,53,52,54,52,55,52,56,52,57,53,48,53,49,53,50,53,51,53,52,53,53,53,54,53,55,53,56,53,57,54,48,54,49,54,50,54,51,54,52,54,53,54,54,54,55,54,56,54,57,55,48,55,49,55,50,55,51,55,52,55,53,55,54,55,55,55,56,55,57,56,48,56,49,56,50,56,51,56,52,56,53,56,54,56,55,56,56,56,57,57,48,57,49,57,50,57,51,57,52,57,53,57,54,57,55,57,56,57,57])) (.t 88)),none),[]),
((.s 90 (.mv (.t 10)),none),[]),
((.s 91 (.ixS (.c (.str [48,48,48,49,48,50,48,51,48,52,48,53,48,54,48,55,48,56,48,57,49,48,49,49,49,50,49,51,49,52,49,53,49,54,49,55,49,56,49,57,50,48,50,49,50,50,50,51,50,52,50,53,50,54,50,55,50,56,50,57,51,48,51,49,51,50,51,51,51,52,51,53,51,54,51,55,51,56,51,57,52,48,52,49,52,50,52,51,52,52,52,53,52,54,52,55,52,56,52,57,53,48,53,49,53,50,53,51,53,52,53,53,53,54,53,55,53,56,53,57,54,48,54,49,54,50,54,51,54,52,54,53,54,54,54,55,54,56,54,57,55,48,55,49,55,50,55,51,55,52,55,53,55,54,55,55,55,56,55,57,56,48,56,49,56,50,56,51,56,52,56,53,56,54,56,55,56,56,56,57,57,48,57,49,57,50,57,51,57,52,57,53,57,54,57,55,57,56,57,57])) (.t 90)),none),[]),
((.s 92 (.ia 1 (.t 81) (.t 83)),none),[]),
((.n (.st 1 (.t 92) (.t 89)),none),[]),
((.s 93 (.ia 1 (.t 84) (.t 86)),none),[]),
((.n (.st 1 (.t 93) (.t 91)),none),[])] [0,1,4])
(.reg [
.s 94 (.mv (.t 4)),
.s 95 (.bin .sub none (.t 94) (.c (.int .i64 8))),
.s 4 (.mv (.t 95))] [0,1,4]))))))))))))
(.trim [0,1,4])))))
(.seq
(.reg [
.s 96 (.mv (.t 1)),
.s 97 (.cvI .u32 (.t 96)),
.s 12 (.mv (.t 97))] [0,4,12])
(.seq
(.seq
(.reg [
.s 98 (.mv (.t 4)),
.s 99 (.bin .geq none (.t 98) (.c (.int .i64 4)))] [0,4,12,99])
(.cnd (.t 99)
(.seq
(.reg [
.s 100 (.mv (.t 12)),
.s 101 (.bin .rem none (.t 100) (.c (.int .u32 10000))),
.s 13 (.mv (.t 101))] [0,4,12,13])
(.seq
(.reg [
.s 102 (.mv (.t 12)),
.s 103 (.bin .quo none (.t 102) (.c (.int .u32 10000))),
.s 12 (.mv (.t 103))] [0,4,12,13])
(.seq
(.reg [
.s 104 (.mv (.t 13)),
.s 105 (.bin .quo none (.t 104) (.c (.int .u32 100))),
.s 106 (.bin .mul none (.t 105) (.c (.int .u32 2))),
.s 107 (.mv (.t 13)),
.s 108 (.bin .rem none (.t 107) (.c (.int .u32 100))),
.s 109 (.bin .mul none (.t 108) (.c (.int .u32 2))),
.s 14 (.mv (.t 106)),
.s 15 (.mv (.t 109))] [0,4,12,14,15])
(.seq
(.drw [
((.s 110 (.mv (.t 0)),none),[]),
((.s 111 (.mv (.t 4)),none),[]),
((.s 112 (.bin .sub none (.t 111) (.c (.int .i64 1))),none),[]),
((.s 113 (.mv (.t 0)),none),[]),
((.s 114 (.mv (.t 4)),none),[]),
((.s 115 (.bin .sub none (.t 114) (.c (.int .i64 2))),none),[]),
((.s 116 (.mv (.t 15)),none),[]),
((.s 117 (.bin .add none (.t 116) (.c (.int .u32 1))),none),[]),
((.s 118 (.ixS (.c (.str [48,48,48,49,48,50,48,51,48,52,48,53,48,54,48,55,48,56,48,57,49,48,49,49,49,50,49,51,49,52,49,53,49,54,49,55,49,56,49,57,50,48,50,49,50,50,50,51,50,52,50,53,50,54,50,55,50,56,50,57,51,48,51,49,51,50,51,51,51,52,51,53,51,54,51,55,51,56,51,57,52,48,52,49,52,50,52,51,52,52,52,53,52,54,52,55,52,56,52,57,53,48,53,49,53,50,53,51,53,52,53,53,53,54,53,55,53,56,53,57,54,48,54,49,54,50,54,51,54,52,54,53,54,54,54,55,54,56,54,57,55,48,55,49,55,50,55,51,55,52,55,53,55,54,55,55,55,56,55,57,56,48,56,49,56,50,56,51,56,52,56,53,56,54,56,55,56,56,56,57,57,48,57,49,57,50,57,51,57,52,57,53,57,54,57,55,57,56,57,57])) (.t 117)),none),[]),
((.s 119 (.mv (.t 15)),none),[]),
((.s 120 (.ixS (.c (.str [48,48,48,49,48,50,48,51,48,52,48,53,48,54,48,55,48,56,48,57,49,48,49,49,49,50,49,51,49,52,49,53,49,54,49,55,49,56,49,57,50,48,50,49,50,50,50,51,50,52,50,53,50,54,50,55,50,56,50,57,51,48,51,49,51,50,51,51,51,52,51,53,51,54,51,55,51,56,51,57,52,48,52,49,52,50,52,51,52,52,52,53,52,54,52,55,52,56,52,57,53,48,53,49,53,50,53,51,53,52,53,53,53,54,53,55,53,56,53,57,54,48,54,49,54,50,54,51,54,52,54,53,54,54,54,55,54,56,54,57,55,48,55,49,55,50,55,51,55,52,55,53,55,54,55,55,55,56,55,57,56,48,56,49,56,50,56,51,56,52,56,53,56,54,56,55,56,56,56,57,57,48,57,49,57,50,57,51,57,52,57,53,57,54,57,55,57,56,57,57])) (.t 119)),none),[]),
((.s 121 (.ia 1 (.t 110) (.t 112)),none),[]),
((.n (.st 1 (.t 121) (.t 118)),none),[]),
((.s 122 (.ia 1 (.t 113) (.t 115)),none),[]),
((.n (.st 1 (.t 122) (.t 120)),none),[])] [0,4,12,14])
(.seq
(.drw [
((.s 123 (.mv (.t 0)),none),[]),
((.s 124 (.mv (.t 4)),none),[]),
((.s 125 (.bin .sub none (.t 124) (.c (.int .i64 3))),none),[]),
((.s 126 (.mv (.t 0)),none),[]),
((.s 127 (.mv (.t 4)),none),[]),
((.s 128 (.bin .sub none (.t 127) (.c (.int .i64 4))),none),[]),
((.s 129 (.mv (.t 14)),none),[]),
((.s 130 (.bin .add none (.t 129) (.c (.int .u32 1))),none),[]),
((.s 131 (.ixS (.c (.str [48,48,48,49,48,50,48,51,48,52,48,53,48,54,48,55,48,56,48,57,49,48,49,49,49,50,49,51,49,52,49,53,49,54,49,55,49,56,49,57,50,48,50,49,50,50,50,51,50,52,50,53,50,54,50,55,50,56,50,57,51,48,51,49,51,50,51,51,51,52,51,53,51,54,51,55,51,56,51,57,52,48,52,49,52,50,52,51,52,52,52,53,52,54,52,55,52,56,52,57,53,48,53,49,53,50,53,51,53,52,53,53,53,54,53,55,53,56,53,57,54,48,54,49,54,50,54,51,54,52,54,53,54,54,54,55,54,56,54,57,55,48,55,49,55,50,55,51,55,52,55,53,55,54,55,55,55,56,55,57,56,48,56,49,56,50,56,51,56,52,56,53,56,54,56,55,56,56,56,57,57,48,57,49,57,50,57,51,57,52,57,53,57,54,57,55,57,56,57,57])) (.t 130)),none),[]),
((.s 132 (.mv (.t 14)),none),[]),
((.s 133 (.ixS (.c (.str [48,48,48,49,48,50,48,51,48,52,48,53,48,54,48,55,48,56,48,57,49,48,49,49,49,50,49,51,49,52,49,53,49,54,49,55,49,56,49,57,50,48,50,49,50,50,50,51,50,52,50,53,50,54,50,55,50,56,50,57,51,48,51,49,51,50,51,51,51,52,51,53,51,54,51,55,51,56,51,57,52,48,52,49,52,50,52,51,52,52,52,53,52,54,52,55,52,56,52,57,53,48,53,49,53,50,53,51,53,52,53,53,53,54,53,55,53,56,53,57,54,48,54,49,54,50,54,51,54,52,54,53,54,54,54,55,54,56,54,57,55,48,55,49,55,50,55,51,55,52,55,53,55,54,55,55,55,56,55,57,56,48,56,49,56,50,56,51,56,52,56,53,56,54,56,55,56,56,56,57,57,48,57,49,57,50,57,51,57,52,57,53,57,54,57,55,57,56,57,57])) (.t 132)),none),[]),
((.s 134 (.ia 1 (.t 123) (.t 125)),none),[]),
((.n (.st 1 (.t 134) (.t 131)),none),[]),
((.s 135 (.ia 1 (.t 126) (.t 128)),none),[]),
((.n (.st 1 (.t 135) (.t 133)),none),[])] [0,4,12])
(.reg [
.s 136 (.mv (.t 4)),
.s 137 (.bin .sub none (.t 136) (.c (.int .i64 4))),
.s 4 (.mv (.t 137))] [0,4,12]))))))
.skip))
(.seq
(.seq
(.reg [
.s 138 (.mv (.t 4)),
.s 139 (.bin .geq none (.t 138) (.c (.int .i64 2)))] [0,4,12,139])
(.cnd (.t 139)
(.seq
(.reg [
.s 140 (.mv (.t 12)),
.s 141 (.bin .rem none (.t 140) (.c (.int .u32 100))),
.s 142 (.bin .mul none (.t 141) (.c (.int .u32 2))),
.s 16 (.mv (.t 142))] [0,4,12,16])
(.seq
(.reg [
.s 143 (.mv (.t 12)),
.s 144 (.bin .quo none (.t 143) (.c (.int .u32 100))),
.s 12 (.mv (.t 144))] [0,4,12,16])
(.seq
(.drw [
((.s 145 (.mv (.t 0)),none),[]),
((.s 146 (.mv (.t 4)),none),[]),
((.s 147 (.bin .sub none (.t 146) (.c (.int .i64 1))),none),[]),
((.s 148 (.mv (.t 0)),none),[]),
((.s 149 (.mv (.t 4)),none),[]),
((.s 150 (.bin .sub none (.t 149) (.c (.int .i64 2))),none),[]),
((.s 151 (.mv (.t 16)),none),[]),
((.s 152 (.bin .add none (.t 151) (.c (.int .u32 1))),none),[]),
((.s 153 (.ixS (.c (.str [48,48,48,49,48,50,48,51,48,52,48,53,48,54,48,55,48,56,48,57,49,48,49,49,49,50,49,51,49,52,49,53,49,54,49,55,49,56,49,57,50,48,50,49,50,50,50,51,50,52,50,53,50,54,50,55,50,56,50,57,51,48,51,49,51,50,51,51,51,52,51,53,51,54,51,55,51,56,51,57,52,48,52,49,52,50,52,51,52,52,52,53,52,54,52,55,52,56,52,57,53,48,53,49,53,50,53,51,53,52,53,53,53,54,53,55,53,56,53,57,54,48,54,49,54,50,54,51,54,52,54,53,54,54,54,55,54,56,54,57,55,48,55,49,55,50,55,51,55,52,55,53,55,54,55,55,55,56,55,57,56,48,56,49,56,50,56,51,56,52,56,53,56,54,56,55,56,56,56,57,57,48,57,49,57,50,57,51,57,52,57,53,57,54,57,55,57,56,57,57])) (.t 152)),none),[]),
((.s 154 (.mv (.t 16)),none),[]),
((.s 155 (.ixS (.c (.str [48,48,48,49,48,50,48,51,48,52,48,53,48,54,48,55,48,56,48,57,49,48,49,49,49,50,49,51,49,52,49,53,49,54,49,55,49,56,49,57,50,48,50,49,50,50,50,51,50,52,50,53,50,54,50,55,50,56,50,57,51,48,51,49,51,50,51,51,51,52,51,53,51,54,51,55,51,56,51,57,52,48,52,49,52,50,52,51,52,52,52,53,52,54,52,55,52,56,52,57,53,48,53,49,53,50,53,51,53,52,53,53,53,54,53,55,53,56,53,57,54,48,54,49,54,50,54,51,54,52,54,53,54,54,54,55,54,56,54,57,55,48,55,49,55,50,55,51,55,52,55,53,55,54,55,55,55,56,55,57,56,48,56,49,56,50,56,51,56,52,56,53,56,54,56,55,56,56,56,57,57,48,57,49,57,50,57,51,57,52,57,53,57,54,57,55,57,56,57,57])) (.t 154)),none),[]),
((.s 156 (.ia 1 (.t 145) (.t 147)),none),[]),
((.n (.st 1 (.t 156) (.t 153)),none),[]),
((.s 157 (.ia 1 (.t 148) (.t 150)),none),[]),
((.n (.st 1 (.t 157) (.t 155)),none),[])] [0,4,12])
(.reg [
.s 158 (.mv (.t 4)),
.s 159 (.bin .sub none (.t 158) (.c (.int .i64 2))),
.s 4 (.mv (.t 159))] [0,4,12]))))
.skip))
(.seq
(.reg [
.s 160 (.mv (.t 4)),
.s 161 (.bin .gtr none (.t 160) (.c (.int .i64 0)))] [0,12,161])
(.cnd (.t 161)
(.reg [
.s 162 (.mv (.t 0)),
.s 163 (.mv (.t 12)),
.s 164 (.bin .add none (.c (.int .u32 48)) (.t 163)),
.s 165 (.cvI .u8 (.t 164)),
.s 166 (.ia 1 (.t 162) (.c (.int .i64 0))),
.n (.st 1 (.t 166) (.t 165))] [])
.skip))))))),
[]⟩
/-- internal/strconv.formatBits -/
def F163 : DF := ⟨5,
(.seq
(.reg [
.s 10 (.mv (.c (.sl 1 ⟨none,0,(some 0),true⟩ []))),
.s 11 (.mv (.c (.str [])))] [0,1,2,3,4,10,11])
(.seq
(.seq
(.reg [
.s 19 (.mv (.t 2)),
.s 20 (.bin .lss none (.t 19) (.c (.int .i64 2))),
.s 21 (.mv (.t 20)),
.g 22 (.mv (.t 2)) 21 false,
.g 23 (.bin .eql (some .int) (.t 22) (.c (.int .i64 10))) 21 false,
.s 24 (.pick (.t 21) (.c (.bool true)) (.t 23)),
.s 25 (.mv (.t 24)),
.g 26 (.mv (.t 2)) 25 false,
.g 27 (.bin .gtr none (.t 26) (.c (.int .i64 36))) 25 false,
.s 28 (.pick (.t 25) (.c (.bool true)) (.t 27))] [0,1,2,3,4,10,11,28])
(.cnd (.t 28)
(.reg [
.s 29 (.mki 9 (.c (.str [115,116,114,99,111,110,118,58,32,105,108,108,101,103,97,108,32,65,112,112,101,110,100,73,110,116,47,70,111,114,109,97,116,73,110,116,32,98,97,115,101]))),
.n (.pnc (.t 29))] [0,1,2,3,4,10,11])
.skip))
(.seq
(.reg [
.s 12 (.alH 184 [(.int .u8 0),(.int .u8 0),(.int .u8 0),(.int .u8 0),(.int .u8 0),(.int .u8 0),(.int .u8 0),(.int .u8 0),(.int .u8 0),(.int .u8 0),(.int .u8 0),(.int .u8 0),(.int .u8 0),(.int .u8 0),(.int .u8 0),(.int .u8 0),(.int .u8 0),(.int .u8 0),(.int .u8 0),(.int .u8 0),(.int .u8 0),(.int .u8 0),(.int .u8 0),(.int .u8 0),(.int .u8 0),(.int .u8 0),(.int .u8 0),(.int .u8 0),(.int .u8 0),(.int .u8 0),(.int .u8 0),(.int .u8 0),(.int .u8 0),(.int .u8 0),(.int .u8 0),(.int .u8 0),(.int .u8 0),(.int .u8 0),(.int .u8 0),(.int .u8 0),(.int .u8 0),(.int .u8 0),(.int .u8 0),(.int .u8 0),(.int .u8 0),(.int .u8 0),(.int .u8 0),(.int .u8 0),(.int .u8 0),(.int .u8 0),(.int .u8 0),(.int .u8 0),(.int .u8 0),(.int .u8 0),(.int .u8 0),(.int .u8 0),(.int .u8 0),(.int .u8 0),(.int .u8 0),(.int .u8 0),(.int .u8 0),(.int .u8 0),(.int .u8 0),(.int .u8 0),(.int .u8 0)])] [0,1,2,3,4,10,11,12])
(.seq
(.reg [
.s 13 (.mv (.c (.int .i64 65)))] [0,1,2,3,4,10,11,12,13])
(.seq
(.seq
(.reg [
.s 30 (.mv (.t 3))] [0,1,2,3,4,10,11,12,13,30])
(.cnd (.t 30)
(.reg [
.s 31 (.mv (.t 1)),
.s 32 (.un .neg (.t 31)),
.s 1 (.mv (.t 32))] [0,1,2,3,4,10,11,12,13])
.skip))
(.seq
(.seq
(.reg [
.s 33 (.mv (.t 2)),
.s 34 (.call 174 [(.t 33)])] [0,1,2,3,4,10,11,12,13,34])
(.cnd (.t 34)
(.seq
(.reg [
.s 35 (.mv (.t 2)),
.s 36 (.cvI .u64 (.t 35)),
.s 37 (.call 175 [(.t 36)]),
.s 38 (.cvI .u64 (.t 37)),
.s 14 (.mv (.t 38))] [0,1,2,3,4,10,11,12,13,14])
(.seq
(.reg [
.s 39 (.mv (.t 2)),
.s 40 (.cvI .u64 (.t 39)),
.s 15 (.mv (.t 40))] [0,1,2,3,4,10,11,12,13,14,15])
(.seq
(.reg [
.s 41 (.mv (.t 2)),
.s 42 (.cvI .u64 (.t 41)),
.s 43 (.bin .sub none (.t 42) (.c (.int .u64 1))),
.s 16 (.mv (.t 43))] [0,1,3,4,10,11,12,13,14,15,16])
(.seq
(.blk 0
(.seq
(.trim [0,1,3,4,10,11,12,13,14,15,16])
(.lop
(.seq
(.seq
(.seq
(.reg [
.s 44 (.mv (.t 1)),
.s 45 (.mv (.t 15)),
.s 46 (.bin .geq none (.t 44) (.t 45))] [0,1,3,4,10,11,12,13,14,15,16,46])
(.cnd (.t 46)
.skip
(.exit 0)))
(.blk 1
(.seq
(.reg [
.s 47 (.mv (.t 13)),
.s 48 (.bin .sub none (.t 47) (.c (.int .i64 1))),
.s 13 (.mv (.t 48))] [0,1,3,4,10,11,12,13,14,15,16])
(.seq
(.reg [
.s 49 (.mv (.t 13)),
.s 50 (.mv (.t 1)),
.s 51 (.mv (.t 16)),
.s 52 (.bin .and none (.t 50) (.t 51)),
.s 53 (.ixS (.c (.str [48,49,50,51,52,53,54,55,56,57,97,98,99,100,101,102,103,104,105,106,107,108,109,110,111,112,113,114,115,116,117,118,119,120,121,122])) (.t 52)),
.s 54 (.iaA 1 65 (.t 12) (.t 49)),
.n (.st 1 (.t 54) (.t 53))] [0,1,3,4,10,11,12,13,14,15,16])
(.reg [
.s 55 (.mv (.t 1)),
.s 56 (.mv (.t 14)),
.s 57 (.bin .shr none (.t 55) (.t 56)),
.s 1 (.mv (.t 57))] [0,1,3,4,10,11,12,13,14,15,16])))))
(.trim [0,1,3,4,10,11,12,13,14,15,16])))))
(.seq
(.reg [
.s 58 (.mv (.t 13)),
.s 59 (.bin .sub none (.t 58) (.c (.int .i64 1))),
.s 13 (.mv (.t 59))] [0,1,3,4,10,11,12,13])
(.reg [
.s 60 (.mv (.t 13)),
.s 61 (.mv (.t 1)),
.s 62 (.ixS (.c (.str [48,49,50,51,52,53,54,55,56,57,97,98,99,100,101,102,103,104,105,106,107,108,109,110,111,112,113,114,115,116,117,118,119,120,121,122])) (.t 61)),
.s 63 (.iaA 1 65 (.t 12) (.t 60)),
.n (.st 1 (.t 63) (.t 62))] [0,3,4,10,11,12,13]))))))
(.seq
(.reg [
.s 64 (.mv (.t 2)),
.s 65 (.cvI .u64 (.t 64)),
.s 17 (.mv (.t 65))] [0,1,3,4,10,11,12,13,17])
(.seq
(.blk 2
(.seq
(.trim [0,1,3,4,10,11,12,13,17])
(.lop
(.seq
(.seq
(.seq
(.reg [
.s 66 (.mv (.t 1)),
.s 67 (.mv (.t 17)),
.s 68 (.bin .geq none (.t 66) (.t 67))] [0,1,3,4,10,11,12,13,17,68])
(.cnd (.t 68)
.skip
(.exit 2)))
(.blk 3
(.seq
(.reg [
.s 69 (.mv (.t 13)),
.s 70 (.bin .sub none (.t 69) (.c (.int .i64 1))),
.s 13 (.mv (.t 70))] [0,1,3,4,10,11,12,13,17])
(.seq
(.reg [
.s 71 (.mv (.t 1)),
.s 72 (.mv (.t 17)),
.s 73 (.bin .quo none (.t 71) (.t 72)),
.s 18 (.mv (.t 73))] [0,1,3,4,10,11,12,13,17,18])
(.seq
(.reg [
.s 74 (.mv (.t 13)),
.s 75 (.mv (.t 1)),
.s 76 (.mv (.t 18)),
.s 77 (.mv (.t 17)),
.s 78 (.bin .mul none (.t 76) (.t 77)),
.s 79 (.bin .sub none (.t 75) (.t 78)),
.s 80 (.ixS (.c (.str [48,49,50,51,52,53,54,55,56,57,97,98,99,100,101,102,103,104,105,106,107,108,109,110,111,112,113,114,115,116,117,118,119,120,121,122])) (.t 79)),
.s 81 (.iaA 1 65 (.t 12) (.t 74)),
.n (.st 1 (.t 81) (.t 80))] [0,3,4,10,11,12,13,17,18])
(.reg [
.s 82 (.mv (.t 18)),
.s 1 (.mv (.t 82))] [0,1,3,4,10,11,12,13,17]))))))
(.trim [0,1,3,4,10,11,12,13,17])))))
(.seq
(.reg [
.s 83 (.mv (.t 13)),
.s 84 (.bin .sub none (.t 83) (.c (.int .i64 1))),
.s 13 (.mv (.t 84))] [0,1,3,4,10,11,12,13])
(.reg [
.s 85 (.mv (.t 13)),
.s 86 (.mv (.t 1)),
.s 87 (.ixS (.c (.str [48,49,50,51,52,53,54,55,56,57,97,98,99,100,101,102,103,104,105,106,107,108,109,110,111,112,113,114,115,116,117,118,119,120,121,122])) (.t 86)),
.s 88 (.iaA 1 65 (.t 12) (.t 85)),
.n (.st 1 (.t 88) (.t 87))] [0,3,4,10,11,12,13]))))))
(.seq
(.seq
(.reg [
.s 89 (.mv (.t 3))] [0,4,10,11,12,13,89])
(.cnd (.t 89)
(.seq
(.reg [
.s 90 (.mv (.t 13)),
.s 91 (.bin .sub none (.t 90) (.c (.int .i64 1))),
.s 13 (.mv (.t 91))] [0,4,10,11,12,13])
(.reg [
.s 92 (.mv (.t 13)),
.s 93 (.iaA 1 65 (.t 12) (.t 92)),
.n (.st 1 (.t 93) (.c (.int .u8 45)))] [0,4,10,11,12,13]))
.skip))
(.seq
(.seq
(.reg [
.s 94 (.mv (.t 4))] [0,10,11,12,13,94])
(.cnd (.t 94)
(.seq
(.reg [
.s 95 (.mv (.t 0)),
.s 96 (.mv (.t 13)),
.s 97 (.slP 1 65 (.t 12) (some (.t 96)) none),
.s 98 (.app false 5 1 1 (.t 95) (.t 97)),
.s 10 (.mv (.t 98))] [10,11])
.ret)
.skip))
(.seq
(.reg [
.s 99 (.mv (.t 13)),
.s 100 (.slP 1 65 (.t 12) (some (.t 99)) none),
.s 101 (.cvBS (.t 100)),
.s 11 (.mv (.t 101))] [10,11])
.ret))))))))),
[.tmp 10,.tmp 11]⟩
/-- internal/bytealg.hashStr[string] -/
def F165 : DF := ⟨1,
(.seq
(.reg [
.s 2 (.mv (.c (.int .u32 0))),
.s 3 (.mv (.c (.int .u32 0)))] [0])
(.seq
(.reg [
.s 4 (.mv (.c (.int .u32 0)))] [0,4])
(.seq
(.seq
(.reg [
.s 5 (.mv (.c (.int .i64 0)))] [0,4,5])
(.blk 0
(.seq
(.trim [0,4,5])
(.lop
(.seq
(.seq
(.seq
(.reg [
.s 9 (.mv (.t 5)),
.s 10 (.mv (.t 0)),
.s 11 (.lenS (.t 10)),
.s 12 (.bin .lss none (.t 9) (.t 11))] [0,4,5,12])
(.cnd (.t 12)
.skip
(.exit 0)))
(.seq
(.blk 1
(.reg [
.s 15 (.mv (.t 4)),
.s 16 (.bin .mul none (.t 15) (.c (.int .u32 16777619))),
.s 17 (.mv (.t 0)),
.s 18 (.mv (.t 5)),
.s 19 (.ixS (.t 17) (.t 18)),
.s 20 (.cvI .u32 (.t 19)),
.s 21 (.bin .add none (.t 16) (.t 20)),
.s 4 (.mv (.t 21))] [0,4,5]))
(.reg [
.s 13 (.mv (.t 5)),
.s 14 (.bin .add none (.t 13) (.c (.int .i64 1))),
.s 5 (.mv (.t 14))] [0,4,5])))
(.trim [0,4,5]))))))
(.seq
(.reg [
.s 6 (.mv (.c (.int .u32 1))),
.s 7 (.mv (.c (.int .u32 16777619)))] [0,4,6,7])
(.seq
(.seq
(.reg [
.s 22 (.mv (.t 0)),
.s 23 (.lenS (.t 22)),
.s 8 (.mv (.t 23))] [4,6,7,8])
(.blk 2
(.seq
(.trim [4,6,7,8])
(.lop
(.seq
(.seq
(.seq
(.reg [
.s 24 (.mv (.t 8)),
.s 25 (.bin .gtr none (.t 24) (.c (.int .i64 0)))] [4,6,7,8,25])
(.cnd (.t 25)
.skip
(.exit 2)))
(.seq
(.blk 3
(.seq
(.seq
(.reg [
.s 28 (.mv (.t 8)),
.s 29 (.bin .and none (.t 28) (.c (.int .i64 1))),
.s 30 (.bin .neq (some .int) (.t 29) (.c (.int .i64 0)))] [4,6,7,8,30])
(.cnd (.t 30)
(.reg [
.s 31 (.mv (.t 6)),
.s 32 (.mv (.t 7)),
.s 33 (.bin .mul none (.t 31) (.t 32)),
.s 6 (.mv (.t 33))] [4,6,7,8])
.skip))
(.reg [
.s 34 (.mv (.t 7)),
.s 35 (.mv (.t 7)),
.s 36 (.bin .mul none (.t 34) (.t 35)),
.s 7 (.mv (.t 36))] [4,6,7,8])))
(.reg [
.s 26 (.mv (.t 8)),
.s 27 (.bin .shr none (.t 26) (.c (.int .u64 1))),
.s 8 (.mv (.t 27))] [4,6,7,8])))
(.trim [4,6,7,8]))))))
(.seq
(.reg [
.s 37 (.mv (.t 4)),
.s 38 (.mv (.t 6)),
.s 2 (.mv (.t 37)),
.s 3 (.mv (.t 38))] [2,3])
.ret)))))),
[.tmp 2,.tmp 3]⟩
end Go.Proofs.C1
