/- The code of the functions that are reached, printed by a program (Gen). Walking abstract code with symbols: rules. The entry: what is read as data, as abstract values. Trees over the abstract store, and how a store grows. Pure data: what a function that reads pure data and makes new things says, whatever the store. What a function holds in the store: slices that grow, maps, variables; each apart from the others. Trees as pure data; the reference's Size, Copy, Plain; the program's Copy. Trees: the reference's Copy and Plain, the program's Copy. Trees: the reference's Plain; the program's Copy. Nodes as pure data; size, the two Copies. Nodes: the reference's Same; the Kid to which a step leads. Nodes: a copy whose lists are one's own, and may be written; the law CstApart, walked. -/
import Derived.Test.YthjebaophnkpbaaGreatDoorAl
set_option linter.unusedSimpArgs false
set_option linter.unusedVariables false
namespace Go.Proofs.C1
open Go Go.Dn
set_option maxRecDepth 100000
/-- internal/strconv.ParseUint -/
def F166 : DF := ⟨3,
(.seq
(.reg [
.s 6 (.mv (.c (.int .u64 0))),
.s 7 (.mv (.c .nilif))] [0,1,2])
(.seq
(.seq
(.reg [
.s 18 (.mv (.t 0)),
.s 19 (.bin .eql (some .str) (.t 18) (.c (.str [])))] [0,1,2,19])
(.cnd (.t 19)
(.seq
(.reg [
.s 20 (.mki 156 (.c (.int .i64 2))),
.s 6 (.mv (.c (.int .u64 0))),
.s 7 (.mv (.t 20))] [6,7])
.ret)
.skip))
(.seq
(.reg [
.s 21 (.mv (.t 1)),
.s 22 (.bin .eql (some .int) (.t 21) (.c (.int .i64 0))),
.s 8 (.mv (.t 22))] [0,1,2,8])
(.seq
(.reg [
.s 23 (.mv (.t 0)),
.s 9 (.mv (.t 23))] [0,1,2,8,9])
(.seq
(.blk 0
(.seq
(.reg [
.s 26 (.mv (.t 1)),
.s 27 (.bin .leq none (.c (.int .i64 2)) (.t 26)),
.s 28 (.mv (.t 27)),
.g 29 (.mv (.t 1)) 28 true,
.g 30 (.bin .leq none (.t 29) (.c (.int .i64 36))) 28 true,
.s 31 (.pick (.t 28) (.t 30) (.c (.bool false))),
.s 25 (.mv (.t 31))] [0,1,2,8,9,25])
(.cnd (.t 25)
.skip
(.seq
(.reg [
.s 33 (.mv (.t 1)),
.s 34 (.bin .eql (some .int) (.t 33) (.c (.int .i64 0))),
.s 32 (.mv (.t 34))] [0,2,8,9,32])
(.cnd (.t 32)
(.seq
(.reg [
.s 1 (.mv (.c (.int .i64 10)))] [0,1,2,8,9])
(.seq
(.reg [
.s 35 (.mv (.t 0)),
.s 36 (.ixS (.t 35) (.c (.int .i64 0))),
.s 37 (.bin .eql (some .int) (.t 36) (.c (.int .u8 48)))] [0,1,2,8,9,37])
(.cnd (.t 37)
(.blk 1
(.seq
(.reg [
.s 41 (.mv (.t 0)),
.s 42 (.lenS (.t 41)),
.s 43 (.bin .geq none (.t 42) (.c (.int .i64 3))),
.s 44 (.mv (.t 43)),
.g 45 (.mv (.t 0)) 44 true,
.g 46 (.ixS (.t 45) (.c (.int .i64 1))) 44 true,
.g 47 (.call 176 [(.t 46)]) 44 true,
.g 48 (.bin .eql (some .int) (.t 47) (.c (.int .u8 98))) 44 true,
.s 49 (.pick (.t 44) (.t 48) (.c (.bool false))),
.s 40 (.mv (.t 49))] [0,2,8,9,40])
(.cnd (.t 40)
(.seq
(.reg [
.s 1 (.mv (.c (.int .i64 2)))] [0,1,2,8,9])
(.reg [
.s 50 (.mv (.t 0)),
.s 51 (.slS (.t 50) (some (.c (.int .i64 2))) none),
.s 0 (.mv (.t 51))] [0,1,2,8,9]))
(.seq
(.reg [
.s 53 (.mv (.t 0)),
.s 54 (.lenS (.t 53)),
.s 55 (.bin .geq none (.t 54) (.c (.int .i64 3))),
.s 56 (.mv (.t 55)),
.g 57 (.mv (.t 0)) 56 true,
.g 58 (.ixS (.t 57) (.c (.int .i64 1))) 56 true,
.g 59 (.call 176 [(.t 58)]) 56 true,
.g 60 (.bin .eql (some .int) (.t 59) (.c (.int .u8 111))) 56 true,
.s 61 (.pick (.t 56) (.t 60) (.c (.bool false))),
.s 52 (.mv (.t 61))] [0,2,8,9,52])
(.cnd (.t 52)
(.seq
(.reg [
.s 1 (.mv (.c (.int .i64 8)))] [0,1,2,8,9])
(.reg [
.s 62 (.mv (.t 0)),
.s 63 (.slS (.t 62) (some (.c (.int .i64 2))) none),
.s 0 (.mv (.t 63))] [0,1,2,8,9]))
(.seq
(.reg [
.s 65 (.mv (.t 0)),
.s 66 (.lenS (.t 65)),
.s 67 (.bin .geq none (.t 66) (.c (.int .i64 3))),
.s 68 (.mv (.t 67)),
.g 69 (.mv (.t 0)) 68 true,
.g 70 (.ixS (.t 69) (.c (.int .i64 1))) 68 true,
.g 71 (.call 176 [(.t 70)]) 68 true,
.g 72 (.bin .eql (some .int) (.t 71) (.c (.int .u8 120))) 68 true,
.s 73 (.pick (.t 68) (.t 72) (.c (.bool false))),
.s 64 (.mv (.t 73))] [0,2,8,9,64])
(.cnd (.t 64)
(.seq
(.reg [
.s 1 (.mv (.c (.int .i64 16)))] [0,1,2,8,9])
(.reg [
.s 74 (.mv (.t 0)),
.s 75 (.slS (.t 74) (some (.c (.int .i64 2))) none),
.s 0 (.mv (.t 75))] [0,1,2,8,9]))
(.seq
(.reg [
.s 1 (.mv (.c (.int .i64 8)))] [0,1,2,8,9])
(.reg [
.s 38 (.mv (.t 0)),
.s 39 (.slS (.t 38) (some (.c (.int .i64 1))) none),
.s 0 (.mv (.t 39))] [0,1,2,8,9])))))))))
.skip)))
(.seq
(.reg [
.s 24 (.mki 156 (.c (.int .i64 3))),
.s 6 (.mv (.c (.int .u64 0))),
.s 7 (.mv (.t 24))] [6,7])
.ret))))))
(.seq
(.seq
(.reg [
.s 76 (.mv (.t 2)),
.s 77 (.bin .eql (some .int) (.t 76) (.c (.int .i64 0)))] [0,1,2,8,9,77])
(.cnd (.t 77)
(.reg [
.s 2 (.mv (.c (.int .i64 64)))] [0,1,2,8,9])
(.seq
(.reg [
.s 78 (.mv (.t 2)),
.s 79 (.bin .lss none (.t 78) (.c (.int .i64 0))),
.s 80 (.mv (.t 79)),
.g 81 (.mv (.t 2)) 80 false,
.g 82 (.bin .gtr none (.t 81) (.c (.int .i64 64))) 80 false,
.s 83 (.pick (.t 80) (.c (.bool true)) (.t 82))] [0,1,2,8,9,83])
(.cnd (.t 83)
(.seq
(.reg [
.s 84 (.mki 156 (.c (.int .i64 4))),
.s 6 (.mv (.c (.int .u64 0))),
.s 7 (.mv (.t 84))] [6,7])
.ret)
.skip))))
(.seq
(.reg [
.s 10 (.mv (.c (.int .u64 0)))] [0,1,2,8,9])
(.seq
(.seq
(.reg [
.s 85 (.mv (.t 1))] [0,1,2,8,9,85])
(.blk 2
(.seq
(.reg [
.s 91 (.bin .eql (some .int) (.t 85) (.c (.int .i64 10))),
.s 90 (.mv (.t 91))] [0,1,2,8,9,85,90])
(.cnd (.t 90)
(.reg [
.s 10 (.mv (.c (.int .u64 1844674407370955162)))] [0,1,2,8,9,10])
(.seq
(.reg [
.s 93 (.bin .eql (some .int) (.t 85) (.c (.int .i64 16))),
.s 92 (.mv (.t 93))] [0,1,2,8,9,92])
(.cnd (.t 92)
(.reg [
.s 10 (.mv (.c (.int .u64 1152921504606846976)))] [0,1,2,8,9,10])
(.reg [
.s 86 (.mv (.t 1)),
.s 87 (.cvI .u64 (.t 86)),
.s 88 (.bin .quo none (.c (.int .u64 18446744073709551615)) (.t 87)),
.s 89 (.bin .add none (.t 88) (.c (.int .u64 1))),
.s 10 (.mv (.t 89))] [0,1,2,8,9,10])))))))
(.seq
(.reg [
.s 94 (.mv (.t 2)),
.s 95 (.cvI .u64 (.t 94)),
.s 96 (.bin .shl none (.c (.int .u64 1)) (.t 95)),
.s 97 (.bin .sub none (.t 96) (.c (.int .u64 1))),
.s 11 (.mv (.t 97))] [0,1,8,9,10,11])
(.seq
(.reg [
.s 12 (.mv (.c (.bool false)))] [0,1,8,9,10,11,12])
(.seq
(.reg [
.s 13 (.mv (.c (.int .u64 0)))] [0,1,8,9,10,11,12,13])
(.seq
(.seq
(.reg [
.s 98 (.mv (.t 0)),
.s 99 (.cvSB 5 (.t 98)),
.s 100 (.len (.t 99)),
.s 101 (.mv (.c (.int .i64 0)))] [1,8,9,10,11,12,13,99,100,101])
(.blk 3
(.seq
(.trim [1,8,9,10,11,12,13,99,100,101])
(.lop
(.seq
(.seq
(.reg [
.s 102 (.bin .lss none (.t 101) (.t 100))] [1,8,9,10,11,12,13,99,100,101,102])
(.seq
(.cnd (.t 102)
.skip
(.exit 3))
(.seq
(.blk 4
(.seq
(.reg [
.s 103 (.ia 1 (.t 99) (.t 101)),
.s 104 (.ld false 1 (.t 103)),
.s 15 (.mv (.t 104))] [1,8,9,10,11,12,13,15,99,100,101])
(.seq
(.reg [
.s 16 (.mv (.c (.int .u8 0)))] [1,8,9,10,11,12,13,15,99,100,101])
(.seq
(.blk 5
(.seq
(.reg [
.s 107 (.mv (.t 15)),
.s 108 (.bin .eql (some .int) (.t 107) (.c (.int .u8 95))),
.s 109 (.mv (.t 108)),
.g 110 (.mv (.t 8)) 109 true,
.s 111 (.pick (.t 109) (.t 110) (.c (.bool false))),
.s 106 (.mv (.t 111))] [1,8,9,10,11,12,13,15,99,100,101,106])
(.cnd (.t 106)
(.seq
(.reg [
.s 12 (.mv (.c (.bool true)))] [1,8,9,10,11,12,13,99,100,101])
(.exit 4))
(.seq
(.reg [
.s 113 (.mv (.t 15)),
.s 114 (.bin .leq none (.c (.int .u8 48)) (.t 113)),
.s 115 (.mv (.t 114)),
.g 116 (.mv (.t 15)) 115 true,
.g 117 (.bin .leq none (.t 116) (.c (.int .u8 57))) 115 true,
.s 118 (.pick (.t 115) (.t 117) (.c (.bool false))),
.s 112 (.mv (.t 118))] [1,8,9,10,11,12,13,15,99,100,101,112])
(.cnd (.t 112)
(.reg [
.s 119 (.mv (.t 15)),
.s 120 (.bin .sub none (.t 119) (.c (.int .u8 48))),
.s 16 (.mv (.t 120))] [1,8,9,10,11,12,13,16,99,100,101])
(.seq
(.reg [
.s 122 (.mv (.t 15)),
.s 123 (.call 176 [(.t 122)]),
.s 124 (.bin .leq none (.c (.int .u8 97)) (.t 123)),
.s 125 (.mv (.t 124)),
.g 126 (.mv (.t 15)) 125 true,
.g 127 (.call 176 [(.t 126)]) 125 true,
.g 128 (.bin .leq none (.t 127) (.c (.int .u8 122))) 125 true,
.s 129 (.pick (.t 125) (.t 128) (.c (.bool false))),
.s 121 (.mv (.t 129))] [1,8,9,10,11,12,13,15,99,100,101,121])
(.cnd (.t 121)
(.reg [
.s 130 (.mv (.t 15)),
.s 131 (.call 176 [(.t 130)]),
.s 132 (.bin .sub none (.t 131) (.c (.int .u8 97))),
.s 133 (.bin .add none (.t 132) (.c (.int .u8 10))),
.s 16 (.mv (.t 133))] [1,8,9,10,11,12,13,16,99,100,101])
(.seq
(.reg [
.s 105 (.mki 156 (.c (.int .i64 2))),
.s 6 (.mv (.c (.int .u64 0))),
.s 7 (.mv (.t 105))] [6,7])
.ret))))))))
(.seq
(.seq
(.reg [
.s 134 (.mv (.t 16)),
.s 135 (.mv (.t 1)),
.s 136 (.cvI .u8 (.t 135)),
.s 137 (.bin .geq none (.t 134) (.t 136))] [1,8,9,10,11,12,13,16,99,100,101,137])
(.cnd (.t 137)
(.seq
(.reg [
.s 138 (.mki 156 (.c (.int .i64 2))),
.s 6 (.mv (.c (.int .u64 0))),
.s 7 (.mv (.t 138))] [6,7])
.ret)
.skip))
(.seq
(.seq
(.reg [
.s 139 (.mv (.t 13)),
.s 140 (.mv (.t 10)),
.s 141 (.bin .geq none (.t 139) (.t 140))] [1,8,9,10,11,12,13,16,99,100,101,141])
(.cnd (.t 141)
(.seq
(.reg [
.s 142 (.mv (.t 11)),
.s 143 (.mki 156 (.c (.int .i64 1))),
.s 6 (.mv (.t 142)),
.s 7 (.mv (.t 143))] [6,7])
.ret)
.skip))
(.seq
(.reg [
.s 144 (.mv (.t 13)),
.s 145 (.mv (.t 1)),
.s 146 (.cvI .u64 (.t 145)),
.s 147 (.bin .mul none (.t 144) (.t 146)),
.s 13 (.mv (.t 147))] [1,8,9,10,11,12,13,16,99,100,101])
(.seq
(.reg [
.s 148 (.mv (.t 13)),
.s 149 (.mv (.t 16)),
.s 150 (.cvI .u64 (.t 149)),
.s 151 (.bin .add none (.t 148) (.t 150)),
.s 17 (.mv (.t 151))] [1,8,9,10,11,12,13,17,99,100,101])
(.seq
(.seq
(.reg [
.s 152 (.mv (.t 17)),
.s 153 (.mv (.t 13)),
.s 154 (.bin .lss none (.t 152) (.t 153)),
.s 155 (.mv (.t 154)),
.g 156 (.mv (.t 17)) 155 false,
.g 157 (.mv (.t 11)) 155 false,
.g 158 (.bin .gtr none (.t 156) (.t 157)) 155 false,
.s 159 (.pick (.t 155) (.c (.bool true)) (.t 158))] [1,8,9,10,11,12,17,99,100,101,159])
(.cnd (.t 159)
(.seq
(.reg [
.s 160 (.mv (.t 11)),
.s 161 (.mki 156 (.c (.int .i64 1))),
.s 6 (.mv (.t 160)),
.s 7 (.mv (.t 161))] [6,7])
.ret)
.skip))
(.reg [
.s 162 (.mv (.t 17)),
.s 13 (.mv (.t 162))] [1,8,9,10,11,12,13,99,100,101]))))))))))
(.reg [
.s 163 (.bin .add none (.t 101) (.c (.int .i64 1))),
.s 101 (.mv (.t 163))] [1,8,9,10,11,12,13,99,100,101]))))
(.trim [1,8,9,10,11,12,13,99,100,101]))))))
(.seq
(.seq
(.reg [
.s 164 (.mv (.t 12)),
.s 165 (.mv (.t 164)),
.g 166 (.mv (.t 9)) 165 true,
.g 167 (.call 177 [(.t 166)]) 165 true,
.g 168 (.un .not (.t 167)) 165 true,
.s 169 (.pick (.t 165) (.t 168) (.c (.bool false)))] [13,169])
(.cnd (.t 169)
(.seq
(.reg [
.s 170 (.mki 156 (.c (.int .i64 2))),
.s 6 (.mv (.c (.int .u64 0))),
.s 7 (.mv (.t 170))] [6,7])
.ret)
.skip))
(.seq
(.reg [
.s 171 (.mv (.t 13)),
.s 6 (.mv (.t 171)),
.s 7 (.mv (.c .nilif))] [6,7])
.ret)))))))))))))),
[.tmp 6,.tmp 7]⟩
/-- internal/stringslite.Clone -/
def F167 : DF := ⟨1,
(.seq
(.reg [
.s 2 (.mv (.c (.str [])))] [0])
(.seq
(.seq
(.reg [
.s 4 (.mv (.t 0)),
.s 5 (.lenS (.t 4)),
.s 6 (.bin .eql (some .int) (.t 5) (.c (.int .i64 0)))] [0,6])
(.cnd (.t 6)
(.seq
(.reg [
.s 2 (.mv (.c (.str [])))] [2])
.ret)
.skip))
(.seq
(.reg [
.s 7 (.mv (.t 0)),
.s 8 (.lenS (.t 7)),
.s 9 (.mks 5 1 1 (.int .u8 0) (.t 8) (.t 8)),
.s 3 (.mv (.t 9))] [0,3])
(.seq
(.reg [
.s 10 (.mv (.t 3)),
.s 11 (.mv (.t 0)),
.s 12 (.cpy 1 (.t 10) (.t 11))] [3])
(.seq
(.reg [
.s 13 (.mv (.t 3)),
.s 14 (.ia 1 (.t 13) (.c (.int .i64 0))),
.s 15 (.mv (.t 3)),
.s 16 (.len (.t 15)),
.s 17 (.ustr 5 (.t 14) (.t 16)),
.s 2 (.mv (.t 17))] [2])
.ret))))),
[.tmp 2]⟩
/-- errors.New -/
def F168 : DF := ⟨1,
(.seq
(.reg [
.s 2 (.mv (.c .nilif))] [0])
(.seq
(.reg [
.s 3 (.mv (.t 0)),
.s 4 (.bld [(.str [])] [(0,1,(.t 3))]),
.s 5 (.bxH 188 (.t 4)),
.s 6 (.mki 186 (.t 5)),
.s 2 (.mv (.t 6))] [2])
.ret)),
[.tmp 2]⟩
/-- strings.IndexByte -/
def F169 : DF := ⟨2,
(.seq
(.reg [
.s 4 (.mv (.c (.int .i64 0)))] [0,1])
(.seq
(.reg [
.s 5 (.mv (.t 0)),
.s 6 (.mv (.t 1)),
.s 7 (.call 146 [(.t 5),(.t 6)]),
.s 4 (.mv (.t 7))] [4])
.ret)),
[.tmp 4]⟩
/-- unicode/utf8.ValidRune -/
def F170 : DF := ⟨1,
(.seq
(.reg [
.s 2 (.mv (.c (.bool false)))] [0])
(.seq
(.blk 0
(.seq
(.reg [
.s 4 (.mv (.t 0)),
.s 5 (.bin .leq none (.c (.int .i32 0)) (.t 4)),
.s 6 (.mv (.t 5)),
.g 7 (.mv (.t 0)) 6 true,
.g 8 (.bin .lss none (.t 7) (.c (.int .i32 55296))) 6 true,
.s 9 (.pick (.t 6) (.t 8) (.c (.bool false))),
.s 3 (.mv (.t 9))] [0,3])
(.cnd (.t 3)
(.seq
(.reg [
.s 2 (.mv (.c (.bool true)))] [2])
.ret)
(.seq
(.reg [
.s 11 (.mv (.t 0)),
.s 12 (.bin .lss none (.c (.int .i32 57343)) (.t 11)),
.s 13 (.mv (.t 12)),
.g 14 (.mv (.t 0)) 13 true,
.g 15 (.bin .leq none (.t 14) (.c (.int .i32 1114111))) 13 true,
.s 16 (.pick (.t 13) (.t 15) (.c (.bool false))),
.s 10 (.mv (.t 16))] [10])
(.cnd (.t 10)
(.seq
(.reg [
.s 2 (.mv (.c (.bool true)))] [2])
.ret)
.skip)))))
(.seq
(.reg [
.s 2 (.mv (.c (.bool false)))] [2])
.ret))),
[.tmp 2]⟩
/-- internal/strconv.log10Pow2 -/
def F171 : DF := ⟨1,
(.seq
(.reg [
.s 2 (.mv (.c (.int .i64 0)))] [0])
(.seq
(.reg [
.s 3 (.mv (.t 0)),
.s 4 (.bin .mul none (.t 3) (.c (.int .i64 78913))),
.s 5 (.bin .shr none (.t 4) (.c (.int .u64 18))),
.s 2 (.mv (.t 5))] [2])
.ret)),
[.tmp 2]⟩
/-- math/bits.Len64 -/
def F172 : DF := ⟨1,
(.seq
(.reg [
.s 2 (.mv (.c (.int .i64 0)))] [0,2])
(.seq
(.seq
(.reg [
.s 3 (.mv (.t 0)),
.s 4 (.bin .geq none (.t 3) (.c (.int .u64 4294967296)))] [0,2,4])
(.cnd (.t 4)
(.seq
(.reg [
.s 5 (.mv (.t 0)),
.s 6 (.bin .shr none (.t 5) (.c (.int .u64 32))),
.s 0 (.mv (.t 6))] [0])
(.reg [
.s 2 (.mv (.c (.int .i64 32)))] [0,2]))
.skip))
(.seq
(.seq
(.reg [
.s 7 (.mv (.t 0)),
.s 8 (.bin .geq none (.t 7) (.c (.int .u64 65536)))] [0,2,8])
(.cnd (.t 8)
(.seq
(.reg [
.s 9 (.mv (.t 0)),
.s 10 (.bin .shr none (.t 9) (.c (.int .u64 16))),
.s 0 (.mv (.t 10))] [0,2])
(.reg [
.s 11 (.mv (.t 2)),
.s 12 (.bin .add none (.t 11) (.c (.int .i64 16))),
.s 2 (.mv (.t 12))] [0,2]))
.skip))
(.seq
(.seq
(.reg [
.s 13 (.mv (.t 0)),
.s 14 (.bin .geq none (.t 13) (.c (.int .u64 256)))] [0,2,14])
(.cnd (.t 14)
(.seq
(.reg [
.s 15 (.mv (.t 0)),
.s 16 (.bin .shr none (.t 15) (.c (.int .u64 8))),
.s 0 (.mv (.t 16))] [0,2])
(.reg [
.s 17 (.mv (.t 2)),
.s 18 (.bin .add none (.t 17) (.c (.int .i64 8))),
.s 2 (.mv (.t 18))] [0,2]))
.skip))
(.seq
(.reg [
.s 19 (.mv (.t 2)),
.s 20 (.mv (.t 0)),
.s 21 (.cvI .u8 (.t 20)),
.s 22 (.ixS (.c (.str [0,1,2,2,3,3,3,3,4,4,4,4,4,4,4,4,5,5,5,5,5,5,5,5,5,5,5,5,5,5,5,5,6,6,6,6,6,6,6,6,6,6,6,6,6,6,6,6,6,6,6,6,6,6,6,6,6,6,6,6,6,6,6,6,7,7,7,7,7,7,7,7,7,7,7,7,7,7,7,7,7,7,7,7,7,7,7,7,7,7,7,7,7,7,7,7,7,7,7,7,7,7,7,7,7,7,7,7,7,7,7,7,7,7,7,7,7,7,7,7,7,7,7,7,7,7,7,7,8,8,8,8,8,8,8,8,8,8,8,8,8,8,8,8,8,8,8,8,8,8,8,8,8,8,8,8,8,8,8,8,8,8,8,8,8,8,8,8,8,8,8,8,8,8,8,8,8,8,8,8,8,8,8,8,8,8,8,8,8,8,8,8,8,8,8,8,8,8,8,8,8,8,8,8,8,8,8,8,8,8,8,8,8,8,8,8,8,8,8,8,8,8,8,8,8,8,8,8,8,8,8,8,8,8,8,8,8,8,8,8,8,8,8,8,8,8,8,8,8,8,8,8,8,8,8,8])) (.t 21)),
.s 23 (.cvI .i64 (.t 22)),
.s 24 (.bin .add none (.t 19) (.t 23)),
.s 2 (.mv (.t 24))] [2])
.ret))))),
[.tmp 2]⟩
/-- internal/strconv.bool2[int] -/
def F173 : DF := ⟨1,
(.seq
(.reg [
.s 2 (.mv (.c (.int .i64 0)))] [0])
(.seq
(.seq
(.reg [
.s 3 (.mv (.t 0))] [3])
(.cnd (.t 3)
(.seq
(.reg [
.s 2 (.mv (.c (.int .i64 1)))] [2])
.ret)
.skip))
(.seq
(.reg [
.s 2 (.mv (.c (.int .i64 0)))] [2])
.ret))),
[.tmp 2]⟩
/-- internal/strconv.isPowerOfTwo -/
def F174 : DF := ⟨1,
(.seq
(.reg [
.s 2 (.mv (.c (.bool false)))] [0])
(.seq
(.reg [
.s 3 (.mv (.t 0)),
.s 4 (.mv (.t 0)),
.s 5 (.bin .sub none (.t 4) (.c (.int .i64 1))),
.s 6 (.bin .and none (.t 3) (.t 5)),
.s 7 (.bin .eql (some .int) (.t 6) (.c (.int .i64 0))),
.s 2 (.mv (.t 7))] [2])
.ret)),
[.tmp 2]⟩
/-- math/bits.TrailingZeros -/
def F175 : DF := ⟨1,
(.seq
(.reg [
.s 2 (.mv (.c (.int .i64 0)))] [0])
(.seq
(.cnd (.c (.bool false))
(.seq
(.reg [
.s 3 (.mv (.t 0)),
.s 4 (.cvI .u32 (.t 3)),
.s 5 (.call 178 [(.t 4)]),
.s 2 (.mv (.t 5))] [2])
.ret)
.skip)
(.seq
(.reg [
.s 6 (.mv (.t 0)),
.s 7 (.call 179 [(.t 6)]),
.s 2 (.mv (.t 7))] [2])
.ret))),
[.tmp 2]⟩
/-- internal/strconv.lower -/
def F176 : DF := ⟨1,
(.seq
(.reg [
.s 2 (.mv (.c (.int .u8 0)))] [0])
(.seq
(.reg [
.s 3 (.mv (.t 0)),
.s 4 (.bin .or none (.t 3) (.c (.int .u8 32))),
.s 2 (.mv (.t 4))] [2])
.ret)),
[.tmp 2]⟩
/-- internal/strconv.underscoreOK -/
def F177 : DF := ⟨1,
(.seq
(.reg [
.s 2 (.mv (.c (.bool false)))] [0])
(.seq
(.reg [
.s 3 (.mv (.c (.int .i32 94)))] [0,3])
(.seq
(.reg [
.s 4 (.mv (.c (.int .i64 0)))] [0,3,4])
(.seq
(.seq
(.reg [
.s 6 (.mv (.t 0)),
.s 7 (.lenS (.t 6)),
.s 8 (.bin .geq none (.t 7) (.c (.int .i64 1))),
.s 9 (.mv (.t 8)),
.g 10 (.mv (.t 0)) 9 true,
.g 11 (.ixS (.t 10) (.c (.int .i64 0))) 9 true,
.g 12 (.bin .eql (some .int) (.t 11) (.c (.int .u8 45))) 9 true,
.g 13 (.mv (.t 12)) 9 true,
.g 14 (.mv (.t 0)) 13 false,
.g 15 (.ixS (.t 14) (.c (.int .i64 0))) 13 false,
.g 16 (.bin .eql (some .int) (.t 15) (.c (.int .u8 43))) 13 false,
.g 17 (.pick (.t 13) (.c (.bool true)) (.t 16)) 9 true,
.s 18 (.pick (.t 9) (.t 17) (.c (.bool false)))] [0,3,4,18])
(.cnd (.t 18)
(.reg [
.s 19 (.mv (.t 0)),
.s 20 (.slS (.t 19) (some (.c (.int .i64 1))) none),
.s 0 (.mv (.t 20))] [0,3,4])
.skip))
(.seq
(.reg [
.s 5 (.mv (.c (.bool false)))] [0,3,4,5])
(.seq
(.seq
(.reg [
.s 21 (.mv (.t 0)),
.s 22 (.lenS (.t 21)),
.s 23 (.bin .geq none (.t 22) (.c (.int .i64 2))),
.s 24 (.mv (.t 23)),
.g 25 (.mv (.t 0)) 24 true,
.g 26 (.ixS (.t 25) (.c (.int .i64 0))) 24 true,
.g 27 (.bin .eql (some .int) (.t 26) (.c (.int .u8 48))) 24 true,
.s 28 (.pick (.t 24) (.t 27) (.c (.bool false))),
.s 29 (.mv (.t 28)),
.g 30 (.mv (.t 0)) 29 true,
.g 31 (.ixS (.t 30) (.c (.int .i64 1))) 29 true,
.g 32 (.call 176 [(.t 31)]) 29 true,
.g 33 (.bin .eql (some .int) (.t 32) (.c (.int .u8 98))) 29 true,
.g 34 (.mv (.t 33)) 29 true,
.g 35 (.mv (.t 0)) 34 false,
.g 36 (.ixS (.t 35) (.c (.int .i64 1))) 34 false,
.g 37 (.call 176 [(.t 36)]) 34 false,
.g 38 (.bin .eql (some .int) (.t 37) (.c (.int .u8 111))) 34 false,
.g 39 (.pick (.t 34) (.c (.bool true)) (.t 38)) 29 true,
.g 40 (.mv (.t 39)) 29 true,
.g 41 (.mv (.t 0)) 40 false,
.g 42 (.ixS (.t 41) (.c (.int .i64 1))) 40 false,
.g 43 (.call 176 [(.t 42)]) 40 false,
.g 44 (.bin .eql (some .int) (.t 43) (.c (.int .u8 120))) 40 false,
.g 45 (.pick (.t 40) (.c (.bool true)) (.t 44)) 29 true,
.s 46 (.pick (.t 29) (.t 45) (.c (.bool false)))] [0,3,4,5,46])
(.cnd (.t 46)
(.seq
(.reg [
.s 4 (.mv (.c (.int .i64 2)))] [0,4])
(.seq
(.reg [
.s 3 (.mv (.c (.int .i32 48)))] [0,3,4])
(.reg [
.s 47 (.mv (.t 0)),
.s 48 (.ixS (.t 47) (.c (.int .i64 1))),
.s 49 (.call 176 [(.t 48)]),
.s 50 (.bin .eql (some .int) (.t 49) (.c (.int .u8 120))),
.s 5 (.mv (.t 50))] [0,3,4,5])))
.skip))
(.seq
(.blk 0
(.seq
(.trim [0,3,4,5])
(.lop
(.seq
(.seq
(.seq
(.reg [
.s 51 (.mv (.t 4)),
.s 52 (.mv (.t 0)),
.s 53 (.lenS (.t 52)),
.s 54 (.bin .lss none (.t 51) (.t 53))] [0,3,4,5,54])
(.cnd (.t 54)
.skip
(.exit 0)))
(.seq
(.blk 1
(.seq
(.seq
(.reg [
.s 57 (.mv (.t 0)),
.s 58 (.mv (.t 4)),
.s 59 (.ixS (.t 57) (.t 58)),
.s 60 (.bin .leq none (.c (.int .u8 48)) (.t 59)),
.s 61 (.mv (.t 60)),
.g 62 (.mv (.t 0)) 61 true,
.g 63 (.mv (.t 4)) 61 true,
.g 64 (.ixS (.t 62) (.t 63)) 61 true,
.g 65 (.bin .leq none (.t 64) (.c (.int .u8 57))) 61 true,
.s 66 (.pick (.t 61) (.t 65) (.c (.bool false))),
.s 67 (.mv (.t 66)),
.g 68 (.mv (.t 5)) 67 false,
.g 69 (.mv (.t 68)) 67 false,
.g 70 (.mv (.t 0)) 69 true,
.g 71 (.mv (.t 4)) 69 true,
.g 72 (.ixS (.t 70) (.t 71)) 69 true,
.g 73 (.call 176 [(.t 72)]) 69 true,
.g 74 (.bin .leq none (.c (.int .u8 97)) (.t 73)) 69 true,
.g 75 (.pick (.t 69) (.t 74) (.c (.bool false))) 67 false,
.g 76 (.mv (.t 75)) 67 false,
.g 77 (.mv (.t 0)) 76 true,
.g 78 (.mv (.t 4)) 76 true,
.g 79 (.ixS (.t 77) (.t 78)) 76 true,
.g 80 (.call 176 [(.t 79)]) 76 true,
.g 81 (.bin .leq none (.t 80) (.c (.int .u8 102))) 76 true,
.g 82 (.pick (.t 76) (.t 81) (.c (.bool false))) 67 false,
.s 83 (.pick (.t 67) (.c (.bool true)) (.t 82))] [0,3,4,5,83])
(.cnd (.t 83)
(.seq
(.reg [
.s 3 (.mv (.c (.int .i32 48)))] [0,3,4,5])
(.exit 1))
.skip))
(.seq
(.seq
(.reg [
.s 84 (.mv (.t 0)),
.s 85 (.mv (.t 4)),
.s 86 (.ixS (.t 84) (.t 85)),
.s 87 (.bin .eql (some .int) (.t 86) (.c (.int .u8 95)))] [0,3,4,5,87])
(.cnd (.t 87)
(.seq
(.seq
(.reg [
.s 88 (.mv (.t 3)),
.s 89 (.bin .neq (some .int) (.t 88) (.c (.int .i32 48)))] [0,4,5,89])
(.cnd (.t 89)
(.seq
(.reg [
.s 2 (.mv (.c (.bool false)))] [2])
.ret)
.skip))
(.seq
(.reg [
.s 3 (.mv (.c (.int .i32 95)))] [0,3,4,5])
(.exit 1)))
.skip))
(.seq
(.seq
(.reg [
.s 90 (.mv (.t 3)),
.s 91 (.bin .eql (some .int) (.t 90) (.c (.int .i32 95)))] [0,4,5,91])
(.cnd (.t 91)
(.seq
(.reg [
.s 2 (.mv (.c (.bool false)))] [2])
.ret)
.skip))
(.reg [
.s 3 (.mv (.c (.int .i32 33)))] [0,3,4,5])))))
(.reg [
.s 55 (.mv (.t 4)),
.s 56 (.bin .add none (.t 55) (.c (.int .i64 1))),
.s 4 (.mv (.t 56))] [0,3,4,5])))
(.trim [0,3,4,5])))))
(.seq
(.reg [
.s 92 (.mv (.t 3)),
.s 93 (.bin .neq (some .int) (.t 92) (.c (.int .i32 95))),
.s 2 (.mv (.t 93))] [2])
.ret)))))))),
[.tmp 2]⟩
/-- math/bits.TrailingZeros32 -/
def F178 : DF := ⟨1,
(.seq
(.reg [
.s 2 (.mv (.c (.int .i64 0)))] [0])
(.seq
(.seq
(.reg [
.s 3 (.mv (.t 0)),
.s 4 (.bin .eql (some .int) (.t 3) (.c (.int .u32 0)))] [0,4])
(.cnd (.t 4)
(.seq
(.reg [
.s 2 (.mv (.c (.int .i64 32)))] [2])
.ret)
.skip))
(.seq
(.reg [
.s 5 (.mv (.t 0)),
.s 6 (.mv (.t 0)),
.s 7 (.un .neg (.t 6)),
.s 8 (.bin .and none (.t 5) (.t 7)),
.s 9 (.bin .mul none (.t 8) (.c (.int .u32 125613361))),
.s 10 (.bin .shr none (.t 9) (.c (.int .u64 27))),
.s 11 (.iaA 1 32 (.g 6) (.t 10)),
.s 12 (.ld false 1 (.t 11)),
.s 13 (.cvI .i64 (.t 12)),
.s 2 (.mv (.t 13))] [2])
.ret))),
[.tmp 2]⟩
/-- math/bits.TrailingZeros64 -/
def F179 : DF := ⟨1,
(.seq
(.reg [
.s 2 (.mv (.c (.int .i64 0)))] [0])
(.seq
(.seq
(.reg [
.s 3 (.mv (.t 0)),
.s 4 (.bin .eql (some .int) (.t 3) (.c (.int .u64 0)))] [0,4])
(.cnd (.t 4)
(.seq
(.reg [
.s 2 (.mv (.c (.int .i64 64)))] [2])
.ret)
.skip))
(.seq
(.reg [
.s 5 (.mv (.t 0)),
.s 6 (.mv (.t 0)),
.s 7 (.un .neg (.t 6)),
.s 8 (.bin .and none (.t 5) (.t 7)),
.s 9 (.bin .mul none (.t 8) (.c (.int .u64 285870213051353865))),
.s 10 (.bin .shr none (.t 9) (.c (.int .u64 58))),
.s 11 (.iaA 1 64 (.g 7) (.t 10)),
.s 12 (.ld false 1 (.t 11)),
.s 13 (.cvI .i64 (.t 12)),
.s 2 (.mv (.t 13))] [2])
.ret))),
[.tmp 2]⟩
end Go.Proofs.C1

namespace Go.Dn
open Go Go.RowKit

section
variable {gt : GT} {C : CallT}

theorem afterS_imp (hm : MonoC C) {dst : Option Nat} {env : Env} {S : St} {K K' : Env → St → Prop} {Q Q' : Ex → Env → St → Prop} {r : SR} (hk : ∀ e S, K e S → K' e S) (hq : ∀ x e S, Q x e S → Q' x e S) (h : afterS C dst env S K Q r) : afterS C dst env S K' Q' r := by
  cases r with
  | fail => exact h
  | done e s => exact hk _ _ h
  | pan v => exact hq _ _ _ h
  | call f xs =>
    refine hm _ _ _ _ _ h fun r S' hr => ?_
    cases r with
    | ret v => exact hk _ _ hr
    | pan v => exact hq _ _ _ hr

theorem wpIs_imp (hm : MonoC C) : ∀ (is : List DI) {env : Env} {S : St} {Q Q' : Ex → Env → St → Prop}, (∀ x e S, Q x e S → Q' x e S) → wpIs gt C is env S Q → wpIs gt C is env S Q'
  | [], _, _, _, _, hq, h => hq _ _ _ h
  | _ :: r, _, _, _, _, hq, h => afterS_imp hm (fun _ _ h => wpIs_imp hm r hq h) hq h

theorem wpDs_imp (hm : MonoC C) : ∀ (is : List DRow) {env : Env} {S : St} {Q Q' : Ex → Env → St → Prop}, (∀ x e S, Q x e S → Q' x e S) → wpDs gt C is env S Q → wpDs gt C is env S Q'
  | [], _, _, _, _, hq, h => hq _ _ _ h
  | _ :: r, _, _, _, _, hq, h => afterS_imp hm (fun _ _ h => ⟨h.1, wpDs_imp hm r hq h.2⟩) hq h

theorem wpD_imp (hm : MonoC C) : ∀ (c : DC) {env : Env} {S : St} {Q Q' : Ex → Env → St → Prop}, (∀ x e S, Q x e S → Q' x e S) → wpD gt C c env S Q → wpD gt C c env S Q'
  | .skip, _, _, _, _, hq, h => hq _ _ _ h
  | .reg is keep, _, _, _, _, hq, h => wpIs_imp hm is (fun _ _ _ h => hq _ _ _ h) h
  | .drw is keep, _, _, _, _, hq, h => wpDs_imp hm is (fun _ _ _ h => hq _ _ _ h) h
  | .trim keep, _, _, _, _, hq, h => hq _ _ _ h
  | .fail, _, _, _, _, _, h => h
  | .ndet is keep, env, S, Q, Q', hq, h => by
    simp only [wpD] at h ⊢
    split at h
    · exact afterS_imp hm (fun _ _ h => ⟨wpIs_imp hm _ (fun _ _ _ h => hq _ _ _ h) h.1, wpIs_imp hm _ (fun _ _ _ h => hq _ _ _ h) h.2⟩) (fun _ _ _ h => hq _ _ _ h) h
    · exact h.elim
  | .seq a b, _, _, _, _, hq, h => wpD_imp hm a (fun x e S h => by
      cases x with
      | normal => exact wpD_imp hm b hq h
      | _ => exact hq _ _ _ h) h
  | .cnd x a b, env, S, Q, Q', hq, h => by
    simp only [wpD] at h ⊢
    split at h
    · rename_i t ht
      split at h
      · rename_i e; rw [if_pos e]; exact wpD_imp hm a hq h
      · rename_i e; rw [if_neg e]; exact wpD_imp hm b hq h
    · exact h.elim
  | .blk id c, _, _, _, _, hq, h => wpD_imp hm c (fun x e S h => by
      cases x with
      | exit id' =>
        simp only at h ⊢
        by_cases e : id' = id
        · rw [if_pos e] at h ⊢; exact hq _ _ _ h
        · rw [if_neg e] at h ⊢; exact hq _ _ _ h
      | _ => exact hq _ _ _ h) h
  | .lop c, env, S, Q, Q', hq, h => by
    obtain ⟨n, h⟩ := h
    refine ⟨n, ?_⟩
    revert env S
    induction n with
    | zero => intro env S h; exact h
    | succ n ih =>
      intro env S h
      exact wpD_imp hm c (fun x e S h => by
        cases x with
        | normal => exact ih _ _ h
        | _ => exact hq _ _ _ h) h
  | .exit id, _, _, _, _, hq, h => hq _ _ _ h
  | .ret, _, _, _, _, hq, h => hq _ _ _ h

/-- A LOOP, by what holds at its head and what grows less. -/
theorem loop_rule (hm : MonoC C) {c : DC} {Q : Ex → Env → St → Prop} {α : Type} (I : α → Env → St → Prop) (μ : α → Nat)
    (step : ∀ a env S, I a env S → wpD gt C c env S fun e env' S' => match e with
      | .normal => ∃ b, I b env' S' ∧ μ b < μ a
      | e => Q e env' S')
    {a : α} {env : Env} {S : St} (h : I a env S) : ∃ n, iterD (wpD gt C c) n env S Q := by
  have key : ∀ m a env S, μ a ≤ m → I a env S → iterD (wpD gt C c) (m + 1) env S Q := by
    intro m
    induction m with
    | zero =>
      intro a env S hm0 hI
      refine wpD_imp hm c (fun x e S h => ?_) (step a env S hI)
      cases x with
      | normal => obtain ⟨b, _, hb⟩ := h; omega
      | _ => exact h
    | succ m ih =>
      intro a env S hm0 hI
      refine wpD_imp hm c (fun x e S h => ?_) (step a env S hI)
      cases x with
      | normal => obtain ⟨b, h1, hb⟩ := h; exact ih b e S (by omega) h1
      | _ => exact h
  exact ⟨_, key (μ a) a env S (Nat.le_refl _) h⟩

/-! ### one operation whose outcome hangs on what is known -/

theorem step_rule {i : DI} {env env' : Env} {S S' : St} {K : Env → St → Prop} {Q : Ex → Env → St → Prop} (h : stepI gt i env S = .done env' S') (k : K env' S') : afterS C i.dst env S K Q (stepI gt i env S) := by
  rw [h]; exact k

theorem st_ia {d : Option Nat} {es : Nat} {x i : DOpd} {env : Env} {S : St} {o : SI} {xs : List AV} {k : Nat} (hx : opd env x = some (.sl es o xs)) (hi : (opd env i).bind nat? = some k) (hk : k < xs.length) :
    stepI gt ⟨d, .ia es x i, none⟩ env S = .done (putV d (.eptr es o xs k 0) env) S := by
  simp only [stepI, stepO, hx, hi, Nat.beq_refl, Bool.true_and, show Nat.blt k xs.length = true from Nat.ble_eq_true_of_le hk, cond_true]

theorem st_ldEl {d : Option Nat} {es : Nat} {a : DOpd} {env : Env} {S : St} {o : SI} {xs : List AV} {k : Nat} {v : AV} {g : Bool} {sz : Nat} (ha : loc env a = some (.el es o xs k 0)) (hr : rd S o = .here) (hv : xs[k]? = some v) (hm : (cut v.cells 0 sz).bind (mkv g) = some v) :
    stepI gt ⟨d, .ld g sz a, none⟩ env S = .done (putV d v env) S := by
  simp only [stepI, stepO, ha, ldL, ldC, elCells, hr, hv, Option.map_some]
  cases hc : cut v.cells 0 sz with
  | none => rw [hc] at hm; cases hm
  | some cs => rw [hc] at hm; simp only [Option.bind_some] at hm; simp only [hm, SR.val]

/-- the guard holds -/
def Gd (env : Env) (gd : Option (Nat × Bool)) : Prop := match gd with
  | none => True
  | some (g, w) => lk env g = some (.val (.bool w))

theorem st_gd {d : Option Nat} {op : DOp} {gd : Option (Nat × Bool)} {env : Env} {S : St} (hg : Gd env gd) : stepI gt ⟨d, op, gd⟩ env S = stepO gt d env S op := by
  cases gd with
  | none => rfl
  | some p =>
    obtain ⟨g, w⟩ := p
    have hg : lk env g = some (.val (.bool w)) := hg
    simp only [stepI, hg, beq_self_eq_true, cond_true]

theorem st_lkpN {d : Option Nat} {ek : EqK} {z : AV} {m k : DOpd} {ok : Bool} {env : Env} {S : St} {id : Nat} {kv : AV} {es : List (AV × AV)} {gd : Option (Nat × Bool)} (hg : Gd env gd) (hm : opd env m = some (.map id)) (hk : opd env k = some kv) (hkv : keyV ek kv = true) (hes : lk S.maps id = some es) (hf : findK ek kv es 0 = some none) :
    stepI gt ⟨d, .lkp ek z m k ok, gd⟩ env S = .done (putV d (bif ok then .tup [z, .bool false] else z) env) S := by
  rw [st_gd hg]
  simp only [stepO, hm, hk, hkv, hes, hf, cond_true]

theorem st_lkpS {d : Option Nat} {ek : EqK} {z : AV} {m k : DOpd} {ok : Bool} {env : Env} {S : St} {id : Nat} {kv : AV} {es : List (AV × AV)} {i : Nat} {v : AV} {gd : Option (Nat × Bool)} (hg : Gd env gd) (hm : opd env m = some (.map id)) (hk : opd env k = some kv) (hkv : keyV ek kv = true) (hes : lk S.maps id = some es) (hf : findK ek kv es 0 = some (some (i, v))) :
    stepI gt ⟨d, .lkp ek z m k ok, gd⟩ env S = .done (putV d (bif ok then .tup [v, .bool true] else v) env) S := by
  rw [st_gd hg]
  simp only [stepO, hm, hk, hkv, hes, hf, cond_true]

theorem st_mupN {d : Option Nat} {ek : EqK} {m k x : DOpd} {env : Env} {S : St} {id : Nat} {kv xv : AV} {es : List (AV × AV)} {gd : Option (Nat × Bool)} (hg : Gd env gd) (hm : opd env m = some (.map id)) (hk : opd env k = some kv) (hx : opd env x = some xv) (hkv : keyV ek kv = true) (hes : lk S.maps id = some es) (hf : findK ek kv es 0 = some none) :
    stepI gt ⟨d, .mup ek m k x, gd⟩ env S = .done (putV d .undef env) { S with maps := (id, es ++ [(kv, xv)]) :: S.maps } := by
  rw [st_gd hg]
  simp only [stepO, hm, hk, hx, hkv, hes, hf, cond_true]

theorem st_mupS {d : Option Nat} {ek : EqK} {m k x : DOpd} {env : Env} {S : St} {id : Nat} {kv xv v : AV} {es : List (AV × AV)} {i : Nat} {gd : Option (Nat × Bool)} (hg : Gd env gd) (hm : opd env m = some (.map id)) (hk : opd env k = some kv) (hx : opd env x = some xv) (hkv : keyV ek kv = true) (hes : lk S.maps id = some es) (hf : findK ek kv es 0 = some (some (i, v))) (hka : keyAt ek es i = true) :
    stepI gt ⟨d, .mup ek m k x, gd⟩ env S = .done (putV d .undef env) { S with maps := (id, es.set i (kv, xv)) :: S.maps } := by
  rw [st_gd hg]
  simp only [stepO, hm, hk, hx, hkv, hes, hf, cond_true, hka]

theorem call_rule {i : DI} {env : Env} {S : St} {K : Env → St → Prop} {Q : Ex → Env → St → Prop} {f : FuncId} {xs : List AV} (h : stepI gt i env S = .call f xs) (k : C f xs S fun r S' => match r with
    | .ret v => K (putV i.dst v env) S'
    | .pan v => Q (.pan v) env S') : afterS C i.dst env S K Q (stepI gt i env S) := by
  rw [h]; exact k

/-! ### maps of numbers -/

/-- what a map of numbers holds at a key: by the list of its entries -/
def getI (es : List (AV × AV)) (k : Int) : Option Int :=
  match es with
  | [] => none
  | (.int _ a, .int _ v) :: r => if k = a then some v else getI r k
  | _ :: r => getI r k

def IntMap (es : List (AV × AV)) : Prop := ∀ p ∈ es, ∃ a v, p = (.int .i64 a, .int .i64 v)

theorem findK_int {es : List (AV × AV)} (h : IntMap es) (k : Int) (i : Nat) : ∃ r, findK .int (.int .i64 k) es i = some r ∧ match r with
    | none => getI es k = none
    | some (j, x) => ∃ v, x = .int .i64 v ∧ getI es k = some v ∧ i ≤ j ∧ ∃ a, es[j - i]? = some (.int .i64 a, .int .i64 v) ∧ a = k ∧ ∀ m, m < j - i → ∀ b v', es[m]? = some (.int .i64 b, v') → b ≠ k := by
  induction es generalizing i with
  | nil => exact ⟨none, rfl, rfl⟩
  | cons p r ih =>
    obtain ⟨a, v, rfl⟩ := h p (by simp)
    by_cases hk : k = a
    · subst hk
      refine ⟨some (i, .int .i64 v), by simp [findK, eqv, eqInt], v, rfl, by simp [getI], Nat.le_refl _, k, by simp, rfl, fun m hm => ?_⟩
      omega
    · obtain ⟨r', h1, h2⟩ := ih (fun q hq => h q (by simp [hq])) (i + 1)
      have hne : (k == a) = false := by simpa using hk
      refine ⟨r', by simp [findK, eqv, eqInt, hne, h1], ?_⟩
      cases r' with
      | none => simp only [getI, hk, if_false]; exact h2
      | some q =>
        obtain ⟨j, x⟩ := q
        obtain ⟨v', e1, e2, e3, a', e4, e5, e6⟩ := h2
        refine ⟨v', e1, by simp only [getI, hk, if_false]; exact e2, by omega, a', ?_, e5, fun m hm b v'' hb => ?_⟩
        · rw [show j - i = (j - (i + 1)) + 1 by omega]; simpa using e4
        · cases m with
          | zero => simp at hb; rw [← hb.1]; exact fun e => hk e.symm
          | succ m => exact e6 m (by omega) b v'' (by simpa using hb)

end

section
variable {P : Program} {gt : GT}

/-- A LAW WITHOUT ARGUMENTS, called from within a walk. -/
theorem AC_closed {f : FuncId} (hb : HasBody P f) (h : ∀ W, Calls P f #[] W fun e W' => e = .returned (.bool true) ∧ Below W.heap.size W W') (S : St) : AC P gt f [] S fun r S' => r = .ret (.bool true) ∧ S' = S :=
  ⟨hb, fun G w args hI hx => by
    simp only [Rl] at hx
    subst hx
    refine Calls.mono (h w) fun e w' hp => ?_
    obtain ⟨rfl, hb⟩ := hp
    exact ⟨.bool true, S, G, ⟨rfl, rfl⟩, Tr.gr hI ⟨hb.os, hb.tape, hb.output, hb.size, hb.block⟩, by simp only [Rv]⟩⟩
end
end Go.Dn

namespace Go.Dn
open Go Go.RowKit

/-- cells of a type that has no pointers, maps, functions, interfaces in it -/
def AVT (P : Program) : Nat → TypeId → List AV → Prop
  | 0, _, _ => False
  | d + 1, t, xs => match P.underlying t with
    | some .bool => ∃ b, xs = [.bool b]
    | some (.int k) => ∃ n, xs = [.int k n] ∧ (Lit.int k n).wf = true
    | some .string => ∃ s, xs = [.str s] ∧ s.length ≤ maxLen
    | some (.slice e) => ∃ nl ys, xs = [.sl (P.cellsOf e) ⟨none, 0, none, nl⟩ ys] ∧ ys.length ≤ maxLen ∧ ∀ y ∈ ys, AVT P d e y.cells ∧ (isAggP P e = some true → ∃ cs, y = .agg cs) ∧ (isAggP P e = some false → y.cells = [y])
    | some (.struct fs) => xs.length = P.cellsOf t ∧ ∀ f ∈ fs.toList, AVT P d f.type ((xs.drop f.offset).take (P.cellsOf f.type))
    | _ => False

/-- the fields lie one behind the other -/
def fieldsAt (P : Program) : List Field → Nat → Option Nat
  | [], n => some n
  | f :: r, n => if f.offset = n then fieldsAt P r (n + P.cellsOf f.type) else none

def okType (P : Program) (L : List TypeId) (t : TypeId) : Bool :=
  match P.underlying t with
  | some .bool | some (.int _) | some .string => true
  | some (.slice e) => L.any (Nat.beq e) && Nat.blt 0 (P.cellsOf e)
  | some (.struct fs) => (fs.toList.all fun f => L.any (Nat.beq f.type)) && decide (fieldsAt P fs.toList 0 = some (P.cellsOf t))
  | _ => false

def okTypes (P : Program) (L : List TypeId) : Bool := L.all (okType P L)

theorem mapM_get {α β : Type} {f : α → Option β} : ∀ {l : List α} {r : List β}, l.mapM f = some r → r.length = l.length ∧ ∀ (i : Nat) x, l[i]? = some x → ∃ y, f x = some y ∧ r[i]? = some y
  | [], r, h => by rw [mapM_some_nil h]; exact ⟨rfl, fun i x hx => by simp at hx⟩
  | a :: l, r, h => by
    obtain ⟨y, r', h1, h2, rfl⟩ := mapM_some_cons h
    obtain ⟨g1, g2⟩ := mapM_get h2
    refine ⟨by simp [g1], fun i x hx => ?_⟩
    cases i with
    | zero => simp at hx; subst hx; exact ⟨y, h1, rfl⟩
    | succ i => simpa using g2 i x (by simpa using hx)

theorem cells_get {w : World} {base : Nat} {a : Addr} {n : Nat} {cs : List Value} (h : w.cells? base a n = some cs) : cs.length = n ∧ ∀ i, i < n → w.cell? (a.add i) = cs[i]? := by
  unfold World.cells? at h
  split at h
  · obtain ⟨h1, h2⟩ := mapM_get h
    refine ⟨by simpa using h1, fun i hi => ?_⟩
    obtain ⟨y, g1, g2⟩ := h2 i i (by simp [hi])
    rw [g1, g2]
  · cases h

theorem Rat_of_get {S : St} {G : Gh} {w : World} {b es : Nat} : ∀ {ys : List AV} {off : Nat}, (∀ (i : Nat) y, ys[i]? = some y → ∃ v, Rv S G w y v ∧ v.cells.size = es ∧ ∀ j, j < es → w.cell? ⟨b, off + i * es + j, none⟩ = v.cells[j]?) → Rat S G w b es ys off
  | [], _, _ => by simp only [Rat]
  | y :: ys, off, h => by
    simp only [Rat]
    refine ⟨?_, Rat_of_get fun i z hz => ?_⟩
    · obtain ⟨v, h1, h2, h3⟩ := h 0 y rfl
      exact ⟨v, h1, h2, fun j hj => by have := h3 j hj; rwa [Nat.zero_mul, Nat.add_zero] at this⟩
    · obtain ⟨v, h1, h2, h3⟩ := h (i + 1) z (by simpa using hz)
      exact ⟨v, h1, h2, fun j hj => by rw [← h3 j hj, show off + es + i * es + j = off + (i + 1) * es + j by rw [Nat.add_mul]; omega]⟩

theorem seq_ex {α : Type} {n : Nat} {R : Nat → α → Prop} (h : ∀ i, i < n → ∃ y, R i y) : ∃ ys : List α, ys.length = n ∧ ∀ i y, ys[i]? = some y → R i y := by
  induction n with
  | zero => exact ⟨[], rfl, fun i y hy => by simp at hy⟩
  | succ n ih =>
    obtain ⟨ys, h1, h2⟩ := ih fun i hi => h i (by omega)
    obtain ⟨y, hy⟩ := h n (by omega)
    refine ⟨ys ++ [y], by simp [h1], fun i z hz => ?_⟩
    rcases Nat.lt_or_ge i ys.length with hi | hi
    · rw [List.getElem?_append_left hi] at hz; exact h2 i z hz
    · rw [List.getElem?_append_right hi] at hz
      have : i = n := by
        have := (List.getElem?_eq_some_iff.1 hz).1
        simp at this
        omega
      subst this
      rw [h1, Nat.sub_self] at hz
      simp at hz
      subst hz
      exact hy

section
variable {P : Program} {W : World} {H : Type} {enc : TypeId × Value → H}

theorem any_mem {L : List TypeId} {t : TypeId} (h : L.any (Nat.beq t) = true) : t ∈ L := by
  obtain ⟨x, hx, e⟩ := List.any_eq_true.1 h
  rw [Nat.eq_of_beq_eq_true e]; exact hx

/-- one element -/
theorem elem_av {g : Bool} {e : TypeId} {d : Nat} (hg : isAggP P e = some g) {cs : List Value} {xs : List AV} (hr : Rl St.init (G0 W) W xs cs) (ht : AVT P d e xs) :
    ∃ y v, y.cells = xs ∧ v.cells.toList = cs ∧ Rv St.init (G0 W) W y v ∧ (g = true → ∃ zs, y = .agg zs) ∧ (g = false → y.cells = [y]) := by
  cases g with
  | true => exact ⟨.agg xs, .agg ⟨cs⟩, rfl, rfl, by simp only [Rv]; exact ⟨_, rfl, hr⟩, fun _ => ⟨_, rfl⟩, fun h => by cases h⟩
  | false =>
    have hone : ∃ x, xs = [x] ∧ x.cells = [x] ∧ ∀ zs, x ≠ .agg zs := by
      cases d with
      | zero => exact ht.elim
      | succ d =>
        unfold AVT at ht
        unfold isAggP at hg
        split at ht
        · obtain ⟨b, rfl⟩ := ht; exact ⟨_, rfl, rfl, fun zs h => by cases h⟩
        · obtain ⟨n, rfl, _⟩ := ht; exact ⟨_, rfl, rfl, fun zs h => by cases h⟩
        · obtain ⟨s, rfl, _⟩ := ht; exact ⟨_, rfl, rfl, fun zs h => by cases h⟩
        · obtain ⟨nl, ys, rfl, _⟩ := ht; exact ⟨_, rfl, rfl, fun zs h => by cases h⟩
        · rename_i fs hu; rw [hu] at hg; cases hg
        · exact ht.elim
    obtain ⟨x, rfl, hx, hna⟩ := hone
    simp only [Rl] at hr
    obtain ⟨v, r, rfl, hv, rfl⟩ := hr
    refine ⟨x, v, hx, ?_, hv, (fun h => by cases h), fun _ => hx⟩
    rw [Value.cells_of_not_agg (hv.not_agg hna)]

theorem fields_av {d : Nat} : ∀ (fs : List Field) (n m : Nat) (cs : List Value), fieldsAt P fs n = some m → cs.length = m →
    (∀ f ∈ fs, ∃ xs, Rl St.init (G0 W) W xs ((cs.drop f.offset).take (P.cellsOf f.type)) ∧ AVT P d f.type xs) →
    n ≤ m ∧ (∀ f ∈ fs, n ≤ f.offset) ∧ ∃ xs, Rl St.init (G0 W) W xs (cs.drop n) ∧ ∀ f ∈ fs, AVT P d f.type ((xs.drop (f.offset - n)).take (P.cellsOf f.type))
  | [], n, m, cs, h, hl, _ => by
    simp only [fieldsAt, Option.some.injEq] at h
    subst h
    refine ⟨Nat.le_refl _, fun f hf => (by cases hf), [], ?_, fun f hf => (by cases hf)⟩
    rw [List.drop_of_length_le (by omega)]
    exact Rl.nil
  | f :: r, n, m, cs, h, hl, hf => by
    simp only [fieldsAt] at h
    split at h
    · rename_i ho
      obtain ⟨h1, h2, xr, h3, h4⟩ := fields_av r _ m cs h hl fun g hg => hf g (by simp [hg])
      obtain ⟨xf, g1, g2⟩ := hf f (by simp)
      rw [ho] at g1
      have hxf : xf.length = P.cellsOf f.type := by
        have := g1.length
        rw [List.length_take, List.length_drop] at this
        omega
      refine ⟨by omega, fun g hg => ?_, xf ++ xr, ?_, fun g hg => ?_⟩
      · rcases List.mem_cons.1 hg with rfl | hg
        · omega
        · have := h2 g hg; omega
      · have := g1.append h3
        rwa [← List.drop_drop, List.take_append_drop] at this
      · rcases List.mem_cons.1 hg with rfl | hg
        · rw [ho, Nat.sub_self, List.drop_zero, List.take_append_of_le_length (by omega), List.take_of_length_le (by omega)]
          exact g2
        · have hgo := h2 g hg
          have := h4 g hg
          rw [List.drop_append, List.drop_of_length_le (by omega), List.nil_append, hxf, show g.offset - n - P.cellsOf f.type = g.offset - (n + P.cellsOf f.type) by omega]
          exact this
    · cases h

theorem Rl.length0 {xs : List AV} {vs : List Value} (h : Rl St.init (G0 W) W xs vs) : vs.length = xs.length := h.length

theorem trod_av {L : List TypeId} (hL : okTypes P L = true) : ∀ (fuel : Nat) (t : TypeId) (cs : List Value) (x : DataW H × List MemPlace), t ∈ L → DataW.trod enc P W 0 (fun _ => true) true fuel t cs = some x →
    ∃ xs, Rl St.init (G0 W) W xs cs ∧ AVT P fuel t xs
  | 0, _, _, _, _, h => by simp [DataW.trod] at h
  | fuel + 1, t, cs, x, ht, h => by
    have hok := List.all_eq_true.1 hL t ht
    unfold okType at hok
    unfold AVT
    cases hu : P.underlying t with
    | none => rw [hu] at hok; cases hok
    | some td =>
    rw [hu] at hok
    cases td <;> simp only [Bool.false_eq_true] at hok
    case bool =>
      obtain ⟨b, rfl, _⟩ := DataW.trod_bool hu h
      exact ⟨[.bool b], Rl.cons (by simp only [Rv]) Rl.nil, b, rfl⟩
    case int k =>
      obtain ⟨n, rfl, _, hw⟩ := DataW.trod_int hu h
      exact ⟨[.int k n], Rl.cons (by simp only [Rv]) Rl.nil, n, rfl, hw⟩
    case string =>
      obtain ⟨s, rfl, _, hs⟩ := DataW.trod_string hu h
      exact ⟨[.str s.data.toList], Rl.cons (by simp only [Rv]) Rl.nil, _, rfl, by simpa using hs⟩
    case slice e =>
      simp only [Bool.and_eq_true] at hok
      have heL := any_mem hok.1
      have hc0 := blt_lt hok.2
      rcases DataW.trod_slice hu h with ⟨rfl, _⟩ | ⟨a, len, cap, elems, rest, n, hn, rfl, _, _, hl, hm, hlen, hel, hsp, _⟩
      · refine ⟨[.sl (P.cellsOf e) ⟨none, 0, none, true⟩ []], Rl.cons ?_ Rl.nil, true, [], rfl, Nat.zero_le _, fun y hy => by cases hy⟩
        simp only [Rv]
        exact ⟨none, 0, 0, rfl, ⟨rfl, Nat.le_refl _, by simp, (fun c hc => by cases hc), (fun _ => rfl), (fun p hp => by cases hp)⟩, (fun _ p hp => by cases hp)⟩
      · cases hn
        obtain ⟨hrl, hrest⟩ := hsp rfl
        -- every element's cells
        have cellsAt : ∀ i, i < cap → ∃ cs' y, W.cells? 0 (a.add (i * P.cellsOf e)) (P.cellsOf e) = some cs' ∧ DataW.trod enc P W 0 (fun _ => true) true fuel e cs' = some y := fun i hi => by
          have : ∃ y, (W.cells? 0 (a.add (i * P.cellsOf e)) (P.cellsOf e)).bind (DataW.trod enc P W 0 (fun _ => true) true fuel e) = some y := by
            by_cases h' : i < len
            · exact ⟨_, (hel i h').trans (List.getElem?_eq_getElem (by omega))⟩
            · have := hrest (i - len) (by omega)
              rw [show len + (i - len) = i by omega] at this
              exact ⟨_, this.trans (List.getElem?_eq_getElem (by omega))⟩
          obtain ⟨y, hy⟩ := this
          obtain ⟨cs', e1, e2⟩ := Option.bind_eq_some_iff.1 hy
          exact ⟨cs', y, e1, e2⟩
        have hge : ∃ g, isAggP P e = some g := by
          have := List.all_eq_true.1 hL e heL
          unfold okType at this
          unfold isAggP
          split at this <;> first | (cases this; done) | skip
          all_goals rename_i hh; rw [hh]; exact ⟨_, rfl⟩
        obtain ⟨g, hg⟩ := hge
        have hspot : 0 < cap → a.spot = none := fun hc => by
          obtain ⟨cs', y, e1, _⟩ := cellsAt 0 hc
          obtain ⟨l1, l2⟩ := cells_get e1
          have := l2 0 hc0
          rw [Nat.zero_mul] at this
          have ha : (a.add 0).add 0 = a := by simp [Addr.add]
          rw [ha] at this
          cases hs : a.spot with
          | none => rfl
          | some s =>
            exfalso
            have h0 : cs'[0]? = some cs'[0] := List.getElem?_eq_getElem (by omega)
            rw [h0] at this
            unfold World.cell? at this
            split at this
            · simp [hs] at this
            · cases this
        have cellAt : ∀ i, i < cap → ∃ cs', cs'.length = P.cellsOf e ∧ (∀ j, j < P.cellsOf e → W.cell? ⟨a.block, a.off + i * P.cellsOf e + j, none⟩ = cs'[j]?) ∧ ∃ y, DataW.trod enc P W 0 (fun _ => true) true fuel e cs' = some y := fun i hi => by
          obtain ⟨cs', y, e1, e2⟩ := cellsAt i hi
          obtain ⟨l1, l2⟩ := cells_get e1
          refine ⟨cs', l1, fun j hj => ?_, y, e2⟩
          rw [← l2 j hj]
          have hs := hspot (by omega)
          obtain ⟨ab, ao, as⟩ := a
          simp only at hs
          subst hs
          rw [add_none, add_none]
        obtain ⟨ys, hy1, hy2⟩ := seq_ex (n := len) (R := fun i y => AVT P fuel e y.cells ∧ ((isAggP P e = some true → ∃ zs, y = .agg zs) ∧ (isAggP P e = some false → y.cells = [y])) ∧ ∃ v, Rv St.init (G0 W) W y v ∧ v.cells.size = P.cellsOf e ∧ ∀ j, j < P.cellsOf e → W.cell? ⟨a.block, a.off + i * P.cellsOf e + j, none⟩ = v.cells[j]?) fun i hi => by
          obtain ⟨cs', l1, l2, y, hy⟩ := cellAt i (by omega)
          obtain ⟨xs, r1, r2⟩ := trod_av hL fuel e cs' y heL hy
          obtain ⟨z, v, z1, z2, z3, z4, z5⟩ := elem_av hg r1 r2
          refine ⟨z, by rw [z1]; exact r2, ⟨fun h' => z4 (by rw [hg] at h'; cases h'; rfl), fun h' => z5 (by rw [hg] at h'; cases h'; rfl)⟩, v, z3, ?_, fun j hj => ?_⟩
          · rw [← l1, ← z2]; simp
          · rw [l2 j hj, ← z2]; simp
        refine ⟨[.sl (P.cellsOf e) ⟨none, 0, none, false⟩ ys], Rl.cons ?_ Rl.nil, false, ys, rfl, by omega, fun y hy => ?_⟩
        · simp only [Rv]
          refine ⟨some a, len, cap, rfl, ⟨hy1.symm, hl, by simp, (fun c hc => by cases hc), (fun hc => by cases hc), fun p hp hc => ?_⟩, fun _ p hp => ?_⟩
          · cases hp
            obtain ⟨cs', l1, l2, _⟩ := cellAt (cap - 1) (by omega)
            have hlast := l2 (P.cellsOf e - 1) (by omega)
            rw [List.getElem?_eq_getElem (by omega)] at hlast
            unfold World.cell? at hlast
            split at hlast
            · rename_i c ty fr hb
              simp only [Option.isSome_none, Bool.false_eq_true, if_false] at hlast
              have hlt := (Array.getElem?_eq_some_iff.1 hlast).1
              refine ⟨hc0, hspot hc, ⟨ty, c.size, by simp [World.shape?, hb], ?_⟩, ?_⟩
              · have : cap * P.cellsOf e = (cap - 1) * P.cellsOf e + P.cellsOf e := by
                  rw [← Nat.succ_mul]; congr 1; omega
                omega
              · rw [rd_none rfl]
                exact (Array.getElem?_eq_some_iff.1 hb).1
            · cases hlast
          · cases hp
            exact Rat_of_get fun i y hy => (hy2 i y hy).2.2
        · obtain ⟨i, hi⟩ := List.getElem?_of_mem hy
          exact ⟨(hy2 i y hi).1, (hy2 i y hi).2.1⟩
    case struct fs =>
      simp only [Bool.and_eq_true, decide_eq_true_eq] at hok
      obtain ⟨xs, n, hn, _, hlen, hxl, hfs⟩ := DataW.trod_struct hu h
      cases hn
      obtain ⟨_, _, zs, z1, z2⟩ := fields_av (P := P) (W := W) (d := fuel) fs.toList 0 _ cs hok.2 hlen fun f hf => by
        obtain ⟨i, hi⟩ := List.getElem?_of_mem hf
        have hi' : fs[i]? = some f := by simpa using hi
        have := hfs i f hi'
        have hlt : i < xs.length := by
          rw [hxl]
          exact (Array.getElem?_eq_some_iff.1 hi').1
        rw [List.getElem?_eq_getElem hlt] at this
        exact trod_av hL fuel f.type _ _ (any_mem (List.all_eq_true.1 hok.1 f hf)) this
      rw [List.drop_zero] at z1
      exact ⟨zs, z1, by rw [← hlen, z1.length], z2⟩
end
end Go.Dn

namespace Go.Dn
open Go Go.RowKit

/-! ### the store only grows -/

def Wf (S : St) : Prop := ∀ t, S.nt ≤ t → lk S.mv t = none ∧ lk S.dl t = none

structure Lw (S S' : St) : Prop where
  nt : S.nt ≤ S'.nt
  nb : S.nb ≤ S'.nb
  boxes : ∀ i, i < S.nb → lk S'.boxes i = lk S.boxes i
  mv : ∀ t, t < S.nt → lk S'.mv t = lk S.mv t
  dl : ∀ t, t < S.nt → lk S'.dl t = lk S.dl t

structure Le (S S' : St) : Prop extends Lw S S' where
  nm : S.nm ≤ S'.nm
  tip : ∀ t, t < S.nt → lk S'.tip t = lk S.tip t
  maps : ∀ i, i < S.nm → lk S'.maps i = lk S.maps i

theorem Lw.refl (S : St) : Lw S S := ⟨Nat.le_refl _, Nat.le_refl _, fun _ _ => rfl, fun _ _ => rfl, fun _ _ => rfl⟩
theorem Lw.trans {a b c : St} (h : Lw a b) (k : Lw b c) : Lw a c where
  nt := Nat.le_trans h.nt k.nt
  nb := Nat.le_trans h.nb k.nb
  boxes t ht := by rw [k.boxes t (Nat.lt_of_lt_of_le ht h.nb), h.boxes t ht]
  mv t ht := by rw [k.mv t (Nat.lt_of_lt_of_le ht h.nt), h.mv t ht]
  dl t ht := by rw [k.dl t (Nat.lt_of_lt_of_le ht h.nt), h.dl t ht]
theorem Le.refl (S : St) : Le S S where
  toLw := Lw.refl S
  nm := Nat.le_refl _
  tip _ _ := rfl
  maps _ _ := rfl
theorem Le.trans {a b c : St} (h : Le a b) (k : Le b c) : Le a c where
  toLw := h.toLw.trans k.toLw
  nm := Nat.le_trans h.nm k.nm
  tip t ht := by rw [k.tip t (Nat.lt_of_lt_of_le ht h.nt), h.tip t ht]
  maps t ht := by rw [k.maps t (Nat.lt_of_lt_of_le ht h.nm), h.maps t ht]

/-- a slice that is read by the value that it carries -/
def OkS (S : St) (o : SI) : Prop := match o.tok with
  | none => True
  | some (t, l) => t < S.nt ∧ l < S.nt ∧ lk S.mv t = none ∧ lk S.dl l = none

theorem OkS.rd {S : St} {o : SI} (h : OkS S o) : rd S o = .here := by
  unfold Dn.rd
  unfold OkS at h
  cases ht : o.tok with
  | none => rfl
  | some p =>
    obtain ⟨t, l⟩ := p
    rw [ht] at h
    simp only at h
    simp only [h.2.2.1, h.2.2.2]

/-! ### slices as lists -/

/-- what a slice leans on: tokens, lineages, boxes -/
def Ref (S : St) (R B : Nat → Prop) (o : SI) : Prop := match o.tok with
  | none => True
  | some (t, l) => t < S.nt ∧ l < S.nt ∧ R t ∧ R l ∧ ∀ b off, lk S.mv t = some (.bx b off) → b < S.nb ∧ B b

structure SlV (S : St) (R B : Nat → Prop) (agg : Bool) (es : Nat) (o : SI) (xs ys : List AV) : Prop where
  ref : Ref S R B o
  els : elems S agg es o xs = some ys

/-- what is leant on stays -/
structure Fr (S S' : St) (R B : Nat → Prop) : Prop where
  nt : S.nt ≤ S'.nt
  nb : S.nb ≤ S'.nb
  mv : ∀ t, t < S.nt → R t → lk S'.mv t = lk S.mv t
  dl : ∀ t, t < S.nt → R t → lk S'.dl t = lk S.dl t
  boxes : ∀ i, i < S.nb → B i → lk S'.boxes i = lk S.boxes i

theorem Lw.fr {S S' : St} (h : Lw S S') (R B : Nat → Prop) : Fr S S' R B := ⟨h.nt, h.nb, fun t ht _ => h.mv t ht, fun t ht _ => h.dl t ht, fun t ht _ => h.boxes t ht⟩

theorem SlV.mono {S S' : St} {R B : Nat → Prop} {agg : Bool} {es : Nat} {o : SI} {xs ys : List AV} (h : SlV S R B agg es o xs ys) (k : Fr S S' R B) : SlV S' R B agg es o xs ys := by
  obtain ⟨h1, h2⟩ := h
  unfold Ref at h1
  unfold elems rd at h2
  refine ⟨?_, ?_⟩
  · unfold Ref
    cases ht : o.tok with
    | none => trivial
    | some p =>
      obtain ⟨t, l⟩ := p
      rw [ht] at h1
      simp only at h1 ⊢
      obtain ⟨a1, a2, a3, a4, a5⟩ := h1
      refine ⟨Nat.lt_of_lt_of_le a1 k.nt, Nat.lt_of_lt_of_le a2 k.nt, a3, a4, fun b off hb => ?_⟩
      rw [k.mv t a1 a3] at hb
      exact ⟨Nat.lt_of_lt_of_le (a5 b off hb).1 k.nb, (a5 b off hb).2⟩
  · unfold elems rd
    cases ht : o.tok with
    | none => rw [ht] at h2; exact h2
    | some p =>
      obtain ⟨t, l⟩ := p
      rw [ht] at h1 h2
      simp only at h1 h2 ⊢
      obtain ⟨a1, a2, a3, a4, a5⟩ := h1
      rw [k.mv t a1 a3, k.dl l a2 a4]
      cases hm : lk S.mv t with
      | none =>
        rw [hm] at h2
        simp only at h2 ⊢
        cases hd : lk S.dl l with
        | none => rw [hd] at h2; exact h2
        | some u => rw [hd] at h2; cases h2
      | some m =>
        cases m with
        | bx b off =>
          rw [hm] at h2
          simp only at h2 ⊢
          rw [k.boxes b (a5 b off hm).1 (a5 b off hm).2]
          exact h2

theorem SlV.weak {S : St} {R B R' B' : Nat → Prop} {agg : Bool} {es : Nat} {o : SI} {xs ys : List AV} (h : SlV S R B agg es o xs ys) (hR : ∀ i, i < S.nt → R i → R' i) (hB : ∀ i, i < S.nb → B i → B' i) : SlV S R' B' agg es o xs ys := by
  refine ⟨?_, h.els⟩
  have h1 := h.ref
  unfold Ref at h1 ⊢
  cases ht : o.tok with
  | none => trivial
  | some p =>
    obtain ⟨t, l⟩ := p
    rw [ht] at h1
    simp only at h1 ⊢
    exact ⟨h1.1, h1.2.1, hR _ h1.1 h1.2.2.1, hR _ h1.2.1 h1.2.2.2.1, fun b off hb => ⟨(h1.2.2.2.2 b off hb).1, hB _ (h1.2.2.2.2 b off hb).1 (h1.2.2.2.2 b off hb).2⟩⟩

theorem cutAll_len {agg : Bool} {es : Nat} {cs : List AV} : ∀ {n start : Nat} {ys : List AV}, cutAll agg es cs start n = some ys → ys.length = n
  | 0, _, ys, h => by simp only [cutAll, Option.some.injEq] at h; subst h; rfl
  | n + 1, start, ys, h => by
    simp only [cutAll] at h
    split at h
    · rename_i x r h1 h2
      simp only [Option.some.injEq] at h
      subst h
      simp [cutAll_len h2]
    · cases h

theorem cutAll_get {agg : Bool} {es : Nat} {cs : List AV} : ∀ {n start : Nat} {ys : List AV}, cutAll agg es cs start n = some ys → ∀ {i : Nat} {y : AV}, ys[i]? = some y → (cut cs (start + i * es) es).bind (mkv agg) = some y
  | 0, _, ys, h, i, y, hy => by simp only [cutAll, Option.some.injEq] at h; subst h; simp at hy
  | n + 1, start, ys, h, i, y, hy => by
    simp only [cutAll] at h
    split at h
    · rename_i x r h1 h2
      simp only [Option.some.injEq] at h
      subst h
      cases i with
      | zero => simp at hy; subst hy; simpa using h1
      | succ i =>
        have := cutAll_get h2 (i := i) (by simpa using hy)
        rwa [show start + (i + 1) * es = start + es + i * es by rw [Nat.add_mul]; omega]
    · cases h

theorem elems_len {S : St} {agg : Bool} {es : Nat} {o : SI} {xs ys : List AV} (h : elems S agg es o xs = some ys) : ys.length = xs.length := by
  unfold elems at h
  split at h
  · cases h; rfl
  · split at h
    · exact cutAll_len h
    · cases h
  · cases h

theorem mkv_cells' {agg : Bool} {cs : List AV} {y : AV} (h : mkv agg cs = some y) : y.cells = cs := by
  unfold mkv at h
  cases agg with
  | true => simp only [cond_true, Option.some.injEq] at h; subst h; rfl
  | false =>
    simp only [cond_false] at h
    split at h
    · rename_i c
      cases hn : notAgg c with
      | false => rw [hn] at h; cases h
      | true =>
        rw [hn] at h
        simp only [cond_true, Option.some.injEq] at h
        subst h
        cases c <;> first | rfl | cases hn
    · cases h

/-- an element's cells -/
theorem el_read {S : St} {agg : Bool} {es : Nat} {o : SI} {xs ys : List AV} (h : elems S agg es o xs = some ys) {i : Nat} {y : AV} (hy : ys[i]? = some y) : elCells S es o xs i = some y.cells := by
  unfold elems at h
  unfold elCells
  split at h
  · rename_i hr
    cases h
    simp [hy]
  · rename_i b boff hr
    split at h
    · rename_i ty cs hb
      have := cutAll_get h hy
      obtain ⟨c, h1, h2⟩ := Option.bind_eq_some_iff.1 this
      rw [show boff + (o.off + i) * es = boff + o.off * es + i * es by rw [Nat.add_mul]; omega, h1, mkv_cells' h2]
    · cases h
  · cases h

theorem SlV.len {S : St} {R B : Nat → Prop} {agg : Bool} {es : Nat} {o : SI} {xs ys : List AV} (h : SlV S R B agg es o xs ys) : xs.length = ys.length := (elems_len h.els).symm

theorem OkS.slv {S : St} {o : SI} (h : OkS S o) {R B : Nat → Prop} (hR : ∀ t l, o.tok = some (t, l) → R t ∧ R l) (agg : Bool) (es : Nat) (xs : List AV) : SlV S R B agg es o xs xs := by
  refine ⟨?_, by simp only [elems, h.rd]⟩
  unfold OkS at h
  unfold Ref
  cases ht : o.tok with
  | none => trivial
  | some p =>
    obtain ⟨t, l⟩ := p
    rw [ht] at h
    simp only at h ⊢
    exact ⟨h.1, h.2.1, (hR t l ht).1, (hR t l ht).2, fun b off hb => by rw [h.2.2.1] at hb; cases hb⟩

/-! ### pure trees -/

inductive PT where
  | mk (k : Int) (s : List UInt8) (keys : List (List UInt8)) (kids : List PT)

mutual
def PT.n : PT → Nat
  | .mk _ _ _ kids => PT.ns kids + 1
def PT.ns : List PT → Nat
  | [] => 0
  | t :: r => PT.n t + PT.ns r
end

theorem PT.n_pos (t : PT) : 0 < t.n := by cases t; simp [PT.n]
theorem PT.ns_mem {t : PT} : ∀ {l : List PT}, t ∈ l → t.n ≤ PT.ns l
  | a :: r, h => by
    simp only [PT.ns]
    rcases List.mem_cons.1 h with rfl | h
    · omega
    · have := PT.ns_mem h; omega
theorem PT.ns_append : ∀ (a b : List PT), PT.ns (a ++ b) = PT.ns a + PT.ns b
  | [], b => by simp [PT.ns]
  | t :: r, b => by simp only [List.cons_append, PT.ns, PT.ns_append r b]; omega

def strs (l : List (List UInt8)) : List AV := l.map .str

def top : Nat → Prop := fun _ => True

mutual
def IsT (S : St) (R B : Nat → Prop) : PT → AV → Prop
  | .mk k s keys kids, v => ∃ o1 x1 o2 x2 vs, v = .agg [.int .i64 k, .str s, .sl 1 o1 x1, .sl 4 o2 x2] ∧ SlV S R B false 1 o1 x1 (strs keys) ∧ SlV S R B true 4 o2 x2 vs ∧ IsTs S R B kids vs
def IsTs (S : St) (R B : Nat → Prop) : List PT → List AV → Prop
  | [], vs => vs = []
  | t :: r, vs => ∃ v vr, vs = v :: vr ∧ IsT S R B t v ∧ IsTs S R B r vr
end

variable {R B : Nat → Prop}

mutual
theorem IsT.mono {S S' : St} (h : Fr S S' R B) : ∀ (t : PT) (v : AV), IsT S R B t v → IsT S' R B t v
  | .mk k s keys kids, v, hv => by
    simp only [IsT] at hv ⊢
    obtain ⟨o1, x1, o2, x2, vs, e, h1, h2, h3⟩ := hv
    exact ⟨o1, x1, o2, x2, vs, e, h1.mono h, h2.mono h, IsTs.mono h kids vs h3⟩
theorem IsTs.mono {S S' : St} (h : Fr S S' R B) : ∀ (l : List PT) (vs : List AV), IsTs S R B l vs → IsTs S' R B l vs
  | [], vs, hv => hv
  | t :: r, vs, hv => by
    simp only [IsTs] at hv ⊢
    obtain ⟨v, vr, e, h1, h2⟩ := hv
    exact ⟨v, vr, e, IsT.mono h t v h1, IsTs.mono h r vr h2⟩
end

mutual
theorem IsT.weak {S : St} {R' B' : Nat → Prop} (hR : ∀ i, i < S.nt → R i → R' i) (hB : ∀ i, i < S.nb → B i → B' i) : ∀ (t : PT) (v : AV), IsT S R B t v → IsT S R' B' t v
  | .mk k s keys kids, v, hv => by
    simp only [IsT] at hv ⊢
    obtain ⟨o1, x1, o2, x2, vs, e, h1, h2, h3⟩ := hv
    exact ⟨o1, x1, o2, x2, vs, e, h1.weak hR hB, h2.weak hR hB, IsTs.weak hR hB kids vs h3⟩
theorem IsTs.weak {S : St} {R' B' : Nat → Prop} (hR : ∀ i, i < S.nt → R i → R' i) (hB : ∀ i, i < S.nb → B i → B' i) : ∀ (l : List PT) (vs : List AV), IsTs S R B l vs → IsTs S R' B' l vs
  | [], vs, hv => hv
  | t :: r, vs, hv => by
    simp only [IsTs] at hv ⊢
    obtain ⟨v, vr, e, h1, h2⟩ := hv
    exact ⟨v, vr, e, IsT.weak hR hB t v h1, IsTs.weak hR hB r vr h2⟩
end

theorem IsT.le {S S' : St} (h : Le S S') {t : PT} {v : AV} (k : IsT S R B t v) : IsT S' R B t v := IsT.mono (h.toLw.fr R B) t v k

theorem IsTs.length {S : St} : ∀ {l : List PT} {vs : List AV}, IsTs S R B l vs → vs.length = l.length
  | [], vs, h => by simp only [IsTs] at h; rw [h]; rfl
  | t :: r, vs, h => by
    simp only [IsTs] at h
    obtain ⟨v, vr, rfl, _, h2⟩ := h
    simp [h2.length]

theorem IsTs.get {S : St} : ∀ {l : List PT} {vs : List AV}, IsTs S R B l vs → ∀ {i : Nat} {t : PT}, l[i]? = some t → ∃ v, vs[i]? = some v ∧ IsT S R B t v
  | [], vs, h, i, t, ht => by simp at ht
  | a :: r, vs, h, i, t, ht => by
    simp only [IsTs] at h
    obtain ⟨v, vr, rfl, h1, h2⟩ := h
    cases i with
    | zero => simp at ht; subst ht; exact ⟨v, rfl, h1⟩
    | succ i => simpa using h2.get (i := i) (by simpa using ht)

theorem IsTs.snoc {S : St} : ∀ {l : List PT} {vs : List AV} {t : PT} {v : AV}, IsTs S R B l vs → IsT S R B t v → IsTs S R B (l ++ [t]) (vs ++ [v])
  | [], vs, t, v, h, hv => by
    simp only [IsTs] at h
    subst h
    simp only [List.nil_append, IsTs]
    exact ⟨v, [], rfl, hv, rfl⟩
  | a :: r, vs, t, v, h, hv => by
    simp only [IsTs] at h
    obtain ⟨w, vr, rfl, h1, h2⟩ := h
    simp only [List.cons_append, IsTs]
    exact ⟨w, _, rfl, h1, h2.snoc hv⟩

theorem IsT.agg {S : St} {t : PT} {v : AV} (h : IsT S R B t v) : ∃ k s o1 x1 o2 x2, v = .agg [.int .i64 k, .str s, .sl 1 o1 x1, .sl 4 o2 x2] := by
  cases t
  simp only [IsT] at h
  obtain ⟨o1, x1, o2, x2, vs, rfl, _⟩ := h
  exact ⟨_, _, _, _, _, _, rfl⟩

theorem strs_get {l : List (List UInt8)} {i : Nat} {s : List UInt8} (h : l[i]? = some s) : (strs l)[i]? = some (.str s) := by simp [strs, h]
theorem strs_length (l : List (List UInt8)) : (strs l).length = l.length := by simp [strs]
theorem strs_elems {S : St} {R B : Nat → Prop} {o : SI} {xs : List AV} {l : List (List UInt8)} (h : SlV S R B false 1 o xs (strs l)) {i : Nat} {s : List UInt8} (hs : l[i]? = some s) : (strs l)[i]? = some (.str s) := strs_get hs
theorem strs_ok (l : List (List UInt8)) : ((strs l).flatMap AV.cells).all ok1 = true := by
  induction l with
  | nil => rfl
  | cons a r ih => simp [strs, AV.cells, ok1]

/-! ### slices that are being built -/

def Grw (S0 S : St) (ty : TypeId) (o : SI) (xs : List AV) : Prop :=
  (o = ⟨none, 0, some 0, true⟩ ∧ xs = []) ∨
  ∃ t l, o = ⟨some (t, l), 0, none, false⟩ ∧ S0.nt ≤ t ∧ t < S.nt ∧ S0.nt ≤ l ∧ l < S.nt ∧ lk S.tip t = some (some (xs.length, ty, false)) ∧ lk S.mv t = none ∧ lk S.dl l = none

theorem Grw.nil {S0 S : St} {ty : TypeId} : Grw S0 S ty ⟨none, 0, some 0, true⟩ [] := .inl ⟨rfl, rfl⟩

theorem Grw.ok {S0 S : St} {ty : TypeId} {o : SI} {xs : List AV} (h : Grw S0 S ty o xs) : OkS S o := by
  rcases h with ⟨rfl, _⟩ | ⟨t, l, rfl, _, h1, _, h2, _, h3, h4⟩
  · trivial
  · exact ⟨h1, h2, h3, h4⟩

theorem Grw.mono {S0 S S' : St} {ty : TypeId} {o : SI} {xs : List AV} (h : Grw S0 S ty o xs) (k : Le S S') : Grw S0 S' ty o xs := by
  rcases h with h | ⟨t, l, e, a0, h1, a1, h2, h5, h3, h4⟩
  · exact .inl h
  · exact .inr ⟨t, l, e, a0, Nat.lt_of_lt_of_le h1 k.nt, a1, Nat.lt_of_lt_of_le h2 k.nt, by rw [k.tip t h1]; exact h5, by rw [k.mv t h1]; exact h3, by rw [k.dl l h2]; exact h4⟩

/-- two slices that lean on nothing together -/
def Dj (o o2 : SI) : Prop := ∀ t l t2 l2, o.tok = some (t, l) → o2.tok = some (t2, l2) → t ≠ t2 ∧ l ≠ l2

theorem ble_true {a b : Nat} (h : a ≤ b) : Nat.ble a b = true := Nat.ble_eq_true_of_le h

theorem sx_app {gt : GT} {d : Option Nat} {env : Env} {S0 S : St} {agg : Bool} {ty : TypeId} {es bytes : Nat} {x y : DOpd} {o : SI} {xs ys : List AV} {yv : AV}
    (hx : opd env x = some (.sl es o xs)) (hy : opd env y = some yv) (hys : srcE S agg es yv = some ys) (hg : Grw S0 S ty o xs) (hS : Wf S)
    (hb : (xs.length + ys.length) * bytes ≤ 140737488355328) (hb2 : xs.length + ys.length ≤ 140737488355328) (hb3 : bytes ≤ 1048576) (hes : 0 < es) (hok : (ys.flatMap AV.cells).all ok1 = true) (h0 : S0.nt ≤ S.nt) :
    ∃ o' S', stepO gt d env S (.app agg ty es bytes x y) = .done (putV d (.sl es o' (xs ++ ys)) env) S' ∧ Grw S0 S' ty o' (xs ++ ys) ∧ Lw S S' ∧ Wf S' ∧ (Le S0 S → Le S0 S') ∧ (ys ≠ [] → ∃ l, o' = ⟨some (S.nt, l), 0, none, false⟩ ∧ (l = S.nt ∨ ∃ t, o.tok = some (t, l))) ∧
      ∀ (ty2 : TypeId) (o2 : SI) (zs : List AV), Grw S0 S ty2 o2 zs → Dj o o2 → Grw S0 S' ty2 o2 zs ∧ Dj o' o2 := by
  have hel : elems S agg es o xs = some xs := by simp only [elems, hg.ok.rd]
  cases ys with
  | nil =>
    refine ⟨o, S, ?_, by simpa using hg, Lw.refl S, hS, id, fun h => absurd rfl h, fun ty2 o2 zs h k => ⟨h, k⟩⟩
    simp only [stepO, hx, hy, appV, hys, hel, List.append_nil]
  | cons y ys =>
    have hguard : (Nat.beq es es && (Nat.ble ((xs.length + (y :: ys).length) * bytes) 140737488355328 && (Nat.ble (xs.length + (y :: ys).length) 140737488355328 && (Nat.ble bytes 1048576 && Nat.blt 0 es)))) = true := by
      rw [Nat.beq_refl, ble_true hb, ble_true hb2, ble_true hb3]
      simp only [Bool.true_and]
      exact Nat.ble_eq_true_of_le hes
    have hw := hS S.nt (Nat.le_refl _)
    rcases hg with ⟨rfl, rfl⟩ | ⟨t, l, rfl, a0, h1, a1, h2, h5, h3, h4⟩
    · refine ⟨⟨some (S.nt, S.nt), 0, none, false⟩, { S with nt := S.nt + 1, tip := (S.nt, some (([] : List AV).length + (y :: ys).length, ty, false)) :: S.tip }, ?_, ?_, ⟨Nat.le_succ _, Nat.le_refl _, fun _ _ => rfl, fun _ _ => rfl, fun _ _ => rfl⟩, fun t ht => hS t (by simp at ht; omega), fun k => ?_, fun _ => ⟨_, rfl, .inl rfl⟩, fun ty2 o2 zs h k => ?_⟩
      · have hz : Nat.ble (([] : List AV).length + (y :: ys).length) 0 = false := by
          cases hq : Nat.ble (([] : List AV).length + (y :: ys).length) 0 with
          | false => rfl
          | true => have := Nat.le_of_ble_eq_true hq; simp at this
        simp only [stepO, hx, hy, appV, hys, hel, hguard, cond_true, hz, cond_false]
      · exact .inr ⟨S.nt, S.nt, rfl, h0, Nat.lt_succ_self _, h0, Nat.lt_succ_self _, by simp [lk_same], hw.1, hw.2⟩
      · exact { k with nt := Nat.le_trans k.nt (Nat.le_succ _), tip := fun t ht => by rw [lk_ne _ _ (by have := k.nt; omega)]; exact k.tip t ht }
      · refine ⟨?_, fun t l t2 l2 e e2 => ?_⟩
        · rcases h with h | ⟨t', l', e', b0, b1, b2, b3, b4, b5, b6⟩
          · exact .inl h
          · exact .inr ⟨t', l', e', b0, Nat.lt_succ_of_lt b1, b2, Nat.lt_succ_of_lt b3, by rw [lk_ne _ _ (by omega)]; exact b4, b5, b6⟩
        · simp only [Option.some.injEq, Prod.mk.injEq] at e
          rcases h with ⟨rfl, _⟩ | ⟨t', l', rfl, b0, b1, b2, b3, _⟩
          · cases e2
          · simp only [Option.some.injEq, Prod.mk.injEq] at e2
            obtain ⟨rfl, rfl⟩ := e
            obtain ⟨rfl, rfl⟩ := e2
            exact ⟨by omega, by omega⟩
    · refine ⟨⟨some (S.nt, l), 0, none, false⟩, { S with nt := S.nt + 1, tip := (S.nt, some (xs.length + (y :: ys).length, ty, false)) :: (t, none) :: S.tip }, ?_, ?_, ⟨Nat.le_succ _, Nat.le_refl _, fun _ _ => rfl, fun _ _ => rfl, fun _ _ => rfl⟩, fun t ht => hS t (by simp at ht; omega), fun k => ?_, fun _ => ⟨_, rfl, .inr ⟨t, rfl⟩⟩, fun ty2 o2 zs h k => ?_⟩
      · have hrd : rd S ⟨some (t, l), 0, none, false⟩ = .here := by simp only [rd, h3, h4]
        have hg2 : (Nat.beq ty ty && (Nat.beq xs.length xs.length && (Nat.beq 0 0 && (Nat.ble l S.nt && ((y :: ys).flatMap AV.cells).all ok1)))) = true := by
          rw [Nat.beq_refl, Nat.beq_refl, Nat.beq_refl, ble_true (by omega), hok]; rfl
        simp only [stepO, hx, hy, appV, hys, hel, hguard, cond_true, hrd, h5, hg2]
      · exact .inr ⟨S.nt, l, rfl, h0, Nat.lt_succ_self _, a1, Nat.lt_succ_of_lt h2, by simp [lk_same], hw.1, h4⟩
      · exact { k with nt := Nat.le_trans k.nt (Nat.le_succ _), tip := fun t' ht' => by rw [lk_ne _ _ (by have := k.nt; omega), lk_ne _ _ (by omega)]; exact k.tip t' ht' }
      · refine ⟨?_, fun t' l' t2 l2 e e2 => ?_⟩
        · rcases h with h | ⟨t', l', e', b0, b1, b2, b3, b4, b5, b6⟩
          · exact .inl h
          · subst e'
            exact .inr ⟨t', l', rfl, b0, Nat.lt_succ_of_lt b1, b2, Nat.lt_succ_of_lt b3, by rw [lk_ne _ _ (by omega), lk_ne _ _ (k t l t' l' rfl rfl).1]; exact b4, b5, b6⟩
        · simp only [Option.some.injEq, Prod.mk.injEq] at e
          rcases h with ⟨rfl, _⟩ | ⟨t', l', rfl, b0, b1, b2, b3, _⟩
          · cases e2
          · have := (k t l t' l' rfl rfl).2
            simp only [Option.some.injEq, Prod.mk.injEq] at e2
            obtain ⟨rfl, rfl⟩ := e
            obtain ⟨rfl, rfl⟩ := e2
            exact ⟨by omega, this⟩

/-! ### rules for regions that draw -/
section
variable {gt : GT} {C : CallT}

theorem step_ruleD {i : DI × Option Nat} {env env' : Env} {S S' : St} {K : Env → St → Prop} {Q : Ex → Env → St → Prop} (h : stepD gt i env S = .done env' S') (k : K env' S') : afterS C i.1.dst env S K Q (stepD gt i env S) := by
  rw [h]; exact k

theorem step_ruleO {d : Option Nat} {op : DOp} {env env' : Env} {S S' : St} {K : Env → St → Prop} {Q : Ex → Env → St → Prop} (h : stepO gt d env S op = .done env' S') (k : K env' S') : afterS C d env S K Q (stepI gt ⟨d, op, none⟩ env S) := by
  show afterS C d env S K Q (stepO gt d env S op)
  rw [h]; exact k

theorem step_ruleG {d : Option Nat} {op : DOp} {g : Nat} {w : Bool} {env env' : Env} {S S' : St} {K : Env → St → Prop} {Q : Ex → Env → St → Prop} (hg : lk env g = some (.val (.bool w))) (h : stepO gt d env S op = .done env' S') (k : K env' S') : afterS C d env S K Q (stepI gt ⟨d, op, some (g, w)⟩ env S) := by
  have : stepI gt ⟨d, op, some (g, w)⟩ env S = stepO gt d env S op := by simp only [stepI, hg, beq_self_eq_true, cond_true]
  rw [this, h]; exact k

theorem step_ruleDO {d : Option Nat} {op : DOp} {l : Option Nat} {env env' : Env} {S S' : St} {K : Env → St → Prop} {Q : Ex → Env → St → Prop} (h0 : isLoc op = false) (h1 : conform l env op = true) (h : stepO gt d env S op = .done env' S') (k : K env' S') : afterS C d env S K Q (stepD gt (⟨d, op, none⟩, l) env S) := by
  have : stepD gt (⟨d, op, none⟩, l) env S = stepO gt d env S op := by simp only [stepD, stepDO, h0, h1, cond_false, cond_true]
  rw [this, h]; exact k

theorem step_app {d : Option Nat} {env : Env} {S0 S : St} {agg : Bool} {ty : TypeId} {es bytes : Nat} {x y : DOpd} {o : SI} {xs ys : List AV} {yv : AV} {K : Env → St → Prop} {Q : Ex → Env → St → Prop}
    (hx : opd env x = some (.sl es o xs)) (hy : opd env y = some yv) (hys : srcE S agg es yv = some ys) (hg : Grw S0 S ty o xs) (hS : Wf S)
    (hb : (xs.length + ys.length) * bytes ≤ 140737488355328) (hb2 : xs.length + ys.length ≤ 140737488355328) (hb3 : bytes ≤ 1048576) (hes : 0 < es) (hok : (ys.flatMap AV.cells).all ok1 = true) (h0 : S0.nt ≤ S.nt)
    (k : ∀ (o' : SI) (S' : St), Grw S0 S' ty o' (xs ++ ys) → Lw S S' → Wf S' → (Le S0 S → Le S0 S') → (ys ≠ [] → ∃ l, o' = ⟨some (S.nt, l), 0, none, false⟩ ∧ (l = S.nt ∨ ∃ t, o.tok = some (t, l))) →
      (∀ (ty2 : TypeId) (o2 : SI) (zs : List AV), Grw S0 S ty2 o2 zs → Dj o o2 → Grw S0 S' ty2 o2 zs ∧ Dj o' o2) →
      K (putV d (.sl es o' (xs ++ ys)) env) S') :
    afterS C d env S K Q (stepI gt ⟨d, .app agg ty es bytes x y, none⟩ env S) := by
  obtain ⟨o', S', e, a, b, c, f, g, h⟩ := sx_app (gt := gt) (d := d) hx hy hys hg hS hb hb2 hb3 hes hok h0
  exact step_ruleO e (k o' S' a b c f g h)

theorem step_appD {l : Option Nat} {d : Option Nat} {env : Env} {S0 S : St} {agg : Bool} {ty : TypeId} {es bytes : Nat} {x y : DOpd} {o : SI} {xs ys : List AV} {yv : AV} {K : Env → St → Prop} {Q : Ex → Env → St → Prop}
    (hx : opd env x = some (.sl es o xs)) (hy : opd env y = some yv) (hys : srcE S agg es yv = some ys) (hg : Grw S0 S ty o xs) (hS : Wf S)
    (hb : (xs.length + ys.length) * bytes ≤ 140737488355328) (hb2 : xs.length + ys.length ≤ 140737488355328) (hb3 : bytes ≤ 1048576) (hes : 0 < es) (hok : (ys.flatMap AV.cells).all ok1 = true) (h0 : S0.nt ≤ S.nt)
    (k : ∀ (o' : SI) (S' : St), Grw S0 S' ty o' (xs ++ ys) → Lw S S' → Wf S' → (Le S0 S → Le S0 S') → (ys ≠ [] → ∃ l, o' = ⟨some (S.nt, l), 0, none, false⟩ ∧ (l = S.nt ∨ ∃ t, o.tok = some (t, l))) →
      (∀ (ty2 : TypeId) (o2 : SI) (zs : List AV), Grw S0 S ty2 o2 zs → Dj o o2 → Grw S0 S' ty2 o2 zs ∧ Dj o' o2) →
      K (putV d (.sl es o' (xs ++ ys)) env) S') :
    afterS C d env S K Q (stepD gt (⟨d, .app agg ty es bytes x y, none⟩, l) env S) := by
  obtain ⟨o', S', e, a, b, c, f, g, h⟩ := sx_app (gt := gt) (d := d) hx hy hys hg hS hb hb2 hb3 hes hok h0
  exact step_ruleDO rfl rfl e (k o' S' a b c f g h)

theorem call_ruleD {i : DI × Option Nat} {env : Env} {S : St} {K : Env → St → Prop} {Q : Ex → Env → St → Prop} {f : FuncId} {xs : List AV} (h : stepD gt i env S = .call f xs) (k : C f xs S fun r S' => match r with
    | .ret v => K (putV i.1.dst v env) S'
    | .pan v => Q (.pan v) env S') : afterS C i.1.dst env S K Q (stepD gt i env S) := by
  rw [h]; exact k

theorem sx_ia {d : Option Nat} {es : Nat} {x i : DOpd} {env : Env} {S : St} {o : SI} {xs : List AV} {k : Nat} (hx : opd env x = some (.sl es o xs)) (hi : (opd env i).bind nat? = some k) (hk : k < xs.length) :
    stepO gt d env S (.ia es x i) = .done (putV d (.eptr es o xs k 0) env) S := by
  simp only [stepO, hx, hi, Nat.beq_refl, Bool.true_and, show Nat.blt k xs.length = true from Nat.ble_eq_true_of_le hk, cond_true]

theorem sx_ldEl {d : Option Nat} {es : Nat} {a : DOpd} {env : Env} {S : St} {o : SI} {xs ys : List AV} {agg : Bool} {k off : Nat} {y v : AV} {g : Bool} {sz : Nat} (ha : loc env a = some (.el es o xs k off)) (he : elems S agg es o xs = some ys) (hv : ys[k]? = some y) (hm : (cut y.cells off sz).bind (mkv g) = some v) :
    stepO gt d env S (.ld g sz a) = .done (putV d v env) S := by
  simp only [stepO, ha, ldL, ldC, el_read he hv]
  cases hc : cut y.cells off sz with
  | none => rw [hc] at hm; cases hm
  | some cs => rw [hc] at hm; simp only [Option.bind_some] at hm; simp only [hm, SR.val]
end

mutual
def PT.ok : PT → Prop
  | .mk _ _ keys kids => keys.length * 16 ≤ 140737488355328 ∧ kids.length * 72 ≤ 140737488355328 ∧ PT.oks kids
def PT.oks : List PT → Prop
  | [] => True
  | t :: r => PT.ok t ∧ PT.oks r
end

theorem PT.oks_get : ∀ {l : List PT} {i : Nat} {t : PT}, PT.oks l → l[i]? = some t → t.ok
  | [], i, t, _, h => by simp at h
  | a :: r, 0, t, h, e => by simp only [PT.oks] at h; simp at e; subst e; exact h.1
  | a :: r, i + 1, t, h, e => by simp only [PT.oks] at h; exact PT.oks_get h.2 (i := i) (by simpa using e)

def Ro (lo : Nat) (o : SI) : Nat → Prop := fun i => lo ≤ i ∧ ∀ t l, o.tok = some (t, l) → i ≠ t ∧ i ≠ l
def non : Nat → Prop := fun _ => False

theorem Grw.lo {S0 S : St} {ty : TypeId} {o : SI} {xs : List AV} (h : Grw S0 S ty o xs) : ∀ t l, o.tok = some (t, l) → S0.nt ≤ t ∧ S0.nt ≤ l := by
  intro t l e
  rcases h with ⟨rfl, _⟩ | ⟨t', l', rfl, a0, h1, a1, h2, h5, h3, h4⟩
  · cases e
  · cases e; exact ⟨a0, a1⟩

/-- a tree in memory of its own -/
def Cpy (t9 ty : TypeId) (S S' : St) : PT → AV → Prop
  | .mk k s keys kids, v => ∃ o1 o2 x2, v = .agg [.int .i64 k, .str s, .sl 1 o1 (strs keys), .sl 4 o2 x2] ∧ Grw S S' t9 o1 (strs keys) ∧ Grw S S' ty o2 x2 ∧ Dj o2 o1 ∧ IsTs S' (Ro S.nt o2) non kids x2

theorem Cpy.agg {t9 ty : TypeId} {S S' : St} {t : PT} {v : AV} (h : Cpy t9 ty S S' t v) : ∃ k s o1 x1 o2 x2, v = .agg [.int .i64 k, .str s, .sl 1 o1 x1, .sl 4 o2 x2] := by
  cases t
  obtain ⟨o1, o2, x2, rfl, _⟩ := h
  exact ⟨_, _, _, _, _, _, rfl⟩

theorem Cpy.isT {t9 ty : TypeId} {S S' : St} : ∀ {t : PT} {v : AV}, Cpy t9 ty S S' t v → IsT S' (fun i => S.nt ≤ i) non t v
  | .mk k s keys kids, v, h => by
    obtain ⟨o1, o2, x2, rfl, h1, h2, _, h3⟩ := h
    simp only [IsT]
    exact ⟨o1, _, o2, x2, x2, rfl, h1.ok.slv h1.lo false 1 _, h2.ok.slv h2.lo true 4 x2, IsTs.weak (fun i _ h => h.1) (fun i _ h => h) _ _ h3⟩

theorem Ro_step {S : St} {lo : Nat} {o o' : SI} {l : Nat} (e : o' = ⟨some (S.nt, l), 0, none, false⟩) (h : l = S.nt ∨ ∃ t, o.tok = some (t, l)) : ∀ i, i < S.nt → Ro lo o i → Ro lo o' i := by
  subst e
  rintro i hi ⟨h1, h2⟩
  refine ⟨h1, fun t l' e => ?_⟩
  cases e
  refine ⟨by omega, ?_⟩
  rcases h with rfl | ⟨t', ht⟩
  · omega
  · exact (h2 t' l ht).2

theorem Ro_new {S1 S2 : St} {lo : Nat} {o o' : SI} {l : Nat} (hlo : lo ≤ S1.nt) (e : o' = ⟨some (S2.nt, l), 0, none, false⟩) (h : l = S2.nt ∨ ∃ t, o.tok = some (t, l) ∧ l < S1.nt) : ∀ i, i < S2.nt → S1.nt ≤ i → Ro lo o' i := by
  subst e
  intro i hi h1
  refine ⟨by omega, fun t l' e => ?_⟩
  cases e
  refine ⟨by omega, ?_⟩
  rcases h with rfl | ⟨t', _, hl⟩ <;> omega


theorem wr64 {n : Int} (h : -9223372036854775808 ≤ n) (h2 : n < 9223372036854775808) : wr .i64 n = n := by
  rw [wr_eq]
  refine inR_wrap ?_
  cases n with
  | ofNat m => simp only [inR]; exact Nat.ble_eq_true_of_le (by have : (m : Int) < 9223372036854775808 := h2; omega)
  | negSucc m => simp only [inR]; exact Nat.ble_eq_true_of_le (by have : -9223372036854775808 ≤ -((m : Int) + 1) := by rw [← Int.negSucc_eq]; exact h
                                                                  omega)

theorem wrNat {k : Nat} (h : k + 1 < 9223372036854775808) : wr .i64 ((k : Int) + 1) = ((k + 1 : Nat) : Int) := by
  rw [wr64 (by omega) (by omega)]; rfl
end Go.Dn

namespace Go.Dn
open Go Go.RowKit

def stat : SI := ⟨none, 0, none, false⟩

/-! ### values without a store -/
mutual
def Sta : AV → Prop
  | .sl _ o ys => o = stat ∧ Stas ys
  | .agg us => Stas us
  | .tup us => Stas us
  | .ifc _ u => Sta u
  | .fn _ fs cs => Stas fs ∧ Stas cs
  | .ptr _ _ => False
  | .map _ => False
  | .eptr _ _ _ _ _ => False
  | _ => True
def Stas : List AV → Prop
  | [] => True
  | u :: us => Sta u ∧ Stas us
end

/-- no slice in it -/
def flat1 : AV → Bool
  | .bool _ | .int _ _ | .str _ | .nilp | .nilfn | .nilif | .nilmap | .undef => true
  | _ => false
def Flat : AV → Prop
  | .tup us => us.all flat1 = true
  | u => flat1 u = true

mutual
/-- x in the store S reads as the pure value u -/
def Rdo (S : St) : AV → AV → Prop
  | .sl es o ys, x => o = stat ∧ ∃ o' xs agg zs, x = .sl es o' xs ∧ elems S agg es o' xs = some zs ∧ Rdos S ys zs
  | .agg us, x => ∃ xs, x = .agg xs ∧ Rdos S us xs
  | .tup us, x => ∃ xs, x = .tup xs ∧ Rdos S us xs
  | .ifc t u, x => ∃ y, x = .ifc t y ∧ Rdo S u y
  | .fn f fs cs, x => ∃ a b, x = .fn f a b ∧ Rdos S fs a ∧ Rdos S cs b
  | .ptr _ _, _ => False
  | .map _, _ => False
  | .eptr _ _ _ _ _, _ => False
  | .undef, x => x = .undef
  | .bool b, x => x = .bool b
  | .int k n, x => x = .int k n
  | .str s, x => x = .str s
  | .nilp, x => x = .nilp
  | .gptr g o, x => x = .gptr g o
  | .anyp, x => x = .anyp
  | .nilfn, x => x = .nilfn
  | .nilif, x => x = .nilif
  | .nilmap, x => x = .nilmap
  | .raw v, x => x = .raw v
def Rdos (S : St) : List AV → List AV → Prop
  | [], xs => xs = []
  | u :: us, xs => ∃ x r, xs = x :: r ∧ Rdo S u x ∧ Rdos S us r
end

section
variable {S : St}

mutual
theorem Sta.rdo : ∀ u, Sta u → Rdo S u u
  | .sl es o ys, h => by
    simp only [Sta] at h
    simp only [Rdo]
    refine ⟨h.1, o, ys, true, ys, rfl, ?_, Stas.rdos ys h.2⟩
    rw [h.1]; rfl
  | .agg us, h => by simp only [Sta] at h; simp only [Rdo]; exact ⟨us, rfl, Stas.rdos us h⟩
  | .tup us, h => by simp only [Sta] at h; simp only [Rdo]; exact ⟨us, rfl, Stas.rdos us h⟩
  | .ifc t u, h => by simp only [Sta] at h; simp only [Rdo]; exact ⟨u, rfl, Sta.rdo u h⟩
  | .fn f fs cs, h => by simp only [Sta] at h; simp only [Rdo]; exact ⟨fs, cs, rfl, Stas.rdos fs h.1, Stas.rdos cs h.2⟩
  | .ptr _ _, h => h.elim
  | .map _, h => h.elim
  | .eptr _ _ _ _ _, h => h.elim
  | .undef, _ | .bool _, _ | .int _ _, _ | .str _, _ | .nilp, _ | .gptr _ _, _ | .anyp, _ | .nilfn, _ | .nilif, _ | .nilmap, _ | .raw _, _ => by simp only [Rdo]
theorem Stas.rdos : ∀ us, Stas us → Rdos S us us
  | [], _ => by simp only [Rdos]
  | u :: us, h => by simp only [Stas] at h; simp only [Rdos]; exact ⟨u, us, rfl, Sta.rdo u h.1, Stas.rdos us h.2⟩
end

theorem Rdos.length : ∀ {us xs : List AV}, Rdos S us xs → xs.length = us.length
  | [], xs, h => by simp only [Rdos] at h; rw [h]
  | u :: us, xs, h => by simp only [Rdos] at h; obtain ⟨x, r, rfl, _, k⟩ := h; simp [k.length]

theorem Rdos.append : ∀ {us xs vs ys : List AV}, Rdos S us xs → Rdos S vs ys → Rdos S (us ++ vs) (xs ++ ys)
  | [], xs, vs, ys, h, k => by simp only [Rdos] at h; subst h; exact k
  | u :: us, xs, vs, ys, h, k => by
    simp only [Rdos] at h
    obtain ⟨x, r, rfl, h1, h2⟩ := h
    simp only [List.cons_append, Rdos]
    exact ⟨x, _, rfl, h1, h2.append k⟩

theorem Stas.append : ∀ {us vs : List AV}, Stas us → Stas vs → Stas (us ++ vs)
  | [], _, _, k => k
  | u :: us, _, h, k => by simp only [Stas] at h; simp only [List.cons_append, Stas]; exact ⟨h.1, h.2.append k⟩

theorem Stas.mem : ∀ {us : List AV} {u : AV}, Stas us → u ∈ us → Sta u
  | a :: us, u, h, hu => by
    simp only [Stas] at h
    rcases List.mem_cons.1 hu with rfl | hu
    · exact h.1
    · exact h.2.mem hu
theorem Stas.of : ∀ {us : List AV}, (∀ u ∈ us, Sta u) → Stas us
  | [], _ => trivial
  | a :: us, h => ⟨h a (by simp), Stas.of fun u hu => h u (by simp [hu])⟩

theorem sta_sl {es : Nat} {ys : List AV} (h : Stas ys) : Sta (.sl es stat ys) := by simp only [Sta]; exact ⟨trivial, h⟩
end

section
variable {P : Program} {gt : GT} {S1 S2 : St} {G1 G2 : Gh} {w : World}

mutual
theorem Rdo.rv (hI : Inv P gt S1 G1 w) (h1 : ∀ b, G1.st b → G2.st b) (h2 : ∀ b, b < w.heap.size → Own S1 G1 b → G2.st b) : ∀ (u x : AV) (v : Value), Rdo S1 u x → Rv S1 G1 w x v → Rv S2 G2 w u v
  | .sl es o ys, x, v, hx, hv => by
    simp only [Rdo] at hx
    obtain ⟨rfl, o', xs, agg, zs, rfl, he, hz⟩ := hx
    simp only [Rv] at hv ⊢
    obtain ⟨a, len, cap, rfl, hs, hr⟩ := hv
    obtain ⟨e1, e2, us, e3, e4, e5⟩ := elems_sound hI he hs hr
    have hly := hz.length
    refine ⟨a, len, cap, rfl, ⟨by rw [hs.1, ← e1, hly], hs.2.1, ⟨(fun h => by cases h), (fun h => by cases h)⟩, (fun c h => by cases h), hs.2.2.2.2.1, fun p hp hc => ?_⟩, fun _ p hp => ?_⟩
    · obtain ⟨g1, g2, g3, g4⟩ := hs.2.2.2.2.2 p hp hc
      refine ⟨g1, g2, g3, ?_⟩
      have hlt : p.block < w.heap.size := by obtain ⟨ty, k, hk, _⟩ := g3; exact shape_lt hk
      rw [rd_none rfl]
      simp only [stat]
      cases hrd : rd S1 o' with
      | here =>
        rw [hrd] at g4
        simp only at g4
        cases ht : o'.tok with
        | none => rw [ht] at g4; exact h1 _ g4
        | some q =>
          obtain ⟨t, l⟩ := q
          rw [ht] at g4
          exact h2 _ hlt (.inr (.inl ⟨t, g4.1, g4.2.2.1⟩))
      | box b off =>
        rw [hrd] at g4
        exact h2 _ hlt (.inl ⟨b, g4.1, g4.2.1.symm⟩)
      | no =>
        unfold elems at he
        rw [hrd] at he
        cases he
    · by_cases hc : 0 < cap
      · obtain ⟨e6, e7⟩ := e5 p hp hc
        exact Rdos.rat hI h1 h2 ys zs p.block p.off es hz (Rat.ofCells e3 e2 e7)
      · have : ys = [] := by
          apply List.length_eq_zero_iff.1
          have := hs.1; have := hs.2.1; omega
        subst this
        simp only [Rat]
  | .agg us, x, v, hx, hv => by
    simp only [Rdo] at hx
    obtain ⟨xs, rfl, hx⟩ := hx
    simp only [Rv] at hv ⊢
    obtain ⟨vs, rfl, hv⟩ := hv
    exact ⟨vs, rfl, Rdos.rl hI h1 h2 us xs vs hx hv⟩
  | .tup us, x, v, hx, hv => by
    simp only [Rdo] at hx
    obtain ⟨xs, rfl, hx⟩ := hx
    simp only [Rv] at hv ⊢
    obtain ⟨vs, rfl, hv⟩ := hv
    exact ⟨vs, rfl, Rdos.rl hI h1 h2 us xs vs hx hv⟩
  | .ifc t u, x, v, hx, hv => by
    simp only [Rdo] at hx
    obtain ⟨y, rfl, hx⟩ := hx
    simp only [Rv] at hv ⊢
    obtain ⟨z, rfl, hv⟩ := hv
    exact ⟨z, rfl, Rdo.rv hI h1 h2 u y z hx hv⟩
  | .fn f fs cs, x, v, hx, hv => by
    simp only [Rdo] at hx
    obtain ⟨a, b, rfl, hx, hx'⟩ := hx
    simp only [Rv] at hv ⊢
    obtain ⟨va, vb, rfl, hv, hv'⟩ := hv
    exact ⟨va, vb, rfl, Rdos.rl hI h1 h2 fs a va hx hv, Rdos.rl hI h1 h2 cs b vb hx' hv'⟩
  | .ptr _ _, _, _, hx, _ => by simp only [Rdo] at hx
  | .map _, _, _, hx, _ => by simp only [Rdo] at hx
  | .eptr _ _ _ _ _, _, _, hx, _ => by simp only [Rdo] at hx
  | .undef, x, _, hx, hv | .bool _, x, _, hx, hv | .int _ _, x, _, hx, hv | .str _, x, _, hx, hv | .nilp, x, _, hx, hv | .gptr _ _, x, _, hx, hv | .anyp, x, _, hx, hv | .nilfn, x, _, hx, hv | .nilif, x, _, hx, hv | .nilmap, x, _, hx, hv | .raw _, x, _, hx, hv => by
    simp only [Rdo] at hx
    subst hx
    simp only [Rv] at hv ⊢
    exact hv
theorem Rdos.rl (hI : Inv P gt S1 G1 w) (h1 : ∀ b, G1.st b → G2.st b) (h2 : ∀ b, b < w.heap.size → Own S1 G1 b → G2.st b) : ∀ (us xs : List AV) (vs : List Value), Rdos S1 us xs → Rl S1 G1 w xs vs → Rl S2 G2 w us vs
  | [], xs, vs, hx, hv => by simp only [Rdos] at hx; subst hx; simpa only [Rl] using hv
  | u :: us, xs, vs, hx, hv => by
    simp only [Rdos] at hx
    obtain ⟨x, r, rfl, hx, hr⟩ := hx
    simp only [Rl] at hv ⊢
    obtain ⟨v, vr, rfl, hv, hvr⟩ := hv
    exact ⟨v, vr, rfl, Rdo.rv hI h1 h2 u x v hx hv, Rdos.rl hI h1 h2 us r vr hr hvr⟩
theorem Rdos.rat (hI : Inv P gt S1 G1 w) (h1 : ∀ b, G1.st b → G2.st b) (h2 : ∀ b, b < w.heap.size → Own S1 G1 b → G2.st b) : ∀ (us xs : List AV) (b off es : Nat), Rdos S1 us xs → Rat S1 G1 w b es xs off → Rat S2 G2 w b es us off
  | [], xs, b, off, es, hx, hv => by simp only [Rat]
  | u :: us, xs, b, off, es, hx, hv => by
    simp only [Rdos] at hx
    obtain ⟨x, r, rfl, hx, hr⟩ := hx
    simp only [Rat] at hv ⊢
    obtain ⟨⟨v, hv, hsz, hc⟩, hvr⟩ := hv
    exact ⟨⟨v, Rdo.rv hI h1 h2 u x v hx hv, hsz, hc⟩, Rdos.rat hI h1 h2 us r b (off + es) es hr hvr⟩
end

mutual
/-- pure data does not hang on the store -/
theorem Sta.rv (h : ∀ b, b < w.heap.size → G1.st b → G2.st b) : ∀ (u : AV) (v : Value), Sta u → Rv S1 G1 w u v → Rv S2 G2 w u v
  | .sl es o ys, v, hu, hv => by
    simp only [Sta] at hu
    obtain ⟨rfl, hu⟩ := hu
    simp only [Rv] at hv ⊢
    obtain ⟨a, len, cap, rfl, hs, hr⟩ := hv
    refine ⟨a, len, cap, rfl, ⟨hs.1, hs.2.1, hs.2.2.1, hs.2.2.2.1, hs.2.2.2.2.1, fun p hp hc => ?_⟩, fun _ p hp => Stas.rat h ys p.block p.off es hu (hr (rd_none rfl) p hp)⟩
    obtain ⟨g1, g2, g3, g4⟩ := hs.2.2.2.2.2 p hp hc
    have hlt : p.block < w.heap.size := by obtain ⟨ty, k, hk, _⟩ := g3; exact shape_lt hk
    refine ⟨g1, g2, g3, ?_⟩
    rw [rd_none rfl] at g4 ⊢
    exact h _ hlt g4
  | .agg us, v, hu, hv => by
    simp only [Sta] at hu
    simp only [Rv] at hv ⊢
    obtain ⟨vs, rfl, hv⟩ := hv
    exact ⟨vs, rfl, Stas.rl h us vs hu hv⟩
  | .tup us, v, hu, hv => by
    simp only [Sta] at hu
    simp only [Rv] at hv ⊢
    obtain ⟨vs, rfl, hv⟩ := hv
    exact ⟨vs, rfl, Stas.rl h us vs hu hv⟩
  | .ifc t u, v, hu, hv => by
    simp only [Sta] at hu
    simp only [Rv] at hv ⊢
    obtain ⟨z, rfl, hv⟩ := hv
    exact ⟨z, rfl, Sta.rv h u z hu hv⟩
  | .fn f fs cs, v, hu, hv => by
    simp only [Sta] at hu
    simp only [Rv] at hv ⊢
    obtain ⟨va, vb, rfl, hv, hv'⟩ := hv
    exact ⟨va, vb, rfl, Stas.rl h fs va hu.1 hv, Stas.rl h cs vb hu.2 hv'⟩
  | .ptr _ _, _, hu, _ => by simp only [Sta] at hu
  | .map _, _, hu, _ => by simp only [Sta] at hu
  | .eptr _ _ _ _ _, _, hu, _ => by simp only [Sta] at hu
  | .undef, _, _, hv | .bool _, _, _, hv | .int _ _, _, _, hv | .str _, _, _, hv | .nilp, _, _, hv | .gptr _ _, _, _, hv | .anyp, _, _, hv | .nilfn, _, _, hv | .nilif, _, _, hv | .nilmap, _, _, hv | .raw _, _, _, hv => by
    simp only [Rv] at hv ⊢
    exact hv
theorem Stas.rl (h : ∀ b, b < w.heap.size → G1.st b → G2.st b) : ∀ (us : List AV) (vs : List Value), Stas us → Rl S1 G1 w us vs → Rl S2 G2 w us vs
  | [], vs, hu, hv => by simpa only [Rl] using hv
  | u :: us, vs, hu, hv => by
    simp only [Stas] at hu
    simp only [Rl] at hv ⊢
    obtain ⟨v, vr, rfl, hv, hvr⟩ := hv
    exact ⟨v, vr, rfl, Sta.rv h u v hu.1 hv, Stas.rl h us vr hu.2 hvr⟩
theorem Stas.rat (h : ∀ b, b < w.heap.size → G1.st b → G2.st b) : ∀ (us : List AV) (b off es : Nat), Stas us → Rat S1 G1 w b es us off → Rat S2 G2 w b es us off
  | [], b, off, es, hu, hv => by simp only [Rat]
  | u :: us, b, off, es, hu, hv => by
    simp only [Stas] at hu
    simp only [Rat] at hv ⊢
    obtain ⟨⟨v, hv, hsz, hc⟩, hvr⟩ := hv
    exact ⟨⟨v, Sta.rv h u v hu.1 hv, hsz, hc⟩, Stas.rat h us b (off + es) es hu.2 hvr⟩
end

theorem flat1_rv {u : AV} {v : Value} (hu : flat1 u = true) (hv : Rv S1 G1 w u v) : Rv S2 G2 w u v := by
  cases u <;> first | (exfalso; revert hu; simp [flat1]; done) | (simp only [Rv] at hv ⊢; exact hv)
theorem flats_rl : ∀ {us : List AV} {vs : List Value}, us.all flat1 = true → Rl S1 G1 w us vs → Rl S2 G2 w us vs
  | [], vs, _, hv => by simpa only [Rl] using hv
  | u :: us, vs, hu, hv => by
    simp only [List.all_cons, Bool.and_eq_true] at hu
    simp only [Rl] at hv ⊢
    obtain ⟨v, vr, rfl, hv, hvr⟩ := hv
    exact ⟨v, vr, rfl, flat1_rv hu.1 hv, flats_rl hu.2 hvr⟩
theorem Flat.rv {u : AV} {v : Value} (hu : Flat u) (hv : Rv S1 G1 w u v) : Rv S2 G2 w u v := by
  cases u with
  | tup us =>
    simp only [Flat] at hu
    simp only [Rv] at hv ⊢
    obtain ⟨vs, rfl, hv⟩ := hv
    exact ⟨vs, rfl, flats_rl hu hv⟩
  | _ => exact flat1_rv hu hv
end

/-! ### a call of a function of pure data -/
section
variable {P : Program} {gt : GT}

/-- the empty store's ghost: the blocks that stay -/
def Gst (st : Nat → Prop) : Gh := ⟨fun _ => 0, fun _ => 0, fun _ => 0, fun _ => 0, fun _ => 0, st⟩

theorem ownG {st : Nat → Prop} {b : Nat} : ¬ Own St.init (Gst st) b := by
  rintro (⟨i, hi, _⟩ | ⟨i, hi, _⟩ | ⟨i, hi, _⟩) <;> exact absurd hi (Nat.not_lt_zero i)

theorem invG {st : Nat → Prop} {w : World} (hl : ∀ b, st b → b < w.heap.size) (hg : ∀ g cs, lk gt g = some cs → st g ∧ ∃ c ty fr, w.heap[g]? = some (.cells c ty fr) ∧ Rl St.init (Gst st) w cs c.toList) : Inv P gt St.init (Gst st) w :=
  { boxLt := fun i hi => absurd hi (Nat.not_lt_zero i)
    tokLt := fun i hi => absurd hi (Nat.not_lt_zero i)
    mapLt := fun i hi => absurd hi (Nat.not_lt_zero i)
    stLt := hl
    stOwn := fun b _ => ownG
    box := fun i ty cs h => by cases h
    boxInj := fun i i' x x' h => by cases h
    boxTok := fun i x t h => by cases h
    map := fun i hi => absurd hi (Nat.not_lt_zero i)
    mapInj := fun i i' hi => absurd hi (Nat.not_lt_zero i)
    tip := fun t n ty sf h => by cases h
    tipInj := fun t t' x x' h => by cases h
    line := fun t t' ht => absurd ht (Nat.not_lt_zero t)
    lnLt := fun t ht => absurd ht (Nat.not_lt_zero t)
    kBox := fun i _ => rfl
    kMap := fun i _ => rfl
    kMv := fun i _ => rfl
    kTip := fun i _ => rfl
    kDl := fun i _ => rfl
    glob := hg }

theorem own_lt {S : St} {G : Gh} {w : World} (h : Inv P gt S G w) {b : Nat} (ho : Own S G b) : b < w.heap.size := by
  rcases ho with ⟨i, hi, rfl⟩ | ⟨i, hi, rfl⟩ | ⟨i, hi, rfl⟩
  · exact h.boxLt i hi
  · exact h.tokLt i hi
  · exact h.mapLt i hi

/-- more blocks stay from now on: those that are new -/
def addSt (G : Gh) (n m : Nat) : Gh := { G with st := fun b => G.st b ∨ (n ≤ b ∧ b < m) }

section
variable {S : St} {G : Gh} {w w' : World}

theorem own_add {n m b : Nat} : Own S (addSt G n m) b ↔ Own S G b := Iff.rfl

theorem ext_add (hI : Inv P gt S G w) (h : Gr w w') : Ext S G w S (addSt G w.heap.size w'.heap.size) w' where
  nb := Nat.le_refl _
  nt := Nat.le_refl _
  nm := Nat.le_refl _
  β _ _ := rfl
  τ _ _ := rfl
  ln _ _ := rfl
  μ _ _ := rfl
  size := h.size
  own _ _ h := h
  st b hb := ⟨.inl hb, h.same b (hI.stLt b hb)⟩
  stNew b hb hs := by
    rcases hs with hs | hs
    · exact hs
    · omega
  shape b x hx := by simpa [World.shape?, h.same b (shape_lt hx)] using hx
  mv _ _ _ h := h
  dl _ h := h
  sea t ht _ _ := ⟨Nat.le_refl _, fun i _ => by simp only [World.cell?, h.same _ (hI.tokLt t ht)]⟩
  moved t b o _ h h' := by rw [h] at h'; cases h'
  os := h.os
  tape := h.tape
  output := h.output

theorem inv_add (hI : Inv P gt S G w) (h : Gr w w') : Inv P gt S (addSt G w.heap.size w'.heap.size) w' where
  boxLt id hi := Nat.lt_of_lt_of_le (hI.boxLt id hi) h.size
  tokLt id hi := Nat.lt_of_lt_of_le (hI.tokLt id hi) h.size
  mapLt id hi := Nat.lt_of_lt_of_le (hI.mapLt id hi) h.size
  stLt b hb := by
    rcases hb with hb | hb
    · exact Nat.lt_of_lt_of_le (hI.stLt b hb) h.size
    · exact hb.2
  stOwn b hb ho := by
    rcases hb with hb | hb
    · exact hI.stOwn b hb ho
    · have := own_lt hI (own_add.1 ho); omega
  box id ty cs hb := by
    obtain ⟨h1, c, fr, sf, pre, rest, h2, h3, h4, h5⟩ := hI.box id ty cs hb
    exact ⟨h1, c, fr, sf, pre, rest, by rw [← h2]; exact h.same _ (hI.boxLt id h1), h3, h4, h5.mono (ext_add hI h)⟩
  boxInj := hI.boxInj
  boxTok := hI.boxTok
  map id hi := by
    obtain ⟨es, ents, clk, h1, h2, h3⟩ := hI.map id hi
    exact ⟨es, ents, clk, h1, by rw [← h2]; exact h.same _ (hI.mapLt id hi), h3.mono (ext_add hI h)⟩
  mapInj := hI.mapInj
  tip t n ty sf ht := by
    obtain ⟨h1, h2⟩ := hI.tip t n ty sf ht
    refine ⟨h1, fun hv => ?_⟩
    obtain ⟨es, c, fr, e1, e2, e3⟩ := h2 hv
    exact ⟨es, c, fr, e1, by rw [← e2]; exact h.same _ (hI.tokLt t h1), e3⟩
  tipInj := hI.tipInj
  line := hI.line
  lnLt := hI.lnLt
  kBox := hI.kBox
  kMap := hI.kMap
  kMv := hI.kMv
  kTip := hI.kTip
  kDl := hI.kDl
  glob g cs hg := by
    obtain ⟨h1, c, ty, fr, h2, h3⟩ := hI.glob g cs hg
    exact ⟨.inl h1, c, ty, fr, by rw [h.same _ (hI.stLt g h1)]; exact h2, h3.mono (ext_add hI h)⟩
end

theorem gr_of_tr {st : Nat → Prop} {S1 : St} {G1 : Gh} {w w1 : World} (t : Tr P gt St.init (Gst st) w S1 G1 w1) : Gr w w1 :=
  ⟨t.ext.os, t.ext.tape, t.ext.output, t.ext.size, fun b hb => t.keep b hb ownG⟩

/-- the tables hold pure data -/
def GtSta (gt : GT) : Prop := ∀ g cs, lk gt g = some cs → Stas cs

/-- A CALL WITH PURE DATA: what holds from the empty store holds from every store, and the store stays. -/
theorem AC_pure (hgt : GtSta gt) {f : FuncId} {us : List AV} {Φ : AV → Prop} (hus : Stas us)
    (h : AC P gt f us St.init fun r S1 => ∃ x u, r = .ret x ∧ Rdo S1 u x ∧ Φ u) (S : St) :
    AC P gt f us S fun r S' => ∃ u, r = .ret u ∧ Φ u ∧ S' = S := by
  refine ⟨h.1, fun G w args hI hx => ?_⟩
  have hI0 : Inv P gt St.init (Gst G.st) w := invG hI.stLt fun g cs hg => by
    obtain ⟨h1, c, ty, fr, h2, h3⟩ := hI.glob g cs hg
    exact ⟨h1, c, ty, fr, h2, Stas.rl (G1 := G) (G2 := Gst G.st) (fun b _ hb => hb) cs _ (hgt g cs hg) h3⟩
  refine Calls.mono (h.2 (Gst G.st) w args hI0 (Stas.rl (G1 := G) (G2 := Gst G.st) (fun b _ hb => hb) us _ hus hx)) fun e w1 hp => ?_
  cases e with
  | returned v =>
    obtain ⟨x', S1, G1, ⟨x, u, e, hr, hφ⟩, t, rv⟩ := hp
    cases e
    have g := gr_of_tr t
    refine ⟨u, S, addSt G w.heap.size w1.heap.size, ⟨u, rfl, hφ, rfl⟩, ⟨inv_add hI g, ext_add hI g, fun b hb _ => g.same b hb⟩, ?_⟩
    refine Rdo.rv t.inv (fun b hb => ?_) (fun b hb ho => ?_) u _ v hr rv
    · rcases Nat.lt_or_ge b w.heap.size with hlt | hge
      · exact .inl (t.ext.stNew b hlt hb)
      · exact .inr ⟨hge, t.inv.stLt b hb⟩
    · rcases Nat.lt_or_ge b w.heap.size with hlt | hge
      · exact absurd (t.ext.own b hlt ho) ownG
      · exact .inr ⟨hge, hb⟩
  | panicked chain => obtain ⟨x', S1, G1, u', hc, ⟨x, u, e, _⟩, _⟩ := hp; cases e
  | outgrown => exact hp.elim

/-- A CALL THAT ONLY READS what may lie in the store. -/
theorem AC_read (hgt : GtSta gt) {f : FuncId} {us xs : List AV} {Φ : AV → Prop} {S : St} (hxs : Rdos S us xs) (hfl : ∀ u, Φ u → Flat u)
    (h : AC P gt f us St.init fun r S1 => ∃ x u, r = .ret x ∧ Rdo S1 u x ∧ Φ u) :
    AC P gt f xs S fun r S' => ∃ u, r = .ret u ∧ Φ u ∧ S' = S := by
  refine ⟨h.1, fun G w args hI hx => ?_⟩
  have hI0 : Inv P gt St.init (Gst fun b => b < w.heap.size) w := invG (fun b hb => hb) fun g cs hg => by
    obtain ⟨h1, c, ty, fr, h2, h3⟩ := hI.glob g cs hg
    exact ⟨hI.stLt g h1, c, ty, fr, h2, Stas.rl (G1 := G) (fun b hb _ => hb) cs _ (hgt g cs hg) h3⟩
  have hx0 : Rl St.init (Gst fun b => b < w.heap.size) w us args := Rdos.rl hI (fun b hb => hI.stLt b hb) (fun b hb _ => hb) us xs args hxs hx
  refine Calls.mono (h.2 _ w args hI0 hx0) fun e w1 hp => ?_
  cases e with
  | returned v =>
    obtain ⟨x', S1, G1, ⟨x, u, e, hr, hφ⟩, t, rv⟩ := hp
    cases e
    have g := gr_of_tr t
    refine ⟨u, S, G, ⟨u, rfl, hφ, rfl⟩, Tr.gr hI g, ?_⟩
    exact Flat.rv (S1 := S) (G1 := { G1 with st := fun _ => True }) (hfl u hφ) (Rdo.rv t.inv (fun b hb => trivial) (fun b hb ho => trivial) u _ v hr rv)
  | panicked chain => obtain ⟨x', S1, G1, u', hc, ⟨x, u, e, _⟩, _⟩ := hp; cases e
  | outgrown => exact hp.elim
end

/-- a function of pure data: what it returns, whatever the store -/
def PF (C : CallT) (f : FuncId) (us : List AV) (u : AV) : Prop := ∀ S, C f us S fun r S' => r = .ret u ∧ S' = S

theorem PF.of_init {P : Program} {gt : GT} (hgt : GtSta gt) {f : FuncId} {us : List AV} {u : AV} (hus : Stas us) (h : AC P gt f us St.init fun r S1 => ∃ x, r = .ret x ∧ Rdo S1 u x) : PF (AC P gt) f us u := fun S => by
  refine AC_mono _ _ _ _ _ (AC_pure (Φ := fun u' => u' = u) hgt hus (AC_mono _ _ _ _ _ h ?_) S) ?_
  · rintro r S1 ⟨x, rfl, hx⟩; exact ⟨x, u, rfl, hx, rfl⟩
  · rintro r S1 ⟨_, rfl, rfl, rfl⟩; exact ⟨rfl, rfl⟩

section
variable {gt : GT} {C : CallT}

theorem call_pf (hm : MonoC C) {i : DI} {env : Env} {S : St} {K : Env → St → Prop} {Q : Ex → Env → St → Prop} {f : FuncId} {xs : List AV} {u : AV} (h : stepI gt i env S = .call f xs) (hp : PF C f xs u) (k : K (putV i.dst u env) S) : afterS C i.dst env S K Q (stepI gt i env S) := by
  refine call_rule h (hm _ _ _ _ _ (hp S) ?_)
  rintro r S' ⟨rfl, rfl⟩
  exact k

theorem call_pfD (hm : MonoC C) {i : DI × Option Nat} {env : Env} {S : St} {K : Env → St → Prop} {Q : Ex → Env → St → Prop} {f : FuncId} {xs : List AV} {u : AV} (h : stepD gt i env S = .call f xs) (hp : PF C f xs u) (k : K (putV i.1.dst u env) S) : afterS C i.1.dst env S K Q (stepD gt i env S) := by
  refine call_ruleD h (hm _ _ _ _ _ (hp S) ?_)
  rintro r S' ⟨rfl, rfl⟩
  exact k
end
end Go.Dn

namespace Go.Dn
open Go Go.RowKit

inductive Rs where
  | gr (ty : TypeId) (o : SI) (xs : List AV)
  | mp (id : Nat) (es : List (AV × AV))
  | bx (id : Nat) (ty : TypeId) (cs : List AV)
  | mk (t l b : Nat)

def RsOK (S : St) : Rs → Prop
  | .gr ty o xs => (o.tok = none ∧ o.off = 0 ∧ o.cap = some 0 ∧ xs = []) ∨ ∃ t l, o = ⟨some (t, l), 0, none, false⟩ ∧ t < S.nt ∧ l < S.nt ∧ lk S.tip t = some (some (xs.length, ty, false)) ∧ lk S.mv t = none ∧ lk S.dl l = none
  | .mp id es => id < S.nm ∧ lk S.maps id = some es
  | .bx id ty cs => id < S.nb ∧ lk S.boxes id = some (some (ty, cs))
  | .mk t l b => t < S.nt ∧ l < S.nt ∧ lk S.mv t = some (.bx b 0)

def RsDj : Rs → Rs → Prop
  | .gr _ o _, .gr _ o' _ => ∀ t l t' l', o.tok = some (t, l) → o'.tok = some (t', l') → t ≠ t' ∧ l ≠ l'
  | .mp i _, .mp j _ => i ≠ j
  | .bx i _ _, .bx j _ _ => i ≠ j
  | _, _ => True

theorem RsDj.symm : ∀ {a b : Rs}, RsDj a b → RsDj b a
  | .gr .., .gr .., h => fun t l t' l' e e' => ⟨fun q => (h t' l' t l e' e).1 q.symm, fun q => (h t' l' t l e' e).2 q.symm⟩
  | .mp .., .mp .., h => fun q => h q.symm
  | .bx .., .bx .., h => fun q => h q.symm
  | .gr .., .mp .., _ | .gr .., .bx .., _ | .gr .., .mk .., _ | .mp .., .gr .., _ | .mp .., .bx .., _ | .mp .., .mk .., _
  | .bx .., .gr .., _ | .bx .., .mp .., _ | .bx .., .mk .., _ | .mk .., .gr .., _ | .mk .., .mp .., _ | .mk .., .bx .., _ | .mk .., .mk .., _ => trivial

/-- the store, by what is held of it -/
structure Hs (S : St) (R : List Rs) : Prop where
  wf : Wf S
  ok : ∀ (i : Nat) (r : Rs), R[i]? = some r → RsOK S r
  dj : ∀ (i j : Nat) (r s : Rs), i ≠ j → R[i]? = some r → R[j]? = some s → RsDj r s

theorem Hs.nil {S : St} (h : Wf S) : Hs S [] := ⟨h, fun i r h => by simp at h, fun i j r s _ h => by simp at h⟩
theorem Hs.init : Hs St.init [] := Hs.nil fun _ _ => ⟨rfl, rfl⟩

/-- what a step leaves: the old names but these -/
structure Chg (S S' : St) (T L M B : Nat → Prop) : Prop where
  nt : S.nt ≤ S'.nt
  nb : S.nb ≤ S'.nb
  nm : S.nm ≤ S'.nm
  tip : ∀ t, t < S.nt → ¬ T t → lk S'.tip t = lk S.tip t ∧ lk S'.mv t = lk S.mv t
  dl : ∀ l, l < S.nt → ¬ L l → lk S'.dl l = lk S.dl l
  mv : ∀ t m, t < S.nt → lk S.mv t = some m → lk S'.mv t = some m
  maps : ∀ i, i < S.nm → ¬ M i → lk S'.maps i = lk S.maps i
  boxes : ∀ i, i < S.nb → ¬ B i → lk S'.boxes i = lk S.boxes i

def Rs.off (T L M B : Nat → Prop) : Rs → Prop
  | .gr _ o _ => ∀ t l, o.tok = some (t, l) → ¬ T t ∧ ¬ L l
  | .mp id _ => ¬ M id
  | .bx id _ _ => ¬ B id
  | .mk _ _ _ => True

theorem RsOK.chg {S S' : St} {T L M B : Nat → Prop} (hc : Chg S S' T L M B) : ∀ {r : Rs}, RsOK S r → r.off T L M B → RsOK S' r
  | .gr ty o xs, h, ho => by
    rcases h with h | ⟨t, l, rfl, h1, h2, h3, h4, h5⟩
    · exact .inl h
    · obtain ⟨g1, g2⟩ := ho t l rfl
      obtain ⟨e1, e2⟩ := hc.tip t h1 g1
      exact .inr ⟨t, l, rfl, Nat.lt_of_lt_of_le h1 hc.nt, Nat.lt_of_lt_of_le h2 hc.nt, by rw [e1]; exact h3, by rw [e2]; exact h4, by rw [hc.dl l h2 g2]; exact h5⟩
  | .mp id es, h, ho => ⟨Nat.lt_of_lt_of_le h.1 hc.nm, by rw [hc.maps id h.1 ho]; exact h.2⟩
  | .bx id ty cs, h, ho => ⟨Nat.lt_of_lt_of_le h.1 hc.nb, by rw [hc.boxes id h.1 ho]; exact h.2⟩
  | .mk t l b, h, _ => ⟨Nat.lt_of_lt_of_le h.1 hc.nt, Nat.lt_of_lt_of_le h.2.1 hc.nt, hc.mv t _ h.1 h.2.2⟩

theorem set_get {α : Type} {R : List α} {i j : Nat} {x y : α} (h : (R.set i x)[j]? = some y) : (j = i ∧ y = x) ∨ (j ≠ i ∧ R[j]? = some y) := by
  by_cases e : i = j
  · subst e
    rw [List.getElem?_set_self'] at h
    cases hr : R[i]? with
    | none => rw [hr] at h; cases h
    | some z => rw [hr] at h; cases h; exact .inl ⟨rfl, rfl⟩
  · rw [List.getElem?_set_ne e] at h; exact .inr ⟨fun q => e q.symm, h⟩

/-- one of what is held is turned -/
theorem Hs.turn {S S' : St} {R : List Rs} {T L M B : Nat → Prop} (h : Hs S R) (hw : Wf S') (hc : Chg S S' T L M B) {i : Nat} {r' : Rs}
    (hoff : ∀ (j : Nat) (s : Rs), j ≠ i → R[j]? = some s → s.off T L M B) (hr : RsOK S' r') (hd : ∀ (j : Nat) (s : Rs), j ≠ i → R[j]? = some s → RsDj r' s) : Hs S' (R.set i r') where
  wf := hw
  ok j s hs := by
    rcases set_get hs with ⟨_, rfl⟩ | ⟨e, hs⟩
    · exact hr
    · exact (h.ok j s hs).chg hc (hoff j s e hs)
  dj j k r s hjk hj hk := by
    rcases set_get hj with ⟨rfl, rfl⟩ | ⟨e, hj2⟩
    · rcases set_get hk with ⟨e, rfl⟩ | ⟨e, hk2⟩
      · exact absurd e.symm hjk
      · exact hd k s e hk2
    · rcases set_get hk with ⟨e', rfl⟩ | ⟨e', hk2⟩
      · exact (hd j r e hj2).symm
      · exact h.dj j k r s hjk hj2 hk2

/-- one more is held -/
theorem Hs.more {S S' : St} {R : List Rs} (h : Hs S R) (hw : Wf S') (hc : Chg S S' (fun _ => False) (fun _ => False) (fun _ => False) (fun _ => False)) {r' : Rs}
    (hr : RsOK S' r') (hd : ∀ (j : Nat) (s : Rs), R[j]? = some s → RsDj r' s) : Hs S' (R ++ [r']) where
  wf := hw
  ok j s hs := by
    rcases Nat.lt_or_ge j R.length with hj | hj
    · rw [List.getElem?_append_left hj] at hs
      refine (h.ok j s hs).chg hc ?_
      cases s <;> simp [Rs.off]
    · rw [List.getElem?_append_right hj] at hs
      have : j - R.length = 0 := by
        rcases Nat.eq_zero_or_pos (j - R.length) with e | e
        · exact e
        · rw [List.getElem?_eq_none (by simp; omega)] at hs; cases hs
      rw [this] at hs
      cases hs
      exact hr
  dj j k r s hjk hj hk := by
    have key : ∀ {j : Nat} {s : Rs}, (R ++ [r'])[j]? = some s → (R[j]? = some s) ∨ (j = R.length ∧ s = r') := fun {j s} hs => by
      rcases Nat.lt_or_ge j R.length with hj | hj
      · rw [List.getElem?_append_left hj] at hs; exact .inl hs
      · rw [List.getElem?_append_right hj] at hs
        have : j - R.length = 0 := by
          rcases Nat.eq_zero_or_pos (j - R.length) with e | e
          · exact e
          · rw [List.getElem?_eq_none (by simp; omega)] at hs; cases hs
        rw [this] at hs
        cases hs
        exact .inr ⟨by omega, rfl⟩
    rcases key hj with hj2 | ⟨rfl, rfl⟩
    · rcases key hk with hk2 | ⟨rfl, rfl⟩
      · exact h.dj j k r s hjk hj2 hk2
      · exact (hd j r hj2).symm
    · rcases key hk with hk2 | ⟨rfl, rfl⟩
      · exact hd k s hk2
      · exact absurd rfl hjk

/-- fewer are held -/
theorem Hs.less {S : St} {R R' : List Rs} (h : Hs S R) (f : Nat → Nat) (hf : ∀ i j, i < R'.length → j < R'.length → f i = f j → i = j) (he : ∀ i, i < R'.length → R[f i]? = R'[i]?) : Hs S R' where
  wf := h.wf
  ok i r hi := h.ok (f i) r (by rw [he i (List.getElem?_eq_some_iff.1 hi).1]; exact hi)
  dj i j r s hij hi hj := by
    have a := (List.getElem?_eq_some_iff.1 hi).1
    have b := (List.getElem?_eq_some_iff.1 hj).1
    exact h.dj (f i) (f j) r s (fun e => hij (hf i j a b e)) (by rw [he i a]; exact hi) (by rw [he j b]; exact hj)

/-- a slice that grows, empty, not yet made -/
theorem Hs.addNil {S : St} {R : List Rs} (h : Hs S R) (ty : TypeId) (nl : Bool) : Hs S (R ++ [.gr ty ⟨none, 0, some 0, nl⟩ []]) :=
  h.more h.wf ⟨Nat.le_refl _, Nat.le_refl _, Nat.le_refl _, fun _ _ _ => ⟨rfl, rfl⟩, fun _ _ _ => rfl, fun _ _ _ h => h, fun _ _ _ => rfl, fun _ _ _ => rfl⟩ (.inl ⟨rfl, rfl, rfl, rfl⟩) fun j s _ => by
    cases s <;> simp [RsDj]

theorem RsOK.rd {S : St} {ty : TypeId} {o : SI} {xs : List AV} (h : RsOK S (.gr ty o xs)) : rd S o = .here := by
  rcases h with ⟨h, _⟩ | ⟨t, l, rfl, _, _, _, h3, h4⟩
  · exact rd_none h
  · simp only [Dn.rd, h3, h4]

theorem RsOK.els {S : St} {ty : TypeId} {o : SI} {xs : List AV} (h : RsOK S (.gr ty o xs)) (agg : Bool) (es : Nat) : elems S agg es o xs = some xs := by
  simp only [elems, h.rd]

/-- a slice that has grown, read out -/
theorem Hs.rdo {S : St} {R : List Rs} (h : Hs S R) {i : Nat} {ty : TypeId} {o : SI} {xs us : List AV} {es : Nat} (hi : R[i]? = some (.gr ty o xs)) (hx : Rdos S us xs) : Rdo S (.sl es stat us) (.sl es o xs) := by
  simp only [Rdo]
  exact ⟨trivial, o, xs, true, xs, rfl, (h.ok i _ hi).els _ _, hx⟩

theorem wfAdd {S : St} {n : Nat} (h : Wf S) (hn : S.nt ≤ n) : ∀ t, n ≤ t → lk S.mv t = none ∧ lk S.dl t = none := fun t ht => h t (Nat.le_trans hn ht)

/-! ### append -/
theorem hs_app {gt : GT} {d : Option Nat} {env : Env} {S : St} {R : List Rs} {agg : Bool} {ty : TypeId} {es bytes : Nat} {x y : DOpd} {o : SI} {xs ys : List AV} {yv : AV} (h : Hs S R) (i : Nat) (hi : R[i]? = some (.gr ty o xs))
    (hx : opd env x = some (.sl es o xs)) (hy : opd env y = some yv) (hys : srcE S agg es yv = some ys)
    (hb : (xs.length + ys.length) * bytes ≤ 140737488355328) (hb2 : xs.length + ys.length ≤ 140737488355328) (hb3 : bytes ≤ 1048576) (hes : 0 < es) (hok : (ys.flatMap AV.cells).all ok1 = true) :
    ∃ o' S', stepO gt d env S (.app agg ty es bytes x y) = .done (putV d (.sl es o' (xs ++ ys)) env) S' ∧ Hs S' (R.set i (.gr ty o' (xs ++ ys))) := by
  have hg := h.ok i _ hi
  have hel : elems S agg es o xs = some xs := hg.els _ _
  have hset : ∀ z, R[i]? = some z → R.set i z = R := fun z hz => by
    apply List.ext_getElem?
    intro j
    by_cases e : i = j
    · subst e
      rw [List.getElem?_set_self', hz]; rfl
    · rw [List.getElem?_set_ne e]
  cases ys with
  | nil =>
    refine ⟨o, S, ?_, by rw [List.append_nil, hset _ hi]; exact h⟩
    simp only [stepO, hx, hy, appV, hys, hel, List.append_nil]
  | cons y ys =>
    have hguard : (Nat.beq es es && (Nat.ble ((xs.length + (y :: ys).length) * bytes) 140737488355328 && (Nat.ble (xs.length + (y :: ys).length) 140737488355328 && (Nat.ble bytes 1048576 && Nat.blt 0 es)))) = true := by
      rw [Nat.beq_refl, ble_true hb, ble_true hb2, ble_true hb3]
      simp only [Bool.true_and]
      exact Nat.ble_eq_true_of_le hes
    have hw := h.wf S.nt (Nat.le_refl _)
    rcases hg with ⟨h1, h2, h3, rfl⟩ | ⟨t, l, rfl, h1, h2, h5, h3, h4⟩
    · refine ⟨⟨some (S.nt, S.nt), 0, none, false⟩, { S with nt := S.nt + 1, tip := (S.nt, some (([] : List AV).length + (y :: ys).length, ty, false)) :: S.tip }, ?_, ?_⟩
      · have hz : Nat.ble (([] : List AV).length + (y :: ys).length) 0 = false := by
          cases hq : Nat.ble (([] : List AV).length + (y :: ys).length) 0 with
          | false => rfl
          | true => have := Nat.le_of_ble_eq_true hq; simp at this
        simp only [stepO, hx, hy, appV, hys, hel, hguard, cond_true, h3, hz, cond_false]
      · refine h.turn (S' := { S with nt := S.nt + 1, tip := (S.nt, some (([] : List AV).length + (y :: ys).length, ty, false)) :: S.tip }) (r' := .gr ty ⟨some (S.nt, S.nt), 0, none, false⟩ ([] ++ y :: ys)) (T := fun _ => False) (L := fun _ => False) (M := fun _ => False) (B := fun _ => False) (fun t ht => h.wf t (by simp at ht; omega)) ⟨Nat.le_succ _, Nat.le_refl _, Nat.le_refl _, fun t ht _ => ⟨lk_ne _ _ (by omega), rfl⟩, fun _ _ _ => rfl, fun _ _ _ h => h, fun _ _ _ => rfl, fun _ _ _ => rfl⟩ (fun j s _ _ => by cases s <;> simp [Rs.off]) ?_ fun j s _ hs => ?_
        · exact .inr ⟨S.nt, S.nt, rfl, Nat.lt_succ_self _, Nat.lt_succ_self _, by simp [lk_same], hw.1, hw.2⟩
        · have hsk := h.ok j s hs
          cases s with
          | gr ty2 o2 zs =>
            intro t l t2 l2 e e2
            cases e
            rcases hsk with ⟨e3, _⟩ | ⟨t3, l3, rfl, b1, b2, _⟩
            · rw [e3] at e2; cases e2
            · cases e2; exact ⟨by omega, by omega⟩
          | _ => trivial
    · refine ⟨⟨some (S.nt, l), 0, none, false⟩, { S with nt := S.nt + 1, tip := (S.nt, some (xs.length + (y :: ys).length, ty, false)) :: (t, none) :: S.tip }, ?_, ?_⟩
      · have hrd : rd S ⟨some (t, l), 0, none, false⟩ = .here := by simp only [rd, h3, h4]
        have hg2 : (Nat.beq ty ty && (Nat.beq xs.length xs.length && (Nat.beq 0 0 && (Nat.ble l S.nt && ((y :: ys).flatMap AV.cells).all ok1)))) = true := by
          rw [Nat.beq_refl, Nat.beq_refl, Nat.beq_refl, ble_true (by omega), hok]; rfl
        simp only [stepO, hx, hy, appV, hys, hel, hguard, cond_true, hrd, h5, hg2]
      · refine h.turn (S' := { S with nt := S.nt + 1, tip := (S.nt, some (xs.length + (y :: ys).length, ty, false)) :: (t, none) :: S.tip }) (r' := .gr ty ⟨some (S.nt, l), 0, none, false⟩ (xs ++ y :: ys)) (T := fun q => q = t) (L := fun _ => False) (M := fun _ => False) (B := fun _ => False) (fun t ht => h.wf t (by simp at ht; omega)) ⟨Nat.le_succ _, Nat.le_refl _, Nat.le_refl _, fun q hq hne => ⟨by rw [lk_ne _ _ (by omega), lk_ne _ _ (fun e => hne e.symm)], rfl⟩, fun _ _ _ => rfl, fun _ _ _ h => h, fun _ _ _ => rfl, fun _ _ _ => rfl⟩ (fun j s hj hs => ?_) ?_ fun j s hj hs => ?_
        · have hdj := h.dj i j _ s (fun e => hj e.symm) hi hs
          cases s with
          | gr ty2 o2 zs => intro t2 l2 e2; exact ⟨fun e => (hdj t l t2 l2 rfl e2).1 e.symm, fun e => e⟩
          | _ => simp [Rs.off]
        · exact .inr ⟨S.nt, l, rfl, Nat.lt_succ_self _, Nat.lt_succ_of_lt h2, by simp [lk_same], hw.1, h4⟩
        · have hsk := h.ok j s hs
          have hdj := h.dj i j _ s (fun e => hj e.symm) hi hs
          cases s with
          | gr ty2 o2 zs =>
            intro t' l' t2 l2 e e2
            cases e
            rcases hsk with ⟨e3, _⟩ | ⟨t3, l3, rfl, b1, b2, _⟩
            · rw [e3] at e2; cases e2
            · cases e2; exact ⟨by omega, (hdj _ _ _ _ rfl rfl).2⟩
          | _ => trivial

/-! ### maps -/
theorem hs_mkm {gt : GT} {d : Option Nat} {env : Env} {S : St} {R : List Rs} (h : Hs S R) :
    ∃ id S', stepO gt d env S .mkm = .done (putV d (.map id) env) S' ∧ Hs S' (R ++ [.mp id []]) := by
  refine ⟨S.nm, { S with nm := S.nm + 1, maps := (S.nm, []) :: S.maps }, rfl, h.more (S' := { S with nm := S.nm + 1, maps := (S.nm, []) :: S.maps }) (r' := .mp S.nm []) (fun t ht => h.wf t ht) ⟨Nat.le_refl _, Nat.le_refl _, Nat.le_succ _, fun _ _ _ => ⟨rfl, rfl⟩, fun _ _ _ => rfl, fun _ _ _ h => h, fun i hi _ => lk_ne _ _ (by omega), fun _ _ _ => rfl⟩ ⟨Nat.lt_succ_self _, lk_same _ _ _⟩ fun j s hs => ?_⟩
  have := h.ok j s hs
  cases s with
  | mp i es => intro e; have := this.1; omega
  | _ => trivial

theorem Hs.mapTo {S : St} {R : List Rs} (h : Hs S R) {i : Nat} {id : Nat} {es : List (AV × AV)} (hi : R[i]? = some (.mp id es)) (es' : List (AV × AV)) : Hs { S with maps := (id, es') :: S.maps } (R.set i (.mp id es')) := by
  have hk := h.ok i _ hi
  refine h.turn (S' := { S with maps := (id, es') :: S.maps }) (r' := .mp id es') (T := fun _ => False) (L := fun _ => False) (M := fun q => q = id) (B := fun _ => False) (fun t ht => h.wf t ht) ⟨Nat.le_refl _, Nat.le_refl _, Nat.le_refl _, fun _ _ _ => ⟨rfl, rfl⟩, fun _ _ _ => rfl, fun _ _ _ h => h, fun j hj hne => lk_ne _ _ (fun e => hne e.symm), fun _ _ _ => rfl⟩ (fun j s hj hs => ?_) ⟨hk.1, lk_same _ _ _⟩ fun j s hj hs => ?_
  · have hdj := h.dj i j _ s (fun e => hj e.symm) hi hs
    cases s with
    | mp k es2 => exact fun e => hdj e.symm
    | _ => simp [Rs.off]
  · have hdj := h.dj i j _ s (fun e => hj e.symm) hi hs
    cases s with
    | mp k es2 => exact hdj
    | _ => trivial

/-! ### heap variables -/
theorem Hs.boxTo {S : St} {R : List Rs} (h : Hs S R) {i : Nat} {id : Nat} {ty : TypeId} {cs : List AV} (hi : R[i]? = some (.bx id ty cs)) (cs' : List AV) : Hs { S with boxes := (id, some (ty, cs')) :: S.boxes } (R.set i (.bx id ty cs')) := by
  have hk := h.ok i _ hi
  refine h.turn (S' := { S with boxes := (id, some (ty, cs')) :: S.boxes }) (r' := .bx id ty cs') (T := fun _ => False) (L := fun _ => False) (M := fun _ => False) (B := fun q => q = id) (fun t ht => h.wf t ht) ⟨Nat.le_refl _, Nat.le_refl _, Nat.le_refl _, fun _ _ _ => ⟨rfl, rfl⟩, fun _ _ _ => rfl, fun _ _ _ h => h, fun _ _ _ => rfl, fun j hj hne => lk_ne _ _ (fun e => hne e.symm)⟩ (fun j s hj hs => ?_) ⟨hk.1, lk_same _ _ _⟩ fun j s hj hs => ?_
  · have hdj := h.dj i j _ s (fun e => hj e.symm) hi hs
    cases s with
    | bx k ty2 es2 => exact fun e => hdj e.symm
    | _ => simp [Rs.off]
  · have hdj := h.dj i j _ s (fun e => hj e.symm) hi hs
    cases s with
    | bx k ty2 es2 => exact hdj
    | _ => trivial

theorem Hs.newBox {S : St} {R : List Rs} (h : Hs S R) (ty : TypeId) (cs : List AV) : Hs { S with nb := S.nb + 1, boxes := (S.nb, some (ty, cs)) :: S.boxes } (R ++ [.bx S.nb ty cs]) :=
  h.more (S' := { S with nb := S.nb + 1, boxes := (S.nb, some (ty, cs)) :: S.boxes }) (r' := .bx S.nb ty cs) (fun t ht => h.wf t ht) ⟨Nat.le_refl _, Nat.le_succ _, Nat.le_refl _, fun _ _ _ => ⟨rfl, rfl⟩, fun _ _ _ => rfl, fun _ _ _ h => h, fun _ _ _ => rfl, fun i hi _ => lk_ne _ _ (by omega)⟩ ⟨Nat.lt_succ_self _, lk_same _ _ _⟩ fun j s hs => by
    have := h.ok j s hs
    cases s with
    | bx i ty2 es => intro e; have := this.1; omega
    | _ => trivial

/-! ### rules -/
section
variable {gt : GT} {C : CallT}

/-- the forms in which a row of code stands: in a region, guarded, in a region that draws its order -/
inductive Row where
  | i (op : DOp) (gd : Option (Nat × Bool))
  | d (op : DOp) (gd : Option (Nat × Bool)) (l : Option Nat)

theorem st_any {d : Option Nat} {op : DOp} {gd : Option (Nat × Bool)} {env env' : Env} {S S' : St} {K : Env → St → Prop} {Q : Ex → Env → St → Prop} (hg : Gd env gd) (h : stepO gt d env S op = .done env' S') (k : K env' S') : afterS C d env S K Q (stepI gt ⟨d, op, gd⟩ env S) := by
  rw [st_gd hg, h]; exact k

theorem st_anyD {d : Option Nat} {op : DOp} {gd : Option (Nat × Bool)} {l : Option Nat} {env env' : Env} {S S' : St} {K : Env → St → Prop} {Q : Ex → Env → St → Prop} (hg : Gd env gd) (h0 : isLoc op = false) (h1 : conform l env op = true) (h : stepO gt d env S op = .done env' S') (k : K env' S') : afterS C d env S K Q (stepD gt (⟨d, op, gd⟩, l) env S) := by
  have : stepD gt (⟨d, op, gd⟩, l) env S = stepO gt d env S op := by
    cases gd with
    | none => simp only [stepD, stepDO, h0, h1, cond_false, cond_true]
    | some p =>
      obtain ⟨g, w⟩ := p
      have hg : lk env g = some (.val (.bool w)) := hg
      simp only [stepD, stepDO, h0, h1, cond_false, cond_true, hg, beq_self_eq_true]
  rw [this, h]; exact k

theorem r_app {d : Option Nat} {env : Env} {S : St} {R : List Rs} {agg : Bool} {ty : TypeId} {es bytes : Nat} {x y : DOpd} {o : SI} {xs ys : List AV} {yv : AV} {gd : Option (Nat × Bool)} {K : Env → St → Prop} {Q : Ex → Env → St → Prop} (h : Hs S R) (i : Nat) (hi : R[i]? = some (.gr ty o xs))
    (hg : Gd env gd) (hx : opd env x = some (.sl es o xs)) (hy : opd env y = some yv) (hys : srcE S agg es yv = some ys)
    (hb : (xs.length + ys.length) * bytes ≤ 140737488355328) (hb2 : xs.length + ys.length ≤ 140737488355328) (hb3 : bytes ≤ 1048576) (hes : 0 < es) (hok : (ys.flatMap AV.cells).all ok1 = true)
    (k : ∀ o' S', Hs S' (R.set i (.gr ty o' (xs ++ ys))) → K (putV d (.sl es o' (xs ++ ys)) env) S') : afterS C d env S K Q (stepI gt ⟨d, .app agg ty es bytes x y, gd⟩ env S) := by
  obtain ⟨o', S', e, h'⟩ := hs_app (gt := gt) (d := d) h i hi hx hy hys hb hb2 hb3 hes hok
  exact st_any hg e (k o' S' h')

theorem r_appD {l : Option Nat} {d : Option Nat} {env : Env} {S : St} {R : List Rs} {agg : Bool} {ty : TypeId} {es bytes : Nat} {x y : DOpd} {o : SI} {xs ys : List AV} {yv : AV} {gd : Option (Nat × Bool)} {K : Env → St → Prop} {Q : Ex → Env → St → Prop} (h : Hs S R) (i : Nat) (hi : R[i]? = some (.gr ty o xs))
    (hg : Gd env gd) (hx : opd env x = some (.sl es o xs)) (hy : opd env y = some yv) (hys : srcE S agg es yv = some ys)
    (hb : (xs.length + ys.length) * bytes ≤ 140737488355328) (hb2 : xs.length + ys.length ≤ 140737488355328) (hb3 : bytes ≤ 1048576) (hes : 0 < es) (hok : (ys.flatMap AV.cells).all ok1 = true)
    (k : ∀ o' S', Hs S' (R.set i (.gr ty o' (xs ++ ys))) → K (putV d (.sl es o' (xs ++ ys)) env) S') : afterS C d env S K Q (stepD gt (⟨d, .app agg ty es bytes x y, gd⟩, l) env S) := by
  obtain ⟨o', S', e, h'⟩ := hs_app (gt := gt) (d := d) h i hi hx hy hys hb hb2 hb3 hes hok
  exact st_anyD hg rfl rfl e (k o' S' h')
end
end Go.Dn
namespace Go.Dn
def isVB : Ent → Bool
  | .val _ | .box _ => true
  | _ => false
theorem keep_nil (env : Env) : keepE env [] = [] := rfl
theorem keep_cons {env rest : Env} {k : Nat} {r : List Nat} {e : Ent} (h : lk env k = some e) (hv : isVB e = true) (hr : keepE env r = rest) : keepE env (k :: r) = (k, e) :: rest := by
  subst hr
  cases e <;> first | (simp only [keepE, h]; done) | cases hv
end Go.Dn
namespace Go.Dn
theorem keep_intro {env l e0 : Env} {ks : List Nat} {G : Prop} (h : keepE env ks = l) (k : l = e0 → G) : keepE env ks = e0 → G := fun h' => k (h.symm.trans h')
end Go.Dn
namespace Go.Dn
theorem sI {gt : GT} {C : CallT} {i : DI} {env env' : Env} {S S' : St} {K : Env → St → Prop} {Q : Ex → Env → St → Prop} (h : stepI gt i env S = .done env' S') (k : K env' S') : afterS C i.dst env S K Q (stepI gt i env S) := step_rule h k
theorem sD {gt : GT} {C : CallT} {i : DI × Option Nat} {env env' : Env} {S S' : St} {A B : Env → St → Prop} {Q : Ex → Env → St → Prop} (h : stepD gt i env S = .done env' S') (a : A env' S') (k : B env' S') : afterS C i.1.dst env S (fun e s => A e s ∧ B e s) Q (stepD gt i env S) := step_ruleD h ⟨a, k⟩
theorem kI {env l e0 : Env} {ks : List Nat} {G : Prop} (h : keepE env ks = l) (k : l = e0 → G) : keepE env ks = e0 → G := keep_intro h k
theorem kN (env : Env) : keepE env [] = [] := rfl
theorem kC {env rest : Env} {k : Nat} {r : List Nat} {e : Ent} (h : lk env k = some e) (hv : isVB e = true) (hr : keepE env r = rest) : keepE env (k :: r) = (k, e) :: rest := keep_cons h hv hr
end Go.Dn

namespace Go.Dn
open Go Go.Proofs.C1
set_option maxRecDepth 100000
attribute [local irreducible] afterS keepE

mutual
def encT : PT → AV
  | .mk k s keys kids => .agg [.int .i64 k, .str s, .sl 1 stat (strs keys), .sl 4 stat (encTs kids)]
def encTs : List PT → List AV
  | [] => []
  | t :: r => encT t :: encTs r
end

theorem encTs_len : ∀ l : List PT, (encTs l).length = l.length
  | [] => rfl
  | t :: r => by simp [encTs, encTs_len r]
theorem encTs_get : ∀ {l : List PT} {i : Nat} (h : i < l.length), (encTs l)[i]? = some (encT l[i])
  | t :: r, 0, _ => rfl
  | t :: r, i + 1, h => by simpa [encTs] using encTs_get (l := r) (i := i) (by simpa using h)
theorem encTs_app : ∀ a b : List PT, encTs (a ++ b) = encTs a ++ encTs b
  | [], b => rfl
  | t :: r, b => by simp [encTs, encTs_app r b]
theorem sta_strs : ∀ l : List (List UInt8), Stas (strs l)
  | [] => trivial
  | a :: r => ⟨trivial, sta_strs r⟩
mutual
theorem sta_T : ∀ t, Sta (encT t)
  | .mk k s keys kids => by
    simp only [encT, Sta, Stas]
    exact ⟨trivial, trivial, ⟨trivial, sta_strs keys⟩, ⟨trivial, sta_Ts kids⟩, trivial⟩
theorem sta_Ts : ∀ l, Stas (encTs l)
  | [] => trivial
  | t :: r => by simp only [encTs, Stas]; exact ⟨sta_T t, sta_Ts r⟩
end
theorem encT_agg (t : PT) : ∃ k s a b, encT t = .agg [.int .i64 k, .str s, .sl 1 stat a, .sl 4 stat b] := by
  cases t; exact ⟨_, _, _, _, rfl⟩

theorem rdT (t : PT) : (cut (encT t).cells 0 4).bind (mkv true) = some (encT t) := by cases t; rfl

abbrev Ret (u : AV) : Res → St → Prop := fun r S1 => ∃ x, r = .ret x ∧ Rdo S1 u x
theorem Ret.sta {u : AV} {S : St} (h : Sta u) : Ret u (.ret u) S := ⟨u, rfl, h.rdo _⟩

mutual
def size3 : PT → Int → Int
  | .mk _ _ _ kids, m => szs kids m 1
def szs : List PT → Int → Int → Int
  | [], _, n => n
  | t :: r, m, n => if n < m then szs r m (n + size3 t (m - n)) else n
end

mutual
theorem size3_pos : ∀ (t : PT) (m : Int), 1 ≤ size3 t m
  | .mk _ _ _ kids, m => by simp only [size3]; exact szs_ge kids m 1
theorem szs_ge : ∀ (l : List PT) (m n : Int), n ≤ szs l m n
  | [], m, n => by simp [szs]
  | t :: r, m, n => by
    simp only [szs]
    split
    · have h1 := szs_ge r m (n + size3 t (m - n))
      have h2 := size3_pos t (m - n)
      omega
    · omega
end

mutual
theorem size3_le : ∀ (t : PT) (m : Int), size3 t m ≤ max 1 m
  | .mk _ _ _ kids, m => by simp only [size3]; have := szs_le kids m 1; omega
theorem szs_le : ∀ (l : List PT) (m n : Int), szs l m n ≤ max n m
  | [], m, n => by simp [szs]; omega
  | t :: r, m, n => by
    simp only [szs]
    split
    · have h1 := szs_le r m (n + size3 t (m - n))
      have h2 := size3_le t (m - n)
      omega
    · omega
end

/-- below the limit it is the number of nodes -/
theorem size3_n : ∀ (t : PT) (m : Int), size3 t m < m → size3 t m = t.n
  | .mk _ _ _ kids, m, h => by
    simp only [size3, PT.n] at h ⊢
    have := szs_n kids m 1 h
    omega
where szs_n : ∀ (l : List PT) (m n : Int), szs l m n < m → szs l m n = n + PT.ns l
  | [], m, n, _ => by simp [szs, PT.ns]
  | t :: r, m, n, h => by
    simp only [szs] at h ⊢
    have hlt : n < m := by
      rcases Int.lt_or_le n m with h' | h'
      · exact h'
      · rw [if_neg (by omega)] at h; omega
    rw [if_pos hlt] at h ⊢
    have h1 := szs_n r m _ h
    have h2 := szs_ge r m (n + size3 t (m - n))
    have h3 := size3_n t (m - n) (by omega)
    simp only [PT.ns]
    omega

theorem kid_lt {k s keys} {kids : List PT} {i : Nat} (h : i < kids.length) : kids[i].n < (PT.mk k s keys kids).n := by
  have := PT.ns_mem (List.getElem_mem h); simp only [PT.n]; omega

section
variable {gt : GT} {C : CallT}

abbrev E_size (m : Int) (t : PT) (n i : Int) : Env := [(1, .val (.int .i64 m)), (2, .box (encT t).cells), (5, .val (.int .i64 n)), (6, .val (.int .i64 i))]

set_option maxHeartbeats 2000000 in
theorem size3_wp (hm : MonoC C) {t : PT} (ih : ∀ u, u.n < t.n → ∀ m, m < 4611686018427387904 → PF C 43 [encT u, .int .i64 m] (.int .i64 (size3 u m)))
    {m : Int} (hb : m < 4611686018427387904) : wpF gt C F43 [encT t, .int .i64 m] St.init (Ret (.int .i64 (size3 t m))) := by
  obtain ⟨k, s, keys, kids⟩ := t
  refine ⟨rfl, ?_⟩
  (try refine And.intro (by rfl) ?_); (conv => whnf); repeat (first | (refine sI (by rfl) ?_; conv => whnf) | (refine sD (by rfl) (by rfl) ?_; conv => whnf) | (generalize hE : keepE _ _ = e0; revert hE; apply kI; (repeat (first | exact kN _ | (apply kC; with_unfolding_all rfl; rfl))); rintro rfl; (conv => whnf); conv => whnf))
  have hlen := encTs_len kids
  refine loop_rule hm (α := Nat × Int) (fun a env S' => a.1 ≤ kids.length ∧ (a.1 : Int) < a.2 ∧ a.2 ≤ max 1 m ∧ env = E_size m (.mk k s keys kids) a.2 a.1 ∧ S' = St.init ∧ szs kids m 1 = szs (kids.drop a.1) m a.2) (fun a => kids.length - a.1) ?_ (a := (0, 1)) ⟨Nat.zero_le _, by simp, by simp; omega, rfl, rfl, rfl⟩
  rintro ⟨i, n⟩ env S' ⟨hi, hn1, hn2, rfl, rfl, hp⟩
  (try refine And.intro (by rfl) ?_); (conv => whnf); repeat (first | (refine sI (by rfl) ?_; conv => whnf) | (refine sD (by rfl) (by rfl) ?_; conv => whnf) | (generalize hE : keepE _ _ = e0; revert hE; apply kI; (repeat (first | exact kN _ | (apply kC; with_unfolding_all rfl; rfl))); rintro rfl; (conv => whnf); conv => whnf))
  simp only at hi hn1 hn2 hp
  by_cases h : (i : Int) < (encTs kids).length
  · rw [decide_eq_true h]
    (try refine And.intro (by rfl) ?_); (conv => whnf); repeat (first | (refine sI (by rfl) ?_; conv => whnf) | (refine sD (by rfl) (by rfl) ?_; conv => whnf) | (generalize hE : keepE _ _ = e0; revert hE; apply kI; (repeat (first | exact kN _ | (apply kC; with_unfolding_all rfl; rfl))); rintro rfl; (conv => whnf); conv => whnf))
    have hik : i < kids.length := by omega
    by_cases hnm : n < m
    · rw [decide_eq_true hnm]
      (try refine And.intro (by rfl) ?_); (conv => whnf); repeat (first | (refine sI (by rfl) ?_; conv => whnf) | (refine sD (by rfl) (by rfl) ?_; conv => whnf) | (generalize hE : keepE _ _ = e0; revert hE; apply kI; (repeat (first | exact kN _ | (apply kC; with_unfolding_all rfl; rfl))); rintro rfl; (conv => whnf); conv => whnf))
      refine step_ruleO (sx_ia (k := i) rfl rfl (by omega)) ?_
      (try refine And.intro (by rfl) ?_); (conv => whnf); repeat (first | (refine sI (by rfl) ?_; conv => whnf) | (refine sD (by rfl) (by rfl) ?_; conv => whnf) | (generalize hE : keepE _ _ = e0; revert hE; apply kI; (repeat (first | exact kN _ | (apply kC; with_unfolding_all rfl; rfl))); rintro rfl; (conv => whnf); conv => whnf))
      refine step_ruleO (sx_ldEl (agg := true) rfl rfl (encTs_get hik) (rdT _)) ?_
      (try refine And.intro (by rfl) ?_); (conv => whnf); repeat (first | (refine sI (by rfl) ?_; conv => whnf) | (refine sD (by rfl) (by rfl) ?_; conv => whnf) | (generalize hE : keepE _ _ = e0; revert hE; apply kI; (repeat (first | exact kN _ | (apply kC; with_unfolding_all rfl; rfl))); rintro rfl; (conv => whnf); conv => whnf))
      rw [wr64 (by omega) (by omega)]
      refine call_pf hm (by rfl) (ih _ (kid_lt hik) (m - n) (by omega)) ?_
      (try refine And.intro (by rfl) ?_); (conv => whnf); repeat (first | (refine sI (by rfl) ?_; conv => whnf) | (refine sD (by rfl) (by rfl) ?_; conv => whnf) | (generalize hE : keepE _ _ = e0; revert hE; apply kI; (repeat (first | exact kN _ | (apply kC; with_unfolding_all rfl; rfl))); rintro rfl; (conv => whnf); conv => whnf))
      have g1 := size3_pos kids[i] (m - n)
      have g2 := size3_le kids[i] (m - n)
      refine ⟨(i + 1, n + size3 kids[i] (m - n)), ⟨by simp only; omega, by simp only; omega, by simp only; omega, ?_, rfl, ?_⟩, by simp only; omega⟩
      · rw [wrNat (by omega), wr64 (by omega) (by omega)]; try rfl
      · rw [hp, List.drop_eq_getElem_cons hik]
        simp only [szs]
        rw [if_pos hnm]
    · rw [decide_eq_false hnm]
      (try refine And.intro (by rfl) ?_); (conv => whnf); repeat (first | (refine sI (by rfl) ?_; conv => whnf) | (refine sD (by rfl) (by rfl) ?_; conv => whnf) | (generalize hE : keepE _ _ = e0; revert hE; apply kI; (repeat (first | exact kN _ | (apply kC; with_unfolding_all rfl; rfl))); rintro rfl; (conv => whnf); conv => whnf))
      refine ⟨_, rfl, ?_⟩
      rw [size3, hp, List.drop_eq_getElem_cons hik]
      simp only [szs]
      rw [if_neg hnm]
      exact Ret.sta trivial
  · rw [decide_eq_false h]
    (try refine And.intro (by rfl) ?_); (conv => whnf); repeat (first | (refine sI (by rfl) ?_; conv => whnf) | (refine sD (by rfl) (by rfl) ?_; conv => whnf) | (generalize hE : keepE _ _ = e0; revert hE; apply kI; (repeat (first | exact kN _ | (apply kC; with_unfolding_all rfl; rfl))); rintro rfl; (conv => whnf); conv => whnf))
    refine ⟨_, rfl, ?_⟩
    rw [size3, hp, List.drop_eq_nil_of_le (by omega)]
    simp only [szs]
    exact Ret.sta trivial
end
end Go.Dn

namespace Go.Dn
open Go Go.Proofs.C1
set_option maxRecDepth 100000
attribute [local irreducible] afterS keepE

theorem beqB_iff {a b : List UInt8} : beqB a b = true ↔ a = b := by
  induction a generalizing b with
  | nil => cases b <;> simp [beqB]
  | cons x a ih =>
    cases b with
    | nil => simp [beqB]
    | cons y b =>
      simp only [beqB]
      by_cases h : x = y
      · subst h; rw [Nat.beq_refl]; simp [ih]
      · have : Nat.beq x.toNat y.toNat = false := by
          cases hb : Nat.beq x.toNat y.toNat with
          | false => rfl
          | true => exact absurd (UInt8.toNat_inj.1 (Nat.eq_of_beq_eq_true hb)) h
        rw [this]; simp [h]
theorem beqB_true {a b : List UInt8} (h : a = b) : beqB a b = true := beqB_iff.2 h
theorem beqB_false {a b : List UInt8} (h : ¬ a = b) : beqB a b = false := by
  cases hh : beqB a b with
  | false => rfl
  | true => exact absurd (beqB_iff.1 hh) h
theorem neI_true {a b : Int} (h : ¬ a = b) : (a != b) = true := by simp [h]
theorem neI_false {a b : Int} (h : a = b) : (a != b) = false := by simp [h]
theorem eqI_true {a b : Int} (h : a = b) : (a == b) = true := by simp [h]
theorem eqI_false {a b : Int} (h : ¬ a = b) : (a == b) = false := by simp [h]

theorem cells_strs (l : List (List UInt8)) : ((strs l).flatMap AV.cells).all ok1 = true := strs_ok l
theorem encT_ok (t : PT) : ((([encT t] : List AV)).flatMap AV.cells).all ok1 = true := by cases t; rfl

theorem rdos_strs {S : St} (l : List (List UInt8)) : Rdos S (strs l) (strs l) := (sta_strs l).rdos
theorem rdos_Ts {S : St} (l : List PT) : Rdos S (encTs l) (encTs l) := Stas.rdos _ (sta_Ts l)

/-- a tree whose lists have grown -/
theorem rdo_T {S : St} {R : List Rs} (h : Hs S R) {i j : Nat} {ty ty2 : TypeId} {o1 o2 : SI} {k : Int} {s : List UInt8} {keys : List (List UInt8)} {kids : List PT} (hi : R[i]? = some (.gr ty o1 (strs keys))) (hj : R[j]? = some (.gr ty2 o2 (encTs kids))) :
    Rdo S (encT (.mk k s keys kids)) (.agg [.int .i64 k, .str s, .sl 1 o1 (strs keys), .sl 4 o2 (encTs kids)]) := by
  simp only [encT]
  rw [Rdo]
  refine ⟨_, rfl, ?_⟩
  simp only [Rdos]
  exact ⟨_, _, rfl, by simp only [Rdo], _, _, rfl, by simp only [Rdo], _, _, rfl, h.rdo hi (rdos_strs keys), _, _, rfl, h.rdo hj (rdos_Ts kids), rfl⟩

section
variable {gt : GT} {C : CallT}

def zT : List AV := [.int .i64 0, .str [], .sl 1 ⟨none, 0, some 0, true⟩ [], .sl 4 ⟨none, 0, some 0, true⟩ []]
abbrev E_copy3 (t : PT) (k : Int) (s : List UInt8) (keys : List (List UInt8)) (o1 o2 : SI) (kids : List PT) (i : Int) : Env :=
  [(1, .box (encT t).cells), (2, .box zT), (3, .box [.int .i64 k, .str s, .sl 1 o1 (strs keys), .sl 4 o2 (encTs kids)]), (4, .val (.int .i64 i))]

set_option maxHeartbeats 2000000 in
theorem copy3_wp (hm : MonoC C) {t : PT} (ih : ∀ u, u.n < t.n → u.ok → PF C 44 [encT u] (encT u)) (hk : t.ok) : wpF gt C F44 [encT t] St.init (Ret (encT t)) := by
  obtain ⟨k, s, keys, kids⟩ := t
  simp only [PT.ok] at hk
  obtain ⟨hk1, hk2, hk3⟩ := hk
  refine ⟨rfl, ?_⟩
  have hR := (Hs.init.addNil 9 true).addNil 25 true
  (try refine And.intro (by rfl) ?_); (conv => whnf); repeat (first | (refine sI (by rfl) ?_; conv => whnf) | (refine sD (by rfl) (by rfl) ?_; conv => whnf) | (generalize hE : keepE _ _ = e0; revert hE; apply kI; (repeat (first | exact kN _ | (apply kC; with_unfolding_all rfl; rfl))); rintro rfl; (conv => whnf); conv => whnf))
  refine r_app hR 0 rfl trivial rfl rfl rfl (by rw [strs_length]; simpa using hk1) (by rw [strs_length]; simp; omega) (by decide) (by decide) (cells_strs keys) ?_
  intro o1 S1 hR
  (try refine And.intro (by rfl) ?_); (conv => whnf); repeat (first | (refine sI (by rfl) ?_; conv => whnf) | (refine sD (by rfl) (by rfl) ?_; conv => whnf) | (generalize hE : keepE _ _ = e0; revert hE; apply kI; (repeat (first | exact kN _ | (apply kC; with_unfolding_all rfl; rfl))); rintro rfl; (conv => whnf); conv => whnf))
  have hlen := encTs_len kids
  refine loop_rule hm (α := Nat) (fun i env S' => i ≤ kids.length ∧ ∃ o2, Hs S' [.gr 9 o1 (strs keys), .gr 25 o2 (encTs (kids.take i))] ∧ env = E_copy3 (.mk k s keys kids) k s keys o1 o2 (kids.take i) i) (fun i => kids.length - i) ?_ (a := 0) ⟨Nat.zero_le _, _, hR, rfl⟩
  rintro i env S' ⟨hi, o2, hR, rfl⟩
  (try refine And.intro (by rfl) ?_); (conv => whnf); repeat (first | (refine sI (by rfl) ?_; conv => whnf) | (refine sD (by rfl) (by rfl) ?_; conv => whnf) | (generalize hE : keepE _ _ = e0; revert hE; apply kI; (repeat (first | exact kN _ | (apply kC; with_unfolding_all rfl; rfl))); rintro rfl; (conv => whnf); conv => whnf))
  by_cases h : (i : Int) < (encTs kids).length
  · rw [decide_eq_true h]
    (try refine And.intro (by rfl) ?_); (conv => whnf); repeat (first | (refine sI (by rfl) ?_; conv => whnf) | (refine sD (by rfl) (by rfl) ?_; conv => whnf) | (generalize hE : keepE _ _ = e0; revert hE; apply kI; (repeat (first | exact kN _ | (apply kC; with_unfolding_all rfl; rfl))); rintro rfl; (conv => whnf); conv => whnf))
    have hik : i < kids.length := by omega
    refine step_ruleDO rfl rfl (sx_ia (k := i) rfl rfl (by omega)) ?_
    (try refine And.intro (by rfl) ?_); (conv => whnf); repeat (first | (refine sI (by rfl) ?_; conv => whnf) | (refine sD (by rfl) (by rfl) ?_; conv => whnf) | (generalize hE : keepE _ _ = e0; revert hE; apply kI; (repeat (first | exact kN _ | (apply kC; with_unfolding_all rfl; rfl))); rintro rfl; (conv => whnf); conv => whnf))
    refine step_ruleDO rfl rfl (sx_ldEl (agg := true) rfl rfl (encTs_get hik) (rdT _)) ?_
    (try refine And.intro (by rfl) ?_); (conv => whnf); repeat (first | (refine sI (by rfl) ?_; conv => whnf) | (refine sD (by rfl) (by rfl) ?_; conv => whnf) | (generalize hE : keepE _ _ = e0; revert hE; apply kI; (repeat (first | exact kN _ | (apply kC; with_unfolding_all rfl; rfl))); rintro rfl; (conv => whnf); conv => whnf))
    have ihk := ih _ (kid_lt hik) (PT.oks_get hk3 (List.getElem?_eq_getElem hik))
    have hok := encT_ok kids[i]
    have hts : encTs (kids.take (i + 1)) = encTs (kids.take i) ++ [encT kids[i]] := by rw [List.take_succ_eq_append_getElem hik, encTs_app]; rfl
    obtain ⟨ka, sa, xa, ya, he⟩ := encT_agg kids[i]
    rw [he] at ihk hts hok ⊢
    refine call_pfD hm (by rfl) ihk ?_
    (try refine And.intro (by rfl) ?_); (conv => whnf); repeat (first | (refine sI (by rfl) ?_; conv => whnf) | (refine sD (by rfl) (by rfl) ?_; conv => whnf) | (generalize hE : keepE _ _ = e0; revert hE; apply kI; (repeat (first | exact kN _ | (apply kC; with_unfolding_all rfl; rfl))); rintro rfl; (conv => whnf); conv => whnf))
    have hlt : (encTs (kids.take i)).length = i := by rw [encTs_len, List.length_take]; omega
    refine r_appD hR 1 rfl (by trivial) rfl rfl rfl (by rw [hlt]; simp; omega) (by rw [hlt]; simp; omega) (by decide) (by decide) hok ?_
    intro o3 S3 hR
    (try refine And.intro (by rfl) ?_); (conv => whnf); repeat (first | (refine sI (by rfl) ?_; conv => whnf) | (refine sD (by rfl) (by rfl) ?_; conv => whnf) | (generalize hE : keepE _ _ = e0; revert hE; apply kI; (repeat (first | exact kN _ | (apply kC; with_unfolding_all rfl; rfl))); rintro rfl; (conv => whnf); conv => whnf))
    refine ⟨i + 1, ⟨by omega, o3, by rw [hts]; exact hR, ?_⟩, by omega⟩
    rw [wrNat (by omega)]
    simp only [E_copy3, hts]
    try rfl
  · rw [decide_eq_false h]
    (try refine And.intro (by rfl) ?_); (conv => whnf); repeat (first | (refine sI (by rfl) ?_; conv => whnf) | (refine sD (by rfl) (by rfl) ?_; conv => whnf) | (generalize hE : keepE _ _ = e0; revert hE; apply kI; (repeat (first | exact kN _ | (apply kC; with_unfolding_all rfl; rfl))); rintro rfl; (conv => whnf); conv => whnf))
    have : kids.take i = kids := List.take_of_length_le (by omega)
    rw [this] at hR ⊢
    exact ⟨_, rfl, _, rfl, rdo_T hR (i := 0) (j := 1) rfl rfl⟩
end
end Go.Dn

namespace Go.Dn
open Go Go.Proofs.C1
set_option maxRecDepth 100000
attribute [local irreducible] afterS keepE

mutual
def eqT : PT → PT → Bool
  | .mk k s keys kids, .mk k' s' keys' kids' => decide (k = k') && (decide (s = s') && (decide (keys = keys') && eqTs kids kids'))
def eqTs : List PT → List PT → Bool
  | [], [] => true
  | a :: r, b :: q => eqT a b && eqTs r q
  | _, _ => false
end
mutual
theorem eqT_iff : ∀ {a b : PT}, eqT a b = true ↔ a = b
  | .mk k s keys kids, .mk k' s' keys' kids' => by simp [eqT, eqTs_iff (a := kids) (b := kids')]
theorem eqTs_iff : ∀ {a b : List PT}, eqTs a b = true ↔ a = b
  | [], [] => by simp [eqTs]
  | a :: r, b :: q => by simp [eqTs, eqT_iff (a := a) (b := b), eqTs_iff (a := r) (b := q)]
  | [], b :: q => by simp [eqTs]
  | a :: r, [] => by simp [eqTs]
end
theorem eqT_false {a b : PT} (h : ¬ a = b) : eqT a b = false := by
  cases hh : eqT a b with
  | false => rfl
  | true => exact absurd (eqT_iff.1 hh) h
theorem eqT_true {a b : PT} (h : a = b) : eqT a b = true := eqT_iff.2 h

theorem strs_at {l : List (List UInt8)} {i : Nat} (h : i < l.length) : (strs l)[i]? = some (.str l[i]) := strs_get (List.getElem?_eq_getElem h)

section
variable {gt : GT} {C : CallT}

abbrev E_plain (t u : PT) (i : Int) : Env := [(2, .box (encT t).cells), (3, .box (encT u).cells), (5, .val (.int .i64 i))]
abbrev E_plain2 (t u : PT) (i : Int) : Env := [(2, .box (encT t).cells), (3, .box (encT u).cells), (6, .val (.int .i64 i))]

set_option maxHeartbeats 2000000 in
theorem plain_wp (hm : MonoC C) {t t' : PT} (ih : ∀ u, u.n < t.n → ∀ u', u.ok → PF C 21 [encT u, encT u'] (.bool (eqT u u'))) (hk : t.ok) :
    wpF gt C F21 [encT t, encT t'] St.init (Ret (.bool (eqT t t'))) := by
  obtain ⟨k, s, keys, kids⟩ := t
  obtain ⟨k', s', keys', kids'⟩ := t'
  simp only [PT.ok] at hk
  obtain ⟨hk1, hk2, hk3⟩ := hk
  have no : ∀ {S : St}, ¬ PT.mk k s keys kids = .mk k' s' keys' kids' → Ret (.bool (eqT (.mk k s keys kids) (.mk k' s' keys' kids'))) (.ret (.bool false)) S := fun h => by rw [eqT_false h]; exact Ret.sta trivial
  have l1 := strs_length keys
  have l2 := strs_length keys'
  have l3 := encTs_len kids
  have l4 := encTs_len kids'
  refine ⟨rfl, ?_⟩
  (try refine And.intro (by rfl) ?_); (conv => whnf); repeat (first | (refine sI (by rfl) ?_; conv => whnf) | (refine sD (by rfl) (by rfl) ?_; conv => whnf) | (generalize hE : keepE _ _ = e0; revert hE; apply kI; (repeat (first | exact kN _ | (apply kC; with_unfolding_all rfl; rfl))); rintro rfl; (conv => whnf); conv => whnf))
  by_cases z0 : k = k'
  case neg =>
    rw [neI_true z0]
    (try refine And.intro (by rfl) ?_); (conv => whnf); repeat (first | (refine sI (by rfl) ?_; conv => whnf) | (refine sD (by rfl) (by rfl) ?_; conv => whnf) | (generalize hE : keepE _ _ = e0; revert hE; apply kI; (repeat (first | exact kN _ | (apply kC; with_unfolding_all rfl; rfl))); rintro rfl; (conv => whnf); conv => whnf))
    exact ⟨_, rfl, no (by simp [z0])⟩
  rw [neI_false z0]
  (try refine And.intro (by rfl) ?_); (conv => whnf); repeat (first | (refine sI (by rfl) ?_; conv => whnf) | (refine sD (by rfl) (by rfl) ?_; conv => whnf) | (generalize hE : keepE _ _ = e0; revert hE; apply kI; (repeat (first | exact kN _ | (apply kC; with_unfolding_all rfl; rfl))); rintro rfl; (conv => whnf); conv => whnf))
  by_cases z1 : s = s'
  case neg =>
    rw [beqB_false z1]
    (try refine And.intro (by rfl) ?_); (conv => whnf); repeat (first | (refine sI (by rfl) ?_; conv => whnf) | (refine sD (by rfl) (by rfl) ?_; conv => whnf) | (generalize hE : keepE _ _ = e0; revert hE; apply kI; (repeat (first | exact kN _ | (apply kC; with_unfolding_all rfl; rfl))); rintro rfl; (conv => whnf); conv => whnf))
    exact ⟨_, rfl, no (by simp [z1])⟩
  rw [beqB_true z1]
  (try refine And.intro (by rfl) ?_); (conv => whnf); repeat (first | (refine sI (by rfl) ?_; conv => whnf) | (refine sD (by rfl) (by rfl) ?_; conv => whnf) | (generalize hE : keepE _ _ = e0; revert hE; apply kI; (repeat (first | exact kN _ | (apply kC; with_unfolding_all rfl; rfl))); rintro rfl; (conv => whnf); conv => whnf))
  by_cases z2 : ((strs keys).length : Int) = (strs keys').length
  case neg =>
    rw [neI_true z2]
    (try refine And.intro (by rfl) ?_); (conv => whnf); repeat (first | (refine sI (by rfl) ?_; conv => whnf) | (refine sD (by rfl) (by rfl) ?_; conv => whnf) | (generalize hE : keepE _ _ = e0; revert hE; apply kI; (repeat (first | exact kN _ | (apply kC; with_unfolding_all rfl; rfl))); rintro rfl; (conv => whnf); conv => whnf))
    exact ⟨_, rfl, no fun h => by simp only [PT.mk.injEq] at h; rw [h.2.2.1] at z2; exact z2 rfl⟩
  rw [neI_false z2]
  (try refine And.intro (by rfl) ?_); (conv => whnf); repeat (first | (refine sI (by rfl) ?_; conv => whnf) | (refine sD (by rfl) (by rfl) ?_; conv => whnf) | (generalize hE : keepE _ _ = e0; revert hE; apply kI; (repeat (first | exact kN _ | (apply kC; with_unfolding_all rfl; rfl))); rintro rfl; (conv => whnf); conv => whnf))
  by_cases z3 : ((encTs kids).length : Int) = (encTs kids').length
  case neg =>
    rw [neI_true z3]
    (try refine And.intro (by rfl) ?_); (conv => whnf); repeat (first | (refine sI (by rfl) ?_; conv => whnf) | (refine sD (by rfl) (by rfl) ?_; conv => whnf) | (generalize hE : keepE _ _ = e0; revert hE; apply kI; (repeat (first | exact kN _ | (apply kC; with_unfolding_all rfl; rfl))); rintro rfl; (conv => whnf); conv => whnf))
    exact ⟨_, rfl, no fun h => by simp only [PT.mk.injEq] at h; rw [h.2.2.2] at z3; exact z3 rfl⟩
  rw [neI_false z3]
  (try refine And.intro (by rfl) ?_); (conv => whnf); repeat (first | (refine sI (by rfl) ?_; conv => whnf) | (refine sD (by rfl) (by rfl) ?_; conv => whnf) | (generalize hE : keepE _ _ = e0; revert hE; apply kI; (repeat (first | exact kN _ | (apply kC; with_unfolding_all rfl; rfl))); rintro rfl; (conv => whnf); conv => whnf))
  refine loop_rule hm (α := Nat) (fun i env S' => i ≤ keys.length ∧ env = E_plain (.mk k s keys kids) (.mk k' s' keys' kids') i ∧ S' = St.init ∧ keys.take i = keys'.take i) (fun i => keys.length - i) ?_ (a := 0) ⟨Nat.zero_le _, rfl, rfl, rfl⟩
  rintro i env S' ⟨hi, rfl, rfl, hp⟩
  (try refine And.intro (by rfl) ?_); (conv => whnf); repeat (first | (refine sI (by rfl) ?_; conv => whnf) | (refine sD (by rfl) (by rfl) ?_; conv => whnf) | (generalize hE : keepE _ _ = e0; revert hE; apply kI; (repeat (first | exact kN _ | (apply kC; with_unfolding_all rfl; rfl))); rintro rfl; (conv => whnf); conv => whnf))
  by_cases h : (i : Int) < (strs keys).length
  · rw [decide_eq_true h]
    (try refine And.intro (by rfl) ?_); (conv => whnf); repeat (first | (refine sI (by rfl) ?_; conv => whnf) | (refine sD (by rfl) (by rfl) ?_; conv => whnf) | (generalize hE : keepE _ _ = e0; revert hE; apply kI; (repeat (first | exact kN _ | (apply kC; with_unfolding_all rfl; rfl))); rintro rfl; (conv => whnf); conv => whnf))
    have hik : i < keys.length := by omega
    have hik' : i < keys'.length := by omega
    refine step_ruleDO rfl rfl (sx_ia (k := i) rfl rfl (by omega)) ?_
    (try refine And.intro (by rfl) ?_); (conv => whnf); repeat (first | (refine sI (by rfl) ?_; conv => whnf) | (refine sD (by rfl) (by rfl) ?_; conv => whnf) | (generalize hE : keepE _ _ = e0; revert hE; apply kI; (repeat (first | exact kN _ | (apply kC; with_unfolding_all rfl; rfl))); rintro rfl; (conv => whnf); conv => whnf))
    refine step_ruleDO rfl rfl (sx_ldEl (agg := false) rfl rfl (strs_at hik) rfl) ?_
    (try refine And.intro (by rfl) ?_); (conv => whnf); repeat (first | (refine sI (by rfl) ?_; conv => whnf) | (refine sD (by rfl) (by rfl) ?_; conv => whnf) | (generalize hE : keepE _ _ = e0; revert hE; apply kI; (repeat (first | exact kN _ | (apply kC; with_unfolding_all rfl; rfl))); rintro rfl; (conv => whnf); conv => whnf))
    refine step_ruleDO rfl rfl (sx_ia (k := i) rfl rfl (by omega)) ?_
    (try refine And.intro (by rfl) ?_); (conv => whnf); repeat (first | (refine sI (by rfl) ?_; conv => whnf) | (refine sD (by rfl) (by rfl) ?_; conv => whnf) | (generalize hE : keepE _ _ = e0; revert hE; apply kI; (repeat (first | exact kN _ | (apply kC; with_unfolding_all rfl; rfl))); rintro rfl; (conv => whnf); conv => whnf))
    refine step_ruleDO rfl rfl (sx_ldEl (agg := false) rfl rfl (strs_at hik') rfl) ?_
    (try refine And.intro (by rfl) ?_); (conv => whnf); repeat (first | (refine sI (by rfl) ?_; conv => whnf) | (refine sD (by rfl) (by rfl) ?_; conv => whnf) | (generalize hE : keepE _ _ = e0; revert hE; apply kI; (repeat (first | exact kN _ | (apply kC; with_unfolding_all rfl; rfl))); rintro rfl; (conv => whnf); conv => whnf))
    by_cases z : keys[i] = keys'[i]
    · rw [beqB_true z]
      (try refine And.intro (by rfl) ?_); (conv => whnf); repeat (first | (refine sI (by rfl) ?_; conv => whnf) | (refine sD (by rfl) (by rfl) ?_; conv => whnf) | (generalize hE : keepE _ _ = e0; revert hE; apply kI; (repeat (first | exact kN _ | (apply kC; with_unfolding_all rfl; rfl))); rintro rfl; (conv => whnf); conv => whnf))
      refine ⟨i + 1, ⟨by omega, ?_, rfl, ?_⟩, by omega⟩
      · rw [wrNat (by omega)]; try rfl
      · rw [List.take_succ_eq_append_getElem hik, List.take_succ_eq_append_getElem hik', hp, z]
    · rw [beqB_false z]
      (try refine And.intro (by rfl) ?_); (conv => whnf); repeat (first | (refine sI (by rfl) ?_; conv => whnf) | (refine sD (by rfl) (by rfl) ?_; conv => whnf) | (generalize hE : keepE _ _ = e0; revert hE; apply kI; (repeat (first | exact kN _ | (apply kC; with_unfolding_all rfl; rfl))); rintro rfl; (conv => whnf); conv => whnf))
      exact ⟨_, rfl, no fun h => by simp only [PT.mk.injEq] at h; obtain ⟨_, _, rfl, _⟩ := h; exact z rfl⟩
  rw [decide_eq_false h]
  (try refine And.intro (by rfl) ?_); (conv => whnf); repeat (first | (refine sI (by rfl) ?_; conv => whnf) | (refine sD (by rfl) (by rfl) ?_; conv => whnf) | (generalize hE : keepE _ _ = e0; revert hE; apply kI; (repeat (first | exact kN _ | (apply kC; with_unfolding_all rfl; rfl))); rintro rfl; (conv => whnf); conv => whnf))
  have hkeys : keys = keys' := by
    rwa [List.take_of_length_le (by omega), List.take_of_length_le (by omega)] at hp
  clear h hi hp
  refine loop_rule hm (α := Nat) (fun i env S' => i ≤ kids.length ∧ env = E_plain2 (.mk k s keys kids) (.mk k' s' keys' kids') i ∧ S' = St.init ∧ kids.take i = kids'.take i) (fun i => kids.length - i) ?_ (a := 0) ⟨Nat.zero_le _, rfl, rfl, rfl⟩
  rintro i env S' ⟨hi, rfl, rfl, hp⟩
  (try refine And.intro (by rfl) ?_); (conv => whnf); repeat (first | (refine sI (by rfl) ?_; conv => whnf) | (refine sD (by rfl) (by rfl) ?_; conv => whnf) | (generalize hE : keepE _ _ = e0; revert hE; apply kI; (repeat (first | exact kN _ | (apply kC; with_unfolding_all rfl; rfl))); rintro rfl; (conv => whnf); conv => whnf))
  by_cases h : (i : Int) < (encTs kids).length
  · rw [decide_eq_true h]
    (try refine And.intro (by rfl) ?_); (conv => whnf); repeat (first | (refine sI (by rfl) ?_; conv => whnf) | (refine sD (by rfl) (by rfl) ?_; conv => whnf) | (generalize hE : keepE _ _ = e0; revert hE; apply kI; (repeat (first | exact kN _ | (apply kC; with_unfolding_all rfl; rfl))); rintro rfl; (conv => whnf); conv => whnf))
    have hik : i < kids.length := by omega
    have hik' : i < kids'.length := by omega
    refine step_ruleDO rfl rfl (sx_ia (k := i) rfl rfl (by omega)) ?_
    (try refine And.intro (by rfl) ?_); (conv => whnf); repeat (first | (refine sI (by rfl) ?_; conv => whnf) | (refine sD (by rfl) (by rfl) ?_; conv => whnf) | (generalize hE : keepE _ _ = e0; revert hE; apply kI; (repeat (first | exact kN _ | (apply kC; with_unfolding_all rfl; rfl))); rintro rfl; (conv => whnf); conv => whnf))
    refine step_ruleDO rfl rfl (sx_ldEl (agg := true) rfl rfl (encTs_get hik) (rdT _)) ?_
    (try refine And.intro (by rfl) ?_); (conv => whnf); repeat (first | (refine sI (by rfl) ?_; conv => whnf) | (refine sD (by rfl) (by rfl) ?_; conv => whnf) | (generalize hE : keepE _ _ = e0; revert hE; apply kI; (repeat (first | exact kN _ | (apply kC; with_unfolding_all rfl; rfl))); rintro rfl; (conv => whnf); conv => whnf))
    refine step_ruleDO rfl rfl (sx_ia (k := i) rfl rfl (by omega)) ?_
    (try refine And.intro (by rfl) ?_); (conv => whnf); repeat (first | (refine sI (by rfl) ?_; conv => whnf) | (refine sD (by rfl) (by rfl) ?_; conv => whnf) | (generalize hE : keepE _ _ = e0; revert hE; apply kI; (repeat (first | exact kN _ | (apply kC; with_unfolding_all rfl; rfl))); rintro rfl; (conv => whnf); conv => whnf))
    refine step_ruleDO rfl rfl (sx_ldEl (agg := true) rfl rfl (encTs_get hik') (rdT _)) ?_
    (try refine And.intro (by rfl) ?_); (conv => whnf); repeat (first | (refine sI (by rfl) ?_; conv => whnf) | (refine sD (by rfl) (by rfl) ?_; conv => whnf) | (generalize hE : keepE _ _ = e0; revert hE; apply kI; (repeat (first | exact kN _ | (apply kC; with_unfolding_all rfl; rfl))); rintro rfl; (conv => whnf); conv => whnf))
    refine call_pfD hm (by rfl) (ih _ (kid_lt hik) _ (PT.oks_get hk3 (List.getElem?_eq_getElem hik))) ?_
    (try refine And.intro (by rfl) ?_); (conv => whnf); repeat (first | (refine sI (by rfl) ?_; conv => whnf) | (refine sD (by rfl) (by rfl) ?_; conv => whnf) | (generalize hE : keepE _ _ = e0; revert hE; apply kI; (repeat (first | exact kN _ | (apply kC; with_unfolding_all rfl; rfl))); rintro rfl; (conv => whnf); conv => whnf))
    by_cases z : kids[i] = kids'[i]
    · rw [eqT_true z]
      (try refine And.intro (by rfl) ?_); (conv => whnf); repeat (first | (refine sI (by rfl) ?_; conv => whnf) | (refine sD (by rfl) (by rfl) ?_; conv => whnf) | (generalize hE : keepE _ _ = e0; revert hE; apply kI; (repeat (first | exact kN _ | (apply kC; with_unfolding_all rfl; rfl))); rintro rfl; (conv => whnf); conv => whnf))
      refine ⟨i + 1, ⟨by omega, ?_, rfl, ?_⟩, by omega⟩
      · rw [wrNat (by omega)]; try rfl
      · rw [List.take_succ_eq_append_getElem hik, List.take_succ_eq_append_getElem hik', hp, z]
    · rw [eqT_false z]
      (try refine And.intro (by rfl) ?_); (conv => whnf); repeat (first | (refine sI (by rfl) ?_; conv => whnf) | (refine sD (by rfl) (by rfl) ?_; conv => whnf) | (generalize hE : keepE _ _ = e0; revert hE; apply kI; (repeat (first | exact kN _ | (apply kC; with_unfolding_all rfl; rfl))); rintro rfl; (conv => whnf); conv => whnf))
      exact ⟨_, rfl, no fun h => by simp only [PT.mk.injEq] at h; obtain ⟨_, _, _, rfl⟩ := h; exact z rfl⟩
  rw [decide_eq_false h]
  (try refine And.intro (by rfl) ?_); (conv => whnf); repeat (first | (refine sI (by rfl) ?_; conv => whnf) | (refine sD (by rfl) (by rfl) ?_; conv => whnf) | (generalize hE : keepE _ _ = e0; revert hE; apply kI; (repeat (first | exact kN _ | (apply kC; with_unfolding_all rfl; rfl))); rintro rfl; (conv => whnf); conv => whnf))
  have hkids : kids = kids' := by
    rwa [List.take_of_length_le (by omega), List.take_of_length_le (by omega)] at hp
  refine ⟨_, rfl, ?_⟩
  rw [eqT_true (by rw [z0, z1, hkeys, hkids])]
  exact Ret.sta trivial

abbrev E_copy (t : PT) (k : Int) (s : List UInt8) (keys : List (List UInt8)) (o1 o2 : SI) (all kids : List PT) (i : Int) : Env :=
  [(2, .box zT), (3, .box [.int .i64 k, .str s, .sl 1 o1 (strs keys), .sl 4 o2 (encTs kids)]), (18, .val (.sl 4 stat (encTs all))), (19, .val (.int .i64 (encTs all).length)), (20, .val (.int .i64 i))]

set_option maxHeartbeats 2000000 in
theorem copy_wp (hm : MonoC C) {t : PT} (ih : ∀ u, u.n < t.n → u.ok → PF C 49 [encT u] (encT u)) (hk : t.ok) : wpF gt C F49 [encT t] St.init (Ret (encT t)) := by
  obtain ⟨k, s, keys, kids⟩ := t
  simp only [PT.ok] at hk
  obtain ⟨hk1, hk2, hk3⟩ := hk
  refine ⟨rfl, ?_⟩
  have hR := (Hs.init.addNil 9 true).addNil 25 true
  (try refine And.intro (by rfl) ?_); (conv => whnf); repeat (first | (refine sI (by rfl) ?_; conv => whnf) | (refine sD (by rfl) (by rfl) ?_; conv => whnf) | (generalize hE : keepE _ _ = e0; revert hE; apply kI; (repeat (first | exact kN _ | (apply kC; with_unfolding_all rfl; rfl))); rintro rfl; (conv => whnf); conv => whnf))
  refine r_app hR 0 rfl trivial rfl rfl rfl (by rw [strs_length]; simpa using hk1) (by rw [strs_length]; simp; omega) (by decide) (by decide) (cells_strs keys) ?_
  intro o1 S1 hR
  (try refine And.intro (by rfl) ?_); (conv => whnf); repeat (first | (refine sI (by rfl) ?_; conv => whnf) | (refine sD (by rfl) (by rfl) ?_; conv => whnf) | (generalize hE : keepE _ _ = e0; revert hE; apply kI; (repeat (first | exact kN _ | (apply kC; with_unfolding_all rfl; rfl))); rintro rfl; (conv => whnf); conv => whnf))
  have hlen := encTs_len kids
  refine loop_rule hm (α := Nat) (fun i env S' => i ≤ kids.length ∧ ∃ o2, Hs S' [.gr 9 o1 (strs keys), .gr 25 o2 (encTs (kids.take i))] ∧ env = E_copy (.mk k s keys kids) k s keys o1 o2 kids (kids.take i) i) (fun i => kids.length - i) ?_ (a := 0) ⟨Nat.zero_le _, _, hR, rfl⟩
  rintro i env S' ⟨hi, o2, hR, rfl⟩
  (try refine And.intro (by rfl) ?_); (conv => whnf); repeat (first | (refine sI (by rfl) ?_; conv => whnf) | (refine sD (by rfl) (by rfl) ?_; conv => whnf) | (generalize hE : keepE _ _ = e0; revert hE; apply kI; (repeat (first | exact kN _ | (apply kC; with_unfolding_all rfl; rfl))); rintro rfl; (conv => whnf); conv => whnf))
  by_cases h : (i : Int) < (encTs kids).length
  · rw [decide_eq_true h]
    (try refine And.intro (by rfl) ?_); (conv => whnf); repeat (first | (refine sI (by rfl) ?_; conv => whnf) | (refine sD (by rfl) (by rfl) ?_; conv => whnf) | (generalize hE : keepE _ _ = e0; revert hE; apply kI; (repeat (first | exact kN _ | (apply kC; with_unfolding_all rfl; rfl))); rintro rfl; (conv => whnf); conv => whnf))
    have hik : i < kids.length := by omega
    refine step_ruleO (sx_ia (k := i) rfl rfl (by omega)) ?_
    (try refine And.intro (by rfl) ?_); (conv => whnf); repeat (first | (refine sI (by rfl) ?_; conv => whnf) | (refine sD (by rfl) (by rfl) ?_; conv => whnf) | (generalize hE : keepE _ _ = e0; revert hE; apply kI; (repeat (first | exact kN _ | (apply kC; with_unfolding_all rfl; rfl))); rintro rfl; (conv => whnf); conv => whnf))
    refine step_ruleO (sx_ldEl (agg := true) rfl rfl (encTs_get hik) (rdT _)) ?_
    have ihk := ih _ (kid_lt hik) (PT.oks_get hk3 (List.getElem?_eq_getElem hik))
    have hok := encT_ok kids[i]
    have hts : encTs (kids.take (i + 1)) = encTs (kids.take i) ++ [encT kids[i]] := by rw [List.take_succ_eq_append_getElem hik, encTs_app]; rfl
    obtain ⟨ka, sa, xa, ya, he⟩ := encT_agg kids[i]
    rw [he] at ihk hts hok ⊢
    (try refine And.intro (by rfl) ?_); (conv => whnf); repeat (first | (refine sI (by rfl) ?_; conv => whnf) | (refine sD (by rfl) (by rfl) ?_; conv => whnf) | (generalize hE : keepE _ _ = e0; revert hE; apply kI; (repeat (first | exact kN _ | (apply kC; with_unfolding_all rfl; rfl))); rintro rfl; (conv => whnf); conv => whnf))
    refine call_pfD hm (by rfl) ihk ?_
    (try refine And.intro (by rfl) ?_); (conv => whnf); repeat (first | (refine sI (by rfl) ?_; conv => whnf) | (refine sD (by rfl) (by rfl) ?_; conv => whnf) | (generalize hE : keepE _ _ = e0; revert hE; apply kI; (repeat (first | exact kN _ | (apply kC; with_unfolding_all rfl; rfl))); rintro rfl; (conv => whnf); conv => whnf))
    have hlt : (encTs (kids.take i)).length = i := by rw [encTs_len, List.length_take]; omega
    refine r_appD hR 1 rfl (by trivial) rfl rfl rfl (by rw [hlt]; simp; omega) (by rw [hlt]; simp; omega) (by decide) (by decide) hok ?_
    intro o3 S3 hR
    (try refine And.intro (by rfl) ?_); (conv => whnf); repeat (first | (refine sI (by rfl) ?_; conv => whnf) | (refine sD (by rfl) (by rfl) ?_; conv => whnf) | (generalize hE : keepE _ _ = e0; revert hE; apply kI; (repeat (first | exact kN _ | (apply kC; with_unfolding_all rfl; rfl))); rintro rfl; (conv => whnf); conv => whnf))
    refine ⟨i + 1, ⟨by omega, o3, by rw [hts]; exact hR, ?_⟩, by omega⟩
    rw [wrNat (by omega)]
    simp only [E_copy, hts]
    try rfl
  · rw [decide_eq_false h]
    (try refine And.intro (by rfl) ?_); (conv => whnf); repeat (first | (refine sI (by rfl) ?_; conv => whnf) | (refine sD (by rfl) (by rfl) ?_; conv => whnf) | (generalize hE : keepE _ _ = e0; revert hE; apply kI; (repeat (first | exact kN _ | (apply kC; with_unfolding_all rfl; rfl))); rintro rfl; (conv => whnf); conv => whnf))
    have : kids.take i = kids := List.take_of_length_le (by omega)
    rw [this] at hR ⊢
    exact ⟨_, rfl, _, rfl, rdo_T hR (i := 0) (j := 1) rfl rfl⟩
end
end Go.Dn

namespace Go.Dn
open Go Go.Proofs.C1
set_option maxRecDepth 100000
attribute [local irreducible] afterS keepE

/-- pieces of a file -/
inductive PN where
  | mk (k : Int) (a b c : List UInt8) (leaf : PT) (h : List UInt8) (kids : List PN) (seps : List (List UInt8)) (t e : List UInt8) (f : Int)

mutual
def PN.n : PN → Nat
  | .mk _ _ _ _ _ _ kids _ _ _ _ => PN.ns kids + 1
def PN.ns : List PN → Nat
  | [] => 0
  | t :: r => PN.n t + PN.ns r
end
theorem PN.ns_mem {t : PN} : ∀ {l : List PN}, t ∈ l → t.n ≤ PN.ns l
  | a :: r, h => by
    simp only [PN.ns]
    rcases List.mem_cons.1 h with rfl | h
    · omega
    · have := PN.ns_mem h; omega

mutual
def PN.ok : PN → Prop
  | .mk _ _ _ _ leaf _ kids seps _ _ _ => leaf.ok ∧ kids.length * 232 ≤ 140737488355328 ∧ seps.length * 16 ≤ 140737488355328 ∧ PN.oks kids
def PN.oks : List PN → Prop
  | [] => True
  | t :: r => PN.ok t ∧ PN.oks r
end
theorem PN.oks_get : ∀ {l : List PN} {i : Nat} (h : i < l.length), PN.oks l → (l[i]).ok
  | a :: r, 0, _, h => by simp only [PN.oks] at h; exact h.1
  | a :: r, i + 1, hi, h => by simp only [PN.oks] at h; exact PN.oks_get (l := r) (i := i) (by simpa using hi) h.2

def PT.k : PT → Int | .mk k _ _ _ => k
def PT.s : PT → List UInt8 | .mk _ s _ _ => s
def PT.keys : PT → List (List UInt8) | .mk _ _ keys _ => keys
def PT.kids : PT → List PT | .mk _ _ _ kids => kids

mutual
def encN : PN → AV
  | .mk k a b c leaf h kids seps t e f => .agg [.int .i64 k, .str a, .str b, .str c, .int .i64 leaf.k, .str leaf.s, .sl 1 stat (strs leaf.keys), .sl 4 stat (encTs leaf.kids), .str h, .sl 14 stat (encNs kids), .sl 1 stat (strs seps), .str t, .str e, .int .i64 f]
def encNs : List PN → List AV
  | [] => []
  | t :: r => encN t :: encNs r
end
theorem encT_eq (t : PT) : encT t = .agg [.int .i64 t.k, .str t.s, .sl 1 stat (strs t.keys), .sl 4 stat (encTs t.kids)] := by cases t; rfl

theorem encNs_len : ∀ l : List PN, (encNs l).length = l.length
  | [] => rfl
  | t :: r => by simp [encNs, encNs_len r]
theorem encNs_get : ∀ {l : List PN} {i : Nat} (h : i < l.length), (encNs l)[i]? = some (encN l[i])
  | t :: r, 0, _ => rfl
  | t :: r, i + 1, h => by simpa [encNs] using encNs_get (l := r) (i := i) (by simpa using h)
theorem encNs_app : ∀ a b : List PN, encNs (a ++ b) = encNs a ++ encNs b
  | [], b => rfl
  | t :: r, b => by simp [encNs, encNs_app r b]
mutual
theorem sta_N : ∀ t, Sta (encN t)
  | .mk k a b c leaf h kids seps t e f => by
    simp only [encN, Sta, Stas]
    exact ⟨trivial, trivial, trivial, trivial, trivial, trivial, ⟨trivial, sta_strs _⟩, ⟨trivial, sta_Ts _⟩, trivial, ⟨trivial, sta_Ns kids⟩, ⟨trivial, sta_strs seps⟩, trivial, trivial, trivial, trivial⟩
theorem sta_Ns : ∀ l, Stas (encNs l)
  | [] => trivial
  | t :: r => by simp only [encNs, Stas]; exact ⟨sta_N t, sta_Ns r⟩
end
theorem encN_agg (t : PN) : ∃ k a b c k1 s1 x6 x7 h x9 x10 t' e f, encN t = .agg [.int .i64 k, .str a, .str b, .str c, .int .i64 k1, .str s1, .sl 1 stat x6, .sl 4 stat x7, .str h, .sl 14 stat x9, .sl 1 stat x10, .str t', .str e, .int .i64 f] := by
  cases t; exact ⟨_, _, _, _, _, _, _, _, _, _, _, _, _, _, rfl⟩
theorem rdN (t : PN) : (cut (encN t).cells 0 14).bind (mkv true) = some (encN t) := by cases t; rfl
theorem encN_ok (t : PN) : ((([encN t] : List AV)).flatMap AV.cells).all ok1 = true := by cases t; rfl
theorem rdos_Ns {S : St} (l : List PN) : Rdos S (encNs l) (encNs l) := Stas.rdos _ (sta_Ns l)
theorem kidN_lt {k a b c leaf h seps t e f} {kids : List PN} {i : Nat} (hi : i < kids.length) : kids[i].n < (PN.mk k a b c leaf h kids seps t e f).n := by
  have := PN.ns_mem (List.getElem_mem hi); simp only [PN.n]; omega

mutual
def sizeN : PN → Int → Int
  | .mk _ _ _ _ leaf _ kids seps _ _ _, m => sizeNs kids m (1 + size3 leaf m + seps.length)
def sizeNs : List PN → Int → Int → Int
  | [], _, n => n
  | t :: r, m, n => if n < m then sizeNs r m (n + sizeN t (m - n)) else n
end

mutual
theorem sizeN_b : ∀ (t : PN) (m : Int), t.ok → 1 ≤ sizeN t m ∧ sizeN t m ≤ max m 1 + 35184372088832
  | .mk _ _ _ _ leaf _ kids seps _ _ _, m, h => by
    simp only [PN.ok] at h
    obtain ⟨_, _, h2, h3⟩ := h
    have g1 := size3_pos leaf m
    have g2 := size3_le leaf m
    have := sizeNs_b kids m (1 + size3 leaf m + seps.length) h3 (by omega) (by omega)
    simp only [sizeN]
    omega
theorem sizeNs_b : ∀ (l : List PN) (m n : Int), PN.oks l → 1 ≤ n → n ≤ max m 1 + 35184372088832 → 1 ≤ sizeNs l m n ∧ sizeNs l m n ≤ max m 1 + 35184372088832
  | [], m, n, _, h1, h2 => by simp only [sizeNs]; omega
  | t :: r, m, n, h, h1, h2 => by
    simp only [PN.oks] at h
    simp only [sizeNs]
    split
    · have g := sizeN_b t (m - n) h.1
      exact sizeNs_b r m _ h.2 (by omega) (by omega)
    · omega
end

section
variable {gt : GT} {C : CallT}

abbrev E_sizeN (m : Int) (t : PN) (n i : Int) : Env := [(1, .val (.int .i64 m)), (2, .box (encN t).cells), (5, .val (.int .i64 n)), (6, .val (.int .i64 i))]

set_option maxHeartbeats 2000000 in
theorem sizeN_wp (hm : MonoC C) (h3 : ∀ (u : PT) m, m < 4611686018427387904 → PF C 43 [encT u, .int .i64 m] (.int .i64 (size3 u m)))
    {t : PN} (ih : ∀ u, u.n < t.n → ∀ m, u.ok → m < 2305843009213693952 → PF C 16 [encN u, .int .i64 m] (.int .i64 (sizeN u m)))
    {m : Int} (hk : t.ok) (hb : m < 2305843009213693952) : wpF gt C F16 [encN t, .int .i64 m] St.init (Ret (.int .i64 (sizeN t m))) := by
  have hk0 := hk
  obtain ⟨k, a, b, c, leaf, h, kids, seps, t, e, f⟩ := t
  simp only [PN.ok] at hk
  obtain ⟨q1, q2, q3, q4⟩ := hk
  refine ⟨rfl, ?_⟩
  have h3 := h3 leaf m (by omega)
  rw [encT_eq] at h3
  (try refine And.intro (by rfl) ?_); (conv => whnf); repeat (first | (refine sI (by rfl) ?_; conv => whnf) | (refine sD (by rfl) (by rfl) ?_; conv => whnf) | (generalize hE : keepE _ _ = e0; revert hE; apply kI; (repeat (first | exact kN _ | (apply kC; with_unfolding_all rfl; rfl))); rintro rfl; (conv => whnf); conv => whnf))
  refine call_pfD hm (by rfl) h3 ?_
  (try refine And.intro (by rfl) ?_); (conv => whnf); repeat (first | (refine sI (by rfl) ?_; conv => whnf) | (refine sD (by rfl) (by rfl) ?_; conv => whnf) | (generalize hE : keepE _ _ = e0; revert hE; apply kI; (repeat (first | exact kN _ | (apply kC; with_unfolding_all rfl; rfl))); rintro rfl; (conv => whnf); conv => whnf))
  have hlen := encNs_len kids
  have hs := strs_length seps
  have g1 := size3_pos leaf m
  have g2 := size3_le leaf m
  refine loop_rule hm (α := Nat × Int) (fun a' env S' => a'.1 ≤ kids.length ∧ 1 ≤ a'.2 ∧ a'.2 ≤ max m 1 + 35184372088832 ∧ env = E_sizeN m (.mk k a b c leaf h kids seps t e f) a'.2 a'.1 ∧ S' = St.init ∧ sizeN (.mk k a b c leaf h kids seps t e f) m = sizeNs (kids.drop a'.1) m a'.2) (fun a => kids.length - a.1) ?_ (a := (0, 1 + size3 leaf m + seps.length)) ⟨Nat.zero_le _, by simp only; omega, by simp only; omega, ?_, rfl, rfl⟩
  case refine_2 => rw [wr64 (n := 1 + size3 leaf m) (by omega) (by omega), hs, wr64 (n := 1 + size3 leaf m + (seps.length : Int)) (by omega) (by omega)]; try rfl
  rintro ⟨i, n⟩ env S' ⟨hi, hn1, hn2, rfl, rfl, hp⟩
  (try refine And.intro (by rfl) ?_); (conv => whnf); repeat (first | (refine sI (by rfl) ?_; conv => whnf) | (refine sD (by rfl) (by rfl) ?_; conv => whnf) | (generalize hE : keepE _ _ = e0; revert hE; apply kI; (repeat (first | exact kN _ | (apply kC; with_unfolding_all rfl; rfl))); rintro rfl; (conv => whnf); conv => whnf))
  simp only at hi hn1 hn2 hp
  by_cases hc : (i : Int) < (encNs kids).length
  · rw [decide_eq_true hc]
    (try refine And.intro (by rfl) ?_); (conv => whnf); repeat (first | (refine sI (by rfl) ?_; conv => whnf) | (refine sD (by rfl) (by rfl) ?_; conv => whnf) | (generalize hE : keepE _ _ = e0; revert hE; apply kI; (repeat (first | exact kN _ | (apply kC; with_unfolding_all rfl; rfl))); rintro rfl; (conv => whnf); conv => whnf))
    have hik : i < kids.length := by omega
    by_cases hnm : n < m
    · rw [decide_eq_true hnm]
      (try refine And.intro (by rfl) ?_); (conv => whnf); repeat (first | (refine sI (by rfl) ?_; conv => whnf) | (refine sD (by rfl) (by rfl) ?_; conv => whnf) | (generalize hE : keepE _ _ = e0; revert hE; apply kI; (repeat (first | exact kN _ | (apply kC; with_unfolding_all rfl; rfl))); rintro rfl; (conv => whnf); conv => whnf))
      refine step_ruleO (sx_ia (k := i) rfl rfl (by omega)) ?_
      (try refine And.intro (by rfl) ?_); (conv => whnf); repeat (first | (refine sI (by rfl) ?_; conv => whnf) | (refine sD (by rfl) (by rfl) ?_; conv => whnf) | (generalize hE : keepE _ _ = e0; revert hE; apply kI; (repeat (first | exact kN _ | (apply kC; with_unfolding_all rfl; rfl))); rintro rfl; (conv => whnf); conv => whnf))
      refine step_ruleO (sx_ldEl (agg := true) rfl rfl (encNs_get hik) (rdN _)) ?_
      (try refine And.intro (by rfl) ?_); (conv => whnf); repeat (first | (refine sI (by rfl) ?_; conv => whnf) | (refine sD (by rfl) (by rfl) ?_; conv => whnf) | (generalize hE : keepE _ _ = e0; revert hE; apply kI; (repeat (first | exact kN _ | (apply kC; with_unfolding_all rfl; rfl))); rintro rfl; (conv => whnf); conv => whnf))
      rw [wr64 (by omega) (by omega)]
      have hok := PN.oks_get hik q4
      refine call_pf hm (by rfl) (ih _ (kidN_lt hik) (m - n) hok (by omega)) ?_
      (try refine And.intro (by rfl) ?_); (conv => whnf); repeat (first | (refine sI (by rfl) ?_; conv => whnf) | (refine sD (by rfl) (by rfl) ?_; conv => whnf) | (generalize hE : keepE _ _ = e0; revert hE; apply kI; (repeat (first | exact kN _ | (apply kC; with_unfolding_all rfl; rfl))); rintro rfl; (conv => whnf); conv => whnf))
      have g3 := sizeN_b kids[i] (m - n) hok
      refine ⟨(i + 1, n + sizeN kids[i] (m - n)), ⟨by simp only; omega, by simp only; omega, by simp only; omega, ?_, rfl, ?_⟩, by simp only; omega⟩
      · rw [wrNat (by omega), wr64 (by omega) (by omega)]; try rfl
      · rw [hp, List.drop_eq_getElem_cons hik]
        simp only [sizeNs]
        rw [if_pos hnm]
    · rw [decide_eq_false hnm]
      (try refine And.intro (by rfl) ?_); (conv => whnf); repeat (first | (refine sI (by rfl) ?_; conv => whnf) | (refine sD (by rfl) (by rfl) ?_; conv => whnf) | (generalize hE : keepE _ _ = e0; revert hE; apply kI; (repeat (first | exact kN _ | (apply kC; with_unfolding_all rfl; rfl))); rintro rfl; (conv => whnf); conv => whnf))
      refine ⟨_, rfl, ?_⟩
      rw [hp, List.drop_eq_getElem_cons hik]
      simp only [sizeNs]
      rw [if_neg hnm]
      exact Ret.sta trivial
  · rw [decide_eq_false hc]
    (try refine And.intro (by rfl) ?_); (conv => whnf); repeat (first | (refine sI (by rfl) ?_; conv => whnf) | (refine sD (by rfl) (by rfl) ?_; conv => whnf) | (generalize hE : keepE _ _ = e0; revert hE; apply kI; (repeat (first | exact kN _ | (apply kC; with_unfolding_all rfl; rfl))); rintro rfl; (conv => whnf); conv => whnf))
    refine ⟨_, rfl, ?_⟩
    rw [hp, List.drop_eq_nil_of_le (by omega)]
    simp only [sizeNs]
    exact Ret.sta trivial

def zN : List AV := [.int .i64 0, .str [], .str [], .str [], .int .i64 0, .str [], .sl 1 ⟨none, 0, some 0, true⟩ [], .sl 4 ⟨none, 0, some 0, true⟩ [], .str [], .sl 14 ⟨none, 0, some 0, true⟩ [], .sl 1 ⟨none, 0, some 0, true⟩ [], .str [], .str [], .int .i64 0]
abbrev E_copyN3 (t : PN) (k : Int) (a b c : List UInt8) (leaf : PT) (h : List UInt8) (kids : List PN) (seps : List (List UInt8)) (t' e : List UInt8) (f : Int) (o1 o2 : SI) (i : Int) : Env :=
  [(1, .box (encN t).cells), (2, .box zN), (3, .box [.int .i64 k, .str a, .str b, .str c, .int .i64 leaf.k, .str leaf.s, .sl 1 stat (strs leaf.keys), .sl 4 stat (encTs leaf.kids), .str h, .sl 14 o2 (encNs kids), .sl 1 o1 (strs seps), .str t', .str e, .int .i64 f]), (4, .val (.int .i64 i))]

theorem rdo_N {S : St} {R : List Rs} (hR : Hs S R) {i j : Nat} {ty ty2 : TypeId} {o1 o2 : SI} {k : Int} {a b c : List UInt8} {leaf : PT} {h : List UInt8} {kids : List PN} {seps : List (List UInt8)} {t e : List UInt8} {f : Int} (hi : R[i]? = some (.gr ty o1 (strs seps))) (hj : R[j]? = some (.gr ty2 o2 (encNs kids))) :
    Rdo S (encN (.mk k a b c leaf h kids seps t e f)) (.agg [.int .i64 k, .str a, .str b, .str c, .int .i64 leaf.k, .str leaf.s, .sl 1 stat (strs leaf.keys), .sl 4 stat (encTs leaf.kids), .str h, .sl 14 o2 (encNs kids), .sl 1 o1 (strs seps), .str t, .str e, .int .i64 f]) := by
  simp only [encN]
  rw [Rdo]
  refine ⟨_, rfl, ?_⟩
  simp only [Rdos]
  exact ⟨_, _, rfl, by simp only [Rdo], _, _, rfl, by simp only [Rdo], _, _, rfl, by simp only [Rdo], _, _, rfl, by simp only [Rdo], _, _, rfl, by simp only [Rdo], _, _, rfl, by simp only [Rdo],
    _, _, rfl, (sta_sl (sta_strs _)).rdo, _, _, rfl, (sta_sl (sta_Ts _)).rdo, _, _, rfl, by simp only [Rdo], _, _, rfl, hR.rdo hj (rdos_Ns kids), _, _, rfl, hR.rdo hi (rdos_strs seps), _, _, rfl, by simp only [Rdo], _, _, rfl, by simp only [Rdo], _, _, rfl, by simp only [Rdo], rfl⟩

set_option maxHeartbeats 2000000 in
theorem copyN3_wp (hm : MonoC C) (h3 : ∀ u : PT, u.ok → PF C 44 [encT u] (encT u)) {t : PN} (ih : ∀ u, u.n < t.n → u.ok → PF C 17 [encN u] (encN u)) (hk : t.ok) : wpF gt C F17 [encN t] St.init (Ret (encN t)) := by
  obtain ⟨k, a, b, c, leaf, h, kids, seps, t, e, f⟩ := t
  simp only [PN.ok] at hk
  obtain ⟨q1, q2, q3, q4⟩ := hk
  refine ⟨rfl, ?_⟩
  have hR := (Hs.init.addNil 9 true).addNil 28 true
  have h3 := h3 leaf q1
  rw [encT_eq] at h3
  (try refine And.intro (by rfl) ?_); (conv => whnf); repeat (first | (refine sI (by rfl) ?_; conv => whnf) | (refine sD (by rfl) (by rfl) ?_; conv => whnf) | (generalize hE : keepE _ _ = e0; revert hE; apply kI; (repeat (first | exact kN _ | (apply kC; with_unfolding_all rfl; rfl))); rintro rfl; (conv => whnf); conv => whnf))
  refine call_pf hm (by rfl) h3 ?_
  (try refine And.intro (by rfl) ?_); (conv => whnf); repeat (first | (refine sI (by rfl) ?_; conv => whnf) | (refine sD (by rfl) (by rfl) ?_; conv => whnf) | (generalize hE : keepE _ _ = e0; revert hE; apply kI; (repeat (first | exact kN _ | (apply kC; with_unfolding_all rfl; rfl))); rintro rfl; (conv => whnf); conv => whnf))
  refine r_app hR 0 rfl trivial rfl rfl rfl (by rw [strs_length]; simpa using q3) (by rw [strs_length]; simp; omega) (by decide) (by decide) (cells_strs seps) ?_
  intro o1 S1 hR
  (try refine And.intro (by rfl) ?_); (conv => whnf); repeat (first | (refine sI (by rfl) ?_; conv => whnf) | (refine sD (by rfl) (by rfl) ?_; conv => whnf) | (generalize hE : keepE _ _ = e0; revert hE; apply kI; (repeat (first | exact kN _ | (apply kC; with_unfolding_all rfl; rfl))); rintro rfl; (conv => whnf); conv => whnf))
  have hlen := encNs_len kids
  refine loop_rule hm (α := Nat) (fun i env S' => i ≤ kids.length ∧ ∃ o2, Hs S' [.gr 9 o1 (strs seps), .gr 28 o2 (encNs (kids.take i))] ∧ env = E_copyN3 (.mk k a b c leaf h kids seps t e f) k a b c leaf h (kids.take i) seps t e f o1 o2 i) (fun i => kids.length - i) ?_ (a := 0) ⟨Nat.zero_le _, _, hR, rfl⟩
  rintro i env S' ⟨hi, o2, hR, rfl⟩
  (try refine And.intro (by rfl) ?_); (conv => whnf); repeat (first | (refine sI (by rfl) ?_; conv => whnf) | (refine sD (by rfl) (by rfl) ?_; conv => whnf) | (generalize hE : keepE _ _ = e0; revert hE; apply kI; (repeat (first | exact kN _ | (apply kC; with_unfolding_all rfl; rfl))); rintro rfl; (conv => whnf); conv => whnf))
  by_cases hc : (i : Int) < (encNs kids).length
  · rw [decide_eq_true hc]
    (try refine And.intro (by rfl) ?_); (conv => whnf); repeat (first | (refine sI (by rfl) ?_; conv => whnf) | (refine sD (by rfl) (by rfl) ?_; conv => whnf) | (generalize hE : keepE _ _ = e0; revert hE; apply kI; (repeat (first | exact kN _ | (apply kC; with_unfolding_all rfl; rfl))); rintro rfl; (conv => whnf); conv => whnf))
    have hik : i < kids.length := by omega
    refine step_ruleDO rfl rfl (sx_ia (k := i) rfl rfl (by omega)) ?_
    (try refine And.intro (by rfl) ?_); (conv => whnf); repeat (first | (refine sI (by rfl) ?_; conv => whnf) | (refine sD (by rfl) (by rfl) ?_; conv => whnf) | (generalize hE : keepE _ _ = e0; revert hE; apply kI; (repeat (first | exact kN _ | (apply kC; with_unfolding_all rfl; rfl))); rintro rfl; (conv => whnf); conv => whnf))
    refine step_ruleDO rfl rfl (sx_ldEl (agg := true) rfl rfl (encNs_get hik) (rdN _)) ?_
    (try refine And.intro (by rfl) ?_); (conv => whnf); repeat (first | (refine sI (by rfl) ?_; conv => whnf) | (refine sD (by rfl) (by rfl) ?_; conv => whnf) | (generalize hE : keepE _ _ = e0; revert hE; apply kI; (repeat (first | exact kN _ | (apply kC; with_unfolding_all rfl; rfl))); rintro rfl; (conv => whnf); conv => whnf))
    have ihk := ih _ (kidN_lt hik) (PN.oks_get hik q4)
    have hok := encN_ok kids[i]
    have hts : encNs (kids.take (i + 1)) = encNs (kids.take i) ++ [encN kids[i]] := by rw [List.take_succ_eq_append_getElem hik, encNs_app]; rfl
    obtain ⟨w0, w1, w2, w3, w4, w5, w6, w7, w8, w9, w10, w11, w12, w13, he⟩ := encN_agg kids[i]
    rw [he] at ihk hts hok ⊢
    refine call_pfD hm (by rfl) ihk ?_
    (try refine And.intro (by rfl) ?_); (conv => whnf); repeat (first | (refine sI (by rfl) ?_; conv => whnf) | (refine sD (by rfl) (by rfl) ?_; conv => whnf) | (generalize hE : keepE _ _ = e0; revert hE; apply kI; (repeat (first | exact kN _ | (apply kC; with_unfolding_all rfl; rfl))); rintro rfl; (conv => whnf); conv => whnf))
    have hlt : (encNs (kids.take i)).length = i := by rw [encNs_len, List.length_take]; omega
    refine r_appD hR 1 rfl (by trivial) rfl rfl rfl (by rw [hlt]; simp; omega) (by rw [hlt]; simp; omega) (by decide) (by decide) hok ?_
    intro o3 S3 hR
    (try refine And.intro (by rfl) ?_); (conv => whnf); repeat (first | (refine sI (by rfl) ?_; conv => whnf) | (refine sD (by rfl) (by rfl) ?_; conv => whnf) | (generalize hE : keepE _ _ = e0; revert hE; apply kI; (repeat (first | exact kN _ | (apply kC; with_unfolding_all rfl; rfl))); rintro rfl; (conv => whnf); conv => whnf))
    refine ⟨i + 1, ⟨by omega, o3, by rw [hts]; exact hR, ?_⟩, by omega⟩
    rw [wrNat (by omega)]
    simp only [E_copyN3, hts]
    try rfl
  · rw [decide_eq_false hc]
    (try refine And.intro (by rfl) ?_); (conv => whnf); repeat (first | (refine sI (by rfl) ?_; conv => whnf) | (refine sD (by rfl) (by rfl) ?_; conv => whnf) | (generalize hE : keepE _ _ = e0; revert hE; apply kI; (repeat (first | exact kN _ | (apply kC; with_unfolding_all rfl; rfl))); rintro rfl; (conv => whnf); conv => whnf))
    have : kids.take i = kids := List.take_of_length_le (by omega)
    rw [this] at hR ⊢
    exact ⟨_, rfl, _, rfl, rdo_N hR (i := 0) (j := 1) rfl rfl⟩

abbrev E_copyN (k : Int) (a b c : List UInt8) (leaf : PT) (h : List UInt8) (all kids : List PN) (seps : List (List UInt8)) (t' e : List UInt8) (f : Int) (o1 o2 : SI) (i : Int) : Env :=
  [(2, .box zN), (3, .box [.int .i64 k, .str a, .str b, .str c, .int .i64 leaf.k, .str leaf.s, .sl 1 stat (strs leaf.keys), .sl 4 stat (encTs leaf.kids), .str h, .sl 14 o2 (encNs kids), .sl 1 o1 (strs seps), .str t', .str e, .int .i64 f]),
   (17, .val (.sl 14 stat (encNs all))), (18, .val (.int .i64 (encNs all).length)), (19, .val (.int .i64 i))]

set_option maxHeartbeats 2000000 in
theorem copyN_wp (hm : MonoC C) (h3 : ∀ u : PT, u.ok → PF C 49 [encT u] (encT u)) {t : PN} (ih : ∀ u, u.n < t.n → u.ok → PF C 24 [encN u] (encN u)) (hk : t.ok) : wpF gt C F24 [encN t] St.init (Ret (encN t)) := by
  obtain ⟨k, a, b, c, leaf, h, kids, seps, t, e, f⟩ := t
  simp only [PN.ok] at hk
  obtain ⟨q1, q2, q3, q4⟩ := hk
  refine ⟨rfl, ?_⟩
  have hR := (Hs.init.addNil 9 true).addNil 28 true
  have h3 := h3 leaf q1
  rw [encT_eq] at h3
  (try refine And.intro (by rfl) ?_); (conv => whnf); repeat (first | (refine sI (by rfl) ?_; conv => whnf) | (refine sD (by rfl) (by rfl) ?_; conv => whnf) | (generalize hE : keepE _ _ = e0; revert hE; apply kI; (repeat (first | exact kN _ | (apply kC; with_unfolding_all rfl; rfl))); rintro rfl; (conv => whnf); conv => whnf))
  refine call_pf hm (by rfl) h3 ?_
  (try refine And.intro (by rfl) ?_); (conv => whnf); repeat (first | (refine sI (by rfl) ?_; conv => whnf) | (refine sD (by rfl) (by rfl) ?_; conv => whnf) | (generalize hE : keepE _ _ = e0; revert hE; apply kI; (repeat (first | exact kN _ | (apply kC; with_unfolding_all rfl; rfl))); rintro rfl; (conv => whnf); conv => whnf))
  refine r_app hR 0 rfl trivial rfl rfl rfl (by rw [strs_length]; simpa using q3) (by rw [strs_length]; simp; omega) (by decide) (by decide) (cells_strs seps) ?_
  intro o1 S1 hR
  (try refine And.intro (by rfl) ?_); (conv => whnf); repeat (first | (refine sI (by rfl) ?_; conv => whnf) | (refine sD (by rfl) (by rfl) ?_; conv => whnf) | (generalize hE : keepE _ _ = e0; revert hE; apply kI; (repeat (first | exact kN _ | (apply kC; with_unfolding_all rfl; rfl))); rintro rfl; (conv => whnf); conv => whnf))
  have hlen := encNs_len kids
  refine loop_rule hm (α := Nat) (fun i env S' => i ≤ kids.length ∧ ∃ o2, Hs S' [.gr 9 o1 (strs seps), .gr 28 o2 (encNs (kids.take i))] ∧ env = E_copyN k a b c leaf h kids (kids.take i) seps t e f o1 o2 i) (fun i => kids.length - i) ?_ (a := 0) ⟨Nat.zero_le _, _, hR, rfl⟩
  rintro i env S' ⟨hi, o2, hR, rfl⟩
  (try refine And.intro (by rfl) ?_); (conv => whnf); repeat (first | (refine sI (by rfl) ?_; conv => whnf) | (refine sD (by rfl) (by rfl) ?_; conv => whnf) | (generalize hE : keepE _ _ = e0; revert hE; apply kI; (repeat (first | exact kN _ | (apply kC; with_unfolding_all rfl; rfl))); rintro rfl; (conv => whnf); conv => whnf))
  by_cases hc : (i : Int) < (encNs kids).length
  · rw [decide_eq_true hc]
    (try refine And.intro (by rfl) ?_); (conv => whnf); repeat (first | (refine sI (by rfl) ?_; conv => whnf) | (refine sD (by rfl) (by rfl) ?_; conv => whnf) | (generalize hE : keepE _ _ = e0; revert hE; apply kI; (repeat (first | exact kN _ | (apply kC; with_unfolding_all rfl; rfl))); rintro rfl; (conv => whnf); conv => whnf))
    have hik : i < kids.length := by omega
    refine step_ruleO (sx_ia (k := i) rfl rfl (by omega)) ?_
    (try refine And.intro (by rfl) ?_); (conv => whnf); repeat (first | (refine sI (by rfl) ?_; conv => whnf) | (refine sD (by rfl) (by rfl) ?_; conv => whnf) | (generalize hE : keepE _ _ = e0; revert hE; apply kI; (repeat (first | exact kN _ | (apply kC; with_unfolding_all rfl; rfl))); rintro rfl; (conv => whnf); conv => whnf))
    refine step_ruleO (sx_ldEl (agg := true) rfl rfl (encNs_get hik) (rdN _)) ?_
    have ihk := ih _ (kidN_lt hik) (PN.oks_get hik q4)
    have hok := encN_ok kids[i]
    have hts : encNs (kids.take (i + 1)) = encNs (kids.take i) ++ [encN kids[i]] := by rw [List.take_succ_eq_append_getElem hik, encNs_app]; rfl
    obtain ⟨w0, w1, w2, w3, w4, w5, w6, w7, w8, w9, w10, w11, w12, w13, he⟩ := encN_agg kids[i]
    rw [he] at ihk hts hok ⊢
    (try refine And.intro (by rfl) ?_); (conv => whnf); repeat (first | (refine sI (by rfl) ?_; conv => whnf) | (refine sD (by rfl) (by rfl) ?_; conv => whnf) | (generalize hE : keepE _ _ = e0; revert hE; apply kI; (repeat (first | exact kN _ | (apply kC; with_unfolding_all rfl; rfl))); rintro rfl; (conv => whnf); conv => whnf))
    refine call_pfD hm (by rfl) ihk ?_
    (try refine And.intro (by rfl) ?_); (conv => whnf); repeat (first | (refine sI (by rfl) ?_; conv => whnf) | (refine sD (by rfl) (by rfl) ?_; conv => whnf) | (generalize hE : keepE _ _ = e0; revert hE; apply kI; (repeat (first | exact kN _ | (apply kC; with_unfolding_all rfl; rfl))); rintro rfl; (conv => whnf); conv => whnf))
    have hlt : (encNs (kids.take i)).length = i := by rw [encNs_len, List.length_take]; omega
    refine r_appD hR 1 rfl (by trivial) rfl rfl rfl (by rw [hlt]; simp; omega) (by rw [hlt]; simp; omega) (by decide) (by decide) hok ?_
    intro o3 S3 hR
    (try refine And.intro (by rfl) ?_); (conv => whnf); repeat (first | (refine sI (by rfl) ?_; conv => whnf) | (refine sD (by rfl) (by rfl) ?_; conv => whnf) | (generalize hE : keepE _ _ = e0; revert hE; apply kI; (repeat (first | exact kN _ | (apply kC; with_unfolding_all rfl; rfl))); rintro rfl; (conv => whnf); conv => whnf))
    refine ⟨i + 1, ⟨by omega, o3, by rw [hts]; exact hR, ?_⟩, by omega⟩
    rw [wrNat (by omega)]
    simp only [E_copyN, hts]
    try rfl
  · rw [decide_eq_false hc]
    (try refine And.intro (by rfl) ?_); (conv => whnf); repeat (first | (refine sI (by rfl) ?_; conv => whnf) | (refine sD (by rfl) (by rfl) ?_; conv => whnf) | (generalize hE : keepE _ _ = e0; revert hE; apply kI; (repeat (first | exact kN _ | (apply kC; with_unfolding_all rfl; rfl))); rintro rfl; (conv => whnf); conv => whnf))
    have : kids.take i = kids := List.take_of_length_le (by omega)
    rw [this] at hR ⊢
    exact ⟨_, rfl, _, rfl, rdo_N hR (i := 0) (j := 1) rfl rfl⟩
end
end Go.Dn

namespace Go.Dn
open Go Go.Proofs.C1
set_option maxRecDepth 100000
attribute [local irreducible] afterS keepE

mutual
def eqN : PN → PN → Bool
  | .mk k a b c leaf h kids seps t e f, .mk k' a' b' c' leaf' h' kids' seps' t' e' f' =>
    decide (k = k' ∧ a = a' ∧ b = b' ∧ c = c' ∧ h = h' ∧ seps = seps' ∧ t = t' ∧ e = e' ∧ f = f') && (eqT leaf leaf' && eqNs kids kids')
def eqNs : List PN → List PN → Bool
  | [], [] => true
  | a :: r, b :: q => eqN a b && eqNs r q
  | _, _ => false
end
mutual
theorem eqN_iff : ∀ {x y : PN}, eqN x y = true ↔ x = y
  | .mk k a b c leaf h kids seps t e f, .mk k' a' b' c' leaf' h' kids' seps' t' e' f' => by
    simp only [eqN, Bool.and_eq_true, decide_eq_true_eq, eqT_iff, eqNs_iff (a := kids) (b := kids'), PN.mk.injEq]
    constructor
    · rintro ⟨⟨h1, h2, h3, h4, h5, h6, h7, h8, h9⟩, h10, h11⟩; exact ⟨h1, h2, h3, h4, h10, h5, h11, h6, h7, h8, h9⟩
    · rintro ⟨h1, h2, h3, h4, h10, h5, h11, h6, h7, h8, h9⟩; exact ⟨⟨h1, h2, h3, h4, h5, h6, h7, h8, h9⟩, h10, h11⟩
theorem eqNs_iff : ∀ {a b : List PN}, eqNs a b = true ↔ a = b
  | [], [] => by simp [eqNs]
  | a :: r, b :: q => by simp [eqNs, eqN_iff (x := a) (y := b), eqNs_iff (a := r) (b := q)]
  | [], b :: q => by simp [eqNs]
  | a :: r, [] => by simp [eqNs]
end
theorem eqN_true {a b : PN} (h : a = b) : eqN a b = true := eqN_iff.2 h
theorem eqN_false {a b : PN} (h : ¬ a = b) : eqN a b = false := by
  cases hh : eqN a b with
  | false => rfl
  | true => exact absurd (eqN_iff.1 hh) h

section
variable {gt : GT} {C : CallT}

abbrev E_same (t u : PN) (i : Int) : Env := [(2, .box (encN t).cells), (3, .box (encN u).cells), (5, .val (.int .i64 i))]
abbrev E_same2 (t u : PN) (i : Int) : Env := [(2, .box (encN t).cells), (3, .box (encN u).cells), (6, .val (.int .i64 i))]

set_option maxHeartbeats 8000000 in
theorem sameN_wp (hm : MonoC C) (hP : ∀ u u' : PT, u.ok → PF C 21 [encT u, encT u'] (.bool (eqT u u')))
    {x y : PN} (ih : ∀ u, u.n < x.n → ∀ u', u.ok → PF C 23 [encN u, encN u'] (.bool (eqN u u'))) (hk : x.ok) :
    wpF gt C F23 [encN x, encN y] St.init (Ret (.bool (eqN x y))) := by
  obtain ⟨k, a, b, c, leaf, h, kids, seps, t, e, f⟩ := x
  obtain ⟨k', a', b', c', leaf', h', kids', seps', t', e', f'⟩ := y
  simp only [PN.ok] at hk
  obtain ⟨q1, q2, q3, q4⟩ := hk
  have no : ∀ {S : St}, ¬ PN.mk k a b c leaf h kids seps t e f = .mk k' a' b' c' leaf' h' kids' seps' t' e' f' → Ret (.bool (eqN (.mk k a b c leaf h kids seps t e f) (.mk k' a' b' c' leaf' h' kids' seps' t' e' f'))) (.ret (.bool false)) S := fun h => by rw [eqN_false h]; exact Ret.sta trivial
  simp only [PN.mk.injEq] at no
  have l1 := strs_length seps
  have l2 := strs_length seps'
  have l3 := encNs_len kids
  have l4 := encNs_len kids'
  have hP := hP leaf leaf' q1
  rw [encT_eq, encT_eq] at hP
  refine ⟨rfl, ?_⟩
  (try refine And.intro (by rfl) ?_); (conv => whnf); repeat (first | (refine sI (by rfl) ?_; conv => whnf) | (refine sD (by rfl) (by rfl) ?_; conv => whnf) | (generalize hE : keepE _ _ = e0; revert hE; apply kI; (repeat (first | exact kN _ | (apply kC; with_unfolding_all rfl; rfl))); rintro rfl; (conv => whnf); conv => whnf))
  by_cases z : k = k'
  case neg =>
    rw [neI_true z]
    (try refine And.intro (by rfl) ?_); (conv => whnf); repeat (first | (refine sI (by rfl) ?_; conv => whnf) | (refine sD (by rfl) (by rfl) ?_; conv => whnf) | (generalize hE : keepE _ _ = e0; revert hE; apply kI; (repeat (first | exact kN _ | (apply kC; with_unfolding_all rfl; rfl))); rintro rfl; (conv => whnf); conv => whnf))
    exact ⟨_, rfl, no (by simp [z])⟩
  rw [neI_false z]
  subst z
  (try refine And.intro (by rfl) ?_); (conv => whnf); repeat (first | (refine sI (by rfl) ?_; conv => whnf) | (refine sD (by rfl) (by rfl) ?_; conv => whnf) | (generalize hE : keepE _ _ = e0; revert hE; apply kI; (repeat (first | exact kN _ | (apply kC; with_unfolding_all rfl; rfl))); rintro rfl; (conv => whnf); conv => whnf))
  by_cases z : a = a'
  case neg =>
    rw [beqB_false z]
    (try refine And.intro (by rfl) ?_); (conv => whnf); repeat (first | (refine sI (by rfl) ?_; conv => whnf) | (refine sD (by rfl) (by rfl) ?_; conv => whnf) | (generalize hE : keepE _ _ = e0; revert hE; apply kI; (repeat (first | exact kN _ | (apply kC; with_unfolding_all rfl; rfl))); rintro rfl; (conv => whnf); conv => whnf))
    exact ⟨_, rfl, no (by simp [z])⟩
  rw [beqB_true z]
  subst z
  (try refine And.intro (by rfl) ?_); (conv => whnf); repeat (first | (refine sI (by rfl) ?_; conv => whnf) | (refine sD (by rfl) (by rfl) ?_; conv => whnf) | (generalize hE : keepE _ _ = e0; revert hE; apply kI; (repeat (first | exact kN _ | (apply kC; with_unfolding_all rfl; rfl))); rintro rfl; (conv => whnf); conv => whnf))
  by_cases z : b = b'
  case neg =>
    rw [beqB_false z]
    (try refine And.intro (by rfl) ?_); (conv => whnf); repeat (first | (refine sI (by rfl) ?_; conv => whnf) | (refine sD (by rfl) (by rfl) ?_; conv => whnf) | (generalize hE : keepE _ _ = e0; revert hE; apply kI; (repeat (first | exact kN _ | (apply kC; with_unfolding_all rfl; rfl))); rintro rfl; (conv => whnf); conv => whnf))
    exact ⟨_, rfl, no (by simp [z])⟩
  rw [beqB_true z]
  subst z
  (try refine And.intro (by rfl) ?_); (conv => whnf); repeat (first | (refine sI (by rfl) ?_; conv => whnf) | (refine sD (by rfl) (by rfl) ?_; conv => whnf) | (generalize hE : keepE _ _ = e0; revert hE; apply kI; (repeat (first | exact kN _ | (apply kC; with_unfolding_all rfl; rfl))); rintro rfl; (conv => whnf); conv => whnf))
  by_cases z : c = c'
  case neg =>
    rw [beqB_false z]
    (try refine And.intro (by rfl) ?_); (conv => whnf); repeat (first | (refine sI (by rfl) ?_; conv => whnf) | (refine sD (by rfl) (by rfl) ?_; conv => whnf) | (generalize hE : keepE _ _ = e0; revert hE; apply kI; (repeat (first | exact kN _ | (apply kC; with_unfolding_all rfl; rfl))); rintro rfl; (conv => whnf); conv => whnf))
    exact ⟨_, rfl, no (by simp [z])⟩
  rw [beqB_true z]
  subst z
  (try refine And.intro (by rfl) ?_); (conv => whnf); repeat (first | (refine sI (by rfl) ?_; conv => whnf) | (refine sD (by rfl) (by rfl) ?_; conv => whnf) | (generalize hE : keepE _ _ = e0; revert hE; apply kI; (repeat (first | exact kN _ | (apply kC; with_unfolding_all rfl; rfl))); rintro rfl; (conv => whnf); conv => whnf))
  by_cases z : h = h'
  case neg =>
    rw [beqB_false z]
    (try refine And.intro (by rfl) ?_); (conv => whnf); repeat (first | (refine sI (by rfl) ?_; conv => whnf) | (refine sD (by rfl) (by rfl) ?_; conv => whnf) | (generalize hE : keepE _ _ = e0; revert hE; apply kI; (repeat (first | exact kN _ | (apply kC; with_unfolding_all rfl; rfl))); rintro rfl; (conv => whnf); conv => whnf))
    exact ⟨_, rfl, no (by simp [z])⟩
  rw [beqB_true z]
  subst z
  (try refine And.intro (by rfl) ?_); (conv => whnf); repeat (first | (refine sI (by rfl) ?_; conv => whnf) | (refine sD (by rfl) (by rfl) ?_; conv => whnf) | (generalize hE : keepE _ _ = e0; revert hE; apply kI; (repeat (first | exact kN _ | (apply kC; with_unfolding_all rfl; rfl))); rintro rfl; (conv => whnf); conv => whnf))
  by_cases z : t = t'
  case neg =>
    rw [beqB_false z]
    (try refine And.intro (by rfl) ?_); (conv => whnf); repeat (first | (refine sI (by rfl) ?_; conv => whnf) | (refine sD (by rfl) (by rfl) ?_; conv => whnf) | (generalize hE : keepE _ _ = e0; revert hE; apply kI; (repeat (first | exact kN _ | (apply kC; with_unfolding_all rfl; rfl))); rintro rfl; (conv => whnf); conv => whnf))
    exact ⟨_, rfl, no (by simp [z])⟩
  rw [beqB_true z]
  subst z
  (try refine And.intro (by rfl) ?_); (conv => whnf); repeat (first | (refine sI (by rfl) ?_; conv => whnf) | (refine sD (by rfl) (by rfl) ?_; conv => whnf) | (generalize hE : keepE _ _ = e0; revert hE; apply kI; (repeat (first | exact kN _ | (apply kC; with_unfolding_all rfl; rfl))); rintro rfl; (conv => whnf); conv => whnf))
  by_cases z : e = e'
  case neg =>
    rw [beqB_false z]
    (try refine And.intro (by rfl) ?_); (conv => whnf); repeat (first | (refine sI (by rfl) ?_; conv => whnf) | (refine sD (by rfl) (by rfl) ?_; conv => whnf) | (generalize hE : keepE _ _ = e0; revert hE; apply kI; (repeat (first | exact kN _ | (apply kC; with_unfolding_all rfl; rfl))); rintro rfl; (conv => whnf); conv => whnf))
    exact ⟨_, rfl, no (by simp [z])⟩
  rw [beqB_true z]
  subst z
  (try refine And.intro (by rfl) ?_); (conv => whnf); repeat (first | (refine sI (by rfl) ?_; conv => whnf) | (refine sD (by rfl) (by rfl) ?_; conv => whnf) | (generalize hE : keepE _ _ = e0; revert hE; apply kI; (repeat (first | exact kN _ | (apply kC; with_unfolding_all rfl; rfl))); rintro rfl; (conv => whnf); conv => whnf))
  by_cases z : f = f'
  case neg =>
    rw [neI_true z]
    (try refine And.intro (by rfl) ?_); (conv => whnf); repeat (first | (refine sI (by rfl) ?_; conv => whnf) | (refine sD (by rfl) (by rfl) ?_; conv => whnf) | (generalize hE : keepE _ _ = e0; revert hE; apply kI; (repeat (first | exact kN _ | (apply kC; with_unfolding_all rfl; rfl))); rintro rfl; (conv => whnf); conv => whnf))
    exact ⟨_, rfl, no (by simp [z])⟩
  rw [neI_false z]
  subst z
  (try refine And.intro (by rfl) ?_); (conv => whnf); repeat (first | (refine sI (by rfl) ?_; conv => whnf) | (refine sD (by rfl) (by rfl) ?_; conv => whnf) | (generalize hE : keepE _ _ = e0; revert hE; apply kI; (repeat (first | exact kN _ | (apply kC; with_unfolding_all rfl; rfl))); rintro rfl; (conv => whnf); conv => whnf))
  by_cases z : ((encNs kids).length : Int) = (encNs kids').length
  case neg =>
    rw [neI_true z]
    (try refine And.intro (by rfl) ?_); (conv => whnf); repeat (first | (refine sI (by rfl) ?_; conv => whnf) | (refine sD (by rfl) (by rfl) ?_; conv => whnf) | (generalize hE : keepE _ _ = e0; revert hE; apply kI; (repeat (first | exact kN _ | (apply kC; with_unfolding_all rfl; rfl))); rintro rfl; (conv => whnf); conv => whnf))
    exact ⟨_, rfl, no fun hh => z (by obtain ⟨_, _, _, _, _, _, h7, h8, _⟩ := hh; rw [h7])⟩
  rw [neI_false z]
  have z3 := z
  clear z
  (try refine And.intro (by rfl) ?_); (conv => whnf); repeat (first | (refine sI (by rfl) ?_; conv => whnf) | (refine sD (by rfl) (by rfl) ?_; conv => whnf) | (generalize hE : keepE _ _ = e0; revert hE; apply kI; (repeat (first | exact kN _ | (apply kC; with_unfolding_all rfl; rfl))); rintro rfl; (conv => whnf); conv => whnf))
  by_cases z : ((strs seps).length : Int) = (strs seps').length
  case neg =>
    rw [neI_true z]
    (try refine And.intro (by rfl) ?_); (conv => whnf); repeat (first | (refine sI (by rfl) ?_; conv => whnf) | (refine sD (by rfl) (by rfl) ?_; conv => whnf) | (generalize hE : keepE _ _ = e0; revert hE; apply kI; (repeat (first | exact kN _ | (apply kC; with_unfolding_all rfl; rfl))); rintro rfl; (conv => whnf); conv => whnf))
    exact ⟨_, rfl, no fun hh => z (by obtain ⟨_, _, _, _, _, _, h7, h8, _⟩ := hh; rw [h8])⟩
  rw [neI_false z]
  have z4 := z
  clear z
  (try refine And.intro (by rfl) ?_); (conv => whnf); repeat (first | (refine sI (by rfl) ?_; conv => whnf) | (refine sD (by rfl) (by rfl) ?_; conv => whnf) | (generalize hE : keepE _ _ = e0; revert hE; apply kI; (repeat (first | exact kN _ | (apply kC; with_unfolding_all rfl; rfl))); rintro rfl; (conv => whnf); conv => whnf))
  refine call_pf hm (by rfl) hP ?_
  (try refine And.intro (by rfl) ?_); (conv => whnf); repeat (first | (refine sI (by rfl) ?_; conv => whnf) | (refine sD (by rfl) (by rfl) ?_; conv => whnf) | (generalize hE : keepE _ _ = e0; revert hE; apply kI; (repeat (first | exact kN _ | (apply kC; with_unfolding_all rfl; rfl))); rintro rfl; (conv => whnf); conv => whnf))
  by_cases z : leaf = leaf'
  case neg =>
    rw [eqT_false z]
    (try refine And.intro (by rfl) ?_); (conv => whnf); repeat (first | (refine sI (by rfl) ?_; conv => whnf) | (refine sD (by rfl) (by rfl) ?_; conv => whnf) | (generalize hE : keepE _ _ = e0; revert hE; apply kI; (repeat (first | exact kN _ | (apply kC; with_unfolding_all rfl; rfl))); rintro rfl; (conv => whnf); conv => whnf))
    exact ⟨_, rfl, no (by simp [z])⟩
  rw [eqT_true z]
  subst z
  (try refine And.intro (by rfl) ?_); (conv => whnf); repeat (first | (refine sI (by rfl) ?_; conv => whnf) | (refine sD (by rfl) (by rfl) ?_; conv => whnf) | (generalize hE : keepE _ _ = e0; revert hE; apply kI; (repeat (first | exact kN _ | (apply kC; with_unfolding_all rfl; rfl))); rintro rfl; (conv => whnf); conv => whnf))
  refine loop_rule hm (α := Nat) (fun i env S' => i ≤ seps.length ∧ env = E_same (.mk k a b c leaf h kids seps t e f) (.mk k a b c leaf h kids' seps' t e f) i ∧ S' = St.init ∧ seps.take i = seps'.take i) (fun i => seps.length - i) ?_ (a := 0) ⟨Nat.zero_le _, rfl, rfl, rfl⟩
  rintro i env S' ⟨hi, rfl, rfl, hp⟩
  (try refine And.intro (by rfl) ?_); (conv => whnf); repeat (first | (refine sI (by rfl) ?_; conv => whnf) | (refine sD (by rfl) (by rfl) ?_; conv => whnf) | (generalize hE : keepE _ _ = e0; revert hE; apply kI; (repeat (first | exact kN _ | (apply kC; with_unfolding_all rfl; rfl))); rintro rfl; (conv => whnf); conv => whnf))
  by_cases hc : (i : Int) < (strs seps).length
  · rw [decide_eq_true hc]
    (try refine And.intro (by rfl) ?_); (conv => whnf); repeat (first | (refine sI (by rfl) ?_; conv => whnf) | (refine sD (by rfl) (by rfl) ?_; conv => whnf) | (generalize hE : keepE _ _ = e0; revert hE; apply kI; (repeat (first | exact kN _ | (apply kC; with_unfolding_all rfl; rfl))); rintro rfl; (conv => whnf); conv => whnf))
    have hik : i < seps.length := by omega
    have hik' : i < seps'.length := by omega
    refine step_ruleDO rfl rfl (sx_ia (k := i) rfl rfl (by omega)) ?_
    (try refine And.intro (by rfl) ?_); (conv => whnf); repeat (first | (refine sI (by rfl) ?_; conv => whnf) | (refine sD (by rfl) (by rfl) ?_; conv => whnf) | (generalize hE : keepE _ _ = e0; revert hE; apply kI; (repeat (first | exact kN _ | (apply kC; with_unfolding_all rfl; rfl))); rintro rfl; (conv => whnf); conv => whnf))
    refine step_ruleDO rfl rfl (sx_ldEl (agg := false) rfl rfl (strs_at hik) rfl) ?_
    (try refine And.intro (by rfl) ?_); (conv => whnf); repeat (first | (refine sI (by rfl) ?_; conv => whnf) | (refine sD (by rfl) (by rfl) ?_; conv => whnf) | (generalize hE : keepE _ _ = e0; revert hE; apply kI; (repeat (first | exact kN _ | (apply kC; with_unfolding_all rfl; rfl))); rintro rfl; (conv => whnf); conv => whnf))
    refine step_ruleDO rfl rfl (sx_ia (k := i) rfl rfl (by omega)) ?_
    (try refine And.intro (by rfl) ?_); (conv => whnf); repeat (first | (refine sI (by rfl) ?_; conv => whnf) | (refine sD (by rfl) (by rfl) ?_; conv => whnf) | (generalize hE : keepE _ _ = e0; revert hE; apply kI; (repeat (first | exact kN _ | (apply kC; with_unfolding_all rfl; rfl))); rintro rfl; (conv => whnf); conv => whnf))
    refine step_ruleDO rfl rfl (sx_ldEl (agg := false) rfl rfl (strs_at hik') rfl) ?_
    (try refine And.intro (by rfl) ?_); (conv => whnf); repeat (first | (refine sI (by rfl) ?_; conv => whnf) | (refine sD (by rfl) (by rfl) ?_; conv => whnf) | (generalize hE : keepE _ _ = e0; revert hE; apply kI; (repeat (first | exact kN _ | (apply kC; with_unfolding_all rfl; rfl))); rintro rfl; (conv => whnf); conv => whnf))
    by_cases z : seps[i] = seps'[i]
    · rw [beqB_true z]
      (try refine And.intro (by rfl) ?_); (conv => whnf); repeat (first | (refine sI (by rfl) ?_; conv => whnf) | (refine sD (by rfl) (by rfl) ?_; conv => whnf) | (generalize hE : keepE _ _ = e0; revert hE; apply kI; (repeat (first | exact kN _ | (apply kC; with_unfolding_all rfl; rfl))); rintro rfl; (conv => whnf); conv => whnf))
      refine ⟨i + 1, ⟨by omega, ?_, rfl, ?_⟩, by omega⟩
      · rw [wrNat (by omega)]; try rfl
      · rw [List.take_succ_eq_append_getElem hik, List.take_succ_eq_append_getElem hik', hp, z]
    · rw [beqB_false z]
      (try refine And.intro (by rfl) ?_); (conv => whnf); repeat (first | (refine sI (by rfl) ?_; conv => whnf) | (refine sD (by rfl) (by rfl) ?_; conv => whnf) | (generalize hE : keepE _ _ = e0; revert hE; apply kI; (repeat (first | exact kN _ | (apply kC; with_unfolding_all rfl; rfl))); rintro rfl; (conv => whnf); conv => whnf))
      exact ⟨_, rfl, no fun hh => by obtain ⟨_, _, _, _, _, _, _, rfl, _⟩ := hh; exact z rfl⟩
  rw [decide_eq_false hc]
  (try refine And.intro (by rfl) ?_); (conv => whnf); repeat (first | (refine sI (by rfl) ?_; conv => whnf) | (refine sD (by rfl) (by rfl) ?_; conv => whnf) | (generalize hE : keepE _ _ = e0; revert hE; apply kI; (repeat (first | exact kN _ | (apply kC; with_unfolding_all rfl; rfl))); rintro rfl; (conv => whnf); conv => whnf))
  have hseps : seps = seps' := by
    rwa [List.take_of_length_le (by omega), List.take_of_length_le (by omega)] at hp
  clear hc hi hp
  refine loop_rule hm (α := Nat) (fun i env S' => i ≤ kids.length ∧ env = E_same2 (.mk k a b c leaf h kids seps t e f) (.mk k a b c leaf h kids' seps' t e f) i ∧ S' = St.init ∧ kids.take i = kids'.take i) (fun i => kids.length - i) ?_ (a := 0) ⟨Nat.zero_le _, rfl, rfl, rfl⟩
  rintro i env S' ⟨hi, rfl, rfl, hp⟩
  (try refine And.intro (by rfl) ?_); (conv => whnf); repeat (first | (refine sI (by rfl) ?_; conv => whnf) | (refine sD (by rfl) (by rfl) ?_; conv => whnf) | (generalize hE : keepE _ _ = e0; revert hE; apply kI; (repeat (first | exact kN _ | (apply kC; with_unfolding_all rfl; rfl))); rintro rfl; (conv => whnf); conv => whnf))
  by_cases hc : (i : Int) < (encNs kids).length
  · rw [decide_eq_true hc]
    (try refine And.intro (by rfl) ?_); (conv => whnf); repeat (first | (refine sI (by rfl) ?_; conv => whnf) | (refine sD (by rfl) (by rfl) ?_; conv => whnf) | (generalize hE : keepE _ _ = e0; revert hE; apply kI; (repeat (first | exact kN _ | (apply kC; with_unfolding_all rfl; rfl))); rintro rfl; (conv => whnf); conv => whnf))
    have hik : i < kids.length := by omega
    have hik' : i < kids'.length := by omega
    refine step_ruleDO rfl rfl (sx_ia (k := i) rfl rfl (by omega)) ?_
    (try refine And.intro (by rfl) ?_); (conv => whnf); repeat (first | (refine sI (by rfl) ?_; conv => whnf) | (refine sD (by rfl) (by rfl) ?_; conv => whnf) | (generalize hE : keepE _ _ = e0; revert hE; apply kI; (repeat (first | exact kN _ | (apply kC; with_unfolding_all rfl; rfl))); rintro rfl; (conv => whnf); conv => whnf))
    refine step_ruleDO rfl rfl (sx_ldEl (agg := true) rfl rfl (encNs_get hik) (rdN _)) ?_
    (try refine And.intro (by rfl) ?_); (conv => whnf); repeat (first | (refine sI (by rfl) ?_; conv => whnf) | (refine sD (by rfl) (by rfl) ?_; conv => whnf) | (generalize hE : keepE _ _ = e0; revert hE; apply kI; (repeat (first | exact kN _ | (apply kC; with_unfolding_all rfl; rfl))); rintro rfl; (conv => whnf); conv => whnf))
    refine step_ruleDO rfl rfl (sx_ia (k := i) rfl rfl (by omega)) ?_
    (try refine And.intro (by rfl) ?_); (conv => whnf); repeat (first | (refine sI (by rfl) ?_; conv => whnf) | (refine sD (by rfl) (by rfl) ?_; conv => whnf) | (generalize hE : keepE _ _ = e0; revert hE; apply kI; (repeat (first | exact kN _ | (apply kC; with_unfolding_all rfl; rfl))); rintro rfl; (conv => whnf); conv => whnf))
    refine step_ruleDO rfl rfl (sx_ldEl (agg := true) rfl rfl (encNs_get hik') (rdN _)) ?_
    (try refine And.intro (by rfl) ?_); (conv => whnf); repeat (first | (refine sI (by rfl) ?_; conv => whnf) | (refine sD (by rfl) (by rfl) ?_; conv => whnf) | (generalize hE : keepE _ _ = e0; revert hE; apply kI; (repeat (first | exact kN _ | (apply kC; with_unfolding_all rfl; rfl))); rintro rfl; (conv => whnf); conv => whnf))
    refine call_pfD hm (by rfl) (ih _ (kidN_lt hik) _ (PN.oks_get hik q4)) ?_
    (try refine And.intro (by rfl) ?_); (conv => whnf); repeat (first | (refine sI (by rfl) ?_; conv => whnf) | (refine sD (by rfl) (by rfl) ?_; conv => whnf) | (generalize hE : keepE _ _ = e0; revert hE; apply kI; (repeat (first | exact kN _ | (apply kC; with_unfolding_all rfl; rfl))); rintro rfl; (conv => whnf); conv => whnf))
    by_cases z : kids[i] = kids'[i]
    · rw [eqN_true z]
      (try refine And.intro (by rfl) ?_); (conv => whnf); repeat (first | (refine sI (by rfl) ?_; conv => whnf) | (refine sD (by rfl) (by rfl) ?_; conv => whnf) | (generalize hE : keepE _ _ = e0; revert hE; apply kI; (repeat (first | exact kN _ | (apply kC; with_unfolding_all rfl; rfl))); rintro rfl; (conv => whnf); conv => whnf))
      refine ⟨i + 1, ⟨by omega, ?_, rfl, ?_⟩, by omega⟩
      · rw [wrNat (by omega)]; try rfl
      · rw [List.take_succ_eq_append_getElem hik, List.take_succ_eq_append_getElem hik', hp, z]
    · rw [eqN_false z]
      (try refine And.intro (by rfl) ?_); (conv => whnf); repeat (first | (refine sI (by rfl) ?_; conv => whnf) | (refine sD (by rfl) (by rfl) ?_; conv => whnf) | (generalize hE : keepE _ _ = e0; revert hE; apply kI; (repeat (first | exact kN _ | (apply kC; with_unfolding_all rfl; rfl))); rintro rfl; (conv => whnf); conv => whnf))
      exact ⟨_, rfl, no fun hh => by obtain ⟨_, _, _, _, _, _, rfl, _⟩ := hh; exact z rfl⟩
  rw [decide_eq_false hc]
  (try refine And.intro (by rfl) ?_); (conv => whnf); repeat (first | (refine sI (by rfl) ?_; conv => whnf) | (refine sD (by rfl) (by rfl) ?_; conv => whnf) | (generalize hE : keepE _ _ = e0; revert hE; apply kI; (repeat (first | exact kN _ | (apply kC; with_unfolding_all rfl; rfl))); rintro rfl; (conv => whnf); conv => whnf))
  have hkids : kids = kids' := by
    rwa [List.take_of_length_le (by omega), List.take_of_length_le (by omega)] at hp
  refine ⟨_, rfl, ?_⟩
  rw [eqN_true (by rw [hseps, hkids])]
  exact Ret.sta trivial
end
end Go.Dn

namespace Go.Dn
open Go Go.Proofs.C1
set_option maxRecDepth 100000
attribute [local irreducible] afterS keepE

/-! ### a list of one's own is written in place -/
theorem Hs.front {S : St} {R L : List Rs} (h : Hs S (R ++ L)) : Hs S R :=
  h.less id (fun i j _ _ e => e) fun i hi => by rw [id, List.getElem?_append_left hi]

/-- a slice that has grown, and may have been written since -/
def Wrt (S : St) (R : List Rs) (es : Nat) (o : SI) (xs : List AV) : Prop :=
  (xs.flatMap AV.cells).length = xs.length * es ∧ ((∃ ty, Hs S (R ++ [.gr ty o xs])) ∨ ∃ ty t l b cs, o = ⟨some (t, l), 0, none, false⟩ ∧ cs.length = xs.length * es ∧ Hs S ((R ++ [.bx b ty cs]) ++ [.mk t l b]))

theorem Wrt.front {S : St} {R : List Rs} {es : Nat} {o : SI} {xs : List AV} (h : Wrt S R es o xs) : Hs S R := by
  rcases h.2 with ⟨_, h⟩ | ⟨_, _, _, _, _, _, _, h⟩
  · exact h.front
  · exact h.front.front

theorem splice_len {cs new : List AV} {off : Nat} (h : off + new.length ≤ cs.length) : (splice cs off new).length = cs.length := by
  simp only [splice, List.length_append, List.length_take, List.length_drop]; omega

theorem blt_true {a b : Nat} (h : a < b) : Nat.blt a b = true := Nat.ble_eq_true_of_le h

theorem wrt_st {gt : GT} {S : St} {R : List Rs} {es : Nat} {o : SI} {xs : List AV} (h : Wrt S R es o xs) {d : Option Nat} {env : Env} {a x : DOpd} {k off sz : Nat} {v : AV}
    (ha : loc env a = some (.el es o xs k off)) (hx : opd env x = some v) (hv : (Nat.beq v.cells.length sz && v.cells.all ok1) = true) (hk : k < xs.length) (ho : off + v.cells.length ≤ es) :
    ∃ S', stepO gt d env S (.st sz a x) = .done (putV d .undef env) S' ∧ Wrt S' R es o xs := by
  obtain ⟨hc, h⟩ := h
  have hmul : (k + 1) * es ≤ xs.length * es := Nat.mul_le_mul_right _ hk
  rw [Nat.add_mul] at hmul
  rcases h with ⟨ty, h⟩ | ⟨ty, t, l, b, cs, rfl, hcs, h⟩
  · have hg := h.ok R.length _ (by rw [List.getElem?_append_right (Nat.le_refl _), Nat.sub_self]; rfl)
    rcases hg with ⟨_, _, _, rfl⟩ | ⟨t, l, rfl, h1, h2, h5, h3, h4⟩
    · simp at hk
    have hrd : rd S ⟨some (t, l), 0, none, false⟩ = .here := by simp only [rd, h3, h4]
    have hguard : (Nat.beq 0 0 && (Nat.beq xs.length xs.length && (Nat.blt k xs.length && Nat.ble (off + v.cells.length) es))) = true := by
      rw [Nat.beq_refl, Nat.beq_refl, blt_true hk, ble_true ho]; rfl
    refine ⟨{ S with nb := S.nb + 1, boxes := (S.nb, some (ty, splice (xs.flatMap AV.cells) (k * es + off) v.cells)) :: (S.nb, some (ty, xs.flatMap AV.cells)) :: S.boxes, mv := (t, .bx S.nb 0) :: S.mv, dl := (l, ()) :: S.dl, tip := (t, none) :: S.tip }, ?_, hc, .inr ⟨ty, t, l, S.nb, splice (xs.flatMap AV.cells) (k * es + off) v.cells, rfl, by rw [splice_len (by rw [hc]; omega), hc], ?_⟩⟩
    · simp only [stepO, ha, hx, hv, cond_true, stL, hrd, h5, hguard]
    · have hset : (R ++ [Rs.gr ty ⟨some (t, l), 0, none, false⟩ xs]).set R.length (.bx S.nb ty (splice (xs.flatMap AV.cells) (k * es + off) v.cells)) = R ++ [Rs.bx S.nb ty (splice (xs.flatMap AV.cells) (k * es + off) v.cells)] := by simp
      have hR : ∀ (j : Nat) (s : Rs), j ≠ R.length → (R ++ [.gr ty ⟨some (t, l), 0, none, false⟩ xs])[j]? = some s → RsDj (.gr ty ⟨some (t, l), 0, none, false⟩ xs) s := fun j s hj hs =>
        h.dj R.length j _ s (fun e => hj e.symm) (by rw [List.getElem?_append_right (Nat.le_refl _), Nat.sub_self]; rfl) hs
      have hw' : Wf { S with nb := S.nb + 1, boxes := (S.nb, some (ty, splice (xs.flatMap AV.cells) (k * es + off) v.cells)) :: (S.nb, some (ty, xs.flatMap AV.cells)) :: S.boxes, mv := (t, .bx S.nb 0) :: S.mv, dl := (l, ()) :: S.dl, tip := (t, none) :: S.tip } := fun q hq => by
        have := h.wf q hq
        simp only at hq ⊢
        exact ⟨by rw [lk_ne _ _ (by omega)]; exact this.1, by rw [lk_ne _ _ (by omega)]; exact this.2⟩
      have h' := h.turn (T := fun q => q = t) (L := fun q => q = l) (M := fun _ => False) (B := fun _ => False) (i := R.length) (r' := .bx S.nb ty (splice (xs.flatMap AV.cells) (k * es + off) v.cells)) hw'
        ⟨Nat.le_refl _, Nat.le_succ _, Nat.le_refl _, fun q hq hne => ⟨lk_ne _ _ (fun e => hne e.symm), lk_ne _ _ (fun e => hne e.symm)⟩, fun q hq hne => lk_ne _ _ (fun e => hne e.symm), fun q m hq hm => ?_, fun _ _ _ => rfl, fun q hq _ => ?_⟩ (fun j s hj hs => ?_) ⟨Nat.lt_succ_self _, lk_same _ _ _⟩ (fun j s hj hs => ?_)
      · rw [hset] at h'
        exact h'.more hw' ⟨Nat.le_refl _, Nat.le_refl _, Nat.le_refl _, fun _ _ _ => ⟨rfl, rfl⟩, fun _ _ _ => rfl, fun _ _ _ h => h, fun _ _ _ => rfl, fun _ _ _ => rfl⟩ (r' := .mk t l S.nb) ⟨h1, h2, lk_same _ _ _⟩ fun j s _ => by cases s <;> trivial
      · by_cases e : q = t
        · subst e; rw [h3] at hm; cases hm
        · show lk ((t, _) :: S.mv) q = _
          rw [lk_ne _ _ (fun e' => e e'.symm)]; exact hm
      · show lk ((S.nb, _) :: (S.nb, _) :: S.boxes) q = _
        rw [lk_ne _ _ (by omega), lk_ne _ _ (by omega)]
      · have hd := hR j s hj hs
        cases s with
        | gr ty2 o2 zs => intro t2 l2 e2; exact ⟨fun e => (hd t l t2 l2 rfl e2).1 e.symm, fun e => (hd t l t2 l2 rfl e2).2 e.symm⟩
        | _ => simp [Rs.off]
      · have hsk := h.ok j s hs
        cases s with
        | bx i ty2 es2 => intro e; have := hsk.1; omega
        | _ => trivial
  · have e1 : ((R ++ [.bx b ty cs]) ++ [.mk t l b])[R.length]? = some (.bx b ty cs) := by simp
    have e2 : ((R ++ [.bx b ty cs]) ++ [.mk t l b])[R.length + 1]? = some (.mk t l b) := by simp
    have hb := (h.ok _ _ e1).2
    have hm := h.ok _ _ e2
    have hg : (Nat.ble (off + v.cells.length) es && (Nat.blt k xs.length && Nat.ble (0 + (0 + k) * es + off + v.cells.length) cs.length)) = true := by
      rw [ble_true ho, blt_true hk, ble_true (by rw [hcs, Nat.zero_add, Nat.zero_add]; omega)]; rfl
    refine ⟨{ S with boxes := (b, some (ty, splice cs (0 + (0 + k) * es + off) v.cells)) :: S.boxes }, ?_, hc, .inr ⟨ty, t, l, b, splice cs (0 + (0 + k) * es + off) v.cells, rfl, by rw [splice_len (by rw [hcs, Nat.zero_add, Nat.zero_add]; omega), hcs], ?_⟩⟩
    · have hrd : rd S ⟨some (t, l), 0, none, false⟩ = .box b 0 := by simp only [rd, hm.2.2]
      simp only [stepO, ha, hx, hv, cond_true, stL, hrd, hb, hg]
    · have := h.boxTo e1 (splice cs (0 + (0 + k) * es + off) v.cells)
      rwa [show ((R ++ [Rs.bx b ty cs]) ++ [Rs.mk t l b]).set R.length (Rs.bx b ty (splice cs (0 + (0 + k) * es + off) v.cells)) = (R ++ [Rs.bx b ty (splice cs (0 + (0 + k) * es + off) v.cells)]) ++ [Rs.mk t l b] by simp] at this

theorem st_runP {C : CallT} {gt : GT} {d : Option Nat} {op : DOp} {gd : Option (Nat × Bool)} {env env' : Env} {S : St} {P : St → Prop} {K : Env → St → Prop} {Q : Ex → Env → St → Prop} (h : ∃ S', stepO gt d env S op = .done env' S' ∧ P S') (hg : Gd env gd) (k : ∀ S', P S' → K env' S') : afterS C d env S K Q (stepI gt ⟨d, op, gd⟩ env S) := by
  obtain ⟨S', h1, h2⟩ := h
  exact st_any hg h1 (k S' h2)

section
variable {gt : GT} {C : CallT}

/-- a copy of a tree, its lists one's own -/
def OwnT (t : PT) (r : Res) (S : St) : Prop := ∃ o1 o2, r = .ret (.agg [.int .i64 t.k, .str t.s, .sl 1 o1 (strs t.keys), .sl 4 o2 (encTs t.kids)]) ∧ Hs S [.gr 9 o1 (strs t.keys), .gr 25 o2 (encTs t.kids)]

set_option maxHeartbeats 2000000 in
theorem copyOwn_wp (hm : MonoC C) {t : PT} (ih : ∀ u, u.ok → PF C 49 [encT u] (encT u)) (hk : t.ok) : wpF gt C F49 [encT t] St.init (OwnT t) := by
  obtain ⟨k, s, keys, kids⟩ := t
  simp only [PT.ok] at hk
  obtain ⟨hk1, hk2, hk3⟩ := hk
  refine ⟨rfl, ?_⟩
  have hR := (Hs.init.addNil 9 true).addNil 25 true
  (try refine And.intro (by rfl) ?_); (conv => whnf); repeat (first | (refine sI (by rfl) ?_; conv => whnf) | (refine sD (by rfl) (by rfl) ?_; conv => whnf) | (generalize hE : keepE _ _ = e0; revert hE; apply kI; (repeat (first | exact kN _ | (apply kC; with_unfolding_all rfl; rfl))); rintro rfl; (conv => whnf); conv => whnf))
  refine r_app hR 0 rfl trivial rfl rfl rfl (by rw [strs_length]; simpa using hk1) (by rw [strs_length]; simp; omega) (by decide) (by decide) (cells_strs keys) ?_
  intro o1 S1 hR
  (try refine And.intro (by rfl) ?_); (conv => whnf); repeat (first | (refine sI (by rfl) ?_; conv => whnf) | (refine sD (by rfl) (by rfl) ?_; conv => whnf) | (generalize hE : keepE _ _ = e0; revert hE; apply kI; (repeat (first | exact kN _ | (apply kC; with_unfolding_all rfl; rfl))); rintro rfl; (conv => whnf); conv => whnf))
  have hlen := encTs_len kids
  refine loop_rule hm (α := Nat) (fun i env S' => i ≤ kids.length ∧ ∃ o2, Hs S' [.gr 9 o1 (strs keys), .gr 25 o2 (encTs (kids.take i))] ∧ env = E_copy (.mk k s keys kids) k s keys o1 o2 kids (kids.take i) i) (fun i => kids.length - i) ?_ (a := 0) ⟨Nat.zero_le _, _, hR, rfl⟩
  rintro i env S' ⟨hi, o2, hR, rfl⟩
  (try refine And.intro (by rfl) ?_); (conv => whnf); repeat (first | (refine sI (by rfl) ?_; conv => whnf) | (refine sD (by rfl) (by rfl) ?_; conv => whnf) | (generalize hE : keepE _ _ = e0; revert hE; apply kI; (repeat (first | exact kN _ | (apply kC; with_unfolding_all rfl; rfl))); rintro rfl; (conv => whnf); conv => whnf))
  by_cases h : (i : Int) < (encTs kids).length
  · rw [decide_eq_true h]
    (try refine And.intro (by rfl) ?_); (conv => whnf); repeat (first | (refine sI (by rfl) ?_; conv => whnf) | (refine sD (by rfl) (by rfl) ?_; conv => whnf) | (generalize hE : keepE _ _ = e0; revert hE; apply kI; (repeat (first | exact kN _ | (apply kC; with_unfolding_all rfl; rfl))); rintro rfl; (conv => whnf); conv => whnf))
    have hik : i < kids.length := by omega
    refine step_ruleO (sx_ia (k := i) rfl rfl (by omega)) ?_
    (try refine And.intro (by rfl) ?_); (conv => whnf); repeat (first | (refine sI (by rfl) ?_; conv => whnf) | (refine sD (by rfl) (by rfl) ?_; conv => whnf) | (generalize hE : keepE _ _ = e0; revert hE; apply kI; (repeat (first | exact kN _ | (apply kC; with_unfolding_all rfl; rfl))); rintro rfl; (conv => whnf); conv => whnf))
    refine step_ruleO (sx_ldEl (agg := true) rfl rfl (encTs_get hik) (rdT _)) ?_
    have ihk := ih _ (PT.oks_get hk3 (List.getElem?_eq_getElem hik))
    have hok := encT_ok kids[i]
    have hts : encTs (kids.take (i + 1)) = encTs (kids.take i) ++ [encT kids[i]] := by rw [List.take_succ_eq_append_getElem hik, encTs_app]; rfl
    obtain ⟨ka, sa, xa, ya, he⟩ := encT_agg kids[i]
    rw [he] at ihk hts hok ⊢
    (try refine And.intro (by rfl) ?_); (conv => whnf); repeat (first | (refine sI (by rfl) ?_; conv => whnf) | (refine sD (by rfl) (by rfl) ?_; conv => whnf) | (generalize hE : keepE _ _ = e0; revert hE; apply kI; (repeat (first | exact kN _ | (apply kC; with_unfolding_all rfl; rfl))); rintro rfl; (conv => whnf); conv => whnf))
    refine call_pfD hm (by rfl) ihk ?_
    (try refine And.intro (by rfl) ?_); (conv => whnf); repeat (first | (refine sI (by rfl) ?_; conv => whnf) | (refine sD (by rfl) (by rfl) ?_; conv => whnf) | (generalize hE : keepE _ _ = e0; revert hE; apply kI; (repeat (first | exact kN _ | (apply kC; with_unfolding_all rfl; rfl))); rintro rfl; (conv => whnf); conv => whnf))
    have hlt : (encTs (kids.take i)).length = i := by rw [encTs_len, List.length_take]; omega
    refine r_appD hR 1 rfl (by trivial) rfl rfl rfl (by rw [hlt]; simp; omega) (by rw [hlt]; simp; omega) (by decide) (by decide) hok ?_
    intro o3 S3 hR
    (try refine And.intro (by rfl) ?_); (conv => whnf); repeat (first | (refine sI (by rfl) ?_; conv => whnf) | (refine sD (by rfl) (by rfl) ?_; conv => whnf) | (generalize hE : keepE _ _ = e0; revert hE; apply kI; (repeat (first | exact kN _ | (apply kC; with_unfolding_all rfl; rfl))); rintro rfl; (conv => whnf); conv => whnf))
    refine ⟨i + 1, ⟨by omega, o3, by rw [hts]; exact hR, ?_⟩, by omega⟩
    rw [wrNat (by omega)]
    simp only [E_copy, hts]
    try rfl
  · rw [decide_eq_false h]
    (try refine And.intro (by rfl) ?_); (conv => whnf); repeat (first | (refine sI (by rfl) ?_; conv => whnf) | (refine sD (by rfl) (by rfl) ?_; conv => whnf) | (generalize hE : keepE _ _ = e0; revert hE; apply kI; (repeat (first | exact kN _ | (apply kC; with_unfolding_all rfl; rfl))); rintro rfl; (conv => whnf); conv => whnf))
    have : kids.take i = kids := List.take_of_length_le (by omega)
    rw [this] at hR ⊢
    exact ⟨_, rfl, o1, o2, rfl, hR⟩

abbrev E_copyO (k : Int) (a b c : List UInt8) (leaf : PT) (h : List UInt8) (all kids : List PN) (seps : List (List UInt8)) (t' e : List UInt8) (f : Int) (p1 p2 o1 o2 : SI) (i : Int) : Env :=
  [(2, .box zN), (3, .box [.int .i64 k, .str a, .str b, .str c, .int .i64 leaf.k, .str leaf.s, .sl 1 p1 (strs leaf.keys), .sl 4 p2 (encTs leaf.kids), .str h, .sl 14 o2 (encNs kids), .sl 1 o1 (strs seps), .str t', .str e, .int .i64 f]),
   (17, .val (.sl 14 stat (encNs all))), (18, .val (.int .i64 (encNs all).length)), (19, .val (.int .i64 i))]

/-- a copy of a node, its lists one's own -/
def OwnN : PN → Res → St → Prop
  | .mk k a b c leaf h kids seps t e f, r, S => ∃ p1 p2 o1 o2, r = .ret (.agg [.int .i64 k, .str a, .str b, .str c, .int .i64 leaf.k, .str leaf.s, .sl 1 p1 (strs leaf.keys), .sl 4 p2 (encTs leaf.kids), .str h, .sl 14 o2 (encNs kids), .sl 1 o1 (strs seps), .str t, .str e, .int .i64 f]) ∧
    Hs S [.gr 9 p1 (strs leaf.keys), .gr 25 p2 (encTs leaf.kids), .gr 9 o1 (strs seps), .gr 28 o2 (encNs kids)]

set_option maxHeartbeats 2000000 in
theorem copyNOwn_wp (hm : MonoC C) (h3 : ∀ u : PT, u.ok → C 49 [encT u] St.init (OwnT u)) {t : PN} (ih : ∀ u, u.ok → PF C 24 [encN u] (encN u)) (hk : t.ok) : wpF gt C F24 [encN t] St.init (OwnN t) := by
  obtain ⟨k, a, b, c, leaf, h, kids, seps, t, e, f⟩ := t
  simp only [PN.ok] at hk
  obtain ⟨q1, q2, q3, q4⟩ := hk
  refine ⟨rfl, ?_⟩
  have h3 := h3 leaf q1
  rw [encT_eq] at h3
  (try refine And.intro (by rfl) ?_); (conv => whnf); repeat (first | (refine sI (by rfl) ?_; conv => whnf) | (refine sD (by rfl) (by rfl) ?_; conv => whnf) | (generalize hE : keepE _ _ = e0; revert hE; apply kI; (repeat (first | exact kN _ | (apply kC; with_unfolding_all rfl; rfl))); rintro rfl; (conv => whnf); conv => whnf))
  refine call_rule (by rfl) (hm _ _ _ _ _ h3 ?_)
  rintro r S0 ⟨p1, p2, rfl, hR⟩
  have hR := (hR.addNil 9 true).addNil 28 true
  (try refine And.intro (by rfl) ?_); (conv => whnf); repeat (first | (refine sI (by rfl) ?_; conv => whnf) | (refine sD (by rfl) (by rfl) ?_; conv => whnf) | (generalize hE : keepE _ _ = e0; revert hE; apply kI; (repeat (first | exact kN _ | (apply kC; with_unfolding_all rfl; rfl))); rintro rfl; (conv => whnf); conv => whnf))
  refine r_app hR 2 rfl trivial rfl rfl rfl (by rw [strs_length]; simpa using q3) (by rw [strs_length]; simp; omega) (by decide) (by decide) (cells_strs seps) ?_
  intro o1 S1 hR
  (try refine And.intro (by rfl) ?_); (conv => whnf); repeat (first | (refine sI (by rfl) ?_; conv => whnf) | (refine sD (by rfl) (by rfl) ?_; conv => whnf) | (generalize hE : keepE _ _ = e0; revert hE; apply kI; (repeat (first | exact kN _ | (apply kC; with_unfolding_all rfl; rfl))); rintro rfl; (conv => whnf); conv => whnf))
  have hlen := encNs_len kids
  refine loop_rule hm (α := Nat) (fun i env S' => i ≤ kids.length ∧ ∃ o2, Hs S' [.gr 9 p1 (strs leaf.keys), .gr 25 p2 (encTs leaf.kids), .gr 9 o1 (strs seps), .gr 28 o2 (encNs (kids.take i))] ∧ env = E_copyO k a b c leaf h kids (kids.take i) seps t e f p1 p2 o1 o2 i) (fun i => kids.length - i) ?_ (a := 0) ⟨Nat.zero_le _, _, hR, rfl⟩
  rintro i env S' ⟨hi, o2, hR, rfl⟩
  (try refine And.intro (by rfl) ?_); (conv => whnf); repeat (first | (refine sI (by rfl) ?_; conv => whnf) | (refine sD (by rfl) (by rfl) ?_; conv => whnf) | (generalize hE : keepE _ _ = e0; revert hE; apply kI; (repeat (first | exact kN _ | (apply kC; with_unfolding_all rfl; rfl))); rintro rfl; (conv => whnf); conv => whnf))
  by_cases hc : (i : Int) < (encNs kids).length
  · rw [decide_eq_true hc]
    (try refine And.intro (by rfl) ?_); (conv => whnf); repeat (first | (refine sI (by rfl) ?_; conv => whnf) | (refine sD (by rfl) (by rfl) ?_; conv => whnf) | (generalize hE : keepE _ _ = e0; revert hE; apply kI; (repeat (first | exact kN _ | (apply kC; with_unfolding_all rfl; rfl))); rintro rfl; (conv => whnf); conv => whnf))
    have hik : i < kids.length := by omega
    refine step_ruleO (sx_ia (k := i) rfl rfl (by omega)) ?_
    (try refine And.intro (by rfl) ?_); (conv => whnf); repeat (first | (refine sI (by rfl) ?_; conv => whnf) | (refine sD (by rfl) (by rfl) ?_; conv => whnf) | (generalize hE : keepE _ _ = e0; revert hE; apply kI; (repeat (first | exact kN _ | (apply kC; with_unfolding_all rfl; rfl))); rintro rfl; (conv => whnf); conv => whnf))
    refine step_ruleO (sx_ldEl (agg := true) rfl rfl (encNs_get hik) (rdN _)) ?_
    have ihk := ih _ (PN.oks_get hik q4)
    have hok := encN_ok kids[i]
    have hts : encNs (kids.take (i + 1)) = encNs (kids.take i) ++ [encN kids[i]] := by rw [List.take_succ_eq_append_getElem hik, encNs_app]; rfl
    obtain ⟨w0, w1, w2, w3, w4, w5, w6, w7, w8, w9, w10, w11, w12, w13, he⟩ := encN_agg kids[i]
    rw [he] at ihk hts hok ⊢
    (try refine And.intro (by rfl) ?_); (conv => whnf); repeat (first | (refine sI (by rfl) ?_; conv => whnf) | (refine sD (by rfl) (by rfl) ?_; conv => whnf) | (generalize hE : keepE _ _ = e0; revert hE; apply kI; (repeat (first | exact kN _ | (apply kC; with_unfolding_all rfl; rfl))); rintro rfl; (conv => whnf); conv => whnf))
    refine call_pfD hm (by rfl) ihk ?_
    (try refine And.intro (by rfl) ?_); (conv => whnf); repeat (first | (refine sI (by rfl) ?_; conv => whnf) | (refine sD (by rfl) (by rfl) ?_; conv => whnf) | (generalize hE : keepE _ _ = e0; revert hE; apply kI; (repeat (first | exact kN _ | (apply kC; with_unfolding_all rfl; rfl))); rintro rfl; (conv => whnf); conv => whnf))
    have hlt : (encNs (kids.take i)).length = i := by rw [encNs_len, List.length_take]; omega
    refine r_appD hR 3 rfl (by trivial) rfl rfl rfl (by rw [hlt]; simp; omega) (by rw [hlt]; simp; omega) (by decide) (by decide) hok ?_
    intro o3 S3 hR
    (try refine And.intro (by rfl) ?_); (conv => whnf); repeat (first | (refine sI (by rfl) ?_; conv => whnf) | (refine sD (by rfl) (by rfl) ?_; conv => whnf) | (generalize hE : keepE _ _ = e0; revert hE; apply kI; (repeat (first | exact kN _ | (apply kC; with_unfolding_all rfl; rfl))); rintro rfl; (conv => whnf); conv => whnf))
    refine ⟨i + 1, ⟨by omega, o3, by rw [hts]; exact hR, ?_⟩, by omega⟩
    rw [wrNat (by omega)]
    simp only [E_copyO, hts]
    try rfl
  · rw [decide_eq_false hc]
    (try refine And.intro (by rfl) ?_); (conv => whnf); repeat (first | (refine sI (by rfl) ?_; conv => whnf) | (refine sD (by rfl) (by rfl) ?_; conv => whnf) | (generalize hE : keepE _ _ = e0; revert hE; apply kI; (repeat (first | exact kN _ | (apply kC; with_unfolding_all rfl; rfl))); rintro rfl; (conv => whnf); conv => whnf))
    have : kids.take i = kids := List.take_of_length_le (by omega)
    rw [this] at hR ⊢
    exact ⟨_, rfl, p1, p2, o1, o2, rfl, hR⟩

theorem encNs_flat : ∀ l : List PN, ((encNs l).flatMap AV.cells).length = (encNs l).length * 14
  | [] => rfl
  | t :: r => by
    obtain ⟨w0, w1, w2, w3, w4, w5, w6, w7, w8, w9, w10, w11, w12, w13, he⟩ := encN_agg t
    rw [encNs, List.flatMap_cons, List.length_append, encNs_flat r, he, List.length_cons, Nat.add_mul, Nat.add_comm]; rfl
theorem strs_flat : ∀ l : List (List UInt8), ((strs l).flatMap AV.cells).length = (strs l).length * 1
  | [] => rfl
  | t :: r => by
    show (AV.cells (.str t) ++ (strs r).flatMap AV.cells).length = _
    rw [List.length_append, strs_flat r]
    show 1 + _ = (_ + 1) * 1
    rw [Nat.add_mul, Nat.add_comm]; rfl

abbrev E_ap (n : PN) (y : List AV) (j : Nat) (i : Int) : Env := [(1, .box (encN n).cells), (3, .box (encN n).cells), (4, .box y), (j, .val (.int .i64 i))]

set_option maxHeartbeats 4000000 in
theorem cstApart_wp (hm : MonoC C) (hruns : PF C 3 [] (.bool true)) (hsize : ∀ (u : PN) m, u.ok → m < 2305843009213693952 → PF C 16 [encN u, .int .i64 m] (.int .i64 (sizeN u m)))
    (hcopy : ∀ u : PN, u.ok → PF C 17 [encN u] (encN u)) (hown : ∀ u : PN, u.ok → C 24 [encN u] St.init (OwnN u))
    (hsame : ∀ u u' : PN, u.ok → PF C 23 [encN u, encN u'] (.bool (eqN u u')))
    {n : PN} (hk : n.ok) : wpF gt C F6 [encN n] St.init (Ret (.bool true)) := by
  have hsz := hsize n 3000 hk (by omega)
  have hcopy := hcopy n hk
  have hown := hown n hk
  have hsame := hsame n n hk
  rw [eqN_true rfl] at hsame
  obtain ⟨k, a, b, c, leaf, h, kids, seps, t, e, f⟩ := n
  simp only [PN.ok] at hk
  obtain ⟨q1, q2, q3, q4⟩ := hk
  have hkl : leaf.keys.length * 16 ≤ 140737488355328 := by
    obtain ⟨k', s', keys', kids'⟩ := leaf
    simp only [PT.ok] at q1
    exact q1.1
  refine ⟨rfl, ?_⟩
  (try refine And.intro (by rfl) ?_); (conv => whnf); repeat (first | (refine sI (by rfl) ?_; conv => whnf) | (refine sD (by rfl) (by rfl) ?_; conv => whnf) | (generalize hE : keepE _ _ = e0; revert hE; apply kI; (repeat (first | exact kN _ | (apply kC; with_unfolding_all rfl; rfl))); rintro rfl; (conv => whnf); conv => whnf))
  refine call_pf hm (by rfl) hsz ?_
  (try refine And.intro (by rfl) ?_); (conv => whnf); repeat (first | (refine sI (by rfl) ?_; conv => whnf) | (refine sD (by rfl) (by rfl) ?_; conv => whnf) | (generalize hE : keepE _ _ = e0; revert hE; apply kI; (repeat (first | exact kN _ | (apply kC; with_unfolding_all rfl; rfl))); rintro rfl; (conv => whnf); conv => whnf))
  by_cases hc : sizeN (.mk k a b c leaf h kids seps t e f) 3000 ≥ 3000
  · rw [decide_eq_true hc]
    (try refine And.intro (by rfl) ?_); (conv => whnf); repeat (first | (refine sI (by rfl) ?_; conv => whnf) | (refine sD (by rfl) (by rfl) ?_; conv => whnf) | (generalize hE : keepE _ _ = e0; revert hE; apply kI; (repeat (first | exact kN _ | (apply kC; with_unfolding_all rfl; rfl))); rintro rfl; (conv => whnf); conv => whnf))
    refine call_pf hm (by rfl) hruns ?_
    (try refine And.intro (by rfl) ?_); (conv => whnf); repeat (first | (refine sI (by rfl) ?_; conv => whnf) | (refine sD (by rfl) (by rfl) ?_; conv => whnf) | (generalize hE : keepE _ _ = e0; revert hE; apply kI; (repeat (first | exact kN _ | (apply kC; with_unfolding_all rfl; rfl))); rintro rfl; (conv => whnf); conv => whnf))
    exact ⟨_, rfl, Ret.sta trivial⟩
  rw [decide_eq_false hc]
  (try refine And.intro (by rfl) ?_); (conv => whnf); repeat (first | (refine sI (by rfl) ?_; conv => whnf) | (refine sD (by rfl) (by rfl) ?_; conv => whnf) | (generalize hE : keepE _ _ = e0; revert hE; apply kI; (repeat (first | exact kN _ | (apply kC; with_unfolding_all rfl; rfl))); rintro rfl; (conv => whnf); conv => whnf))
  refine call_pf hm (by rfl) hcopy ?_
  (try refine And.intro (by rfl) ?_); (conv => whnf); repeat (first | (refine sI (by rfl) ?_; conv => whnf) | (refine sD (by rfl) (by rfl) ?_; conv => whnf) | (generalize hE : keepE _ _ = e0; revert hE; apply kI; (repeat (first | exact kN _ | (apply kC; with_unfolding_all rfl; rfl))); rintro rfl; (conv => whnf); conv => whnf))
  refine call_rule (by rfl) (hm _ _ _ _ _ hown ?_)
  rintro r S1 ⟨p1, p2, o1, o2, rfl, hR⟩
  (try refine And.intro (by rfl) ?_); (conv => whnf); repeat (first | (refine sI (by rfl) ?_; conv => whnf) | (refine sD (by rfl) (by rfl) ?_; conv => whnf) | (generalize hE : keepE _ _ = e0; revert hE; apply kI; (repeat (first | exact kN _ | (apply kC; with_unfolding_all rfl; rfl))); rintro rfl; (conv => whnf); conv => whnf))
  have l1 := encNs_len kids
  have l2 := strs_length seps
  have l3 := strs_length leaf.keys
  refine loop_rule hm (α := Nat) (fun i env S' => i ≤ kids.length ∧ Wrt S' [.gr 9 p1 (strs leaf.keys), .gr 25 p2 (encTs leaf.kids), .gr 9 o1 (strs seps)] 14 o2 (encNs kids) ∧ env = E_ap (.mk k a b c leaf h kids seps t e f) _ 5 i) (fun i => kids.length - i) ?_ (a := 0) ⟨Nat.zero_le _, ⟨encNs_flat _, .inl ⟨_, hR⟩⟩, rfl⟩
  rintro i env S' ⟨hi, hW, rfl⟩
  (try refine And.intro (by rfl) ?_); (conv => whnf); repeat (first | (refine sI (by rfl) ?_; conv => whnf) | (refine sD (by rfl) (by rfl) ?_; conv => whnf) | (generalize hE : keepE _ _ = e0; revert hE; apply kI; (repeat (first | exact kN _ | (apply kC; with_unfolding_all rfl; rfl))); rintro rfl; (conv => whnf); conv => whnf))
  by_cases hc1 : (i : Int) < (encNs kids).length
  · rw [decide_eq_true hc1]
    (try refine And.intro (by rfl) ?_); (conv => whnf); repeat (first | (refine sI (by rfl) ?_; conv => whnf) | (refine sD (by rfl) (by rfl) ?_; conv => whnf) | (generalize hE : keepE _ _ = e0; revert hE; apply kI; (repeat (first | exact kN _ | (apply kC; with_unfolding_all rfl; rfl))); rintro rfl; (conv => whnf); conv => whnf))
    refine step_ruleO (sx_ia (k := i) rfl rfl (by omega)) ?_
    (try refine And.intro (by rfl) ?_); (conv => whnf); repeat (first | (refine sI (by rfl) ?_; conv => whnf) | (refine sD (by rfl) (by rfl) ?_; conv => whnf) | (generalize hE : keepE _ _ = e0; revert hE; apply kI; (repeat (first | exact kN _ | (apply kC; with_unfolding_all rfl; rfl))); rintro rfl; (conv => whnf); conv => whnf))
    refine st_runP (wrt_st hW rfl rfl rfl (by omega) (by decide)) trivial ?_
    intro S2 hW
    (try refine And.intro (by rfl) ?_); (conv => whnf); repeat (first | (refine sI (by rfl) ?_; conv => whnf) | (refine sD (by rfl) (by rfl) ?_; conv => whnf) | (generalize hE : keepE _ _ = e0; revert hE; apply kI; (repeat (first | exact kN _ | (apply kC; with_unfolding_all rfl; rfl))); rintro rfl; (conv => whnf); conv => whnf))
    refine step_ruleO (sx_ia (k := i) rfl rfl (by omega)) ?_
    (try refine And.intro (by rfl) ?_); (conv => whnf); repeat (first | (refine sI (by rfl) ?_; conv => whnf) | (refine sD (by rfl) (by rfl) ?_; conv => whnf) | (generalize hE : keepE _ _ = e0; revert hE; apply kI; (repeat (first | exact kN _ | (apply kC; with_unfolding_all rfl; rfl))); rintro rfl; (conv => whnf); conv => whnf))
    refine st_runP (wrt_st hW rfl rfl rfl (by omega) (by decide)) trivial ?_
    intro S3 hW
    (try refine And.intro (by rfl) ?_); (conv => whnf); repeat (first | (refine sI (by rfl) ?_; conv => whnf) | (refine sD (by rfl) (by rfl) ?_; conv => whnf) | (generalize hE : keepE _ _ = e0; revert hE; apply kI; (repeat (first | exact kN _ | (apply kC; with_unfolding_all rfl; rfl))); rintro rfl; (conv => whnf); conv => whnf))
    refine ⟨i + 1, ⟨by omega, hW, ?_⟩, by omega⟩
    rw [wrNat (by omega)]
  rw [decide_eq_false hc1]
  (try refine And.intro (by rfl) ?_); (conv => whnf); repeat (first | (refine sI (by rfl) ?_; conv => whnf) | (refine sD (by rfl) (by rfl) ?_; conv => whnf) | (generalize hE : keepE _ _ = e0; revert hE; apply kI; (repeat (first | exact kN _ | (apply kC; with_unfolding_all rfl; rfl))); rintro rfl; (conv => whnf); conv => whnf))
  refine loop_rule hm (α := Nat) (fun i env S' => i ≤ seps.length ∧ Wrt S' [.gr 9 p1 (strs leaf.keys), .gr 25 p2 (encTs leaf.kids)] 1 o1 (strs seps) ∧ env = E_ap (.mk k a b c leaf h kids seps t e f) _ 6 i) (fun i => seps.length - i) ?_ (a := 0) ⟨Nat.zero_le _, ⟨strs_flat _, .inl ⟨_, hW.front⟩⟩, rfl⟩
  rintro i2 env S' ⟨hi2, hW, rfl⟩
  (try refine And.intro (by rfl) ?_); (conv => whnf); repeat (first | (refine sI (by rfl) ?_; conv => whnf) | (refine sD (by rfl) (by rfl) ?_; conv => whnf) | (generalize hE : keepE _ _ = e0; revert hE; apply kI; (repeat (first | exact kN _ | (apply kC; with_unfolding_all rfl; rfl))); rintro rfl; (conv => whnf); conv => whnf))
  by_cases hc2 : (i2 : Int) < (strs seps).length
  · rw [decide_eq_true hc2]
    (try refine And.intro (by rfl) ?_); (conv => whnf); repeat (first | (refine sI (by rfl) ?_; conv => whnf) | (refine sD (by rfl) (by rfl) ?_; conv => whnf) | (generalize hE : keepE _ _ = e0; revert hE; apply kI; (repeat (first | exact kN _ | (apply kC; with_unfolding_all rfl; rfl))); rintro rfl; (conv => whnf); conv => whnf))
    refine step_ruleO (sx_ia (k := i2) rfl rfl (by omega)) ?_
    (try refine And.intro (by rfl) ?_); (conv => whnf); repeat (first | (refine sI (by rfl) ?_; conv => whnf) | (refine sD (by rfl) (by rfl) ?_; conv => whnf) | (generalize hE : keepE _ _ = e0; revert hE; apply kI; (repeat (first | exact kN _ | (apply kC; with_unfolding_all rfl; rfl))); rintro rfl; (conv => whnf); conv => whnf))
    refine st_runP (wrt_st hW rfl rfl rfl (by omega) (by decide)) trivial ?_
    intro S2 hW
    (try refine And.intro (by rfl) ?_); (conv => whnf); repeat (first | (refine sI (by rfl) ?_; conv => whnf) | (refine sD (by rfl) (by rfl) ?_; conv => whnf) | (generalize hE : keepE _ _ = e0; revert hE; apply kI; (repeat (first | exact kN _ | (apply kC; with_unfolding_all rfl; rfl))); rintro rfl; (conv => whnf); conv => whnf))
    refine ⟨i2 + 1, ⟨by omega, hW, ?_⟩, by omega⟩
    rw [wrNat (by omega)]
  rw [decide_eq_false hc2]
  (try refine And.intro (by rfl) ?_); (conv => whnf); repeat (first | (refine sI (by rfl) ?_; conv => whnf) | (refine sD (by rfl) (by rfl) ?_; conv => whnf) | (generalize hE : keepE _ _ = e0; revert hE; apply kI; (repeat (first | exact kN _ | (apply kC; with_unfolding_all rfl; rfl))); rintro rfl; (conv => whnf); conv => whnf))
  have hR2 := hW.front
  have hR3 : Hs S' ([.gr 25 p2 (encTs leaf.kids)] ++ [.gr 9 p1 (strs leaf.keys)]) := hR2.less (fun i => 1 - i) (fun i j hi hj e => by simp at hi hj; omega) fun i hi => by
    match i, hi with
    | 0, _ => rfl
    | 1, _ => rfl
    | _ + 2, hi => simp at hi; omega
  refine loop_rule hm (α := Nat) (fun i env S' => i ≤ leaf.keys.length ∧ Wrt S' [.gr 25 p2 (encTs leaf.kids)] 1 p1 (strs leaf.keys) ∧ env = E_ap (.mk k a b c leaf h kids seps t e f) _ 7 i) (fun i => leaf.keys.length - i) ?_ (a := 0) ⟨Nat.zero_le _, ⟨strs_flat _, .inl ⟨_, hR3⟩⟩, rfl⟩
  rintro i3 env S' ⟨hi3, hW, rfl⟩
  (try refine And.intro (by rfl) ?_); (conv => whnf); repeat (first | (refine sI (by rfl) ?_; conv => whnf) | (refine sD (by rfl) (by rfl) ?_; conv => whnf) | (generalize hE : keepE _ _ = e0; revert hE; apply kI; (repeat (first | exact kN _ | (apply kC; with_unfolding_all rfl; rfl))); rintro rfl; (conv => whnf); conv => whnf))
  by_cases hc3 : (i3 : Int) < (strs leaf.keys).length
  · rw [decide_eq_true hc3]
    (try refine And.intro (by rfl) ?_); (conv => whnf); repeat (first | (refine sI (by rfl) ?_; conv => whnf) | (refine sD (by rfl) (by rfl) ?_; conv => whnf) | (generalize hE : keepE _ _ = e0; revert hE; apply kI; (repeat (first | exact kN _ | (apply kC; with_unfolding_all rfl; rfl))); rintro rfl; (conv => whnf); conv => whnf))
    refine step_ruleO (sx_ia (k := i3) rfl rfl (by omega)) ?_
    (try refine And.intro (by rfl) ?_); (conv => whnf); repeat (first | (refine sI (by rfl) ?_; conv => whnf) | (refine sD (by rfl) (by rfl) ?_; conv => whnf) | (generalize hE : keepE _ _ = e0; revert hE; apply kI; (repeat (first | exact kN _ | (apply kC; with_unfolding_all rfl; rfl))); rintro rfl; (conv => whnf); conv => whnf))
    refine st_runP (wrt_st hW rfl rfl rfl (by omega) (by decide)) trivial ?_
    intro S2 hW
    (try refine And.intro (by rfl) ?_); (conv => whnf); repeat (first | (refine sI (by rfl) ?_; conv => whnf) | (refine sD (by rfl) (by rfl) ?_; conv => whnf) | (generalize hE : keepE _ _ = e0; revert hE; apply kI; (repeat (first | exact kN _ | (apply kC; with_unfolding_all rfl; rfl))); rintro rfl; (conv => whnf); conv => whnf))
    refine ⟨i3 + 1, ⟨by omega, hW, ?_⟩, by omega⟩
    rw [wrNat (by omega)]
  rw [decide_eq_false hc3]
  (try refine And.intro (by rfl) ?_); (conv => whnf); repeat (first | (refine sI (by rfl) ?_; conv => whnf) | (refine sD (by rfl) (by rfl) ?_; conv => whnf) | (generalize hE : keepE _ _ = e0; revert hE; apply kI; (repeat (first | exact kN _ | (apply kC; with_unfolding_all rfl; rfl))); rintro rfl; (conv => whnf); conv => whnf))
  refine call_pf hm (by rfl) hsame ?_
  (try refine And.intro (by rfl) ?_); (conv => whnf); repeat (first | (refine sI (by rfl) ?_; conv => whnf) | (refine sD (by rfl) (by rfl) ?_; conv => whnf) | (generalize hE : keepE _ _ = e0; revert hE; apply kI; (repeat (first | exact kN _ | (apply kC; with_unfolding_all rfl; rfl))); rintro rfl; (conv => whnf); conv => whnf))
  refine call_pf hm (by rfl) hruns ?_
  (try refine And.intro (by rfl) ?_); (conv => whnf); repeat (first | (refine sI (by rfl) ?_; conv => whnf) | (refine sD (by rfl) (by rfl) ?_; conv => whnf) | (generalize hE : keepE _ _ = e0; revert hE; apply kI; (repeat (first | exact kN _ | (apply kC; with_unfolding_all rfl; rfl))); rintro rfl; (conv => whnf); conv => whnf))
  exact ⟨_, rfl, Ret.sta trivial⟩
end
end Go.Dn
