/- The code of the functions that are reached, printed by a program (Gen). Walking abstract code with symbols: rules. The entry: what is read as data, as abstract values. Trees over the abstract store, and how a store grows. Pure data: what a function that reads pure data and makes new things says, whatever the store. What a function holds in the store: slices that grow, maps, variables; each apart from the others. The walk of what needs no thought, as a lemma that a tactic of its own serves. Trees as pure data; the reference's Size, Copy, Plain; the program's Copy. Trees: the reference's Copy and Plain, the program's Copy. Trees: the reference's Plain; the program's Copy. Arrays that are made and written in place. -/
import Derived.Test.YthgidapmofcloaaGreatDoorWk
set_option linter.unusedSimpArgs false
set_option linter.unusedVariables false
set_option maxHeartbeats 64000000
namespace Go.Proofs.C1
open Go Go.Dn
set_option maxRecDepth 100000
abbrev _root_.Go.Dn.DOp.m (n : Nat) : DOp := .mv (.t n)
abbrev _root_.Go.Dn.DOp.l (n : Nat) : DOp := .ld false 1 (.t n)
abbrev nz : SI := ⟨none,0,some 0,true⟩
abbrev zz : List AV := [(.int .i64 0),(.str []),(.sl 1 nz []),(.sl 4 nz [])]
abbrev _root_.Go.Dn.DOpd.ff : DOpd := .c (.bool false)
abbrev _root_.Go.Dn.DOpd.tt : DOpd := .c (.bool true)
abbrev _root_.Go.Dn.DOpd.u (n : Int) : DOpd := .c (.int .u8 n)
abbrev _root_.Go.Dn.DC.q (a b : DC) : DC := .seq a b
abbrev _root_.Go.Dn.DC.r (a : List DI) (b : List Nat) : DC := .reg a b
@[reducible] instance (n : Nat) : OfNat DOpd n := ⟨.t n⟩
abbrev _root_.Go.Dn.DOpd.k (n : Int) : DOpd := .c (.int .i64 n)

/-- emend/emendlaw3.TreeBack -/
def F10 : DF := ⟨2,(.q (.r [.s 2 (.bxL 0),.s 4 (.mv .ff)] [1,2]) (.q (.q (.r [.s 13 (.ld true 4 2),.s 14 (.call 26 [13]),.s 15 (.un .not 14)] [1,2,15]) (.cnd 15 (.q (.r [.s 16 (.call 3 []),.s 4 (.m 16)] [4]) .ret) .skip)) (.q (.q (.r [.s 17 (.m 1),.s 18 (.lenS 17),.s 19 (.bin .gtr none 18 (.k 4000))] [1,2,19]) (.cnd 19 (.r [.s 20 (.m 1),.s 21 (.slS 20 none (some (.k 4000))),.s 1 (.m 21)] [1,2]) .skip)) (.q (.r [.s 23 (.ld true 4 2),.s 24 (.call 15 [23]),.s 22 (.m 24),.s 25 (.ext 22 0),.s 26 (.ext 22 1),.s 5 (.m 25),.s 6 (.m 26)] [1,2,5,6]) (.q (.q (.r [.s 27 (.m 6),.s 28 (.bin .eql (some .int) 27 (.k 0))] [1,2,5,28]) (.cnd 28 (.q (.r [.s 30 (.m 5),.s 31 (.call 19 [30]),.s 29 (.m 31),.s 32 (.ext 29 0),.s 33 (.ext 29 1),.s 7 (.alL zz),.n (.st 4 7 32),.s 8 (.m 33)] [1,2,7,8]) (.q (.drw [((.s 34 (.m 8),none),[]),((.s 35 (.bin .neq (some .ifc) 34 (.c .nilif)),none),[]),((.s 36 (.m 35),none),[]),((.g 37 (.ld true 4 2) 36 false,(some 2)),[]),((.g 38 (.ld true 4 7) 36 false,(some 7)),[]),((.g 39 (.call 24 [37,38]) 36 false,none),[]),((.g 40 (.un .not 39) 36 false,none),[]),((.s 41 (.pick 36 .tt 40),none),[]),((.s 42 (.m 41),none),[]),((.g 43 (.ld true 4 7) 42 false,(some 7)),[]),((.g 44 (.ld true 4 2) 42 false,(some 2)),[]),((.g 45 (.call 34 [44]) 42 false,none),[]),((.g 46 (.call 32 [43,45]) 42 false,none),[]),((.g 47 (.un .not 46) 42 false,none),[]),((.s 48 (.pick 42 .tt 47),none),[])] [1,48]) (.cnd 48 (.q (.r [.s 4 (.mv .ff)] [4]) .ret) .skip))) .skip)) (.q (.r [.s 50 (.m 1),.s 51 (.call 19 [50]),.s 49 (.m 51),.s 52 (.ext 49 0),.s 53 (.ext 49 1),.s 9 (.alL zz),.n (.st 4 9 52),.s 10 (.m 53)] [9,10]) (.q (.q (.r [.s 54 (.m 10),.s 55 (.bin .eql (some .ifc) 54 (.c .nilif))] [9,55]) (.cnd 55 (.q (.r [.s 57 (.ld true 4 9),.s 58 (.call 15 [57]),.s 56 (.m 58),.s 59 (.ext 56 0),.s 60 (.ext 56 1),.s 5 (.m 59),.s 6 (.m 60)] [5,6,9]) (.q (.r [.s 62 (.m 5),.s 63 (.call 19 [62]),.s 61 (.m 63),.s 64 (.ext 61 0),.s 65 (.ext 61 1),.s 11 (.alL zz),.n (.st 4 11 64),.s 12 (.m 65)] [6,9,11,12]) (.q (.r [.s 66 (.m 6),.s 67 (.bin .neq (some .int) 66 (.k 0)),.s 68 (.m 67),.g 69 (.m 6) 68 true,.g 70 (.bin .neq (some .int) 69 (.k 2)) 68 true,.s 71 (.pick 68 70 .ff),.s 72 (.m 71),.g 73 (.m 6) 72 false,.g 74 (.bin .eql (some .int) 73 (.k 0)) 72 false,.g 75 (.m 74) 72 false,.g 76 (.m 12) 75 true,.g 77 (.bin .neq (some .ifc) 76 (.c .nilif)) 75 true,.g 78 (.m 77) 75 true,.g 79 (.ld true 4 9) 78 false,.g 80 (.ld true 4 11) 78 false,.g 81 (.call 24 [79,80]) 78 false,.g 82 (.un .not 81) 78 false,.g 83 (.pick 78 .tt 82) 75 true,.g 84 (.pick 75 83 .ff) 72 false,.s 85 (.pick 72 .tt 84),.s 86 (.m 85),.g 87 (.ld true 4 9) 86 false,.g 88 (.call 16 [87]) 86 false,.g 89 (.bin .neq (some .int) 88 (.k 0)) 86 false,.s 90 (.pick 86 .tt 89)] [90]) (.cnd 90 (.q (.r [.s 4 (.mv .ff)] [4]) .ret) .skip)))) .skip)) (.q (.r [.s 91 (.call 3 []),.s 4 (.m 91)] [4]) .ret)))))))),[.tmp 4]⟩
/-- emend/tree.Text -/
def F15 : DF := ⟨1,(.q (.r [.s 1 (.bxL 0),.s 2 (.mv (.c (.str []))),.s 3 (.mv (.k 0))] [1]) (.q (.q (.r [.s 6 (.ld true 4 1),.s 7 (.call 16 [6]),.s 4 (.m 7)] [1,4]) (.q (.r [.s 8 (.m 4),.s 9 (.bin .neq (some .int) 8 (.k 0))] [1,4,9]) (.cnd 9 (.q (.r [.s 10 (.m 4),.s 2 (.mv (.c (.str []))),.s 3 (.m 10)] [2,3]) .ret) .skip))) (.q (.r [.s 11 (.bld [.nilp,(.sl 1 nz [])] []),.s 12 (.bxH 78 11),.s 5 (.m 12)] [1,5]) (.q (.r [.s 13 (.m 5),.s 14 (.ld true 4 1),.s 15 (.call 47 [13,14])] [5]) (.q (.q (.r [.s 16 (.m 5),.s 17 (.nilc 16),.s 18 (.fa 0 17),.s 19 (.call 48 [18]),.s 20 (.bin .gtr none 19 (.k 65536))] [5,20]) (.cnd 20 (.q (.r [.s 2 (.mv (.c (.str []))),.s 3 (.mv (.k 2))] [2,3]) .ret) .skip)) (.q (.r [.s 21 (.m 5),.s 22 (.nilc 21),.s 23 (.fa 0 22),.s 24 (.call 49 [23]),.s 2 (.m 24),.s 3 (.mv (.k 0))] [2,3]) .ret)))))),[.tmp 2,.tmp 3]⟩
/-- emend/tree.Right -/
def F16 : DF := ⟨1,(.q (.r [.s 1 (.bxL 0),.s 2 (.mv (.k 0))] [1]) (.q (.blk 0 (.q (.r [.s 4 (.ld true 4 1),.s 5 (.call 18 [4]),.s 6 (.bin .gtr none 5 (.k 64)),.s 3 (.m 6)] [1,3]) (.cnd 3 (.q (.r [.s 2 (.mv (.k 4))] [2]) .ret) (.q (.r [.s 8 (.ld true 4 1),.s 9 (.call 17 [8]),.s 10 (.bin .gtr none 9 (.k 4096)),.s 7 (.m 10)] [1,7]) (.cnd 7 (.q (.r [.s 2 (.mv (.k 3))] [2]) .ret) (.q (.r [.s 12 (.ld true 4 1),.s 13 (.call 50 [12]),.s 14 (.un .not 13),.s 11 (.m 14)] [11]) (.cnd 11 (.q (.r [.s 2 (.mv (.k 1))] [2]) .ret) .skip))))))) (.q (.r [.s 2 (.mv (.k 0))] [2]) .ret))),[.tmp 2]⟩
/-- emend/tree.Size -/
def F17 : DF := ⟨1,(.q (.r [.s 1 (.bxL 0),.s 2 (.mv (.k 0))] [1]) (.q (.r [.s 3 (.mv (.k 1))] [1,3]) (.q (.q (.r [.s 6 (.fa 3 1),.s 7 (.l 6),.s 8 (.len 7),.s 9 (.mv (.k 0))] [3,7,8,9]) (.blk 0 (.q (.trim [3,7,8,9]) (.lop (.q (.q (.r [.s 10 (.bin .lss none 9 8)] [3,7,8,9,10]) (.q (.cnd 10 .skip (.exit 0)) (.q (.blk 1 (.q (.r [.s 11 (.ia 4 7 9),.s 12 (.ld true 4 11),.s 5 (.alL zz),.n (.st 4 5 12)] [3,5,7,8,9]) (.r [.s 13 (.m 3),.s 14 (.ld true 4 5),.s 15 (.call 17 [14]),.s 16 (.bin .add none 13 15),.s 3 (.m 16)] [3,7,8,9]))) (.r [.s 17 (.bin .add none 9 (.k 1)),.s 9 (.m 17)] [3,7,8,9])))) (.trim [3,7,8,9])))))) (.q (.r [.s 18 (.m 3),.s 2 (.m 18)] [2]) .ret)))),[.tmp 2]⟩
/-- emend/tree.Depth -/
def F18 : DF := ⟨1,(.q (.r [.s 1 (.bxL 0),.s 2 (.mv (.k 0))] [1]) (.q (.r [.s 3 (.mv (.k 0))] [1,3]) (.q (.q (.r [.s 6 (.fa 3 1),.s 7 (.l 6),.s 8 (.len 7),.s 9 (.mv (.k 0))] [3,7,8,9]) (.blk 0 (.q (.trim [3,7,8,9]) (.lop (.q (.q (.r [.s 10 (.bin .lss none 9 8)] [3,7,8,9,10]) (.q (.cnd 10 .skip (.exit 0)) (.q (.blk 1 (.q (.r [.s 11 (.ia 4 7 9),.s 12 (.ld true 4 11),.s 5 (.alL zz),.n (.st 4 5 12)] [3,5,7,8,9]) (.r [.s 13 (.m 3),.s 14 (.ld true 4 5),.s 15 (.call 18 [14]),.s 16 (.mx [13,15]),.s 3 (.m 16)] [3,7,8,9]))) (.r [.s 17 (.bin .add none 9 (.k 1)),.s 9 (.m 17)] [3,7,8,9])))) (.trim [3,7,8,9])))))) (.q (.r [.s 18 (.m 3),.s 19 (.bin .add none 18 (.k 1)),.s 2 (.m 19)] [2]) .ret)))),[.tmp 2]⟩
/-- emend/tree.Parse -/
def F19 : DF := ⟨1,
(.seq
(.reg [
.s 1 (.bxH 9 (.t 0)),
.s 2 (.alL zz),
.s 3 (.mv (.c .nilif))] [1,2])
(.seq
(.reg [
.s 4 (.alH 25 zz)] [1,2,4])
(.seq
(.reg [
.s 6 (.l 1),
.s 7 (.mkf 52 [] [(.t 4),(.t 1)]),
.s 8 (.call 51 [(.t 6),(.t 7)]),
.s 5 (.m 8)] [2,4,5])
(.seq
(.seq
(.reg [
.s 9 (.m 5),
.s 10 (.bin .neq (some .ifc) (.t 9) (.c .nilif))] [2,4,5,10])
(.cnd (.t 10)
(.seq
(.reg [
.s 11 (.bld zz []),
.s 12 (.m 5),
.n (.st 4 (.t 2) (.t 11)),
.s 3 (.m 12)] [2,3])
.ret)
.skip))
(.seq
(.reg [
.s 13 (.ld true 4 (.t 4)),
.n (.st 4 (.t 2) (.t 13)),
.s 3 (.mv (.c .nilif))] [2,3])
.ret))))),
[.cell 2 true 4,.tmp 3]⟩

/-- emend/tree.Get -/
def F21 : DF := ⟨2,
(.seq
(.reg [
.s 2 (.bxL (.t 0)),
.s 4 (.alL zz),
.s 5 (.mv .ff)] [1,2,4])
(.seq
(.seq
(.reg [
.s 9 (.m 1),
.s 10 (.len (.t 9)),
.s 11 (.mv (.k 0))] [2,4,9,10,11])
(.blk 0
(.seq
(.trim [2,4,9,10,11])
(.lop
(.seq
(.seq
(.reg [
.s 12 (.bin .lss none (.t 11) (.t 10))] [2,4,9,10,11,12])
(.seq
(.cnd (.t 12)
.skip
(.exit 0))
(.seq
(.blk 1
(.seq
(.reg [
.s 13 (.ia 2 (.t 9) (.t 11)),
.s 14 (.ld true 2 (.t 13)),
.s 7 (.alL [(.str []),(.int .i64 0)]),
.n (.st 2 (.t 7) (.t 14))] [2,4,7,9,10,11])
(.seq
(.reg [
.s 15 (.ld true 4 (.t 2)),
.s 16 (.ld true 2 (.t 7)),
.s 17 (.call 56 [(.t 15),(.t 16)]),
.s 8 (.m 17)] [2,4,8,9,10,11])
(.seq
(.seq
(.reg [
.s 18 (.m 8),
.s 19 (.bin .lss none (.t 18) (.k 0))] [2,4,8,9,10,11,19])
(.cnd (.t 19)
(.seq
(.reg [
.s 20 (.bld zz []),
.n (.st 4 (.t 4) (.t 20)),
.s 5 (.mv .ff)] [4,5])
.ret)
.skip))
(.reg [
.s 21 (.fa 3 (.t 2)),
.s 22 (.l 21),
.s 23 (.m 8),
.s 24 (.ia 4 (.t 22) (.t 23)),
.s 25 (.ld true 4 (.t 24)),
.n (.st 4 (.t 2) (.t 25))] [2,4,9,10,11])))))
(.reg [
.s 26 (.bin .add none (.t 11) (.k 1)),
.s 11 (.m 26)] [2,4,9,10,11]))))
(.trim [2,4,9,10,11]))))))
(.seq
(.reg [
.s 27 (.ld true 4 (.t 2)),
.s 28 (.call 31 [(.t 27)]),
.n (.st 4 (.t 4) (.t 28)),
.s 5 (.mv .tt)] [4,5])
.ret))),
[.cell 4 true 4,.tmp 5]⟩

/-- emend/tree.Set -/
def F23 : DF := ⟨3,(.q (.r [.s 3 (.bxL 0),.s 4 (.bxL 1),.s 6 (.alL zz),.s 7 (.mv (.k 0))] [2,3,4,6]) (.q (.r [.s 11 (.ld true 4 3),.s 12 (.ld true 4 4),.s 13 (.m 2),.s 14 (.call 57 [11,12,13]),.s 10 (.m 14),.s 15 (.ext 10 0),.s 16 (.ext 10 1),.s 8 (.alL zz),.n (.st 4 8 15),.s 9 (.m 16)] [6,8,9]) (.q (.q (.r [.s 17 (.m 9),.s 18 (.un .not 17)] [6,8,18]) (.cnd 18 (.q (.r [.s 19 (.bld zz []),.n (.st 4 6 19),.s 7 (.mv (.k 1))] [6,7]) .ret) .skip)) (.q (.r [.s 20 (.ld true 4 8),.n (.st 4 6 20),.s 7 (.mv (.k 0))] [6,7]) .ret)))),[.cell 6 true 4,.tmp 7]⟩
/-- emend/tree.Same -/
def F24 : DF := ⟨2,(.q (.r [.s 2 (.bxL 0),.s 3 (.bxL 1),.s 4 (.mv .ff)] [2,3]) (.q (.q (.r [.s 5 (.ld true 4 2),.s 6 (.call 50 [5]),.s 7 (.un .not 6),.s 8 (.m 7),.g 9 (.ld true 4 3) 8 false,.g 10 (.call 50 [9]) 8 false,.g 11 (.un .not 10) 8 false,.s 12 (.pick 8 .tt 11)] [2,3,12]) (.cnd 12 (.q (.r [.s 13 (.ld true 4 2),.s 14 (.ld true 4 3),.s 15 (.call 58 [13,14]),.s 4 (.m 15)] [4]) .ret) .skip)) (.q (.drw [((.s 16 (.ld true 4 2),(some 2)),[]),((.s 18 (.ld true 4 3),(some 3)),[]),((.s 17 (.call 34 [16]),none),[]),((.s 19 (.call 34 [18]),none),[]),((.s 20 (.call 58 [17,19]),none),[]),((.s 4 (.m 20),none),[])] [4]) .ret))),[.tmp 4]⟩
/-- emend/tree.Compare -/
def F25 : DF := ⟨2,(.q (.r [.s 2 (.bxL 0),.s 3 (.bxL 1),.s 4 (.mv (.k 0))] [2,3]) (.q (.q (.r [.s 5 (.fa 0 2),.s 6 (.l 5),.s 7 (.fa 0 3),.s 8 (.l 7),.s 9 (.bin .neq (some .int) 6 8)] [2,3,9]) (.cnd 9 (.q (.q (.r [.s 10 (.fa 0 2),.s 11 (.l 10),.s 12 (.fa 0 3),.s 13 (.l 12),.s 14 (.bin .lss none 11 13)] [14]) (.cnd 14 (.q (.r [.s 4 (.mv (.k (-1)))] [4]) .ret) .skip)) (.q (.r [.s 4 (.mv (.k 1))] [4]) .ret)) .skip)) (.q (.drw [((.s 15 (.ld true 4 2),(some 2)),[]),((.s 17 (.ld true 4 3),(some 3)),[]),((.s 16 (.call 34 [15]),none),[]),((.s 18 (.call 34 [17]),none),[]),((.s 19 (.call 59 [16,18]),none),[]),((.s 4 (.m 19),none),[])] [4]) .ret))),[.tmp 4]⟩
/-- emend/emendlaw3.small -/
def F26 : DF := ⟨1,(.q (.r [.s 1 (.bxL 0),.s 2 (.mv .ff)] [1]) (.q (.r [.s 3 (.ld true 4 1),.s 4 (.call 28 [3,(.k 6000)]),.s 5 (.bin .lss none 4 (.k 6000)),.s 2 (.m 5)] [2]) .ret)),[.tmp 2]⟩
/-- emend/emendref3.Size -/
def F28 : DF := ⟨2,(.q (.r [.s 2 (.bxL 0),.s 4 (.mv (.k 0))] [1,2]) (.q (.r [.s 5 (.mv (.k 1))] [1,2,5]) (.q (.q (.r [.s 6 (.mv (.k 0))] [1,2,5,6]) (.blk 0 (.q (.trim [1,2,5,6]) (.lop (.q (.q (.q (.r [.s 7 (.m 6),.s 8 (.fa 3 2),.s 9 (.l 8),.s 10 (.len 9),.s 11 (.bin .lss none 7 10),.s 12 (.m 11),.g 13 (.m 5) 12 true,.g 14 (.m 1) 12 true,.g 15 (.bin .lss none 13 14) 12 true,.s 16 (.pick 12 15 .ff)] [1,2,5,6,16]) (.cnd 16 .skip (.exit 0))) (.q (.blk 1 (.r [.s 19 (.m 5),.s 20 (.fa 3 2),.s 21 (.l 20),.s 22 (.m 6),.s 23 (.ia 4 21 22),.s 24 (.ld true 4 23),.s 25 (.m 1),.s 26 (.m 5),.s 27 (.bin .sub none 25 26),.s 28 (.call 28 [24,27]),.s 29 (.bin .add none 19 28),.s 5 (.m 29)] [1,2,5,6])) (.r [.s 17 (.m 6),.s 18 (.bin .add none 17 (.k 1)),.s 6 (.m 18)] [1,2,5,6]))) (.trim [1,2,5,6])))))) (.q (.r [.s 30 (.m 5),.s 4 (.m 30)] [4]) .ret)))),[.tmp 4]⟩
/-- emend/tree.Copy -/
def F31 : DF := ⟨1,(.q (.r [.s 1 (.bxL 0),.s 2 (.alL zz)] [1,2]) (.q (.r [.s 6 (.fa 0 1),.s 7 (.l 6),.s 8 (.fa 1 1),.s 9 (.l 8),.s 10 (.bld zz [(0,1,7),(1,1,9)]),.s 3 (.alL zz),.n (.st 4 3 10)] [1,2,3]) (.q (.r [.s 11 (.fa 2 3),.s 12 (.l 11),.s 13 (.fa 2 1),.s 14 (.l 13),.s 15 (.app false 9 1 16 12 14),.s 16 (.fa 2 3),.n (.st 1 16 15)] [1,2,3]) (.q (.q (.r [.s 17 (.fa 3 1),.s 18 (.l 17),.s 19 (.len 18),.s 20 (.mv (.k 0))] [2,3,18,19,20]) (.blk 0 (.q (.trim [2,3,18,19,20]) (.lop (.q (.q (.r [.s 21 (.bin .lss none 20 19)] [2,3,18,19,20,21]) (.q (.cnd 21 .skip (.exit 0)) (.q (.blk 1 (.q (.r [.s 22 (.ia 4 18 20),.s 23 (.ld true 4 22),.s 5 (.alL zz),.n (.st 4 5 23)] [2,3,5,18,19,20]) (.drw [((.s 24 (.fa 3 3),(some 3)),[]),((.s 25 (.l 24),(some 3)),[]),((.s 26 (.ld true 4 5),(some 5)),[]),((.s 27 (.call 31 [26]),none),[]),((.s 28 (.bldS 4 1 (.agg zz) [(0,27)]),none),[]),((.s 29 (.app true 25 4 72 25 28),none),[]),((.s 30 (.fa 3 3),(some 3)),[]),((.n (.st 1 30 29),(some 3)),[])] [2,3,18,19,20]))) (.r [.s 31 (.bin .add none 20 (.k 1)),.s 20 (.m 31)] [2,3,18,19,20])))) (.trim [2,3,18,19,20])))))) (.q (.r [.s 32 (.ld true 4 3),.n (.st 4 2 32)] [2]) .ret))))),[.cell 2 true 4]⟩
/-- emend/emendref3.Plain -/
def F32 : DF := ⟨2,(.q (.r [.s 2 (.bxL 0),.s 3 (.bxL 1),.s 4 (.mv .ff)] [2,3]) (.q (.q (.r [.s 7 (.fa 0 2),.s 8 (.l 7),.s 9 (.fa 0 3),.s 10 (.l 9),.s 11 (.bin .neq (some .int) 8 10),.s 12 (.m 11),.g 13 (.fa 1 2) 12 false,.g 14 (.l 13) 12 false,.g 15 (.fa 1 3) 12 false,.g 16 (.l 15) 12 false,.g 17 (.bin .neq (some .str) 14 16) 12 false,.s 18 (.pick 12 .tt 17),.s 19 (.m 18),.g 20 (.fa 2 2) 19 false,.g 21 (.l 20) 19 false,.g 22 (.len 21) 19 false,.g 23 (.fa 2 3) 19 false,.g 24 (.l 23) 19 false,.g 25 (.len 24) 19 false,.g 26 (.bin .neq (some .int) 22 25) 19 false,.s 27 (.pick 19 .tt 26),.s 28 (.m 27),.g 29 (.fa 3 2) 28 false,.g 30 (.l 29) 28 false,.g 31 (.len 30) 28 false,.g 32 (.fa 3 3) 28 false,.g 33 (.l 32) 28 false,.g 34 (.len 33) 28 false,.g 35 (.bin .neq (some .int) 31 34) 28 false,.s 36 (.pick 28 .tt 35)] [2,3,36]) (.cnd 36 (.q (.r [.s 4 (.mv .ff)] [4]) .ret) .skip)) (.q (.q (.r [.s 5 (.mv (.k 0))] [2,3,5]) (.blk 0 (.q (.trim [2,3,5]) (.lop (.q (.q (.q (.r [.s 37 (.m 5),.s 38 (.fa 2 2),.s 39 (.l 38),.s 40 (.len 39),.s 41 (.bin .lss none 37 40)] [2,3,5,41]) (.cnd 41 .skip (.exit 0))) (.q (.blk 1 (.q (.drw [((.s 44 (.fa 2 2),(some 2)),[]),((.s 45 (.l 44),(some 2)),[]),((.s 46 (.m 5),none),[]),((.s 47 (.ia 1 45 46),none),[]),((.s 48 (.l 47),none),[]),((.s 49 (.fa 2 3),(some 3)),[]),((.s 50 (.l 49),(some 3)),[]),((.s 51 (.m 5),none),[]),((.s 52 (.ia 1 50 51),none),[]),((.s 53 (.l 52),none),[]),((.s 54 (.bin .neq (some .str) 48 53),none),[])] [2,3,5,54]) (.cnd 54 (.q (.r [.s 4 (.mv .ff)] [4]) .ret) .skip))) (.r [.s 42 (.m 5),.s 43 (.bin .add none 42 (.k 1)),.s 5 (.m 43)] [2,3,5]))) (.trim [2,3,5])))))) (.q (.q (.r [.s 6 (.mv (.k 0))] [2,3,6]) (.blk 2 (.q (.trim [2,3,6]) (.lop (.q (.q (.q (.r [.s 55 (.m 6),.s 56 (.fa 3 2),.s 57 (.l 56),.s 58 (.len 57),.s 59 (.bin .lss none 55 58)] [2,3,6,59]) (.cnd 59 .skip (.exit 2))) (.q (.blk 3 (.q (.drw [((.s 62 (.fa 3 2),(some 2)),[]),((.s 63 (.l 62),(some 2)),[]),((.s 64 (.m 6),none),[]),((.s 65 (.ia 4 63 64),none),[]),((.s 66 (.ld true 4 65),none),[]),((.s 67 (.fa 3 3),(some 3)),[]),((.s 68 (.l 67),(some 3)),[]),((.s 69 (.m 6),none),[]),((.s 70 (.ia 4 68 69),none),[]),((.s 71 (.ld true 4 70),none),[]),((.s 72 (.call 32 [66,71]),none),[]),((.s 73 (.un .not 72),none),[])] [2,3,6,73]) (.cnd 73 (.q (.r [.s 4 (.mv .ff)] [4]) .ret) .skip))) (.r [.s 60 (.m 6),.s 61 (.bin .add none 60 (.k 1)),.s 6 (.m 61)] [2,3,6]))) (.trim [2,3,6])))))) (.q (.r [.s 4 (.mv .tt)] [4]) .ret))))),[.tmp 4]⟩
/-- emend/tree.Sorted -/
def F34 : DF := ⟨1,(.q (.r [.s 1 (.bxL 0),.s 2 (.alL zz)] [1,2]) (.q (.r [.s 8 (.fa 0 1),.s 9 (.l 8),.s 10 (.fa 1 1),.s 11 (.l 10),.s 12 (.bld zz [(0,1,9),(1,1,11)]),.s 3 (.alL zz),.n (.st 4 3 12)] [1,2,3]) (.q (.q (.r [.s 13 (.fa 0 1),.s 14 (.l 13),.s 15 (.bin .neq (some .int) 14 (.k 7)),.s 16 (.m 15),.g 17 (.fa 2 1) 16 false,.g 18 (.l 17) 16 false,.g 19 (.len 18) 16 false,.g 20 (.fa 3 1) 16 false,.g 21 (.l 20) 16 false,.g 22 (.len 21) 16 false,.g 23 (.bin .neq (some .int) 19 22) 16 false,.s 24 (.pick 16 .tt 23)] [1,2,3,24]) (.cnd 24 (.q (.r [.s 25 (.fa 2 3),.s 26 (.l 25),.s 27 (.fa 2 1),.s 28 (.l 27),.s 29 (.app false 9 1 16 26 28),.s 30 (.fa 2 3),.n (.st 1 30 29)] [1,2,3]) (.q (.q (.r [.s 31 (.fa 3 1),.s 32 (.l 31),.s 33 (.len 32),.s 34 (.mv (.k 0))] [2,3,32,33,34]) (.blk 0 (.q (.trim [2,3,32,33,34]) (.lop (.q (.q (.r [.s 35 (.bin .lss none 34 33)] [2,3,32,33,34,35]) (.q (.cnd 35 .skip (.exit 0)) (.q (.blk 1 (.q (.r [.s 36 (.ia 4 32 34),.s 37 (.ld true 4 36),.s 5 (.alL zz),.n (.st 4 5 37)] [2,3,5,32,33,34]) (.drw [((.s 38 (.fa 3 3),(some 3)),[]),((.s 39 (.l 38),(some 3)),[]),((.s 40 (.ld true 4 5),(some 5)),[]),((.s 41 (.call 34 [40]),none),[]),((.s 42 (.bldS 4 1 (.agg zz) [(0,41)]),none),[]),((.s 43 (.app true 25 4 72 39 42),none),[]),((.s 44 (.fa 3 3),(some 3)),[]),((.n (.st 1 44 43),(some 3)),[])] [2,3,32,33,34]))) (.r [.s 45 (.bin .add none 34 (.k 1)),.s 34 (.m 45)] [2,3,32,33,34])))) (.trim [2,3,32,33,34])))))) (.q (.r [.s 46 (.ld true 4 3),.n (.st 4 2 46)] [2]) .ret))) .skip)) (.q (.q (.r [.s 47 (.fa 2 1),.s 48 (.l 47),.s 49 (.call 64 [48]),.s 50 (.len 49),.s 51 (.mv (.k 0))] [1,2,3,49,50,51]) (.blk 2 (.q (.trim [1,2,3,49,50,51]) (.lop (.q (.q (.r [.s 52 (.bin .lss none 51 50)] [1,2,3,49,50,51,52]) (.q (.cnd 52 .skip (.exit 2)) (.q (.blk 3 (.q (.r [.s 53 (.ia 1 49 51),.s 54 (.l 53),.s 7 (.m 54)] [1,2,3,7,49,50,51]) (.q (.drw [((.s 55 (.fa 2 3),(some 3)),[]),((.s 56 (.l 55),(some 3)),[]),((.s 57 (.fa 2 1),(some 1)),[]),((.s 58 (.l 57),(some 1)),[]),((.s 59 (.m 7),none),[]),((.s 60 (.ia 1 58 59),none),[]),((.s 61 (.l 60),none),[]),((.s 62 (.bldS 1 1 (.str []) [(0,61)]),none),[]),((.s 63 (.app false 9 1 16 56 62),none),[]),((.s 64 (.fa 2 3),(some 3)),[]),((.n (.st 1 64 63),(some 3)),[])] [1,2,3,7,49,50,51]) (.drw [((.s 65 (.fa 3 3),(some 3)),[]),((.s 66 (.l 65),(some 3)),[]),((.s 67 (.fa 3 1),(some 1)),[]),((.s 68 (.l 67),(some 1)),[]),((.s 69 (.m 7),none),[]),((.s 70 (.ia 4 68 69),none),[]),((.s 71 (.ld true 4 70),none),[]),((.s 72 (.call 34 [71]),none),[]),((.s 73 (.bldS 4 1 (.agg zz) [(0,72)]),none),[]),((.s 74 (.app true 25 4 72 66 73),none),[]),((.s 75 (.fa 3 3),(some 3)),[]),((.n (.st 1 75 74),(some 3)),[])] [1,2,3,49,50,51])))) (.r [.s 76 (.bin .add none 51 (.k 1)),.s 51 (.m 76)] [1,2,3,49,50,51])))) (.trim [1,2,3,49,50,51])))))) (.q (.r [.s 77 (.ld true 4 3),.n (.st 4 2 77)] [2]) .ret))))),[.cell 2 true 4]⟩
/-- emend/emendlaw3.refused -/
def F41 : DF := ⟨2,(.q (.r [.s 3 (.bxL 1),.s 4 (.mv .ff)] [0,3]) (.q (.q (.r [.s 6 (.fa 1 3),.s 7 (.l 6),.s 8 (.bin .eql (some .int) 7 (.k 0))] [0,3,8]) (.cnd 8 (.q (.r [.s 9 (.m 0),.s 10 (.bin .eql (some .ifc) 9 (.c .nilif)),.s 4 (.m 10)] [4]) .ret) .skip)) (.q (.r [.s 5 (.alH 105 [.nilp])] [0,3,5]) (.q (.drw [((.s 11 (.m 0),none),[]),((.s 12 (.bin .neq (some .ifc) 11 (.c .nilif)),none),[]),((.s 13 (.m 12),none),[]),((.g 14 (.m 0) 13 true,none),[]),((.g 15 (.mki 107 5) 13 true,none),[]),((.g 16 (.call 74 [14,15]) 13 true,none),[]),((.s 17 (.pick 13 16 .ff),none),[]),((.s 18 (.m 17),none),[]),((.g 19 (.l 5) 18 true,none),[]),((.g 20 (.bin .neq (some .ptr) 19 (.c .nilp)) 18 true,none),[]),((.s 21 (.pick 18 20 .ff),none),[]),((.s 22 (.m 21),none),[]),((.g 23 (.l 5) 22 true,none),[]),((.g 24 (.nilc 23) 22 true,none),[]),((.g 25 (.fa 0 24) 22 true,none),[]),((.g 26 (.ld true 1 25) 22 true,none),[]),((.g 28 (.fa 0 3) 22 true,(some 3)),[]),((.g 29 (.l 28) 22 true,(some 3)),[]),((.g 27 (.call 75 [26]) 22 true,none),[]),((.g 30 (.bin .eql (some .int) 27 29) 22 true,none),[]),((.s 31 (.pick 22 30 .ff),none),[]),((.s 32 (.m 31),none),[]),((.g 33 (.l 5) 32 true,none),[]),((.g 34 (.nilc 33) 32 true,none),[]),((.g 35 (.fa 1 34) 32 true,none),[]),((.g 36 (.l 35) 32 true,none),[]),((.g 37 (.fa 1 3) 32 true,(some 3)),[]),((.g 38 (.l 37) 32 true,(some 3)),[]),((.g 39 (.bin .eql (some .int) 36 38) 32 true,none),[]),((.s 40 (.pick 32 39 .ff),none),[]),((.s 41 (.m 40),none),[]),((.g 42 (.m 0) 41 true,none),[]),((.g 43 (.l 5) 41 true,none),[]),((.g 44 (.nilc 43) 41 true,none),[]),((.g 45 (.fa 1 44) 41 true,none),[]),((.g 46 (.l 45) 41 true,none),[]),((.g 47 (.mki 26 46) 41 true,none),[]),((.g 48 (.call 76 [42,47]) 41 true,none),[]),((.s 49 (.pick 41 48 .ff),none),[]),((.s 4 (.m 49),none),[])] [4]) .ret)))),[.tmp 4]⟩
/-- (*emend/tree.writer).tree -/
def F47 : DF := ⟨2,(.q (.r [.s 3 (.bxL 1)] [0,3]) (.q (.r [.s 12 (.fa 0 3),.s 13 (.l 12)] [0,3,13]) (.blk 0 (.q (.r [.s 15 (.bin .eql (some .int) 13 (.k 1)),.s 14 (.m 15)] [0,3,13,14]) (.cnd 14 (.r [.s 16 (.m 0),.s 17 (.call 79 [16,(.c (.str [110,117,108,108]))])] []) (.q (.q (.r [.s 19 (.bin .eql (some .int) 13 (.k 2)),.s 18 (.m 19)] [0,3,13,18]) (.cnd 18 .skip (.r [.s 20 (.bin .eql (some .int) 13 (.k 3)),.s 18 (.m 20)] [0,3,13,18]))) (.cnd 18 (.r [.s 21 (.m 0),.s 22 (.fa 1 3),.s 23 (.l 22),.s 24 (.call 79 [21,23])] []) (.q (.r [.s 26 (.bin .eql (some .int) 13 (.k 4)),.s 25 (.m 26)] [0,3,13,25]) (.cnd 25 (.q (.r [.s 28 (.fa 1 3),.s 29 (.l 28),.s 30 (.call 80 [29]),.s 27 (.m 30),.s 31 (.ext 27 0),.s 32 (.ext 27 1),.s 4 (.m 31),.s 5 (.m 32)] [0,4]) (.r [.s 33 (.m 0),.s 34 (.m 4),.s 35 (.call 79 [33,34])] [])) (.q (.r [.s 37 (.bin .eql (some .int) 13 (.k 5)),.s 36 (.m 37)] [0,3,13,36]) (.cnd 36 (.r [.s 38 (.m 0),.s 39 (.fa 1 3),.s 40 (.l 39),.s 41 (.bin .add none (.c (.str [64])) 40),.s 42 (.call 79 [38,41])] []) (.q (.r [.s 44 (.bin .eql (some .int) 13 (.k 6)),.s 43 (.m 44)] [0,3,13,43]) (.cnd 43 (.q (.r [.s 45 (.m 0),.s 46 (.call 79 [45,(.c (.str [91]))])] [0,3]) (.q (.q (.r [.s 47 (.fa 3 3),.s 48 (.l 47),.s 49 (.len 48),.s 50 (.mv (.k 0))] [0,48,49,50]) (.blk 1 (.q (.trim [0,48,49,50]) (.lop (.q (.q (.r [.s 51 (.bin .lss none 50 49)] [0,48,49,50,51]) (.q (.cnd 51 .skip (.exit 1)) (.q (.blk 2 (.q (.r [.s 52 (.m 50),.s 53 (.ia 4 48 50),.s 54 (.ld true 4 53),.s 7 (.alL zz),.s 6 (.m 52),.n (.st 4 7 54)] [0,6,7,48,49,50]) (.q (.q (.r [.s 55 (.m 6),.s 56 (.bin .gtr none 55 (.k 0))] [0,7,48,49,50,56]) (.cnd 56 (.r [.s 57 (.m 0),.s 58 (.call 79 [57,(.c (.str [44,32]))])] [0,7,48,49,50]) .skip)) (.r [.s 59 (.m 0),.s 60 (.ld true 4 7),.s 61 (.call 47 [59,60])] [0,48,49,50])))) (.r [.s 62 (.bin .add none 50 (.k 1)),.s 50 (.m 62)] [0,48,49,50])))) (.trim [0,48,49,50])))))) (.r [.s 63 (.m 0),.s 64 (.call 79 [63,(.c (.str [93]))])] []))) (.q (.r [.s 66 (.bin .eql (some .int) 13 (.k 7)),.s 65 (.m 66)] [0,3,65]) (.cnd 65 (.q (.r [.s 67 (.m 0),.s 68 (.call 79 [67,(.c (.str [123]))])] [0,3]) (.q (.q (.r [.s 69 (.fa 2 3),.s 70 (.l 69),.s 71 (.call 64 [70]),.s 72 (.len 71),.s 73 (.mv (.k 0))] [0,3,71,72,73]) (.blk 3 (.q (.trim [0,3,71,72,73]) (.lop (.q (.q (.r [.s 74 (.bin .lss none 73 72)] [0,3,71,72,73,74]) (.q (.cnd 74 .skip (.exit 3)) (.q (.blk 4 (.q (.r [.s 75 (.m 73),.s 76 (.ia 1 71 73),.s 77 (.l 76),.s 8 (.m 75),.s 9 (.m 77)] [0,3,8,9,71,72,73]) (.q (.q (.r [.s 78 (.m 8),.s 79 (.bin .gtr none 78 (.k 0))] [0,3,9,71,72,73,79]) (.cnd 79 (.r [.s 80 (.m 0),.s 81 (.call 79 [80,(.c (.str [44,32]))])] [0,3,9,71,72,73]) .skip)) (.q (.r [.s 83 (.fa 2 3),.s 84 (.l 83),.s 85 (.m 9),.s 86 (.ia 1 84 85),.s 87 (.l 86),.s 88 (.call 80 [87]),.s 82 (.m 88),.s 89 (.ext 82 0),.s 90 (.ext 82 1),.s 10 (.m 89),.s 11 (.m 90)] [0,3,9,10,71,72,73]) (.q (.r [.s 91 (.m 0),.s 92 (.m 10),.s 93 (.bin .add none 92 (.c (.str [58,32]))),.s 94 (.call 79 [91,93])] [0,3,9,71,72,73]) (.r [.s 95 (.m 0),.s 96 (.fa 3 3),.s 97 (.l 96),.s 98 (.m 9),.s 99 (.ia 4 97 98),.s 100 (.ld true 4 99),.s 101 (.call 47 [95,100])] [0,3,71,72,73])))))) (.r [.s 102 (.bin .add none 73 (.k 1)),.s 73 (.m 102)] [0,3,71,72,73])))) (.trim [0,3,71,72,73])))))) (.r [.s 103 (.m 0),.s 104 (.call 79 [103,(.c (.str [125]))])] []))) .skip))))))))))))))),[]⟩
/-- (*strings.Builder).Len -/
def F48 : DF := ⟨1,(.q (.r [.s 2 (.mv (.k 0))] [0]) (.q (.r [.s 3 (.m 0),.s 4 (.nilc 3),.s 5 (.fa 1 4),.s 6 (.l 5),.s 7 (.len 6),.s 2 (.m 7)] [2]) .ret)),[.tmp 2]⟩
/-- (*strings.Builder).String -/
def F49 : DF := ⟨1,(.q (.r [.s 2 (.mv (.c (.str [])))] [0]) (.q (.drw [((.s 3 (.m 0),none),[]),((.s 4 (.nilc 3),none),[]),((.s 5 (.fa 1 4),none),[]),((.s 6 (.l 5),none),[]),((.s 7 (.usd 6),none),[]),((.s 8 (.m 0),none),[]),((.s 9 (.nilc 8),none),[]),((.s 10 (.fa 1 9),none),[]),((.s 11 (.l 10),none),[]),((.s 12 (.len 11),none),[]),((.s 13 (.ustr 5 7 12),none),[]),((.s 2 (.m 13),none),[])] [2]) .ret)),[.tmp 2]⟩
/-- emend/tree.formed -/
def F50 : DF := ⟨1,(.q (.r [.s 1 (.bxL 0),.s 2 (.mv .ff)] [1]) (.q (.q (.r [.s 8 (.fa 3 1),.s 9 (.l 8),.s 10 (.len 9),.s 11 (.mv (.k 0))] [1,9,10,11]) (.blk 0 (.q (.trim [1,9,10,11]) (.lop (.q (.q (.r [.s 12 (.bin .lss none 11 10)] [1,9,10,11,12]) (.q (.cnd 12 .skip (.exit 0)) (.q (.blk 1 (.q (.r [.s 13 (.ia 4 9 11),.s 14 (.ld true 4 13),.s 4 (.alL zz),.n (.st 4 4 14)] [1,4,9,10,11]) (.q (.r [.s 15 (.ld true 4 4),.s 16 (.call 50 [15]),.s 17 (.un .not 16)] [1,9,10,11,17]) (.cnd 17 (.q (.r [.s 2 (.mv .ff)] [2]) .ret) .skip)))) (.r [.s 18 (.bin .add none 11 (.k 1)),.s 11 (.m 18)] [1,9,10,11])))) (.trim [1,9,10,11])))))) (.q (.r [.s 19 (.fa 2 1),.s 20 (.l 19),.s 21 (.len 20),.s 22 (.bin .eql (some .int) 21 (.k 0)),.s 23 (.m 22),.g 24 (.fa 3 1) 23 true,.g 25 (.l 24) 23 true,.g 26 (.len 25) 23 true,.g 27 (.bin .eql (some .int) 26 (.k 0)) 23 true,.s 28 (.pick 23 27 .ff),.s 5 (.m 28)] [1,5]) (.q (.q (.r [.s 29 (.fa 0 1),.s 30 (.l 29)] [1,5,30]) (.blk 2 (.q (.r [.s 32 (.bin .eql (some .int) 30 (.k 1)),.s 31 (.m 32)] [1,5,30,31]) (.cnd 31 (.q (.r [.s 33 (.m 5),.s 34 (.m 33),.g 35 (.fa 1 1) 34 true,.g 36 (.l 35) 34 true,.g 37 (.bin .eql (some .str) 36 (.c (.str []))) 34 true,.s 38 (.pick 34 37 .ff),.s 2 (.m 38)] [2]) .ret) (.q (.r [.s 40 (.bin .eql (some .int) 30 (.k 2)),.s 39 (.m 40)] [1,5,30,39]) (.cnd 39 (.q (.r [.s 41 (.m 5),.s 42 (.m 41),.g 43 (.fa 1 1) 42 true,.g 44 (.l 43) 42 true,.g 45 (.bin .eql (some .str) 44 (.c (.str [116,114,117,101]))) 42 true,.g 46 (.m 45) 42 true,.g 47 (.fa 1 1) 46 false,.g 48 (.l 47) 46 false,.g 49 (.bin .eql (some .str) 48 (.c (.str [102,97,108,115,101]))) 46 false,.g 50 (.pick 46 .tt 49) 42 true,.s 51 (.pick 42 50 .ff),.s 2 (.m 51)] [2]) .ret) (.q (.r [.s 53 (.bin .eql (some .int) 30 (.k 3)),.s 52 (.m 53)] [1,5,30,52]) (.cnd 52 (.q (.r [.s 55 (.fa 1 1),.s 56 (.l 55),.s 57 (.call 81 [56]),.s 54 (.m 57),.s 58 (.ext 54 0),.s 59 (.ext 54 1),.s 6 (.m 58),.s 7 (.m 59)] [1,5,6,7]) (.q (.r [.s 60 (.m 5),.s 61 (.m 60),.g 62 (.m 7) 61 true,.g 63 (.bin .eql (some .int) 62 (.k 0)) 61 true,.s 64 (.pick 61 63 .ff),.s 65 (.m 64),.g 66 (.m 6) 65 true,.g 67 (.fa 1 1) 65 true,.g 68 (.l 67) 65 true,.g 69 (.bin .eql (some .str) 66 68) 65 true,.s 70 (.pick 65 69 .ff),.s 2 (.m 70)] [2]) .ret)) (.q (.r [.s 72 (.bin .eql (some .int) 30 (.k 4)),.s 71 (.m 72)] [1,5,30,71]) (.cnd 71 (.q (.r [.s 73 (.m 5),.s 74 (.m 73),.g 75 (.fa 1 1) 74 true,.g 76 (.l 75) 74 true,.g 77 (.call 82 [76]) 74 true,.s 78 (.pick 74 77 .ff),.s 2 (.m 78)] [2]) .ret) (.q (.r [.s 80 (.bin .eql (some .int) 30 (.k 5)),.s 79 (.m 80)] [1,5,30,79]) (.cnd 79 (.q (.r [.s 81 (.m 5),.s 82 (.m 81),.g 83 (.fa 1 1) 82 true,.g 84 (.l 83) 82 true,.g 85 (.call 83 [84]) 82 true,.s 86 (.pick 82 85 .ff),.s 2 (.m 86)] [2]) .ret) (.q (.r [.s 88 (.bin .eql (some .int) 30 (.k 6)),.s 87 (.m 88)] [1,30,87]) (.cnd 87 (.q (.r [.s 89 (.fa 1 1),.s 90 (.l 89),.s 91 (.bin .eql (some .str) 90 (.c (.str []))),.s 92 (.m 91),.g 93 (.fa 2 1) 92 true,.g 94 (.l 93) 92 true,.g 95 (.len 94) 92 true,.g 96 (.bin .eql (some .int) 95 (.k 0)) 92 true,.s 97 (.pick 92 96 .ff),.s 2 (.m 97)] [2]) .ret) (.q (.r [.s 99 (.bin .eql (some .int) 30 (.k 7)),.s 98 (.m 99)] [1,98]) (.cnd 98 (.q (.r [.s 100 (.fa 1 1),.s 101 (.l 100),.s 102 (.bin .eql (some .str) 101 (.c (.str []))),.s 103 (.m 102),.g 104 (.fa 2 1) 103 true,.g 105 (.l 104) 103 true,.g 106 (.len 105) 103 true,.g 107 (.fa 3 1) 103 true,.g 108 (.l 107) 103 true,.g 109 (.len 108) 103 true,.g 110 (.bin .eql (some .int) 106 109) 103 true,.s 111 (.pick 103 110 .ff),.s 112 (.m 111),.g 113 (.fa 2 1) 112 true,.g 114 (.l 113) 112 true,.g 115 (.call 84 [114]) 112 true,.s 116 (.pick 112 115 .ff),.s 2 (.m 116)] [2]) .ret) .skip)))))))))))))))) (.q (.r [.s 2 (.mv .ff)] [2]) .ret))))),[.tmp 2]⟩
/-- emend/tree.Read -/
def F51 : DD := ⟨2,(.q (.r [.s 4 (.alH 32 [.nilif])] [0,1,4]) (.q (.r [.s 6 (.m 0),.s 7 (.lenS 6),.s 8 (.bin .gtr none 7 (.k 65536))] [0,1,4,8]) (.q (.cnd 8 (.q (.r [.s 9 (.call 85 [(.k 0),(.k 2)]),.s 10 (.mki 105 9),.n (.st 1 4 10)] [4]) .ret) .skip) (.q (.r [.s 11 (.m 0),.s 12 (.call 86 [11]),.s 5 (.m 12)] [0,1,4,5]) (.q (.r [.s 13 (.m 5),.s 14 (.bin .geq none 13 (.k 0))] [0,1,4,5,14]) (.q (.cnd 14 (.q (.r [.s 15 (.m 5),.s 16 (.call 85 [15,(.k 10)]),.s 17 (.mki 105 16),.n (.st 1 4 17)] [4]) .ret) .skip) .skip)))))),[.s 18 (.mkf 87 [] [4])],18,[0,1,4],(.q (.r [.s 19 (.m 1),.s 20 (.m 0),.s 21 (.bld [(.str []),(.int .i64 0),(.int .i64 0)] [(0,1,20)]),.s 22 (.bxH 88 21),.s 23 (.callv 19 [22])] [4]) (.q (.r [.n (.st 1 4 (.c .nilif))] [4]) (.q .ret .skip))),[.cell 4 false 1],[4]⟩
/-- emend/tree.Parse$1 -/
def F52 : DF := ⟨3,(.q (.r [.s 5 (.m 0),.s 6 (.bld [.nilp] [(0,1,5)]),.s 4 (.alL [.nilp]),.n (.st 1 4 6)] [1,2,4]) (.q (.r [.s 7 (.ld true 1 4),.s 8 (.call 53 [7])] [1,2,4]) (.q (.r [.s 9 (.ld true 1 4),.s 10 (.call 54 [9,(.k 1)]),.n (.st 4 1 10)] [2,4]) (.q (.r [.s 11 (.ld true 1 4),.s 12 (.call 53 [11])] [2,4]) (.q (.drw [((.s 13 (.fa 0 4),(some 4)),[]),((.s 14 (.l 13),(some 4)),[]),((.s 15 (.nilc 14),none),[]),((.s 16 (.fa 1 15),none),[]),((.s 17 (.l 16),none),[]),((.s 18 (.l 2),none),[]),((.s 19 (.lenS 18),none),[]),((.s 20 (.bin .lss none 17 19),none),[])] [4,20]) (.cnd 20 (.r [.s 21 (.fa 0 4),.s 22 (.l 21),.s 23 (.call 55 [22])] []) .skip)))))),[]⟩
/-- (emend/tree.parser).blanks -/
def F53 : DF := ⟨1,(.q (.r [.s 1 (.bxL 0)] [1]) (.r [.s 2 (.fa 0 1),.s 3 (.l 2),.s 4 (.call 88 [3,(.f 89)])] [])),[]⟩
/-- (emend/tree.parser).tree -/
def F54 : DF := ⟨2,(.q (.r [.s 2 (.bxL 0),.s 4 (.alL zz)] [1,2,4]) (.q (.r [.s 8 (.fa 0 2),.s 9 (.l 8),.s 10 (.nilc 9),.s 11 (.fa 1 10),.s 12 (.l 11),.s 5 (.m 12)] [1,2,4,5]) (.q (.blk 0 (.q (.r [.s 14 (.fa 0 2),.s 15 (.l 14),.s 16 (.call 90 [15,(.u 34)]),.s 13 (.m 16)] [1,2,4,5,13]) (.cnd 13 (.q (.r [.s 17 (.fa 0 2),.s 18 (.l 17),.s 19 (.m 5),.s 20 (.m 1),.s 21 (.call 91 [18,19,20,(.k 1)])] [2,4]) (.q (.r [.s 22 (.fa 0 2),.s 23 (.l 22),.s 24 (.call 92 [23]),.s 25 (.bld zz [(0,1,(.k 4)),(1,1,24)]),.n (.st 4 4 25)] [4]) .ret)) (.q (.r [.s 27 (.fa 0 2),.s 28 (.l 27),.s 29 (.call 90 [28,(.u 91)]),.s 26 (.m 29)] [1,2,4,5,26]) (.cnd 26 (.q (.r [.s 30 (.fa 0 2),.s 31 (.l 30),.s 32 (.m 5),.s 33 (.m 1),.s 34 (.call 91 [31,32,33,(.k 1)])] [1,2,4]) (.q (.r [.s 35 (.ld true 1 2),.s 36 (.m 1),.s 37 (.call 93 [35,36]),.n (.st 4 4 37)] [4]) .ret)) (.q (.r [.s 39 (.fa 0 2),.s 40 (.l 39),.s 41 (.call 90 [40,(.u 123)]),.s 38 (.m 41)] [1,2,4,5,38]) (.cnd 38 (.q (.r [.s 42 (.fa 0 2),.s 43 (.l 42),.s 44 (.m 5),.s 45 (.m 1),.s 46 (.call 91 [43,44,45,(.k 1)])] [1,2,4]) (.q (.r [.s 47 (.ld true 1 2),.s 48 (.m 1),.s 49 (.call 94 [47,48]),.n (.st 4 4 49)] [4]) .ret)) (.q (.r [.s 51 (.fa 0 2),.s 52 (.l 51),.s 53 (.call 90 [52,(.u 64)]),.s 50 (.m 53)] [1,2,4,5,50]) (.cnd 50 (.q (.r [.s 54 (.fa 0 2),.s 55 (.l 54),.s 56 (.nilc 55),.s 57 (.fa 1 56),.s 58 (.l 57),.s 59 (.bin .add none 58 (.k 1)),.s 60 (.nilc 55),.s 61 (.fa 1 60),.n (.st 1 61 59)] [1,2,4,5]) (.q (.r [.s 62 (.fa 0 2),.s 63 (.l 62),.s 64 (.call 88 [63,(.f 95)]),.s 6 (.m 64)] [1,2,4,5,6]) (.q (.q (.r [.s 65 (.m 6),.s 66 (.call 83 [65]),.s 67 (.un .not 66)] [1,2,4,5,6,67]) (.cnd 67 (.r [.s 68 (.m 5),.s 69 (.call 97 [68,(.k 20)])] [1,2,4,5,6]) .skip)) (.q (.r [.s 70 (.fa 0 2),.s 71 (.l 70),.s 72 (.m 5),.s 73 (.m 1),.s 74 (.call 91 [71,72,73,(.k 1)])] [4,6]) (.q (.r [.s 75 (.m 6),.s 76 (.bld zz [(0,1,(.k 5)),(1,1,75)]),.n (.st 4 4 76)] [4]) .ret))))) .skip))))))))) (.q (.r [.s 77 (.fa 0 2),.s 78 (.l 77),.s 79 (.call 98 [78]),.s 7 (.alL zz),.n (.st 4 7 79)] [1,2,4,5,7]) (.q (.r [.s 80 (.fa 0 2),.s 81 (.l 80),.s 82 (.m 5),.s 83 (.m 1),.s 84 (.call 91 [81,82,83,(.k 1)])] [4,7]) (.q (.r [.s 85 (.ld true 4 7),.n (.st 4 4 85)] [4]) .ret)))))),[.cell 4 true 4]⟩
/-- (*emend/tree.Place).Bad -/
def F55 : DF := ⟨1,(.q (.q (.drw [((.s 2 (.m 0),none),[]),((.s 3 (.nilc 2),none),[]),((.s 4 (.fa 1 3),none),[]),((.s 5 (.l 4),none),[]),((.s 6 (.m 0),none),[]),((.s 7 (.nilc 6),none),[]),((.s 8 (.fa 0 7),none),[]),((.s 9 (.l 8),none),[]),((.s 10 (.lenS 9),none),[]),((.s 11 (.bin .geq none 5 10),none),[])] [0,11]) (.cnd 11 (.r [.s 12 (.m 0),.s 13 (.nilc 12),.s 14 (.fa 0 13),.s 15 (.l 14),.s 16 (.lenS 15),.s 17 (.call 97 [16,(.k 14)])] [0]) .skip)) (.r [.s 18 (.m 0),.s 19 (.nilc 18),.s 20 (.fa 1 19),.s 21 (.l 20),.s 22 (.call 97 [21,(.k 13)])] [])),[]⟩
/-- emend/tree.part -/
def F56 : DF := ⟨2,(.q (.r [.s 2 (.bxL 0),.s 3 (.bxL 1),.s 4 (.mv (.k 0))] [2,3]) (.q (.q (.r [.s 6 (.fa 0 2),.s 7 (.l 6)] [2,3,7]) (.blk 0 (.q (.r [.s 9 (.bin .eql (some .int) 7 (.k 6)),.s 8 (.m 9)] [2,3,7,8]) (.cnd 8 (.q (.r [.s 10 (.fa 0 3),.s 11 (.l 10),.s 12 (.bin .eql (some .str) 11 (.c (.str []))),.s 13 (.m 12),.g 14 (.fa 1 3) 13 true,.g 15 (.l 14) 13 true,.g 16 (.bin .geq none 15 (.k 0)) 13 true,.s 17 (.pick 13 16 .ff),.s 18 (.m 17),.g 19 (.fa 1 3) 18 true,.g 20 (.l 19) 18 true,.g 21 (.fa 3 2) 18 true,.g 22 (.l 21) 18 true,.g 23 (.len 22) 18 true,.g 24 (.bin .lss none 20 23) 18 true,.s 25 (.pick 18 24 .ff)] [3,25]) (.cnd 25 (.q (.r [.s 26 (.fa 1 3),.s 27 (.l 26),.s 4 (.m 27)] [4]) .ret) .skip)) (.q (.r [.s 29 (.bin .eql (some .int) 7 (.k 7)),.s 28 (.m 29)] [2,3,28]) (.cnd 28 (.q (.r [.s 30 (.fa 2 2),.s 31 (.l 30),.s 32 (.fa 0 3),.s 33 (.l 32),.s 34 (.call 99 [31,33]),.s 5 (.m 34)] [2,3,5]) (.q (.r [.s 35 (.ld true 2 3),.s 36 (.fa 0 3),.s 37 (.l 36),.s 38 (.bld [(.str []),(.int .i64 0)] [(0,1,37)]),.s 39 (.bin .eql (some (.st [(0,.str),(1,.int)])) 35 38),.s 40 (.m 39),.g 41 (.m 5) 40 true,.g 42 (.fa 3 2) 40 true,.g 43 (.l 42) 40 true,.g 44 (.len 43) 40 true,.g 45 (.bin .lss none 41 44) 40 true,.s 46 (.pick 40 45 .ff)] [5,46]) (.cnd 46 (.q (.r [.s 47 (.m 5),.s 4 (.m 47)] [4]) .ret) .skip))) .skip)))))) (.q (.r [.s 4 (.mv (.k (-1)))] [4]) .ret))),[.tmp 4]⟩
/-- emend/tree.set -/
def F57 : DF := ⟨3,(.q (.r [.s 3 (.bxL 0),.s 4 (.bxL 1),.s 6 (.alL zz),.s 7 (.mv .ff)] [2,3,4,6]) (.q (.q (.r [.s 14 (.m 2),.s 15 (.len 14),.s 16 (.bin .eql (some .int) 15 (.k 0))] [2,3,4,6,16]) (.cnd 16 (.q (.r [.s 17 (.ld true 4 4),.s 18 (.call 31 [17]),.n (.st 4 6 18),.s 7 (.mv .tt)] [6,7]) .ret) .skip)) (.q (.drw [((.s 19 (.ld true 4 3),(some 3)),[]),((.s 20 (.m 2),none),[]),((.s 21 (.ia 2 20 (.k 0)),none),[]),((.s 22 (.ld true 2 21),none),[]),((.s 23 (.call 56 [19,22]),none),[]),((.s 8 (.m 23),none),[])] [2,3,4,6,8]) (.q (.q (.r [.s 24 (.m 8),.s 25 (.bin .lss none 24 (.k 0))] [2,3,4,6,8,25]) (.cnd 25 (.q (.r [.s 26 (.bld zz []),.n (.st 4 6 26),.s 7 (.mv .ff)] [6,7]) .ret) .skip)) (.q (.drw [((.s 28 (.fa 3 3),(some 3)),[]),((.s 29 (.l 28),(some 3)),[]),((.s 30 (.m 8),none),[]),((.s 31 (.ia 4 29 30),none),[]),((.s 32 (.ld true 4 31),none),[]),((.s 33 (.ld true 4 4),(some 4)),[]),((.s 34 (.m 2),none),[]),((.s 35 (.slA 2 34 (some (.k 1)) none none),none),[]),((.s 9 (.alL zz),none),[]),((.s 36 (.call 57 [32,33,35]),none),[]),((.s 27 (.m 36),none),[]),((.s 37 (.ext 27 0),none),[]),((.s 38 (.ext 27 1),none),[]),((.n (.st 4 9 37),(some 9)),[]),((.s 10 (.m 38),none),[])] [3,6,8,9,10]) (.q (.q (.r [.s 39 (.m 10),.s 40 (.un .not 39)] [3,6,8,9,40]) (.cnd 40 (.q (.r [.s 41 (.bld zz []),.n (.st 4 6 41),.s 7 (.mv .ff)] [6,7]) .ret) .skip)) (.q (.r [.s 42 (.fa 0 3),.s 43 (.l 42),.s 44 (.fa 1 3),.s 45 (.l 44),.s 46 (.bld zz [(0,1,43),(1,1,45)]),.s 11 (.alL zz),.n (.st 4 11 46)] [3,6,8,9,11]) (.q (.r [.s 47 (.fa 2 11),.s 48 (.l 47),.s 49 (.fa 2 3),.s 50 (.l 49),.s 51 (.app false 9 1 16 48 50),.s 52 (.fa 2 11),.n (.st 1 52 51)] [3,6,8,9,11]) (.q (.q (.r [.s 53 (.fa 3 3),.s 54 (.l 53),.s 55 (.len 54),.s 56 (.mv (.k 0))] [6,8,9,11,54,55,56]) (.blk 0 (.q (.trim [6,8,9,11,54,55,56]) (.lop (.q (.q (.r [.s 57 (.bin .lss none 56 55)] [6,8,9,11,54,55,56,57]) (.q (.cnd 57 .skip (.exit 0)) (.q (.blk 1 (.q (.r [.s 58 (.m 56),.s 59 (.ia 4 54 56),.s 60 (.ld true 4 59),.s 13 (.alL zz),.s 12 (.m 58),.n (.st 4 13 60)] [6,8,9,11,12,13,54,55,56]) (.q (.r [.s 61 (.m 12),.s 62 (.m 8),.s 63 (.bin .eql (some .int) 61 62)] [6,8,9,11,13,54,55,56,63]) (.cnd 63 (.r [.s 64 (.fa 3 11),.s 65 (.l 64),.s 66 (.ld true 4 9),.s 67 (.bldT 25 4 1 (.agg zz) [(0,66)]),.s 68 (.app true 25 4 72 65 67),.s 69 (.fa 3 11),.n (.st 1 69 68)] [6,8,9,11,54,55,56]) (.drw [((.s 70 (.fa 3 11),(some 11)),[]),((.s 71 (.l 70),(some 11)),[]),((.s 72 (.ld true 4 13),(some 13)),[]),((.s 73 (.call 31 [72]),none),[]),((.s 74 (.bldS 4 1 (.agg zz) [(0,73)]),none),[]),((.s 75 (.app true 25 4 72 71 74),none),[]),((.s 76 (.fa 3 11),(some 11)),[]),((.n (.st 1 76 75),(some 11)),[])] [6,8,9,11,54,55,56]))))) (.r [.s 77 (.bin .add none 56 (.k 1)),.s 56 (.m 77)] [6,8,9,11,54,55,56])))) (.trim [6,8,9,11,54,55,56])))))) (.q (.r [.s 78 (.ld true 4 11),.n (.st 4 6 78),.s 7 (.mv .tt)] [6,7]) .ret)))))))))),[.cell 6 true 4,.tmp 7]⟩
/-- emend/tree.identical -/
def F58 : DF := ⟨2,(.q (.r [.s 2 (.bxL 0),.s 3 (.bxL 1),.s 4 (.mv .ff)] [2,3]) (.q (.r [.s 5 (.fa 0 2),.s 6 (.l 5),.s 7 (.fa 0 3),.s 8 (.l 7),.s 9 (.bin .eql (some .int) 6 8),.s 10 (.m 9),.g 11 (.fa 1 2) 10 true,.g 12 (.l 11) 10 true,.g 13 (.fa 1 3) 10 true,.g 14 (.l 13) 10 true,.g 15 (.bin .eql (some .str) 12 14) 10 true,.s 16 (.pick 10 15 .ff),.s 17 (.m 16),.g 18 (.fa 2 2) 17 true,.g 19 (.l 18) 17 true,.g 20 (.fa 2 3) 17 true,.g 21 (.l 20) 17 true,.g 22 (.call 100 [19,21]) 17 true,.s 23 (.pick 17 22 .ff),.s 24 (.m 23),.g 25 (.fa 3 2) 24 true,.g 26 (.l 25) 24 true,.g 27 (.fa 3 3) 24 true,.g 28 (.l 27) 24 true,.g 29 (.call 101 [26,28,(.f 58)]) 24 true,.s 30 (.pick 24 29 .ff),.s 4 (.m 30)] [4]) .ret)),[.tmp 4]⟩
/-- emend/tree.compare -/
def F59 : DF := ⟨2,(.q (.r [.s 2 (.bxL 0),.s 3 (.bxL 1),.s 4 (.mv (.k 0))] [2,3]) (.q (.q (.r [.s 11 (.fa 0 2),.s 12 (.l 11),.s 13 (.fa 0 3),.s 14 (.l 13),.s 15 (.bin .neq (some .int) 12 14)] [2,3,15]) (.cnd 15 (.q (.r [.s 16 (.fa 0 2),.s 17 (.l 16),.s 18 (.fa 0 3),.s 19 (.l 18),.s 20 (.bin .sub none 17 19),.s 21 (.call 102 [20]),.s 4 (.m 21)] [4]) .ret) .skip)) (.q (.q (.r [.s 22 (.fa 0 2),.s 23 (.l 22),.s 24 (.bin .eql (some .int) 23 (.k 3))] [2,3,24]) (.cnd 24 (.q (.r [.s 26 (.fa 1 2),.s 27 (.l 26),.s 28 (.fa 1 3),.s 29 (.l 28),.s 30 (.call 103 [27,29]),.s 25 (.m 30),.s 31 (.ext 25 0),.s 32 (.ext 25 1),.s 5 (.m 31),.s 6 (.m 32)] [2,3,5,6]) (.q (.r [.s 33 (.m 6),.s 34 (.bin .eql (some .int) 33 (.k 0))] [2,3,5,34]) (.cnd 34 (.q (.r [.s 35 (.m 5),.s 4 (.m 35)] [4]) .ret) .skip))) .skip)) (.q (.q (.r [.s 36 (.fa 1 2),.s 37 (.l 36),.s 38 (.fa 1 3),.s 39 (.l 38),.s 40 (.call 104 [37,39]),.s 7 (.m 40)] [2,3,7]) (.q (.r [.s 41 (.m 7),.s 42 (.bin .neq (some .int) 41 (.k 0))] [2,3,7,42]) (.cnd 42 (.q (.r [.s 43 (.m 7),.s 4 (.m 43)] [4]) .ret) .skip))) (.q (.q (.r [.s 44 (.fa 3 2),.s 45 (.l 44),.s 46 (.len 45),.s 47 (.fa 3 3),.s 48 (.l 47),.s 49 (.len 48),.s 50 (.mn [46,49]),.s 51 (.mv (.k 0))] [2,3,50,51]) (.blk 0 (.q (.trim [2,3,50,51]) (.lop (.q (.q (.r [.s 52 (.bin .lss none 51 50)] [2,3,50,51,52]) (.q (.cnd 52 .skip (.exit 0)) (.q (.blk 1 (.q (.r [.s 53 (.m 51),.s 8 (.m 53)] [2,3,8,50,51]) (.q (.q (.r [.s 54 (.m 8),.s 55 (.fa 2 2),.s 56 (.l 55),.s 57 (.len 56),.s 58 (.bin .lss none 54 57),.s 59 (.m 58),.g 60 (.m 8) 59 true,.g 61 (.fa 2 3) 59 true,.g 62 (.l 61) 59 true,.g 63 (.len 62) 59 true,.g 64 (.bin .lss none 60 63) 59 true,.s 65 (.pick 59 64 .ff)] [2,3,8,50,51,65]) (.cnd 65 (.q (.drw [((.s 66 (.fa 2 2),(some 2)),[]),((.s 67 (.l 66),(some 2)),[]),((.s 68 (.m 8),none),[]),((.s 69 (.ia 1 67 68),none),[]),((.s 70 (.l 69),none),[]),((.s 71 (.fa 2 3),(some 3)),[]),((.s 72 (.l 71),(some 3)),[]),((.s 73 (.m 8),none),[]),((.s 74 (.ia 1 72 73),none),[]),((.s 75 (.l 74),none),[]),((.s 76 (.call 104 [70,75]),none),[]),((.s 9 (.m 76),none),[])] [2,3,8,9,50,51]) (.q (.r [.s 77 (.m 9),.s 78 (.bin .neq (some .int) 77 (.k 0))] [2,3,8,9,50,51,78]) (.cnd 78 (.q (.r [.s 79 (.m 9),.s 4 (.m 79)] [4]) .ret) .skip))) .skip)) (.q (.drw [((.s 80 (.fa 3 2),(some 2)),[]),((.s 81 (.l 80),(some 2)),[]),((.s 82 (.m 8),none),[]),((.s 83 (.ia 4 81 82),none),[]),((.s 84 (.ld true 4 83),none),[]),((.s 85 (.fa 3 3),(some 3)),[]),((.s 86 (.l 85),(some 3)),[]),((.s 87 (.m 8),none),[]),((.s 88 (.ia 4 86 87),none),[]),((.s 89 (.ld true 4 88),none),[]),((.s 90 (.call 59 [84,89]),none),[]),((.s 10 (.m 90),none),[])] [2,3,10,50,51]) (.q (.r [.s 91 (.m 10),.s 92 (.bin .neq (some .int) 91 (.k 0))] [2,3,10,50,51,92]) (.cnd 92 (.q (.r [.s 93 (.m 10),.s 4 (.m 93)] [4]) .ret) .skip)))))) (.r [.s 94 (.bin .add none 51 (.k 1)),.s 51 (.m 94)] [2,3,50,51])))) (.trim [2,3,50,51])))))) (.q (.r [.s 95 (.fa 3 2),.s 96 (.l 95),.s 97 (.len 96),.s 98 (.fa 3 3),.s 99 (.l 98),.s 100 (.len 99),.s 101 (.bin .sub none 97 100),.s 102 (.call 102 [101]),.s 4 (.m 102)] [4]) .ret)))))),[.tmp 4]⟩
/-- emend/tree.order -/
def F64 : DF := ⟨1,(.q (.r [.s 1 (.bxH 22 0),.s 2 (.mv (.c (.sl 1 nz [])))] [1]) (.q (.r [.s 5 (.l 1),.s 6 (.len 5),.s 7 (.mks 3 1 8 (.int .i64 0) 6 6),.s 3 (.m 7)] [1,3]) (.q (.q (.r [.s 8 (.m 3),.s 9 (.len 8),.s 10 (.mv (.k 0))] [1,3,9,10]) (.blk 0 (.q (.trim [1,3,9,10]) (.lop (.q (.q (.r [.s 11 (.bin .lss none 10 9)] [1,3,9,10,11]) (.q (.cnd 11 .skip (.exit 0)) (.q (.blk 1 (.q (.r [.s 12 (.m 10),.s 4 (.m 12)] [1,3,4,9,10]) (.r [.s 13 (.m 3),.s 14 (.m 4),.s 15 (.m 4),.s 16 (.ia 1 13 14),.n (.st 1 16 15)] [1,3,9,10]))) (.r [.s 17 (.bin .add none 10 (.k 1)),.s 10 (.m 17)] [1,3,9,10])))) (.trim [1,3,9,10])))))) (.q (.r [.s 18 (.m 3),.s 19 (.mkf 113 [] [1]),.s 20 (.call 112 [18,19])] [3]) (.q (.r [.s 21 (.m 3),.s 2 (.m 21)] [2]) .ret))))),[.tmp 2]⟩
/-- (emend/api.Place).Where -/
def F75 : DF := ⟨1,(.q (.r [.s 1 (.bxL 0),.s 2 (.mv (.k 0))] [1]) (.q (.r [.s 3 (.fa 0 1),.s 4 (.l 3),.s 2 (.m 4)] [2]) .ret)),[.tmp 2]⟩
/-- (*emend/tree.writer).put -/
def F79 : DF := ⟨2,(.q (.r [.s 4 (.m 0),.s 5 (.nilc 4),.s 6 (.fa 0 5),.s 7 (.call 48 [6]),.s 8 (.bin .leq none 7 (.k 65536))] [0,1,8]) (.cnd 8 (.r [.s 9 (.m 0),.s 10 (.nilc 9),.s 11 (.fa 0 10),.s 12 (.m 1),.s 13 (.call 128 [11,12])] []) .skip)),[]⟩
/-- emend/text.Quote -/
def F80 : DF := ⟨1,(.q (.r [.s 2 (.mv (.c (.str []))),.s 3 (.mv (.k 0))] [0]) (.q (.q (.r [.s 8 (.m 0),.s 9 (.call 82 [8]),.s 10 (.un .not 9)] [0,10]) (.cnd 10 (.q (.r [.s 2 (.mv (.c (.str []))),.s 3 (.mv (.k 10))] [2,3]) .ret) .skip)) (.q (.r [.s 4 (.alH 76 [.nilp,(.sl 1 nz [])])] [0,4]) (.q (.r [.s 11 (.call 129 [4,(.u 34)])] [0,4]) (.q (.q (.r [.s 12 (.m 0),.s 13 (.lenS 12),.s 14 (.mv (.k 0))] [0,4,13,14]) (.blk 0 (.q (.trim [0,4,13,14]) (.lop (.q (.q (.r [.s 15 (.bin .lss none 14 13)] [0,4,13,14,15]) (.q (.cnd 15 .skip (.exit 0)) (.q (.blk 1 (.q (.r [.s 16 (.m 14),.s 5 (.m 16)] [0,4,5,13,14]) (.q (.r [.s 17 (.m 0),.s 18 (.m 5),.s 19 (.ixS 17 18),.s 6 (.m 19)] [0,4,6,13,14]) (.q (.r [.s 20 (.m 6),.s 21 (.call 130 [20]),.s 7 (.m 21)] [0,4,6,7,13,14]) (.blk 2 (.q (.r [.s 25 (.m 7),.s 26 (.bin .neq (some .int) 25 (.u 0)),.s 24 (.m 26)] [0,4,6,7,13,14,24]) (.cnd 24 (.q (.r [.s 27 (.call 129 [4,(.u 92)])] [0,4,7,13,14]) (.r [.s 28 (.m 7),.s 29 (.call 129 [4,28])] [0,4,13,14])) (.q (.r [.s 31 (.m 6),.s 32 (.bin .lss none 31 (.u 32)),.s 33 (.m 32),.g 34 (.m 6) 33 false,.g 35 (.bin .eql (some .int) 34 (.u 127)) 33 false,.s 36 (.pick 33 .tt 35),.s 30 (.m 36)] [0,4,6,13,14,30]) (.cnd 30 (.q (.r [.s 37 (.call 128 [4,(.c (.str [92,117,48,48]))])] [0,4,6,13,14]) (.q (.r [.s 38 (.m 6),.s 39 (.bin .shr none 38 (.c (.int .u64 4))),.s 40 (.cvI .i64 39),.s 41 (.call 131 [40]),.s 42 (.call 129 [4,41])] [0,4,6,13,14]) (.r [.s 43 (.m 6),.s 44 (.cvI .i64 43),.s 45 (.call 131 [44]),.s 46 (.call 129 [4,45])] [0,4,13,14]))) (.r [.s 22 (.m 6),.s 23 (.call 129 [4,22])] [0,4,13,14])))))))))) (.r [.s 47 (.bin .add none 14 (.k 1)),.s 14 (.m 47)] [0,4,13,14])))) (.trim [0,4,13,14])))))) (.q (.r [.s 48 (.call 129 [4,(.u 34)])] [4]) (.q (.r [.s 49 (.call 49 [4]),.s 2 (.m 49),.s 3 (.mv (.k 0))] [2,3]) .ret))))))),[.tmp 2,.tmp 3]⟩
/-- emend/num.Normal -/
def F81 : DF := ⟨1,(.q (.r [.s 2 (.mv (.c (.str []))),.s 3 (.mv (.k 0))] [0]) (.q (.r [.s 7 (.m 0),.s 8 (.call 132 [7]),.s 6 (.m 8),.s 9 (.ext 6 0),.s 10 (.ext 6 1),.s 4 (.alL [(.bool false),(.str []),(.int .i64 0)]),.n (.st 3 4 9),.s 5 (.m 10)] [4,5]) (.q (.q (.r [.s 11 (.m 5),.s 12 (.bin .neq (some .int) 11 (.k 0))] [4,5,12]) (.cnd 12 (.q (.r [.s 13 (.m 5),.s 2 (.mv (.c (.str []))),.s 3 (.m 13)] [2,3]) .ret) .skip)) (.q (.r [.s 14 (.ld true 3 4),.s 15 (.call 133 [14]),.s 16 (.ext 15 0),.s 17 (.ext 15 1),.s 2 (.m 16),.s 3 (.m 17)] [2,3]) .ret)))),[.tmp 2,.tmp 3]⟩
/-- emend/text.Valid -/
def F82 : DF := ⟨1,(.q (.r [.s 2 (.mv .ff)] [0]) (.q (.r [.s 3 (.m 0),.s 4 (.call 86 [3]),.s 5 (.bin .lss none 4 (.k 0)),.s 2 (.m 5)] [2]) .ret)),[.tmp 2]⟩
/-- emend/tree.Time -/
def F83 : DF := ⟨1,(.q (.r [.s 2 (.mv .ff)] [0]) (.q (.q (.r [.s 6 (.m 0),.s 7 (.call 134 [6]),.s 8 (.m 7),.g 9 (.m 0) 8 false,.g 10 (.call 135 [9]) 8 false,.s 11 (.pick 8 .tt 10)] [0,11]) (.cnd 11 (.q (.r [.s 2 (.mv .tt)] [2]) .ret) .skip)) (.q (.r [.s 13 (.m 0),.s 14 (.call 136 [13]),.s 12 (.m 14),.s 15 (.ext 12 0),.s 16 (.ext 12 1),.s 0 (.m 15)] [0]) (.q (.r [.s 18 (.m 0),.s 19 (.call 137 [18,(.c (.str [84]))]),.s 17 (.m 19),.s 20 (.ext 17 0),.s 21 (.ext 17 1),.s 22 (.ext 17 2),.s 3 (.m 20),.s 4 (.m 21),.s 5 (.m 22)] [3,4,5]) (.q (.r [.s 23 (.m 5),.s 24 (.m 23),.g 25 (.m 3) 24 true,.g 26 (.call 134 [25]) 24 true,.s 27 (.pick 24 26 .ff),.s 28 (.m 27),.g 29 (.m 4) 28 true,.g 30 (.call 135 [29]) 28 true,.s 31 (.pick 28 30 .ff),.s 2 (.m 31)] [2]) .ret))))),[.tmp 2]⟩
/-- emend/tree.unlike -/
def F84 : DF := ⟨1,(.q (.r [.s 2 (.mv .ff)] [0]) (.q (.r [.s 6 (.mkm),.s 3 (.m 6)] [0,3]) (.q (.q (.r [.s 7 (.m 0),.s 8 (.len 7),.s 9 (.mv (.k 0))] [3,7,8,9]) (.blk 0 (.q (.trim [3,7,8,9]) (.lop (.q (.q (.r [.s 10 (.bin .lss none 9 8)] [3,7,8,9,10]) (.q (.cnd 10 .skip (.exit 0)) (.q (.blk 1 (.q (.r [.s 11 (.ia 1 7 9),.s 12 (.l 11),.s 5 (.m 12)] [3,5,7,8,9]) (.q (.r [.s 13 (.m 3),.s 14 (.m 5),.s 15 (.lkp .str (.int .i64 0) 13 14 false),.s 16 (.bin .add none 15 (.k 1)),.n (.mup .str 13 14 16)] [3,5,7,8,9]) (.q (.r [.s 17 (.m 3),.s 18 (.m 5),.s 19 (.lkp .str (.int .i64 0) 17 18 false),.s 20 (.bin .gtr none 19 (.k 1)),.s 21 (.m 20),.g 22 (.m 5) 21 false,.g 23 (.call 82 [22]) 21 false,.g 24 (.un .not 23) 21 false,.s 25 (.pick 21 .tt 24)] [3,7,8,9,25]) (.cnd 25 (.q (.r [.s 2 (.mv .ff)] [2]) .ret) .skip))))) (.r [.s 26 (.bin .add none 9 (.k 1)),.s 9 (.m 26)] [3,7,8,9])))) (.trim [3,7,8,9])))))) (.q (.r [.s 2 (.mv .tt)] [2]) .ret)))),[.tmp 2]⟩
/-- emend/text.Wrong -/
def F85 : DF := ⟨2,(.q (.r [.s 4 (.mv (.c .nilp))] [0,1]) (.q (.r [.s 5 (.m 0),.s 6 (.bld [(.int .i64 0)] [(0,1,5)]),.s 7 (.m 1),.s 8 (.bld [(.int .i64 0),(.int .i64 0)] [(0,1,6),(1,1,7)]),.s 9 (.bxH 111 8),.s 4 (.m 9)] [4]) .ret)),[.tmp 4]⟩
/-- emend/text.Bad -/
def F86 : DF := ⟨1,(.q (.r [.s 2 (.mv (.k 0))] [0]) (.q (.q (.r [.s 3 (.mv (.k 0))] [0,3]) (.blk 0 (.q (.trim [0,3]) (.lop (.q (.q (.q (.r [.s 6 (.m 3),.s 7 (.m 0),.s 8 (.lenS 7),.s 9 (.bin .lss none 6 8)] [0,3,9]) (.cnd 9 .skip (.exit 0))) (.blk 1 (.q (.r [.s 11 (.m 0),.s 12 (.m 3),.s 13 (.slS 11 (some 12) none),.s 14 (.call 138 [13]),.s 10 (.m 14),.s 15 (.ext 10 0),.s 16 (.ext 10 1),.s 4 (.m 15),.s 5 (.m 16)] [0,3,5]) (.q (.q (.r [.s 17 (.m 5),.s 18 (.bin .eql (some .int) 17 (.k 0))] [0,3,5,18]) (.cnd 18 (.q (.r [.s 19 (.m 3),.s 2 (.m 19)] [2]) .ret) .skip)) (.r [.s 20 (.m 3),.s 21 (.m 5),.s 22 (.bin .add none 20 21),.s 3 (.m 22)] [0,3]))))) (.trim [0,3])))))) (.q (.r [.s 2 (.mv (.k (-1)))] [2]) .ret))),[.tmp 2]⟩
/-- emend/tree.Read$1 -/
def F87 : DG := ⟨1,4,[.s 1 (.m 4)],[0,1],(.q (.r [.s 5 (.m 1),.s 6 (.bin .eql (some .ifc) 5 (.c .nilif))] [0,1,6]) (.q (.cnd 6 .ret .skip) (.q (.r [.s 8 (.m 1),.s 9 (.tas true 105 .nilp 8),.s 7 (.m 9),.s 10 (.ext 7 0),.s 11 (.ext 7 1),.s 2 (.m 10),.s 3 (.m 11)] [0,1,2,3]) (.q (.r [.s 12 (.m 3),.s 13 (.un .not 12)] [0,1,2,13]) (.q (.cnd 13 (.r [.s 14 (.m 1),.n (.pnc 14)] [0,2]) .skip) (.q (.r [.s 15 (.m 2),.s 16 (.mki 105 15),.n (.st 1 0 16)] []) .skip))))))⟩
/-- (*emend/tree.Place).Row -/
def F88 : DF := ⟨2,(.q (.r [.s 4 (.mv (.c (.str [])))] [0,1]) (.q (.r [.s 6 (.m 0),.s 7 (.nilc 6),.s 8 (.fa 1 7),.s 9 (.l 8),.s 5 (.m 9)] [0,1,5]) (.q (.blk 0 (.q (.trim [0,1,5]) (.lop (.q (.q (.q (.drw [((.s 10 (.m 0),none),[]),((.s 11 (.nilc 10),none),[]),((.s 12 (.fa 1 11),none),[]),((.s 13 (.l 12),none),[]),((.s 14 (.m 0),none),[]),((.s 15 (.nilc 14),none),[]),((.s 16 (.fa 0 15),none),[]),((.s 17 (.l 16),none),[]),((.s 18 (.lenS 17),none),[]),((.s 19 (.bin .lss none 13 18),none),[]),((.s 20 (.m 19),none),[]),((.g 21 (.m 1) 20 true,none),[]),((.g 22 (.m 0) 20 true,none),[]),((.g 23 (.nilc 22) 20 true,none),[]),((.g 24 (.fa 0 23) 20 true,none),[]),((.g 25 (.l 24) 20 true,none),[]),((.g 26 (.m 0) 20 true,none),[]),((.g 27 (.nilc 26) 20 true,none),[]),((.g 28 (.fa 1 27) 20 true,none),[]),((.g 29 (.l 28) 20 true,none),[]),((.g 30 (.ixS 25 29) 20 true,none),[]),((.g 31 (.callv 21 [30]) 20 true,none),[]),((.s 32 (.pick 20 31 .ff),none),[])] [0,1,5,32]) (.cnd 32 .skip (.exit 0))) (.blk 1 (.r [.s 33 (.m 0),.s 34 (.nilc 33),.s 35 (.fa 1 34),.s 36 (.l 35),.s 37 (.bin .add none 36 (.k 1)),.s 38 (.nilc 33),.s 39 (.fa 1 38),.n (.st 1 39 37)] [0,1,5]))) (.trim [0,1,5]))))) (.q (.drw [((.s 40 (.m 0),none),[]),((.s 41 (.nilc 40),none),[]),((.s 42 (.fa 0 41),none),[]),((.s 43 (.l 42),none),[]),((.s 44 (.m 5),none),[]),((.s 45 (.m 0),none),[]),((.s 46 (.nilc 45),none),[]),((.s 47 (.fa 1 46),none),[]),((.s 48 (.l 47),none),[]),((.s 49 (.slS 43 (some 44) (some 48)),none),[]),((.s 4 (.m 49),none),[])] [4]) .ret)))),[.tmp 4]⟩
/-- emend/tree.Blank -/
def F89 : DF := ⟨1,(.q (.r [.s 2 (.mv .ff)] [0]) (.q (.r [.s 3 (.m 0),.s 4 (.bin .eql (some .int) 3 (.u 9)),.s 5 (.m 4),.g 6 (.m 0) 5 false,.g 7 (.bin .eql (some .int) 6 (.u 10)) 5 false,.s 8 (.pick 5 .tt 7),.s 9 (.m 8),.g 10 (.m 0) 9 false,.g 11 (.bin .eql (some .int) 10 (.u 13)) 9 false,.s 12 (.pick 9 .tt 11),.s 13 (.m 12),.g 14 (.m 0) 13 false,.g 15 (.bin .eql (some .int) 14 (.u 32)) 13 false,.s 16 (.pick 13 .tt 15),.s 2 (.m 16)] [2]) .ret)),[.tmp 2]⟩
/-- (*emend/tree.Place).Is -/
def F90 : DF := ⟨2,(.q (.r [.s 4 (.mv .ff)] [0,1]) (.q (.drw [((.s 5 (.m 0),none),[]),((.s 6 (.nilc 5),none),[]),((.s 7 (.fa 1 6),none),[]),((.s 8 (.l 7),none),[]),((.s 9 (.m 0),none),[]),((.s 10 (.nilc 9),none),[]),((.s 11 (.fa 0 10),none),[]),((.s 12 (.l 11),none),[]),((.s 13 (.lenS 12),none),[]),((.s 14 (.bin .lss none 8 13),none),[]),((.s 15 (.m 14),none),[]),((.g 16 (.m 0) 15 true,none),[]),((.g 17 (.nilc 16) 15 true,none),[]),((.g 18 (.fa 0 17) 15 true,none),[]),((.g 19 (.l 18) 15 true,none),[]),((.g 20 (.m 0) 15 true,none),[]),((.g 21 (.nilc 20) 15 true,none),[]),((.g 22 (.fa 1 21) 15 true,none),[]),((.g 23 (.l 22) 15 true,none),[]),((.g 24 (.ixS 19 23) 15 true,none),[]),((.g 25 (.m 1) 15 true,none),[]),((.g 26 (.bin .eql (some .int) 24 25) 15 true,none),[]),((.s 27 (.pick 15 26 .ff),none),[]),((.s 4 (.m 27),none),[])] [4]) .ret)),[.tmp 4]⟩
/-- (*emend/tree.Place).Node -/
def F91 : DF := ⟨4,(.q (.q (.r [.s 8 (.m 2),.s 9 (.bin .gtr none 8 (.k 64))] [0,1,3,9]) (.cnd 9 (.r [.s 10 (.m 1),.s 11 (.call 97 [10,(.k 4)])] [0,1,3]) .skip)) (.q (.r [.s 12 (.m 0),.s 13 (.nilc 12),.s 14 (.fa 2 13),.s 15 (.l 14),.s 16 (.m 3),.s 17 (.bin .add none 15 16),.s 18 (.nilc 12),.s 19 (.fa 2 18),.n (.st 1 19 17)] [0,1]) (.q (.r [.s 20 (.m 0),.s 21 (.nilc 20),.s 22 (.fa 2 21),.s 23 (.l 22),.s 24 (.bin .gtr none 23 (.k 4096))] [1,24]) (.cnd 24 (.r [.s 25 (.m 1),.s 26 (.call 97 [25,(.k 3)])] []) .skip)))),[]⟩
/-- (*emend/tree.Place).Quoted -/
def F92 : DF := ⟨1,(.q (.r [.s 2 (.mv (.c (.str [])))] [0]) (.q (.drw [((.s 7 (.m 0),none),[]),((.s 8 (.nilc 7),none),[]),((.s 9 (.fa 0 8),none),[]),((.s 10 (.l 9),none),[]),((.s 11 (.m 0),none),[]),((.s 12 (.nilc 11),none),[]),((.s 13 (.fa 1 12),none),[]),((.s 14 (.l 13),none),[]),((.s 15 (.slS 10 (some 14) none),none),[]),((.s 16 (.call 139 [15]),none),[]),((.s 6 (.m 16),none),[]),((.s 17 (.ext 6 0),none),[]),((.s 18 (.ext 6 1),none),[]),((.s 19 (.ext 6 2),none),[]),((.s 3 (.m 17),none),[]),((.s 4 (.m 18),none),[]),((.s 5 (.m 19),none),[])] [0,3,4,5]) (.q (.q (.r [.s 20 (.m 5),.s 21 (.bin .neq (some .ptr) 20 (.c .nilp))] [0,3,4,5,21]) (.cnd 21 (.drw [((.s 22 (.m 0),none),[]),((.s 23 (.nilc 22),none),[]),((.s 24 (.fa 1 23),none),[]),((.s 25 (.l 24),none),[]),((.s 26 (.m 5),none),[]),((.s 27 (.nilc 26),none),[]),((.s 28 (.fa 0 27),none),[]),((.s 29 (.fa 0 28),none),[]),((.s 30 (.l 29),none),[]),((.s 31 (.bin .add none 25 30),none),[]),((.s 32 (.m 5),none),[]),((.s 33 (.nilc 32),none),[]),((.s 34 (.fa 1 33),none),[]),((.s 35 (.l 34),none),[]),((.s 36 (.call 97 [31,35]),none),[])] [0,3,4]) .skip)) (.q (.r [.s 37 (.m 0),.s 38 (.nilc 37),.s 39 (.fa 1 38),.s 40 (.l 39),.s 41 (.m 4),.s 42 (.bin .add none 40 41),.s 43 (.nilc 37),.s 44 (.fa 1 43),.n (.st 1 44 42)] [3]) (.q (.r [.s 45 (.m 3),.s 2 (.m 45)] [2]) .ret))))),[.tmp 2]⟩
/-- (emend/tree.parser).list -/
def F93 : DF := ⟨2,(.q (.r [.s 2 (.bxL 0),.s 4 (.alL zz)] [1,2,4]) (.q (.r [.s 6 (.bld zz [(0,1,(.k 6))]),.s 5 (.alL zz),.n (.st 4 5 6)] [1,2,4,5]) (.q (.r [.s 7 (.fa 0 2),.s 8 (.l 7),.s 9 (.call 140 [8,(.u 91)])] [1,2,4,5]) (.q (.q (.r [.s 10 (.ld true 1 2),.s 11 (.call 53 [10])] [1,2,4,5]) (.q (.r [.s 12 (.fa 0 2),.s 13 (.l 12),.s 14 (.call 90 [13,(.u 93)])] [1,2,4,5,14]) (.cnd 14 (.q (.r [.s 15 (.fa 0 2),.s 16 (.l 15),.s 17 (.nilc 16),.s 18 (.fa 1 17),.s 19 (.l 18),.s 20 (.bin .add none 19 (.k 1)),.s 21 (.nilc 16),.s 22 (.fa 1 21),.n (.st 1 22 20)] [4,5]) (.q (.r [.s 23 (.ld true 4 5),.n (.st 4 4 23)] [4]) .ret)) .skip))) (.blk 0 (.q (.trim [1,2,4,5]) (.lop (.q (.blk 1 (.q (.r [.s 24 (.ld true 1 2),.s 25 (.call 53 [24])] [1,2,4,5]) (.q (.drw [((.s 26 (.fa 3 5),(some 5)),[]),((.s 27 (.l 26),(some 5)),[]),((.s 28 (.ld true 1 2),(some 2)),[]),((.s 29 (.m 1),none),[]),((.s 30 (.bin .add none 29 (.k 1)),none),[]),((.s 31 (.call 54 [28,30]),none),[]),((.s 32 (.bldS 4 1 (.agg zz) [(0,31)]),none),[]),((.s 33 (.app true 25 4 72 27 32),none),[]),((.s 34 (.fa 3 5),(some 5)),[]),((.n (.st 1 34 33),(some 5)),[])] [1,2,4,5]) (.q (.r [.s 35 (.ld true 1 2),.s 36 (.call 53 [35])] [1,2,4,5]) (.q (.q (.r [.s 37 (.fa 0 2),.s 38 (.l 37),.s 39 (.call 90 [38,(.u 44)]),.s 40 (.un .not 39)] [1,2,4,5,40]) (.cnd 40 (.q (.r [.s 41 (.fa 0 2),.s 42 (.l 41),.s 43 (.call 140 [42,(.u 93)])] [4,5]) (.q (.r [.s 44 (.ld true 4 5),.n (.st 4 4 44)] [4]) .ret)) .skip)) (.r [.s 45 (.fa 0 2),.s 46 (.l 45),.s 47 (.nilc 46),.s 48 (.fa 1 47),.s 49 (.l 48),.s 50 (.bin .add none 49 (.k 1)),.s 51 (.nilc 46),.s 52 (.fa 1 51),.n (.st 1 52 50)] [1,2,4,5])))))) (.trim [1,2,4,5]))))))))),[.cell 4 true 4]⟩
/-- (emend/tree.parser).record -/
def F94 : DF := ⟨2,(.q (.r [.s 2 (.bxL 0),.s 4 (.alL zz)] [1,2,4]) (.q (.r [.s 9 (.bld zz [(0,1,(.k 7))]),.s 5 (.alL zz),.n (.st 4 5 9)] [1,2,4,5]) (.q (.r [.s 10 (.mkm),.s 6 (.m 10)] [1,2,4,5,6]) (.q (.r [.s 11 (.fa 0 2),.s 12 (.l 11),.s 13 (.call 140 [12,(.u 123)])] [1,2,4,5,6]) (.q (.q (.r [.s 14 (.ld true 1 2),.s 15 (.call 53 [14])] [1,2,4,5,6]) (.q (.r [.s 16 (.fa 0 2),.s 17 (.l 16),.s 18 (.call 90 [17,(.u 125)])] [1,2,4,5,6,18]) (.cnd 18 (.q (.r [.s 19 (.fa 0 2),.s 20 (.l 19),.s 21 (.nilc 20),.s 22 (.fa 1 21),.s 23 (.l 22),.s 24 (.bin .add none 23 (.k 1)),.s 25 (.nilc 20),.s 26 (.fa 1 25),.n (.st 1 26 24)] [4,5]) (.q (.r [.s 27 (.ld true 4 5),.n (.st 4 4 27)] [4]) .ret)) .skip))) (.blk 0 (.q (.trim [1,2,4,5,6]) (.lop (.q (.blk 1 (.q (.r [.s 28 (.ld true 1 2),.s 29 (.call 53 [28])] [1,2,4,5,6]) (.q (.r [.s 30 (.fa 0 2),.s 31 (.l 30),.s 32 (.nilc 31),.s 33 (.fa 1 32),.s 34 (.l 33),.s 7 (.m 34)] [1,2,4,5,6,7]) (.q (.q (.r [.s 35 (.fa 0 2),.s 36 (.l 35),.s 37 (.call 90 [36,(.u 34)]),.s 38 (.un .not 37)] [1,2,4,5,6,7,38]) (.cnd 38 (.r [.s 39 (.fa 0 2),.s 40 (.l 39),.s 41 (.call 55 [40])] [1,2,4,5,6,7]) .skip)) (.q (.r [.s 42 (.fa 0 2),.s 43 (.l 42),.s 44 (.call 92 [43]),.s 8 (.m 44)] [1,2,4,5,6,7,8]) (.q (.q (.r [.s 45 (.m 6),.s 46 (.m 8),.s 47 (.lkp .str (.int .i64 0) 45 46 false),.s 48 (.bin .add none 47 (.k 1)),.n (.mup .str 45 46 48)] [1,2,4,5,6,7,8]) (.q (.r [.s 49 (.m 6),.s 50 (.m 8),.s 51 (.lkp .str (.int .i64 0) 49 50 false),.s 52 (.bin .gtr none 51 (.k 1))] [1,2,4,5,6,7,8,52]) (.cnd 52 (.r [.s 53 (.m 7),.s 54 (.call 97 [53,(.k 15)])] [1,2,4,5,6,8]) .skip))) (.q (.r [.s 55 (.ld true 1 2),.s 56 (.call 53 [55])] [1,2,4,5,6,8]) (.q (.r [.s 57 (.fa 0 2),.s 58 (.l 57),.s 59 (.call 140 [58,(.u 58)])] [1,2,4,5,6,8]) (.q (.r [.s 60 (.ld true 1 2),.s 61 (.call 53 [60])] [1,2,4,5,6,8]) (.q (.r [.s 62 (.fa 2 5),.s 63 (.l 62),.s 64 (.m 8),.s 65 (.bldT 9 1 1 (.str []) [(0,64)]),.s 66 (.app false 9 1 16 63 65),.s 67 (.fa 2 5),.n (.st 1 67 66)] [1,2,4,5,6]) (.q (.drw [((.s 68 (.fa 3 5),(some 5)),[]),((.s 69 (.l 68),(some 5)),[]),((.s 70 (.ld true 1 2),(some 2)),[]),((.s 71 (.m 1),none),[]),((.s 72 (.bin .add none 71 (.k 1)),none),[]),((.s 73 (.call 54 [70,72]),none),[]),((.s 74 (.bldS 4 1 (.agg zz) [(0,73)]),none),[]),((.s 75 (.app true 25 4 72 69 74),none),[]),((.s 76 (.fa 3 5),(some 5)),[]),((.n (.st 1 76 75),(some 5)),[])] [1,2,4,5,6]) (.q (.r [.s 77 (.ld true 1 2),.s 78 (.call 53 [77])] [1,2,4,5,6]) (.q (.q (.r [.s 79 (.fa 0 2),.s 80 (.l 79),.s 81 (.call 90 [80,(.u 44)]),.s 82 (.un .not 81)] [1,2,4,5,6,82]) (.cnd 82 (.q (.r [.s 83 (.fa 0 2),.s 84 (.l 83),.s 85 (.call 140 [84,(.u 125)])] [4,5]) (.q (.r [.s 86 (.ld true 4 5),.n (.st 4 4 86)] [4]) .ret)) .skip)) (.r [.s 87 (.fa 0 2),.s 88 (.l 87),.s 89 (.nilc 88),.s 90 (.fa 1 89),.s 91 (.l 90),.s 92 (.bin .add none 91 (.k 1)),.s 93 (.nilc 88),.s 94 (.fa 1 93),.n (.st 1 94 92)] [1,2,4,5,6])))))))))))))) (.trim [1,2,4,5,6])))))))))),[.cell 4 true 4]⟩
/-- (emend/tree.parser).tree$1 -/
def F95 : DF := ⟨1,(.q (.r [.s 2 (.mv .ff)] [0]) (.q (.r [.s 3 (.m 0),.s 4 (.call 96 [3]),.s 5 (.m 4),.g 6 (.m 0) 5 false,.g 7 (.bin .eql (some .int) 6 (.u 58)) 5 false,.s 8 (.pick 5 .tt 7),.s 2 (.m 8)] [2]) .ret)),[.tmp 2]⟩
/-- emend/tree.InNumber -/
def F96 : DF := ⟨1,(.q (.r [.s 2 (.mv .ff)] [0]) (.q (.r [.s 3 (.m 0),.s 4 (.call 141 [3]),.s 5 (.m 4),.g 6 (.m 0) 5 false,.g 7 (.call 142 [6]) 5 false,.s 8 (.pick 5 .tt 7),.s 9 (.m 8),.g 10 (.m 0) 9 false,.g 11 (.bin .eql (some .int) 10 (.u 43)) 9 false,.s 12 (.pick 9 .tt 11),.s 13 (.m 12),.g 14 (.m 0) 13 false,.g 15 (.bin .eql (some .int) 14 (.u 45)) 13 false,.s 16 (.pick 13 .tt 15),.s 17 (.m 16),.g 18 (.m 0) 17 false,.g 19 (.bin .eql (some .int) 18 (.u 46)) 17 false,.s 20 (.pick 17 .tt 19),.s 2 (.m 20)] [2]) .ret)),[.tmp 2]⟩
/-- emend/tree.Fail -/
def F97 : DF := ⟨2,(.r [.s 4 (.m 0),.s 5 (.m 1),.s 6 (.call 85 [4,5]),.s 7 (.mki 105 6),.n (.pnc 7)] []),[]⟩
/-- (*emend/tree.Place).Scalar -/
def F98 : DF := ⟨1,(.q (.r [.s 2 (.alL zz)] [0,2]) (.q (.r [.s 7 (.m 0),.s 8 (.nilc 7),.s 9 (.fa 1 8),.s 10 (.l 9),.s 3 (.m 10)] [0,2,3]) (.q (.blk 0 (.q (.drw [((.s 12 (.m 0),none),[]),((.s 13 (.nilc 12),none),[]),((.s 14 (.fa 1 13),none),[]),((.s 15 (.l 14),none),[]),((.s 16 (.m 0),none),[]),((.s 17 (.nilc 16),none),[]),((.s 18 (.fa 0 17),none),[]),((.s 19 (.l 18),none),[]),((.s 20 (.lenS 19),none),[]),((.s 21 (.bin .lss none 15 20),none),[]),((.s 22 (.m 21),none),[]),((.g 23 (.m 0) 22 true,none),[]),((.g 24 (.nilc 23) 22 true,none),[]),((.g 25 (.fa 0 24) 22 true,none),[]),((.g 26 (.l 25) 22 true,none),[]),((.g 27 (.m 0) 22 true,none),[]),((.g 28 (.nilc 27) 22 true,none),[]),((.g 29 (.fa 1 28) 22 true,none),[]),((.g 30 (.l 29) 22 true,none),[]),((.g 31 (.ixS 26 30) 22 true,none),[]),((.g 32 (.call 141 [31]) 22 true,none),[]),((.g 33 (.m 32) 22 true,none),[]),((.g 34 (.m 0) 33 false,none),[]),((.g 35 (.nilc 34) 33 false,none),[]),((.g 36 (.fa 0 35) 33 false,none),[]),((.g 37 (.l 36) 33 false,none),[]),((.g 38 (.m 0) 33 false,none),[]),((.g 39 (.nilc 38) 33 false,none),[]),((.g 40 (.fa 1 39) 33 false,none),[]),((.g 41 (.l 40) 33 false,none),[]),((.g 42 (.ixS 37 41) 33 false,none),[]),((.g 43 (.bin .eql (some .int) 42 (.u 45)) 33 false,none),[]),((.g 44 (.pick 33 .tt 43) 22 true,none),[]),((.s 45 (.pick 22 44 .ff),none),[]),((.s 11 (.m 45),none),[])] [0,2,3,11]) (.cnd 11 (.q (.r [.s 47 (.m 0),.s 48 (.call 88 [47,(.f 96)]),.s 49 (.call 81 [48]),.s 46 (.m 49),.s 50 (.ext 46 0),.s 51 (.ext 46 1),.s 4 (.m 50),.s 5 (.m 51)] [2,3,4,5]) (.q (.q (.r [.s 52 (.m 5),.s 53 (.bin .neq (some .int) 52 (.k 0))] [2,3,4,5,53]) (.cnd 53 (.r [.s 54 (.m 3),.s 55 (.m 5),.s 56 (.call 97 [54,55])] [2,4]) .skip)) (.q (.r [.s 57 (.m 4),.s 58 (.bld zz [(0,1,(.k 3)),(1,1,57)]),.n (.st 4 2 58)] [2]) .ret))) (.q (.drw [((.s 60 (.m 0),none),[]),((.s 61 (.nilc 60),none),[]),((.s 62 (.fa 1 61),none),[]),((.s 63 (.l 62),none),[]),((.s 64 (.m 0),none),[]),((.s 65 (.nilc 64),none),[]),((.s 66 (.fa 0 65),none),[]),((.s 67 (.l 66),none),[]),((.s 68 (.lenS 67),none),[]),((.s 69 (.bin .lss none 63 68),none),[]),((.s 70 (.m 69),none),[]),((.g 71 (.m 0) 70 true,none),[]),((.g 72 (.nilc 71) 70 true,none),[]),((.g 73 (.fa 0 72) 70 true,none),[]),((.g 74 (.l 73) 70 true,none),[]),((.g 75 (.m 0) 70 true,none),[]),((.g 76 (.nilc 75) 70 true,none),[]),((.g 77 (.fa 1 76) 70 true,none),[]),((.g 78 (.l 77) 70 true,none),[]),((.g 79 (.ixS 74 78) 70 true,none),[]),((.g 80 (.call 142 [79]) 70 true,none),[]),((.s 81 (.pick 70 80 .ff),none),[]),((.s 59 (.m 81),none),[])] [0,2,3,59]) (.cnd 59 (.q (.q (.r [.s 82 (.m 0),.s 83 (.call 88 [82,(.f 142)]),.s 6 (.m 83)] [0,2,3,6]) (.q (.r [.s 84 (.m 6)] [0,2,3,6,84]) (.blk 1 (.q (.r [.s 86 (.bin .eql (some .str) 84 (.c (.str [110,117,108,108]))),.s 85 (.m 86)] [0,2,3,6,84,85]) (.cnd 85 (.q (.r [.s 87 (.bld zz [(0,1,(.k 1))]),.n (.st 4 2 87)] [2]) .ret) (.q (.q (.r [.s 89 (.bin .eql (some .str) 84 (.c (.str [116,114,117,101]))),.s 88 (.m 89)] [0,2,3,6,84,88]) (.cnd 88 .skip (.r [.s 90 (.bin .eql (some .str) 84 (.c (.str [102,97,108,115,101]))),.s 88 (.m 90)] [0,2,3,6,88]))) (.cnd 88 (.q (.r [.s 91 (.m 6),.s 92 (.bld zz [(0,1,(.k 2)),(1,1,91)]),.n (.st 4 2 92)] [2]) .ret) .skip))))))) (.r [.s 93 (.m 3),.s 94 (.call 97 [93,(.k 13)])] [0,2])) .skip))))) (.q (.r [.s 95 (.m 0),.s 96 (.call 55 [95])] [2]) (.q (.r [.s 97 (.bld zz []),.n (.st 4 2 97)] [2]) .ret))))),[.cell 2 true 4]⟩
/-- slices.Index[[]string,string] -/
def F99 : DF := ⟨2,(.q (.r [.s 4 (.mv (.k 0))] [0,1]) (.q (.q (.r [.s 6 (.m 0),.s 7 (.len 6),.s 8 (.mv (.k 0))] [0,1,7,8]) (.blk 0 (.q (.trim [0,1,7,8]) (.lop (.q (.q (.r [.s 9 (.bin .lss none 8 7)] [0,1,7,8,9]) (.q (.cnd 9 .skip (.exit 0)) (.q (.blk 1 (.q (.r [.s 10 (.m 8),.s 5 (.m 10)] [0,1,5,7,8]) (.q (.r [.s 11 (.m 1),.s 12 (.m 0),.s 13 (.m 5),.s 14 (.ia 1 12 13),.s 15 (.l 14),.s 16 (.bin .eql (some .str) 11 15)] [0,1,5,7,8,16]) (.cnd 16 (.q (.r [.s 17 (.m 5),.s 4 (.m 17)] [4]) .ret) .skip)))) (.r [.s 18 (.bin .add none 8 (.k 1)),.s 8 (.m 18)] [0,1,7,8])))) (.trim [0,1,7,8])))))) (.q (.r [.s 4 (.mv (.k (-1)))] [4]) .ret))),[.tmp 4]⟩
/-- slices.Equal[[]string,string] -/
def F100 : DF := ⟨2,(.q (.r [.s 4 (.mv .ff)] [0,1]) (.q (.q (.r [.s 6 (.m 0),.s 7 (.len 6),.s 8 (.m 1),.s 9 (.len 8),.s 10 (.bin .neq (some .int) 7 9)] [0,1,10]) (.cnd 10 (.q (.r [.s 4 (.mv .ff)] [4]) .ret) .skip)) (.q (.q (.r [.s 11 (.m 0),.s 12 (.len 11),.s 13 (.mv (.k 0))] [0,1,12,13]) (.blk 0 (.q (.trim [0,1,12,13]) (.lop (.q (.q (.r [.s 14 (.bin .lss none 13 12)] [0,1,12,13,14]) (.q (.cnd 14 .skip (.exit 0)) (.q (.blk 1 (.q (.r [.s 15 (.m 13),.s 5 (.m 15)] [0,1,5,12,13]) (.q (.drw [((.s 16 (.m 0),none),[]),((.s 17 (.m 5),none),[]),((.s 18 (.ia 1 16 17),none),[]),((.s 19 (.l 18),none),[]),((.s 20 (.m 1),none),[]),((.s 21 (.m 5),none),[]),((.s 22 (.ia 1 20 21),none),[]),((.s 23 (.l 22),none),[]),((.s 24 (.bin .neq (some .str) 19 23),none),[])] [0,1,12,13,24]) (.cnd 24 (.q (.r [.s 4 (.mv .ff)] [4]) .ret) .skip)))) (.r [.s 25 (.bin .add none 13 (.k 1)),.s 13 (.m 25)] [0,1,12,13])))) (.trim [0,1,12,13])))))) (.q (.r [.s 4 (.mv .tt)] [4]) .ret)))),[.tmp 4]⟩
/-- slices.EqualFunc[[]emend/api.Tree,[]emend/api.Tree,emend/api.Tree,emend/api.Tree] -/
def F101 : DF := ⟨3,(.q (.r [.s 6 (.mv .ff)] [0,1,2]) (.q (.q (.r [.s 10 (.m 0),.s 11 (.len 10),.s 12 (.m 1),.s 13 (.len 12),.s 14 (.bin .neq (some .int) 11 13)] [0,1,2,14]) (.cnd 14 (.q (.r [.s 6 (.mv .ff)] [6]) .ret) .skip)) (.q (.q (.r [.s 15 (.m 0),.s 16 (.len 15),.s 17 (.mv (.k 0))] [1,2,15,16,17]) (.blk 0 (.q (.trim [1,2,15,16,17]) (.lop (.q (.q (.r [.s 18 (.bin .lss none 17 16)] [1,2,15,16,17,18]) (.q (.cnd 18 .skip (.exit 0)) (.q (.blk 1 (.q (.r [.s 19 (.m 17),.s 20 (.ia 4 15 17),.s 21 (.ld true 4 20),.s 8 (.alL zz),.s 7 (.m 19),.n (.st 4 8 21)] [1,2,7,8,15,16,17]) (.q (.r [.s 22 (.m 1),.s 23 (.m 7),.s 24 (.ia 4 22 23),.s 25 (.ld true 4 24),.s 9 (.alL zz),.n (.st 4 9 25)] [1,2,8,9,15,16,17]) (.q (.r [.s 26 (.m 2),.s 27 (.ld true 4 8),.s 28 (.ld true 4 9),.s 29 (.callv 26 [27,28]),.s 30 (.un .not 29)] [1,2,15,16,17,30]) (.cnd 30 (.q (.r [.s 6 (.mv .ff)] [6]) .ret) .skip))))) (.r [.s 31 (.bin .add none 17 (.k 1)),.s 17 (.m 31)] [1,2,15,16,17])))) (.trim [1,2,15,16,17])))))) (.q (.r [.s 6 (.mv .tt)] [6]) .ret)))),[.tmp 6]⟩
/-- emend/tree.sign -/
def F102 : DF := ⟨1,(.q (.r [.s 2 (.mv (.k 0))] [0]) (.q (.r [.s 3 (.m 0),.s 4 (.mn [(.k 1),3]),.s 5 (.mx [(.k (-1)),4]),.s 2 (.m 5)] [2]) .ret)),[.tmp 2]⟩
/-- emend/num.Compare -/
def F103 : DF := ⟨2,(.q (.r [.s 4 (.mv (.k 0)),.s 5 (.mv (.k 0))] [0,1]) (.q (.r [.s 10 (.m 0),.s 11 (.call 143 [10]),.s 9 (.m 11),.s 12 (.ext 9 0),.s 13 (.ext 9 1),.s 6 (.alL [(.bool false),(.str []),(.int .i64 0)]),.n (.st 3 6 12),.s 7 (.m 13)] [1,6,7]) (.q (.q (.r [.s 14 (.m 7),.s 15 (.bin .neq (some .int) 14 (.k 0))] [1,6,7,15]) (.cnd 15 (.q (.r [.s 16 (.m 7),.s 4 (.mv (.k 0)),.s 5 (.m 16)] [4,5]) .ret) .skip)) (.q (.r [.s 18 (.m 1),.s 19 (.call 143 [18]),.s 17 (.m 19),.s 20 (.ext 17 0),.s 21 (.ext 17 1),.s 8 (.alL [(.bool false),(.str []),(.int .i64 0)]),.n (.st 3 8 20),.s 7 (.m 21)] [6,7,8]) (.q (.q (.r [.s 22 (.m 7),.s 23 (.bin .neq (some .int) 22 (.k 0))] [6,7,8,23]) (.cnd 23 (.q (.r [.s 24 (.m 7),.s 4 (.mv (.k 0)),.s 5 (.m 24)] [4,5]) .ret) .skip)) (.q (.blk 0 (.q (.r [.s 26 (.fa 0 6),.s 27 (.l 26),.s 28 (.m 27),.g 29 (.fa 0 8) 28 true,.g 30 (.l 29) 28 true,.s 31 (.pick 28 30 .ff),.s 25 (.m 31)] [6,8,25]) (.cnd 25 (.q (.r [.s 32 (.ld true 3 8),.s 33 (.ld true 3 6),.s 34 (.call 144 [32,33]),.s 4 (.m 34),.s 5 (.mv (.k 0))] [4,5]) .ret) (.q (.r [.s 36 (.fa 0 6),.s 37 (.l 36),.s 35 (.m 37)] [6,8,35]) (.cnd 35 (.q (.r [.s 4 (.mv (.k (-1))),.s 5 (.mv (.k 0))] [4,5]) .ret) (.q (.r [.s 39 (.fa 0 8),.s 40 (.l 39),.s 38 (.m 40)] [6,8,38]) (.cnd 38 (.q (.r [.s 4 (.mv (.k 1)),.s 5 (.mv (.k 0))] [4,5]) .ret) .skip))))))) (.q (.r [.s 41 (.ld true 3 6),.s 42 (.ld true 3 8),.s 43 (.call 144 [41,42]),.s 4 (.m 43),.s 5 (.mv (.k 0))] [4,5]) .ret))))))),[.tmp 4,.tmp 5]⟩
/-- strings.Compare -/
def F104 : DF := ⟨2,(.q (.r [.s 4 (.mv (.k 0))] [0,1]) (.q (.r [.s 5 (.m 0),.s 6 (.m 1),.s 7 (.call 145 [5,6]),.s 4 (.m 7)] [4]) .ret)),[.tmp 4]⟩
/-- slices.SortStableFunc[[]int,int] -/
def F112 : DF := ⟨2,(.r [.s 4 (.m 0),.s 5 (.m 0),.s 6 (.len 5),.s 7 (.m 1),.s 8 (.call 150 [4,6,7])] []),[]⟩
/-- emend/tree.order$1 -/
def F113 : DF := ⟨3,(.q (.r [.s 5 (.mv (.k 0))] [0,1,2]) (.q (.drw [((.s 6 (.l 2),none),[]),((.s 7 (.m 0),none),[]),((.s 8 (.ia 1 6 7),none),[]),((.s 9 (.l 8),none),[]),((.s 10 (.l 2),none),[]),((.s 11 (.m 1),none),[]),((.s 12 (.ia 1 10 11),none),[]),((.s 13 (.l 12),none),[]),((.s 14 (.call 104 [9,13]),none),[]),((.s 5 (.m 14),none),[])] [5]) .ret)),[.tmp 5]⟩
/-- (*strings.Builder).WriteString -/
def F128 : DF := ⟨2,(.q (.r [.s 4 (.mv (.k 0)),.s 5 (.mv (.c .nilif))] [0,1]) (.q (.r [.s 6 (.m 0),.s 7 (.call 159 [6])] [0,1]) (.q (.r [.s 8 (.m 0),.s 9 (.m 0),.s 10 (.nilc 9),.s 11 (.fa 1 10),.s 12 (.l 11),.s 13 (.m 1),.s 14 (.app false 5 1 1 12 13),.s 15 (.nilc 8),.s 16 (.fa 1 15),.n (.st 1 16 14)] [1]) (.q (.r [.s 17 (.m 1),.s 18 (.lenS 17),.s 4 (.m 18),.s 5 (.mv (.c .nilif))] [4,5]) .ret)))),[.tmp 4,.tmp 5]⟩
/-- (*strings.Builder).WriteByte -/
def F129 : DF := ⟨2,(.q (.r [.s 4 (.mv (.c .nilif))] [0,1]) (.q (.r [.s 5 (.m 0),.s 6 (.call 159 [5])] [0,1]) (.q (.r [.s 7 (.m 0),.s 8 (.m 0),.s 9 (.nilc 8),.s 10 (.fa 1 9),.s 11 (.l 10),.s 12 (.m 1),.s 13 (.bldT 5 1 1 (.int .u8 0) [(0,12)]),.s 14 (.app false 5 1 1 11 13),.s 15 (.nilc 7),.s 16 (.fa 1 15),.n (.st 1 16 14)] []) (.q (.r [.s 4 (.mv (.c .nilif))] [4]) .ret)))),[.tmp 4]⟩
/-- emend/text.short -/
def F130 : DF := ⟨1,(.q (.r [.s 2 (.mv (.u 0))] [0]) (.q (.q (.r [.s 3 (.m 0)] [0,3]) (.blk 0 (.q (.q (.r [.s 5 (.bin .eql (some .int) 3 (.u 34)),.s 4 (.m 5)] [0,3,4]) (.cnd 4 .skip (.r [.s 6 (.bin .eql (some .int) 3 (.u 92)),.s 4 (.m 6)] [0,3,4]))) (.cnd 4 (.q (.r [.s 7 (.m 0),.s 2 (.m 7)] [2]) .ret) (.q (.r [.s 9 (.bin .eql (some .int) 3 (.u 8)),.s 8 (.m 9)] [3,8]) (.cnd 8 (.q (.r [.s 2 (.mv (.u 98))] [2]) .ret) (.q (.r [.s 11 (.bin .eql (some .int) 3 (.u 9)),.s 10 (.m 11)] [3,10]) (.cnd 10 (.q (.r [.s 2 (.mv (.u 116))] [2]) .ret) (.q (.r [.s 13 (.bin .eql (some .int) 3 (.u 10)),.s 12 (.m 13)] [3,12]) (.cnd 12 (.q (.r [.s 2 (.mv (.u 110))] [2]) .ret) (.q (.r [.s 15 (.bin .eql (some .int) 3 (.u 12)),.s 14 (.m 15)] [3,14]) (.cnd 14 (.q (.r [.s 2 (.mv (.u 102))] [2]) .ret) (.q (.r [.s 17 (.bin .eql (some .int) 3 (.u 13)),.s 16 (.m 17)] [16]) (.cnd 16 (.q (.r [.s 2 (.mv (.u 114))] [2]) .ret) .skip)))))))))))))) (.q (.r [.s 2 (.mv (.u 0))] [2]) .ret))),[.tmp 2]⟩
/-- emend/text.digit -/
def F131 : DF := ⟨1,(.q (.r [.s 2 (.mv (.u 0))] [0]) (.q (.r [.s 3 (.m 0),.s 4 (.bin .and none 3 (.k 15)),.s 5 (.ixS (.c (.str [48,49,50,51,52,53,54,55,56,57,97,98,99,100,101,102])) 4),.s 2 (.m 5)] [2]) .ret)),[.tmp 2]⟩
/-- emend/num.Split -/
def F132 : DF := ⟨1,(.q (.r [.s 2 (.alL [(.bool false),(.str []),(.int .i64 0)]),.s 3 (.mv (.k 0))] [0,2]) (.q (.r [.s 13 (.m 0),.s 14 (.call 160 [13]),.s 12 (.m 14),.s 15 (.ext 12 0),.s 16 (.ext 12 1),.s 17 (.ext 12 2),.s 18 (.ext 12 3),.s 19 (.ext 12 4),.s 4 (.m 15),.s 5 (.m 16),.s 6 (.m 17),.s 7 (.m 18),.s 8 (.m 19)] [0,2,4,5,6,7,8]) (.q (.q (.r [.s 20 (.m 8),.s 21 (.un .not 20)] [0,2,4,5,6,7,21]) (.cnd 21 (.q (.r [.s 22 (.bld [(.bool false),(.str []),(.int .i64 0)] []),.n (.st 3 2 22),.s 3 (.mv (.k 12))] [2,3]) .ret) .skip)) (.q (.q (.r [.s 23 (.m 0),.s 24 (.lenS 23),.s 25 (.bin .gtr none 24 (.k 1000))] [2,4,5,6,7,25]) (.cnd 25 (.q (.r [.s 26 (.bld [(.bool false),(.str []),(.int .i64 0)] []),.n (.st 3 2 26),.s 3 (.mv (.k 2))] [2,3]) .ret) .skip)) (.q (.r [.s 28 (.m 7),.s 29 (.call 161 [28]),.s 27 (.m 29),.s 30 (.ext 27 0),.s 31 (.ext 27 1),.s 9 (.m 30),.s 8 (.m 31)] [2,4,5,6,8,9]) (.q (.q (.r [.s 32 (.m 8),.s 33 (.un .not 32)] [2,4,5,6,9,33]) (.cnd 33 (.q (.r [.s 34 (.bld [(.bool false),(.str []),(.int .i64 0)] []),.n (.st 3 2 34),.s 3 (.mv (.k 5))] [2,3]) .ret) .skip)) (.q (.r [.s 35 (.m 5),.s 36 (.m 6),.s 37 (.bin .add none 35 36),.s 38 (.call 162 [37,(.c (.str [48]))]),.s 10 (.m 38)] [2,4,6,9,10]) (.q (.r [.s 39 (.m 9),.s 40 (.m 6),.s 41 (.lenS 40),.s 42 (.bin .sub none 39 41),.s 9 (.m 42)] [2,4,9,10]) (.q (.r [.s 43 (.m 10),.s 44 (.call 163 [43,(.c (.str [48]))]),.s 11 (.m 44)] [2,4,9,10,11]) (.q (.r [.s 45 (.m 9),.s 46 (.m 10),.s 47 (.lenS 46),.s 48 (.m 11),.s 49 (.lenS 48),.s 50 (.bin .sub none 47 49),.s 51 (.bin .add none 45 50),.s 9 (.m 51)] [2,4,9,11]) (.q (.q (.r [.s 52 (.m 11),.s 53 (.bin .eql (some .str) 52 (.c (.str [])))] [2,4,9,11,53]) (.cnd 53 (.q (.r [.s 54 (.bld [(.bool false),(.str []),(.int .i64 0)] []),.n (.st 3 2 54),.s 3 (.mv (.k 0))] [2,3]) .ret) .skip)) (.q (.r [.s 55 (.m 4),.s 56 (.m 11),.s 57 (.m 9),.s 58 (.bld [(.bool false),(.str []),(.int .i64 0)] [(0,1,55),(1,1,56),(2,1,57)]),.n (.st 3 2 58),.s 3 (.mv (.k 0))] [2,3]) .ret)))))))))))),[.cell 2 true 3,.tmp 3]⟩
/-- emend/num.Join -/
def F133 : DF := ⟨1,(.q (.r [.s 1 (.bxL 0),.s 2 (.mv (.c (.str []))),.s 3 (.mv (.k 0))] [1]) (.q (.r [.s 6 (.fa 1 1),.s 7 (.l 6),.s 8 (.lenS 7),.s 4 (.m 8)] [1,4]) (.q (.blk 0 (.q (.q (.r [.s 10 (.fa 1 1),.s 11 (.l 10),.s 12 (.call 164 [11]),.s 13 (.m 4),.s 14 (.bin .lss none 12 13),.s 9 (.m 14)] [1,4,9]) (.cnd 9 .skip (.q (.r [.s 15 (.m 4),.s 16 (.bin .gtr none 15 (.k 0)),.s 17 (.m 16),.g 18 (.fa 1 1) 17 true,.g 19 (.l 18) 17 true,.g 20 (.ixS 19 (.k 0)) 17 true,.g 21 (.bin .eql (some .int) 20 (.u 48)) 17 true,.g 22 (.m 21) 17 true,.g 23 (.fa 1 1) 22 false,.g 24 (.l 23) 22 false,.g 25 (.m 4) 22 false,.g 26 (.bin .sub none 25 (.k 1)) 22 false,.g 27 (.ixS 24 26) 22 false,.g 28 (.bin .eql (some .int) 27 (.u 48)) 22 false,.g 29 (.pick 22 .tt 28) 17 true,.s 30 (.pick 17 29 .ff),.s 9 (.m 30)] [1,4,9]) (.cnd 9 .skip (.r [.s 31 (.m 4),.s 32 (.bin .eql (some .int) 31 (.k 0)),.s 33 (.m 32),.g 34 (.fa 2 1) 33 true,.g 35 (.l 34) 33 true,.g 36 (.bin .neq (some .int) 35 (.k 0)) 33 true,.g 37 (.m 36) 33 true,.g 38 (.fa 0 1) 37 false,.g 39 (.l 38) 37 false,.g 40 (.pick 37 .tt 39) 33 true,.s 41 (.pick 33 40 .ff),.s 9 (.m 41)] [1,4,9]))))) (.cnd 9 (.q (.r [.s 2 (.mv (.c (.str []))),.s 3 (.mv (.k 1))] [2,3]) .ret) (.q (.r [.s 43 (.fa 2 1),.s 44 (.l 43),.s 45 (.bin .lss none 44 (.k (-999999))),.s 46 (.m 45),.g 47 (.fa 2 1) 46 false,.g 48 (.l 47) 46 false,.g 49 (.bin .gtr none 48 (.k 999999)) 46 false,.s 50 (.pick 46 .tt 49),.s 42 (.m 50)] [1,4,42]) (.cnd 42 (.q (.r [.s 2 (.mv (.c (.str []))),.s 3 (.mv (.k 5))] [2,3]) .ret) (.q (.r [.s 52 (.m 4),.s 53 (.bin .eql (some .int) 52 (.k 0)),.s 51 (.m 53)] [1,51]) (.cnd 51 (.q (.r [.s 2 (.mv (.c (.str [48]))),.s 3 (.mv (.k 0))] [2,3]) .ret) .skip))))))) (.q (.r [.s 54 (.fa 1 1),.s 55 (.l 54),.s 5 (.m 55)] [1,5]) (.q (.q (.r [.s 56 (.fa 0 1),.s 57 (.l 56)] [1,5,57]) (.cnd 57 (.r [.s 58 (.m 5),.s 59 (.bin .add none (.c (.str [45])) 58),.s 5 (.m 59)] [1,5]) .skip)) (.q (.q (.r [.s 60 (.fa 2 1),.s 61 (.l 60),.s 62 (.bin .neq (some .int) 61 (.k 0))] [1,5,62]) (.cnd 62 (.r [.s 63 (.m 5),.s 64 (.fa 2 1),.s 65 (.l 64),.s 66 (.call 165 [65]),.s 67 (.bin .add none (.c (.str [101])) 66),.s 68 (.bin .add none 63 67),.s 5 (.m 68)] [5]) .skip)) (.q (.q (.r [.s 69 (.m 5),.s 70 (.lenS 69),.s 71 (.bin .gtr none 70 (.k 1000))] [5,71]) (.cnd 71 (.q (.r [.s 2 (.mv (.c (.str []))),.s 3 (.mv (.k 2))] [2,3]) .ret) .skip)) (.q (.r [.s 72 (.m 5),.s 2 (.m 72),.s 3 (.mv (.k 0))] [2,3]) .ret)))))))),[.tmp 2,.tmp 3]⟩
/-- emend/tree.date -/
def F134 : DF := ⟨1,(.q (.r [.s 2 (.mv .ff)] [0]) (.q (.q (.r [.s 3 (.m 0),.s 4 (.lenS 3),.s 5 (.bin .neq (some .int) 4 (.k 10)),.s 6 (.m 5),.g 7 (.m 0) 6 false,.g 8 (.ixS 7 (.k 4)) 6 false,.g 9 (.bin .neq (some .int) 8 (.u 45)) 6 false,.s 10 (.pick 6 .tt 9),.s 11 (.m 10),.g 12 (.m 0) 11 false,.g 13 (.ixS 12 (.k 7)) 11 false,.g 14 (.bin .neq (some .int) 13 (.u 45)) 11 false,.s 15 (.pick 11 .tt 14),.s 16 (.m 15),.g 17 (.m 0) 16 false,.g 18 (.slS 17 none (some (.k 2))) 16 false,.g 19 (.call 166 [18]) 16 false,.g 20 (.bin .lss none 19 (.k 0)) 16 false,.s 21 (.pick 16 .tt 20),.s 22 (.m 21),.g 23 (.m 0) 22 false,.g 24 (.slS 23 (some (.k 2)) (some (.k 4))) 22 false,.g 25 (.call 166 [24]) 22 false,.g 26 (.bin .lss none 25 (.k 0)) 22 false,.s 27 (.pick 22 .tt 26),.s 28 (.m 27),.g 29 (.m 0) 28 false,.g 30 (.slS 29 (some (.k 5)) (some (.k 7))) 28 false,.g 31 (.call 167 [30,(.k 1),(.k 12)]) 28 false,.g 32 (.un .not 31) 28 false,.s 33 (.pick 28 .tt 32)] [0,33]) (.cnd 33 (.q (.r [.s 2 (.mv .ff)] [2]) .ret) .skip)) (.q (.drw [((.s 34 (.m 0),none),[]),((.s 35 (.slS 34 (some (.k 8)) none),none),[]),((.s 36 (.m 0),none),[]),((.s 37 (.slS 36 none (some (.k 2))),none),[]),((.s 40 (.m 0),none),[]),((.s 41 (.slS 40 (some (.k 2)) (some (.k 4))),none),[]),((.s 44 (.m 0),none),[]),((.s 45 (.slS 44 (some (.k 5)) (some (.k 7))),none),[]),((.s 38 (.call 166 [37]),none),[]),((.s 39 (.bin .mul none 38 (.k 100)),none),[]),((.s 42 (.call 166 [41]),none),[]),((.s 43 (.bin .add none 39 42),none),[]),((.s 46 (.call 166 [45]),none),[]),((.s 47 (.call 168 [43,46]),none),[]),((.s 48 (.call 167 [35,(.k 1),47]),none),[]),((.s 2 (.m 48),none),[])] [2]) .ret))),[.tmp 2]⟩
/-- emend/tree.clock -/
def F135 : DF := ⟨1,(.q (.r [.s 2 (.mv .ff)] [0]) (.q (.q (.r [.s 4 (.m 0),.s 5 (.lenS 4),.s 6 (.bin .lss none 5 (.k 8)),.s 7 (.m 6),.g 8 (.m 0) 7 false,.g 9 (.ixS 8 (.k 2)) 7 false,.g 10 (.bin .neq (some .int) 9 (.u 58)) 7 false,.s 11 (.pick 7 .tt 10),.s 12 (.m 11),.g 13 (.m 0) 12 false,.g 14 (.ixS 13 (.k 5)) 12 false,.g 15 (.bin .neq (some .int) 14 (.u 58)) 12 false,.s 16 (.pick 12 .tt 15),.s 17 (.m 16),.g 18 (.m 0) 17 false,.g 19 (.slS 18 none (some (.k 2))) 17 false,.g 20 (.call 167 [19,(.k 0),(.k 23)]) 17 false,.g 21 (.un .not 20) 17 false,.s 22 (.pick 17 .tt 21),.s 23 (.m 22),.g 24 (.m 0) 23 false,.g 25 (.slS 24 (some (.k 3)) (some (.k 5))) 23 false,.g 26 (.call 167 [25,(.k 0),(.k 59)]) 23 false,.g 27 (.un .not 26) 23 false,.s 28 (.pick 23 .tt 27),.s 29 (.m 28),.g 30 (.m 0) 29 false,.g 31 (.slS 30 (some (.k 6)) (some (.k 8))) 29 false,.g 32 (.call 167 [31,(.k 0),(.k 59)]) 29 false,.g 33 (.un .not 32) 29 false,.s 34 (.pick 29 .tt 33)] [0,34]) (.cnd 34 (.q (.r [.s 2 (.mv .ff)] [2]) .ret) .skip)) (.q (.q (.r [.s 35 (.m 0),.s 36 (.lenS 35),.s 37 (.bin .eql (some .int) 36 (.k 8))] [0,37]) (.cnd 37 (.q (.r [.s 2 (.mv .tt)] [2]) .ret) .skip)) (.q (.r [.s 38 (.m 0),.s 39 (.slS 38 (some (.k 9)) none),.s 3 (.m 39)] [0,3]) (.q (.r [.s 40 (.m 0),.s 41 (.ixS 40 (.k 8)),.s 42 (.bin .eql (some .int) 41 (.u 46)),.s 43 (.m 42),.g 44 (.m 3) 43 true,.g 45 (.lenS 44) 43 true,.g 46 (.bin .geq none 45 (.k 1)) 43 true,.s 47 (.pick 43 46 .ff),.s 48 (.m 47),.g 49 (.m 3) 48 true,.g 50 (.lenS 49) 48 true,.g 51 (.bin .leq none 50 (.k 9)) 48 true,.s 52 (.pick 48 51 .ff),.s 53 (.m 52),.g 54 (.m 3) 53 true,.g 55 (.call 169 [54,(.c (.str [48,49,50,51,52,53,54,55,56,57]))]) 53 true,.g 56 (.bin .eql (some .str) 55 (.c (.str []))) 53 true,.s 57 (.pick 53 56 .ff),.s 2 (.m 57)] [2]) .ret))))),[.tmp 2]⟩
/-- emend/tree.zone -/
def F136 : DF := ⟨1,(.q (.r [.s 2 (.mv (.c (.str []))),.s 3 (.mv (.c (.str [])))] [0]) (.q (.q (.r [.s 5 (.m 0),.s 6 (.call 170 [5,(.c (.str [90]))])] [0,6]) (.cnd 6 (.q (.r [.s 7 (.m 0),.s 8 (.m 0),.s 9 (.lenS 8),.s 10 (.bin .sub none 9 (.k 1)),.s 11 (.slS 7 none (some 10)),.s 2 (.m 11),.s 3 (.mv (.c (.str [90])))] [2,3]) .ret) .skip)) (.q (.q (.r [.s 12 (.m 0),.s 13 (.lenS 12),.s 14 (.bin .lss none 13 (.k 6)),.s 15 (.m 14),.g 16 (.m 0) 15 false,.g 17 (.m 0) 15 false,.g 18 (.lenS 17) 15 false,.g 19 (.bin .sub none 18 (.k 6)) 15 false,.g 20 (.ixS 16 19) 15 false,.g 21 (.bin .neq (some .int) 20 (.u 43)) 15 false,.g 22 (.m 21) 15 false,.g 23 (.m 0) 22 true,.g 24 (.m 0) 22 true,.g 25 (.lenS 24) 22 true,.g 26 (.bin .sub none 25 (.k 6)) 22 true,.g 27 (.ixS 23 26) 22 true,.g 28 (.bin .neq (some .int) 27 (.u 45)) 22 true,.g 29 (.pick 22 28 .ff) 15 false,.s 30 (.pick 15 .tt 29)] [0,30]) (.cnd 30 (.q (.r [.s 31 (.m 0),.s 2 (.m 31),.s 3 (.mv (.c (.str [])))] [2,3]) .ret) .skip)) (.q (.r [.s 32 (.m 0),.s 33 (.m 0),.s 34 (.lenS 33),.s 35 (.bin .sub none 34 (.k 6)),.s 36 (.slS 32 (some 35) none),.s 4 (.m 36)] [0,4]) (.q (.q (.r [.s 37 (.m 4),.s 38 (.ixS 37 (.k 3)),.s 39 (.bin .neq (some .int) 38 (.u 58)),.s 40 (.m 39),.g 41 (.m 4) 40 false,.g 42 (.slS 41 (some (.k 1)) (some (.k 3))) 40 false,.g 43 (.call 167 [42,(.k 0),(.k 23)]) 40 false,.g 44 (.un .not 43) 40 false,.s 45 (.pick 40 .tt 44),.s 46 (.m 45),.g 47 (.m 4) 46 false,.g 48 (.slS 47 (some (.k 4)) none) 46 false,.g 49 (.call 167 [48,(.k 0),(.k 59)]) 46 false,.g 50 (.un .not 49) 46 false,.s 51 (.pick 46 .tt 50)] [0,4,51]) (.cnd 51 (.q (.r [.s 52 (.m 0),.s 2 (.m 52),.s 3 (.mv (.c (.str [])))] [2,3]) .ret) .skip)) (.q (.r [.s 53 (.m 0),.s 54 (.m 0),.s 55 (.lenS 54),.s 56 (.bin .sub none 55 (.k 6)),.s 57 (.slS 53 none (some 56)),.s 58 (.m 4),.s 2 (.m 57),.s 3 (.m 58)] [2,3]) .ret)))))),[.tmp 2,.tmp 3]⟩
/-- strings.Cut -/
def F137 : DF := ⟨2,(.q (.r [.s 4 (.mv (.c (.str []))),.s 5 (.mv (.c (.str []))),.s 6 (.mv .ff)] [0,1]) (.q (.r [.s 7 (.m 0),.s 8 (.m 1),.s 9 (.call 171 [7,8]),.s 10 (.ext 9 0),.s 11 (.ext 9 1),.s 12 (.ext 9 2),.s 4 (.m 10),.s 5 (.m 11),.s 6 (.m 12)] [4,5,6]) .ret)),[.tmp 4,.tmp 5,.tmp 6]⟩
/-- emend/text.First -/
def F138 : DF := ⟨1,(.q (.r [.s 2 (.mv (.k 0)),.s 3 (.mv (.k 0))] [0]) (.q (.q (.r [.s 6 (.m 0),.s 7 (.bin .eql (some .str) 6 (.c (.str [])))] [0,7]) (.cnd 7 (.q (.r [.s 2 (.mv (.k 0)),.s 3 (.mv (.k 0))] [2,3]) .ret) .skip)) (.q (.r [.s 9 (.m 0),.s 10 (.ixS 9 (.k 0)),.s 11 (.call 172 [10]),.s 8 (.m 11),.s 12 (.ext 8 0),.s 13 (.ext 8 1),.s 14 (.ext 8 2),.s 3 (.m 12),.s 2 (.m 13),.s 4 (.m 14)] [0,2,3,4]) (.q (.q (.r [.s 15 (.m 3),.s 16 (.bin .eql (some .int) 15 (.k 0)),.s 17 (.m 16),.g 18 (.m 3) 17 false,.g 19 (.m 0) 17 false,.g 20 (.lenS 19) 17 false,.g 21 (.bin .gtr none 18 20) 17 false,.s 22 (.pick 17 .tt 21)] [0,2,3,4,22]) (.cnd 22 (.q (.r [.s 2 (.mv (.k 0)),.s 3 (.mv (.k 0))] [2,3]) .ret) .skip)) (.q (.q (.r [.s 5 (.mv (.k 1))] [0,2,3,4,5]) (.blk 0 (.q (.trim [0,2,3,4,5]) (.lop (.q (.q (.q (.r [.s 23 (.m 5),.s 24 (.m 3),.s 25 (.bin .lss none 23 24)] [0,2,3,4,5,25]) (.cnd 25 .skip (.exit 0))) (.q (.blk 1 (.q (.q (.r [.s 28 (.m 0),.s 29 (.m 5),.s 30 (.ixS 28 29),.s 31 (.bin .shr none 30 (.c (.int .u64 6))),.s 32 (.bin .neq (some .int) 31 (.u 2))] [0,2,3,4,5,32]) (.cnd 32 (.q (.r [.s 2 (.mv (.k 0)),.s 3 (.mv (.k 0))] [2,3]) .ret) .skip)) (.r [.s 33 (.m 2),.s 34 (.bin .shl none 33 (.c (.int .u64 6))),.s 35 (.m 0),.s 36 (.m 5),.s 37 (.ixS 35 36),.s 38 (.bin .and none 37 (.u 63)),.s 39 (.cvI .i64 38),.s 40 (.bin .or none 34 39),.s 2 (.m 40)] [0,2,3,4,5]))) (.r [.s 26 (.m 5),.s 27 (.bin .add none 26 (.k 1)),.s 5 (.m 27)] [0,2,3,4,5]))) (.trim [0,2,3,4,5])))))) (.q (.q (.r [.s 41 (.m 2),.s 42 (.m 4),.s 43 (.bin .lss none 41 42),.s 44 (.m 43),.g 45 (.m 2) 44 false,.g 46 (.call 173 [45]) 44 false,.g 47 (.un .not 46) 44 false,.s 48 (.pick 44 .tt 47)] [2,3,48]) (.cnd 48 (.q (.r [.s 2 (.mv (.k 0)),.s 3 (.mv (.k 0))] [2,3]) .ret) .skip)) (.q (.r [.s 49 (.m 2),.s 50 (.m 3),.s 2 (.m 49),.s 3 (.m 50)] [2,3]) .ret))))))),[.tmp 2,.tmp 3]⟩
/-- emend/text.Quoted -/
def F139 : DF := ⟨1,(.q (.r [.s 2 (.mv (.c (.str []))),.s 3 (.mv (.k 0)),.s 4 (.mv (.c .nilp))] [0]) (.q (.q (.r [.s 10 (.m 0),.s 11 (.bin .eql (some .str) 10 (.c (.str [])))] [0,11]) (.cnd 11 (.q (.r [.s 12 (.call 85 [(.k 0),(.k 14)]),.s 2 (.mv (.c (.str []))),.s 3 (.mv (.k 0)),.s 4 (.m 12)] [2,3,4]) .ret) .skip)) (.q (.q (.r [.s 13 (.m 0),.s 14 (.ixS 13 (.k 0)),.s 15 (.bin .neq (some .int) 14 (.u 34))] [0,15]) (.cnd 15 (.q (.r [.s 16 (.call 85 [(.k 0),(.k 13)]),.s 2 (.mv (.c (.str []))),.s 3 (.mv (.k 0)),.s 4 (.m 16)] [2,3,4]) .ret) .skip)) (.q (.r [.s 5 (.mv (.c (.sl 1 nz [])))] [0,5]) (.q (.q (.r [.s 6 (.mv (.k 1))] [0,5,6]) (.blk 0 (.q (.trim [0,5,6]) (.lop (.q (.q (.q (.r [.s 17 (.m 6),.s 18 (.m 0),.s 19 (.lenS 18),.s 20 (.bin .lss none 17 19)] [0,5,6,20]) (.cnd 20 .skip (.exit 0))) (.blk 1 (.q (.r [.s 21 (.m 0),.s 22 (.m 6),.s 23 (.ixS 21 22),.s 7 (.m 23)] [0,5,6,7]) (.blk 2 (.q (.r [.s 31 (.m 7),.s 32 (.bin .eql (some .int) 31 (.u 34)),.s 30 (.m 32)] [0,5,6,7,30]) (.cnd 30 (.q (.r [.s 33 (.m 5),.s 34 (.cvBS 33),.s 35 (.m 6),.s 36 (.bin .add none 35 (.k 1)),.s 2 (.m 34),.s 3 (.m 36),.s 4 (.mv (.c .nilp))] [2,3,4]) .ret) (.q (.r [.s 38 (.m 7),.s 39 (.bin .lss none 38 (.u 32)),.s 37 (.m 39)] [0,5,6,7,37]) (.cnd 37 (.q (.r [.s 40 (.m 6),.s 41 (.call 85 [40,(.k 13)]),.s 2 (.mv (.c (.str []))),.s 3 (.mv (.k 0)),.s 4 (.m 41)] [2,3,4]) .ret) (.q (.r [.s 43 (.m 7),.s 44 (.bin .eql (some .int) 43 (.u 92)),.s 42 (.m 44)] [0,5,6,7,42]) (.cnd 42 (.q (.r [.s 46 (.m 0),.s 47 (.m 6),.s 48 (.bin .add none 47 (.k 1)),.s 49 (.slS 46 (some 48) none),.s 50 (.call 174 [49]),.s 45 (.m 50),.s 51 (.ext 45 0),.s 52 (.ext 45 1),.s 8 (.m 51),.s 9 (.m 52)] [0,5,6,8,9]) (.q (.q (.r [.s 53 (.m 9),.s 54 (.bin .eql (some .int) 53 (.k 0))] [0,5,6,8,9,54]) (.cnd 54 (.q (.r [.s 55 (.m 6),.s 56 (.call 85 [55,(.k 11)]),.s 2 (.mv (.c (.str []))),.s 3 (.mv (.k 0)),.s 4 (.m 56)] [2,3,4]) .ret) .skip)) (.q (.r [.s 57 (.m 5),.s 58 (.m 8),.s 59 (.call 175 [57,58]),.s 5 (.m 59)] [0,5,6,9]) (.r [.s 60 (.m 6),.s 61 (.m 9),.s 62 (.bin .add none (.k 1) 61),.s 63 (.bin .add none 60 62),.s 6 (.m 63)] [0,5,6])))) (.q (.r [.s 24 (.m 5),.s 25 (.m 7),.s 26 (.bldT 5 1 1 (.int .u8 0) [(0,25)]),.s 27 (.app false 5 1 1 24 26),.s 5 (.m 27)] [0,5,6]) (.r [.s 28 (.m 6),.s 29 (.bin .add none 28 (.k 1)),.s 6 (.m 29)] [0,5,6])))))))))))) (.trim [0,5,6])))))) (.q (.r [.s 64 (.m 0),.s 65 (.lenS 64),.s 66 (.call 85 [65,(.k 14)]),.s 2 (.mv (.c (.str []))),.s 3 (.mv (.k 0)),.s 4 (.m 66)] [2,3,4]) .ret)))))),[.tmp 2,.tmp 3,.tmp 4]⟩
/-- (*emend/tree.Place).Must -/
def F140 : DF := ⟨2,(.q (.q (.r [.s 4 (.m 0),.s 5 (.m 1),.s 6 (.call 90 [4,5]),.s 7 (.un .not 6)] [0,7]) (.cnd 7 (.r [.s 8 (.m 0),.s 9 (.call 55 [8])] [0]) .skip)) (.r [.s 10 (.m 0),.s 11 (.nilc 10),.s 12 (.fa 1 11),.s 13 (.l 12),.s 14 (.bin .add none 13 (.k 1)),.s 15 (.nilc 10),.s 16 (.fa 1 15),.n (.st 1 16 14)] [])),[]⟩
/-- emend/tree.Digit -/
def F141 : DF := ⟨1,(.q (.r [.s 2 (.mv .ff)] [0]) (.q (.r [.s 3 (.m 0),.s 4 (.bin .geq none 3 (.u 48)),.s 5 (.m 4),.g 6 (.m 0) 5 true,.g 7 (.bin .leq none 6 (.u 57)) 5 true,.s 8 (.pick 5 7 .ff),.s 2 (.m 8)] [2]) .ret)),[.tmp 2]⟩
/-- emend/tree.Letter -/
def F142 : DF := ⟨1,(.q (.r [.s 2 (.mv .ff)] [0]) (.q (.r [.s 3 (.m 0),.s 4 (.bin .geq none 3 (.u 97)),.s 5 (.m 4),.g 6 (.m 0) 5 true,.g 7 (.bin .leq none 6 (.u 122)) 5 true,.s 8 (.pick 5 7 .ff),.s 9 (.m 8),.g 10 (.m 0) 9 false,.g 11 (.bin .geq none 10 (.u 65)) 9 false,.g 12 (.m 11) 9 false,.g 13 (.m 0) 12 true,.g 14 (.bin .leq none 13 (.u 90)) 12 true,.g 15 (.pick 12 14 .ff) 9 false,.s 16 (.pick 9 .tt 15),.s 2 (.m 16)] [2]) .ret)),[.tmp 2]⟩
/-- emend/num.right -/
def F143 : DF := ⟨1,(.q (.r [.s 2 (.alL [(.bool false),(.str []),(.int .i64 0)]),.s 3 (.mv (.k 0))] [0,2]) (.q (.q (.r [.s 7 (.m 0),.s 8 (.call 81 [7]),.s 6 (.m 8),.s 9 (.ext 6 0),.s 10 (.ext 6 1),.s 4 (.m 9),.s 5 (.m 10)] [0,2,5]) (.q (.r [.s 11 (.m 5),.s 12 (.bin .neq (some .int) 11 (.k 0))] [0,2,5,12]) (.cnd 12 (.q (.r [.s 13 (.bld [(.bool false),(.str []),(.int .i64 0)] []),.s 14 (.m 5),.n (.st 3 2 13),.s 3 (.m 14)] [2,3]) .ret) .skip))) (.q (.r [.s 15 (.m 0),.s 16 (.call 132 [15]),.s 17 (.ext 16 0),.s 18 (.ext 16 1),.n (.st 3 2 17),.s 3 (.m 18)] [2,3]) .ret))),[.cell 2 true 3,.tmp 3]⟩
/-- emend/num.order -/
def F144 : DF := ⟨2,(.q (.r [.s 2 (.bxL 0),.s 3 (.bxL 1),.s 4 (.mv (.k 0))] [2,3]) (.q (.drw [((.s 7 (.fa 1 2),(some 2)),[]),((.s 8 (.l 7),(some 2)),[]),((.s 9 (.lenS 8),none),[]),((.s 10 (.fa 1 3),(some 3)),[]),((.s 11 (.l 10),(some 3)),[]),((.s 12 (.lenS 11),none),[]),((.s 5 (.m 9),none),[]),((.s 6 (.m 12),none),[])] [2,3,5,6]) (.q (.blk 0 (.q (.r [.s 14 (.m 5),.s 15 (.bin .eql (some .int) 14 (.k 0)),.s 16 (.m 15),.g 17 (.m 6) 16 false,.g 18 (.bin .eql (some .int) 17 (.k 0)) 16 false,.s 19 (.pick 16 .tt 18),.s 13 (.m 19)] [2,3,5,6,13]) (.cnd 13 (.q (.r [.s 20 (.m 5),.s 21 (.mn [(.k 1),20]),.s 22 (.m 6),.s 23 (.mn [(.k 1),22]),.s 24 (.bin .sub none 21 23),.s 4 (.m 24)] [4]) .ret) (.q (.r [.s 26 (.m 5),.s 27 (.fa 2 2),.s 28 (.l 27),.s 29 (.bin .add none 26 28),.s 30 (.m 6),.s 31 (.fa 2 3),.s 32 (.l 31),.s 33 (.bin .add none 30 32),.s 34 (.bin .neq (some .int) 29 33),.s 25 (.m 34)] [2,3,5,6,25]) (.cnd 25 (.q (.r [.s 35 (.m 5),.s 36 (.fa 2 2),.s 37 (.l 36),.s 38 (.bin .add none 35 37),.s 39 (.m 6),.s 40 (.bin .sub none 38 39),.s 41 (.fa 2 3),.s 42 (.l 41),.s 43 (.bin .sub none 40 42),.s 44 (.call 176 [43]),.s 4 (.m 44)] [4]) .ret) .skip))))) (.q (.r [.s 45 (.fa 1 2),.s 46 (.l 45),.s 47 (.fa 1 3),.s 48 (.l 47),.s 49 (.call 104 [46,48]),.s 4 (.m 49)] [4]) .ret)))),[.tmp 4]⟩
/-- internal/bytealg.CompareString -/
def F145 : DF := ⟨2,(.q (.r [.s 4 (.mv (.k 0))] [0,1]) (.q (.r [.s 5 (.m 0),.s 6 (.m 1),.s 7 (.xtn .compare [5,6]),.s 4 (.m 7)] [4]) .ret)),[.tmp 4]⟩
/-- slices.stableCmpFunc[int] -/
def F150 : DF := ⟨3,(.q (.r [.s 6 (.mv (.k 20))] [0,1,2,6]) (.q (.r [.s 10 (.m 6),.s 7 (.mv (.k 0)),.s 8 (.m 10)] [0,1,2,6,7,8]) (.q (.blk 0 (.q (.trim [0,1,2,6,7,8]) (.lop (.q (.q (.q (.r [.s 11 (.m 8),.s 12 (.m 1),.s 13 (.bin .leq none 11 12)] [0,1,2,6,7,8,13]) (.cnd 13 .skip (.exit 0))) (.blk 1 (.q (.r [.s 14 (.m 0),.s 15 (.m 7),.s 16 (.m 8),.s 17 (.m 2),.s 18 (.call 180 [14,15,16,17])] [0,1,2,6,8]) (.q (.r [.s 19 (.m 8),.s 7 (.m 19)] [0,1,2,6,7,8]) (.r [.s 20 (.m 8),.s 21 (.m 6),.s 22 (.bin .add none 20 21),.s 8 (.m 22)] [0,1,2,6,7,8]))))) (.trim [0,1,2,6,7,8]))))) (.q (.r [.s 23 (.m 0),.s 24 (.m 7),.s 25 (.m 1),.s 26 (.m 2),.s 27 (.call 180 [23,24,25,26])] [0,1,2,6]) (.blk 2 (.q (.trim [0,1,2,6]) (.lop (.q (.q (.q (.r [.s 28 (.m 6),.s 29 (.m 1),.s 30 (.bin .lss none 28 29)] [0,1,2,6,30]) (.cnd 30 .skip (.exit 2))) (.blk 3 (.q (.r [.s 31 (.m 6),.s 32 (.bin .mul none (.k 2) 31),.s 7 (.mv (.k 0)),.s 8 (.m 32)] [0,1,2,6,7,8]) (.q (.blk 4 (.q (.trim [0,1,2,6,7,8]) (.lop (.q (.q (.q (.r [.s 33 (.m 8),.s 34 (.m 1),.s 35 (.bin .leq none 33 34)] [0,1,2,6,7,8,35]) (.cnd 35 .skip (.exit 4))) (.blk 5 (.q (.r [.s 36 (.m 0),.s 37 (.m 7),.s 38 (.m 7),.s 39 (.m 6),.s 40 (.bin .add none 38 39),.s 41 (.m 8),.s 42 (.m 2),.s 43 (.call 181 [36,37,40,41,42])] [0,1,2,6,8]) (.q (.r [.s 44 (.m 8),.s 7 (.m 44)] [0,1,2,6,7,8]) (.r [.s 45 (.m 8),.s 46 (.m 6),.s 47 (.bin .mul none (.k 2) 46),.s 48 (.bin .add none 45 47),.s 8 (.m 48)] [0,1,2,6,7,8]))))) (.trim [0,1,2,6,7,8]))))) (.q (.q (.r [.s 49 (.m 7),.s 50 (.m 6),.s 51 (.bin .add none 49 50),.s 9 (.m 51)] [0,1,2,6,7,9]) (.q (.r [.s 52 (.m 9),.s 53 (.m 1),.s 54 (.bin .lss none 52 53)] [0,1,2,6,7,9,54]) (.cnd 54 (.r [.s 55 (.m 0),.s 56 (.m 7),.s 57 (.m 9),.s 58 (.m 1),.s 59 (.m 2),.s 60 (.call 181 [55,56,57,58,59])] [0,1,2,6]) .skip))) (.r [.s 61 (.m 6),.s 62 (.bin .mul none 61 (.k 2)),.s 6 (.m 62)] [0,1,2,6])))))) (.trim [0,1,2,6]))))))))),[]⟩
/-- (*strings.Builder).copyCheck -/
def F159 : DF := ⟨1,(.q (.r [.s 2 (.m 0),.s 3 (.nilc 2),.s 4 (.fa 0 3),.s 5 (.l 4),.s 6 (.bin .eql (some .ptr) 5 (.c .nilp))] [0,6]) (.cnd 6 (.r [.s 7 (.m 0),.s 8 (.m 0),.s 9 (.cvU 8),.s 10 (.xtn .noEscape [9]),.s 11 (.cvP [(75,(0,2)),(76,(0,2)),(77,(0,2)),(78,(0,2))] 10),.s 12 (.nilc 7),.s 13 (.fa 0 12),.n (.st 1 13 11)] []) (.q (.r [.s 14 (.m 0),.s 15 (.nilc 14),.s 16 (.fa 0 15),.s 17 (.l 16),.s 18 (.m 0),.s 19 (.bin .neq (some .ptr) 17 18)] [19]) (.cnd 19 .fail .skip)))),[]⟩
/-- emend/num.cut -/
def F160 : DF := ⟨1,(.q (.r [.s 2 (.mv .ff),.s 3 (.mv (.c (.str []))),.s 4 (.mv (.c (.str []))),.s 5 (.mv (.c (.str []))),.s 6 (.mv .ff)] [0,4]) (.q (.r [.s 10 (.m 0),.s 7 (.m 10)] [4,7]) (.q (.q (.r [.s 11 (.m 7),.s 12 (.call 185 [11,(.c (.str [45]))]),.s 2 (.m 12)] [2,4,7]) (.q (.r [.s 13 (.m 2)] [2,4,7,13]) (.cnd 13 (.r [.s 14 (.m 7),.s 15 (.slS 14 (some (.k 1)) none),.s 7 (.m 15)] [2,4,7]) .skip))) (.q (.r [.s 16 (.m 7),.s 17 (.call 164 [16]),.s 8 (.m 17)] [2,4,7,8]) (.q (.q (.r [.s 18 (.m 8),.s 19 (.bin .eql (some .int) 18 (.k 0)),.s 20 (.m 19),.g 21 (.m 8) 20 false,.g 22 (.bin .gtr none 21 (.k 1)) 20 false,.g 23 (.m 22) 20 false,.g 24 (.m 7) 23 true,.g 25 (.ixS 24 (.k 0)) 23 true,.g 26 (.bin .eql (some .int) 25 (.u 48)) 23 true,.g 27 (.pick 23 26 .ff) 20 false,.s 28 (.pick 20 .tt 27)] [2,4,7,8,28]) (.cnd 28 (.q (.r [.s 2 (.mv .ff),.s 3 (.mv (.c (.str []))),.s 4 (.mv (.c (.str []))),.s 5 (.mv (.c (.str []))),.s 6 (.mv .ff)] [2,3,4,5,6]) .ret) .skip)) (.q (.drw [((.s 29 (.m 7),none),[]),((.s 30 (.m 8),none),[]),((.s 31 (.slS 29 none (some 30)),none),[]),((.s 32 (.m 7),none),[]),((.s 33 (.m 8),none),[]),((.s 34 (.slS 32 (some 33) none),none),[]),((.s 3 (.m 31),none),[]),((.s 7 (.m 34),none),[])] [2,3,4,7]) (.q (.q (.r [.s 35 (.m 7),.s 36 (.call 185 [35,(.c (.str [46]))])] [2,3,4,7,36]) (.cnd 36 (.q (.q (.r [.s 37 (.m 7),.s 38 (.slS 37 (some (.k 1)) none),.s 39 (.call 164 [38]),.s 8 (.m 39)] [2,3,7,8]) (.q (.r [.s 40 (.m 8),.s 41 (.bin .eql (some .int) 40 (.k 0))] [2,3,7,8,41]) (.cnd 41 (.q (.r [.s 2 (.mv .ff),.s 3 (.mv (.c (.str []))),.s 4 (.mv (.c (.str []))),.s 5 (.mv (.c (.str []))),.s 6 (.mv .ff)] [2,3,4,5,6]) .ret) .skip))) (.drw [((.s 42 (.m 7),none),[]),((.s 43 (.m 8),none),[]),((.s 44 (.bin .add none (.k 1) 43),none),[]),((.s 45 (.slS 42 (some (.k 1)) (some 44)),none),[]),((.s 46 (.m 7),none),[]),((.s 47 (.m 8),none),[]),((.s 48 (.bin .add none (.k 1) 47),none),[]),((.s 49 (.slS 46 (some 48) none),none),[]),((.s 4 (.m 45),none),[]),((.s 7 (.m 49),none),[])] [2,3,4,7])) .skip)) (.q (.q (.r [.s 50 (.m 7),.s 51 (.bin .eql (some .str) 50 (.c (.str [])))] [2,3,4,7,51]) (.cnd 51 (.q (.r [.s 52 (.m 2),.s 53 (.m 3),.s 54 (.m 4),.s 2 (.m 52),.s 3 (.m 53),.s 4 (.m 54),.s 5 (.mv (.c (.str []))),.s 6 (.mv .tt)] [2,3,4,5,6]) .ret) .skip)) (.q (.q (.r [.s 55 (.m 7),.s 56 (.ixS 55 (.k 0)),.s 57 (.bin .neq (some .int) 56 (.u 101)),.s 58 (.m 57),.g 59 (.m 7) 58 true,.g 60 (.ixS 59 (.k 0)) 58 true,.g 61 (.bin .neq (some .int) 60 (.u 69)) 58 true,.s 62 (.pick 58 61 .ff)] [2,3,4,7,62]) (.cnd 62 (.q (.r [.s 2 (.mv .ff),.s 3 (.mv (.c (.str []))),.s 4 (.mv (.c (.str []))),.s 5 (.mv (.c (.str []))),.s 6 (.mv .ff)] [2,3,4,5,6]) .ret) .skip)) (.q (.r [.s 63 (.m 7),.s 64 (.slS 63 (some (.k 1)) none),.s 5 (.m 64)] [2,3,4,5]) (.q (.r [.s 65 (.m 5),.s 66 (.call 186 [65,(.c (.str [45]))]),.s 9 (.m 66)] [2,3,4,5,9]) (.q (.q (.r [.s 67 (.m 9),.s 68 (.m 5),.s 69 (.bin .eql (some .str) 67 68)] [2,3,4,5,9,69]) (.cnd 69 (.r [.s 70 (.m 5),.s 71 (.call 186 [70,(.c (.str [43]))]),.s 9 (.m 71)] [2,3,4,5,9]) .skip)) (.q (.q (.r [.s 72 (.m 9),.s 73 (.bin .eql (some .str) 72 (.c (.str []))),.s 74 (.m 73),.g 75 (.m 9) 74 false,.g 76 (.call 164 [75]) 74 false,.g 77 (.m 9) 74 false,.g 78 (.lenS 77) 74 false,.g 79 (.bin .lss none 76 78) 74 false,.s 80 (.pick 74 .tt 79)] [2,3,4,5,80]) (.cnd 80 (.q (.r [.s 2 (.mv .ff),.s 3 (.mv (.c (.str []))),.s 4 (.mv (.c (.str []))),.s 5 (.mv (.c (.str []))),.s 6 (.mv .ff)] [2,3,4,5,6]) .ret) .skip)) (.q (.r [.s 81 (.m 2),.s 82 (.m 3),.s 83 (.m 4),.s 84 (.m 5),.s 2 (.m 81),.s 3 (.m 82),.s 4 (.m 83),.s 5 (.m 84),.s 6 (.mv .tt)] [2,3,4,5,6]) .ret)))))))))))))),[.tmp 2,.tmp 3,.tmp 4,.tmp 5,.tmp 6]⟩
/-- emend/num.exponent -/
def F161 : DF := ⟨1,
(.seq
(.reg [
.s 2 (.mv (.k 0)),
.s 3 (.mv .ff)] [0])
(.seq
(.reg [
.s 7 (.m 0),
.s 8 (.call 185 [(.t 7),(.c (.str [45]))]),
.s 4 (.m 8)] [0,4])
(.seq
(.reg [
.s 9 (.m 0),
.s 10 (.call 162 [(.t 9),(.c (.str [43,45]))]),
.s 11 (.call 162 [(.t 10),(.c (.str [48]))]),
.s 0 (.m 11)] [0,4])
(.seq
(.seq
(.reg [
.s 12 (.m 0),
.s 13 (.lenS (.t 12)),
.s 14 (.bin .gtr none (.t 13) (.k 6))] [0,4,14])
(.cnd (.t 14)
(.seq
(.reg [
.s 2 (.mv (.k 0)),
.s 3 (.mv .ff)] [2,3])
.ret)
.skip))
(.seq
(.reg [
.s 16 (.m 0),
.s 17 (.bin .add none (.c (.str [48])) (.t 16)),
.s 18 (.call 187 [(.t 17)]),
.s 15 (.m 18),
.s 19 (.ext (.t 15) 0),
.s 20 (.ext (.t 15) 1),
.s 5 (.m 19),
.s 6 (.m 20)] [4,5])
(.seq
(.seq
(.reg [
.s 21 (.m 4)] [5,21])
(.cnd (.t 21)
(.seq
(.reg [
.s 22 (.m 5),
.s 23 (.un .neg (.t 22)),
.s 2 (.m 23),
.s 3 (.mv .tt)] [2,3])
.ret)
.skip))
(.seq
(.reg [
.s 24 (.m 5),
.s 2 (.m 24),
.s 3 (.mv .tt)] [2,3])
.ret))))))),
[.tmp 2,.tmp 3]⟩

/-- emend/num.run -/
def F164 : DF := ⟨1,
(.seq
(.reg [
.s 2 (.mv (.k 0))] [0])
(.seq
(.reg [
.s 3 (.mv (.k 0))] [0,3])
(.seq
(.blk 0
(.seq
(.trim [0,3])
(.lop
(.seq
(.seq
(.seq
(.reg [
.s 4 (.m 3),
.s 5 (.m 0),
.s 6 (.lenS (.t 5)),
.s 7 (.bin .lss none (.t 4) (.t 6)),
.s 8 (.m 7),
.g 9 (.m 0) 8 true,
.g 10 (.m 3) 8 true,
.g 11 (.ixS (.t 9) (.t 10)) 8 true,
.g 12 (.call 195 [(.t 11)]) 8 true,
.s 13 (.pick (.t 8) (.t 12) .ff)] [0,3,13])
(.cnd (.t 13)
.skip
(.exit 0)))
(.blk 1
(.reg [
.s 14 (.m 3),
.s 15 (.bin .add none (.t 14) (.k 1)),
.s 3 (.m 15)] [0,3])))
(.trim [0,3])))))
(.seq
(.reg [
.s 16 (.m 3),
.s 2 (.m 16)] [2])
.ret)))),
[.tmp 2]⟩

/-- emend/tree.two -/
def F166 : DF := ⟨1,(.q (.r [.s 2 (.mv (.k 0))] [0]) (.q (.q (.r [.s 3 (.m 0),.s 4 (.lenS 3),.s 5 (.bin .neq (some .int) 4 (.k 2)),.s 6 (.m 5),.g 7 (.m 0) 6 false,.g 8 (.ixS 7 (.k 0)) 6 false,.g 9 (.bin .lss none 8 (.u 48)) 6 false,.s 10 (.pick 6 .tt 9),.s 11 (.m 10),.g 12 (.m 0) 11 false,.g 13 (.ixS 12 (.k 0)) 11 false,.g 14 (.bin .gtr none 13 (.u 57)) 11 false,.s 15 (.pick 11 .tt 14),.s 16 (.m 15),.g 17 (.m 0) 16 false,.g 18 (.ixS 17 (.k 1)) 16 false,.g 19 (.bin .lss none 18 (.u 48)) 16 false,.s 20 (.pick 16 .tt 19),.s 21 (.m 20),.g 22 (.m 0) 21 false,.g 23 (.ixS 22 (.k 1)) 21 false,.g 24 (.bin .gtr none 23 (.u 57)) 21 false,.s 25 (.pick 21 .tt 24)] [0,25]) (.cnd 25 (.q (.r [.s 2 (.mv (.k (-1)))] [2]) .ret) .skip)) (.q (.drw [((.s 26 (.m 0),none),[]),((.s 27 (.ixS 26 (.k 0)),none),[]),((.s 28 (.bin .sub none 27 (.u 48)),none),[]),((.s 29 (.cvI .i64 28),none),[]),((.s 30 (.bin .mul none 29 (.k 10)),none),[]),((.s 31 (.m 0),none),[]),((.s 32 (.ixS 31 (.k 1)),none),[]),((.s 33 (.bin .sub none 32 (.u 48)),none),[]),((.s 34 (.cvI .i64 33),none),[]),((.s 35 (.bin .add none 30 34),none),[]),((.s 2 (.m 35),none),[])] [2]) .ret))),[.tmp 2]⟩
/-- emend/tree.within -/
def F167 : DF := ⟨3,(.q (.r [.s 6 (.mv .ff)] [0,1,2]) (.q (.r [.s 7 (.m 0),.s 8 (.call 166 [7]),.s 9 (.m 1),.s 10 (.bin .geq none 8 9),.s 11 (.m 10),.g 12 (.m 0) 11 true,.g 13 (.call 166 [12]) 11 true,.g 14 (.m 2) 11 true,.g 15 (.bin .leq none 13 14) 11 true,.s 16 (.pick 11 15 .ff),.s 6 (.m 16)] [6]) .ret)),[.tmp 6]⟩
/-- emend/tree.days -/
def F168 : DF := ⟨2,
(.seq
(.reg [
.s 4 (.mv (.k 0))] [0,1])
(.seq
(.seq
(.reg [
.s 5 (.m 1)] [0,5])
(.blk 0
(.seq
(.seq
(.reg [
.s 7 (.bin .eql (some .int) (.t 5) (.k 4)),
.s 6 (.m 7)] [0,5,6])
(.cnd (.t 6)
.skip
(.seq
(.reg [
.s 8 (.bin .eql (some .int) (.t 5) (.k 6)),
.s 6 (.m 8)] [0,5,6])
(.cnd (.t 6)
.skip
(.seq
(.reg [
.s 9 (.bin .eql (some .int) (.t 5) (.k 9)),
.s 6 (.m 9)] [0,5,6])
(.cnd (.t 6)
.skip
(.reg [
.s 10 (.bin .eql (some .int) (.t 5) (.k 11)),
.s 6 (.m 10)] [0,5,6])))))))
(.cnd (.t 6)
(.seq
(.reg [
.s 4 (.mv (.k 30))] [4])
.ret)
(.seq
(.reg [
.s 12 (.bin .eql (some .int) (.t 5) (.k 2)),
.s 11 (.m 12)] [0,11])
(.cnd (.t 11)
(.seq
(.seq
(.reg [
.s 13 (.m 0),
.s 14 (.bin .rem none (.t 13) (.k 4)),
.s 15 (.bin .eql (some .int) (.t 14) (.k 0)),
.s 16 (.m 15),
.g 17 (.m 0) 16 true,
.g 18 (.bin .rem none (.t 17) (.k 100)) 16 true,
.g 19 (.bin .neq (some .int) (.t 18) (.k 0)) 16 true,
.g 20 (.m 19) 16 true,
.g 21 (.m 0) 20 false,
.g 22 (.bin .rem none (.t 21) (.k 400)) 20 false,
.g 23 (.bin .eql (some .int) (.t 22) (.k 0)) 20 false,
.g 24 (.pick (.t 20) .tt (.t 23)) 16 true,
.s 25 (.pick (.t 16) (.t 24) .ff)] [25])
(.cnd (.t 25)
(.seq
(.reg [
.s 4 (.mv (.k 29))] [4])
.ret)
.skip))
(.seq
(.reg [
.s 4 (.mv (.k 28))] [4])
.ret))
.skip))))))
(.seq
(.reg [
.s 4 (.mv (.k 31))] [4])
.ret))),
[.tmp 4]⟩

/-- strings.HasSuffix -/
def F170 : DF := ⟨2,(.q (.r [.s 4 (.mv .ff)] [0,1]) (.q (.r [.s 5 (.m 0),.s 6 (.m 1),.s 7 (.call 197 [5,6]),.s 4 (.m 7)] [4]) .ret)),[.tmp 4]⟩
/-- internal/stringslite.Cut -/
def F171 : DF := ⟨2,(.q (.r [.s 4 (.mv (.c (.str []))),.s 5 (.mv (.c (.str []))),.s 6 (.mv .ff)] [0,1]) (.q (.q (.r [.s 8 (.m 0),.s 9 (.m 1),.s 10 (.call 198 [8,9]),.s 7 (.m 10)] [0,1,7]) (.q (.r [.s 11 (.m 7),.s 12 (.bin .geq none 11 (.k 0))] [0,1,7,12]) (.cnd 12 (.q (.drw [((.s 13 (.m 0),none),[]),((.s 14 (.m 7),none),[]),((.s 15 (.slS 13 none (some 14)),none),[]),((.s 16 (.m 0),none),[]),((.s 17 (.m 7),none),[]),((.s 18 (.m 1),none),[]),((.s 19 (.lenS 18),none),[]),((.s 20 (.bin .add none 17 19),none),[]),((.s 21 (.slS 16 (some 20) none),none),[]),((.s 4 (.m 15),none),[]),((.s 5 (.m 21),none),[]),((.s 6 (.mv .tt),none),[])] [4,5,6]) .ret) .skip))) (.q (.r [.s 22 (.m 0),.s 4 (.m 22),.s 5 (.mv (.c (.str []))),.s 6 (.mv .ff)] [4,5,6]) .ret))),[.tmp 4,.tmp 5,.tmp 6]⟩
/-- emend/text.row -/
def F172 : DF := ⟨1,(.q (.r [.s 2 (.mv (.k 0)),.s 3 (.mv (.k 0)),.s 4 (.mv (.k 0))] [0]) (.q (.blk 0 (.q (.r [.s 6 (.m 0),.s 7 (.bin .shr none 6 (.c (.int .u64 7))),.s 8 (.bin .eql (some .int) 7 (.u 0)),.s 5 (.m 8)] [0,5]) (.cnd 5 (.q (.r [.s 9 (.m 0),.s 10 (.cvI .i64 9),.s 2 (.mv (.k 1)),.s 3 (.m 10),.s 4 (.mv (.k 0))] [2,3,4]) .ret) (.q (.r [.s 12 (.m 0),.s 13 (.bin .shr none 12 (.c (.int .u64 5))),.s 14 (.bin .eql (some .int) 13 (.u 6)),.s 11 (.m 14)] [0,11]) (.cnd 11 (.q (.r [.s 15 (.m 0),.s 16 (.bin .and none 15 (.u 31)),.s 17 (.cvI .i64 16),.s 2 (.mv (.k 2)),.s 3 (.m 17),.s 4 (.mv (.k 128))] [2,3,4]) .ret) (.q (.r [.s 19 (.m 0),.s 20 (.bin .shr none 19 (.c (.int .u64 4))),.s 21 (.bin .eql (some .int) 20 (.u 14)),.s 18 (.m 21)] [0,18]) (.cnd 18 (.q (.r [.s 22 (.m 0),.s 23 (.bin .and none 22 (.u 15)),.s 24 (.cvI .i64 23),.s 2 (.mv (.k 3)),.s 3 (.m 24),.s 4 (.mv (.k 2048))] [2,3,4]) .ret) (.q (.r [.s 26 (.m 0),.s 27 (.bin .shr none 26 (.c (.int .u64 3))),.s 28 (.bin .eql (some .int) 27 (.u 30)),.s 25 (.m 28)] [0,25]) (.cnd 25 (.q (.r [.s 29 (.m 0),.s 30 (.bin .and none 29 (.u 7)),.s 31 (.cvI .i64 30),.s 2 (.mv (.k 4)),.s 3 (.m 31),.s 4 (.mv (.k 65536))] [2,3,4]) .ret) .skip))))))))) (.q (.r [.s 2 (.mv (.k 0)),.s 3 (.mv (.k 0)),.s 4 (.mv (.k 0))] [2,3,4]) .ret))),[.tmp 2,.tmp 3,.tmp 4]⟩
/-- emend/text.character -/
def F173 : DF := ⟨1,(.q (.r [.s 2 (.mv .ff)] [0]) (.q (.r [.s 3 (.m 0),.s 4 (.bin .geq none 3 (.k 0)),.s 5 (.m 4),.g 6 (.m 0) 5 true,.g 7 (.bin .leq none 6 (.k 1114111)) 5 true,.s 8 (.pick 5 7 .ff),.s 9 (.m 8),.g 10 (.m 0) 9 true,.g 11 (.bin .lss none 10 (.k 55296)) 9 true,.g 12 (.m 11) 9 true,.g 13 (.m 0) 12 false,.g 14 (.bin .gtr none 13 (.k 57343)) 12 false,.g 15 (.pick 12 .tt 14) 9 true,.s 16 (.pick 9 15 .ff),.s 2 (.m 16)] [2]) .ret)),[.tmp 2]⟩
/-- emend/text.Escaped -/
def F174 : DF := ⟨1,(.q (.r [.s 2 (.mv (.k 0)),.s 3 (.mv (.k 0))] [0]) (.q (.q (.r [.s 4 (.m 0),.s 5 (.bin .eql (some .str) 4 (.c (.str [])))] [0,5]) (.cnd 5 (.q (.r [.s 2 (.mv (.k 0)),.s 3 (.mv (.k 0))] [2,3]) .ret) .skip)) (.q (.q (.r [.s 6 (.m 0),.s 7 (.ixS 6 (.k 0))] [0,7]) (.blk 0 (.q (.q (.r [.s 9 (.bin .eql (some .int) 7 (.u 34)),.s 8 (.m 9)] [0,7,8]) (.cnd 8 .skip (.q (.r [.s 10 (.bin .eql (some .int) 7 (.u 92)),.s 8 (.m 10)] [0,7,8]) (.cnd 8 .skip (.r [.s 11 (.bin .eql (some .int) 7 (.u 47)),.s 8 (.m 11)] [0,7,8]))))) (.cnd 8 (.q (.r [.s 12 (.m 0),.s 13 (.ixS 12 (.k 0)),.s 14 (.cvI .i64 13),.s 2 (.m 14),.s 3 (.mv (.k 1))] [2,3]) .ret) (.q (.r [.s 16 (.bin .eql (some .int) 7 (.u 98)),.s 15 (.m 16)] [0,7,15]) (.cnd 15 (.q (.r [.s 2 (.mv (.k 8)),.s 3 (.mv (.k 1))] [2,3]) .ret) (.q (.r [.s 18 (.bin .eql (some .int) 7 (.u 116)),.s 17 (.m 18)] [0,7,17]) (.cnd 17 (.q (.r [.s 2 (.mv (.k 9)),.s 3 (.mv (.k 1))] [2,3]) .ret) (.q (.r [.s 20 (.bin .eql (some .int) 7 (.u 110)),.s 19 (.m 20)] [0,7,19]) (.cnd 19 (.q (.r [.s 2 (.mv (.k 10)),.s 3 (.mv (.k 1))] [2,3]) .ret) (.q (.r [.s 22 (.bin .eql (some .int) 7 (.u 102)),.s 21 (.m 22)] [0,7,21]) (.cnd 21 (.q (.r [.s 2 (.mv (.k 12)),.s 3 (.mv (.k 1))] [2,3]) .ret) (.q (.r [.s 24 (.bin .eql (some .int) 7 (.u 114)),.s 23 (.m 24)] [0,7,23]) (.cnd 23 (.q (.r [.s 2 (.mv (.k 13)),.s 3 (.mv (.k 1))] [2,3]) .ret) (.q (.r [.s 26 (.bin .eql (some .int) 7 (.u 117)),.s 25 (.m 26)] [0,25]) (.cnd 25 (.q (.r [.s 27 (.m 0),.s 28 (.call 199 [27]),.s 29 (.ext 28 0),.s 30 (.ext 28 1),.s 2 (.m 29),.s 3 (.m 30)] [2,3]) .ret) .skip)))))))))))))))) (.q (.r [.s 2 (.mv (.k 0)),.s 3 (.mv (.k 0))] [2,3]) .ret)))),[.tmp 2,.tmp 3]⟩
/-- emend/text.put -/
def F175 : DF := ⟨2,(.q (.r [.s 3 (.bxH 3 1),.s 4 (.mv (.c (.sl 1 nz [])))] [0,3]) (.q (.r [.s 6 (.mkf 200 [] [3]),.s 5 (.m 6)] [0,3,5]) (.q (.blk 0 (.q (.r [.s 8 (.l 3),.s 9 (.bin .lss none 8 (.k 128)),.s 7 (.m 9)] [0,3,5,7]) (.cnd 7 (.q (.r [.s 10 (.m 0),.s 11 (.l 3),.s 12 (.cvI .u8 11),.s 13 (.bldT 5 1 1 (.int .u8 0) [(0,12)]),.s 14 (.app false 5 1 1 10 13),.s 4 (.m 14)] [4]) .ret) (.q (.r [.s 16 (.l 3),.s 17 (.bin .lss none 16 (.k 2048)),.s 15 (.m 17)] [0,3,5,15]) (.cnd 15 (.q (.drw [((.s 18 (.m 0),none),[]),((.s 19 (.l 3),none),[]),((.s 20 (.bin .shr none 19 (.c (.int .u64 6))),none),[]),((.s 21 (.bin .or none (.k 192) 20),none),[]),((.s 22 (.cvI .u8 21),none),[]),((.s 23 (.m 5),none),[]),((.s 24 (.callv 23 [(.k 0)]),none),[(.s 19 (.l 3),none)]),((.s 25 (.bldS 1 2 (.int .u8 0) [(0,22),(1,24)]),none),[]),((.s 26 (.app false 5 1 1 18 25),none),[]),((.s 4 (.m 26),none),[])] [4]) .ret) (.q (.r [.s 28 (.l 3),.s 29 (.bin .lss none 28 (.k 65536)),.s 27 (.m 29)] [0,3,5,27]) (.cnd 27 (.q (.drw [((.s 30 (.m 0),none),[]),((.s 31 (.l 3),none),[]),((.s 32 (.bin .shr none 31 (.c (.int .u64 12))),none),[]),((.s 33 (.bin .or none (.k 224) 32),none),[]),((.s 34 (.cvI .u8 33),none),[]),((.s 35 (.m 5),none),[]),((.s 37 (.m 5),none),[]),((.s 36 (.callv 35 [(.k 6)]),none),[(.s 31 (.l 3),none)]),((.s 38 (.callv 37 [(.k 0)]),none),[(.s 31 (.l 3),none)]),((.s 39 (.bldS 1 3 (.int .u8 0) [(0,34),(1,36),(2,38)]),none),[]),((.s 40 (.app false 5 1 1 30 39),none),[]),((.s 4 (.m 40),none),[])] [4]) .ret) .skip))))))) (.q (.drw [((.s 41 (.m 0),none),[]),((.s 42 (.l 3),none),[]),((.s 43 (.bin .shr none 42 (.c (.int .u64 18))),none),[]),((.s 44 (.bin .or none (.k 240) 43),none),[]),((.s 45 (.cvI .u8 44),none),[]),((.s 46 (.m 5),none),[]),((.s 48 (.m 5),none),[]),((.s 50 (.m 5),none),[]),((.s 47 (.callv 46 [(.k 12)]),none),[(.s 42 (.l 3),none)]),((.s 49 (.callv 48 [(.k 6)]),none),[(.s 42 (.l 3),none)]),((.s 51 (.callv 50 [(.k 0)]),none),[(.s 42 (.l 3),none)]),((.s 52 (.bldS 1 4 (.int .u8 0) [(0,45),(1,47),(2,49),(3,51)]),none),[]),((.s 53 (.app false 5 1 1 41 52),none),[]),((.s 4 (.m 53),none),[])] [4]) .ret)))),[.tmp 4]⟩
/-- emend/num.sign -/
def F176 : DF := ⟨1,(.q (.r [.s 2 (.mv (.k 0))] [0]) (.q (.r [.s 3 (.m 0),.s 4 (.mn [(.k 1),3]),.s 5 (.mx [(.k (-1)),4]),.s 2 (.m 5)] [2]) .ret)),[.tmp 2]⟩
/-- slices.insertionSortCmpFunc[int] -/
def F180 : DF := ⟨4,(.q (.r [.s 10 (.m 1),.s 11 (.bin .add none 10 (.k 1)),.s 8 (.m 11)] [0,1,2,3,8]) (.blk 0 (.q (.trim [0,1,2,3,8]) (.lop (.q (.q (.q (.r [.s 12 (.m 8),.s 13 (.m 2),.s 14 (.bin .lss none 12 13)] [0,1,2,3,8,14]) (.cnd 14 .skip (.exit 0))) (.q (.blk 1 (.q (.r [.s 17 (.m 8),.s 9 (.m 17)] [0,1,2,3,8,9]) (.blk 2 (.q (.trim [0,1,2,3,8,9]) (.lop (.q (.q (.q (.drw [((.s 18 (.m 9),none),[]),((.s 19 (.m 1),none),[]),((.s 20 (.bin .gtr none 18 19),none),[]),((.s 21 (.m 20),none),[]),((.g 22 (.m 3) 21 true,none),[]),((.g 23 (.m 0) 21 true,none),[]),((.g 24 (.m 9) 21 true,none),[]),((.g 25 (.ia 1 23 24) 21 true,none),[]),((.g 26 (.l 25) 21 true,none),[]),((.g 27 (.m 0) 21 true,none),[]),((.g 28 (.m 9) 21 true,none),[]),((.g 29 (.bin .sub none 28 (.k 1)) 21 true,none),[]),((.g 30 (.ia 1 27 29) 21 true,none),[]),((.g 31 (.l 30) 21 true,none),[]),((.g 32 (.callv 22 [26,31]) 21 true,none),[]),((.g 33 (.bin .lss none 32 (.k 0)) 21 true,none),[]),((.s 34 (.pick 21 33 .ff),none),[])] [0,1,2,3,8,9,34]) (.cnd 34 .skip (.exit 2))) (.q (.blk 3 (.drw [((.s 37 (.m 0),none),[]),((.s 38 (.m 9),none),[]),((.s 39 (.m 0),none),[]),((.s 40 (.m 9),none),[]),((.s 41 (.bin .sub none 40 (.k 1)),none),[]),((.s 42 (.m 0),none),[]),((.s 43 (.m 9),none),[]),((.s 44 (.bin .sub none 43 (.k 1)),none),[]),((.s 45 (.ia 1 42 44),none),[]),((.s 46 (.l 45),none),[]),((.s 47 (.m 0),none),[]),((.s 48 (.m 9),none),[]),((.s 49 (.ia 1 47 48),none),[]),((.s 50 (.l 49),none),[]),((.s 51 (.ia 1 37 38),none),[]),((.n (.st 1 51 46),none),[]),((.s 52 (.ia 1 39 41),none),[]),((.n (.st 1 52 50),none),[])] [0,1,2,3,8,9])) (.r [.s 35 (.m 9),.s 36 (.bin .sub none 35 (.k 1)),.s 9 (.m 36)] [0,1,2,3,8,9]))) (.trim [0,1,2,3,8,9]))))))) (.r [.s 15 (.m 8),.s 16 (.bin .add none 15 (.k 1)),.s 8 (.m 16)] [0,1,2,3,8]))) (.trim [0,1,2,3,8])))))),[]⟩
/-- slices.symMergeCmpFunc[int] -/
def F181 : DF := ⟨5,(.q (.q (.r [.s 25 (.m 2),.s 26 (.m 1),.s 27 (.bin .sub none 25 26),.s 28 (.bin .eql (some .int) 27 (.k 1))] [0,1,2,3,4,28]) (.cnd 28 (.q (.r [.s 29 (.m 2),.s 10 (.m 29)] [0,1,3,4,10]) (.q (.r [.s 30 (.m 3),.s 11 (.m 30)] [0,1,4,10,11]) (.q (.blk 0 (.q (.trim [0,1,4,10,11]) (.lop (.q (.q (.q (.r [.s 31 (.m 10),.s 32 (.m 11),.s 33 (.bin .lss none 31 32)] [0,1,4,10,11,33]) (.cnd 33 .skip (.exit 0))) (.blk 1 (.q (.r [.s 34 (.m 10),.s 35 (.m 11),.s 36 (.bin .add none 34 35),.s 37 (.cvI .u64 36),.s 38 (.bin .shr none 37 (.c (.int .u64 1))),.s 39 (.cvI .i64 38),.s 12 (.m 39)] [0,1,4,10,11,12]) (.q (.drw [((.s 40 (.m 4),none),[]),((.s 41 (.m 0),none),[]),((.s 42 (.m 12),none),[]),((.s 43 (.ia 1 41 42),none),[]),((.s 44 (.l 43),none),[]),((.s 45 (.m 0),none),[]),((.s 46 (.m 1),none),[]),((.s 47 (.ia 1 45 46),none),[]),((.s 48 (.l 47),none),[]),((.s 49 (.callv 40 [44,48]),none),[]),((.s 50 (.bin .lss none 49 (.k 0)),none),[])] [0,1,4,10,11,12,50]) (.cnd 50 (.r [.s 51 (.m 12),.s 52 (.bin .add none 51 (.k 1)),.s 10 (.m 52)] [0,1,4,10,11]) (.r [.s 53 (.m 12),.s 11 (.m 53)] [0,1,4,10,11])))))) (.trim [0,1,4,10,11]))))) (.q (.q (.r [.s 54 (.m 1),.s 13 (.m 54)] [0,10,13]) (.blk 2 (.q (.trim [0,10,13]) (.lop (.q (.q (.q (.r [.s 55 (.m 13),.s 56 (.m 10),.s 57 (.bin .sub none 56 (.k 1)),.s 58 (.bin .lss none 55 57)] [0,10,13,58]) (.cnd 58 .skip (.exit 2))) (.q (.blk 3 (.drw [((.s 61 (.m 0),none),[]),((.s 62 (.m 13),none),[]),((.s 63 (.m 0),none),[]),((.s 64 (.m 13),none),[]),((.s 65 (.bin .add none 64 (.k 1)),none),[]),((.s 66 (.m 0),none),[]),((.s 67 (.m 13),none),[]),((.s 68 (.bin .add none 67 (.k 1)),none),[]),((.s 69 (.ia 1 66 68),none),[]),((.s 70 (.l 69),none),[]),((.s 71 (.m 0),none),[]),((.s 72 (.m 13),none),[]),((.s 73 (.ia 1 71 72),none),[]),((.s 74 (.l 73),none),[]),((.s 75 (.ia 1 61 62),none),[]),((.n (.st 1 75 70),none),[]),((.s 76 (.ia 1 63 65),none),[]),((.n (.st 1 76 74),none),[])] [0,10,13])) (.r [.s 59 (.m 13),.s 60 (.bin .add none 59 (.k 1)),.s 13 (.m 60)] [0,10,13]))) (.trim [0,10,13])))))) .ret)))) .skip)) (.q (.q (.r [.s 77 (.m 3),.s 78 (.m 2),.s 79 (.bin .sub none 77 78),.s 80 (.bin .eql (some .int) 79 (.k 1))] [0,1,2,3,4,80]) (.cnd 80 (.q (.r [.s 81 (.m 1),.s 14 (.m 81)] [0,2,4,14]) (.q (.r [.s 82 (.m 2),.s 15 (.m 82)] [0,2,4,14,15]) (.q (.blk 4 (.q (.trim [0,2,4,14,15]) (.lop (.q (.q (.q (.r [.s 83 (.m 14),.s 84 (.m 15),.s 85 (.bin .lss none 83 84)] [0,2,4,14,15,85]) (.cnd 85 .skip (.exit 4))) (.blk 5 (.q (.r [.s 86 (.m 14),.s 87 (.m 15),.s 88 (.bin .add none 86 87),.s 89 (.cvI .u64 88),.s 90 (.bin .shr none 89 (.c (.int .u64 1))),.s 91 (.cvI .i64 90),.s 16 (.m 91)] [0,2,4,14,15,16]) (.q (.drw [((.s 92 (.m 4),none),[]),((.s 93 (.m 0),none),[]),((.s 94 (.m 2),none),[]),((.s 95 (.ia 1 93 94),none),[]),((.s 96 (.l 95),none),[]),((.s 97 (.m 0),none),[]),((.s 98 (.m 16),none),[]),((.s 99 (.ia 1 97 98),none),[]),((.s 100 (.l 99),none),[]),((.s 101 (.callv 92 [96,100]),none),[]),((.s 102 (.bin .lss none 101 (.k 0)),none),[]),((.s 103 (.un .not 102),none),[])] [0,2,4,14,15,16,103]) (.cnd 103 (.r [.s 104 (.m 16),.s 105 (.bin .add none 104 (.k 1)),.s 14 (.m 105)] [0,2,4,14,15]) (.r [.s 106 (.m 16),.s 15 (.m 106)] [0,2,4,14,15])))))) (.trim [0,2,4,14,15]))))) (.q (.q (.r [.s 107 (.m 2),.s 17 (.m 107)] [0,14,17]) (.blk 6 (.q (.trim [0,14,17]) (.lop (.q (.q (.q (.r [.s 108 (.m 17),.s 109 (.m 14),.s 110 (.bin .gtr none 108 109)] [0,14,17,110]) (.cnd 110 .skip (.exit 6))) (.q (.blk 7 (.drw [((.s 113 (.m 0),none),[]),((.s 114 (.m 17),none),[]),((.s 115 (.m 0),none),[]),((.s 116 (.m 17),none),[]),((.s 117 (.bin .sub none 116 (.k 1)),none),[]),((.s 118 (.m 0),none),[]),((.s 119 (.m 17),none),[]),((.s 120 (.bin .sub none 119 (.k 1)),none),[]),((.s 121 (.ia 1 118 120),none),[]),((.s 122 (.l 121),none),[]),((.s 123 (.m 0),none),[]),((.s 124 (.m 17),none),[]),((.s 125 (.ia 1 123 124),none),[]),((.s 126 (.l 125),none),[]),((.s 127 (.ia 1 113 114),none),[]),((.n (.st 1 127 122),none),[]),((.s 128 (.ia 1 115 117),none),[]),((.n (.st 1 128 126),none),[])] [0,14,17])) (.r [.s 111 (.m 17),.s 112 (.bin .sub none 111 (.k 1)),.s 17 (.m 112)] [0,14,17]))) (.trim [0,14,17])))))) .ret)))) .skip)) (.q (.r [.s 129 (.m 1),.s 130 (.m 3),.s 131 (.bin .add none 129 130),.s 132 (.cvI .u64 131),.s 133 (.bin .shr none 132 (.c (.int .u64 1))),.s 134 (.cvI .i64 133),.s 18 (.m 134)] [0,1,2,3,4,18]) (.q (.r [.s 135 (.m 18),.s 136 (.m 2),.s 137 (.bin .add none 135 136),.s 19 (.m 137)] [0,1,2,3,4,18,19]) (.q (.r [.s 20 (.mv (.k 0)),.s 21 (.mv (.k 0))] [0,1,2,3,4,18,19]) (.q (.q (.r [.s 138 (.m 2),.s 139 (.m 18),.s 140 (.bin .gtr none 138 139)] [0,1,2,3,4,18,19,140]) (.cnd 140 (.q (.r [.s 141 (.m 19),.s 142 (.m 3),.s 143 (.bin .sub none 141 142),.s 20 (.m 143)] [0,1,2,3,4,18,19,20]) (.r [.s 144 (.m 18),.s 21 (.m 144)] [0,1,2,3,4,18,19,20,21])) (.q (.r [.s 145 (.m 1),.s 20 (.m 145)] [0,1,2,3,4,18,19,20]) (.r [.s 146 (.m 2),.s 21 (.m 146)] [0,1,2,3,4,18,19,20,21])))) (.q (.r [.s 147 (.m 19),.s 148 (.bin .sub none 147 (.k 1)),.s 22 (.m 148)] [0,1,2,3,4,18,19,20,21,22]) (.q (.blk 8 (.q (.trim [0,1,2,3,4,18,19,20,21,22]) (.lop (.q (.q (.q (.r [.s 149 (.m 20),.s 150 (.m 21),.s 151 (.bin .lss none 149 150)] [0,1,2,3,4,18,19,20,21,22,151]) (.cnd 151 .skip (.exit 8))) (.blk 9 (.q (.r [.s 152 (.m 20),.s 153 (.m 21),.s 154 (.bin .add none 152 153),.s 155 (.cvI .u64 154),.s 156 (.bin .shr none 155 (.c (.int .u64 1))),.s 157 (.cvI .i64 156),.s 23 (.m 157)] [0,1,2,3,4,18,19,20,21,22,23]) (.q (.drw [((.s 158 (.m 4),none),[]),((.s 159 (.m 0),none),[]),((.s 160 (.m 22),none),[]),((.s 161 (.m 23),none),[]),((.s 162 (.bin .sub none 160 161),none),[]),((.s 163 (.ia 1 159 162),none),[]),((.s 164 (.l 163),none),[]),((.s 165 (.m 0),none),[]),((.s 166 (.m 23),none),[]),((.s 167 (.ia 1 165 166),none),[]),((.s 168 (.l 167),none),[]),((.s 169 (.callv 158 [164,168]),none),[]),((.s 170 (.bin .lss none 169 (.k 0)),none),[]),((.s 171 (.un .not 170),none),[])] [0,1,2,3,4,18,19,20,21,22,23,171]) (.cnd 171 (.r [.s 172 (.m 23),.s 173 (.bin .add none 172 (.k 1)),.s 20 (.m 173)] [0,1,2,3,4,18,19,20,21,22]) (.r [.s 174 (.m 23),.s 21 (.m 174)] [0,1,2,3,4,18,19,20,21,22])))))) (.trim [0,1,2,3,4,18,19,20,21,22]))))) (.q (.r [.s 175 (.m 19),.s 176 (.m 20),.s 177 (.bin .sub none 175 176),.s 24 (.m 177)] [0,1,2,3,4,18,20,24]) (.q (.q (.r [.s 178 (.m 20),.s 179 (.m 2),.s 180 (.bin .lss none 178 179),.s 181 (.m 180),.g 182 (.m 2) 181 true,.g 183 (.m 24) 181 true,.g 184 (.bin .lss none 182 183) 181 true,.s 185 (.pick 181 184 .ff)] [0,1,2,3,4,18,20,24,185]) (.cnd 185 (.r [.s 186 (.m 0),.s 187 (.m 20),.s 188 (.m 2),.s 189 (.m 24),.s 190 (.m 4),.s 191 (.call 201 [186,187,188,189,190])] [0,1,3,4,18,20,24]) .skip)) (.q (.q (.r [.s 192 (.m 1),.s 193 (.m 20),.s 194 (.bin .lss none 192 193),.s 195 (.m 194),.g 196 (.m 20) 195 true,.g 197 (.m 18) 195 true,.g 198 (.bin .lss none 196 197) 195 true,.s 199 (.pick 195 198 .ff)] [0,1,3,4,18,20,24,199]) (.cnd 199 (.r [.s 200 (.m 0),.s 201 (.m 1),.s 202 (.m 20),.s 203 (.m 18),.s 204 (.m 4),.s 205 (.call 181 [200,201,202,203,204])] [0,3,4,18,24]) .skip)) (.q (.r [.s 206 (.m 18),.s 207 (.m 24),.s 208 (.bin .lss none 206 207),.s 209 (.m 208),.g 210 (.m 24) 209 true,.g 211 (.m 3) 209 true,.g 212 (.bin .lss none 210 211) 209 true,.s 213 (.pick 209 212 .ff)] [0,3,4,18,24,213]) (.cnd 213 (.r [.s 214 (.m 0),.s 215 (.m 18),.s 216 (.m 24),.s 217 (.m 3),.s 218 (.m 4),.s 219 (.call 181 [214,215,216,217,218])] []) .skip))))))))))))),[]⟩
/-- strings.HasPrefix -/
def F185 : DF := ⟨2,(.q (.r [.s 4 (.mv .ff)] [0,1]) (.q (.r [.s 5 (.m 0),.s 6 (.m 1),.s 7 (.call 204 [5,6]),.s 4 (.m 7)] [4]) .ret)),[.tmp 4]⟩
/-- strings.TrimPrefix -/
def F186 : DF := ⟨2,
(.seq
(.reg [
.s 4 (.mv (.c (.str [])))] [0,1])
(.seq
(.reg [
.s 5 (.m 0),
.s 6 (.m 1),
.s 7 (.call 205 [(.t 5),(.t 6)]),
.s 4 (.m 7)] [4])
.ret)),
[.tmp 4]⟩

/-- emend/num.digit -/
def F195 : DF := ⟨1,
(.seq
(.reg [
.s 2 (.mv .ff)] [0])
(.seq
(.reg [
.s 3 (.m 0),
.s 4 (.bin .geq none (.t 3) (.u 48)),
.s 5 (.m 4),
.g 6 (.m 0) 5 true,
.g 7 (.bin .leq none (.t 6) (.u 57)) 5 true,
.s 8 (.pick (.t 5) (.t 7) .ff),
.s 2 (.m 8)] [2])
.ret)),
[.tmp 2]⟩

/-- internal/stringslite.HasSuffix -/
def F197 : DF := ⟨2,(.q (.r [.s 4 (.mv .ff)] [0,1]) (.q (.r [.s 5 (.m 0),.s 6 (.lenS 5),.s 7 (.m 1),.s 8 (.lenS 7),.s 9 (.bin .geq none 6 8),.s 10 (.m 9),.g 11 (.m 0) 10 true,.g 12 (.m 0) 10 true,.g 13 (.lenS 12) 10 true,.g 14 (.m 1) 10 true,.g 15 (.lenS 14) 10 true,.g 16 (.bin .sub none 13 15) 10 true,.g 17 (.slS 11 (some 16) none) 10 true,.g 18 (.m 1) 10 true,.g 19 (.bin .eql (some .str) 17 18) 10 true,.s 20 (.pick 10 19 .ff),.s 4 (.m 20)] [4]) .ret)),[.tmp 4]⟩
/-- internal/stringslite.Index -/
def F198 : DF := ⟨2,(.q (.r [.s 4 (.mv (.k 0))] [0,1]) (.q (.r [.s 14 (.m 1),.s 15 (.lenS 14),.s 5 (.m 15)] [0,1,5]) (.q (.blk 0 (.q (.r [.s 17 (.m 5),.s 18 (.bin .eql (some .int) 17 (.k 0)),.s 19 (.m 18),.g 20 (.m 1) 19 false,.g 21 (.m 0) 19 false,.g 22 (.bin .eql (some .str) 20 21) 19 false,.s 23 (.pick 19 .tt 22),.s 16 (.m 23)] [0,1,5,16]) (.cnd 16 (.q (.r [.s 4 (.mv (.k 0))] [4]) .ret) (.q (.r [.s 25 (.m 5),.s 26 (.bin .eql (some .int) 25 (.k 1)),.s 24 (.m 26)] [0,1,5,24]) (.cnd 24 (.q (.r [.s 27 (.m 0),.s 28 (.m 1),.s 29 (.ixS 28 (.k 0)),.s 30 (.call 213 [27,29]),.s 4 (.m 30)] [4]) .ret) (.q (.r [.s 32 (.m 5),.s 33 (.m 0),.s 34 (.lenS 33),.s 35 (.bin .geq none 32 34),.s 31 (.m 35)] [0,1,5,31]) (.cnd 31 (.q (.r [.s 4 (.mv (.k (-1)))] [4]) .ret) (.q (.r [.s 37 (.m 5),.s 38 (.ld false 1 (.g 1)),.s 39 (.bin .leq none 37 38),.s 40 (.m 39),.g 41 (.m 0) 40 true,.g 42 (.lenS 41) 40 true,.g 43 (.bin .leq none 42 (.k 64)) 40 true,.s 44 (.pick 40 43 .ff),.s 36 (.m 44)] [0,1,5,36]) (.cnd 36 (.q .fail .ret) .skip))))))))) (.q (.r [.s 48 (.m 1),.s 49 (.ixS 48 (.k 0)),.s 6 (.m 49)] [0,1,5,6]) (.q (.r [.s 50 (.m 1),.s 51 (.ixS 50 (.k 1)),.s 7 (.m 51)] [0,1,5,6,7]) (.q (.r [.s 8 (.mv (.k 0))] [0,1,5,6,7,8]) (.q (.r [.s 52 (.m 0),.s 53 (.lenS 52),.s 54 (.m 5),.s 55 (.bin .sub none 53 54),.s 56 (.bin .add none 55 (.k 1)),.s 9 (.m 56)] [0,1,5,6,7,8,9]) (.q (.r [.s 10 (.mv (.k 0))] [0,1,5,6,7,8,9,10]) (.q (.blk 1 (.q (.trim [0,1,5,6,7,8,9,10]) (.lop (.q (.q (.q (.r [.s 57 (.m 8),.s 58 (.m 9),.s 59 (.bin .lss none 57 58)] [0,1,5,6,7,8,9,10,59]) (.cnd 59 .skip (.exit 1))) (.blk 2 (.q (.q (.r [.s 60 (.m 0),.s 61 (.m 8),.s 62 (.ixS 60 61),.s 63 (.m 6),.s 64 (.bin .neq (some .int) 62 63)] [0,1,5,6,7,8,9,10,64]) (.cnd 64 (.q (.r [.s 65 (.m 0),.s 66 (.m 8),.s 67 (.bin .add none 66 (.k 1)),.s 68 (.m 9),.s 69 (.slS 65 (some 67) (some 68)),.s 70 (.m 6),.s 71 (.call 213 [69,70]),.s 11 (.m 71)] [0,1,5,6,7,8,9,10,11]) (.q (.q (.r [.s 72 (.m 11),.s 73 (.bin .lss none 72 (.k 0))] [0,1,5,6,7,8,9,10,11,73]) (.cnd 73 (.q (.r [.s 4 (.mv (.k (-1)))] [4]) .ret) .skip)) (.r [.s 74 (.m 8),.s 75 (.m 11),.s 76 (.bin .add none 75 (.k 1)),.s 77 (.bin .add none 74 76),.s 8 (.m 77)] [0,1,5,6,7,8,9,10]))) .skip)) (.q (.q (.r [.s 78 (.m 0),.s 79 (.m 8),.s 80 (.bin .add none 79 (.k 1)),.s 81 (.ixS 78 80),.s 82 (.m 7),.s 83 (.bin .eql (some .int) 81 82),.s 84 (.m 83),.g 85 (.m 0) 84 true,.g 86 (.m 8) 84 true,.g 87 (.m 8) 84 true,.g 88 (.m 5) 84 true,.g 89 (.bin .add none 87 88) 84 true,.g 90 (.slS 85 (some 86) (some 89)) 84 true,.g 91 (.m 1) 84 true,.g 92 (.bin .eql (some .str) 90 91) 84 true,.s 93 (.pick 84 92 .ff)] [0,1,5,6,7,8,9,10,93]) (.cnd 93 (.q (.r [.s 94 (.m 8),.s 4 (.m 94)] [4]) .ret) .skip)) (.q (.r [.s 95 (.m 8),.s 96 (.bin .add none 95 (.k 1)),.s 8 (.m 96)] [0,1,5,6,7,8,9,10]) (.q (.r [.s 97 (.m 10),.s 98 (.bin .add none 97 (.k 1)),.s 10 (.m 98)] [0,1,5,6,7,8,9,10]) (.q (.r [.s 99 (.m 5),.s 100 (.ld false 1 (.g 1)),.s 101 (.bin .leq none 99 100),.s 102 (.m 101),.g 103 (.m 10) 102 true,.g 104 (.m 8) 102 true,.g 105 (.call 215 [104]) 102 true,.g 106 (.bin .gtr none 103 105) 102 true,.s 107 (.pick 102 106 .ff)] [0,1,5,6,7,8,9,10,107]) (.cnd 107 (.q .fail (.q (.q (.r [.s 113 (.m 12),.s 114 (.bin .geq none 113 (.k 0))] [8,12,114]) (.cnd 114 (.q (.r [.s 115 (.m 12),.s 116 (.m 8),.s 117 (.bin .add none 115 116),.s 4 (.m 117)] [4]) .ret) .skip)) (.q (.r [.s 4 (.mv (.k (-1)))] [4]) .ret))) (.q (.r [.s 118 (.m 5),.s 119 (.ld false 1 (.g 1)),.s 120 (.bin .gtr none 118 119),.s 121 (.m 120),.g 122 (.m 10) 121 true,.g 123 (.m 8) 121 true,.g 124 (.bin .shr none 123 (.c (.int .u64 4))) 121 true,.g 125 (.bin .add none (.k 4) 124) 121 true,.g 126 (.bin .geq none 122 125) 121 true,.s 127 (.pick 121 126 .ff),.s 128 (.m 127),.g 129 (.m 8) 128 true,.g 130 (.m 9) 128 true,.g 131 (.bin .lss none 129 130) 128 true,.s 132 (.pick 128 131 .ff)] [0,1,5,6,7,8,9,10,132]) (.cnd 132 (.q (.r [.s 133 (.m 0),.s 134 (.m 8),.s 135 (.slS 133 (some 134) none),.s 136 (.m 1),.s 137 (.call 216 [135,136]),.s 13 (.m 137)] [8,13]) (.q (.q (.r [.s 138 (.m 13),.s 139 (.bin .lss none 138 (.k 0))] [8,13,139]) (.cnd 139 (.q (.r [.s 4 (.mv (.k (-1)))] [4]) .ret) .skip)) (.q (.r [.s 140 (.m 8),.s 141 (.m 13),.s 142 (.bin .add none 140 141),.s 4 (.m 142)] [4]) .ret))) .skip)))))))))) (.trim [0,1,5,6,7,8,9,10]))))) (.q (.r [.s 4 (.mv (.k (-1)))] [4]) .ret)))))))))),[.tmp 4]⟩
/-- emend/text.pair -/
def F199 : DF := ⟨1,(.q (.r [.s 2 (.mv (.k 0)),.s 3 (.mv (.k 0))] [0]) (.q (.r [.s 6 (.m 0),.s 7 (.slS 6 (some (.k 1)) none),.s 8 (.call 217 [7,(.k 4)]),.s 4 (.m 8)] [0,4]) (.q (.q (.r [.s 9 (.m 4),.s 10 (.bin .lss none 9 (.k 55296)),.s 11 (.m 10),.g 12 (.m 4) 11 false,.g 13 (.bin .gtr none 12 (.k 57343)) 11 false,.s 14 (.pick 11 .tt 13)] [0,4,14]) (.cnd 14 (.q (.q (.r [.s 15 (.m 4),.s 16 (.bin .lss none 15 (.k 0))] [4,16]) (.cnd 16 (.q (.r [.s 2 (.mv (.k 0)),.s 3 (.mv (.k 0))] [2,3]) .ret) .skip)) (.q (.r [.s 17 (.m 4),.s 2 (.m 17),.s 3 (.mv (.k 5))] [2,3]) .ret)) .skip)) (.q (.q (.r [.s 18 (.m 4),.s 19 (.bin .geq none 18 (.k 56320)),.s 20 (.m 19),.g 21 (.m 0) 20 false,.g 22 (.slS 21 (some (.k 5)) none) 20 false,.g 23 (.call 185 [22,(.c (.str [92,117]))]) 20 false,.g 24 (.un .not 23) 20 false,.s 25 (.pick 20 .tt 24)] [0,4,25]) (.cnd 25 (.q (.r [.s 2 (.mv (.k 0)),.s 3 (.mv (.k 0))] [2,3]) .ret) .skip)) (.q (.r [.s 26 (.m 0),.s 27 (.slS 26 (some (.k 7)) none),.s 28 (.call 217 [27,(.k 4)]),.s 5 (.m 28)] [4,5]) (.q (.q (.r [.s 29 (.m 5),.s 30 (.bin .lss none 29 (.k 56320)),.s 31 (.m 30),.g 32 (.m 5) 31 false,.g 33 (.bin .gtr none 32 (.k 57343)) 31 false,.s 34 (.pick 31 .tt 33)] [4,5,34]) (.cnd 34 (.q (.r [.s 2 (.mv (.k 0)),.s 3 (.mv (.k 0))] [2,3]) .ret) .skip)) (.q (.r [.s 35 (.m 4),.s 36 (.bin .sub none 35 (.k 55296)),.s 37 (.bin .shl none 36 (.c (.int .u64 10))),.s 38 (.bin .add none (.k 65536) 37),.s 39 (.m 5),.s 40 (.bin .add none 38 39),.s 41 (.bin .sub none 40 (.k 56320)),.s 2 (.m 41),.s 3 (.mv (.k 11))] [2,3]) .ret))))))),[.tmp 2,.tmp 3]⟩
/-- emend/text.put$1 -/
def F200 : DF := ⟨2,(.q (.r [.s 3 (.mv (.u 0))] [0,1]) (.q (.r [.s 4 (.l 1),.s 5 (.m 0),.s 6 (.bin .shr none 4 5),.s 7 (.bin .and none 6 (.k 63)),.s 8 (.bin .or none (.k 128) 7),.s 9 (.cvI .u8 8),.s 3 (.m 9)] [3]) .ret)),[.tmp 3]⟩
/-- slices.rotateCmpFunc[int] -/
def F201 : DF := ⟨5,(.q (.r [.s 12 (.m 2),.s 13 (.m 1),.s 14 (.bin .sub none 12 13),.s 10 (.m 14)] [0,2,3,4,10]) (.q (.r [.s 15 (.m 3),.s 16 (.m 2),.s 17 (.bin .sub none 15 16),.s 11 (.m 17)] [0,2,4,10,11]) (.q (.blk 0 (.q (.trim [0,2,4,10,11]) (.lop (.q (.q (.q (.r [.s 18 (.m 10),.s 19 (.m 11),.s 20 (.bin .neq (some .int) 18 19)] [0,2,4,10,11,20]) (.cnd 20 .skip (.exit 0))) (.blk 1 (.q (.r [.s 21 (.m 10),.s 22 (.m 11),.s 23 (.bin .gtr none 21 22)] [0,2,4,10,11,23]) (.cnd 23 (.q (.r [.s 24 (.m 0),.s 25 (.m 2),.s 26 (.m 10),.s 27 (.bin .sub none 25 26),.s 28 (.m 2),.s 29 (.m 11),.s 30 (.m 4),.s 31 (.call 218 [24,27,28,29,30])] [0,2,4,10,11]) (.r [.s 32 (.m 10),.s 33 (.m 11),.s 34 (.bin .sub none 32 33),.s 10 (.m 34)] [0,2,4,10,11])) (.q (.r [.s 35 (.m 0),.s 36 (.m 2),.s 37 (.m 10),.s 38 (.bin .sub none 36 37),.s 39 (.m 2),.s 40 (.m 11),.s 41 (.bin .add none 39 40),.s 42 (.m 10),.s 43 (.bin .sub none 41 42),.s 44 (.m 10),.s 45 (.m 4),.s 46 (.call 218 [35,38,43,44,45])] [0,2,4,10,11]) (.r [.s 47 (.m 11),.s 48 (.m 10),.s 49 (.bin .sub none 47 48),.s 11 (.m 49)] [0,2,4,10,11])))))) (.trim [0,2,4,10,11]))))) (.r [.s 50 (.m 0),.s 51 (.m 2),.s 52 (.m 10),.s 53 (.bin .sub none 51 52),.s 54 (.m 2),.s 55 (.m 10),.s 56 (.m 4),.s 57 (.call 218 [50,53,54,55,56])] [])))),[]⟩
/-- internal/stringslite.HasPrefix -/
def F204 : DF := ⟨2,(.q (.r [.s 4 (.mv .ff)] [0,1]) (.q (.r [.s 5 (.m 0),.s 6 (.lenS 5),.s 7 (.m 1),.s 8 (.lenS 7),.s 9 (.bin .geq none 6 8),.s 10 (.m 9),.g 11 (.m 0) 10 true,.g 12 (.m 1) 10 true,.g 13 (.lenS 12) 10 true,.g 14 (.slS 11 none (some 13)) 10 true,.g 15 (.m 1) 10 true,.g 16 (.bin .eql (some .str) 14 15) 10 true,.s 17 (.pick 10 16 .ff),.s 4 (.m 17)] [4]) .ret)),[.tmp 4]⟩
/-- internal/stringslite.TrimPrefix -/
def F205 : DF := ⟨2,
(.seq
(.reg [
.s 4 (.mv (.c (.str [])))] [0,1])
(.seq
(.seq
(.reg [
.s 5 (.m 0),
.s 6 (.m 1),
.s 7 (.call 204 [(.t 5),(.t 6)])] [0,1,7])
(.cnd (.t 7)
(.seq
(.reg [
.s 8 (.m 0),
.s 9 (.m 1),
.s 10 (.lenS (.t 9)),
.s 11 (.slS (.t 8) (some (.t 10)) none),
.s 4 (.m 11)] [4])
.ret)
.skip))
(.seq
(.reg [
.s 12 (.m 0),
.s 4 (.m 12)] [4])
.ret))),
[.tmp 4]⟩

/-- internal/stringslite.IndexByte -/
def F213 : DF := ⟨2,
(.seq
(.reg [
.s 4 (.mv (.k 0))] [0,1])
(.seq
(.reg [
.s 5 (.m 0),
.s 6 (.m 1),
.s 7 (.xtn .indexByte [(.t 5),(.t 6)]),
.s 4 (.m 7)] [4])
.ret)),
[.tmp 4]⟩

/-- emend/text.Hex -/
def F217 : DF := ⟨2,(.q (.r [.s 4 (.mv (.k 0))] [0,1]) (.q (.q (.r [.s 8 (.m 0),.s 9 (.lenS 8),.s 10 (.m 1),.s 11 (.bin .lss none 9 10)] [0,1,11]) (.cnd 11 (.q (.r [.s 4 (.mv (.k (-1)))] [4]) .ret) .skip)) (.q (.r [.s 5 (.mv (.k 0))] [0,1,5]) (.q (.q (.r [.s 12 (.m 1),.s 13 (.mv (.k 0))] [0,5,12,13]) (.blk 0 (.q (.trim [0,5,12,13]) (.lop (.q (.q (.r [.s 14 (.bin .lss none 13 12)] [0,5,12,13,14]) (.q (.cnd 14 .skip (.exit 0)) (.q (.blk 1 (.q (.r [.s 15 (.m 13),.s 6 (.m 15)] [0,5,6,12,13]) (.q (.r [.s 16 (.m 0),.s 17 (.m 6),.s 18 (.ixS 16 17),.s 19 (.call 234 [18]),.s 7 (.m 19)] [0,5,7,12,13]) (.q (.q (.r [.s 20 (.m 7),.s 21 (.bin .lss none 20 (.k 0))] [0,5,7,12,13,21]) (.cnd 21 (.q (.r [.s 4 (.mv (.k (-1)))] [4]) .ret) .skip)) (.r [.s 22 (.m 5),.s 23 (.bin .shl none 22 (.c (.int .u64 4))),.s 24 (.m 7),.s 25 (.bin .or none 23 24),.s 5 (.m 25)] [0,5,12,13]))))) (.r [.s 26 (.bin .add none 13 (.k 1)),.s 13 (.m 26)] [0,5,12,13])))) (.trim [0,5,12,13])))))) (.q (.r [.s 27 (.m 5),.s 4 (.m 27)] [4]) .ret))))),[.tmp 4]⟩
/-- slices.swapRangeCmpFunc[int] -/
def F218 : DF := ⟨5,
(.seq
(.reg [
.s 10 (.mv (.k 0))] [0,1,2,3,10])
(.blk 0
(.seq
(.trim [0,1,2,3,10])
(.lop
(.seq
(.seq
(.seq
(.reg [
.s 11 (.m 10),
.s 12 (.m 3),
.s 13 (.bin .lss none (.t 11) (.t 12))] [0,1,2,3,10,13])
(.cnd (.t 13)
.skip
(.exit 0)))
(.seq
(.blk 1
(.drw [
((.s 16 (.m 0),none),[]),
((.s 17 (.m 1),none),[]),
((.s 18 (.m 10),none),[]),
((.s 19 (.bin .add none (.t 17) (.t 18)),none),[]),
((.s 20 (.m 0),none),[]),
((.s 21 (.m 2),none),[]),
((.s 22 (.m 10),none),[]),
((.s 23 (.bin .add none (.t 21) (.t 22)),none),[]),
((.s 24 (.m 0),none),[]),
((.s 25 (.m 2),none),[]),
((.s 26 (.m 10),none),[]),
((.s 27 (.bin .add none (.t 25) (.t 26)),none),[]),
((.s 28 (.ia 1 (.t 24) (.t 27)),none),[]),
((.s 29 (.l 28),none),[]),
((.s 30 (.m 0),none),[]),
((.s 31 (.m 1),none),[]),
((.s 32 (.m 10),none),[]),
((.s 33 (.bin .add none (.t 31) (.t 32)),none),[]),
((.s 34 (.ia 1 (.t 30) (.t 33)),none),[]),
((.s 35 (.l 34),none),[]),
((.s 36 (.ia 1 (.t 16) (.t 19)),none),[]),
((.n (.st 1 (.t 36) (.t 29)),none),[]),
((.s 37 (.ia 1 (.t 20) (.t 23)),none),[]),
((.n (.st 1 (.t 37) (.t 35)),none),[])] [0,1,2,3,10]))
(.reg [
.s 14 (.m 10),
.s 15 (.bin .add none (.t 14) (.k 1)),
.s 10 (.m 15)] [0,1,2,3,10])))
(.trim [0,1,2,3,10])))))),
[]⟩

/-- emend/text.value -/
def F234 : DF := ⟨1,
(.seq
(.reg [
.s 2 (.mv (.k 0))] [0])
(.seq
(.blk 0
(.seq
(.reg [
.s 4 (.m 0),
.s 5 (.bin .geq none (.t 4) (.u 48)),
.s 6 (.m 5),
.g 7 (.m 0) 6 true,
.g 8 (.bin .leq none (.t 7) (.u 57)) 6 true,
.s 9 (.pick (.t 6) (.t 8) .ff),
.s 3 (.m 9)] [0,3])
(.cnd (.t 3)
(.seq
(.reg [
.s 10 (.m 0),
.s 11 (.bin .sub none (.t 10) (.u 48)),
.s 12 (.cvI .i64 (.t 11)),
.s 2 (.m 12)] [2])
.ret)
(.seq
(.reg [
.s 14 (.m 0),
.s 15 (.bin .geq none (.t 14) (.u 97)),
.s 16 (.m 15),
.g 17 (.m 0) 16 true,
.g 18 (.bin .leq none (.t 17) (.u 102)) 16 true,
.s 19 (.pick (.t 16) (.t 18) .ff),
.s 13 (.m 19)] [0,13])
(.cnd (.t 13)
(.seq
(.reg [
.s 20 (.m 0),
.s 21 (.bin .sub none (.t 20) (.u 97)),
.s 22 (.cvI .i64 (.t 21)),
.s 23 (.bin .add none (.t 22) (.k 10)),
.s 2 (.m 23)] [2])
.ret)
(.seq
(.reg [
.s 25 (.m 0),
.s 26 (.bin .geq none (.t 25) (.u 65)),
.s 27 (.m 26),
.g 28 (.m 0) 27 true,
.g 29 (.bin .leq none (.t 28) (.u 70)) 27 true,
.s 30 (.pick (.t 27) (.t 29) .ff),
.s 24 (.m 30)] [0,24])
(.cnd (.t 24)
(.seq
(.reg [
.s 31 (.m 0),
.s 32 (.bin .sub none (.t 31) (.u 65)),
.s 33 (.cvI .i64 (.t 32)),
.s 34 (.bin .add none (.t 33) (.k 10)),
.s 2 (.m 34)] [2])
.ret)
.skip)))))))
(.seq
(.reg [
.s 2 (.mv (.k (-1)))] [2])
.ret))),
[.tmp 2]⟩

end Go.Proofs.C1

namespace Go.Dn
open Go Go.RowKit
section
variable {gt:GT}{C:CallT}
theorem afterS_imp (hm:MonoC C){dst:Option Nat}{env:Env}{S:St}{K K':Env->St->Prop}{Q Q':Ex->Env->St->Prop}{r:SR}(hk:∀e S,K e S->K' e S)(hq:∀x e S,Q x e S->Q' x e S)(h:afterS C dst env S K Q r):afterS C dst env S K' Q' r:=by
 cases r with
 | fail=>exact h
 | done e s=>exact hk _ _ h
 | pan v=>exact hq _ _ _ h
 | call f xs =>
  refine hm _ _ _ _ _ h λr S' hr=>?_;cases r with
  | ret v=>exact hk _ _ hr
  | pan v=>exact hq _ _ _ hr
theorem wpIs_imp (hm:MonoC C):∀(is:List DI) {env:Env} {S:St} {Q Q':Ex->Env->St->Prop},(∀x e S,Q x e S->Q' x e S)->wpIs gt C is env S Q->wpIs gt C is env S Q'
 | [],_,_,_,_,hq,h=>hq _ _ _ h
 | _::r,_,_,_,_,hq,h=>afterS_imp hm (λ_ _ h=>wpIs_imp hm r hq h) hq h
theorem wpDs_imp (hm:MonoC C):∀(is:List DRow) {env:Env} {S:St} {Q Q':Ex->Env->St->Prop},(∀x e S,Q x e S->Q' x e S)->wpDs gt C is env S Q->wpDs gt C is env S Q'
 | [],_,_,_,_,hq,h=>hq _ _ _ h
 | _::r,_,_,_,_,hq,h=>afterS_imp hm (λ_ _ h=>⟨h.1,wpDs_imp hm r hq h.2⟩) hq h
theorem wpD_imp (hm:MonoC C):∀(c:DC) {env:Env} {S:St} {Q Q':Ex->Env->St->Prop},(∀x e S,Q x e S->Q' x e S)->wpD gt C c env S Q->wpD gt C c env S Q'
 |.skip,_,_,_,_,hq,h=>hq _ _ _ h
 |.reg is keep,_,_,_,_,hq,h=>wpIs_imp hm is (λ_ _ _ h=>hq _ _ _ h) h
 |.drw is keep,_,_,_,_,hq,h=>wpDs_imp hm is (λ_ _ _ h=>hq _ _ _ h) h
 |.trim keep,_,_,_,_,hq,h=>hq _ _ _ h
 |.fail,_,_,_,_,_,h=>h
 |.ndet is keep,env,S,Q,Q',hq,h=>by
  simp only[wpD]at h ⊢;split at h
  ·exact afterS_imp hm (λ_ _ h=>⟨wpIs_imp hm _ (λ_ _ _ h=>hq _ _ _ h) h.1,wpIs_imp hm _ (λ_ _ _ h=>hq _ _ _ h) h.2⟩) (λ_ _ _ h=>hq _ _ _ h) h
  ·exact h.elim
 |.seq a b,_,_,_,_,hq,h=>wpD_imp hm a (λx e S h=>by
   cases x with
   | normal=>exact wpD_imp hm b hq h
   | _=>exact hq _ _ _ h) h
 |.cnd x a b,env,S,Q,Q',hq,h=>by
  simp only[wpD]at h ⊢;split at h
  ·rename_i t ht;split at h
   ·rename_i e;rw[if_pos e];exact wpD_imp hm a hq h
   ·rename_i e;rw[if_neg e];exact wpD_imp hm b hq h
  ·exact h.elim
 |.blk id c,_,_,_,_,hq,h=>wpD_imp hm c (λx e S h=>by
   cases x with
   | exit id' =>
    simp only at h ⊢;by_cases e:id'=id
    ·rw[if_pos e]at h ⊢;exact hq _ _ _ h
    ·rw[if_neg e]at h ⊢;exact hq _ _ _ h
   | _=>exact hq _ _ _ h) h
 |.lop c,env,S,Q,Q',hq,h=>by
  obtain⟨n,h⟩:=h;refine⟨n,?_⟩
  revert env S
  induction n with
  | zero=>intro env S h;exact h
  | succ n ih =>
   intro env S h;exact wpD_imp hm c (λx e S h=>by
    cases x with
    | normal=>exact ih _ _ h
    | _=>exact hq _ _ _ h) h
 |.exit id,_,_,_,_,hq,h=>hq _ _ _ h
 |.ret,_,_,_,_,hq,h=>hq _ _ _ h
theorem loop_rule (hm:MonoC C){c:DC}{Q:Ex->Env->St->Prop}{α:Type}(I:α->Env->St->Prop)(μ:α->Nat)
  (step:∀a env S,I a env S->wpD gt C c env S λe env' S'=>match e with
   |.normal=>∃b,I b env' S'/\μ b<μ a
   | e=>Q e env' S')
  {a:α} {env:Env} {S:St} (h:I a env S):∃n,iterD (wpD gt C c) n env S Q:=by
 have key:∀m a env S,μ a<=m->I a env S->iterD (wpD gt C c) (m+1) env S Q:=by
  intro m
  induction m with
  | zero =>
   intro a env S hm0 hI;refine wpD_imp hm c (λx e S h=>?_) (step a env S hI);cases x with
   | normal=>obtain⟨b,_,hb⟩:=h;omega
   | _=>exact h
  | succ m ih =>
   intro a env S hm0 hI;refine wpD_imp hm c (λx e S h=>?_) (step a env S hI);cases x with
   | normal=>obtain⟨b,h1,hb⟩:=h;exact ih b e S (by omega) h1
   | _=>exact h
 exact⟨_,key (μ a) a env S (nR _) h⟩
theorem step_rule {i:DI}{env env':Env}{S S':St}{K:Env->St->Prop}{Q:Ex->Env->St->Prop}(h:stepI gt i env S=.done env' S')(k:K env' S'):afterS C i.dst env S K Q (stepI gt i env S):=by
 rw[h];exact k
def Gd (env:Env)(gd:Option (Nat×Bool)):Prop:=match gd with
 | none=>True
 | some (g,w)=>lk env g=some (.val (.bool w))
theorem st_gd {d:Option Nat}{op:DOp}{gd:Option (Nat×Bool)}{env:Env}{S:St}(hg:Gd env gd):stepI gt ⟨d,op,gd⟩ env S=stepO gt d env S op:=by
 cases gd with
 | none=>rfl
 | some p =>
  obtain⟨g,w⟩:=p;have hg:lk env g=some (.val (.bool w)):=hg;simp only[stepI,hg,beq_self_eq_true,cond_true]
theorem call_rule {i:DI}{env:Env}{S:St}{K:Env->St->Prop}{Q:Ex->Env->St->Prop}{f:FuncId}{xs:List AV}(h:stepI gt i env S=.call f xs)(k:C f xs S λr S'=>match r with
  |.ret v=>K (putV i.dst v env) S'
  |.pan v=>Q (.pan v) env S'):afterS C i.dst env S K Q (stepI gt i env S):=by
 rw[h];exact k
end
section
variable {P:Program}{gt:GT}
end

def fieldsAt (P:Program):List Field->Nat->Option Nat
 | [],n=>some n
 | f::r,n=>if f.offset=n then fieldsAt P r (n+P.cellsOf f.type) else none
def okType (P:Program)(L:List TypeId)(t:TypeId):Bool :=
 match P.underlying t with
 | some .bool | some (.int _) | some .string=>true
 | some (.slice e)=>L.any (Nat.beq e) && Nat.blt 0 (P.cellsOf e)
 | some (.struct fs)=>(fs.toList.all λf=>L.any (Nat.beq f.type)) && decide (fieldsAt P fs.toList 0=some (P.cellsOf t))
 | _=>false
def okTypes (P:Program)(L:List TypeId):Bool:=L.all (okType P L)
theorem mapM_get {α β:Type}{f:α->Option β}:∀{l:List α} {r:List β},l.mapM f=some r->r.length=l.length/\∀(i:Nat) x,l[i]? = some x->∃y,f x=some y/\r[i]? = some y
 | [],r,h=>by rw[mapM_some_nil h];exact⟨rfl,λi x hx=>by simp at hx⟩
 | a::l,r,h=>by
  obtain⟨y,r',h1,h2,rfl⟩:=mapM_some_cons h;obtain⟨g1,g2⟩:=mapM_get h2;refine⟨by simp[g1],λi x hx=>?_⟩;cases i with
  | zero=>simp at hx;subst hx;exact⟨y,h1,rfl⟩
  | succ i=>simpa using g2 i x (by simpa using hx)
theorem cells_get {w:World}{base:Nat}{a:Addr}{n:Nat}{cs:List Value}(h:w.cells? base a n=some cs):cs.length=n/\∀i,i<n->w.cell? (a.add i)=cs[i]?:=by
 unfold World.cells? at h;split at h
 ·obtain⟨h1,h2⟩:=mapM_get h;refine⟨by simpa using h1,λi hi=>?_⟩;obtain⟨y,g1,g2⟩:=h2 i i (by simp[hi]);rw[g1,g2]
 ·cases h
theorem Rat_of_get {S:St}{G:Gh}{w:World}{b es:Nat}:∀{ys:List AV} {off:Nat},(∀(i:Nat) y,ys[i]? = some y->∃v,Rv S G w y v/\v.cells.size=es/\∀j,j<es->w.cell? ⟨b,off+i*es+j,none⟩=v.cells[j]?)->Rat S G w b es ys off
 | [],_,_=>by simp only[Rat]
 | y::ys,off,h=>by
  simp only[Rat];refine⟨?_,Rat_of_get λi z hz=>?_⟩
  ·obtain⟨v,h1,h2,h3⟩:=h 0 y rfl;exact⟨v,h1,h2,λj hj=>by have:=h3 j hj;rwa [Nat.zero_mul,Nat.add_zero]at this⟩
  ·obtain⟨v,h1,h2,h3⟩:=h (i+1) z (by simpa using hz);exact⟨v,h1,h2,λj hj=>by rw[<-h3 j hj,show off+es+i*es+j=off+(i+1)*es+j by rw[Nat.add_mul];omega]⟩
theorem seq_ex {α:Type}{n:Nat}{R:Nat->α->Prop}(h:∀i,i<n->∃y,R i y):∃ys:List α,ys.length=n/\∀i y,ys[i]? = some y->R i y:=by
 induction n with
 | zero=>exact⟨[],rfl,λi y hy=>by simp at hy⟩
 | succ n ih =>
  obtain⟨ys,h1,h2⟩:=ih λi hi=>h i (by omega);obtain⟨y,hy⟩:=h n (by omega);refine⟨ys++[y],by simp[h1],λi z hz=>?_⟩;rcases Nat.lt_or_ge i ys.length with hi | hi
  ·rw[List.getElem?_append_left hi]at hz;exact h2 i z hz
  ·rw[List.getElem?_append_right hi]at hz;have:i=n:=by
    have:=(List.getElem?_eq_some_iff.1 hz).1;simp at this;omega
   subst this;rw[h1,Nat.sub_self]at hz;simp at hz;subst hz;exact hy
section
variable {P:Program}{W:World}{H:Type}{enc:TypeId×Value->H}
theorem any_mem {L:List TypeId}{t:TypeId}(h:L.any (Nat.beq t)=true):t∈L:=by
 obtain⟨x,hx,e⟩:=List.any_eq_true.1 h;rw[bE e];exact hx
end

/-! ### the store only grows -/

def Wf (S : St) : Prop := ∀ t, S.nt ≤ t → lk S.mv t = none ∧ lk S.dl t = none

/-! ### slices as lists -/

theorem cutAll_get {agg : Bool} {es : Nat} {cs : List AV} : ∀ {n start : Nat} {ys : List AV}, cutAll agg es cs start n = some ys → ∀ {i : Nat} {y : AV}, ys[i]? = some y → (cut cs (start + i * es) es).bind (mkv agg) = some y
  | 0, _, ys, h, i, y, hy => by simp only [cutAll, oI] at h; subst h; simp at hy
  | n + 1, start, ys, h, i, y, hy => by
    simp only [cutAll] at h
    split at h
    · rename_i x r h1 h2
      simp only [oI] at h
      subst h
      cases i with
      | zero => simp at hy; subst hy; simpa using h1
      | succ i =>
        have := cutAll_get h2 (i := i) (by simpa using hy)
        rwa [show start + (i + 1) * es = start + es + i * es by rw [Nat.add_mul]; omega]
    · cases h

theorem mkv_cells' {agg : Bool} {cs : List AV} {y : AV} (h : mkv agg cs = some y) : y.cells = cs := by
  unfold mkv at h
  cases agg with
  | true => simp only [cond_true, oI] at h; subst h; rfl
  | false =>
    simp only [cond_false] at h
    split at h
    · rename_i c
      cases hn : notAgg c with
      | false => rw [hn] at h; cases h
      | true =>
        rw [hn] at h
        simp only [cond_true, oI] at h
        subst h
        cases c <;> first | rfl | cases hn
    · cases h

/-- an element's cells -/
theorem el_read {S : St} {agg : Bool} {es : Nat} {o : SI} {xs ys : List AV} (h : elems S agg es o xs = some ys) {i : Nat} {y : AV} (hy : ys[i]? = some y) : elCells S es o xs i = some y.cells := by
  unfold elems at h
  unfold elCells
  split at h
  · rename_i hr
    cases h
    simp [hy]
  · rename_i b boff hr
    split at h
    · rename_i ty cs hb
      have := cutAll_get h hy
      obtain ⟨c, h1, h2⟩ := Option.bind_eq_some_iff.1 this
      rw [show boff + (o.off + i) * es = boff + o.off * es + i * es by rw [Nat.add_mul]; omega, h1, mkv_cells' h2]
    · cases h
  · cases h

/-! ### pure trees -/

inductive PT where
  | mk (k : Int) (s : List UInt8) (keys : List (List UInt8)) (kids : List PT)

mutual
def PT.n : PT → Nat
  | .mk _ _ _ kids => PT.ns kids + 1
def PT.ns : List PT → Nat
  | [] => 0
  | t :: r => PT.n t + PT.ns r
end

theorem PT.n_pos (t : PT) : 0 < t.n := by cases t; simp [PT.n]
theorem PT.ns_mem {t : PT} : ∀ {l : List PT}, t ∈ l → t.n ≤ PT.ns l
  | a :: r, h => by
    simp only [PT.ns]
    rcases List.mem_cons.1 h with rfl | h
    · omega
    · have := PT.ns_mem h; omega
theorem PT.ns_append : ∀ (a b : List PT), PT.ns (a ++ b) = PT.ns a + PT.ns b
  | [], b => by simp [PT.ns]
  | t :: r, b => by simp only [List.cons_append, PT.ns, PT.ns_append r b]; omega

def strs (l : List (List UInt8)) : List AV := l.map .str

variable {R B : Nat → Prop}

theorem strs_get {l : List (List UInt8)} {i : Nat} {s : List UInt8} (h : l[i]? = some s) : (strs l)[i]? = some (.str s) := by simp [strs, h]
theorem strs_length (l : List (List UInt8)) : (strs l).length = l.length := by simp [strs]
theorem strs_ok (l : List (List UInt8)) : ((strs l).flatMap AV.cells).all ok1 = true := by
  induction l with
  | nil => rfl
  | cons a r ih => simp [strs, AV.cells, ok1]

/-! ### slices that are being built -/

theorem ble_true {a b : Nat} (h : a ≤ b) : Nat.ble a b = true := Nat.ble_eq_true_of_le h

/-! ### rules for regions that draw -/
section
variable {gt : GT} {C : CallT}

theorem step_ruleD {i : DI × Option Nat} {env env' : Env} {S S' : St} {K : Env → St → Prop} {Q : Ex → Env → St → Prop} (h : stepD gt i env S = .done env' S') (k : K env' S') : afterS C i.1.dst env S K Q (stepD gt i env S) := by
  rw [h]; exact k

theorem step_ruleO {d : Option Nat} {op : DOp} {env env' : Env} {S S' : St} {K : Env → St → Prop} {Q : Ex → Env → St → Prop} (h : stepO gt d env S op = .done env' S') (k : K env' S') : afterS C d env S K Q (stepI gt ⟨d, op, none⟩ env S) := by
  show afterS C d env S K Q (stepO gt d env S op)
  rw [h]; exact k

theorem step_ruleDO {d : Option Nat} {op : DOp} {l : Option Nat} {env env' : Env} {S S' : St} {K : Env → St → Prop} {Q : Ex → Env → St → Prop} (h0 : isLoc op = false) (h1 : conform l env op = true) (h : stepO gt d env S op = .done env' S') (k : K env' S') : afterS C d env S K Q (stepD gt (⟨d, op, none⟩, l) env S) := by
  have : stepD gt (⟨d, op, none⟩, l) env S = stepO gt d env S op := by simp only [stepD, stepDO, h0, h1, cond_false, cond_true]
  rw [this, h]; exact k

theorem call_ruleD {i : DI × Option Nat} {env : Env} {S : St} {K : Env → St → Prop} {Q : Ex → Env → St → Prop} {f : FuncId} {xs : List AV} (h : stepD gt i env S = .call f xs) (k : C f xs S fun r S' => match r with
    | .ret v => K (putV i.1.dst v env) S'
    | .pan v => Q (.pan v) env S') : afterS C i.1.dst env S K Q (stepD gt i env S) := by
  rw [h]; exact k

theorem sx_ia {d : Option Nat} {es : Nat} {x i : DOpd} {env : Env} {S : St} {o : SI} {xs : List AV} {k : Nat} (hx : opd env x = some (.sl es o xs)) (hi : (opd env i).bind nat? = some k) (hk : k < xs.length) :
    stepO gt d env S (.ia es x i) = .done (putV d (.eptr es o xs k 0) env) S := by
  simp only [stepO, hx, hi, Nat.beq_refl, Bool.true_and, show Nat.blt k xs.length = true from Nat.ble_eq_true_of_le hk, cond_true]

theorem sx_ldEl {d : Option Nat} {es : Nat} {a : DOpd} {env : Env} {S : St} {o : SI} {xs ys : List AV} {agg : Bool} {k off : Nat} {y v : AV} {g : Bool} {sz : Nat} (ha : loc env a = some (.el es o xs k off)) (he : elems S agg es o xs = some ys) (hv : ys[k]? = some y) (hm : (cut y.cells off sz).bind (mkv g) = some v) :
    stepO gt d env S (.ld g sz a) = .done (putV d v env) S := by
  simp only [stepO, ha, ldL, ldC, el_read he hv]
  cases hc : cut y.cells off sz with
  | none => rw [hc] at hm; cases hm
  | some cs => rw [hc] at hm; simp only [Option.bind_some] at hm; simp only [hm, SR.val]
end

mutual
def PT.ok : PT → Prop
  | .mk _ _ keys kids => keys.length * 16 ≤ 140737488355328 ∧ kids.length * 72 ≤ 140737488355328 ∧ PT.oks kids
def PT.oks : List PT → Prop
  | [] => True
  | t :: r => PT.ok t ∧ PT.oks r
end

theorem PT.oks_get : ∀ {l : List PT} {i : Nat} {t : PT}, PT.oks l → l[i]? = some t → t.ok
  | [], i, t, _, h => by simp at h
  | a :: r, 0, t, h, e => by simp only [PT.oks] at h; simp at e; subst e; exact h.1
  | a :: r, i + 1, t, h, e => by simp only [PT.oks] at h; exact PT.oks_get h.2 (i := i) (by simpa using e)

theorem wr64 {n : Int} (h : -9223372036854775808 ≤ n) (h2 : n < 9223372036854775808) : wr .i64 n = n := by
  rw [wr_eq]
  refine inR_wrap ?_
  cases n with
  | ofNat m => simp only [inR]; exact Nat.ble_eq_true_of_le (by have : (m : Int) < 9223372036854775808 := h2; omega)
  | negSucc m => simp only [inR]; exact Nat.ble_eq_true_of_le (by have : -9223372036854775808 ≤ -((m : Int) + 1) := by rw [← Int.negSucc_eq]; exact h
                                                                  omega)

theorem wrNat {k : Nat} (h : k + 1 < 9223372036854775808) : wr .i64 ((k : Int) + 1) = ((k + 1 : Nat) : Int) := by
  rw [wr64 (by omega) (by omega)]; rfl

def stat:SI:=⟨none,0,none,false⟩
mutual
def Sta:AV→Prop
  |.sl _ o ys=>o=stat∧Stas ys
  |.agg us=>Stas us
  |.tup us=>Stas us
  |.ifc _ u=>Sta u
  |.fn _ fs cs=>Stas fs∧Stas cs
  |.ptr _ _=>False
  |.map _=>False
  |.eptr _ _ _ _ _=>False
  | _=>True
def Stas:List AV→Prop
  | []=>True
  | u::us=>Sta u∧Stas us
end
def flat1:AV→Bool
  |.bool _ |.int _ _ |.str _ |.nilp |.nilfn |.nilif |.nilmap |.undef=>true
  | _=>false
def Flat:AV→Prop
  |.tup us=>us.all flat1=true
  | u=>flat1 u=true
mutual
def Rdo (S:St):AV→AV→Prop
  |.sl es o ys,x=>o=stat∧∃o' xs agg zs,x=.sl es o' xs∧elems S agg es o' xs=some zs∧Rdos S ys zs
  |.agg us,x=>∃xs,x=.agg xs∧Rdos S us xs
  |.tup us,x=>∃xs,x=.tup xs∧Rdos S us xs
  |.ifc t u,x=>∃y,x=.ifc t y∧Rdo S u y
  |.fn f fs cs,x=>∃a b,x=.fn f a b∧Rdos S fs a∧Rdos S cs b
  |.ptr _ _,_=>False
  |.map _,_=>False
  |.eptr _ _ _ _ _,_=>False
  |.undef,x=>x=.undef
  |.bool b,x=>x=.bool b
  |.int k n,x=>x=.int k n
  |.str s,x=>x=.str s
  |.nilp,x=>x=.nilp
  |.gptr g o,x=>x=.gptr g o
  |.anyp,x=>x=.anyp
  |.nilfn,x=>x=.nilfn
  |.nilif,x=>x=.nilif
  |.nilmap,x=>x=.nilmap
  |.raw v,x=>x=.raw v
def Rdos (S:St):List AV→List AV→Prop
  | [],xs=>xs=[]
  | u::us,xs=>∃x r,xs=x::r∧Rdo S u x∧Rdos S us r
end
section
variable {S:St}
mutual
theorem Sta.rdo:∀u,Sta u→Rdo S u u
  |.sl es o ys,h=>by
    simp only [Sta] at h
    simp only [Rdo]
    refine⟨h.1,o,ys,true,ys,rfl,?_,Stas.rdos ys h.2⟩
    rw [h.1];rfl
  |.agg us,h=>by simp only [Sta] at h;simp only [Rdo];exact⟨us,rfl,Stas.rdos us h⟩
  |.tup us,h=>by simp only [Sta] at h;simp only [Rdo];exact⟨us,rfl,Stas.rdos us h⟩
  |.ifc t u,h=>by simp only [Sta] at h;simp only [Rdo];exact⟨u,rfl,Sta.rdo u h⟩
  |.fn f fs cs,h=>by simp only [Sta] at h;simp only [Rdo];exact⟨fs,cs,rfl,Stas.rdos fs h.1,Stas.rdos cs h.2⟩
  |.ptr _ _,h=>h.elim
  |.map _,h=>h.elim
  |.eptr _ _ _ _ _,h=>h.elim
  |.undef,_ |.bool _,_ |.int _ _,_ |.str _,_ |.nilp,_ |.gptr _ _,_ |.anyp,_ |.nilfn,_ |.nilif,_ |.nilmap,_ |.raw _,_=>by simp only [Rdo]
theorem Stas.rdos:∀us,Stas us→Rdos S us us
  | [],_=>by simp only [Rdos]
  | u::us,h=>by simp only [Stas] at h;simp only [Rdos];exact⟨u,us,rfl,Sta.rdo u h.1,Stas.rdos us h.2⟩
end
theorem Rdos.length:∀{us xs:List AV},Rdos S us xs→xs.length=us.length
  | [],xs,h=>by simp only [Rdos] at h;rw [h]
  | u::us,xs,h=>by simp only [Rdos] at h;obtain⟨x,r,rfl,_,k⟩:=h;simp [k.length]
theorem sta_sl {es:Nat} {ys:List AV} (h:Stas ys):Sta (.sl es stat ys):=by simp only [Sta];exact⟨trivial,h⟩
end
section
variable {P:Program} {gt:GT} {S1 S2:St} {G1 G2:Gh} {w:World}
mutual
theorem Rdo.rv (hI:Inv P gt S1 G1 w) (h1:∀b,G1.st b→G2.st b) (h2:∀b,b<w.heap.size→Own S1 G1 b→G2.st b):∀(u x:AV) (v:Value),Rdo S1 u x→Rv S1 G1 w x v→Rv S2 G2 w u v
  |.sl es o ys,x,v,hx,hv=>by
    simp only [Rdo] at hx
    obtain⟨rfl,o',xs,agg,zs,rfl,he,hz⟩:=hx
    simp only [Rv] at hv ⊢
    obtain⟨a,len,cap,rfl,hs,hr⟩:=hv
    obtain⟨e1,e2,us,e3,e4,e5⟩:=elems_sound hI he hs hr
    have hly:=hz.length
    refine⟨a,len,cap,rfl,⟨by rw [hs.1,←e1,hly],hs.2.1,⟨(fun h=>by cases h),(fun h=>by cases h)⟩,(fun c h=>by cases h),hs.2.2.2.2.1,fun p hp hc=>?_⟩,fun _ p hp=>?_⟩
    · obtain⟨g1,g2,g3,g4⟩:=hs.2.2.2.2.2 p hp hc
      refine⟨g1,g2,g3,?_⟩
      have hlt:p.block<w.heap.size:=by obtain⟨ty,k,hk,_⟩:=g3;exact shape_lt hk
      rw [rd_none rfl]
      simp only [stat]
      cases hrd:rd S1 o' with
      | here =>
        rw [hrd] at g4
        simp only at g4
        cases ht:o'.tok with
        | none=>rw [ht] at g4;exact h1 _ g4
        | some q =>
          obtain⟨t,l⟩:=q
          rw [ht] at g4
          exact h2 _ hlt (.inr (.inl ⟨t,g4.1,g4.2.2.1⟩))
      | box b off =>
        rw [hrd] at g4
        exact h2 _ hlt (.inl ⟨b,g4.1,g4.2.1.symm⟩)
      | no =>
        unfold elems at he
        rw [hrd] at he
        cases he
    · by_cases hc:0<cap
      · obtain⟨e6,e7⟩:=e5 p hp hc
        exact Rdos.rat hI h1 h2 ys zs p.block p.off es hz (Rat.ofCells e3 e2 e7)
      · have:ys=[]:=by
          apply List.length_eq_zero_iff.1
          have:=hs.1;have:=hs.2.1;omega
        subst this
        simp only [Rat]
  |.agg us,x,v,hx,hv=>by
    simp only [Rdo] at hx
    obtain⟨xs,rfl,hx⟩:=hx
    simp only [Rv] at hv ⊢
    obtain⟨vs,rfl,hv⟩:=hv
    exact⟨vs,rfl,Rdos.rl hI h1 h2 us xs vs hx hv⟩
  |.tup us,x,v,hx,hv=>by
    simp only [Rdo] at hx
    obtain⟨xs,rfl,hx⟩:=hx
    simp only [Rv] at hv ⊢
    obtain⟨vs,rfl,hv⟩:=hv
    exact⟨vs,rfl,Rdos.rl hI h1 h2 us xs vs hx hv⟩
  |.ifc t u,x,v,hx,hv=>by
    simp only [Rdo] at hx
    obtain⟨y,rfl,hx⟩:=hx
    simp only [Rv] at hv ⊢
    obtain⟨z,rfl,hv⟩:=hv
    exact⟨z,rfl,Rdo.rv hI h1 h2 u y z hx hv⟩
  |.fn f fs cs,x,v,hx,hv=>by
    simp only [Rdo] at hx
    obtain⟨a,b,rfl,hx,hx'⟩:=hx
    simp only [Rv] at hv ⊢
    obtain⟨va,vb,rfl,hv,hv'⟩:=hv
    exact⟨va,vb,rfl,Rdos.rl hI h1 h2 fs a va hx hv,Rdos.rl hI h1 h2 cs b vb hx' hv'⟩
  |.ptr _ _,_,_,hx,_=>by simp only [Rdo] at hx
  |.map _,_,_,hx,_=>by simp only [Rdo] at hx
  |.eptr _ _ _ _ _,_,_,hx,_=>by simp only [Rdo] at hx
  |.undef,x,_,hx,hv |.bool _,x,_,hx,hv |.int _ _,x,_,hx,hv |.str _,x,_,hx,hv |.nilp,x,_,hx,hv |.gptr _ _,x,_,hx,hv |.anyp,x,_,hx,hv |.nilfn,x,_,hx,hv |.nilif,x,_,hx,hv |.nilmap,x,_,hx,hv |.raw _,x,_,hx,hv=>by
    simp only [Rdo] at hx
    subst hx
    simp only [Rv] at hv ⊢
    exact hv
theorem Rdos.rl (hI:Inv P gt S1 G1 w) (h1:∀b,G1.st b→G2.st b) (h2:∀b,b<w.heap.size→Own S1 G1 b→G2.st b):∀(us xs:List AV) (vs:List Value),Rdos S1 us xs→Rl S1 G1 w xs vs→Rl S2 G2 w us vs
  | [],xs,vs,hx,hv=>by simp only [Rdos] at hx;subst hx;simpa only [Rl] using hv
  | u::us,xs,vs,hx,hv=>by
    simp only [Rdos] at hx
    obtain⟨x,r,rfl,hx,hr⟩:=hx
    simp only [Rl] at hv ⊢
    obtain⟨v,vr,rfl,hv,hvr⟩:=hv
    exact⟨v,vr,rfl,Rdo.rv hI h1 h2 u x v hx hv,Rdos.rl hI h1 h2 us r vr hr hvr⟩
theorem Rdos.rat (hI:Inv P gt S1 G1 w) (h1:∀b,G1.st b→G2.st b) (h2:∀b,b<w.heap.size→Own S1 G1 b→G2.st b):∀(us xs:List AV) (b off es:Nat),Rdos S1 us xs→Rat S1 G1 w b es xs off→Rat S2 G2 w b es us off
  | [],xs,b,off,es,hx,hv=>by simp only [Rat]
  | u::us,xs,b,off,es,hx,hv=>by
    simp only [Rdos] at hx
    obtain⟨x,r,rfl,hx,hr⟩:=hx
    simp only [Rat] at hv ⊢
    obtain⟨⟨v,hv,hsz,hc⟩,hvr⟩:=hv
    exact⟨⟨v,Rdo.rv hI h1 h2 u x v hx hv,hsz,hc⟩,Rdos.rat hI h1 h2 us r b (off+es) es hr hvr⟩
end
mutual
theorem Sta.rv (h:∀b,b<w.heap.size→G1.st b→G2.st b):∀(u:AV) (v:Value),Sta u→Rv S1 G1 w u v→Rv S2 G2 w u v
  |.sl es o ys,v,hu,hv=>by
    simp only [Sta] at hu
    obtain⟨rfl,hu⟩:=hu
    simp only [Rv] at hv ⊢
    obtain⟨a,len,cap,rfl,hs,hr⟩:=hv
    refine⟨a,len,cap,rfl,⟨hs.1,hs.2.1,hs.2.2.1,hs.2.2.2.1,hs.2.2.2.2.1,fun p hp hc=>?_⟩,fun _ p hp=>Stas.rat h ys p.block p.off es hu (hr (rd_none rfl) p hp)⟩
    obtain⟨g1,g2,g3,g4⟩:=hs.2.2.2.2.2 p hp hc
    have hlt:p.block<w.heap.size:=by obtain⟨ty,k,hk,_⟩:=g3;exact shape_lt hk
    refine⟨g1,g2,g3,?_⟩
    rw [rd_none rfl] at g4 ⊢
    exact h _ hlt g4
  |.agg us,v,hu,hv=>by
    simp only [Sta] at hu
    simp only [Rv] at hv ⊢
    obtain⟨vs,rfl,hv⟩:=hv
    exact⟨vs,rfl,Stas.rl h us vs hu hv⟩
  |.tup us,v,hu,hv=>by
    simp only [Sta] at hu
    simp only [Rv] at hv ⊢
    obtain⟨vs,rfl,hv⟩:=hv
    exact⟨vs,rfl,Stas.rl h us vs hu hv⟩
  |.ifc t u,v,hu,hv=>by
    simp only [Sta] at hu
    simp only [Rv] at hv ⊢
    obtain⟨z,rfl,hv⟩:=hv
    exact⟨z,rfl,Sta.rv h u z hu hv⟩
  |.fn f fs cs,v,hu,hv=>by
    simp only [Sta] at hu
    simp only [Rv] at hv ⊢
    obtain⟨va,vb,rfl,hv,hv'⟩:=hv
    exact⟨va,vb,rfl,Stas.rl h fs va hu.1 hv,Stas.rl h cs vb hu.2 hv'⟩
  |.ptr _ _,_,hu,_=>by simp only [Sta] at hu
  |.map _,_,hu,_=>by simp only [Sta] at hu
  |.eptr _ _ _ _ _,_,hu,_=>by simp only [Sta] at hu
  |.undef,_,_,hv |.bool _,_,_,hv |.int _ _,_,_,hv |.str _,_,_,hv |.nilp,_,_,hv |.gptr _ _,_,_,hv |.anyp,_,_,hv |.nilfn,_,_,hv |.nilif,_,_,hv |.nilmap,_,_,hv |.raw _,_,_,hv=>by
    simp only [Rv] at hv ⊢
    exact hv
theorem Stas.rl (h:∀b,b<w.heap.size→G1.st b→G2.st b):∀(us:List AV) (vs:List Value),Stas us→Rl S1 G1 w us vs→Rl S2 G2 w us vs
  | [],vs,hu,hv=>by simpa only [Rl] using hv
  | u::us,vs,hu,hv=>by
    simp only [Stas] at hu
    simp only [Rl] at hv ⊢
    obtain⟨v,vr,rfl,hv,hvr⟩:=hv
    exact⟨v,vr,rfl,Sta.rv h u v hu.1 hv,Stas.rl h us vr hu.2 hvr⟩
theorem Stas.rat (h:∀b,b<w.heap.size→G1.st b→G2.st b):∀(us:List AV) (b off es:Nat),Stas us→Rat S1 G1 w b es us off→Rat S2 G2 w b es us off
  | [],b,off,es,hu,hv=>by simp only [Rat]
  | u::us,b,off,es,hu,hv=>by
    simp only [Stas] at hu
    simp only [Rat] at hv ⊢
    obtain⟨⟨v,hv,hsz,hc⟩,hvr⟩:=hv
    exact⟨⟨v,Sta.rv h u v hu.1 hv,hsz,hc⟩,Stas.rat h us b (off+es) es hu.2 hvr⟩
end
theorem flat1_rv {u:AV} {v:Value} (hu:flat1 u=true) (hv:Rv S1 G1 w u v):Rv S2 G2 w u v:=by
  cases u<;>first | (exfalso;revert hu;simp [flat1];done) | (simp only [Rv] at hv ⊢;exact hv)
theorem flats_rl:∀{us:List AV} {vs:List Value},us.all flat1=true→Rl S1 G1 w us vs→Rl S2 G2 w us vs
  | [],vs,_,hv=>by simpa only [Rl] using hv
  | u::us,vs,hu,hv=>by
    simp only [List.all_cons,bA] at hu
    simp only [Rl] at hv ⊢
    obtain⟨v,vr,rfl,hv,hvr⟩:=hv
    exact⟨v,vr,rfl,flat1_rv hu.1 hv,flats_rl hu.2 hvr⟩
theorem Flat.rv {u:AV} {v:Value} (hu:Flat u) (hv:Rv S1 G1 w u v):Rv S2 G2 w u v:=by
  cases u with
  | tup us =>
    simp only [Flat] at hu
    simp only [Rv] at hv ⊢
    obtain⟨vs,rfl,hv⟩:=hv
    exact⟨vs,rfl,flats_rl hu hv⟩
  | _=>exact flat1_rv hu hv
end
section
variable {P:Program} {gt:GT}
def Gst (st:Nat→Prop):Gh:=⟨fun _=>0,fun _=>0,fun _=>0,fun _=>0,fun _=>0,st⟩
theorem ownG {st:Nat→Prop} {b:Nat}:¬Own St.init (Gst st) b:=by
  rintro (⟨i,hi,_⟩ | ⟨i,hi,_⟩ | ⟨i,hi,_⟩)<;>exact absurd hi (Nat.not_lt_zero i)
theorem invG {st:Nat→Prop} {w:World} (hl:∀b,st b→b<w.heap.size) (hg:∀g cs,lk gt g=some cs→st g∧∃c ty fr,w.heap[g]? = some (.cells c ty fr)∧Rl St.init (Gst st) w cs c.toList):Inv P gt St.init (Gst st) w :=
  { boxLt:=fun i hi=>absurd hi (Nat.not_lt_zero i)
    tokLt:=fun i hi=>absurd hi (Nat.not_lt_zero i)
    mapLt:=fun i hi=>absurd hi (Nat.not_lt_zero i)
    stLt:=hl
    stOwn:=fun b _=>ownG
    box:=fun i ty cs h=>by cases h
    boxInj:=fun i i' x x' h=>by cases h
    boxTok:=fun i x t h=>by cases h
    map:=fun i hi=>absurd hi (Nat.not_lt_zero i)
    mapInj:=fun i i' hi=>absurd hi (Nat.not_lt_zero i)
    tip:=fun t n ty sf h=>by cases h
    tipInj:=fun t t' x x' h=>by cases h
    line:=fun t t' ht=>absurd ht (Nat.not_lt_zero t)
    lnLt:=fun t ht=>absurd ht (Nat.not_lt_zero t)
    kBox:=fun i _=>rfl
    kMap:=fun i _=>rfl
    kMv:=fun i _=>rfl
    kTip:=fun i _=>rfl
    kDl:=fun i _=>rfl
    glob:=hg }
theorem own_lt {S:St} {G:Gh} {w:World} (h:Inv P gt S G w) {b:Nat} (ho:Own S G b):b<w.heap.size:=by
  rcases ho with⟨i,hi,rfl⟩ | ⟨i,hi,rfl⟩ | ⟨i,hi,rfl⟩
  · exact h.boxLt i hi
  · exact h.tokLt i hi
  · exact h.mapLt i hi
def addSt (G:Gh) (n m:Nat):Gh:={ G with st:=fun b=>G.st b∨(n≤b∧b<m) }
section
variable {S:St} {G:Gh} {w w':World}
theorem own_add {n m b:Nat}:Own S (addSt G n m) b↔Own S G b:=Iff.rfl
theorem ext_add (hI:Inv P gt S G w) (h:Gr w w'):Ext S G w S (addSt G w.heap.size w'.heap.size) w' where
  nb:=nR _
  nt:=nR _
  nm:=nR _
  β _ _:=rfl
  τ _ _:=rfl
  ln _ _:=rfl
  μ _ _:=rfl
  size:=h.size
  own _ _ h:=h
  st b hb:=⟨.inl hb,h.same b (hI.stLt b hb)⟩
  stNew b hb hs:=by
    rcases hs with hs | hs
    · exact hs
    · omega
  shape b x hx:=by simpa [World.shape?,h.same b (shape_lt hx)] using hx
  mv _ _ _ h:=h
  dl _ h:=h
  sea t ht _ _:=⟨nR _,fun i _=>by simp only [World.cell?,h.same _ (hI.tokLt t ht)]⟩
  moved t b o _ h h':=by rw [h] at h';cases h'
  os:=h.os
  tape:=h.tape
  output:=h.output
theorem inv_add (hI:Inv P gt S G w) (h:Gr w w'):Inv P gt S (addSt G w.heap.size w'.heap.size) w' where
  boxLt id hi:=Nat.lt_of_lt_of_le (hI.boxLt id hi) h.size
  tokLt id hi:=Nat.lt_of_lt_of_le (hI.tokLt id hi) h.size
  mapLt id hi:=Nat.lt_of_lt_of_le (hI.mapLt id hi) h.size
  stLt b hb:=by
    rcases hb with hb | hb
    · exact Nat.lt_of_lt_of_le (hI.stLt b hb) h.size
    · exact hb.2
  stOwn b hb ho:=by
    rcases hb with hb | hb
    · exact hI.stOwn b hb ho
    · have:=own_lt hI (own_add.1 ho);omega
  box id ty cs hb:=by
    obtain⟨h1,c,fr,sf,pre,rest,h2,h3,h4,h5⟩:=hI.box id ty cs hb
    exact⟨h1,c,fr,sf,pre,rest,by rw [←h2];exact h.same _ (hI.boxLt id h1),h3,h4,h5.mono (ext_add hI h)⟩
  boxInj:=hI.boxInj
  boxTok:=hI.boxTok
  map id hi:=by
    obtain⟨es,ents,clk,h1,h2,h3⟩:=hI.map id hi
    exact⟨es,ents,clk,h1,by rw [←h2];exact h.same _ (hI.mapLt id hi),h3.mono (ext_add hI h)⟩
  mapInj:=hI.mapInj
  tip t n ty sf ht:=by
    obtain⟨h1,h2⟩:=hI.tip t n ty sf ht
    refine⟨h1,fun hv=>?_⟩
    obtain⟨es,c,fr,e1,e2,e3⟩:=h2 hv
    exact⟨es,c,fr,e1,by rw [←e2];exact h.same _ (hI.tokLt t h1),e3⟩
  tipInj:=hI.tipInj
  line:=hI.line
  lnLt:=hI.lnLt
  kBox:=hI.kBox
  kMap:=hI.kMap
  kMv:=hI.kMv
  kTip:=hI.kTip
  kDl:=hI.kDl
  glob g cs hg:=by
    obtain⟨h1,c,ty,fr,h2,h3⟩:=hI.glob g cs hg
    exact⟨.inl h1,c,ty,fr,by rw [h.same _ (hI.stLt g h1)];exact h2,h3.mono (ext_add hI h)⟩
end
theorem gr_of_tr {st:Nat→Prop} {S1:St} {G1:Gh} {w w1:World} (t:Tr P gt St.init (Gst st) w S1 G1 w1):Gr w w1 :=
  ⟨t.ext.os,t.ext.tape,t.ext.output,t.ext.size,fun b hb=>t.keep b hb ownG⟩
def GtSta (gt:GT):Prop:=∀g cs,lk gt g=some cs→Stas cs
theorem AC_pure (hgt:GtSta gt) {f:FuncId} {us:List AV} {Φ:AV→Prop} (hus:Stas us)
    (h:AC P gt f us St.init fun r S1=>∃x u,r=.ret x∧Rdo S1 u x∧Φ u) (S:St) :
    AC P gt f us S fun r S'=>∃u,r=.ret u∧Φ u∧S'=S:=by
  refine⟨h.1,fun G w args hI hx=>?_⟩
  have hI0:Inv P gt St.init (Gst G.st) w:=invG hI.stLt fun g cs hg=>by
    obtain⟨h1,c,ty,fr,h2,h3⟩:=hI.glob g cs hg
    exact⟨h1,c,ty,fr,h2,Stas.rl (G1:=G) (G2:=Gst G.st) (fun b _ hb=>hb) cs _ (hgt g cs hg) h3⟩
  refine Calls.mono (h.2 (Gst G.st) w args hI0 (Stas.rl (G1:=G) (G2:=Gst G.st) (fun b _ hb=>hb) us _ hus hx)) fun e w1 hp=>?_
  cases e with
  | returned v =>
    obtain⟨x',S1,G1,⟨x,u,e,hr,hφ⟩,t,rv⟩:=hp
    cases e
    have g:=gr_of_tr t
    refine⟨u,S,addSt G w.heap.size w1.heap.size,⟨u,rfl,hφ,rfl⟩,⟨inv_add hI g,ext_add hI g,fun b hb _=>g.same b hb⟩,?_⟩
    refine Rdo.rv t.inv (fun b hb=>?_) (fun b hb ho=>?_) u _ v hr rv
    · rcases Nat.lt_or_ge b w.heap.size with hlt | hge
      · exact .inl (t.ext.stNew b hlt hb)
      · exact .inr ⟨hge,t.inv.stLt b hb⟩
    · rcases Nat.lt_or_ge b w.heap.size with hlt | hge
      · exact absurd (t.ext.own b hlt ho) ownG
      · exact .inr ⟨hge,hb⟩
  | panicked chain=>obtain⟨x',S1,G1,u',hc,⟨x,u,e,_⟩,_⟩:=hp;cases e
  | outgrown=>exact hp.elim
theorem AC_read (hgt:GtSta gt) {f:FuncId} {us xs:List AV} {Φ:AV→Prop} {S:St} (hxs:Rdos S us xs) (hfl:∀u,Φ u→Flat u)
    (h:AC P gt f us St.init fun r S1=>∃x u,r=.ret x∧Rdo S1 u x∧Φ u) :
    AC P gt f xs S fun r S'=>∃u,r=.ret u∧Φ u∧S'=S:=by
  refine⟨h.1,fun G w args hI hx=>?_⟩
  have hI0:Inv P gt St.init (Gst fun b=>b<w.heap.size) w:=invG (fun b hb=>hb) fun g cs hg=>by
    obtain⟨h1,c,ty,fr,h2,h3⟩:=hI.glob g cs hg
    exact⟨hI.stLt g h1,c,ty,fr,h2,Stas.rl (G1:=G) (fun b hb _=>hb) cs _ (hgt g cs hg) h3⟩
  have hx0:Rl St.init (Gst fun b=>b<w.heap.size) w us args:=Rdos.rl hI (fun b hb=>hI.stLt b hb) (fun b hb _=>hb) us xs args hxs hx
  refine Calls.mono (h.2 _ w args hI0 hx0) fun e w1 hp=>?_
  cases e with
  | returned v =>
    obtain⟨x',S1,G1,⟨x,u,e,hr,hφ⟩,t,rv⟩:=hp
    cases e
    have g:=gr_of_tr t
    refine⟨u,S,G,⟨u,rfl,hφ,rfl⟩,Tr.gr hI g,?_⟩
    exact Flat.rv (S1:=S) (G1:={ G1 with st:=fun _=>True }) (hfl u hφ) (Rdo.rv t.inv (fun b hb=>trivial) (fun b hb ho=>trivial) u _ v hr rv)
  | panicked chain=>obtain⟨x',S1,G1,u',hc,⟨x,u,e,_⟩,_⟩:=hp;cases e
  | outgrown=>exact hp.elim
end
def PF (C:CallT) (f:FuncId) (us:List AV) (u:AV):Prop:=∀S,C f us S fun r S'=>r=.ret u∧S'=S
theorem PF.of_init {P:Program} {gt:GT} (hgt:GtSta gt) {f:FuncId} {us:List AV} {u:AV} (hus:Stas us) (h:AC P gt f us St.init fun r S1=>∃x,r=.ret x∧Rdo S1 u x):PF (AC P gt) f us u:=fun S=>by
  refine AC_mono _ _ _ _ _ (AC_pure (Φ:=fun u'=>u'=u) hgt hus (AC_mono _ _ _ _ _ h ?_) S) ?_
  · rintro r S1 ⟨x,rfl,hx⟩;exact⟨x,u,rfl,hx,rfl⟩
  · rintro r S1 ⟨_,rfl,rfl,rfl⟩;exact⟨rfl,rfl⟩
section
variable {gt:GT} {C:CallT}
theorem call_pf (hm:MonoC C) {i:DI} {env:Env} {S:St} {K:Env→St→Prop} {Q:Ex→Env→St→Prop} {f:FuncId} {xs:List AV} {u:AV} (h:stepI gt i env S=.call f xs) (hp:PF C f xs u) (k:K (putV i.dst u env) S):afterS C i.dst env S K Q (stepI gt i env S):=by
  refine call_rule h (hm _ _ _ _ _ (hp S) ?_)
  rintro r S' ⟨rfl,rfl⟩
  exact k
theorem call_pfD (hm:MonoC C) {i:DI×Option Nat} {env:Env} {S:St} {K:Env→St→Prop} {Q:Ex→Env→St→Prop} {f:FuncId} {xs:List AV} {u:AV} (h:stepD gt i env S=.call f xs) (hp:PF C f xs u) (k:K (putV i.1.dst u env) S):afterS C i.1.dst env S K Q (stepD gt i env S):=by
  refine call_ruleD h (hm _ _ _ _ _ (hp S) ?_)
  rintro r S' ⟨rfl,rfl⟩
  exact k
end
end Go.Dn

namespace Go.Dn
open Go Go.RowKit
inductive Rs where
 | gr (ty:TypeId) (o:SI) (xs:List AV)
 | mp (id:Nat) (es:List (AV×AV))
 | bx (id:Nat) (ty:TypeId) (cs:List AV)
 | mk (t l b:Nat)
def RsOK (S:St):Rs->Prop
 |.gr ty o xs=>(o.tok=none/\o.off=0/\o.cap=some 0/\xs=[])\/∃t l,o=⟨some (t,l),0,none,false⟩/\t<S.nt/\l<S.nt/\lk S.tip t=some (some (xs.length,ty,false))/\lk S.mv t=none/\lk S.dl l=none
 |.mp id es=>id<S.nm/\lk S.maps id=some es
 |.bx id ty cs=>id<S.nb/\lk S.boxes id=some (some (ty,cs))
 |.mk t l b=>t<S.nt/\l<S.nt/\lk S.mv t=some (.bx b 0)
def RsDj:Rs->Rs->Prop
 |.gr _ o _,.gr _ o' _=>∀t l t' l',o.tok=some (t,l)->o'.tok=some (t',l')->t≠t'/\l≠l'
 |.mp i _,.mp j _=>i≠j
 |.bx i _ _,.bx j _ _=>i≠j
 | _,_=>True
theorem RsDj.symm:∀{a b:Rs},RsDj a b->RsDj b a
 |.gr ..,.gr ..,h=>λt l t' l' e e'=>⟨λq=>(h t' l' t l e' e).1 q.symm,λq=>(h t' l' t l e' e).2 q.symm⟩
 |.mp ..,.mp ..,h=>λq=>h q.symm
 |.bx ..,.bx ..,h=>λq=>h q.symm
 |.gr ..,.mp ..,_ |.gr ..,.bx ..,_ |.gr ..,.mk ..,_ |.mp ..,.gr ..,_ |.mp ..,.bx ..,_ |.mp ..,.mk ..,_
 |.bx ..,.gr ..,_ |.bx ..,.mp ..,_ |.bx ..,.mk ..,_ |.mk ..,.gr ..,_ |.mk ..,.mp ..,_ |.mk ..,.bx ..,_ |.mk ..,.mk ..,_=>trivial
structure Hs (S:St)(R:List Rs):Prop where
 wf:Wf S
 ok:∀(i:Nat) (r:Rs),R[i]? = some r->RsOK S r
 dj:∀(i j:Nat) (r s:Rs),i≠j->R[i]? = some r->R[j]? = some s->RsDj r s
theorem Hs.nil {S:St}(h:Wf S):Hs S []:=⟨h,λi r h=>by simp at h,λi j r s _ h=>by simp at h⟩
theorem Hs.init:Hs St.init []:=Hs.nil λ_ _=>⟨rfl,rfl⟩
structure Chg (S S':St)(T L M B:Nat->Prop):Prop where
 nt:S.nt<=S'.nt
 nb:S.nb<=S'.nb
 nm:S.nm<=S'.nm
 tip:∀t,t<S.nt->¬T t->lk S'.tip t=lk S.tip t/\lk S'.mv t=lk S.mv t
 dl:∀l,l<S.nt->¬L l->lk S'.dl l=lk S.dl l
 mv:∀t m,t<S.nt->lk S.mv t=some m->lk S'.mv t=some m
 maps:∀i,i<S.nm->¬M i->lk S'.maps i=lk S.maps i
 boxes:∀i,i<S.nb->¬B i->lk S'.boxes i=lk S.boxes i
def Rs.off (T L M B:Nat->Prop):Rs->Prop
 |.gr _ o _=>∀t l,o.tok=some (t,l)->¬T t/\¬L l
 |.mp id _=>¬M id
 |.bx id _ _=>¬B id
 |.mk _ _ _=>True
theorem RsOK.chg {S S':St}{T L M B:Nat->Prop}(hc:Chg S S' T L M B):∀{r:Rs},RsOK S r->r.off T L M B->RsOK S' r
 |.gr ty o xs,h,ho=>by
  rcases h with h | ⟨t,l,rfl,h1,h2,h3,h4,h5⟩
  ·exact .inl h
  ·obtain⟨g1,g2⟩:=ho t l rfl;obtain⟨e1,e2⟩:=hc.tip t h1 g1;exact .inr ⟨t,l,rfl,Nat.lt_of_lt_of_le h1 hc.nt,Nat.lt_of_lt_of_le h2 hc.nt,by rw[e1];exact h3,by rw[e2];exact h4,by rw[hc.dl l h2 g2];exact h5⟩
 |.mp id es,h,ho=>⟨Nat.lt_of_lt_of_le h.1 hc.nm,by rw[hc.maps id h.1 ho];exact h.2⟩
 |.bx id ty cs,h,ho=>⟨Nat.lt_of_lt_of_le h.1 hc.nb,by rw[hc.boxes id h.1 ho];exact h.2⟩
 |.mk t l b,h,_=>⟨Nat.lt_of_lt_of_le h.1 hc.nt,Nat.lt_of_lt_of_le h.2.1 hc.nt,hc.mv t _ h.1 h.2.2⟩
theorem set_get {α:Type}{R:List α}{i j:Nat}{x y:α}(h:(R.set i x)[j]? = some y):(j=i/\y=x)\/(j≠i/\R[j]? = some y):=by
 by_cases e:i=j
 ·subst e;rw[List.getElem?_set_self']at h;cases hr:R[i]? with
  | none=>rw[hr]at h;cases h
  | some z=>rw[hr]at h;cases h;exact .inl ⟨rfl,rfl⟩
 ·rw[List.getElem?_set_ne e]at h;exact .inr ⟨λq=>e q.symm,h⟩
theorem Hs.turn {S S':St}{R:List Rs}{T L M B:Nat->Prop}(h:Hs S R)(hw:Wf S')(hc:Chg S S' T L M B){i:Nat}{r':Rs}
  (hoff:∀(j:Nat) (s:Rs),j≠i->R[j]? = some s->s.off T L M B) (hr:RsOK S' r') (hd:∀(j:Nat) (s:Rs),j≠i->R[j]? = some s->RsDj r' s):Hs S' (R.set i r') where
 wf:=hw
 ok j s hs:=by
  rcases set_get hs with⟨_,rfl⟩ | ⟨e,hs⟩
  ·exact hr
  ·exact(h.ok j s hs).chg hc (hoff j s e hs)
 dj j k r s hjk hj hk:=by
  rcases set_get hj with⟨rfl,rfl⟩ | ⟨e,hj2⟩
  ·rcases set_get hk with⟨e,rfl⟩ | ⟨e,hk2⟩
   ·exact absurd e.symm hjk
   ·exact hd k s e hk2
  ·rcases set_get hk with⟨e',rfl⟩ | ⟨e',hk2⟩
   ·exact(hd j r e hj2).symm
   ·exact h.dj j k r s hjk hj2 hk2
theorem Hs.more {S S':St}{R:List Rs}(h:Hs S R)(hw:Wf S')(hc:Chg S S' (λ_=>False) (λ_=>False) (λ_=>False) (λ_=>False)){r':Rs}
  (hr:RsOK S' r') (hd:∀(j:Nat) (s:Rs),R[j]? = some s->RsDj r' s):Hs S' (R++[r']) where
 wf:=hw
 ok j s hs:=by
  rcases Nat.lt_or_ge j R.length with hj | hj
  ·rw[List.getElem?_append_left hj]at hs;refine(h.ok j s hs).chg hc ?_;cases s<;>simp[Rs.off]
  ·rw[List.getElem?_append_right hj]at hs;have:j-R.length=0:=by
    rcases Nat.eq_zero_or_pos (j-R.length) with e | e
    ·exact e
    ·rw[List.getElem?_eq_none (by simp;omega)]at hs;cases hs
   rw[this]at hs;cases hs;exact hr
 dj j k r s hjk hj hk:=by
  have key:∀{j:Nat} {s:Rs},(R++[r'])[j]? = some s->(R[j]? = some s)\/(j=R.length/\s=r'):=λ{j s} hs=>by
   rcases Nat.lt_or_ge j R.length with hj | hj
   ·rw[List.getElem?_append_left hj]at hs;exact .inl hs
   ·rw[List.getElem?_append_right hj]at hs;have:j-R.length=0:=by
     rcases Nat.eq_zero_or_pos (j-R.length) with e | e
     ·exact e
     ·rw[List.getElem?_eq_none (by simp;omega)]at hs;cases hs
    rw[this]at hs;cases hs;exact .inr ⟨by omega,rfl⟩
  rcases key hj with hj2 | ⟨rfl,rfl⟩
  ·rcases key hk with hk2 | ⟨rfl,rfl⟩
   ·exact h.dj j k r s hjk hj2 hk2
   ·exact(hd j r hj2).symm
  ·rcases key hk with hk2 | ⟨rfl,rfl⟩
   ·exact hd k s hk2
   ·exact absurd rfl hjk
theorem Hs.less {S:St}{R R':List Rs}(h:Hs S R)(f:Nat->Nat)(hf:∀i j,i<R'.length->j<R'.length->f i=f j->i=j)(he:∀i,i<R'.length->R[f i]? = R'[i]?):Hs S R' where
 wf:=h.wf
 ok i r hi:=h.ok (f i) r (by rw[he i (List.getElem?_eq_some_iff.1 hi).1];exact hi)
 dj i j r s hij hi hj:=by
  have a:=(List.getElem?_eq_some_iff.1 hi).1;have b:=(List.getElem?_eq_some_iff.1 hj).1;exact h.dj (f i) (f j) r s (λe=>hij (hf i j a b e)) (by rw[he i a];exact hi) (by rw[he j b];exact hj)
theorem Hs.addNil {S:St}{R:List Rs}(h:Hs S R)(ty:TypeId)(nl:Bool):Hs S (R++[.gr ty ⟨none,0,some 0,nl⟩ []]) :=
 h.more h.wf ⟨nR _,nR _,nR _,λ_ _ _=>⟨rfl,rfl⟩,λ_ _ _=>rfl,λ_ _ _ h=>h,λ_ _ _=>rfl,λ_ _ _=>rfl⟩ (.inl ⟨rfl,rfl,rfl,rfl⟩) λj s _=>by
  cases s<;>simp[RsDj]
theorem RsOK.rd {S:St}{ty:TypeId}{o:SI}{xs:List AV}(h:RsOK S (.gr ty o xs)):rd S o=.here:=by
 rcases h with⟨h,_⟩ | ⟨t,l,rfl,_,_,_,h3,h4⟩
 ·exact rd_none h
 ·simp only[Dn.rd,h3,h4]
theorem RsOK.els {S:St}{ty:TypeId}{o:SI}{xs:List AV}(h:RsOK S (.gr ty o xs))(agg:Bool)(es:Nat):elems S agg es o xs=some xs:=by
 simp only[elems,h.rd]
theorem Hs.rdo {S:St}{R:List Rs}(h:Hs S R){i:Nat}{ty:TypeId}{o:SI}{xs us:List AV}{es:Nat}(hi:R[i]? = some (.gr ty o xs))(hx:Rdos S us xs):Rdo S (.sl es stat us) (.sl es o xs):=by
 simp only[Rdo];exact⟨trivial,o,xs,true,xs,rfl,(h.ok i _ hi).els _ _,hx⟩
theorem hs_app {gt:GT}{d:Option Nat}{env:Env}{S:St}{R:List Rs}{agg:Bool}{ty:TypeId}{es bytes:Nat}{x y:DOpd}{o:SI}{xs ys:List AV}{yv:AV}(h:Hs S R)(i:Nat)(hi:R[i]? = some (.gr ty o xs))
  (hx:opd env x=some (.sl es o xs)) (hy:opd env y=some yv) (hys:srcE S agg es yv=some ys)
  (hb:(xs.length+ys.length)*bytes<=140737488355328) (hb2:xs.length+ys.length<=140737488355328) (hb3:bytes<=1048576) (hes:0<es) (hok:(ys.flatMap AV.cells).all ok1=true) :
  ∃o' S',stepO gt d env S (.app agg ty es bytes x y)=.done (putV d (.sl es o' (xs++ys)) env) S'/\Hs S' (R.set i (.gr ty o' (xs++ys))):=by
 have hg:=h.ok i _ hi;have hel:elems S agg es o xs=some xs:=hg.els _ _;have hset:∀z,R[i]? = some z->R.set i z=R:=λz hz=>by
  apply List.ext_getElem?
  intro j;by_cases e:i=j
  ·subst e;rw[List.getElem?_set_self',hz];rfl
  ·rw[List.getElem?_set_ne e]
 cases ys with
 | nil =>
  refine⟨o,S,?_,by rw[List.append_nil,hset _ hi];exact h⟩;simp only[stepO,hx,hy,appV,hys,hel,List.append_nil]
 | cons y ys =>
  have hguard:(Nat.beq es es && (Nat.ble ((xs.length+(y::ys).length)*bytes) 140737488355328 && (Nat.ble (xs.length+(y::ys).length) 140737488355328 && (Nat.ble bytes 1048576 && Nat.blt 0 es))))=true:=by
   rw[Nat.beq_refl,ble_true hb,ble_true hb2,ble_true hb3];simp only[Bool.true_and];exact Nat.ble_eq_true_of_le hes
  have hw:=h.wf S.nt (nR _);rcases hg with⟨h1,h2,h3,rfl⟩ | ⟨t,l,rfl,h1,h2,h5,h3,h4⟩
  ·refine⟨⟨some (S.nt,S.nt),0,none,false⟩,{ S with nt:=S.nt+1,tip:=(S.nt,some (([]:List AV).length+(y::ys).length,ty,false))::S.tip },?_,?_⟩
   ·have hz:Nat.ble (([]:List AV).length+(y::ys).length) 0=false:=by
     cases hq:Nat.ble (([]:List AV).length+(y::ys).length) 0 with
     | false=>rfl
     | true=>have:=bL hq;simp at this
    simp only[stepO,hx,hy,appV,hys,hel,hguard,cond_true,h3,hz,cond_false]
   ·refine h.turn (S':={ S with nt:=S.nt+1,tip:=(S.nt,some (([]:List AV).length+(y::ys).length,ty,false))::S.tip }) (r':=.gr ty ⟨some (S.nt,S.nt),0,none,false⟩ ([]++y::ys)) (T:=λ_=>False) (L:=λ_=>False) (M:=λ_=>False) (B:=λ_=>False) (λt ht=>h.wf t (by simp at ht;omega)) ⟨Nat.le_succ _,nR _,nR _,λt ht _=>⟨lk_ne _ _ (by omega),rfl⟩,λ_ _ _=>rfl,λ_ _ _ h=>h,λ_ _ _=>rfl,λ_ _ _=>rfl⟩ (λj s _ _=>by cases s<;>simp[Rs.off]) ?_ λj s _ hs=>?_
    ·exact .inr ⟨S.nt,S.nt,rfl,Nat.lt_succ_self _,Nat.lt_succ_self _,by simp[lk_same],hw.1,hw.2⟩
    ·have hsk:=h.ok j s hs;cases s with
     | gr ty2 o2 zs =>
      intro t l t2 l2 e e2;cases e;rcases hsk with⟨e3,_⟩ | ⟨t3,l3,rfl,b1,b2,_⟩
      ·rw[e3]at e2;cases e2
      ·cases e2;exact⟨by omega,by omega⟩
     | _=>trivial
  ·refine⟨⟨some (S.nt,l),0,none,false⟩,{ S with nt:=S.nt+1,tip:=(S.nt,some (xs.length+(y::ys).length,ty,false))::(t,none)::S.tip },?_,?_⟩
   ·have hrd:rd S ⟨some (t,l),0,none,false⟩=.here:=by simp only[rd,h3,h4]
    have hg2:(Nat.beq ty ty && (Nat.beq xs.length xs.length && (Nat.beq 0 0 && (Nat.ble l S.nt && ((y::ys).flatMap AV.cells).all ok1))))=true:=by
     rw[Nat.beq_refl,Nat.beq_refl,Nat.beq_refl,ble_true (by omega),hok];rfl
    simp only[stepO,hx,hy,appV,hys,hel,hguard,cond_true,hrd,h5,hg2]
   ·refine h.turn (S':={ S with nt:=S.nt+1,tip:=(S.nt,some (xs.length+(y::ys).length,ty,false))::(t,none)::S.tip }) (r':=.gr ty ⟨some (S.nt,l),0,none,false⟩ (xs++y::ys)) (T:=λq=>q=t) (L:=λ_=>False) (M:=λ_=>False) (B:=λ_=>False) (λt ht=>h.wf t (by simp at ht;omega)) ⟨Nat.le_succ _,nR _,nR _,λq hq hne=>⟨by rw[lk_ne _ _ (by omega),lk_ne _ _ (λe=>hne e.symm)],rfl⟩,λ_ _ _=>rfl,λ_ _ _ h=>h,λ_ _ _=>rfl,λ_ _ _=>rfl⟩ (λj s hj hs=>?_) ?_ λj s hj hs=>?_
    ·have hdj:=h.dj i j _ s (λe=>hj e.symm) hi hs;cases s with
     | gr ty2 o2 zs=>intro t2 l2 e2;exact⟨λe=>(hdj t l t2 l2 rfl e2).1 e.symm,λe=>e⟩
     | _=>simp[Rs.off]
    ·exact .inr ⟨S.nt,l,rfl,Nat.lt_succ_self _,Nat.lt_succ_of_lt h2,by simp[lk_same],hw.1,h4⟩
    ·have hsk:=h.ok j s hs;have hdj:=h.dj i j _ s (λe=>hj e.symm) hi hs;cases s with
     | gr ty2 o2 zs =>
      intro t' l' t2 l2 e e2;cases e;rcases hsk with⟨e3,_⟩ | ⟨t3,l3,rfl,b1,b2,_⟩
      ·rw[e3]at e2;cases e2
      ·cases e2;exact⟨by omega,(hdj _ _ _ _ rfl rfl).2⟩
     | _=>trivial
theorem hs_mkm {gt:GT}{d:Option Nat}{env:Env}{S:St}{R:List Rs}(h:Hs S R) :
  ∃id S',stepO gt d env S .mkm=.done (putV d (.map id) env) S'/\Hs S' (R++[.mp id []]):=by
 refine⟨S.nm,{ S with nm:=S.nm+1,maps:=(S.nm,[])::S.maps },rfl,h.more (S':={ S with nm:=S.nm+1,maps:=(S.nm,[])::S.maps }) (r':=.mp S.nm []) (λt ht=>h.wf t ht) ⟨nR _,nR _,Nat.le_succ _,λ_ _ _=>⟨rfl,rfl⟩,λ_ _ _=>rfl,λ_ _ _ h=>h,λi hi _=>lk_ne _ _ (by omega),λ_ _ _=>rfl⟩ ⟨Nat.lt_succ_self _,lk_same _ _ _⟩ λj s hs=>?_⟩;have:=h.ok j s hs;cases s with
 | mp i es=>intro e;have:=this.1;omega
 | _=>trivial
theorem Hs.mapTo {S:St}{R:List Rs}(h:Hs S R){i:Nat}{id:Nat}{es:List (AV×AV)}(hi:R[i]? = some (.mp id es))(es':List (AV×AV)):Hs { S with maps:=(id,es')::S.maps } (R.set i (.mp id es')):=by
 have hk:=h.ok i _ hi;refine h.turn (S':={ S with maps:=(id,es')::S.maps }) (r':=.mp id es') (T:=λ_=>False) (L:=λ_=>False) (M:=λq=>q=id) (B:=λ_=>False) (λt ht=>h.wf t ht) ⟨nR _,nR _,nR _,λ_ _ _=>⟨rfl,rfl⟩,λ_ _ _=>rfl,λ_ _ _ h=>h,λj hj hne=>lk_ne _ _ (λe=>hne e.symm),λ_ _ _=>rfl⟩ (λj s hj hs=>?_) ⟨hk.1,lk_same _ _ _⟩ λj s hj hs=>?_
 ·have hdj:=h.dj i j _ s (λe=>hj e.symm) hi hs;cases s with
  | mp k es2=>exact λe=>hdj e.symm
  | _=>simp[Rs.off]
 ·have hdj:=h.dj i j _ s (λe=>hj e.symm) hi hs;cases s with
  | mp k es2=>exact hdj
  | _=>trivial
theorem Hs.boxTo {S:St}{R:List Rs}(h:Hs S R){i:Nat}{id:Nat}{ty:TypeId}{cs:List AV}(hi:R[i]? = some (.bx id ty cs))(cs':List AV):Hs { S with boxes:=(id,some (ty,cs'))::S.boxes } (R.set i (.bx id ty cs')):=by
 have hk:=h.ok i _ hi;refine h.turn (S':={ S with boxes:=(id,some (ty,cs'))::S.boxes }) (r':=.bx id ty cs') (T:=λ_=>False) (L:=λ_=>False) (M:=λ_=>False) (B:=λq=>q=id) (λt ht=>h.wf t ht) ⟨nR _,nR _,nR _,λ_ _ _=>⟨rfl,rfl⟩,λ_ _ _=>rfl,λ_ _ _ h=>h,λ_ _ _=>rfl,λj hj hne=>lk_ne _ _ (λe=>hne e.symm)⟩ (λj s hj hs=>?_) ⟨hk.1,lk_same _ _ _⟩ λj s hj hs=>?_
 ·have hdj:=h.dj i j _ s (λe=>hj e.symm) hi hs;cases s with
  | bx k ty2 es2=>exact λe=>hdj e.symm
  | _=>simp[Rs.off]
 ·have hdj:=h.dj i j _ s (λe=>hj e.symm) hi hs;cases s with
  | bx k ty2 es2=>exact hdj
  | _=>trivial
theorem Hs.newBox {S:St}{R:List Rs}(h:Hs S R)(ty:TypeId)(cs:List AV):Hs { S with nb:=S.nb+1,boxes:=(S.nb,some (ty,cs))::S.boxes } (R++[.bx S.nb ty cs]) :=
 h.more (S':={ S with nb:=S.nb+1,boxes:=(S.nb,some (ty,cs))::S.boxes }) (r':=.bx S.nb ty cs) (λt ht=>h.wf t ht) ⟨nR _,Nat.le_succ _,nR _,λ_ _ _=>⟨rfl,rfl⟩,λ_ _ _=>rfl,λ_ _ _ h=>h,λ_ _ _=>rfl,λi hi _=>lk_ne _ _ (by omega)⟩ ⟨Nat.lt_succ_self _,lk_same _ _ _⟩ λj s hs=>by
  have:=h.ok j s hs;cases s with
  | bx i ty2 es=>intro e;have:=this.1;omega
  | _=>trivial
section
variable {gt:GT}{C:CallT}
theorem st_any {d:Option Nat}{op:DOp}{gd:Option (Nat×Bool)}{env env':Env}{S S':St}{K:Env->St->Prop}{Q:Ex->Env->St->Prop}(hg:Gd env gd)(h:stepO gt d env S op=.done env' S')(k:K env' S'):afterS C d env S K Q (stepI gt ⟨d,op,gd⟩ env S):=by
 rw[st_gd hg,h];exact k
theorem st_anyD {d:Option Nat}{op:DOp}{gd:Option (Nat×Bool)}{l:Option Nat}{env env':Env}{S S':St}{K:Env->St->Prop}{Q:Ex->Env->St->Prop}(hg:Gd env gd)(h0:isLoc op=false)(h1:conform l env op=true)(h:stepO gt d env S op=.done env' S')(k:K env' S'):afterS C d env S K Q (stepD gt (⟨d,op,gd⟩,l) env S):=by
 have:stepD gt (⟨d,op,gd⟩,l) env S=stepO gt d env S op:=by
  cases gd with
  | none=>simp only[stepD,stepDO,h0,h1,cond_false,cond_true]
  | some p =>
   obtain⟨g,w⟩:=p;have hg:lk env g=some (.val (.bool w)):=hg;simp only[stepD,stepDO,h0,h1,cond_false,cond_true,hg,beq_self_eq_true]
 rw[this,h];exact k
theorem r_app {d:Option Nat}{env:Env}{S:St}{R:List Rs}{agg:Bool}{ty:TypeId}{es bytes:Nat}{x y:DOpd}{o:SI}{xs ys:List AV}{yv:AV}{gd:Option (Nat×Bool)}{K:Env->St->Prop}{Q:Ex->Env->St->Prop}(h:Hs S R)(i:Nat)(hi:R[i]? = some (.gr ty o xs))
  (hg:Gd env gd) (hx:opd env x=some (.sl es o xs)) (hy:opd env y=some yv) (hys:srcE S agg es yv=some ys)
  (hb:(xs.length+ys.length)*bytes<=140737488355328) (hb2:xs.length+ys.length<=140737488355328) (hb3:bytes<=1048576) (hes:0<es) (hok:(ys.flatMap AV.cells).all ok1=true)
  (k:∀o' S',Hs S' (R.set i (.gr ty o' (xs++ys)))->K (putV d (.sl es o' (xs++ys)) env) S'):afterS C d env S K Q (stepI gt ⟨d,.app agg ty es bytes x y,gd⟩ env S):=by
 obtain⟨o',S',e,h'⟩:=hs_app (gt:=gt) (d:=d) h i hi hx hy hys hb hb2 hb3 hes hok;exact st_any hg e (k o' S' h')
theorem r_appD {l:Option Nat}{d:Option Nat}{env:Env}{S:St}{R:List Rs}{agg:Bool}{ty:TypeId}{es bytes:Nat}{x y:DOpd}{o:SI}{xs ys:List AV}{yv:AV}{gd:Option (Nat×Bool)}{K:Env->St->Prop}{Q:Ex->Env->St->Prop}(h:Hs S R)(i:Nat)(hi:R[i]? = some (.gr ty o xs))
  (hg:Gd env gd) (hx:opd env x=some (.sl es o xs)) (hy:opd env y=some yv) (hys:srcE S agg es yv=some ys)
  (hb:(xs.length+ys.length)*bytes<=140737488355328) (hb2:xs.length+ys.length<=140737488355328) (hb3:bytes<=1048576) (hes:0<es) (hok:(ys.flatMap AV.cells).all ok1=true)
  (k:∀o' S',Hs S' (R.set i (.gr ty o' (xs++ys)))->K (putV d (.sl es o' (xs++ys)) env) S'):afterS C d env S K Q (stepD gt (⟨d,.app agg ty es bytes x y,gd⟩,l) env S):=by
 obtain⟨o',S',e,h'⟩:=hs_app (gt:=gt) (d:=d) h i hi hx hy hys hb hb2 hb3 hes hok;exact st_anyD hg rfl rfl e (k o' S' h')
end
end Go.Dn
namespace Go.Dn
def isVB:Ent->Bool
 |.val _ |.box _=>true
 | _=>false
theorem keep_cons {env rest:Env}{k:Nat}{r:List Nat}{e:Ent}(h:lk env k=some e)(hv:isVB e=true)(hr:keepE env r=rest):keepE env (k::r)=(k,e)::rest:=by
 subst hr;cases e<;>first | (simp only[keepE,h];done) | cases hv
end Go.Dn
namespace Go.Dn
theorem keep_intro {env l e0:Env}{ks:List Nat}{G:Prop}(h:keepE env ks=l)(k:l=e0->G):keepE env ks=e0->G:=λh'=>k (h.symm.trans h')
end Go.Dn
namespace Go.Dn
theorem sI {gt:GT}{C:CallT}{i:DI}{env env':Env}{S S':St}{K:Env->St->Prop}{Q:Ex->Env->St->Prop}(h:stepI gt i env S=.done env' S')(k:K env' S'):afterS C i.dst env S K Q (stepI gt i env S):=step_rule h k
theorem sD {gt:GT}{C:CallT}{i:DI×Option Nat}{env env':Env}{S S':St}{A B:Env->St->Prop}{Q:Ex->Env->St->Prop}(h:stepD gt i env S=.done env' S')(a:A env' S')(k:B env' S'):afterS C i.1.dst env S (λe s=>A e s/\B e s) Q (stepD gt i env S):=step_ruleD h ⟨a,k⟩
theorem kI {env l e0:Env}{ks:List Nat}{G:Prop}(h:keepE env ks=l)(k:l=e0->G):keepE env ks=e0->G:=keep_intro h k
theorem kN (env:Env):keepE env []=[]:=rfl
theorem kC {env rest:Env}{k:Nat}{r:List Nat}{e:Ent}(h:lk env k=some e)(hv:isVB e=true)(hr:keepE env r=rest):keepE env (k::r)=(k,e)::rest:=keep_cons h hv hr
end Go.Dn

namespace Go.Dn
open Go
theorem goW {G G':Prop}(k:G')(h:G'->G:=by
 intro hk;((try refine And.intro (by rfl) ?_);(conv=>whnf);repeat (first | (refine sI (by rfl) ?_;conv=>whnf) | (refine sD (by rfl) (by rfl) ?_;conv=>whnf) | (generalize hE:keepE _ _=e0;revert hE;apply kI;(repeat (first | exact kN _ | (apply kC;with_unfolding_all rfl;rfl)));rintro rfl;(conv=>whnf);conv=>whnf)));exact hk):G:=h k
theorem goK {G G':Prop}(k:G')(h:G'->G:=by
 intro hk;((try refine And.intro (by rfl) ?_);(conv=>whnf);repeat (refine sI (by rfl) ?_;conv=>whnf);(generalize hE:keepE _ _=e0;revert hE;apply kI;(repeat (first | exact kN _ | (apply kC;with_unfolding_all rfl;rfl)));rintro rfl));exact hk):G:=h k
end Go.Dn

namespace Go.Dn
open Go Go.Proofs.C1
set_option maxRecDepth 100000
attribute [local irreducible] afterS keepE
mutual
def encT:PT->AV
 |.mk k s keys kids=>.agg [.int .i64 k,.str s,.sl 1 stat (strs keys),.sl 4 stat (encTs kids)]
def encTs:List PT->List AV
 | []=>[]
 | t::r=>encT t::encTs r
end
theorem encTs_len:∀l:List PT,(encTs l).length=l.length
 | []=>rfl
 | t::r=>by simp[encTs,encTs_len r]
theorem encTs_get:∀{l:List PT} {i:Nat} (h:i<l.length),(encTs l)[i]? = some (encT l[i])
 | t::r,0,_=>rfl
 | t::r,i+1,h=>by simpa[encTs] using encTs_get (l:=r) (i:=i) (by simpa using h)
theorem encTs_app:∀a b:List PT,encTs (a++b)=encTs a++encTs b
 | [],b=>rfl
 | t::r,b=>by simp[encTs,encTs_app r b]
theorem sta_strs:∀l:List (List UInt8),Stas (strs l)
 | []=>trivial
 | a::r=>⟨trivial,sta_strs r⟩
mutual
theorem sta_T:∀t,Sta (encT t)
 |.mk k s keys kids=>by
  simp only[encT,Sta,Stas];exact⟨trivial,trivial,⟨trivial,sta_strs keys⟩,⟨trivial,sta_Ts kids⟩,trivial⟩
theorem sta_Ts:∀l,Stas (encTs l)
 | []=>trivial
 | t::r=>by simp only[encTs,Stas];exact⟨sta_T t,sta_Ts r⟩
end
theorem encT_agg (t:PT):∃k s a b,encT t=.agg [.int .i64 k,.str s,.sl 1 stat a,.sl 4 stat b]:=by
 cases t;exact⟨_,_,_,_,rfl⟩
theorem rdT (t:PT):(cut (encT t).cells 0 4).bind (mkv true)=some (encT t):=by cases t;rfl
abbrev Ret (u:AV):Res->St->Prop:=λr S1=>∃x,r=.ret x/\Rdo S1 u x
theorem Ret.sta {u:AV}{S:St}(h:Sta u):Ret u (.ret u) S:=⟨u,rfl,h.rdo _⟩
mutual
def size3:PT->Int->Int
 |.mk _ _ _ kids,m=>szs kids m 1
def szs:List PT->Int->Int->Int
 | [],_,n=>n
 | t::r,m,n=>if n<m then szs r m (n+size3 t (m-n)) else n
end
mutual
theorem size3_pos:∀(t:PT) (m:Int),1<=size3 t m
 |.mk _ _ _ kids,m=>by simp only[size3];exact szs_ge kids m 1
theorem szs_ge:∀(l:List PT) (m n:Int),n<=szs l m n
 | [],m,n=>by simp[szs]
 | t::r,m,n=>by
  simp only[szs];split
  ·have h1:=szs_ge r m (n+size3 t (m-n));have h2:=size3_pos t (m-n);omega
  ·omega
end
mutual
theorem size3_le:∀(t:PT) (m:Int),size3 t m<=max 1 m
 |.mk _ _ _ kids,m=>by simp only[size3];have:=szs_le kids m 1;omega
theorem szs_le:∀(l:List PT) (m n:Int),szs l m n<=max n m
 | [],m,n=>by simp[szs];omega
 | t::r,m,n=>by
  simp only[szs];split
  ·have h1:=szs_le r m (n+size3 t (m-n));have h2:=size3_le t (m-n);omega
  ·omega
end
theorem kid_lt {k s keys}{kids:List PT}{i:Nat}(h:i<kids.length):kids[i].n<(PT.mk k s keys kids).n:=by
 have:=PT.ns_mem (List.getElem_mem h);simp only[PT.n];omega
section
variable {gt:GT}{C:CallT}
abbrev E_size (m:Int)(t:PT)(n i:Int):Env:=[(1,.val (.int .i64 m)),(2,.box (encT t).cells),(5,.val (.int .i64 n)),(6,.val (.int .i64 i))]
theorem size3_wp (hm:MonoC C){t:PT}(ih:∀u,u.n<t.n->∀m,m<4611686018427387904->PF C 28 [encT u,.int .i64 m] (.int .i64 (size3 u m)))
  {m:Int} (hb:m<4611686018427387904):wpF gt C F28 [encT t,.int .i64 m] St.init (Ret (.int .i64 (size3 t m))):=by
 obtain⟨k,s,keys,kids⟩:=t;refine⟨rfl,?_⟩;refine goW ?_;have hlen:=encTs_len kids;refine loop_rule hm (α:=Nat×Int) (λa env S'=>a.1<=kids.length/\(a.1:Int)<a.2/\a.2<=max 1 m/\env=E_size m (.mk k s keys kids) a.2 a.1/\S'=St.init/\szs kids m 1=szs (kids.drop a.1) m a.2) (λa=>kids.length-a.1) ?_ (a:=(0,1)) ⟨Nat.zero_le _,by simp,by simp;omega,rfl,rfl,rfl⟩;rintro⟨i,n⟩ env S' ⟨hi,hn1,hn2,rfl,rfl,hp⟩;refine goW ?_;simp only at hi hn1 hn2 hp;by_cases h:(i:Int)<(encTs kids).length
 ·rw[dT h];refine goW ?_;have hik:i<kids.length:=by omega
  by_cases hnm:n<m
  ·rw[dT hnm];refine goW ?_;refine step_ruleO (sx_ia (k:=i) rfl rfl (by omega)) (goW ?_);refine step_ruleO (sx_ldEl (agg:=true) rfl rfl (encTs_get hik) (rdT _)) (goW ?_);rw[wr64 (by omega) (by omega)];refine call_pf hm (by rfl) (ih _ (kid_lt hik) (m-n) (by omega)) (goW ?_);have g1:=size3_pos kids[i] (m-n);have g2:=size3_le kids[i] (m-n);refine⟨(i+1,n+size3 kids[i] (m-n)),⟨by simp only;omega,by simp only;omega,by simp only;omega,?_,rfl,?_⟩,by simp only;omega⟩
   ·rw[wrNat (by omega),wr64 (by omega) (by omega)];try rfl
   ·rw[hp,dC hik];simp only[szs];rw[if_pos hnm]
  ·rw[dF hnm];refine goW ?_;refine⟨_,rfl,?_⟩;rw[size3,hp,dC hik];simp only[szs];rw[if_neg hnm];exact Ret.sta trivial
 ·rw[dF h];refine goW ?_;refine⟨_,rfl,?_⟩;rw[size3,hp,List.drop_eq_nil_of_le (by omega)];simp only[szs];exact Ret.sta trivial
end

theorem beqB_iff {a b:List UInt8}:beqB a b=true↔a=b:=by
 induction a generalizing b with
 | nil=>cases b<;>simp[beqB]
 | cons x a ih =>
  cases b with
  | nil=>simp[beqB]
  | cons y b =>
   simp only[beqB];by_cases h:x=y
   ·subst h;rw[Nat.beq_refl];simp[ih]
   ·have:Nat.beq x.toNat y.toNat=false:=by
     cases hb:Nat.beq x.toNat y.toNat with
     | false=>rfl
     | true=>exact absurd (UInt8.toNat_inj.1 (bE hb)) h
    rw[this];simp[h]
theorem beqB_true {a b:List UInt8}(h:a=b):beqB a b=true:=beqB_iff.2 h
theorem beqB_false {a b:List UInt8}(h:¬a=b):beqB a b=false:=by
 cases hh:beqB a b with
 | false=>rfl
 | true=>exact absurd (beqB_iff.1 hh) h
theorem neI_true {a b:Int}(h:¬a=b):(a != b)=true:=by simp[h]
theorem neI_false {a b:Int}(h:a=b):(a != b)=false:=by simp[h]
theorem eqI_true {a b:Int}(h:a=b):(a == b)=true:=by simp[h]
theorem eqI_false {a b:Int}(h:¬a=b):(a == b)=false:=by simp[h]
theorem cells_strs (l:List (List UInt8)):((strs l).flatMap AV.cells).all ok1=true:=strs_ok l
theorem encT_ok (t:PT):((([encT t]:List AV)).flatMap AV.cells).all ok1=true:=by cases t;rfl
theorem rdos_strs {S:St}(l:List (List UInt8)):Rdos S (strs l) (strs l):=(sta_strs l).rdos
theorem rdos_Ts {S:St}(l:List PT):Rdos S (encTs l) (encTs l):=Stas.rdos _ (sta_Ts l)
theorem rdo_T {S:St}{R:List Rs}(h:Hs S R){i j:Nat}{ty ty2:TypeId}{o1 o2:SI}{k:Int}{s:List UInt8}{keys:List (List UInt8)}{kids:List PT}(hi:R[i]? = some (.gr ty o1 (strs keys)))(hj:R[j]? = some (.gr ty2 o2 (encTs kids))) :
  Rdo S (encT (.mk k s keys kids)) (.agg [.int .i64 k,.str s,.sl 1 o1 (strs keys),.sl 4 o2 (encTs kids)]):=by
 simp only[encT];rw[Rdo];refine⟨_,rfl,?_⟩;simp only[Rdos];exact⟨_,_,rfl,by simp only[Rdo],_,_,rfl,by simp only[Rdo],_,_,rfl,h.rdo hi (rdos_strs keys),_,_,rfl,h.rdo hj (rdos_Ts kids),rfl⟩
section
variable {gt:GT}{C:CallT}
def zT:List AV:=[.int .i64 0,.str [],.sl 1 ⟨none,0,some 0,true⟩ [],.sl 4 ⟨none,0,some 0,true⟩ []]
end

mutual
def eqT:PT->PT->Bool
 |.mk k s keys kids,.mk k' s' keys' kids'=>decide (k=k') && (decide (s=s') && (decide (keys=keys') && eqTs kids kids'))
def eqTs:List PT->List PT->Bool
 | [],[]=>true
 | a::r,b::q=>eqT a b && eqTs r q
 | _,_=>false
end
mutual
theorem eqT_iff:∀{a b:PT},eqT a b=true↔a=b
 |.mk k s keys kids,.mk k' s' keys' kids'=>by simp[eqT,eqTs_iff (a:=kids) (b:=kids')]
theorem eqTs_iff:∀{a b:List PT},eqTs a b=true↔a=b
 | [],[]=>by simp[eqTs]
 | a::r,b::q=>by simp[eqTs,eqT_iff (a:=a) (b:=b),eqTs_iff (a:=r) (b:=q)]
 | [],b::q=>by simp[eqTs]
 | a::r,[]=>by simp[eqTs]
end
theorem eqT_false {a b:PT}(h:¬a=b):eqT a b=false:=by
 cases hh:eqT a b with
 | false=>rfl
 | true=>exact absurd (eqT_iff.1 hh) h
theorem eqT_true {a b:PT}(h:a=b):eqT a b=true:=eqT_iff.2 h
theorem strs_at {l:List (List UInt8)}{i:Nat}(h:i<l.length):(strs l)[i]? = some (.str l[i]):=strs_get (gE h)
def PT.k:PT->Int |.mk k _ _ _=>k
def PT.s:PT->List UInt8 |.mk _ s _ _=>s
def PT.keys:PT->List (List UInt8) |.mk _ _ keys _=>keys
def PT.kids:PT->List PT |.mk _ _ _ kids=>kids
section
variable {gt:GT}{C:CallT}
abbrev E_plain (t u:PT)(i:Int):Env:=[(2,.box (encT t).cells),(3,.box (encT u).cells),(5,.val (.int .i64 i))]
abbrev E_plain2 (t u:PT)(i:Int):Env:=[(2,.box (encT t).cells),(3,.box (encT u).cells),(6,.val (.int .i64 i))]
theorem plain_wp (hm:MonoC C){t t':PT}(ih:∀u,u.n<t.n->∀u',u.ok->PF C 32 [encT u,encT u'] (.bool (eqT u u')))(hk:t.ok) :
  wpF gt C F32 [encT t,encT t'] St.init (Ret (.bool (eqT t t'))):=by
 obtain⟨k,s,keys,kids⟩:=t;obtain⟨k',s',keys',kids'⟩:=t';simp only[PT.ok]at hk;obtain⟨hk1,hk2,hk3⟩:=hk;have no:∀{S:St},¬PT.mk k s keys kids=.mk k' s' keys' kids'->Ret (.bool (eqT (.mk k s keys kids) (.mk k' s' keys' kids'))) (.ret (.bool false)) S:=λh=>by rw[eqT_false h];exact Ret.sta trivial
 have l1:=strs_length keys;have l2:=strs_length keys';have l3:=encTs_len kids;have l4:=encTs_len kids';refine⟨rfl,?_⟩;refine goW ?_;by_cases z0:k=k'
 case neg =>
  rw[neI_true z0];refine goW ?_;exact⟨_,rfl,no (by simp[z0])⟩
 rw[neI_false z0];refine goW ?_;by_cases z1:s=s'
 case neg =>
  rw[beqB_false z1];refine goW ?_;exact⟨_,rfl,no (by simp[z1])⟩
 rw[beqB_true z1];refine goW ?_;by_cases z2:((strs keys).length:Int)=(strs keys').length
 case neg =>
  rw[neI_true z2];refine goW ?_;exact⟨_,rfl,no λh=>by simp only[PT.mk.injEq]at h;rw[h.2.2.1]at z2;exact z2 rfl⟩
 rw[neI_false z2];refine goW ?_;by_cases z3:((encTs kids).length:Int)=(encTs kids').length
 case neg =>
  rw[neI_true z3];refine goW ?_;exact⟨_,rfl,no λh=>by simp only[PT.mk.injEq]at h;rw[h.2.2.2]at z3;exact z3 rfl⟩
 rw[neI_false z3];refine goW ?_;refine loop_rule hm (α:=Nat) (λi env S'=>i<=keys.length/\env=E_plain (.mk k s keys kids) (.mk k' s' keys' kids') i/\S'=St.init/\keys.take i=keys'.take i) (λi=>keys.length-i) ?_ (a:=0) ⟨Nat.zero_le _,rfl,rfl,rfl⟩;rintro i env S' ⟨hi,rfl,rfl,hp⟩;refine goW ?_;by_cases h:(i:Int)<(strs keys).length
 ·rw[dT h];refine goW ?_;have hik:i<keys.length:=by omega
  have hik':i<keys'.length:=by omega
  refine step_ruleDO rfl rfl (sx_ia (k:=i) rfl rfl (by omega)) (goW ?_);refine step_ruleDO rfl rfl (sx_ldEl (agg:=false) rfl rfl (strs_at hik) rfl) (goW ?_);refine step_ruleDO rfl rfl (sx_ia (k:=i) rfl rfl (by omega)) (goW ?_);refine step_ruleDO rfl rfl (sx_ldEl (agg:=false) rfl rfl (strs_at hik') rfl) (goW ?_);by_cases z:keys[i]=keys'[i]
  ·rw[beqB_true z];refine goW ?_;refine⟨i+1,⟨by omega,?_,rfl,?_⟩,by omega⟩
   ·rw[wrNat (by omega)];try rfl
   ·rw[tS hik,tS hik',hp,z]
  ·rw[beqB_false z];refine goW ?_;exact⟨_,rfl,no λh=>by simp only[PT.mk.injEq]at h;obtain⟨_,_,rfl,_⟩:=h;exact z rfl⟩
 rw[dF h];refine goW ?_;have hkeys:keys=keys':=by
  rwa [List.take_of_length_le (by omega),List.take_of_length_le (by omega)]at hp
 clear h hi hp
 refine loop_rule hm (α:=Nat) (λi env S'=>i<=kids.length/\env=E_plain2 (.mk k s keys kids) (.mk k' s' keys' kids') i/\S'=St.init/\kids.take i=kids'.take i) (λi=>kids.length-i) ?_ (a:=0) ⟨Nat.zero_le _,rfl,rfl,rfl⟩;rintro i env S' ⟨hi,rfl,rfl,hp⟩;refine goW ?_;by_cases h:(i:Int)<(encTs kids).length
 ·rw[dT h];refine goW ?_;have hik:i<kids.length:=by omega
  have hik':i<kids'.length:=by omega
  refine step_ruleDO rfl rfl (sx_ia (k:=i) rfl rfl (by omega)) (goW ?_);refine step_ruleDO rfl rfl (sx_ldEl (agg:=true) rfl rfl (encTs_get hik) (rdT _)) (goW ?_);refine step_ruleDO rfl rfl (sx_ia (k:=i) rfl rfl (by omega)) (goW ?_);refine step_ruleDO rfl rfl (sx_ldEl (agg:=true) rfl rfl (encTs_get hik') (rdT _)) (goW ?_);refine call_pfD hm (by rfl) (ih _ (kid_lt hik) _ (PT.oks_get hk3 (gE hik))) (goW ?_);by_cases z:kids[i]=kids'[i]
  ·rw[eqT_true z];refine goW ?_;refine⟨i+1,⟨by omega,?_,rfl,?_⟩,by omega⟩
   ·rw[wrNat (by omega)];try rfl
   ·rw[tS hik,tS hik',hp,z]
  ·rw[eqT_false z];refine goW ?_;exact⟨_,rfl,no λh=>by simp only[PT.mk.injEq]at h;obtain⟨_,_,_,rfl⟩:=h;exact z rfl⟩
 rw[dF h];refine goW ?_;have hkids:kids=kids':=by
  rwa [List.take_of_length_le (by omega),List.take_of_length_le (by omega)]at hp
 refine⟨_,rfl,?_⟩;rw[eqT_true (by rw[z0,z1,hkeys,hkids])];exact Ret.sta trivial
end
end Go.Dn

namespace Go.Dn
open Go Go.RowKit
def El (g:Bool)(es:Nat)(y:AV):Prop:=y.cells.length=es/\mkv g y.cells=some y
theorem cut_mid {pre m post:List AV}{n k:Nat}(hn:n=pre.length)(hk:k=m.length):cut (pre++(m++post)) n k=some m:=by
 subst hn;subst hk;unfold cut;rw[ble_true (by simp only[lA];omega)];simp
theorem cutAll_flat {g:Bool}{es:Nat}:∀{ys:List AV},(∀y∈ys,El g es y)->∀(pre post:List AV),cutAll g es (pre++(ys.flatMap AV.cells++post)) pre.length ys.length=some ys
 | [],_,_,_=>rfl
 | y::r,h,pre,post=>by
  obtain⟨h1,h2⟩:=h y (by simp);have ih:=cutAll_flat (ys:=r) (λz hz=>h z (by simp[hz])) (pre++y.cells) post;simp only[lC,cutAll,List.flatMap_cons,aA];rw[cut_mid rfl h1.symm];simp only[Option.bind_some,h2];rw[lA,h1,aA]at ih;rw[ih]
theorem flat_length {es:Nat}:∀{ys:List AV},(∀y∈ys,y.cells.length=es)->(ys.flatMap AV.cells).length=ys.length*es
 | [],_=>by simp
 | y::r,h=>by
  have:=flat_length (ys:=r) λz hz=>h z (by simp[hz]);simp only[List.flatMap_cons,lA,lC,this,h y (by simp),Nat.add_mul];omega
theorem rd_mk {S:St}{t l b:Nat}{off:Nat}{cap:Option Nat}{nl:Bool}(h:RsOK S (.mk t l b)):rd S ⟨some (t,l),off,cap,nl⟩=.box b 0:=by
 simp only[rd,h.2.2]
theorem splice_mid {pre m post new m':List AV}{n off:Nat}(hn:n=pre.length+off)(hl:off+new.length<=m.length)(hm:m'=splice m off new):splice (pre++(m++post)) n new=pre++(m'++post):=by
 subst hn;subst hm;unfold splice;rw[List.take_append,List.drop_append];simp only[List.take_append,List.drop_append,aA];rw[List.take_of_length_le (l:=pre) (by omega),List.drop_of_length_le (l:=pre) (by omega)];rw[show pre.length+off-pre.length=off by omega,show pre.length+off+new.length-pre.length=off+new.length by omega];rw[show off-m.length=0 by omega,List.take_zero,show off+new.length-m.length=0 by omega,List.drop_zero];simp
theorem split_at {ys:List AV}{k:Nat}(h:k<ys.length):ys=ys.take k++ys[k]::ys.drop (k+1):=by
 rw[List.getElem_cons_drop,tkD]
theorem set_split {ys:List AV}{k:Nat}{v:AV}(h:k<ys.length):ys.set k v=ys.take k++v::ys.drop (k+1):=by
 rw[List.set_eq_take_append_cons_drop,if_pos h]
section
variable {gt:GT}{C:CallT}{S:St}{R:List Rs}
theorem arr_els (h:Hs S R){i j:Nat}{b t l:Nat}{ty:TypeId}{ys post:List AV}{g:Bool}{es:Nat}(hi:R[i]? = some (.bx b ty (ys.flatMap AV.cells++post)))(hj:R[j]? = some (.mk t l b))(hel:∀y∈ys,El g es y)
  {xs:List AV} {off:Nat} {cap:Option Nat} {nl:Bool} (hx:off+xs.length<=ys.length):elems S g es ⟨some (t,l),off,cap,nl⟩ xs=some ((ys.drop off).take xs.length):=by
 have hb:=(h.ok i _ hi).2;have hm:=h.ok j _ hj;unfold elems;rw[rd_mk hm];simp only[hb];have e:ys=ys.take off++((ys.drop off).take xs.length++(ys.drop off).drop xs.length):=by rw[tkD,tkD]
 have hsz:∀y∈ys,y.cells.length=es:=λy hy=>(hel y hy).1;have:=cutAll_flat (g:=g) (es:=es) (ys:=(ys.drop off).take xs.length) (λy hy=>hel y (List.mem_of_mem_drop (List.mem_of_mem_take hy))) ((ys.take off).flatMap AV.cells) (((ys.drop off).drop xs.length).flatMap AV.cells++post);rw[flat_length λy hy=>hsz y (List.mem_of_mem_take hy),lT,lT,lD,Nat.min_eq_left (by omega),Nat.min_eq_left (by omega)]at this;rw[Nat.zero_add,<-this]
 congr 1
 conv=>lhs;rw[e]
 simp only[List.flatMap_append,aA]
theorem hs_mks {d:Option Nat}{env:Env}{ty:TypeId}{es bytes n c:Nat}{z:AV}{x y:DOpd}(h:Hs S R)(hl:(opd env x).bind nat? = some n)(hc:(opd env y).bind nat? = some c)(hle:n<=c)(hpos:0<c)(hb:c*bytes<=17592186044416)(hc2:c<=17592186044416)(hz:z.cells.length=es) :
  ∃t b S',stepO gt d env S (.mks ty es bytes z x y)=.done (putV d (.sl es ⟨some (t,t),0,some c,false⟩ (List.replicate n z)) env) S'/\Hs S' (R++[.bx b ty ((List.replicate c z).flatMap AV.cells)]++[.mk t t b]):=by
 have hfl:(List.replicate c z.cells).flatten=(List.replicate c z).flatMap AV.cells:=by
  clear hle hpos hb hc2 hc
  induction c with
  | zero=>rfl
  | succ c ih=>simp only[List.replicate_succ,List.flatten_cons,List.flatMap_cons,ih]
 refine⟨S.nt,S.nb,{ S with nb:=S.nb+1,boxes:=(S.nb,some (ty,(List.replicate c z).flatMap AV.cells))::S.boxes,nt:=S.nt+1,tip:=(S.nt,none)::S.tip,mv:=(S.nt,.bx S.nb 0)::S.mv },?_,?_⟩
 ·have hg:(Nat.ble n c && (Nat.ble (c*bytes) 17592186044416 && (Nat.ble c 17592186044416 && Nat.beq z.cells.length es)))=true:=by
   rw[ble_true hle,ble_true hb,ble_true hc2,hz,Nat.beq_refl];rfl
  have h0:Nat.beq c 0=false:=by
   cases hq:Nat.beq c 0 with
   | false=>rfl
   | true=>have:=bE hq;omega
  simp only[stepO,hl,hc,hg,cond_true,h0,cond_false,hfl]
 ·have h1:=h.newBox ty ((List.replicate c z).flatMap AV.cells);refine h1.more (S':={ S with nb:=S.nb+1,boxes:=(S.nb,some (ty,(List.replicate c z).flatMap AV.cells))::S.boxes,nt:=S.nt+1,tip:=(S.nt,none)::S.tip,mv:=(S.nt,.bx S.nb 0)::S.mv }) (r':=.mk S.nt S.nt S.nb) (λt ht=>?_) ⟨Nat.le_succ _,nR _,nR _,λt ht _=>⟨lk_ne _ _ (by simp only at ht;omega),lk_ne _ _ (by simp only at ht;omega)⟩,λ_ _ _=>rfl,λt m ht hm=>?_,λ_ _ _=>rfl,λ_ _ _=>rfl⟩ ⟨Nat.lt_succ_self _,Nat.lt_succ_self _,lk_same _ _ _⟩ λj s _=>?_
  ·simp only at ht ⊢;have:=h.wf t (by omega);exact⟨by rw[lk_ne _ _ (by omega)];exact this.1,this.2⟩
  ·simp only at ht hm ⊢;rw[lk_ne _ _ (by omega)];exact hm
  ·cases s<;>trivial
theorem arr_st (h:Hs S R)(i:Nat){j:Nat}{b t l:Nat}{ty:TypeId}{ys post:List AV}{es:Nat}(hi:R[i]? = some (.bx b ty (ys.flatMap AV.cells++post)))(hj:R[j]? = some (.mk t l b))(hsz:∀y∈ys,y.cells.length=es)
  {d:Option Nat} {env:Env} {a x:DOpd} {xs:List AV} {so k off sz:Nat} {cap:Option Nat} {nl:Bool} {v v':AV} (ha:loc env a=some (.el es ⟨some (t,l),so,cap,nl⟩ xs k off)) (hx:opd env x=some v) (hv:(Nat.beq v.cells.length sz && v.cells.all ok1)=true)
  (hk:k<xs.length) (hk2:so+k<ys.length) (ho:off+v.cells.length<=es) (hv':v'.cells=splice ys[so+k].cells off v.cells) :
  ∃S',stepO gt d env S (.st sz a x)=.done (putV d .undef env) S'/\Hs S' (R.set i (.bx b ty ((ys.set (so+k) v').flatMap AV.cells++post))):=by
 have hb:=(h.ok i _ hi).2;have hm:=h.ok j _ hj;have hfl:=flat_length hsz;have hle:(so+k+1)*es<=ys.length*es:=Nat.mul_le_mul_right _ (by omega);rw[Nat.add_mul]at hle;have hspl:splice (ys.flatMap AV.cells++post) (0+(so+k)*es+off) v.cells=(ys.set (so+k) v').flatMap AV.cells++post:=by
  rw[set_split hk2]
  conv=>lhs;rw[split_at hk2]
  simp only[List.flatMap_append,List.flatMap_cons,aA];refine splice_mid ?_ ?_ hv'
  ·rw[flat_length λy hy=>hsz y (List.mem_of_mem_take hy),lT,Nat.min_eq_left (by omega)];omega
  ·rw[hsz _ (List.getElem_mem _)];exact ho
 refine⟨{ S with boxes:=(b,some (ty,(ys.set (so+k) v').flatMap AV.cells++post))::S.boxes },?_,h.boxTo hi _⟩;have hg:(Nat.ble (off+v.cells.length) es && (Nat.blt k xs.length && Nat.ble (0+(so+k)*es+off+v.cells.length) (ys.flatMap AV.cells++post).length))=true:=by
  rw[ble_true ho,show Nat.blt k xs.length=true from Nat.ble_eq_true_of_le hk,ble_true (by rw[lA,hfl];omega)];rfl
 simp only[stepO,ha,hx,hv,cond_true,stL,rd_mk hm,hb,hg,hspl]
end
theorem r_mks {C:CallT}{gt:GT}{S:St}{R:List Rs}{d:Option Nat}{env:Env}{ty:TypeId}{es bytes n c:Nat}{z:AV}{x y:DOpd}{gd:Option (Nat×Bool)}{K:Env->St->Prop}{Q:Ex->Env->St->Prop}(h:Hs S R)(hg:Gd env gd)(hl:(opd env x).bind nat? = some n)(hc:(opd env y).bind nat? = some c)(hle:n<=c)(hpos:0<c)(hb:c*bytes<=17592186044416)(hc2:c<=17592186044416)(hz:z.cells.length=es)
  (k:∀t b S',Hs S' (R++[.bx b ty ((List.replicate c z).flatMap AV.cells)]++[.mk t t b])->K (putV d (.sl es ⟨some (t,t),0,some c,false⟩ (List.replicate n z)) env) S'):afterS C d env S K Q (stepI gt ⟨d,.mks ty es bytes z x y,gd⟩ env S):=by
 obtain⟨t,b,S',h1,h2⟩:=hs_mks (gt:=gt) (d:=d) h hl hc hle hpos hb hc2 hz;exact st_any hg h1 (k t b S' h2)
end Go.Dn
