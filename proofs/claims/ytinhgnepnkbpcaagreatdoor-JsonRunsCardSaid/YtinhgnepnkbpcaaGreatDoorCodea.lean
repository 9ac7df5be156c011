/- The code of the functions that are reached, printed by a program (Gen). -/
import Derived.Test.YtinhgnepnkbpcaaGreatDoorProg
import Derived.Test.YtinhgnepnkbpcaaGreatDoorDnZ
namespace Go.Proofs.YtinhgnepnkbpcaaGreatDoor.C1
open Go Go.Dn
set_option maxRecDepth 100000
/-- emend/emendlaw5.JsonRuns -/
def F3 : DF := ⟨0,
(.seq
 (.reg [
   ⟨some 0, .mv (.c (.bool false)), none⟩] [])
 (.seq
  (.reg [
    ⟨some 12, .call 9 [(.c (.str [32, 91, 49, 32, 44, 32, 50, 32, 93]))], none⟩,
    ⟨some 11, .mv (.t 12), none⟩,
    ⟨some 13, .ext (.t 11) 0, none⟩,
    ⟨some 14, .ext (.t 11) 1, none⟩,
    ⟨some 1, .alL [(.int .i64 0), (.str []), (.str []), (.str []), (.int .i64 0), (.str []), (.sl 1 ⟨none, 0, (some 0), true⟩ []), (.sl 4 ⟨none, 0, (some 0), true⟩ []), (.str []), (.sl 14 ⟨none, 0, (some 0), true⟩ []), (.sl 1 ⟨none, 0, (some 0), true⟩ []), (.str []), (.str []), (.int .i64 0)], none⟩,
    ⟨none, .st 14 (.t 1) (.t 13), none⟩,
    ⟨some 2, .mv (.t 14), none⟩] [1, 2])
  (.seq
   (.seq
    (.reg [
      ⟨some 15, .mv (.t 2), none⟩,
      ⟨some 16, .bin .neq (some .ifc) (.t 15) (.c .nilif), none⟩,
      ⟨some 17, .mv (.t 16), none⟩,
      ⟨some 18, .fa 1 (.t 1), some (17, false)⟩,
      ⟨some 19, .ld false 1 (.t 18), some (17, false)⟩,
      ⟨some 20, .bin .neq (some .str) (.t 19) (.c (.str [32])), some (17, false)⟩,
      ⟨some 21, .pick (.t 17) (.c (.bool true)) (.t 20), none⟩,
      ⟨some 22, .mv (.t 21), none⟩,
      ⟨some 23, .fa 9 (.t 1), some (22, false)⟩,
      ⟨some 24, .ld false 1 (.t 23), some (22, false)⟩,
      ⟨some 25, .len (.t 24), some (22, false)⟩,
      ⟨some 26, .bin .neq (some .int) (.t 25) (.c (.int .i64 2)), some (22, false)⟩,
      ⟨some 27, .pick (.t 22) (.c (.bool true)) (.t 26), none⟩,
      ⟨some 28, .mv (.t 27), none⟩,
      ⟨some 29, .fa 9 (.t 1), some (28, false)⟩,
      ⟨some 30, .ld false 1 (.t 29), some (28, false)⟩,
      ⟨some 31, .ia 14 (.t 30) (.c (.int .i64 0)), some (28, false)⟩,
      ⟨some 32, .fa 3 (.t 31), some (28, false)⟩,
      ⟨some 33, .ld false 1 (.t 32), some (28, false)⟩,
      ⟨some 34, .bin .neq (some .str) (.t 33) (.c (.str [49])), some (28, false)⟩,
      ⟨some 35, .pick (.t 28) (.c (.bool true)) (.t 34), none⟩,
      ⟨some 36, .mv (.t 35), none⟩,
      ⟨some 37, .fa 9 (.t 1), some (36, false)⟩,
      ⟨some 38, .ld false 1 (.t 37), some (36, false)⟩,
      ⟨some 39, .ia 14 (.t 38) (.c (.int .i64 0)), some (36, false)⟩,
      ⟨some 40, .fa 12 (.t 39), some (36, false)⟩,
      ⟨some 41, .ld false 1 (.t 40), some (36, false)⟩,
      ⟨some 42, .bin .neq (some .str) (.t 41) (.c (.str [32])), some (36, false)⟩,
      ⟨some 43, .pick (.t 36) (.c (.bool true)) (.t 42), none⟩,
      ⟨some 44, .mv (.t 43), none⟩,
      ⟨some 45, .fa 9 (.t 1), some (44, false)⟩,
      ⟨some 46, .ld false 1 (.t 45), some (44, false)⟩,
      ⟨some 47, .ia 14 (.t 46) (.c (.int .i64 1)), some (44, false)⟩,
      ⟨some 48, .fa 1 (.t 47), some (44, false)⟩,
      ⟨some 49, .ld false 1 (.t 48), some (44, false)⟩,
      ⟨some 50, .bin .neq (some .str) (.t 49) (.c (.str [32])), some (44, false)⟩,
      ⟨some 51, .pick (.t 44) (.c (.bool true)) (.t 50), none⟩,
      ⟨some 52, .mv (.t 51), none⟩,
      ⟨some 53, .fa 9 (.t 1), some (52, false)⟩,
      ⟨some 54, .ld false 1 (.t 53), some (52, false)⟩,
      ⟨some 55, .ia 14 (.t 54) (.c (.int .i64 1)), some (52, false)⟩,
      ⟨some 56, .fa 12 (.t 55), some (52, false)⟩,
      ⟨some 57, .ld false 1 (.t 56), some (52, false)⟩,
      ⟨some 58, .bin .neq (some .str) (.t 57) (.c (.str [32])), some (52, false)⟩,
      ⟨some 59, .pick (.t 52) (.c (.bool true)) (.t 58), none⟩,
      ⟨some 60, .mv (.t 59), none⟩,
      ⟨some 61, .fa 10 (.t 1), some (60, false)⟩,
      ⟨some 62, .ld false 1 (.t 61), some (60, false)⟩,
      ⟨some 63, .bldT 9 1 1 (.str []) [(0, (.c (.str [44])))], some (60, false)⟩,
      ⟨some 64, .call 10 [(.t 62), (.t 63)], some (60, false)⟩,
      ⟨some 65, .un .not (.t 64), some (60, false)⟩,
      ⟨some 66, .pick (.t 60) (.c (.bool true)) (.t 65), none⟩] [66])
    (.cnd (.t 66)
     (.seq
      (.reg [
        ⟨some 0, .mv (.c (.bool false)), none⟩] [0])
      .ret)
     .skip))
   (.seq
    (.reg [
      ⟨some 68, .call 9 [(.c (.str [123, 34, 97, 34, 32, 58, 32, 49, 125]))], none⟩,
      ⟨some 67, .mv (.t 68), none⟩,
      ⟨some 69, .ext (.t 67) 0, none⟩,
      ⟨some 70, .ext (.t 67) 1, none⟩,
      ⟨some 3, .alL [(.int .i64 0), (.str []), (.str []), (.str []), (.int .i64 0), (.str []), (.sl 1 ⟨none, 0, (some 0), true⟩ []), (.sl 4 ⟨none, 0, (some 0), true⟩ []), (.str []), (.sl 14 ⟨none, 0, (some 0), true⟩ []), (.sl 1 ⟨none, 0, (some 0), true⟩ []), (.str []), (.str []), (.int .i64 0)], none⟩,
      ⟨none, .st 14 (.t 3) (.t 69), none⟩,
      ⟨some 2, .mv (.t 70), none⟩] [2, 3])
    (.seq
     (.seq
      (.reg [
        ⟨some 71, .mv (.t 2), none⟩,
        ⟨some 72, .bin .neq (some .ifc) (.t 71) (.c .nilif), none⟩,
        ⟨some 73, .mv (.t 72), none⟩,
        ⟨some 74, .fa 9 (.t 3), some (73, false)⟩,
        ⟨some 75, .ld false 1 (.t 74), some (73, false)⟩,
        ⟨some 76, .len (.t 75), some (73, false)⟩,
        ⟨some 77, .bin .neq (some .int) (.t 76) (.c (.int .i64 1)), some (73, false)⟩,
        ⟨some 78, .pick (.t 73) (.c (.bool true)) (.t 77), none⟩,
        ⟨some 79, .mv (.t 78), none⟩,
        ⟨some 80, .fa 9 (.t 3), some (79, false)⟩,
        ⟨some 81, .ld false 1 (.t 80), some (79, false)⟩,
        ⟨some 82, .ia 14 (.t 81) (.c (.int .i64 0)), some (79, false)⟩,
        ⟨some 83, .fa 1 (.t 82), some (79, false)⟩,
        ⟨some 84, .ld false 1 (.t 83), some (79, false)⟩,
        ⟨some 85, .bin .neq (some .str) (.t 84) (.c (.str [34, 97, 34, 32, 58, 32])), some (79, false)⟩,
        ⟨some 86, .pick (.t 79) (.c (.bool true)) (.t 85), none⟩,
        ⟨some 87, .mv (.t 86), none⟩,
        ⟨some 88, .fa 9 (.t 3), some (87, false)⟩,
        ⟨some 89, .ld false 1 (.t 88), some (87, false)⟩,
        ⟨some 90, .ia 14 (.t 89) (.c (.int .i64 0)), some (87, false)⟩,
        ⟨some 91, .fa 2 (.t 90), some (87, false)⟩,
        ⟨some 92, .ld false 1 (.t 91), some (87, false)⟩,
        ⟨some 93, .bin .neq (some .str) (.t 92) (.c (.str [97])), some (87, false)⟩,
        ⟨some 94, .pick (.t 87) (.c (.bool true)) (.t 93), none⟩,
        ⟨some 95, .mv (.t 94), none⟩,
        ⟨some 96, .fa 9 (.t 3), some (95, false)⟩,
        ⟨some 97, .ld false 1 (.t 96), some (95, false)⟩,
        ⟨some 98, .ia 14 (.t 97) (.c (.int .i64 0)), some (95, false)⟩,
        ⟨some 99, .fa 3 (.t 98), some (95, false)⟩,
        ⟨some 100, .ld false 1 (.t 99), some (95, false)⟩,
        ⟨some 101, .bin .neq (some .str) (.t 100) (.c (.str [49])), some (95, false)⟩,
        ⟨some 102, .pick (.t 95) (.c (.bool true)) (.t 101), none⟩] [102])
      (.cnd (.t 102)
       (.seq
        (.reg [
          ⟨some 0, .mv (.c (.bool false)), none⟩] [0])
        .ret)
       .skip))
     (.seq
      (.reg [
        ⟨some 104, .call 9 [(.c (.str [91, 32, 93]))], none⟩,
        ⟨some 103, .mv (.t 104), none⟩,
        ⟨some 105, .ext (.t 103) 0, none⟩,
        ⟨some 106, .ext (.t 103) 1, none⟩,
        ⟨some 4, .alL [(.int .i64 0), (.str []), (.str []), (.str []), (.int .i64 0), (.str []), (.sl 1 ⟨none, 0, (some 0), true⟩ []), (.sl 4 ⟨none, 0, (some 0), true⟩ []), (.str []), (.sl 14 ⟨none, 0, (some 0), true⟩ []), (.sl 1 ⟨none, 0, (some 0), true⟩ []), (.str []), (.str []), (.int .i64 0)], none⟩,
        ⟨none, .st 14 (.t 4) (.t 105), none⟩,
        ⟨some 2, .mv (.t 106), none⟩] [2, 4])
      (.seq
       (.seq
        (.reg [
          ⟨some 107, .mv (.t 2), none⟩,
          ⟨some 108, .bin .neq (some .ifc) (.t 107) (.c .nilif), none⟩,
          ⟨some 109, .mv (.t 108), none⟩,
          ⟨some 110, .fa 8 (.t 4), some (109, false)⟩,
          ⟨some 111, .ld false 1 (.t 110), some (109, false)⟩,
          ⟨some 112, .bin .neq (some .str) (.t 111) (.c (.str [91, 32])), some (109, false)⟩,
          ⟨some 113, .pick (.t 109) (.c (.bool true)) (.t 112), none⟩,
          ⟨some 114, .mv (.t 113), none⟩,
          ⟨some 115, .fa 11 (.t 4), some (114, false)⟩,
          ⟨some 116, .ld false 1 (.t 115), some (114, false)⟩,
          ⟨some 117, .bin .neq (some .str) (.t 116) (.c (.str [93])), some (114, false)⟩,
          ⟨some 118, .pick (.t 114) (.c (.bool true)) (.t 117), none⟩] [118])
        (.cnd (.t 118)
         (.seq
          (.reg [
            ⟨some 0, .mv (.c (.bool false)), none⟩] [0])
          .ret)
         .skip))
       (.seq
        (.reg [
          ⟨some 5, .mv (.c (.str [])), none⟩] [5])
        (.seq
         (.seq
          (.reg [
            ⟨some 6, .mv (.c (.int .i64 0)), none⟩] [5, 6])
          (.blk 0
           (.seq
            (.trim [5, 6])
            (.lop
             (.seq
              (.seq
               (.seq
                (.reg [
                  ⟨some 119, .mv (.t 6), none⟩,
                  ⟨some 120, .bin .lss none (.t 119) (.c (.int .i64 65)), none⟩] [5, 6, 120])
                (.cnd (.t 120)
                 .skip
                 (.exit 0)))
               (.seq
                (.blk 1
                 (.reg [
                   ⟨some 123, .mv (.t 5), none⟩,
                   ⟨some 124, .bin .add none (.t 123) (.c (.str [91])), none⟩,
                   ⟨some 5, .mv (.t 124), none⟩] [5, 6]))
                (.reg [
                  ⟨some 121, .mv (.t 6), none⟩,
                  ⟨some 122, .bin .add none (.t 121) (.c (.int .i64 1)), none⟩,
                  ⟨some 6, .mv (.t 122), none⟩] [5, 6])))
              (.trim [5, 6]))))))
         (.seq
          (.reg [
            ⟨some 126, .call 12 [(.c (.str [123, 34, 98, 34, 58, 49, 44, 34, 97, 34, 58, 91, 93, 125]))], none⟩,
            ⟨some 127, .call 11 [(.t 126)], none⟩,
            ⟨some 125, .mv (.t 127), none⟩,
            ⟨some 128, .ext (.t 125) 0, none⟩,
            ⟨some 129, .ext (.t 125) 1, none⟩,
            ⟨some 7, .mv (.t 128), none⟩,
            ⟨some 8, .mv (.t 129), none⟩] [5, 7, 8])
          (.seq
           (.reg [
             ⟨some 131, .call 12 [(.c (.str [64, 50, 48, 50, 54, 45, 48, 49, 45, 48, 49]))], none⟩,
             ⟨some 132, .call 11 [(.t 131)], none⟩,
             ⟨some 130, .mv (.t 132), none⟩,
             ⟨some 133, .ext (.t 130) 0, none⟩,
             ⟨some 134, .ext (.t 130) 1, none⟩,
             ⟨some 9, .mv (.t 133), none⟩,
             ⟨some 10, .mv (.t 134), none⟩] [5, 7, 8, 10])
           (.seq
            (.reg [
              ⟨some 135, .call 13 [(.c (.str [49, 46, 53, 48])), (.c (.str [49, 53, 101, 45, 49]))], none⟩,
              ⟨some 136, .mv (.t 135), none⟩,
              ⟨some 137, .call 14 [(.c (.str [123, 34, 97, 34, 58, 49, 44, 34, 92, 117, 48, 48, 54, 49, 34, 58, 50, 125])), (.c (.int .i64 7)), (.c (.int .i64 15))], some (136, true)⟩,
              ⟨some 138, .pick (.t 136) (.t 137) (.c (.bool false)), none⟩,
              ⟨some 139, .mv (.t 138), none⟩,
              ⟨some 140, .call 14 [(.c (.str [64, 50, 48, 50, 54, 45, 48, 49, 45, 48, 49])), (.c (.int .i64 0)), (.c (.int .i64 13))], some (139, true)⟩,
              ⟨some 141, .pick (.t 139) (.t 140) (.c (.bool false)), none⟩,
              ⟨some 142, .mv (.t 141), none⟩,
              ⟨some 143, .call 14 [(.c (.str [91, 49, 32, 50, 93])), (.c (.int .i64 3)), (.c (.int .i64 13))], some (142, true)⟩,
              ⟨some 144, .pick (.t 142) (.t 143) (.c (.bool false)), none⟩,
              ⟨some 145, .mv (.t 144), none⟩,
              ⟨some 146, .call 14 [(.c (.str [])), (.c (.int .i64 0)), (.c (.int .i64 14))], some (145, true)⟩,
              ⟨some 147, .pick (.t 145) (.t 146) (.c (.bool false)), none⟩,
              ⟨some 148, .mv (.t 147), none⟩,
              ⟨some 149, .call 14 [(.c (.str [34, 92, 117, 100, 56, 48, 48, 34])), (.c (.int .i64 1)), (.c (.int .i64 11))], some (148, true)⟩,
              ⟨some 150, .pick (.t 148) (.t 149) (.c (.bool false)), none⟩,
              ⟨some 151, .mv (.t 150), none⟩,
              ⟨some 152, .mv (.t 5), some (151, true)⟩,
              ⟨some 153, .call 14 [(.t 152), (.c (.int .i64 64)), (.c (.int .i64 4))], some (151, true)⟩,
              ⟨some 154, .pick (.t 151) (.t 153) (.c (.bool false)), none⟩,
              ⟨some 155, .mv (.t 154), none⟩,
              ⟨some 156, .mv (.t 7), some (155, true)⟩,
              ⟨some 157, .bin .eql (some .str) (.t 156) (.c (.str [123, 34, 97, 34, 58, 32, 91, 93, 44, 32, 34, 98, 34, 58, 32, 49, 125])), some (155, true)⟩,
              ⟨some 158, .pick (.t 155) (.t 157) (.c (.bool false)), none⟩,
              ⟨some 159, .mv (.t 158), none⟩,
              ⟨some 160, .mv (.t 8), some (159, true)⟩,
              ⟨some 161, .bin .eql (some .int) (.t 160) (.c (.int .i64 0)), some (159, true)⟩,
              ⟨some 162, .pick (.t 159) (.t 161) (.c (.bool false)), none⟩,
              ⟨some 163, .mv (.t 162), none⟩,
              ⟨some 164, .mv (.t 10), some (163, true)⟩,
              ⟨some 165, .bin .eql (some .int) (.t 164) (.c (.int .i64 30)), some (163, true)⟩,
              ⟨some 166, .pick (.t 163) (.t 165) (.c (.bool false)), none⟩,
              ⟨some 0, .mv (.t 166), none⟩] [0])
            .ret)))))))))))),
[.tmp 0]⟩
theorem F3_ok : prepF Go.Proofs.Tryz.prog ⟨[1, 3, 4], [(0, []), (1, [1, 2]), (2, [66]), (3, [0]), (4, [2, 3]), (5, [102]), (6, [0]), (7, [2, 4]), (8, [118]), (9, [0]), (10, [5]), (11, [5, 6]), (12, [5, 6, 120]), (13, [5, 6]), (14, [5, 6]), (15, [5, 7, 8]), (16, [5, 7, 8, 10]), (17, [0]), (1000000, [5, 6])], []⟩ Go.Proofs.Tryz.f3 = some F3 := by kernel_rfl
theorem F3_fn : FnOK2 Go.Proofs.Tryz.prog 3 (.pl F3) := .pl Go.Proofs.Tryz.func3 (by kernel_rfl) F3_ok
/-- emend/json.Parse -/
def F9 : DF := ⟨1,
(.seq
 (.reg [
   ⟨some 1, .bxH 9 (.t 0), none⟩,
   ⟨some 2, .alL [(.int .i64 0), (.str []), (.str []), (.str []), (.int .i64 0), (.str []), (.sl 1 ⟨none, 0, (some 0), true⟩ []), (.sl 4 ⟨none, 0, (some 0), true⟩ []), (.str []), (.sl 14 ⟨none, 0, (some 0), true⟩ []), (.sl 1 ⟨none, 0, (some 0), true⟩ []), (.str []), (.str []), (.int .i64 0)], none⟩,
   ⟨some 3, .mv (.c .nilif), none⟩] [1, 2])
 (.seq
  (.reg [
    ⟨some 4, .alH 28 [(.int .i64 0), (.str []), (.str []), (.str []), (.int .i64 0), (.str []), (.sl 1 ⟨none, 0, (some 0), true⟩ []), (.sl 4 ⟨none, 0, (some 0), true⟩ []), (.str []), (.sl 14 ⟨none, 0, (some 0), true⟩ []), (.sl 1 ⟨none, 0, (some 0), true⟩ []), (.str []), (.str []), (.int .i64 0)], none⟩] [1, 2, 4])
  (.seq
   (.reg [
     ⟨some 6, .ld false 1 (.t 1), none⟩,
     ⟨some 7, .mkf 33 [] [(.t 4), (.t 1)], none⟩,
     ⟨some 8, .call 32 [(.t 6), (.t 7)], none⟩,
     ⟨some 5, .mv (.t 8), none⟩] [2, 4, 5])
   (.seq
    (.seq
     (.reg [
       ⟨some 9, .mv (.t 5), none⟩,
       ⟨some 10, .bin .neq (some .ifc) (.t 9) (.c .nilif), none⟩] [2, 4, 5, 10])
     (.cnd (.t 10)
      (.seq
       (.reg [
         ⟨some 11, .bld [(.int .i64 0), (.str []), (.str []), (.str []), (.int .i64 0), (.str []), (.sl 1 ⟨none, 0, (some 0), true⟩ []), (.sl 4 ⟨none, 0, (some 0), true⟩ []), (.str []), (.sl 14 ⟨none, 0, (some 0), true⟩ []), (.sl 1 ⟨none, 0, (some 0), true⟩ []), (.str []), (.str []), (.int .i64 0)] [], none⟩,
         ⟨some 12, .mv (.t 5), none⟩,
         ⟨none, .st 14 (.t 2) (.t 11), none⟩,
         ⟨some 3, .mv (.t 12), none⟩] [2, 3])
       .ret)
      .skip))
    (.seq
     (.reg [
       ⟨some 13, .ld true 14 (.t 4), none⟩,
       ⟨none, .st 14 (.t 2) (.t 13), none⟩,
       ⟨some 3, .mv (.c .nilif), none⟩] [2, 3])
     .ret))))),
[.cell 2 true 14, .tmp 3]⟩
theorem F9_ok : prepF Go.Proofs.Tryz.prog ⟨[2], [(0, [1, 2]), (1, [1, 2, 4]), (2, [2, 4, 5]), (3, [2, 4, 5, 10]), (4, [2, 3]), (5, [2, 3])], []⟩ Go.Proofs.Tryz.f9 = some F9 := by kernel_rfl
theorem F9_fn : FnOK2 Go.Proofs.Tryz.prog 9 (.pl F9) := .pl Go.Proofs.Tryz.func9 (by kernel_rfl) F9_ok
/-- emend/emendbook.Same[string] -/
def F10 : DF := ⟨2,
(.seq
 (.reg [
   ⟨some 4, .mv (.c (.bool false)), none⟩] [0, 1])
 (.seq
  (.seq
   (.reg [
     ⟨some 6, .mv (.t 0), none⟩,
     ⟨some 7, .len (.t 6), none⟩,
     ⟨some 8, .mv (.t 1), none⟩,
     ⟨some 9, .len (.t 8), none⟩,
     ⟨some 10, .bin .neq (some .int) (.t 7) (.t 9), none⟩] [0, 1, 10])
   (.cnd (.t 10)
    (.seq
     (.reg [
       ⟨some 4, .mv (.c (.bool false)), none⟩] [4])
     .ret)
    .skip))
  (.seq
   (.seq
    (.reg [
      ⟨some 5, .mv (.c (.int .i64 0)), none⟩] [0, 1, 5])
    (.blk 0
     (.seq
      (.trim [0, 1, 5])
      (.lop
       (.seq
        (.seq
         (.seq
          (.reg [
            ⟨some 11, .mv (.t 5), none⟩,
            ⟨some 12, .mv (.t 0), none⟩,
            ⟨some 13, .len (.t 12), none⟩,
            ⟨some 14, .bin .lss none (.t 11) (.t 13), none⟩] [0, 1, 5, 14])
          (.cnd (.t 14)
           .skip
           (.exit 0)))
         (.seq
          (.blk 1
           (.seq
            (.drw [
              ((⟨some 17, .mv (.t 0), none⟩, none), []),
              ((⟨some 18, .mv (.t 5), none⟩, none), []),
              ((⟨some 19, .ia 1 (.t 17) (.t 18), none⟩, none), []),
              ((⟨some 20, .ld false 1 (.t 19), none⟩, none), []),
              ((⟨some 21, .mv (.t 1), none⟩, none), []),
              ((⟨some 22, .mv (.t 5), none⟩, none), []),
              ((⟨some 23, .ia 1 (.t 21) (.t 22), none⟩, none), []),
              ((⟨some 24, .ld false 1 (.t 23), none⟩, none), []),
              ((⟨some 25, .bin .neq (some .str) (.t 20) (.t 24), none⟩, none), [])] [0, 1, 5, 25])
            (.cnd (.t 25)
             (.seq
              (.reg [
                ⟨some 4, .mv (.c (.bool false)), none⟩] [4])
              .ret)
             .skip)))
          (.reg [
            ⟨some 15, .mv (.t 5), none⟩,
            ⟨some 16, .bin .add none (.t 15) (.c (.int .i64 1)), none⟩,
            ⟨some 5, .mv (.t 16), none⟩] [0, 1, 5])))
        (.trim [0, 1, 5]))))))
   (.seq
    (.reg [
      ⟨some 4, .mv (.c (.bool true)), none⟩] [4])
    .ret)))),
[.tmp 4]⟩
theorem F10_ok : prepF Go.Proofs.Tryz.prog ⟨[], [(0, [0, 1]), (1, [0, 1, 10]), (2, [4]), (3, [0, 1, 5]), (4, [0, 1, 5, 14]), (5, [0, 1, 5]), (6, [0, 1, 5, 25]), (7, [4]), (8, [4]), (1000000, [0, 1, 5])], []⟩ Go.Proofs.Tryz.f10 = some F10 := by kernel_rfl
theorem F10_fn : FnOK2 Go.Proofs.Tryz.prog 10 (.pl F10) := .pl Go.Proofs.Tryz.func10 (by kernel_rfl) F10_ok
/-- emend/json.Print -/
def F11 : DF := ⟨1,
(.seq
 (.reg [
   ⟨some 1, .bxL (.t 0), none⟩,
   ⟨some 2, .mv (.c (.str [])), none⟩,
   ⟨some 3, .mv (.c (.int .i64 0)), none⟩] [1])
 (.seq
  (.seq
   (.reg [
     ⟨some 5, .ld true 4 (.t 1), none⟩,
     ⟨some 6, .call 27 [(.t 5)], none⟩,
     ⟨some 4, .mv (.t 6), none⟩] [1, 4])
   (.seq
    (.reg [
      ⟨some 7, .mv (.t 4), none⟩,
      ⟨some 8, .bin .neq (some .int) (.t 7) (.c (.int .i64 0)), none⟩] [1, 4, 8])
    (.cnd (.t 8)
     (.seq
      (.reg [
        ⟨some 9, .mv (.t 4), none⟩,
        ⟨some 2, .mv (.c (.str [])), none⟩,
        ⟨some 3, .mv (.t 9), none⟩] [2, 3])
      .ret)
     .skip)))
  (.seq
   (.seq
    (.reg [
      ⟨some 10, .ld true 4 (.t 1), none⟩,
      ⟨some 11, .call 37 [(.t 10), (.c (.int .i64 5))], none⟩] [1, 11])
    (.cnd (.t 11)
     (.seq
      (.reg [
        ⟨some 2, .mv (.c (.str [])), none⟩,
        ⟨some 3, .mv (.c (.int .i64 30)), none⟩] [2, 3])
      .ret)
     .skip))
   (.seq
    (.reg [
      ⟨some 12, .ld true 4 (.t 1), none⟩,
      ⟨some 13, .call 38 [(.t 12)], none⟩,
      ⟨some 14, .ext (.t 13) 0, none⟩,
      ⟨some 15, .ext (.t 13) 1, none⟩,
      ⟨some 2, .mv (.t 14), none⟩,
      ⟨some 3, .mv (.t 15), none⟩] [2, 3])
    .ret)))),
[.tmp 2, .tmp 3]⟩
theorem F11_ok : prepF Go.Proofs.Tryz.prog ⟨[1], [(0, [1]), (1, [1, 4]), (2, [1, 4, 8]), (3, [2, 3]), (4, [1, 11]), (5, [2, 3]), (6, [2, 3])], []⟩ Go.Proofs.Tryz.f11 = some F11 := by kernel_rfl
theorem F11_fn : FnOK2 Go.Proofs.Tryz.prog 11 (.pl F11) := .pl Go.Proofs.Tryz.func11 (by kernel_rfl) F11_ok
/-- emend/emendlaw5.of -/
def F12 : DF := ⟨1,
(.seq
 (.reg [
   ⟨some 2, .alL [(.int .i64 0), (.str []), (.sl 1 ⟨none, 0, (some 0), true⟩ []), (.sl 4 ⟨none, 0, (some 0), true⟩ [])], none⟩] [0, 2])
 (.seq
  (.reg [
    ⟨some 6, .mv (.t 0), none⟩,
    ⟨some 7, .call 29 [(.t 6)], none⟩,
    ⟨some 5, .mv (.t 7), none⟩,
    ⟨some 8, .ext (.t 5) 0, none⟩,
    ⟨some 9, .ext (.t 5) 1, none⟩,
    ⟨some 3, .alL [(.int .i64 0), (.str []), (.sl 1 ⟨none, 0, (some 0), true⟩ []), (.sl 4 ⟨none, 0, (some 0), true⟩ [])], none⟩,
    ⟨none, .st 4 (.t 3) (.t 8), none⟩,
    ⟨some 4, .mv (.t 9), none⟩] [2, 3])
  (.seq
   (.reg [
     ⟨some 10, .ld true 4 (.t 3), none⟩,
     ⟨none, .st 4 (.t 2) (.t 10), none⟩] [2])
   .ret))),
[.cell 2 true 4]⟩
theorem F12_ok : prepF Go.Proofs.Tryz.prog ⟨[2, 3], [(0, [0, 2]), (1, [2, 3]), (2, [2])], []⟩ Go.Proofs.Tryz.f12 = some F12 := by kernel_rfl
theorem F12_fn : FnOK2 Go.Proofs.Tryz.prog 12 (.pl F12) := .pl Go.Proofs.Tryz.func12 (by kernel_rfl) F12_ok
/-- emend/emendlaw5.says -/
def F13 : DF := ⟨2,
(.seq
 (.reg [
   ⟨some 4, .mv (.c (.bool false)), none⟩] [0, 1])
 (.seq
  (.reg [
    ⟨some 12, .mv (.t 0), none⟩,
    ⟨some 13, .call 9 [(.t 12)], none⟩,
    ⟨some 11, .mv (.t 13), none⟩,
    ⟨some 14, .ext (.t 11) 0, none⟩,
    ⟨some 15, .ext (.t 11) 1, none⟩,
    ⟨some 5, .alL [(.int .i64 0), (.str []), (.str []), (.str []), (.int .i64 0), (.str []), (.sl 1 ⟨none, 0, (some 0), true⟩ []), (.sl 4 ⟨none, 0, (some 0), true⟩ []), (.str []), (.sl 14 ⟨none, 0, (some 0), true⟩ []), (.sl 1 ⟨none, 0, (some 0), true⟩ []), (.str []), (.str []), (.int .i64 0)], none⟩,
    ⟨none, .st 14 (.t 5) (.t 14), none⟩,
    ⟨some 6, .mv (.t 15), none⟩] [0, 1, 5, 6])
  (.seq
   (.reg [
     ⟨some 17, .ld true 14 (.t 5), none⟩,
     ⟨some 18, .call 24 [(.t 17)], none⟩,
     ⟨some 16, .mv (.t 18), none⟩,
     ⟨some 19, .ext (.t 16) 0, none⟩,
     ⟨some 20, .ext (.t 16) 1, none⟩,
     ⟨some 7, .alL [(.int .i64 0), (.str []), (.sl 1 ⟨none, 0, (some 0), true⟩ []), (.sl 4 ⟨none, 0, (some 0), true⟩ [])], none⟩,
     ⟨none, .st 4 (.t 7) (.t 19), none⟩,
     ⟨some 8, .mv (.t 20), none⟩] [0, 1, 5, 6, 7, 8])
   (.seq
    (.reg [
      ⟨some 22, .ld true 4 (.t 7), none⟩,
      ⟨some 23, .call 38 [(.t 22)], none⟩,
      ⟨some 21, .mv (.t 23), none⟩,
      ⟨some 24, .ext (.t 21) 0, none⟩,
      ⟨some 25, .ext (.t 21) 1, none⟩,
      ⟨some 9, .mv (.t 24), none⟩,
      ⟨some 10, .mv (.t 25), none⟩] [0, 1, 5, 6, 8, 9, 10])
    (.seq
     (.reg [
       ⟨some 26, .mv (.t 6), none⟩,
       ⟨some 27, .bin .eql (some .ifc) (.t 26) (.c .nilif), none⟩,
       ⟨some 28, .mv (.t 27), none⟩,
       ⟨some 29, .mv (.t 8), some (28, true)⟩,
       ⟨some 30, .bin .eql (some .int) (.t 29) (.c (.int .i64 0)), some (28, true)⟩,
       ⟨some 31, .pick (.t 28) (.t 30) (.c (.bool false)), none⟩,
       ⟨some 32, .mv (.t 31), none⟩,
       ⟨some 33, .mv (.t 10), some (32, true)⟩,
       ⟨some 34, .bin .eql (some .int) (.t 33) (.c (.int .i64 0)), some (32, true)⟩,
       ⟨some 35, .pick (.t 32) (.t 34) (.c (.bool false)), none⟩,
       ⟨some 36, .mv (.t 35), none⟩,
       ⟨some 37, .mv (.t 9), some (36, true)⟩,
       ⟨some 38, .mv (.t 1), some (36, true)⟩,
       ⟨some 39, .bin .eql (some .str) (.t 37) (.t 38), some (36, true)⟩,
       ⟨some 40, .pick (.t 36) (.t 39) (.c (.bool false)), none⟩,
       ⟨some 41, .mv (.t 40), none⟩,
       ⟨some 42, .ld true 14 (.t 5), some (41, true)⟩,
       ⟨some 43, .call 25 [(.t 42)], some (41, true)⟩,
       ⟨some 44, .mv (.t 0), some (41, true)⟩,
       ⟨some 45, .bin .eql (some .str) (.t 43) (.t 44), some (41, true)⟩,
       ⟨some 46, .pick (.t 41) (.t 45) (.c (.bool false)), none⟩,
       ⟨some 4, .mv (.t 46), none⟩] [4])
     .ret))))),
[.tmp 4]⟩
theorem F13_ok : prepF Go.Proofs.Tryz.prog ⟨[5, 7], [(0, [0, 1]), (1, [0, 1, 5, 6]), (2, [0, 1, 5, 6, 7, 8]), (3, [0, 1, 5, 6, 8, 9, 10]), (4, [4])], []⟩ Go.Proofs.Tryz.f13 = some F13 := by kernel_rfl
theorem F13_fn : FnOK2 Go.Proofs.Tryz.prog 13 (.pl F13) := .pl Go.Proofs.Tryz.func13 (by kernel_rfl) F13_ok
/-- emend/emendlaw5.fails -/
def F14 : DF := ⟨3,
(.seq
 (.reg [
   ⟨some 6, .mv (.c (.bool false)), none⟩] [0, 1, 2])
 (.seq
  (.reg [
    ⟨some 10, .mv (.t 0), none⟩,
    ⟨some 11, .call 9 [(.t 10)], none⟩,
    ⟨some 9, .mv (.t 11), none⟩,
    ⟨some 12, .ext (.t 9) 0, none⟩,
    ⟨some 13, .ext (.t 9) 1, none⟩,
    ⟨some 7, .alL [(.int .i64 0), (.str []), (.str []), (.str []), (.int .i64 0), (.str []), (.sl 1 ⟨none, 0, (some 0), true⟩ []), (.sl 4 ⟨none, 0, (some 0), true⟩ []), (.str []), (.sl 14 ⟨none, 0, (some 0), true⟩ []), (.sl 1 ⟨none, 0, (some 0), true⟩ []), (.str []), (.str []), (.int .i64 0)], none⟩,
    ⟨none, .st 14 (.t 7) (.t 12), none⟩,
    ⟨some 8, .mv (.t 13), none⟩] [1, 2, 7, 8])
  (.seq
   (.reg [
     ⟨some 14, .fa 0 (.t 7), none⟩,
     ⟨some 15, .ld false 1 (.t 14), none⟩,
     ⟨some 16, .bin .eql (some .int) (.t 15) (.c (.int .i64 0)), none⟩,
     ⟨some 17, .mv (.t 16), none⟩,
     ⟨some 18, .mv (.t 8), some (17, true)⟩,
     ⟨some 19, .mv (.t 1), some (17, true)⟩,
     ⟨some 20, .mv (.t 2), some (17, true)⟩,
     ⟨some 21, .bld [(.int .i64 0), (.int .i64 0)] [(0, 1, (.t 19)), (1, 1, (.t 20))], some (17, true)⟩,
     ⟨some 22, .call 18 [(.t 18), (.t 21)], some (17, true)⟩,
     ⟨some 23, .pick (.t 17) (.t 22) (.c (.bool false)), none⟩,
     ⟨some 6, .mv (.t 23), none⟩] [6])
   .ret))),
[.tmp 6]⟩
theorem F14_ok : prepF Go.Proofs.Tryz.prog ⟨[7], [(0, [0, 1, 2]), (1, [1, 2, 7, 8]), (2, [6])], []⟩ Go.Proofs.Tryz.f14 = some F14 := by kernel_rfl
theorem F14_fn : FnOK2 Go.Proofs.Tryz.prog 14 (.pl F14) := .pl Go.Proofs.Tryz.func14 (by kernel_rfl) F14_ok
/-- emend/emendlaw5.refused -/
def F18 : DF := ⟨2,
(.seq
 (.reg [
   ⟨some 3, .bxL (.t 1), none⟩,
   ⟨some 4, .mv (.c (.bool false)), none⟩] [0, 3])
 (.seq
  (.seq
   (.reg [
     ⟨some 6, .fa 1 (.t 3), none⟩,
     ⟨some 7, .ld false 1 (.t 6), none⟩,
     ⟨some 8, .bin .eql (some .int) (.t 7) (.c (.int .i64 0)), none⟩] [0, 3, 8])
   (.cnd (.t 8)
    (.seq
     (.reg [
       ⟨some 9, .mv (.t 0), none⟩,
       ⟨some 10, .bin .eql (some .ifc) (.t 9) (.c .nilif), none⟩,
       ⟨some 4, .mv (.t 10), none⟩] [4])
     .ret)
    .skip))
  (.seq
   (.reg [
     ⟨some 5, .alH 64 [.nilp], none⟩] [0, 3, 5])
   (.seq
    (.drw [
      ((⟨some 11, .mv (.t 0), none⟩, none), []),
      ((⟨some 12, .bin .neq (some .ifc) (.t 11) (.c .nilif), none⟩, none), []),
      ((⟨some 13, .mv (.t 12), none⟩, none), []),
      ((⟨some 14, .mv (.t 0), some (13, true)⟩, none), []),
      ((⟨some 15, .mki 66 (.t 5), some (13, true)⟩, none), []),
      ((⟨some 16, .call 30 [(.t 14), (.t 15)], some (13, true)⟩, none), []),
      ((⟨some 17, .pick (.t 13) (.t 16) (.c (.bool false)), none⟩, none), []),
      ((⟨some 18, .mv (.t 17), none⟩, none), []),
      ((⟨some 19, .ld false 1 (.t 5), some (18, true)⟩, none), []),
      ((⟨some 20, .bin .neq (some .ptr) (.t 19) (.c .nilp), some (18, true)⟩, none), []),
      ((⟨some 21, .pick (.t 18) (.t 20) (.c (.bool false)), none⟩, none), []),
      ((⟨some 22, .mv (.t 21), none⟩, none), []),
      ((⟨some 23, .ld false 1 (.t 5), some (22, true)⟩, none), []),
      ((⟨some 24, .nilc (.t 23), some (22, true)⟩, none), []),
      ((⟨some 25, .fa 0 (.t 24), some (22, true)⟩, none), []),
      ((⟨some 26, .ld true 1 (.t 25), some (22, true)⟩, none), []),
      ((⟨some 28, .fa 0 (.t 3), some (22, true)⟩, (some 3)), []),
      ((⟨some 29, .ld false 1 (.t 28), some (22, true)⟩, (some 3)), []),
      ((⟨some 27, .call 44 [(.t 26)], some (22, true)⟩, none), []),
      ((⟨some 30, .bin .eql (some .int) (.t 27) (.t 29), some (22, true)⟩, none), []),
      ((⟨some 31, .pick (.t 22) (.t 30) (.c (.bool false)), none⟩, none), []),
      ((⟨some 32, .mv (.t 31), none⟩, none), []),
      ((⟨some 33, .ld false 1 (.t 5), some (32, true)⟩, none), []),
      ((⟨some 34, .nilc (.t 33), some (32, true)⟩, none), []),
      ((⟨some 35, .fa 1 (.t 34), some (32, true)⟩, none), []),
      ((⟨some 36, .ld false 1 (.t 35), some (32, true)⟩, none), []),
      ((⟨some 37, .fa 1 (.t 3), some (32, true)⟩, (some 3)), []),
      ((⟨some 38, .ld false 1 (.t 37), some (32, true)⟩, (some 3)), []),
      ((⟨some 39, .bin .eql (some .int) (.t 36) (.t 38), some (32, true)⟩, none), []),
      ((⟨some 40, .pick (.t 32) (.t 39) (.c (.bool false)), none⟩, none), []),
      ((⟨some 41, .mv (.t 40), none⟩, none), []),
      ((⟨some 42, .ld false 1 (.t 5), some (41, true)⟩, none), []),
      ((⟨some 43, .call 45 [(.t 42)], some (41, true)⟩, none), []),
      ((⟨some 44, .bin .neq (some .str) (.t 43) (.c (.str [])), some (41, true)⟩, none), []),
      ((⟨some 45, .pick (.t 41) (.t 44) (.c (.bool false)), none⟩, none), []),
      ((⟨some 46, .mv (.t 45), none⟩, none), []),
      ((⟨some 47, .mv (.t 0), some (46, true)⟩, none), []),
      ((⟨some 48, .ld false 1 (.t 5), some (46, true)⟩, none), []),
      ((⟨some 49, .nilc (.t 48), some (46, true)⟩, none), []),
      ((⟨some 50, .fa 1 (.t 49), some (46, true)⟩, none), []),
      ((⟨some 51, .ld false 1 (.t 50), some (46, true)⟩, none), []),
      ((⟨some 52, .mki 34 (.t 51), some (46, true)⟩, none), []),
      ((⟨some 53, .call 46 [(.t 47), (.t 52)], some (46, true)⟩, none), []),
      ((⟨some 54, .pick (.t 46) (.t 53) (.c (.bool false)), none⟩, none), []),
      ((⟨some 4, .mv (.t 54), none⟩, none), [])] [4])
    .ret)))),
[.tmp 4]⟩
theorem F18_ok : prepF Go.Proofs.Tryz.prog ⟨[3], [(0, [0, 3]), (1, [0, 3, 8]), (2, [4]), (3, [0, 3, 5]), (4, [4])], [(4, [none, none, none, none, none, none, none, none, none, none, none, none, none, none, none, none, none, (some 3), (some 3), none, none, none, none, none, none, none, (some 3), (some 3), none, none, none, none, none, none, none, none, none, none, none, none, none, none, none, none, none])]⟩ Go.Proofs.Tryz.f18 = some F18 := by kernel_rfl
theorem F18_fn : FnOK2 Go.Proofs.Tryz.prog 18 (.pl F18) := .pl Go.Proofs.Tryz.func18 (by kernel_rfl) F18_ok
/-- emend/cst.Tree -/
def F24 : DF := ⟨1,
(.seq
 (.reg [
   ⟨some 1, .bxL (.t 0), none⟩,
   ⟨some 2, .alL [(.int .i64 0), (.str []), (.sl 1 ⟨none, 0, (some 0), true⟩ []), (.sl 4 ⟨none, 0, (some 0), true⟩ [])], none⟩,
   ⟨some 3, .mv (.c (.int .i64 0)), none⟩] [1, 2])
 (.seq
  (.seq
   (.reg [
     ⟨some 4, .ld true 14 (.t 1), none⟩,
     ⟨some 5, .call 26 [(.t 4)], none⟩,
     ⟨some 6, .un .not (.t 5), none⟩] [1, 2, 6])
   (.cnd (.t 6)
    (.seq
     (.reg [
       ⟨some 7, .bld [(.int .i64 0), (.str []), (.sl 1 ⟨none, 0, (some 0), true⟩ []), (.sl 4 ⟨none, 0, (some 0), true⟩ [])] [], none⟩,
       ⟨none, .st 4 (.t 2) (.t 7), none⟩,
       ⟨some 3, .mv (.c (.int .i64 1)), none⟩] [2, 3])
     .ret)
    .skip))
  (.seq
   (.reg [
     ⟨some 8, .ld true 14 (.t 1), none⟩,
     ⟨some 9, .call 50 [(.t 8)], none⟩,
     ⟨none, .st 4 (.t 2) (.t 9), none⟩,
     ⟨some 3, .mv (.c (.int .i64 0)), none⟩] [2, 3])
   .ret))),
[.cell 2 true 4, .tmp 3]⟩
theorem F24_ok : prepF Go.Proofs.Tryz.prog ⟨[1, 2], [(0, [1, 2]), (1, [1, 2, 6]), (2, [2, 3]), (3, [2, 3])], []⟩ Go.Proofs.Tryz.f24 = some F24 := by kernel_rfl
theorem F24_fn : FnOK2 Go.Proofs.Tryz.prog 24 (.pl F24) := .pl Go.Proofs.Tryz.func24 (by kernel_rfl) F24_ok
/-- emend/cst.Flatten -/
def F25 : DF := ⟨1,
(.seq
 (.reg [
   ⟨some 1, .bxL (.t 0), none⟩,
   ⟨some 2, .mv (.c (.str [])), none⟩] [1])
 (.seq
  (.reg [
    ⟨some 3, .alH 100 [.nilp, (.sl 1 ⟨none, 0, (some 0), true⟩ [])], none⟩] [1, 3])
  (.seq
   (.reg [
     ⟨some 4, .ld true 14 (.t 1), none⟩,
     ⟨some 5, .mkf 52 [] [(.t 3)], none⟩,
     ⟨some 6, .call 51 [(.t 4), (.t 5)], none⟩] [3])
   (.seq
    (.reg [
      ⟨some 7, .call 54 [(.t 3)], none⟩,
      ⟨some 2, .mv (.t 7), none⟩] [2])
    .ret)))),
[.tmp 2]⟩
theorem F25_ok : prepF Go.Proofs.Tryz.prog ⟨[1], [(0, [1]), (1, [1, 3]), (2, [3]), (3, [2])], []⟩ Go.Proofs.Tryz.f25 = some F25 := by kernel_rfl
theorem F25_fn : FnOK2 Go.Proofs.Tryz.prog 25 (.pl F25) := .pl Go.Proofs.Tryz.func25 (by kernel_rfl) F25_ok
/-- emend/cst.Right -/
def F26 : DF := ⟨1,
(.seq
 (.reg [
   ⟨some 1, .bxL (.t 0), none⟩,
   ⟨some 2, .mv (.c (.bool false)), none⟩] [1])
 (.seq
  (.reg [
    ⟨some 3, .ld true 14 (.t 1), none⟩,
    ⟨some 4, .call 55 [(.t 3)], none⟩,
    ⟨some 5, .bin .leq none (.t 4) (.c (.int .i64 64)), none⟩,
    ⟨some 6, .mv (.t 5), none⟩,
    ⟨some 7, .ld true 14 (.t 1), some (6, true)⟩,
    ⟨some 8, .call 56 [(.t 7)], some (6, true)⟩,
    ⟨some 9, .bin .leq none (.t 8) (.c (.int .i64 4096)), some (6, true)⟩,
    ⟨some 10, .pick (.t 6) (.t 9) (.c (.bool false)), none⟩,
    ⟨some 11, .mv (.t 10), none⟩,
    ⟨some 12, .ld true 14 (.t 1), some (11, true)⟩,
    ⟨some 13, .call 57 [(.t 12)], some (11, true)⟩,
    ⟨some 14, .pick (.t 11) (.t 13) (.c (.bool false)), none⟩,
    ⟨some 2, .mv (.t 14), none⟩] [2])
  .ret)),
[.tmp 2]⟩
theorem F26_ok : prepF Go.Proofs.Tryz.prog ⟨[1], [(0, [1]), (1, [2])], []⟩ Go.Proofs.Tryz.f26 = some F26 := by kernel_rfl
theorem F26_fn : FnOK2 Go.Proofs.Tryz.prog 26 (.pl F26) := .pl Go.Proofs.Tryz.func26 (by kernel_rfl) F26_ok
/-- emend/tree.Right -/
def F27 : DF := ⟨1,
(.seq
 (.reg [
   ⟨some 1, .bxL (.t 0), none⟩,
   ⟨some 2, .mv (.c (.int .i64 0)), none⟩] [1])
 (.seq
  (.blk 0
   (.seq
    (.reg [
      ⟨some 4, .ld true 4 (.t 1), none⟩,
      ⟨some 5, .call 58 [(.t 4)], none⟩,
      ⟨some 6, .bin .gtr none (.t 5) (.c (.int .i64 64)), none⟩,
      ⟨some 3, .mv (.t 6), none⟩] [1, 3])
    (.cnd (.t 3)
     (.seq
      (.reg [
        ⟨some 2, .mv (.c (.int .i64 4)), none⟩] [2])
      .ret)
     (.seq
      (.reg [
        ⟨some 8, .ld true 4 (.t 1), none⟩,
        ⟨some 9, .call 59 [(.t 8)], none⟩,
        ⟨some 10, .bin .gtr none (.t 9) (.c (.int .i64 4096)), none⟩,
        ⟨some 7, .mv (.t 10), none⟩] [1, 7])
      (.cnd (.t 7)
       (.seq
        (.reg [
          ⟨some 2, .mv (.c (.int .i64 3)), none⟩] [2])
        .ret)
       (.seq
        (.reg [
          ⟨some 12, .ld true 4 (.t 1), none⟩,
          ⟨some 13, .call 60 [(.t 12)], none⟩,
          ⟨some 14, .un .not (.t 13), none⟩,
          ⟨some 11, .mv (.t 14), none⟩] [11])
        (.cnd (.t 11)
         (.seq
          (.reg [
            ⟨some 2, .mv (.c (.int .i64 1)), none⟩] [2])
          .ret)
         .skip)))))))
  (.seq
   (.reg [
     ⟨some 2, .mv (.c (.int .i64 0)), none⟩] [2])
   .ret))),
[.tmp 2]⟩
theorem F27_ok : prepF Go.Proofs.Tryz.prog ⟨[1], [(0, [1]), (1, [1, 3]), (2, [2]), (3, [1, 7]), (4, [2]), (5, [11]), (6, [2]), (7, [2])], []⟩ Go.Proofs.Tryz.f27 = some F27 := by kernel_rfl
theorem F27_fn : FnOK2 Go.Proofs.Tryz.prog 27 (.pl F27) := .pl Go.Proofs.Tryz.func27 (by kernel_rfl) F27_ok
/-- emend/tree.Same -/
def F28 : DF := ⟨2,
(.seq
 (.reg [
   ⟨some 2, .bxL (.t 0), none⟩,
   ⟨some 3, .bxL (.t 1), none⟩,
   ⟨some 4, .mv (.c (.bool false)), none⟩] [2, 3])
 (.seq
  (.seq
   (.reg [
     ⟨some 5, .ld true 4 (.t 2), none⟩,
     ⟨some 6, .call 60 [(.t 5)], none⟩,
     ⟨some 7, .un .not (.t 6), none⟩,
     ⟨some 8, .mv (.t 7), none⟩,
     ⟨some 9, .ld true 4 (.t 3), some (8, false)⟩,
     ⟨some 10, .call 60 [(.t 9)], some (8, false)⟩,
     ⟨some 11, .un .not (.t 10), some (8, false)⟩,
     ⟨some 12, .pick (.t 8) (.c (.bool true)) (.t 11), none⟩] [2, 3, 12])
   (.cnd (.t 12)
    (.seq
     (.reg [
       ⟨some 13, .ld true 4 (.t 2), none⟩,
       ⟨some 14, .ld true 4 (.t 3), none⟩,
       ⟨some 15, .call 61 [(.t 13), (.t 14)], none⟩,
       ⟨some 4, .mv (.t 15), none⟩] [4])
     .ret)
    .skip))
  (.seq
   (.drw [
     ((⟨some 16, .ld true 4 (.t 2), none⟩, (some 2)), []),
     ((⟨some 18, .ld true 4 (.t 3), none⟩, (some 3)), []),
     ((⟨some 17, .call 62 [(.t 16)], none⟩, none), []),
     ((⟨some 19, .call 62 [(.t 18)], none⟩, none), []),
     ((⟨some 20, .call 61 [(.t 17), (.t 19)], none⟩, none), []),
     ((⟨some 4, .mv (.t 20), none⟩, none), [])] [4])
   .ret))),
[.tmp 4]⟩
theorem F28_ok : prepF Go.Proofs.Tryz.prog ⟨[2, 3], [(0, [2, 3]), (1, [2, 3, 12]), (2, [4]), (3, [4])], [(3, [(some 2), none, (some 3), none, none, none])]⟩ Go.Proofs.Tryz.f28 = some F28 := by kernel_rfl
theorem F28_fn : FnOK2 Go.Proofs.Tryz.prog 28 (.pl F28) := .pl Go.Proofs.Tryz.func28 (by kernel_rfl) F28_ok
/-- emend/tree.Parse -/
def F29 : DF := ⟨1,
(.seq
 (.reg [
   ⟨some 1, .bxH 9 (.t 0), none⟩,
   ⟨some 2, .alL [(.int .i64 0), (.str []), (.sl 1 ⟨none, 0, (some 0), true⟩ []), (.sl 4 ⟨none, 0, (some 0), true⟩ [])], none⟩,
   ⟨some 3, .mv (.c .nilif), none⟩] [1, 2])
 (.seq
  (.reg [
    ⟨some 4, .alH 25 [(.int .i64 0), (.str []), (.sl 1 ⟨none, 0, (some 0), true⟩ []), (.sl 4 ⟨none, 0, (some 0), true⟩ [])], none⟩] [1, 2, 4])
  (.seq
   (.reg [
     ⟨some 6, .ld false 1 (.t 1), none⟩,
     ⟨some 7, .mkf 63 [] [(.t 4), (.t 1)], none⟩,
     ⟨some 8, .call 32 [(.t 6), (.t 7)], none⟩,
     ⟨some 5, .mv (.t 8), none⟩] [2, 4, 5])
   (.seq
    (.seq
     (.reg [
       ⟨some 9, .mv (.t 5), none⟩,
       ⟨some 10, .bin .neq (some .ifc) (.t 9) (.c .nilif), none⟩] [2, 4, 5, 10])
     (.cnd (.t 10)
      (.seq
       (.reg [
         ⟨some 11, .bld [(.int .i64 0), (.str []), (.sl 1 ⟨none, 0, (some 0), true⟩ []), (.sl 4 ⟨none, 0, (some 0), true⟩ [])] [], none⟩,
         ⟨some 12, .mv (.t 5), none⟩,
         ⟨none, .st 4 (.t 2) (.t 11), none⟩,
         ⟨some 3, .mv (.t 12), none⟩] [2, 3])
       .ret)
      .skip))
    (.seq
     (.reg [
       ⟨some 13, .ld true 4 (.t 4), none⟩,
       ⟨none, .st 4 (.t 2) (.t 13), none⟩,
       ⟨some 3, .mv (.c .nilif), none⟩] [2, 3])
     .ret))))),
[.cell 2 true 4, .tmp 3]⟩
theorem F29_ok : prepF Go.Proofs.Tryz.prog ⟨[2], [(0, [1, 2]), (1, [1, 2, 4]), (2, [2, 4, 5]), (3, [2, 4, 5, 10]), (4, [2, 3]), (5, [2, 3])], []⟩ Go.Proofs.Tryz.f29 = some F29 := by kernel_rfl
theorem F29_fn : FnOK2 Go.Proofs.Tryz.prog 29 (.pl F29) := .pl Go.Proofs.Tryz.func29 (by kernel_rfl) F29_ok
/-- emend/tree.Read -/
def F32 : DD := ⟨2,
(.seq
 (.reg [
   ⟨some 4, .alH 30 [.nilif], none⟩] [0, 1, 4])
 (.seq
  (.reg [
    ⟨some 6, .mv (.t 0), none⟩,
    ⟨some 7, .lenS (.t 6), none⟩,
    ⟨some 8, .bin .gtr none (.t 7) (.c (.int .i64 65536)), none⟩] [0, 1, 4, 8])
  (.seq
   (.cnd (.t 8)
    (.seq
     (.reg [
       ⟨some 9, .call 70 [(.c (.int .i64 0)), (.c (.int .i64 2))], none⟩,
       ⟨some 10, .mki 64 (.t 9), none⟩,
       ⟨none, .st 1 (.t 4) (.t 10), none⟩] [4])
     .ret)
    .skip)
   (.seq
    (.reg [
      ⟨some 11, .mv (.t 0), none⟩,
      ⟨some 12, .call 71 [(.t 11)], none⟩,
      ⟨some 5, .mv (.t 12), none⟩] [0, 1, 4, 5])
    (.seq
     (.reg [
       ⟨some 13, .mv (.t 5), none⟩,
       ⟨some 14, .bin .geq none (.t 13) (.c (.int .i64 0)), none⟩] [0, 1, 4, 5, 14])
     (.seq
      (.cnd (.t 14)
       (.seq
        (.reg [
          ⟨some 15, .mv (.t 5), none⟩,
          ⟨some 16, .call 70 [(.t 15), (.c (.int .i64 10))], none⟩,
          ⟨some 17, .mki 64 (.t 16), none⟩,
          ⟨none, .st 1 (.t 4) (.t 17), none⟩] [4])
        .ret)
       .skip)
      .skip)))))),
[⟨some 18, .mkf 72 [] [(.t 4)], none⟩], 18, [0, 1, 4],
(.seq
 (.reg [
   ⟨some 19, .mv (.t 1), none⟩,
   ⟨some 20, .mv (.t 0), none⟩,
   ⟨some 21, .bld [(.str []), (.int .i64 0), (.int .i64 0)] [(0, 1, (.t 20))], none⟩,
   ⟨some 22, .bxH 82 (.t 21), none⟩,
   ⟨some 23, .callv (.t 19) [(.t 22)], none⟩] [4])
 (.seq
  (.reg [
    ⟨none, .st 1 (.t 4) (.c .nilif), none⟩] [4])
  (.seq
   .ret
   .skip))),
[.cell 4 false 1], [4]⟩
theorem F32_ok : prepD Go.Proofs.Tryz.prog ⟨[], [(0, [0, 1, 4]), (1, [0, 1, 4, 8]), (2, [4]), (3, [0, 1, 4, 5]), (4, [0, 1, 4, 5, 14]), (5, [4]), (6, [0, 1, 4]), (7, [4]), (8, [4])], []⟩ Go.Proofs.Tryz.f32 = some F32 := by kernel_rfl
theorem F32_fn : FnOK2 Go.Proofs.Tryz.prog 32 (.df F32) := .df Go.Proofs.Tryz.func32 (by kernel_rfl) F32_ok
/-- emend/json.Parse$1 -/
def F33 : DF := ⟨3,
(.seq
 (.reg [
   ⟨some 6, .mv (.t 0), none⟩,
   ⟨some 7, .bld [.nilp] [(0, 1, (.t 6))], none⟩,
   ⟨some 4, .alL [.nilp], none⟩,
   ⟨none, .st 1 (.t 4) (.t 7), none⟩] [1, 2, 4])
 (.seq
  (.reg [
    ⟨some 8, .ld true 1 (.t 4), none⟩,
    ⟨some 9, .call 34 [(.t 8)], none⟩,
    ⟨some 5, .mv (.t 9), none⟩] [1, 2, 4, 5])
  (.seq
   (.reg [
     ⟨some 10, .ld true 1 (.t 4), none⟩,
     ⟨some 11, .call 35 [(.t 10), (.c (.int .i64 1))], none⟩,
     ⟨none, .st 14 (.t 1) (.t 11), none⟩] [1, 2, 4, 5])
   (.seq
    (.reg [
      ⟨some 12, .mv (.t 5), none⟩,
      ⟨some 13, .ld true 1 (.t 4), none⟩,
      ⟨some 14, .call 34 [(.t 13)], none⟩,
      ⟨some 15, .fa 1 (.t 1), none⟩,
      ⟨none, .st 1 (.t 15) (.t 12), none⟩,
      ⟨some 16, .fa 12 (.t 1), none⟩,
      ⟨none, .st 1 (.t 16) (.t 14), none⟩] [2, 4])
    (.seq
     (.drw [
       ((⟨some 17, .fa 0 (.t 4), none⟩, (some 4)), []),
       ((⟨some 18, .ld false 1 (.t 17), none⟩, (some 4)), []),
       ((⟨some 19, .nilc (.t 18), none⟩, none), []),
       ((⟨some 20, .fa 1 (.t 19), none⟩, none), []),
       ((⟨some 21, .ld false 1 (.t 20), none⟩, none), []),
       ((⟨some 22, .ld false 1 (.t 2), none⟩, none), []),
       ((⟨some 23, .lenS (.t 22), none⟩, none), []),
       ((⟨some 24, .bin .lss none (.t 21) (.t 23), none⟩, none), [])] [4, 24])
     (.cnd (.t 24)
      (.reg [
        ⟨some 25, .fa 0 (.t 4), none⟩,
        ⟨some 26, .ld false 1 (.t 25), none⟩,
        ⟨some 27, .call 36 [(.t 26)], none⟩] [])
      .skip)))))),
[]⟩
theorem F33_ok : prepF Go.Proofs.Tryz.prog ⟨[4], [(0, [1, 2, 4]), (1, [1, 2, 4, 5]), (2, [1, 2, 4, 5]), (3, [2, 4]), (4, [4, 24]), (5, [])], [(4, [(some 4), (some 4), none, none, none, none, none, none])]⟩ Go.Proofs.Tryz.f33 = some F33 := by kernel_rfl
theorem F33_fn : FnOK2 Go.Proofs.Tryz.prog 33 (.pl F33) := .pl Go.Proofs.Tryz.func33 (by kernel_rfl) F33_ok
/-- (emend/json.reader).blanks -/
def F34 : DF := ⟨1,
(.seq
 (.reg [
   ⟨some 1, .bxL (.t 0), none⟩,
   ⟨some 2, .mv (.c (.str [])), none⟩] [1])
 (.seq
  (.reg [
    ⟨some 3, .fa 0 (.t 1), none⟩,
    ⟨some 4, .ld false 1 (.t 3), none⟩,
    ⟨some 5, .call 73 [(.t 4), (.f 74)], none⟩,
    ⟨some 2, .mv (.t 5), none⟩] [2])
  .ret)),
[.tmp 2]⟩
theorem F34_ok : prepF Go.Proofs.Tryz.prog ⟨[1], [(0, [1]), (1, [2])], []⟩ Go.Proofs.Tryz.f34 = some F34 := by kernel_rfl
theorem F34_fn : FnOK2 Go.Proofs.Tryz.prog 34 (.pl F34) := .pl Go.Proofs.Tryz.func34 (by kernel_rfl) F34_ok
/-- (emend/json.reader).value -/
def F35 : DF := ⟨2,
(.seq
 (.reg [
   ⟨some 2, .bxL (.t 0), none⟩,
   ⟨some 4, .alL [(.int .i64 0), (.str []), (.str []), (.str []), (.int .i64 0), (.str []), (.sl 1 ⟨none, 0, (some 0), true⟩ []), (.sl 4 ⟨none, 0, (some 0), true⟩ []), (.str []), (.sl 14 ⟨none, 0, (some 0), true⟩ []), (.sl 1 ⟨none, 0, (some 0), true⟩ []), (.str []), (.str []), (.int .i64 0)], none⟩] [1, 2, 4])
 (.seq
  (.reg [
    ⟨some 7, .fa 0 (.t 2), none⟩,
    ⟨some 8, .ld false 1 (.t 7), none⟩,
    ⟨some 9, .nilc (.t 8), none⟩,
    ⟨some 10, .fa 1 (.t 9), none⟩,
    ⟨some 11, .ld false 1 (.t 10), none⟩,
    ⟨some 5, .mv (.t 11), none⟩] [1, 2, 4, 5])
  (.seq
   (.blk 0
    (.seq
     (.reg [
       ⟨some 13, .fa 0 (.t 2), none⟩,
       ⟨some 14, .ld false 1 (.t 13), none⟩,
       ⟨some 15, .call 75 [(.t 14), (.c (.int .u8 91))], none⟩,
       ⟨some 12, .mv (.t 15), none⟩] [1, 2, 4, 5, 12])
     (.cnd (.t 12)
      (.seq
       (.reg [
         ⟨some 16, .fa 0 (.t 2), none⟩,
         ⟨some 17, .ld false 1 (.t 16), none⟩,
         ⟨some 18, .mv (.t 5), none⟩,
         ⟨some 19, .mv (.t 1), none⟩,
         ⟨some 20, .call 76 [(.t 17), (.t 18), (.t 19), (.c (.int .i64 1))], none⟩] [1, 2, 4])
       (.seq
        (.reg [
          ⟨some 21, .ld true 1 (.t 2), none⟩,
          ⟨some 22, .bld [(.int .i64 0), (.str []), (.str []), (.str []), (.int .i64 0), (.str []), (.sl 1 ⟨none, 0, (some 0), true⟩ []), (.sl 4 ⟨none, 0, (some 0), true⟩ []), (.str []), (.sl 14 ⟨none, 0, (some 0), true⟩ []), (.sl 1 ⟨none, 0, (some 0), true⟩ []), (.str []), (.str []), (.int .i64 0)] [(0, 1, (.c (.int .i64 6))), (8, 1, (.c (.str [91])))], none⟩,
          ⟨some 23, .mv (.t 1), none⟩,
          ⟨some 24, .call 77 [(.t 21), (.t 22), (.t 23), (.c (.int .u8 93))], none⟩,
          ⟨none, .st 14 (.t 4) (.t 24), none⟩] [4])
        .ret))
      (.seq
       (.reg [
         ⟨some 26, .fa 0 (.t 2), none⟩,
         ⟨some 27, .ld false 1 (.t 26), none⟩,
         ⟨some 28, .call 75 [(.t 27), (.c (.int .u8 123))], none⟩,
         ⟨some 25, .mv (.t 28), none⟩] [1, 2, 4, 5, 25])
       (.cnd (.t 25)
        (.seq
         (.reg [
           ⟨some 29, .fa 0 (.t 2), none⟩,
           ⟨some 30, .ld false 1 (.t 29), none⟩,
           ⟨some 31, .mv (.t 5), none⟩,
           ⟨some 32, .mv (.t 1), none⟩,
           ⟨some 33, .call 76 [(.t 30), (.t 31), (.t 32), (.c (.int .i64 1))], none⟩] [1, 2, 4])
         (.seq
          (.reg [
            ⟨some 34, .ld true 1 (.t 2), none⟩,
            ⟨some 35, .bld [(.int .i64 0), (.str []), (.str []), (.str []), (.int .i64 0), (.str []), (.sl 1 ⟨none, 0, (some 0), true⟩ []), (.sl 4 ⟨none, 0, (some 0), true⟩ []), (.str []), (.sl 14 ⟨none, 0, (some 0), true⟩ []), (.sl 1 ⟨none, 0, (some 0), true⟩ []), (.str []), (.str []), (.int .i64 0)] [(0, 1, (.c (.int .i64 7))), (8, 1, (.c (.str [123])))], none⟩,
            ⟨some 36, .mv (.t 1), none⟩,
            ⟨some 37, .call 77 [(.t 34), (.t 35), (.t 36), (.c (.int .u8 125))], none⟩,
            ⟨none, .st 14 (.t 4) (.t 37), none⟩] [4])
          .ret))
        (.seq
         (.reg [
           ⟨some 39, .fa 0 (.t 2), none⟩,
           ⟨some 40, .ld false 1 (.t 39), none⟩,
           ⟨some 41, .call 75 [(.t 40), (.c (.int .u8 34))], none⟩,
           ⟨some 38, .mv (.t 41), none⟩] [1, 2, 4, 5, 38])
         (.cnd (.t 38)
          (.seq
           (.reg [
             ⟨some 42, .fa 0 (.t 2), none⟩,
             ⟨some 43, .ld false 1 (.t 42), none⟩,
             ⟨some 44, .mv (.t 5), none⟩,
             ⟨some 45, .mv (.t 1), none⟩,
             ⟨some 46, .call 76 [(.t 43), (.t 44), (.t 45), (.c (.int .i64 1))], none⟩] [2, 4, 5])
           (.seq
            (.drw [
              ((⟨some 47, .ld true 1 (.t 2), none⟩, (some 2)), []),
              ((⟨some 48, .mv (.t 5), none⟩, none), []),
              ((⟨some 49, .fa 0 (.t 2), none⟩, (some 2)), []),
              ((⟨some 50, .ld false 1 (.t 49), none⟩, (some 2)), []),
              ((⟨some 51, .call 79 [(.t 50)], none⟩, none), []),
              ((⟨some 52, .bld [(.int .i64 0), (.str []), (.sl 1 ⟨none, 0, (some 0), true⟩ []), (.sl 4 ⟨none, 0, (some 0), true⟩ [])] [(0, 1, (.c (.int .i64 4))), (1, 1, (.t 51))], none⟩, none), []),
              ((⟨some 53, .call 78 [(.t 47), (.t 48), (.t 52)], none⟩, none), []),
              ((⟨none, .st 14 (.t 4) (.t 53), none⟩, (some 4)), [])] [4])
            .ret))
          .skip)))))))
   (.seq
    (.reg [
      ⟨some 54, .fa 0 (.t 2), none⟩,
      ⟨some 55, .ld false 1 (.t 54), none⟩,
      ⟨some 56, .call 80 [(.t 55)], none⟩,
      ⟨some 6, .alL [(.int .i64 0), (.str []), (.sl 1 ⟨none, 0, (some 0), true⟩ []), (.sl 4 ⟨none, 0, (some 0), true⟩ [])], none⟩,
      ⟨none, .st 4 (.t 6) (.t 56), none⟩] [1, 2, 4, 5, 6])
    (.seq
     (.reg [
       ⟨some 57, .fa 0 (.t 2), none⟩,
       ⟨some 58, .ld false 1 (.t 57), none⟩,
       ⟨some 59, .mv (.t 5), none⟩,
       ⟨some 60, .mv (.t 1), none⟩,
       ⟨some 61, .call 76 [(.t 58), (.t 59), (.t 60), (.c (.int .i64 1))], none⟩] [2, 4, 5, 6])
     (.seq
      (.reg [
        ⟨some 62, .ld true 1 (.t 2), none⟩,
        ⟨some 63, .mv (.t 5), none⟩,
        ⟨some 64, .ld true 4 (.t 6), none⟩,
        ⟨some 65, .call 78 [(.t 62), (.t 63), (.t 64)], none⟩,
        ⟨none, .st 14 (.t 4) (.t 65), none⟩] [4])
      .ret)))))),
[.cell 4 true 14]⟩
theorem F35_ok : prepF Go.Proofs.Tryz.prog ⟨[2, 4, 6], [(0, [1, 2, 4]), (1, [1, 2, 4, 5]), (2, [1, 2, 4, 5, 12]), (3, [1, 2, 4]), (4, [4]), (5, [1, 2, 4, 5, 25]), (6, [1, 2, 4]), (7, [4]), (8, [1, 2, 4, 5, 38]), (9, [2, 4, 5]), (10, [4]), (11, [1, 2, 4, 5, 6]), (12, [2, 4, 5, 6]), (13, [4])], [(10, [(some 2), none, (some 2), (some 2), none, none, none, (some 4)])]⟩ Go.Proofs.Tryz.f35 = some F35 := by kernel_rfl
theorem F35_fn : FnOK2 Go.Proofs.Tryz.prog 35 (.pl F35) := .pl Go.Proofs.Tryz.func35 (by kernel_rfl) F35_ok
/-- (*emend/tree.Place).Bad -/
def F36 : DF := ⟨1,
(.seq
 (.seq
  (.drw [
    ((⟨some 2, .mv (.t 0), none⟩, none), []),
    ((⟨some 3, .nilc (.t 2), none⟩, none), []),
    ((⟨some 4, .fa 1 (.t 3), none⟩, none), []),
    ((⟨some 5, .ld false 1 (.t 4), none⟩, none), []),
    ((⟨some 6, .mv (.t 0), none⟩, none), []),
    ((⟨some 7, .nilc (.t 6), none⟩, none), []),
    ((⟨some 8, .fa 0 (.t 7), none⟩, none), []),
    ((⟨some 9, .ld false 1 (.t 8), none⟩, none), []),
    ((⟨some 10, .lenS (.t 9), none⟩, none), []),
    ((⟨some 11, .bin .geq none (.t 5) (.t 10), none⟩, none), [])] [0, 11])
  (.cnd (.t 11)
   (.reg [
     ⟨some 12, .mv (.t 0), none⟩,
     ⟨some 13, .nilc (.t 12), none⟩,
     ⟨some 14, .fa 0 (.t 13), none⟩,
     ⟨some 15, .ld false 1 (.t 14), none⟩,
     ⟨some 16, .lenS (.t 15), none⟩,
     ⟨some 17, .call 81 [(.t 16), (.c (.int .i64 14))], none⟩] [0])
   .skip))
 (.reg [
   ⟨some 18, .mv (.t 0), none⟩,
   ⟨some 19, .nilc (.t 18), none⟩,
   ⟨some 20, .fa 1 (.t 19), none⟩,
   ⟨some 21, .ld false 1 (.t 20), none⟩,
   ⟨some 22, .call 81 [(.t 21), (.c (.int .i64 13))], none⟩] [])),
[]⟩
theorem F36_ok : prepF Go.Proofs.Tryz.prog ⟨[], [(0, [0, 11]), (1, [0]), (2, [])], []⟩ Go.Proofs.Tryz.f36 = some F36 := by kernel_rfl
theorem F36_fn : FnOK2 Go.Proofs.Tryz.prog 36 (.pl F36) := .pl Go.Proofs.Tryz.func36 (by kernel_rfl) F36_ok
/-- emend/json.holds -/
def F37 : DF := ⟨2,
(.seq
 (.reg [
   ⟨some 2, .bxL (.t 0), none⟩,
   ⟨some 4, .mv (.c (.bool false)), none⟩] [1, 2])
 (.seq
  (.seq
   (.reg [
     ⟨some 7, .fa 3 (.t 2), none⟩,
     ⟨some 8, .ld false 1 (.t 7), none⟩,
     ⟨some 9, .len (.t 8), none⟩,
     ⟨some 10, .mv (.c (.int .i64 0)), none⟩] [1, 2, 8, 9, 10])
   (.blk 0
    (.seq
     (.trim [1, 2, 8, 9, 10])
     (.lop
      (.seq
       (.seq
        (.reg [
          ⟨some 11, .bin .lss none (.t 10) (.t 9), none⟩] [1, 2, 8, 9, 10, 11])
        (.seq
         (.cnd (.t 11)
          .skip
          (.exit 0))
         (.seq
          (.blk 1
           (.seq
            (.reg [
              ⟨some 12, .ia 4 (.t 8) (.t 10), none⟩,
              ⟨some 13, .ld true 4 (.t 12), none⟩,
              ⟨some 6, .alL [(.int .i64 0), (.str []), (.sl 1 ⟨none, 0, (some 0), true⟩ []), (.sl 4 ⟨none, 0, (some 0), true⟩ [])], none⟩,
              ⟨none, .st 4 (.t 6) (.t 13), none⟩] [1, 2, 6, 8, 9, 10])
            (.seq
             (.reg [
               ⟨some 14, .ld true 4 (.t 6), none⟩,
               ⟨some 15, .mv (.t 1), none⟩,
               ⟨some 16, .call 37 [(.t 14), (.t 15)], none⟩] [1, 2, 8, 9, 10, 16])
             (.cnd (.t 16)
              (.seq
               (.reg [
                 ⟨some 4, .mv (.c (.bool true)), none⟩] [4])
               .ret)
              .skip))))
          (.reg [
            ⟨some 17, .bin .add none (.t 10) (.c (.int .i64 1)), none⟩,
            ⟨some 10, .mv (.t 17), none⟩] [1, 2, 8, 9, 10]))))
       (.trim [1, 2, 8, 9, 10]))))))
  (.seq
   (.reg [
     ⟨some 18, .fa 0 (.t 2), none⟩,
     ⟨some 19, .ld false 1 (.t 18), none⟩,
     ⟨some 20, .mv (.t 1), none⟩,
     ⟨some 21, .bin .eql (some .int) (.t 19) (.t 20), none⟩,
     ⟨some 4, .mv (.t 21), none⟩] [4])
   .ret))),
[.tmp 4]⟩
theorem F37_ok : prepF Go.Proofs.Tryz.prog ⟨[2, 6], [(0, [1, 2]), (1, [1, 2, 8, 9, 10]), (2, [1, 2, 8, 9, 10, 11]), (3, [1, 2, 6, 8, 9, 10]), (4, [1, 2, 8, 9, 10, 16]), (5, [4]), (6, [1, 2, 8, 9, 10]), (7, [4]), (1000000, [1, 2, 8, 9, 10])], []⟩ Go.Proofs.Tryz.f37 = some F37 := by kernel_rfl
theorem F37_fn : FnOK2 Go.Proofs.Tryz.prog 37 (.pl F37) := .pl Go.Proofs.Tryz.func37 (by kernel_rfl) F37_ok
/-- emend/tree.Text -/
def F38 : DF := ⟨1,
(.seq
 (.reg [
   ⟨some 1, .bxL (.t 0), none⟩,
   ⟨some 2, .mv (.c (.str [])), none⟩,
   ⟨some 3, .mv (.c (.int .i64 0)), none⟩] [1])
 (.seq
  (.seq
   (.reg [
     ⟨some 6, .ld true 4 (.t 1), none⟩,
     ⟨some 7, .call 27 [(.t 6)], none⟩,
     ⟨some 4, .mv (.t 7), none⟩] [1, 4])
   (.seq
    (.reg [
      ⟨some 8, .mv (.t 4), none⟩,
      ⟨some 9, .bin .neq (some .int) (.t 8) (.c (.int .i64 0)), none⟩] [1, 4, 9])
    (.cnd (.t 9)
     (.seq
      (.reg [
        ⟨some 10, .mv (.t 4), none⟩,
        ⟨some 2, .mv (.c (.str [])), none⟩,
        ⟨some 3, .mv (.t 10), none⟩] [2, 3])
      .ret)
     .skip)))
  (.seq
   (.reg [
     ⟨some 11, .bld [.nilp, (.sl 1 ⟨none, 0, (some 0), true⟩ [])] [], none⟩,
     ⟨some 12, .bxH 132 (.t 11), none⟩,
     ⟨some 5, .mv (.t 12), none⟩] [1, 5])
   (.seq
    (.reg [
      ⟨some 13, .mv (.t 5), none⟩,
      ⟨some 14, .ld true 4 (.t 1), none⟩,
      ⟨some 15, .call 82 [(.t 13), (.t 14)], none⟩] [5])
    (.seq
     (.seq
      (.reg [
        ⟨some 16, .mv (.t 5), none⟩,
        ⟨some 17, .nilc (.t 16), none⟩,
        ⟨some 18, .fa 0 (.t 17), none⟩,
        ⟨some 19, .call 83 [(.t 18)], none⟩,
        ⟨some 20, .bin .gtr none (.t 19) (.c (.int .i64 65536)), none⟩] [5, 20])
      (.cnd (.t 20)
       (.seq
        (.reg [
          ⟨some 2, .mv (.c (.str [])), none⟩,
          ⟨some 3, .mv (.c (.int .i64 2)), none⟩] [2, 3])
        .ret)
       .skip))
     (.seq
      (.reg [
        ⟨some 21, .mv (.t 5), none⟩,
        ⟨some 22, .nilc (.t 21), none⟩,
        ⟨some 23, .fa 0 (.t 22), none⟩,
        ⟨some 24, .call 54 [(.t 23)], none⟩,
        ⟨some 2, .mv (.t 24), none⟩,
        ⟨some 3, .mv (.c (.int .i64 0)), none⟩] [2, 3])
      .ret)))))),
[.tmp 2, .tmp 3]⟩
theorem F38_ok : prepF Go.Proofs.Tryz.prog ⟨[1], [(0, [1]), (1, [1, 4]), (2, [1, 4, 9]), (3, [2, 3]), (4, [1, 5]), (5, [5]), (6, [5, 20]), (7, [2, 3]), (8, [2, 3])], []⟩ Go.Proofs.Tryz.f38 = some F38 := by kernel_rfl
theorem F38_fn : FnOK2 Go.Proofs.Tryz.prog 38 (.pl F38) := .pl Go.Proofs.Tryz.func38 (by kernel_rfl) F38_ok
/-- (emend/api.Place).Where -/
def F44 : DF := ⟨1,
(.seq
 (.reg [
   ⟨some 1, .bxL (.t 0), none⟩,
   ⟨some 2, .mv (.c (.int .i64 0)), none⟩] [1])
 (.seq
  (.reg [
    ⟨some 3, .fa 0 (.t 1), none⟩,
    ⟨some 4, .ld false 1 (.t 3), none⟩,
    ⟨some 2, .mv (.t 4), none⟩] [2])
  .ret)),
[.tmp 2]⟩
theorem F44_ok : prepF Go.Proofs.Tryz.prog ⟨[1], [(0, [1]), (1, [2])], []⟩ Go.Proofs.Tryz.f44 = some F44 := by kernel_rfl
theorem F44_fn : FnOK2 Go.Proofs.Tryz.prog 44 (.pl F44) := .pl Go.Proofs.Tryz.func44 (by kernel_rfl) F44_ok
/-- (*emend/text.Refusal).Error -/
def F45 : DF := ⟨1,
(.seq
 (.reg [
   ⟨some 2, .mv (.c (.str [])), none⟩] [0])
 (.seq
  (.drw [
    ((⟨some 3, .mv (.t 0), none⟩, none), []),
    ((⟨some 4, .nilc (.t 3), none⟩, none), []),
    ((⟨some 5, .fa 0 (.t 4), none⟩, none), []),
    ((⟨some 6, .ld true 1 (.t 5), none⟩, none), []),
    ((⟨some 11, .mv (.t 0), none⟩, none), []),
    ((⟨some 12, .nilc (.t 11), none⟩, none), []),
    ((⟨some 13, .fa 1 (.t 12), none⟩, none), []),
    ((⟨some 14, .ld false 1 (.t 13), none⟩, none), []),
    ((⟨some 7, .call 44 [(.t 6)], none⟩, none), [(⟨some 14, .ld false 1 (.t 13), none⟩, none)]),
    ((⟨some 8, .call 89 [(.t 7)], none⟩, none), [(⟨some 14, .ld false 1 (.t 13), none⟩, none)]),
    ((⟨some 9, .bin .add none (.c (.str [97, 116, 32])) (.t 8), none⟩, none), []),
    ((⟨some 10, .bin .add none (.t 9) (.c (.str [58, 32])), none⟩, none), []),
    ((⟨some 15, .call 90 [(.t 14)], none⟩, none), []),
    ((⟨some 16, .bin .add none (.t 10) (.t 15), none⟩, none), []),
    ((⟨some 2, .mv (.t 16), none⟩, none), [])] [2])
  .ret)),
[.tmp 2]⟩
theorem F45_ok : prepF Go.Proofs.Tryz.prog ⟨[], [(0, [0]), (1, [2])], []⟩ Go.Proofs.Tryz.f45 = some F45 := by kernel_rfl
theorem F45_fn : FnOK2 Go.Proofs.Tryz.prog 45 (.pl F45) := .pl Go.Proofs.Tryz.func45 (by kernel_rfl) F45_ok
/-- emend/cst.made -/
def F50 : DF := ⟨1,
(.seq
 (.reg [
   ⟨some 1, .bxL (.t 0), none⟩,
   ⟨some 2, .alL [(.int .i64 0), (.str []), (.sl 1 ⟨none, 0, (some 0), true⟩ []), (.sl 4 ⟨none, 0, (some 0), true⟩ [])], none⟩] [1, 2])
 (.seq
  (.seq
   (.reg [
     ⟨some 6, .ld true 14 (.t 1), none⟩,
     ⟨some 7, .call 96 [(.t 6)], none⟩] [1, 2, 7])
   (.cnd (.t 7)
    (.seq
     (.reg [
       ⟨some 8, .fa 4 (.t 1), none⟩,
       ⟨some 9, .ld true 4 (.t 8), none⟩,
       ⟨some 10, .call 97 [(.t 9)], none⟩,
       ⟨none, .st 4 (.t 2) (.t 10), none⟩] [2])
     .ret)
    .skip))
  (.seq
   (.reg [
     ⟨some 11, .fa 0 (.t 1), none⟩,
     ⟨some 12, .ld false 1 (.t 11), none⟩,
     ⟨some 13, .bld [(.int .i64 0), (.str []), (.sl 1 ⟨none, 0, (some 0), true⟩ []), (.sl 4 ⟨none, 0, (some 0), true⟩ [])] [(0, 1, (.t 12))], none⟩,
     ⟨some 3, .alL [(.int .i64 0), (.str []), (.sl 1 ⟨none, 0, (some 0), true⟩ []), (.sl 4 ⟨none, 0, (some 0), true⟩ [])], none⟩,
     ⟨none, .st 4 (.t 3) (.t 13), none⟩] [1, 2, 3])
   (.seq
    (.seq
     (.reg [
       ⟨some 14, .fa 9 (.t 1), none⟩,
       ⟨some 15, .ld false 1 (.t 14), none⟩,
       ⟨some 16, .len (.t 15), none⟩,
       ⟨some 17, .mv (.c (.int .i64 0)), none⟩] [1, 2, 3, 15, 16, 17])
     (.blk 0
      (.seq
       (.trim [1, 2, 3, 15, 16, 17])
       (.lop
        (.seq
         (.seq
          (.reg [
            ⟨some 18, .bin .lss none (.t 17) (.t 16), none⟩] [1, 2, 3, 15, 16, 17, 18])
          (.seq
           (.cnd (.t 18)
            .skip
            (.exit 0))
           (.seq
            (.blk 1
             (.seq
              (.reg [
                ⟨some 19, .ia 14 (.t 15) (.t 17), none⟩,
                ⟨some 20, .ld true 14 (.t 19), none⟩,
                ⟨some 5, .alL [(.int .i64 0), (.str []), (.str []), (.str []), (.int .i64 0), (.str []), (.sl 1 ⟨none, 0, (some 0), true⟩ []), (.sl 4 ⟨none, 0, (some 0), true⟩ []), (.str []), (.sl 14 ⟨none, 0, (some 0), true⟩ []), (.sl 1 ⟨none, 0, (some 0), true⟩ []), (.str []), (.str []), (.int .i64 0)], none⟩,
                ⟨none, .st 14 (.t 5) (.t 20), none⟩] [1, 2, 3, 5, 15, 16, 17])
              (.seq
               (.seq
                (.reg [
                  ⟨some 21, .fa 0 (.t 1), none⟩,
                  ⟨some 22, .ld false 1 (.t 21), none⟩,
                  ⟨some 23, .bin .eql (some .int) (.t 22) (.c (.int .i64 7)), none⟩] [1, 2, 3, 5, 15, 16, 17, 23])
                (.cnd (.t 23)
                 (.reg [
                   ⟨some 24, .fa 2 (.t 3), none⟩,
                   ⟨some 25, .ld false 1 (.t 24), none⟩,
                   ⟨some 26, .fa 2 (.t 5), none⟩,
                   ⟨some 27, .ld false 1 (.t 26), none⟩,
                   ⟨some 28, .bldT 9 1 1 (.str []) [(0, (.t 27))], none⟩,
                   ⟨some 29, .app false 9 1 16 (.t 25) (.t 28), none⟩,
                   ⟨some 30, .fa 2 (.t 3), none⟩,
                   ⟨none, .st 1 (.t 30) (.t 29), none⟩] [1, 2, 3, 5, 15, 16, 17])
                 .skip))
               (.drw [
                 ((⟨some 31, .fa 3 (.t 3), none⟩, (some 3)), []),
                 ((⟨some 32, .ld false 1 (.t 31), none⟩, (some 3)), []),
                 ((⟨some 33, .ld true 14 (.t 5), none⟩, (some 5)), []),
                 ((⟨some 34, .call 50 [(.t 33)], none⟩, none), []),
                 ((⟨some 35, .bldS 4 1 (.agg [(.int .i64 0), (.str []), (.sl 1 ⟨none, 0, (some 0), true⟩ []), (.sl 4 ⟨none, 0, (some 0), true⟩ [])]) [(0, (.t 34))], none⟩, none), []),
                 ((⟨some 36, .app true 25 4 72 (.t 32) (.t 35), none⟩, none), []),
                 ((⟨some 37, .fa 3 (.t 3), none⟩, (some 3)), []),
                 ((⟨none, .st 1 (.t 37) (.t 36), none⟩, (some 3)), [])] [1, 2, 3, 15, 16, 17]))))
            (.reg [
              ⟨some 38, .bin .add none (.t 17) (.c (.int .i64 1)), none⟩,
              ⟨some 17, .mv (.t 38), none⟩] [1, 2, 3, 15, 16, 17]))))
         (.trim [1, 2, 3, 15, 16, 17]))))))
    (.seq
     (.reg [
       ⟨some 39, .ld true 4 (.t 3), none⟩,
       ⟨none, .st 4 (.t 2) (.t 39), none⟩] [2])
     .ret))))),
[.cell 2 true 4]⟩
theorem F50_ok : prepF Go.Proofs.Tryz.prog ⟨[1, 2, 3, 5], [(0, [1, 2]), (1, [1, 2, 7]), (2, [2]), (3, [1, 2, 3]), (4, [1, 2, 3, 15, 16, 17]), (5, [1, 2, 3, 15, 16, 17, 18]), (6, [1, 2, 3, 5, 15, 16, 17]), (7, [1, 2, 3, 5, 15, 16, 17, 23]), (8, [1, 2, 3, 5, 15, 16, 17]), (9, [1, 2, 3, 15, 16, 17]), (10, [1, 2, 3, 15, 16, 17]), (11, [2]), (1000000, [1, 2, 3, 15, 16, 17])], [(9, [(some 3), (some 3), (some 5), none, none, none, (some 3), (some 3)])]⟩ Go.Proofs.Tryz.f50 = some F50 := by kernel_rfl
theorem F50_fn : FnOK2 Go.Proofs.Tryz.prog 50 (.pl F50) := .pl Go.Proofs.Tryz.func50 (by kernel_rfl) F50_ok
/-- emend/cst.pieces -/
def F51 : DF := ⟨2,
(.seq
 (.reg [
   ⟨some 2, .bxL (.t 0), none⟩] [1, 2])
 (.seq
  (.reg [
    ⟨some 6, .mv (.t 1), none⟩,
    ⟨some 7, .fa 1 (.t 2), none⟩,
    ⟨some 8, .ld false 1 (.t 7), none⟩,
    ⟨some 9, .callv (.t 6) [(.t 8)], none⟩] [1, 2])
  (.seq
   (.seq
    (.reg [
      ⟨some 10, .ld true 14 (.t 2), none⟩,
      ⟨some 11, .call 96 [(.t 10)], none⟩] [1, 2, 11])
    (.cnd (.t 11)
     (.reg [
       ⟨some 12, .mv (.t 1), none⟩,
       ⟨some 13, .fa 3 (.t 2), none⟩,
       ⟨some 14, .ld false 1 (.t 13), none⟩,
       ⟨some 15, .callv (.t 12) [(.t 14)], none⟩] [1, 2])
     (.seq
      (.reg [
        ⟨some 16, .mv (.t 1), none⟩,
        ⟨some 17, .fa 8 (.t 2), none⟩,
        ⟨some 18, .ld false 1 (.t 17), none⟩,
        ⟨some 19, .callv (.t 16) [(.t 18)], none⟩] [1, 2])
      (.seq
       (.seq
        (.reg [
          ⟨some 20, .fa 9 (.t 2), none⟩,
          ⟨some 21, .ld false 1 (.t 20), none⟩,
          ⟨some 22, .len (.t 21), none⟩,
          ⟨some 23, .mv (.c (.int .i64 0)), none⟩] [1, 2, 21, 22, 23])
        (.blk 0
         (.seq
          (.trim [1, 2, 21, 22, 23])
          (.lop
           (.seq
            (.seq
             (.reg [
               ⟨some 24, .bin .lss none (.t 23) (.t 22), none⟩] [1, 2, 21, 22, 23, 24])
             (.seq
              (.cnd (.t 24)
               .skip
               (.exit 0))
              (.seq
               (.blk 1
                (.seq
                 (.reg [
                   ⟨some 25, .mv (.t 23), none⟩,
                   ⟨some 26, .ia 14 (.t 21) (.t 23), none⟩,
                   ⟨some 27, .ld true 14 (.t 26), none⟩,
                   ⟨some 5, .alL [(.int .i64 0), (.str []), (.str []), (.str []), (.int .i64 0), (.str []), (.sl 1 ⟨none, 0, (some 0), true⟩ []), (.sl 4 ⟨none, 0, (some 0), true⟩ []), (.str []), (.sl 14 ⟨none, 0, (some 0), true⟩ []), (.sl 1 ⟨none, 0, (some 0), true⟩ []), (.str []), (.str []), (.int .i64 0)], none⟩,
                   ⟨some 4, .mv (.t 25), none⟩,
                   ⟨none, .st 14 (.t 5) (.t 27), none⟩] [1, 2, 4, 5, 21, 22, 23])
                 (.seq
                  (.seq
                   (.reg [
                     ⟨some 28, .mv (.t 4), none⟩,
                     ⟨some 29, .bin .gtr none (.t 28) (.c (.int .i64 0)), none⟩,
                     ⟨some 30, .mv (.t 29), none⟩,
                     ⟨some 31, .mv (.t 4), some (30, true)⟩,
                     ⟨some 32, .bin .sub none (.t 31) (.c (.int .i64 1)), some (30, true)⟩,
                     ⟨some 33, .fa 10 (.t 2), some (30, true)⟩,
                     ⟨some 34, .ld false 1 (.t 33), some (30, true)⟩,
                     ⟨some 35, .len (.t 34), some (30, true)⟩,
                     ⟨some 36, .bin .lss none (.t 32) (.t 35), some (30, true)⟩,
                     ⟨some 37, .pick (.t 30) (.t 36) (.c (.bool false)), none⟩] [1, 2, 4, 5, 21, 22, 23, 37])
                   (.cnd (.t 37)
                    (.reg [
                      ⟨some 38, .mv (.t 1), none⟩,
                      ⟨some 39, .fa 10 (.t 2), none⟩,
                      ⟨some 40, .ld false 1 (.t 39), none⟩,
                      ⟨some 41, .mv (.t 4), none⟩,
                      ⟨some 42, .bin .sub none (.t 41) (.c (.int .i64 1)), none⟩,
                      ⟨some 43, .ia 1 (.t 40) (.t 42), none⟩,
                      ⟨some 44, .ld false 1 (.t 43), none⟩,
                      ⟨some 45, .callv (.t 38) [(.t 44)], none⟩] [1, 2, 5, 21, 22, 23])
                    .skip))
                  (.reg [
                    ⟨some 46, .ld true 14 (.t 5), none⟩,
                    ⟨some 47, .mv (.t 1), none⟩,
                    ⟨some 48, .call 51 [(.t 46), (.t 47)], none⟩] [1, 2, 21, 22, 23]))))
               (.reg [
                 ⟨some 49, .bin .add none (.t 23) (.c (.int .i64 1)), none⟩,
                 ⟨some 23, .mv (.t 49), none⟩] [1, 2, 21, 22, 23]))))
            (.trim [1, 2, 21, 22, 23]))))))
       (.reg [
         ⟨some 50, .mv (.t 1), none⟩,
         ⟨some 51, .fa 11 (.t 2), none⟩,
         ⟨some 52, .ld false 1 (.t 51), none⟩,
         ⟨some 53, .callv (.t 50) [(.t 52)], none⟩] [1, 2])))))
   (.reg [
     ⟨some 54, .mv (.t 1), none⟩,
     ⟨some 55, .fa 12 (.t 2), none⟩,
     ⟨some 56, .ld false 1 (.t 55), none⟩,
     ⟨some 57, .callv (.t 54) [(.t 56)], none⟩] [])))),
[]⟩
theorem F51_ok : prepF Go.Proofs.Tryz.prog ⟨[2, 5], [(0, [1, 2]), (1, [1, 2]), (2, [1, 2, 11]), (3, [1, 2]), (4, [1, 2]), (5, [1, 2, 21, 22, 23]), (6, [1, 2, 21, 22, 23, 24]), (7, [1, 2, 4, 5, 21, 22, 23]), (8, [1, 2, 4, 5, 21, 22, 23, 37]), (9, [1, 2, 5, 21, 22, 23]), (10, [1, 2, 21, 22, 23]), (11, [1, 2, 21, 22, 23]), (12, [1, 2]), (13, []), (1000000, [1, 2, 21, 22, 23])], []⟩ Go.Proofs.Tryz.f51 = some F51 := by kernel_rfl
theorem F51_fn : FnOK2 Go.Proofs.Tryz.prog 51 (.pl F51) := .pl Go.Proofs.Tryz.func51 (by kernel_rfl) F51_ok
/-- emend/cst.Flatten$1 -/
def F52 : DF := ⟨2,
(.reg [
  ⟨some 3, .mv (.t 0), none⟩,
  ⟨some 4, .call 53 [(.t 1), (.t 3)], none⟩] []),
[]⟩
theorem F52_ok : prepF Go.Proofs.Tryz.prog ⟨[], [(0, [])], []⟩ Go.Proofs.Tryz.f52 = some F52 := by kernel_rfl
theorem F52_fn : FnOK2 Go.Proofs.Tryz.prog 52 (.pl F52) := .pl Go.Proofs.Tryz.func52 (by kernel_rfl) F52_ok
/-- (*strings.Builder).WriteString -/
def F53 : DF := ⟨2,
(.seq
 (.reg [
   ⟨some 4, .mv (.c (.int .i64 0)), none⟩,
   ⟨some 5, .mv (.c .nilif), none⟩] [0, 1])
 (.seq
  (.reg [
    ⟨some 6, .mv (.t 0), none⟩,
    ⟨some 7, .call 98 [(.t 6)], none⟩] [0, 1])
  (.seq
   (.reg [
     ⟨some 8, .mv (.t 0), none⟩,
     ⟨some 9, .mv (.t 0), none⟩,
     ⟨some 10, .nilc (.t 9), none⟩,
     ⟨some 11, .fa 1 (.t 10), none⟩,
     ⟨some 12, .ld false 1 (.t 11), none⟩,
     ⟨some 13, .mv (.t 1), none⟩,
     ⟨some 14, .app false 5 1 1 (.t 12) (.t 13), none⟩,
     ⟨some 15, .nilc (.t 8), none⟩,
     ⟨some 16, .fa 1 (.t 15), none⟩,
     ⟨none, .st 1 (.t 16) (.t 14), none⟩] [1])
   (.seq
    (.reg [
      ⟨some 17, .mv (.t 1), none⟩,
      ⟨some 18, .lenS (.t 17), none⟩,
      ⟨some 4, .mv (.t 18), none⟩,
      ⟨some 5, .mv (.c .nilif), none⟩] [4, 5])
    .ret)))),
[.tmp 4, .tmp 5]⟩
theorem F53_ok : prepF Go.Proofs.Tryz.prog ⟨[], [(0, [0, 1]), (1, [0, 1]), (2, [1]), (3, [4, 5])], []⟩ Go.Proofs.Tryz.f53 = some F53 := by kernel_rfl
theorem F53_fn : FnOK2 Go.Proofs.Tryz.prog 53 (.pl F53) := .pl Go.Proofs.Tryz.func53 (by kernel_rfl) F53_ok
/-- (*strings.Builder).String -/
def F54 : DF := ⟨1,
(.seq
 (.reg [
   ⟨some 2, .mv (.c (.str [])), none⟩] [0])
 (.seq
  (.drw [
    ((⟨some 3, .mv (.t 0), none⟩, none), []),
    ((⟨some 4, .nilc (.t 3), none⟩, none), []),
    ((⟨some 5, .fa 1 (.t 4), none⟩, none), []),
    ((⟨some 6, .ld false 1 (.t 5), none⟩, none), []),
    ((⟨some 7, .usd (.t 6), none⟩, none), []),
    ((⟨some 8, .mv (.t 0), none⟩, none), []),
    ((⟨some 9, .nilc (.t 8), none⟩, none), []),
    ((⟨some 10, .fa 1 (.t 9), none⟩, none), []),
    ((⟨some 11, .ld false 1 (.t 10), none⟩, none), []),
    ((⟨some 12, .len (.t 11), none⟩, none), []),
    ((⟨some 13, .ustr 5 (.t 7) (.t 12), none⟩, none), []),
    ((⟨some 2, .mv (.t 13), none⟩, none), [])] [2])
  .ret)),
[.tmp 2]⟩
theorem F54_ok : prepF Go.Proofs.Tryz.prog ⟨[], [(0, [0]), (1, [2])], []⟩ Go.Proofs.Tryz.f54 = some F54 := by kernel_rfl
theorem F54_fn : FnOK2 Go.Proofs.Tryz.prog 54 (.pl F54) := .pl Go.Proofs.Tryz.func54 (by kernel_rfl) F54_ok
/-- emend/cst.depth -/
def F55 : DF := ⟨1,
(.seq
 (.reg [
   ⟨some 1, .bxL (.t 0), none⟩,
   ⟨some 2, .mv (.c (.int .i64 0)), none⟩] [1])
 (.seq
  (.reg [
    ⟨some 3, .mv (.c (.int .i64 0)), none⟩] [1, 3])
  (.seq
   (.seq
    (.reg [
      ⟨some 6, .fa 9 (.t 1), none⟩,
      ⟨some 7, .ld false 1 (.t 6), none⟩,
      ⟨some 8, .len (.t 7), none⟩,
      ⟨some 9, .mv (.c (.int .i64 0)), none⟩] [3, 7, 8, 9])
    (.blk 0
     (.seq
      (.trim [3, 7, 8, 9])
      (.lop
       (.seq
        (.seq
         (.reg [
           ⟨some 10, .bin .lss none (.t 9) (.t 8), none⟩] [3, 7, 8, 9, 10])
         (.seq
          (.cnd (.t 10)
           .skip
           (.exit 0))
          (.seq
           (.blk 1
            (.seq
             (.reg [
               ⟨some 11, .ia 14 (.t 7) (.t 9), none⟩,
               ⟨some 12, .ld true 14 (.t 11), none⟩,
               ⟨some 5, .alL [(.int .i64 0), (.str []), (.str []), (.str []), (.int .i64 0), (.str []), (.sl 1 ⟨none, 0, (some 0), true⟩ []), (.sl 4 ⟨none, 0, (some 0), true⟩ []), (.str []), (.sl 14 ⟨none, 0, (some 0), true⟩ []), (.sl 1 ⟨none, 0, (some 0), true⟩ []), (.str []), (.str []), (.int .i64 0)], none⟩,
               ⟨none, .st 14 (.t 5) (.t 12), none⟩] [3, 5, 7, 8, 9])
             (.reg [
               ⟨some 13, .mv (.t 3), none⟩,
               ⟨some 14, .ld true 14 (.t 5), none⟩,
               ⟨some 15, .call 55 [(.t 14)], none⟩,
               ⟨some 16, .mx [(.t 13), (.t 15)], none⟩,
               ⟨some 3, .mv (.t 16), none⟩] [3, 7, 8, 9])))
           (.reg [
             ⟨some 17, .bin .add none (.t 9) (.c (.int .i64 1)), none⟩,
             ⟨some 9, .mv (.t 17), none⟩] [3, 7, 8, 9]))))
        (.trim [3, 7, 8, 9]))))))
   (.seq
    (.reg [
      ⟨some 18, .mv (.t 3), none⟩,
      ⟨some 19, .bin .add none (.t 18) (.c (.int .i64 1)), none⟩,
      ⟨some 2, .mv (.t 19), none⟩] [2])
    .ret)))),
[.tmp 2]⟩
theorem F55_ok : prepF Go.Proofs.Tryz.prog ⟨[1, 5], [(0, [1]), (1, [1, 3]), (2, [3, 7, 8, 9]), (3, [3, 7, 8, 9, 10]), (4, [3, 5, 7, 8, 9]), (5, [3, 7, 8, 9]), (6, [3, 7, 8, 9]), (7, [2]), (1000000, [3, 7, 8, 9])], []⟩ Go.Proofs.Tryz.f55 = some F55 := by kernel_rfl
theorem F55_fn : FnOK2 Go.Proofs.Tryz.prog 55 (.pl F55) := .pl Go.Proofs.Tryz.func55 (by kernel_rfl) F55_ok
/-- emend/cst.Count -/
def F56 : DF := ⟨1,
(.seq
 (.reg [
   ⟨some 1, .bxL (.t 0), none⟩,
   ⟨some 2, .mv (.c (.int .i64 0)), none⟩] [1])
 (.seq
  (.reg [
    ⟨some 3, .mv (.c (.int .i64 1)), none⟩] [1, 3])
  (.seq
   (.seq
    (.reg [
      ⟨some 6, .fa 9 (.t 1), none⟩,
      ⟨some 7, .ld false 1 (.t 6), none⟩,
      ⟨some 8, .len (.t 7), none⟩,
      ⟨some 9, .mv (.c (.int .i64 0)), none⟩] [3, 7, 8, 9])
    (.blk 0
     (.seq
      (.trim [3, 7, 8, 9])
      (.lop
       (.seq
        (.seq
         (.reg [
           ⟨some 10, .bin .lss none (.t 9) (.t 8), none⟩] [3, 7, 8, 9, 10])
         (.seq
          (.cnd (.t 10)
           .skip
           (.exit 0))
          (.seq
           (.blk 1
            (.seq
             (.reg [
               ⟨some 11, .ia 14 (.t 7) (.t 9), none⟩,
               ⟨some 12, .ld true 14 (.t 11), none⟩,
               ⟨some 5, .alL [(.int .i64 0), (.str []), (.str []), (.str []), (.int .i64 0), (.str []), (.sl 1 ⟨none, 0, (some 0), true⟩ []), (.sl 4 ⟨none, 0, (some 0), true⟩ []), (.str []), (.sl 14 ⟨none, 0, (some 0), true⟩ []), (.sl 1 ⟨none, 0, (some 0), true⟩ []), (.str []), (.str []), (.int .i64 0)], none⟩,
               ⟨none, .st 14 (.t 5) (.t 12), none⟩] [3, 5, 7, 8, 9])
             (.reg [
               ⟨some 13, .mv (.t 3), none⟩,
               ⟨some 14, .ld true 14 (.t 5), none⟩,
               ⟨some 15, .call 56 [(.t 14)], none⟩,
               ⟨some 16, .bin .add none (.t 13) (.t 15), none⟩,
               ⟨some 3, .mv (.t 16), none⟩] [3, 7, 8, 9])))
           (.reg [
             ⟨some 17, .bin .add none (.t 9) (.c (.int .i64 1)), none⟩,
             ⟨some 9, .mv (.t 17), none⟩] [3, 7, 8, 9]))))
        (.trim [3, 7, 8, 9]))))))
   (.seq
    (.reg [
      ⟨some 18, .mv (.t 3), none⟩,
      ⟨some 2, .mv (.t 18), none⟩] [2])
    .ret)))),
[.tmp 2]⟩
theorem F56_ok : prepF Go.Proofs.Tryz.prog ⟨[1, 5], [(0, [1]), (1, [1, 3]), (2, [3, 7, 8, 9]), (3, [3, 7, 8, 9, 10]), (4, [3, 5, 7, 8, 9]), (5, [3, 7, 8, 9]), (6, [3, 7, 8, 9]), (7, [2]), (1000000, [3, 7, 8, 9])], []⟩ Go.Proofs.Tryz.f56 = some F56 := by kernel_rfl
theorem F56_fn : FnOK2 Go.Proofs.Tryz.prog 56 (.pl F56) := .pl Go.Proofs.Tryz.func56 (by kernel_rfl) F56_ok
/-- emend/cst.formed -/
def F57 : DF := ⟨1,
(.seq
 (.reg [
   ⟨some 1, .bxL (.t 0), none⟩,
   ⟨some 2, .mv (.c (.bool false)), none⟩] [1])
 (.seq
  (.seq
   (.reg [
     ⟨some 6, .ld true 14 (.t 1), none⟩,
     ⟨some 7, .call 96 [(.t 6)], none⟩] [1, 7])
   (.cnd (.t 7)
    (.seq
     (.reg [
       ⟨some 8, .fa 4 (.t 1), none⟩,
       ⟨some 9, .fa 0 (.t 8), none⟩,
       ⟨some 10, .ld false 1 (.t 9), none⟩,
       ⟨some 11, .fa 0 (.t 1), none⟩,
       ⟨some 12, .ld false 1 (.t 11), none⟩,
       ⟨some 13, .bin .eql (some .int) (.t 10) (.t 12), none⟩,
       ⟨some 14, .mv (.t 13), none⟩,
       ⟨some 15, .fa 4 (.t 1), some (14, true)⟩,
       ⟨some 16, .ld true 4 (.t 15), some (14, true)⟩,
       ⟨some 17, .call 27 [(.t 16)], some (14, true)⟩,
       ⟨some 18, .bin .eql (some .int) (.t 17) (.c (.int .i64 0)), some (14, true)⟩,
       ⟨some 19, .pick (.t 14) (.t 18) (.c (.bool false)), none⟩,
       ⟨some 20, .mv (.t 19), none⟩,
       ⟨some 21, .fa 8 (.t 1), some (20, true)⟩,
       ⟨some 22, .ld false 1 (.t 21), some (20, true)⟩,
       ⟨some 23, .bin .eql (some .str) (.t 22) (.c (.str [])), some (20, true)⟩,
       ⟨some 24, .pick (.t 20) (.t 23) (.c (.bool false)), none⟩,
       ⟨some 25, .mv (.t 24), none⟩,
       ⟨some 26, .fa 11 (.t 1), some (25, true)⟩,
       ⟨some 27, .ld false 1 (.t 26), some (25, true)⟩,
       ⟨some 28, .bin .eql (some .str) (.t 27) (.c (.str [])), some (25, true)⟩,
       ⟨some 29, .pick (.t 25) (.t 28) (.c (.bool false)), none⟩,
       ⟨some 30, .mv (.t 29), none⟩,
       ⟨some 31, .fa 9 (.t 1), some (30, true)⟩,
       ⟨some 32, .ld false 1 (.t 31), some (30, true)⟩,
       ⟨some 33, .len (.t 32), some (30, true)⟩,
       ⟨some 34, .bin .eql (some .int) (.t 33) (.c (.int .i64 0)), some (30, true)⟩,
       ⟨some 35, .pick (.t 30) (.t 34) (.c (.bool false)), none⟩,
       ⟨some 36, .mv (.t 35), none⟩,
       ⟨some 37, .fa 10 (.t 1), some (36, true)⟩,
       ⟨some 38, .ld false 1 (.t 37), some (36, true)⟩,
       ⟨some 39, .len (.t 38), some (36, true)⟩,
       ⟨some 40, .bin .eql (some .int) (.t 39) (.c (.int .i64 0)), some (36, true)⟩,
       ⟨some 41, .pick (.t 36) (.t 40) (.c (.bool false)), none⟩,
       ⟨some 2, .mv (.t 41), none⟩] [2])
     .ret)
    .skip))
  (.seq
   (.seq
    (.reg [
      ⟨some 42, .fa 0 (.t 1), none⟩,
      ⟨some 43, .ld false 1 (.t 42), none⟩,
      ⟨some 44, .bin .neq (some .int) (.t 43) (.c (.int .i64 6)), none⟩,
      ⟨some 45, .mv (.t 44), none⟩,
      ⟨some 46, .fa 0 (.t 1), some (45, true)⟩,
      ⟨some 47, .ld false 1 (.t 46), some (45, true)⟩,
      ⟨some 48, .bin .neq (some .int) (.t 47) (.c (.int .i64 7)), some (45, true)⟩,
      ⟨some 49, .pick (.t 45) (.t 48) (.c (.bool false)), none⟩,
      ⟨some 50, .mv (.t 49), none⟩,
      ⟨some 51, .fa 3 (.t 1), some (50, false)⟩,
      ⟨some 52, .ld false 1 (.t 51), some (50, false)⟩,
      ⟨some 53, .bin .neq (some .str) (.t 52) (.c (.str [])), some (50, false)⟩,
      ⟨some 54, .pick (.t 50) (.c (.bool true)) (.t 53), none⟩,
      ⟨some 55, .mv (.t 54), none⟩,
      ⟨some 56, .fa 4 (.t 1), some (55, false)⟩,
      ⟨some 57, .ld true 4 (.t 56), some (55, false)⟩,
      ⟨some 58, .bld [(.int .i64 0), (.str []), (.sl 1 ⟨none, 0, (some 0), true⟩ []), (.sl 4 ⟨none, 0, (some 0), true⟩ [])] [], some (55, false)⟩,
      ⟨some 59, .call 28 [(.t 57), (.t 58)], some (55, false)⟩,
      ⟨some 60, .un .not (.t 59), some (55, false)⟩,
      ⟨some 61, .pick (.t 55) (.c (.bool true)) (.t 60), none⟩,
      ⟨some 62, .mv (.t 61), none⟩,
      ⟨some 63, .fa 10 (.t 1), some (62, false)⟩,
      ⟨some 64, .ld false 1 (.t 63), some (62, false)⟩,
      ⟨some 65, .len (.t 64), some (62, false)⟩,
      ⟨some 66, .fa 9 (.t 1), some (62, false)⟩,
      ⟨some 67, .ld false 1 (.t 66), some (62, false)⟩,
      ⟨some 68, .len (.t 67), some (62, false)⟩,
      ⟨some 69, .bin .sub none (.t 68) (.c (.int .i64 1)), some (62, false)⟩,
      ⟨some 70, .mx [(.c (.int .i64 0)), (.t 69)], some (62, false)⟩,
      ⟨some 71, .bin .neq (some .int) (.t 65) (.t 70), some (62, false)⟩,
      ⟨some 72, .pick (.t 62) (.c (.bool true)) (.t 71), none⟩] [1, 72])
    (.cnd (.t 72)
     (.seq
      (.reg [
        ⟨some 2, .mv (.c (.bool false)), none⟩] [2])
      .ret)
     .skip))
   (.seq
    (.reg [
      ⟨some 73, .mkm, none⟩,
      ⟨some 3, .mv (.t 73), none⟩] [1, 3])
    (.seq
     (.seq
      (.reg [
        ⟨some 74, .fa 9 (.t 1), none⟩,
        ⟨some 75, .ld false 1 (.t 74), none⟩,
        ⟨some 76, .len (.t 75), none⟩,
        ⟨some 77, .mv (.c (.int .i64 0)), none⟩] [1, 3, 75, 76, 77])
      (.blk 0
       (.seq
        (.trim [1, 3, 75, 76, 77])
        (.lop
         (.seq
          (.seq
           (.reg [
             ⟨some 78, .bin .lss none (.t 77) (.t 76), none⟩] [1, 3, 75, 76, 77, 78])
           (.seq
            (.cnd (.t 78)
             .skip
             (.exit 0))
            (.seq
             (.blk 1
              (.seq
               (.reg [
                 ⟨some 79, .ia 14 (.t 75) (.t 77), none⟩,
                 ⟨some 80, .ld true 14 (.t 79), none⟩,
                 ⟨some 5, .alL [(.int .i64 0), (.str []), (.str []), (.str []), (.int .i64 0), (.str []), (.sl 1 ⟨none, 0, (some 0), true⟩ []), (.sl 4 ⟨none, 0, (some 0), true⟩ []), (.str []), (.sl 14 ⟨none, 0, (some 0), true⟩ []), (.sl 1 ⟨none, 0, (some 0), true⟩ []), (.str []), (.str []), (.int .i64 0)], none⟩,
                 ⟨none, .st 14 (.t 5) (.t 80), none⟩] [1, 3, 5, 75, 76, 77])
               (.seq
                (.reg [
                  ⟨some 81, .mv (.t 3), none⟩,
                  ⟨some 82, .fa 2 (.t 5), none⟩,
                  ⟨some 83, .ld false 1 (.t 82), none⟩,
                  ⟨some 84, .lkp .str (.int .i64 0) (.t 81) (.t 83) false, none⟩,
                  ⟨some 85, .bin .add none (.t 84) (.c (.int .i64 1)), none⟩,
                  ⟨none, .mup .str (.t 81) (.t 83) (.t 85), none⟩] [1, 3, 5, 75, 76, 77])
                (.seq
                 (.reg [
                   ⟨some 86, .fa 0 (.t 1), none⟩,
                   ⟨some 87, .ld false 1 (.t 86), none⟩,
                   ⟨some 88, .bin .eql (some .int) (.t 87) (.c (.int .i64 7)), none⟩,
                   ⟨some 89, .mv (.t 88), none⟩,
                   ⟨some 90, .mv (.t 3), some (89, true)⟩,
                   ⟨some 91, .fa 2 (.t 5), some (89, true)⟩,
                   ⟨some 92, .ld false 1 (.t 91), some (89, true)⟩,
                   ⟨some 93, .lkp .str (.int .i64 0) (.t 90) (.t 92) false, some (89, true)⟩,
                   ⟨some 94, .bin .gtr none (.t 93) (.c (.int .i64 1)), some (89, true)⟩,
                   ⟨some 95, .mv (.t 94), some (89, true)⟩,
                   ⟨some 96, .fa 2 (.t 5), some (95, false)⟩,
                   ⟨some 97, .ld false 1 (.t 96), some (95, false)⟩,
                   ⟨some 98, .call 99 [(.t 97)], some (95, false)⟩,
                   ⟨some 99, .un .not (.t 98), some (95, false)⟩,
                   ⟨some 100, .pick (.t 95) (.c (.bool true)) (.t 99), some (89, true)⟩,
                   ⟨some 101, .pick (.t 89) (.t 100) (.c (.bool false)), none⟩,
                   ⟨some 102, .mv (.t 101), none⟩,
                   ⟨some 103, .fa 0 (.t 1), some (102, false)⟩,
                   ⟨some 104, .ld false 1 (.t 103), some (102, false)⟩,
                   ⟨some 105, .bin .eql (some .int) (.t 104) (.c (.int .i64 6)), some (102, false)⟩,
                   ⟨some 106, .mv (.t 105), some (102, false)⟩,
                   ⟨some 107, .fa 2 (.t 5), some (106, true)⟩,
                   ⟨some 108, .ld false 1 (.t 107), some (106, true)⟩,
                   ⟨some 109, .bin .neq (some .str) (.t 108) (.c (.str [])), some (106, true)⟩,
                   ⟨some 110, .pick (.t 106) (.t 109) (.c (.bool false)), some (102, false)⟩,
                   ⟨some 111, .pick (.t 102) (.c (.bool true)) (.t 110), none⟩,
                   ⟨some 112, .mv (.t 111), none⟩,
                   ⟨some 113, .ld true 14 (.t 5), some (112, false)⟩,
                   ⟨some 114, .call 57 [(.t 113)], some (112, false)⟩,
                   ⟨some 115, .un .not (.t 114), some (112, false)⟩,
                   ⟨some 116, .pick (.t 112) (.c (.bool true)) (.t 115), none⟩] [1, 3, 75, 76, 77, 116])
                 (.cnd (.t 116)
                  (.seq
                   (.reg [
                     ⟨some 2, .mv (.c (.bool false)), none⟩] [2])
                   .ret)
                  .skip)))))
             (.reg [
               ⟨some 117, .bin .add none (.t 77) (.c (.int .i64 1)), none⟩,
               ⟨some 77, .mv (.t 117), none⟩] [1, 3, 75, 76, 77]))))
          (.trim [1, 3, 75, 76, 77]))))))
     (.seq
      (.reg [
        ⟨some 2, .mv (.c (.bool true)), none⟩] [2])
      .ret)))))),
[.tmp 2]⟩
theorem F57_ok : prepF Go.Proofs.Tryz.prog ⟨[1, 5], [(0, [1]), (1, [1, 7]), (2, [2]), (3, [1, 72]), (4, [2]), (5, [1, 3]), (6, [1, 3, 75, 76, 77]), (7, [1, 3, 75, 76, 77, 78]), (8, [1, 3, 5, 75, 76, 77]), (9, [1, 3, 5, 75, 76, 77]), (10, [1, 3, 75, 76, 77, 116]), (11, [2]), (12, [1, 3, 75, 76, 77]), (13, [2]), (1000000, [1, 3, 75, 76, 77])], []⟩ Go.Proofs.Tryz.f57 = some F57 := by kernel_rfl
theorem F57_fn : FnOK2 Go.Proofs.Tryz.prog 57 (.pl F57) := .pl Go.Proofs.Tryz.func57 (by kernel_rfl) F57_ok
/-- emend/tree.Depth -/
def F58 : DF := ⟨1,
(.seq
 (.reg [
   ⟨some 1, .bxL (.t 0), none⟩,
   ⟨some 2, .mv (.c (.int .i64 0)), none⟩] [1])
 (.seq
  (.reg [
    ⟨some 3, .mv (.c (.int .i64 0)), none⟩] [1, 3])
  (.seq
   (.seq
    (.reg [
      ⟨some 6, .fa 3 (.t 1), none⟩,
      ⟨some 7, .ld false 1 (.t 6), none⟩,
      ⟨some 8, .len (.t 7), none⟩,
      ⟨some 9, .mv (.c (.int .i64 0)), none⟩] [3, 7, 8, 9])
    (.blk 0
     (.seq
      (.trim [3, 7, 8, 9])
      (.lop
       (.seq
        (.seq
         (.reg [
           ⟨some 10, .bin .lss none (.t 9) (.t 8), none⟩] [3, 7, 8, 9, 10])
         (.seq
          (.cnd (.t 10)
           .skip
           (.exit 0))
          (.seq
           (.blk 1
            (.seq
             (.reg [
               ⟨some 11, .ia 4 (.t 7) (.t 9), none⟩,
               ⟨some 12, .ld true 4 (.t 11), none⟩,
               ⟨some 5, .alL [(.int .i64 0), (.str []), (.sl 1 ⟨none, 0, (some 0), true⟩ []), (.sl 4 ⟨none, 0, (some 0), true⟩ [])], none⟩,
               ⟨none, .st 4 (.t 5) (.t 12), none⟩] [3, 5, 7, 8, 9])
             (.reg [
               ⟨some 13, .mv (.t 3), none⟩,
               ⟨some 14, .ld true 4 (.t 5), none⟩,
               ⟨some 15, .call 58 [(.t 14)], none⟩,
               ⟨some 16, .mx [(.t 13), (.t 15)], none⟩,
               ⟨some 3, .mv (.t 16), none⟩] [3, 7, 8, 9])))
           (.reg [
             ⟨some 17, .bin .add none (.t 9) (.c (.int .i64 1)), none⟩,
             ⟨some 9, .mv (.t 17), none⟩] [3, 7, 8, 9]))))
        (.trim [3, 7, 8, 9]))))))
   (.seq
    (.reg [
      ⟨some 18, .mv (.t 3), none⟩,
      ⟨some 19, .bin .add none (.t 18) (.c (.int .i64 1)), none⟩,
      ⟨some 2, .mv (.t 19), none⟩] [2])
    .ret)))),
[.tmp 2]⟩
theorem F58_ok : prepF Go.Proofs.Tryz.prog ⟨[1, 5], [(0, [1]), (1, [1, 3]), (2, [3, 7, 8, 9]), (3, [3, 7, 8, 9, 10]), (4, [3, 5, 7, 8, 9]), (5, [3, 7, 8, 9]), (6, [3, 7, 8, 9]), (7, [2]), (1000000, [3, 7, 8, 9])], []⟩ Go.Proofs.Tryz.f58 = some F58 := by kernel_rfl
theorem F58_fn : FnOK2 Go.Proofs.Tryz.prog 58 (.pl F58) := .pl Go.Proofs.Tryz.func58 (by kernel_rfl) F58_ok
/-- emend/tree.Size -/
def F59 : DF := ⟨1,
(.seq
 (.reg [
   ⟨some 1, .bxL (.t 0), none⟩,
   ⟨some 2, .mv (.c (.int .i64 0)), none⟩] [1])
 (.seq
  (.reg [
    ⟨some 3, .mv (.c (.int .i64 1)), none⟩] [1, 3])
  (.seq
   (.seq
    (.reg [
      ⟨some 6, .fa 3 (.t 1), none⟩,
      ⟨some 7, .ld false 1 (.t 6), none⟩,
      ⟨some 8, .len (.t 7), none⟩,
      ⟨some 9, .mv (.c (.int .i64 0)), none⟩] [3, 7, 8, 9])
    (.blk 0
     (.seq
      (.trim [3, 7, 8, 9])
      (.lop
       (.seq
        (.seq
         (.reg [
           ⟨some 10, .bin .lss none (.t 9) (.t 8), none⟩] [3, 7, 8, 9, 10])
         (.seq
          (.cnd (.t 10)
           .skip
           (.exit 0))
          (.seq
           (.blk 1
            (.seq
             (.reg [
               ⟨some 11, .ia 4 (.t 7) (.t 9), none⟩,
               ⟨some 12, .ld true 4 (.t 11), none⟩,
               ⟨some 5, .alL [(.int .i64 0), (.str []), (.sl 1 ⟨none, 0, (some 0), true⟩ []), (.sl 4 ⟨none, 0, (some 0), true⟩ [])], none⟩,
               ⟨none, .st 4 (.t 5) (.t 12), none⟩] [3, 5, 7, 8, 9])
             (.reg [
               ⟨some 13, .mv (.t 3), none⟩,
               ⟨some 14, .ld true 4 (.t 5), none⟩,
               ⟨some 15, .call 59 [(.t 14)], none⟩,
               ⟨some 16, .bin .add none (.t 13) (.t 15), none⟩,
               ⟨some 3, .mv (.t 16), none⟩] [3, 7, 8, 9])))
           (.reg [
             ⟨some 17, .bin .add none (.t 9) (.c (.int .i64 1)), none⟩,
             ⟨some 9, .mv (.t 17), none⟩] [3, 7, 8, 9]))))
        (.trim [3, 7, 8, 9]))))))
   (.seq
    (.reg [
      ⟨some 18, .mv (.t 3), none⟩,
      ⟨some 2, .mv (.t 18), none⟩] [2])
    .ret)))),
[.tmp 2]⟩
theorem F59_ok : prepF Go.Proofs.Tryz.prog ⟨[1, 5], [(0, [1]), (1, [1, 3]), (2, [3, 7, 8, 9]), (3, [3, 7, 8, 9, 10]), (4, [3, 5, 7, 8, 9]), (5, [3, 7, 8, 9]), (6, [3, 7, 8, 9]), (7, [2]), (1000000, [3, 7, 8, 9])], []⟩ Go.Proofs.Tryz.f59 = some F59 := by kernel_rfl
theorem F59_fn : FnOK2 Go.Proofs.Tryz.prog 59 (.pl F59) := .pl Go.Proofs.Tryz.func59 (by kernel_rfl) F59_ok
/-- emend/tree.formed -/
def F60 : DF := ⟨1,
(.seq
 (.reg [
   ⟨some 1, .bxL (.t 0), none⟩,
   ⟨some 2, .mv (.c (.bool false)), none⟩] [1])
 (.seq
  (.seq
   (.reg [
     ⟨some 8, .fa 3 (.t 1), none⟩,
     ⟨some 9, .ld false 1 (.t 8), none⟩,
     ⟨some 10, .len (.t 9), none⟩,
     ⟨some 11, .mv (.c (.int .i64 0)), none⟩] [1, 9, 10, 11])
   (.blk 0
    (.seq
     (.trim [1, 9, 10, 11])
     (.lop
      (.seq
       (.seq
        (.reg [
          ⟨some 12, .bin .lss none (.t 11) (.t 10), none⟩] [1, 9, 10, 11, 12])
        (.seq
         (.cnd (.t 12)
          .skip
          (.exit 0))
         (.seq
          (.blk 1
           (.seq
            (.reg [
              ⟨some 13, .ia 4 (.t 9) (.t 11), none⟩,
              ⟨some 14, .ld true 4 (.t 13), none⟩,
              ⟨some 4, .alL [(.int .i64 0), (.str []), (.sl 1 ⟨none, 0, (some 0), true⟩ []), (.sl 4 ⟨none, 0, (some 0), true⟩ [])], none⟩,
              ⟨none, .st 4 (.t 4) (.t 14), none⟩] [1, 4, 9, 10, 11])
            (.seq
             (.reg [
               ⟨some 15, .ld true 4 (.t 4), none⟩,
               ⟨some 16, .call 60 [(.t 15)], none⟩,
               ⟨some 17, .un .not (.t 16), none⟩] [1, 9, 10, 11, 17])
             (.cnd (.t 17)
              (.seq
               (.reg [
                 ⟨some 2, .mv (.c (.bool false)), none⟩] [2])
               .ret)
              .skip))))
          (.reg [
            ⟨some 18, .bin .add none (.t 11) (.c (.int .i64 1)), none⟩,
            ⟨some 11, .mv (.t 18), none⟩] [1, 9, 10, 11]))))
       (.trim [1, 9, 10, 11]))))))
  (.seq
   (.reg [
     ⟨some 19, .fa 2 (.t 1), none⟩,
     ⟨some 20, .ld false 1 (.t 19), none⟩,
     ⟨some 21, .len (.t 20), none⟩,
     ⟨some 22, .bin .eql (some .int) (.t 21) (.c (.int .i64 0)), none⟩,
     ⟨some 23, .mv (.t 22), none⟩,
     ⟨some 24, .fa 3 (.t 1), some (23, true)⟩,
     ⟨some 25, .ld false 1 (.t 24), some (23, true)⟩,
     ⟨some 26, .len (.t 25), some (23, true)⟩,
     ⟨some 27, .bin .eql (some .int) (.t 26) (.c (.int .i64 0)), some (23, true)⟩,
     ⟨some 28, .pick (.t 23) (.t 27) (.c (.bool false)), none⟩,
     ⟨some 5, .mv (.t 28), none⟩] [1, 5])
   (.seq
    (.seq
     (.reg [
       ⟨some 29, .fa 0 (.t 1), none⟩,
       ⟨some 30, .ld false 1 (.t 29), none⟩] [1, 5, 30])
     (.blk 2
      (.seq
       (.reg [
         ⟨some 32, .bin .eql (some .int) (.t 30) (.c (.int .i64 1)), none⟩,
         ⟨some 31, .mv (.t 32), none⟩] [1, 5, 30, 31])
       (.cnd (.t 31)
        (.seq
         (.reg [
           ⟨some 33, .mv (.t 5), none⟩,
           ⟨some 34, .mv (.t 33), none⟩,
           ⟨some 35, .fa 1 (.t 1), some (34, true)⟩,
           ⟨some 36, .ld false 1 (.t 35), some (34, true)⟩,
           ⟨some 37, .bin .eql (some .str) (.t 36) (.c (.str [])), some (34, true)⟩,
           ⟨some 38, .pick (.t 34) (.t 37) (.c (.bool false)), none⟩,
           ⟨some 2, .mv (.t 38), none⟩] [2])
         .ret)
        (.seq
         (.reg [
           ⟨some 40, .bin .eql (some .int) (.t 30) (.c (.int .i64 2)), none⟩,
           ⟨some 39, .mv (.t 40), none⟩] [1, 5, 30, 39])
         (.cnd (.t 39)
          (.seq
           (.reg [
             ⟨some 41, .mv (.t 5), none⟩,
             ⟨some 42, .mv (.t 41), none⟩,
             ⟨some 43, .fa 1 (.t 1), some (42, true)⟩,
             ⟨some 44, .ld false 1 (.t 43), some (42, true)⟩,
             ⟨some 45, .bin .eql (some .str) (.t 44) (.c (.str [116, 114, 117, 101])), some (42, true)⟩,
             ⟨some 46, .mv (.t 45), some (42, true)⟩,
             ⟨some 47, .fa 1 (.t 1), some (46, false)⟩,
             ⟨some 48, .ld false 1 (.t 47), some (46, false)⟩,
             ⟨some 49, .bin .eql (some .str) (.t 48) (.c (.str [102, 97, 108, 115, 101])), some (46, false)⟩,
             ⟨some 50, .pick (.t 46) (.c (.bool true)) (.t 49), some (42, true)⟩,
             ⟨some 51, .pick (.t 42) (.t 50) (.c (.bool false)), none⟩,
             ⟨some 2, .mv (.t 51), none⟩] [2])
           .ret)
          (.seq
           (.reg [
             ⟨some 53, .bin .eql (some .int) (.t 30) (.c (.int .i64 3)), none⟩,
             ⟨some 52, .mv (.t 53), none⟩] [1, 5, 30, 52])
           (.cnd (.t 52)
            (.seq
             (.reg [
               ⟨some 55, .fa 1 (.t 1), none⟩,
               ⟨some 56, .ld false 1 (.t 55), none⟩,
               ⟨some 57, .call 100 [(.t 56)], none⟩,
               ⟨some 54, .mv (.t 57), none⟩,
               ⟨some 58, .ext (.t 54) 0, none⟩,
               ⟨some 59, .ext (.t 54) 1, none⟩,
               ⟨some 6, .mv (.t 58), none⟩,
               ⟨some 7, .mv (.t 59), none⟩] [1, 5, 6, 7])
             (.seq
              (.reg [
                ⟨some 60, .mv (.t 5), none⟩,
                ⟨some 61, .mv (.t 60), none⟩,
                ⟨some 62, .mv (.t 7), some (61, true)⟩,
                ⟨some 63, .bin .eql (some .int) (.t 62) (.c (.int .i64 0)), some (61, true)⟩,
                ⟨some 64, .pick (.t 61) (.t 63) (.c (.bool false)), none⟩,
                ⟨some 65, .mv (.t 64), none⟩,
                ⟨some 66, .mv (.t 6), some (65, true)⟩,
                ⟨some 67, .fa 1 (.t 1), some (65, true)⟩,
                ⟨some 68, .ld false 1 (.t 67), some (65, true)⟩,
                ⟨some 69, .bin .eql (some .str) (.t 66) (.t 68), some (65, true)⟩,
                ⟨some 70, .pick (.t 65) (.t 69) (.c (.bool false)), none⟩,
                ⟨some 2, .mv (.t 70), none⟩] [2])
              .ret))
            (.seq
             (.reg [
               ⟨some 72, .bin .eql (some .int) (.t 30) (.c (.int .i64 4)), none⟩,
               ⟨some 71, .mv (.t 72), none⟩] [1, 5, 30, 71])
             (.cnd (.t 71)
              (.seq
               (.reg [
                 ⟨some 73, .mv (.t 5), none⟩,
                 ⟨some 74, .mv (.t 73), none⟩,
                 ⟨some 75, .fa 1 (.t 1), some (74, true)⟩,
                 ⟨some 76, .ld false 1 (.t 75), some (74, true)⟩,
                 ⟨some 77, .call 99 [(.t 76)], some (74, true)⟩,
                 ⟨some 78, .pick (.t 74) (.t 77) (.c (.bool false)), none⟩,
                 ⟨some 2, .mv (.t 78), none⟩] [2])
               .ret)
              (.seq
               (.reg [
                 ⟨some 80, .bin .eql (some .int) (.t 30) (.c (.int .i64 5)), none⟩,
                 ⟨some 79, .mv (.t 80), none⟩] [1, 5, 30, 79])
               (.cnd (.t 79)
                (.seq
                 (.reg [
                   ⟨some 81, .mv (.t 5), none⟩,
                   ⟨some 82, .mv (.t 81), none⟩,
                   ⟨some 83, .fa 1 (.t 1), some (82, true)⟩,
                   ⟨some 84, .ld false 1 (.t 83), some (82, true)⟩,
                   ⟨some 85, .call 101 [(.t 84)], some (82, true)⟩,
                   ⟨some 86, .pick (.t 82) (.t 85) (.c (.bool false)), none⟩,
                   ⟨some 2, .mv (.t 86), none⟩] [2])
                 .ret)
                (.seq
                 (.reg [
                   ⟨some 88, .bin .eql (some .int) (.t 30) (.c (.int .i64 6)), none⟩,
                   ⟨some 87, .mv (.t 88), none⟩] [1, 30, 87])
                 (.cnd (.t 87)
                  (.seq
                   (.reg [
                     ⟨some 89, .fa 1 (.t 1), none⟩,
                     ⟨some 90, .ld false 1 (.t 89), none⟩,
                     ⟨some 91, .bin .eql (some .str) (.t 90) (.c (.str [])), none⟩,
                     ⟨some 92, .mv (.t 91), none⟩,
                     ⟨some 93, .fa 2 (.t 1), some (92, true)⟩,
                     ⟨some 94, .ld false 1 (.t 93), some (92, true)⟩,
                     ⟨some 95, .len (.t 94), some (92, true)⟩,
                     ⟨some 96, .bin .eql (some .int) (.t 95) (.c (.int .i64 0)), some (92, true)⟩,
                     ⟨some 97, .pick (.t 92) (.t 96) (.c (.bool false)), none⟩,
                     ⟨some 2, .mv (.t 97), none⟩] [2])
                   .ret)
                  (.seq
                   (.reg [
                     ⟨some 99, .bin .eql (some .int) (.t 30) (.c (.int .i64 7)), none⟩,
                     ⟨some 98, .mv (.t 99), none⟩] [1, 98])
                   (.cnd (.t 98)
                    (.seq
                     (.reg [
                       ⟨some 100, .fa 1 (.t 1), none⟩,
                       ⟨some 101, .ld false 1 (.t 100), none⟩,
                       ⟨some 102, .bin .eql (some .str) (.t 101) (.c (.str [])), none⟩,
                       ⟨some 103, .mv (.t 102), none⟩,
                       ⟨some 104, .fa 2 (.t 1), some (103, true)⟩,
                       ⟨some 105, .ld false 1 (.t 104), some (103, true)⟩,
                       ⟨some 106, .len (.t 105), some (103, true)⟩,
                       ⟨some 107, .fa 3 (.t 1), some (103, true)⟩,
                       ⟨some 108, .ld false 1 (.t 107), some (103, true)⟩,
                       ⟨some 109, .len (.t 108), some (103, true)⟩,
                       ⟨some 110, .bin .eql (some .int) (.t 106) (.t 109), some (103, true)⟩,
                       ⟨some 111, .pick (.t 103) (.t 110) (.c (.bool false)), none⟩,
                       ⟨some 112, .mv (.t 111), none⟩,
                       ⟨some 113, .fa 2 (.t 1), some (112, true)⟩,
                       ⟨some 114, .ld false 1 (.t 113), some (112, true)⟩,
                       ⟨some 115, .call 102 [(.t 114)], some (112, true)⟩,
                       ⟨some 116, .pick (.t 112) (.t 115) (.c (.bool false)), none⟩,
                       ⟨some 2, .mv (.t 116), none⟩] [2])
                     .ret)
                    .skip))))))))))))))))
    (.seq
     (.reg [
       ⟨some 2, .mv (.c (.bool false)), none⟩] [2])
     .ret))))),
[.tmp 2]⟩
theorem F60_ok : prepF Go.Proofs.Tryz.prog ⟨[1, 4], [(0, [1]), (1, [1, 9, 10, 11]), (2, [1, 9, 10, 11, 12]), (3, [1, 4, 9, 10, 11]), (4, [1, 9, 10, 11, 17]), (5, [2]), (6, [1, 9, 10, 11]), (7, [1, 5]), (8, [1, 5, 30]), (9, [1, 5, 30, 31]), (10, [2]), (11, [1, 5, 30, 39]), (12, [2]), (13, [1, 5, 30, 52]), (14, [1, 5, 6, 7]), (15, [2]), (16, [1, 5, 30, 71]), (17, [2]), (18, [1, 5, 30, 79]), (19, [2]), (20, [1, 30, 87]), (21, [2]), (22, [1, 98]), (23, [2]), (24, [2]), (1000000, [1, 9, 10, 11])], []⟩ Go.Proofs.Tryz.f60 = some F60 := by kernel_rfl
theorem F60_fn : FnOK2 Go.Proofs.Tryz.prog 60 (.pl F60) := .pl Go.Proofs.Tryz.func60 (by kernel_rfl) F60_ok
/-- emend/tree.identical -/
def F61 : DF := ⟨2,
(.seq
 (.reg [
   ⟨some 2, .bxL (.t 0), none⟩,
   ⟨some 3, .bxL (.t 1), none⟩,
   ⟨some 4, .mv (.c (.bool false)), none⟩] [2, 3])
 (.seq
  (.reg [
    ⟨some 5, .fa 0 (.t 2), none⟩,
    ⟨some 6, .ld false 1 (.t 5), none⟩,
    ⟨some 7, .fa 0 (.t 3), none⟩,
    ⟨some 8, .ld false 1 (.t 7), none⟩,
    ⟨some 9, .bin .eql (some .int) (.t 6) (.t 8), none⟩,
    ⟨some 10, .mv (.t 9), none⟩,
    ⟨some 11, .fa 1 (.t 2), some (10, true)⟩,
    ⟨some 12, .ld false 1 (.t 11), some (10, true)⟩,
    ⟨some 13, .fa 1 (.t 3), some (10, true)⟩,
    ⟨some 14, .ld false 1 (.t 13), some (10, true)⟩,
    ⟨some 15, .bin .eql (some .str) (.t 12) (.t 14), some (10, true)⟩,
    ⟨some 16, .pick (.t 10) (.t 15) (.c (.bool false)), none⟩,
    ⟨some 17, .mv (.t 16), none⟩,
    ⟨some 18, .fa 2 (.t 2), some (17, true)⟩,
    ⟨some 19, .ld false 1 (.t 18), some (17, true)⟩,
    ⟨some 20, .fa 2 (.t 3), some (17, true)⟩,
    ⟨some 21, .ld false 1 (.t 20), some (17, true)⟩,
    ⟨some 22, .call 103 [(.t 19), (.t 21)], some (17, true)⟩,
    ⟨some 23, .pick (.t 17) (.t 22) (.c (.bool false)), none⟩,
    ⟨some 24, .mv (.t 23), none⟩,
    ⟨some 25, .fa 3 (.t 2), some (24, true)⟩,
    ⟨some 26, .ld false 1 (.t 25), some (24, true)⟩,
    ⟨some 27, .fa 3 (.t 3), some (24, true)⟩,
    ⟨some 28, .ld false 1 (.t 27), some (24, true)⟩,
    ⟨some 29, .call 104 [(.t 26), (.t 28), (.f 61)], some (24, true)⟩,
    ⟨some 30, .pick (.t 24) (.t 29) (.c (.bool false)), none⟩,
    ⟨some 4, .mv (.t 30), none⟩] [4])
  .ret)),
[.tmp 4]⟩
theorem F61_ok : prepF Go.Proofs.Tryz.prog ⟨[2, 3], [(0, [2, 3]), (1, [4])], []⟩ Go.Proofs.Tryz.f61 = some F61 := by kernel_rfl
theorem F61_fn : FnOK2 Go.Proofs.Tryz.prog 61 (.pl F61) := .pl Go.Proofs.Tryz.func61 (by kernel_rfl) F61_ok
/-- emend/tree.Sorted -/
def F62 : DF := ⟨1,
(.seq
 (.reg [
   ⟨some 1, .bxL (.t 0), none⟩,
   ⟨some 2, .alL [(.int .i64 0), (.str []), (.sl 1 ⟨none, 0, (some 0), true⟩ []), (.sl 4 ⟨none, 0, (some 0), true⟩ [])], none⟩] [1, 2])
 (.seq
  (.reg [
    ⟨some 8, .fa 0 (.t 1), none⟩,
    ⟨some 9, .ld false 1 (.t 8), none⟩,
    ⟨some 10, .fa 1 (.t 1), none⟩,
    ⟨some 11, .ld false 1 (.t 10), none⟩,
    ⟨some 12, .bld [(.int .i64 0), (.str []), (.sl 1 ⟨none, 0, (some 0), true⟩ []), (.sl 4 ⟨none, 0, (some 0), true⟩ [])] [(0, 1, (.t 9)), (1, 1, (.t 11))], none⟩,
    ⟨some 3, .alL [(.int .i64 0), (.str []), (.sl 1 ⟨none, 0, (some 0), true⟩ []), (.sl 4 ⟨none, 0, (some 0), true⟩ [])], none⟩,
    ⟨none, .st 4 (.t 3) (.t 12), none⟩] [1, 2, 3])
  (.seq
   (.seq
    (.reg [
      ⟨some 13, .fa 0 (.t 1), none⟩,
      ⟨some 14, .ld false 1 (.t 13), none⟩,
      ⟨some 15, .bin .neq (some .int) (.t 14) (.c (.int .i64 7)), none⟩,
      ⟨some 16, .mv (.t 15), none⟩,
      ⟨some 17, .fa 2 (.t 1), some (16, false)⟩,
      ⟨some 18, .ld false 1 (.t 17), some (16, false)⟩,
      ⟨some 19, .len (.t 18), some (16, false)⟩,
      ⟨some 20, .fa 3 (.t 1), some (16, false)⟩,
      ⟨some 21, .ld false 1 (.t 20), some (16, false)⟩,
      ⟨some 22, .len (.t 21), some (16, false)⟩,
      ⟨some 23, .bin .neq (some .int) (.t 19) (.t 22), some (16, false)⟩,
      ⟨some 24, .pick (.t 16) (.c (.bool true)) (.t 23), none⟩] [1, 2, 3, 24])
    (.cnd (.t 24)
     (.seq
      (.reg [
        ⟨some 25, .fa 2 (.t 3), none⟩,
        ⟨some 26, .ld false 1 (.t 25), none⟩,
        ⟨some 27, .fa 2 (.t 1), none⟩,
        ⟨some 28, .ld false 1 (.t 27), none⟩,
        ⟨some 29, .app false 9 1 16 (.t 26) (.t 28), none⟩,
        ⟨some 30, .fa 2 (.t 3), none⟩,
        ⟨none, .st 1 (.t 30) (.t 29), none⟩] [1, 2, 3])
      (.seq
       (.seq
        (.reg [
          ⟨some 31, .fa 3 (.t 1), none⟩,
          ⟨some 32, .ld false 1 (.t 31), none⟩,
          ⟨some 33, .len (.t 32), none⟩,
          ⟨some 34, .mv (.c (.int .i64 0)), none⟩] [2, 3, 32, 33, 34])
        (.blk 0
         (.seq
          (.trim [2, 3, 32, 33, 34])
          (.lop
           (.seq
            (.seq
             (.reg [
               ⟨some 35, .bin .lss none (.t 34) (.t 33), none⟩] [2, 3, 32, 33, 34, 35])
             (.seq
              (.cnd (.t 35)
               .skip
               (.exit 0))
              (.seq
               (.blk 1
                (.seq
                 (.reg [
                   ⟨some 36, .ia 4 (.t 32) (.t 34), none⟩,
                   ⟨some 37, .ld true 4 (.t 36), none⟩,
                   ⟨some 5, .alL [(.int .i64 0), (.str []), (.sl 1 ⟨none, 0, (some 0), true⟩ []), (.sl 4 ⟨none, 0, (some 0), true⟩ [])], none⟩,
                   ⟨none, .st 4 (.t 5) (.t 37), none⟩] [2, 3, 5, 32, 33, 34])
                 (.drw [
                   ((⟨some 38, .fa 3 (.t 3), none⟩, (some 3)), []),
                   ((⟨some 39, .ld false 1 (.t 38), none⟩, (some 3)), []),
                   ((⟨some 40, .ld true 4 (.t 5), none⟩, (some 5)), []),
                   ((⟨some 41, .call 62 [(.t 40)], none⟩, none), []),
                   ((⟨some 42, .bldS 4 1 (.agg [(.int .i64 0), (.str []), (.sl 1 ⟨none, 0, (some 0), true⟩ []), (.sl 4 ⟨none, 0, (some 0), true⟩ [])]) [(0, (.t 41))], none⟩, none), []),
                   ((⟨some 43, .app true 25 4 72 (.t 39) (.t 42), none⟩, none), []),
                   ((⟨some 44, .fa 3 (.t 3), none⟩, (some 3)), []),
                   ((⟨none, .st 1 (.t 44) (.t 43), none⟩, (some 3)), [])] [2, 3, 32, 33, 34])))
               (.reg [
                 ⟨some 45, .bin .add none (.t 34) (.c (.int .i64 1)), none⟩,
                 ⟨some 34, .mv (.t 45), none⟩] [2, 3, 32, 33, 34]))))
            (.trim [2, 3, 32, 33, 34]))))))
       (.seq
        (.reg [
          ⟨some 46, .ld true 4 (.t 3), none⟩,
          ⟨none, .st 4 (.t 2) (.t 46), none⟩] [2])
        .ret)))
     .skip))
   (.seq
    (.seq
     (.reg [
       ⟨some 47, .fa 2 (.t 1), none⟩,
       ⟨some 48, .ld false 1 (.t 47), none⟩,
       ⟨some 49, .call 105 [(.t 48)], none⟩,
       ⟨some 50, .len (.t 49), none⟩,
       ⟨some 51, .mv (.c (.int .i64 0)), none⟩] [1, 2, 3, 49, 50, 51])
     (.blk 2
      (.seq
       (.trim [1, 2, 3, 49, 50, 51])
       (.lop
        (.seq
         (.seq
          (.reg [
            ⟨some 52, .bin .lss none (.t 51) (.t 50), none⟩] [1, 2, 3, 49, 50, 51, 52])
          (.seq
           (.cnd (.t 52)
            .skip
            (.exit 2))
           (.seq
            (.blk 3
             (.seq
              (.reg [
                ⟨some 53, .ia 1 (.t 49) (.t 51), none⟩,
                ⟨some 54, .ld false 1 (.t 53), none⟩,
                ⟨some 7, .mv (.t 54), none⟩] [1, 2, 3, 7, 49, 50, 51])
              (.seq
               (.drw [
                 ((⟨some 55, .fa 2 (.t 3), none⟩, (some 3)), []),
                 ((⟨some 56, .ld false 1 (.t 55), none⟩, (some 3)), []),
                 ((⟨some 57, .fa 2 (.t 1), none⟩, (some 1)), []),
                 ((⟨some 58, .ld false 1 (.t 57), none⟩, (some 1)), []),
                 ((⟨some 59, .mv (.t 7), none⟩, none), []),
                 ((⟨some 60, .ia 1 (.t 58) (.t 59), none⟩, none), []),
                 ((⟨some 61, .ld false 1 (.t 60), none⟩, none), []),
                 ((⟨some 62, .bldS 1 1 (.str []) [(0, (.t 61))], none⟩, none), []),
                 ((⟨some 63, .app false 9 1 16 (.t 56) (.t 62), none⟩, none), []),
                 ((⟨some 64, .fa 2 (.t 3), none⟩, (some 3)), []),
                 ((⟨none, .st 1 (.t 64) (.t 63), none⟩, (some 3)), [])] [1, 2, 3, 7, 49, 50, 51])
               (.drw [
                 ((⟨some 65, .fa 3 (.t 3), none⟩, (some 3)), []),
                 ((⟨some 66, .ld false 1 (.t 65), none⟩, (some 3)), []),
                 ((⟨some 67, .fa 3 (.t 1), none⟩, (some 1)), []),
                 ((⟨some 68, .ld false 1 (.t 67), none⟩, (some 1)), []),
                 ((⟨some 69, .mv (.t 7), none⟩, none), []),
                 ((⟨some 70, .ia 4 (.t 68) (.t 69), none⟩, none), []),
                 ((⟨some 71, .ld true 4 (.t 70), none⟩, none), []),
                 ((⟨some 72, .call 62 [(.t 71)], none⟩, none), []),
                 ((⟨some 73, .bldS 4 1 (.agg [(.int .i64 0), (.str []), (.sl 1 ⟨none, 0, (some 0), true⟩ []), (.sl 4 ⟨none, 0, (some 0), true⟩ [])]) [(0, (.t 72))], none⟩, none), []),
                 ((⟨some 74, .app true 25 4 72 (.t 66) (.t 73), none⟩, none), []),
                 ((⟨some 75, .fa 3 (.t 3), none⟩, (some 3)), []),
                 ((⟨none, .st 1 (.t 75) (.t 74), none⟩, (some 3)), [])] [1, 2, 3, 49, 50, 51]))))
            (.reg [
              ⟨some 76, .bin .add none (.t 51) (.c (.int .i64 1)), none⟩,
              ⟨some 51, .mv (.t 76), none⟩] [1, 2, 3, 49, 50, 51]))))
         (.trim [1, 2, 3, 49, 50, 51]))))))
    (.seq
     (.reg [
       ⟨some 77, .ld true 4 (.t 3), none⟩,
       ⟨none, .st 4 (.t 2) (.t 77), none⟩] [2])
     .ret))))),
[.cell 2 true 4]⟩
theorem F62_ok : prepF Go.Proofs.Tryz.prog ⟨[1, 2, 3, 5], [(0, [1, 2]), (1, [1, 2, 3]), (2, [1, 2, 3, 24]), (3, [1, 2, 3]), (4, [2, 3, 32, 33, 34]), (5, [2, 3, 32, 33, 34, 35]), (6, [2, 3, 5, 32, 33, 34]), (7, [2, 3, 32, 33, 34]), (8, [2, 3, 32, 33, 34]), (9, [2]), (10, [1, 2, 3, 49, 50, 51]), (11, [1, 2, 3, 49, 50, 51, 52]), (12, [1, 2, 3, 7, 49, 50, 51]), (13, [1, 2, 3, 7, 49, 50, 51]), (14, [1, 2, 3, 49, 50, 51]), (15, [1, 2, 3, 49, 50, 51]), (16, [2]), (1000000, [2, 3, 32, 33, 34]), (1000002, [1, 2, 3, 49, 50, 51])], [(14, [(some 3), (some 3), (some 1), (some 1), none, none, none, none, none, none, (some 3), (some 3)]), (13, [(some 3), (some 3), (some 1), (some 1), none, none, none, none, none, (some 3), (some 3)]), (7, [(some 3), (some 3), (some 5), none, none, none, (some 3), (some 3)])]⟩ Go.Proofs.Tryz.f62 = some F62 := by kernel_rfl
theorem F62_fn : FnOK2 Go.Proofs.Tryz.prog 62 (.pl F62) := .pl Go.Proofs.Tryz.func62 (by kernel_rfl) F62_ok
/-- emend/tree.Parse$1 -/
def F63 : DF := ⟨3,
(.seq
 (.reg [
   ⟨some 5, .mv (.t 0), none⟩,
   ⟨some 6, .bld [.nilp] [(0, 1, (.t 5))], none⟩,
   ⟨some 4, .alL [.nilp], none⟩,
   ⟨none, .st 1 (.t 4) (.t 6), none⟩] [1, 2, 4])
 (.seq
  (.reg [
    ⟨some 7, .ld true 1 (.t 4), none⟩,
    ⟨some 8, .call 64 [(.t 7)], none⟩] [1, 2, 4])
  (.seq
   (.reg [
     ⟨some 9, .ld true 1 (.t 4), none⟩,
     ⟨some 10, .call 65 [(.t 9), (.c (.int .i64 1))], none⟩,
     ⟨none, .st 4 (.t 1) (.t 10), none⟩] [2, 4])
   (.seq
    (.reg [
      ⟨some 11, .ld true 1 (.t 4), none⟩,
      ⟨some 12, .call 64 [(.t 11)], none⟩] [2, 4])
    (.seq
     (.drw [
       ((⟨some 13, .fa 0 (.t 4), none⟩, (some 4)), []),
       ((⟨some 14, .ld false 1 (.t 13), none⟩, (some 4)), []),
       ((⟨some 15, .nilc (.t 14), none⟩, none), []),
       ((⟨some 16, .fa 1 (.t 15), none⟩, none), []),
       ((⟨some 17, .ld false 1 (.t 16), none⟩, none), []),
       ((⟨some 18, .ld false 1 (.t 2), none⟩, none), []),
       ((⟨some 19, .lenS (.t 18), none⟩, none), []),
       ((⟨some 20, .bin .lss none (.t 17) (.t 19), none⟩, none), [])] [4, 20])
     (.cnd (.t 20)
      (.reg [
        ⟨some 21, .fa 0 (.t 4), none⟩,
        ⟨some 22, .ld false 1 (.t 21), none⟩,
        ⟨some 23, .call 36 [(.t 22)], none⟩] [])
      .skip)))))),
[]⟩
theorem F63_ok : prepF Go.Proofs.Tryz.prog ⟨[4], [(0, [1, 2, 4]), (1, [1, 2, 4]), (2, [2, 4]), (3, [2, 4]), (4, [4, 20]), (5, [])], [(4, [(some 4), (some 4), none, none, none, none, none, none])]⟩ Go.Proofs.Tryz.f63 = some F63 := by kernel_rfl
theorem F63_fn : FnOK2 Go.Proofs.Tryz.prog 63 (.pl F63) := .pl Go.Proofs.Tryz.func63 (by kernel_rfl) F63_ok
/-- (emend/tree.parser).blanks -/
def F64 : DF := ⟨1,
(.seq
 (.reg [
   ⟨some 1, .bxL (.t 0), none⟩] [1])
 (.reg [
   ⟨some 2, .fa 0 (.t 1), none⟩,
   ⟨some 3, .ld false 1 (.t 2), none⟩,
   ⟨some 4, .call 73 [(.t 3), (.f 74)], none⟩] [])),
[]⟩
theorem F64_ok : prepF Go.Proofs.Tryz.prog ⟨[1], [(0, [1]), (1, [])], []⟩ Go.Proofs.Tryz.f64 = some F64 := by kernel_rfl
theorem F64_fn : FnOK2 Go.Proofs.Tryz.prog 64 (.pl F64) := .pl Go.Proofs.Tryz.func64 (by kernel_rfl) F64_ok
/-- (emend/tree.parser).tree -/
def F65 : DF := ⟨2,
(.seq
 (.reg [
   ⟨some 2, .bxL (.t 0), none⟩,
   ⟨some 4, .alL [(.int .i64 0), (.str []), (.sl 1 ⟨none, 0, (some 0), true⟩ []), (.sl 4 ⟨none, 0, (some 0), true⟩ [])], none⟩] [1, 2, 4])
 (.seq
  (.reg [
    ⟨some 8, .fa 0 (.t 2), none⟩,
    ⟨some 9, .ld false 1 (.t 8), none⟩,
    ⟨some 10, .nilc (.t 9), none⟩,
    ⟨some 11, .fa 1 (.t 10), none⟩,
    ⟨some 12, .ld false 1 (.t 11), none⟩,
    ⟨some 5, .mv (.t 12), none⟩] [1, 2, 4, 5])
  (.seq
   (.blk 0
    (.seq
     (.reg [
       ⟨some 14, .fa 0 (.t 2), none⟩,
       ⟨some 15, .ld false 1 (.t 14), none⟩,
       ⟨some 16, .call 75 [(.t 15), (.c (.int .u8 34))], none⟩,
       ⟨some 13, .mv (.t 16), none⟩] [1, 2, 4, 5, 13])
     (.cnd (.t 13)
      (.seq
       (.reg [
         ⟨some 17, .fa 0 (.t 2), none⟩,
         ⟨some 18, .ld false 1 (.t 17), none⟩,
         ⟨some 19, .mv (.t 5), none⟩,
         ⟨some 20, .mv (.t 1), none⟩,
         ⟨some 21, .call 76 [(.t 18), (.t 19), (.t 20), (.c (.int .i64 1))], none⟩] [2, 4])
       (.seq
        (.reg [
          ⟨some 22, .fa 0 (.t 2), none⟩,
          ⟨some 23, .ld false 1 (.t 22), none⟩,
          ⟨some 24, .call 79 [(.t 23)], none⟩,
          ⟨some 25, .bld [(.int .i64 0), (.str []), (.sl 1 ⟨none, 0, (some 0), true⟩ []), (.sl 4 ⟨none, 0, (some 0), true⟩ [])] [(0, 1, (.c (.int .i64 4))), (1, 1, (.t 24))], none⟩,
          ⟨none, .st 4 (.t 4) (.t 25), none⟩] [4])
        .ret))
      (.seq
       (.reg [
         ⟨some 27, .fa 0 (.t 2), none⟩,
         ⟨some 28, .ld false 1 (.t 27), none⟩,
         ⟨some 29, .call 75 [(.t 28), (.c (.int .u8 91))], none⟩,
         ⟨some 26, .mv (.t 29), none⟩] [1, 2, 4, 5, 26])
       (.cnd (.t 26)
        (.seq
         (.reg [
           ⟨some 30, .fa 0 (.t 2), none⟩,
           ⟨some 31, .ld false 1 (.t 30), none⟩,
           ⟨some 32, .mv (.t 5), none⟩,
           ⟨some 33, .mv (.t 1), none⟩,
           ⟨some 34, .call 76 [(.t 31), (.t 32), (.t 33), (.c (.int .i64 1))], none⟩] [1, 2, 4])
         (.seq
          (.reg [
            ⟨some 35, .ld true 1 (.t 2), none⟩,
            ⟨some 36, .mv (.t 1), none⟩,
            ⟨some 37, .call 106 [(.t 35), (.t 36)], none⟩,
            ⟨none, .st 4 (.t 4) (.t 37), none⟩] [4])
          .ret))
        (.seq
         (.reg [
           ⟨some 39, .fa 0 (.t 2), none⟩,
           ⟨some 40, .ld false 1 (.t 39), none⟩,
           ⟨some 41, .call 75 [(.t 40), (.c (.int .u8 123))], none⟩,
           ⟨some 38, .mv (.t 41), none⟩] [1, 2, 4, 5, 38])
         (.cnd (.t 38)
          (.seq
           (.reg [
             ⟨some 42, .fa 0 (.t 2), none⟩,
             ⟨some 43, .ld false 1 (.t 42), none⟩,
             ⟨some 44, .mv (.t 5), none⟩,
             ⟨some 45, .mv (.t 1), none⟩,
             ⟨some 46, .call 76 [(.t 43), (.t 44), (.t 45), (.c (.int .i64 1))], none⟩] [1, 2, 4])
           (.seq
            (.reg [
              ⟨some 47, .ld true 1 (.t 2), none⟩,
              ⟨some 48, .mv (.t 1), none⟩,
              ⟨some 49, .call 107 [(.t 47), (.t 48)], none⟩,
              ⟨none, .st 4 (.t 4) (.t 49), none⟩] [4])
            .ret))
          (.seq
           (.reg [
             ⟨some 51, .fa 0 (.t 2), none⟩,
             ⟨some 52, .ld false 1 (.t 51), none⟩,
             ⟨some 53, .call 75 [(.t 52), (.c (.int .u8 64))], none⟩,
             ⟨some 50, .mv (.t 53), none⟩] [1, 2, 4, 5, 50])
           (.cnd (.t 50)
            (.seq
             (.reg [
               ⟨some 54, .fa 0 (.t 2), none⟩,
               ⟨some 55, .ld false 1 (.t 54), none⟩,
               ⟨some 56, .nilc (.t 55), none⟩,
               ⟨some 57, .fa 1 (.t 56), none⟩,
               ⟨some 58, .ld false 1 (.t 57), none⟩,
               ⟨some 59, .bin .add none (.t 58) (.c (.int .i64 1)), none⟩,
               ⟨some 60, .nilc (.t 55), none⟩,
               ⟨some 61, .fa 1 (.t 60), none⟩,
               ⟨none, .st 1 (.t 61) (.t 59), none⟩] [1, 2, 4, 5])
             (.seq
              (.reg [
                ⟨some 62, .fa 0 (.t 2), none⟩,
                ⟨some 63, .ld false 1 (.t 62), none⟩,
                ⟨some 64, .call 73 [(.t 63), (.f 108)], none⟩,
                ⟨some 6, .mv (.t 64), none⟩] [1, 2, 4, 5, 6])
              (.seq
               (.seq
                (.reg [
                  ⟨some 65, .mv (.t 6), none⟩,
                  ⟨some 66, .call 101 [(.t 65)], none⟩,
                  ⟨some 67, .un .not (.t 66), none⟩] [1, 2, 4, 5, 6, 67])
                (.cnd (.t 67)
                 (.reg [
                   ⟨some 68, .mv (.t 5), none⟩,
                   ⟨some 69, .call 81 [(.t 68), (.c (.int .i64 20))], none⟩] [1, 2, 4, 5, 6])
                 .skip))
               (.seq
                (.reg [
                  ⟨some 70, .fa 0 (.t 2), none⟩,
                  ⟨some 71, .ld false 1 (.t 70), none⟩,
                  ⟨some 72, .mv (.t 5), none⟩,
                  ⟨some 73, .mv (.t 1), none⟩,
                  ⟨some 74, .call 76 [(.t 71), (.t 72), (.t 73), (.c (.int .i64 1))], none⟩] [4, 6])
                (.seq
                 (.reg [
                   ⟨some 75, .mv (.t 6), none⟩,
                   ⟨some 76, .bld [(.int .i64 0), (.str []), (.sl 1 ⟨none, 0, (some 0), true⟩ []), (.sl 4 ⟨none, 0, (some 0), true⟩ [])] [(0, 1, (.c (.int .i64 5))), (1, 1, (.t 75))], none⟩,
                   ⟨none, .st 4 (.t 4) (.t 76), none⟩] [4])
                 .ret)))))
            .skip)))))))))
   (.seq
    (.reg [
      ⟨some 77, .fa 0 (.t 2), none⟩,
      ⟨some 78, .ld false 1 (.t 77), none⟩,
      ⟨some 79, .call 80 [(.t 78)], none⟩,
      ⟨some 7, .alL [(.int .i64 0), (.str []), (.sl 1 ⟨none, 0, (some 0), true⟩ []), (.sl 4 ⟨none, 0, (some 0), true⟩ [])], none⟩,
      ⟨none, .st 4 (.t 7) (.t 79), none⟩] [1, 2, 4, 5, 7])
    (.seq
     (.reg [
       ⟨some 80, .fa 0 (.t 2), none⟩,
       ⟨some 81, .ld false 1 (.t 80), none⟩,
       ⟨some 82, .mv (.t 5), none⟩,
       ⟨some 83, .mv (.t 1), none⟩,
       ⟨some 84, .call 76 [(.t 81), (.t 82), (.t 83), (.c (.int .i64 1))], none⟩] [4, 7])
     (.seq
      (.reg [
        ⟨some 85, .ld true 4 (.t 7), none⟩,
        ⟨none, .st 4 (.t 4) (.t 85), none⟩] [4])
      .ret)))))),
[.cell 4 true 4]⟩
theorem F65_ok : prepF Go.Proofs.Tryz.prog ⟨[2, 4, 7], [(0, [1, 2, 4]), (1, [1, 2, 4, 5]), (2, [1, 2, 4, 5, 13]), (3, [2, 4]), (4, [4]), (5, [1, 2, 4, 5, 26]), (6, [1, 2, 4]), (7, [4]), (8, [1, 2, 4, 5, 38]), (9, [1, 2, 4]), (10, [4]), (11, [1, 2, 4, 5, 50]), (12, [1, 2, 4, 5]), (13, [1, 2, 4, 5, 6]), (14, [1, 2, 4, 5, 6, 67]), (15, [1, 2, 4, 5, 6]), (16, [4, 6]), (17, [4]), (18, [1, 2, 4, 5, 7]), (19, [4, 7]), (20, [4])], []⟩ Go.Proofs.Tryz.f65 = some F65 := by kernel_rfl
theorem F65_fn : FnOK2 Go.Proofs.Tryz.prog 65 (.pl F65) := .pl Go.Proofs.Tryz.func65 (by kernel_rfl) F65_ok
/-- emend/text.Wrong -/
def F70 : DF := ⟨2,
(.seq
 (.reg [
   ⟨some 4, .mv (.c .nilp), none⟩] [0, 1])
 (.seq
  (.reg [
    ⟨some 5, .mv (.t 0), none⟩,
    ⟨some 6, .bld [(.int .i64 0)] [(0, 1, (.t 5))], none⟩,
    ⟨some 7, .mv (.t 1), none⟩,
    ⟨some 8, .bld [(.int .i64 0), (.int .i64 0)] [(0, 1, (.t 6)), (1, 1, (.t 7))], none⟩,
    ⟨some 9, .bxH 70 (.t 8), none⟩,
    ⟨some 4, .mv (.t 9), none⟩] [4])
  .ret)),
[.tmp 4]⟩
theorem F70_ok : prepF Go.Proofs.Tryz.prog ⟨[], [(0, [0, 1]), (1, [4])], []⟩ Go.Proofs.Tryz.f70 = some F70 := by kernel_rfl
theorem F70_fn : FnOK2 Go.Proofs.Tryz.prog 70 (.pl F70) := .pl Go.Proofs.Tryz.func70 (by kernel_rfl) F70_ok
/-- emend/text.Bad -/
def F71 : DF := ⟨1,
(.seq
 (.reg [
   ⟨some 2, .mv (.c (.int .i64 0)), none⟩] [0])
 (.seq
  (.seq
   (.reg [
     ⟨some 3, .mv (.c (.int .i64 0)), none⟩] [0, 3])
   (.blk 0
    (.seq
     (.trim [0, 3])
     (.lop
      (.seq
       (.seq
        (.seq
         (.reg [
           ⟨some 6, .mv (.t 3), none⟩,
           ⟨some 7, .mv (.t 0), none⟩,
           ⟨some 8, .lenS (.t 7), none⟩,
           ⟨some 9, .bin .lss none (.t 6) (.t 8), none⟩] [0, 3, 9])
         (.cnd (.t 9)
          .skip
          (.exit 0)))
        (.blk 1
         (.seq
          (.reg [
            ⟨some 11, .mv (.t 0), none⟩,
            ⟨some 12, .mv (.t 3), none⟩,
            ⟨some 13, .slS (.t 11) (some (.t 12)) none, none⟩,
            ⟨some 14, .call 112 [(.t 13)], none⟩,
            ⟨some 10, .mv (.t 14), none⟩,
            ⟨some 15, .ext (.t 10) 0, none⟩,
            ⟨some 16, .ext (.t 10) 1, none⟩,
            ⟨some 4, .mv (.t 15), none⟩,
            ⟨some 5, .mv (.t 16), none⟩] [0, 3, 5])
          (.seq
           (.seq
            (.reg [
              ⟨some 17, .mv (.t 5), none⟩,
              ⟨some 18, .bin .eql (some .int) (.t 17) (.c (.int .i64 0)), none⟩] [0, 3, 5, 18])
            (.cnd (.t 18)
             (.seq
              (.reg [
                ⟨some 19, .mv (.t 3), none⟩,
                ⟨some 2, .mv (.t 19), none⟩] [2])
              .ret)
             .skip))
           (.reg [
             ⟨some 20, .mv (.t 3), none⟩,
             ⟨some 21, .mv (.t 5), none⟩,
             ⟨some 22, .bin .add none (.t 20) (.t 21), none⟩,
             ⟨some 3, .mv (.t 22), none⟩] [0, 3])))))
       (.trim [0, 3]))))))
  (.seq
   (.reg [
     ⟨some 2, .mv (.c (.int .i64 (-1))), none⟩] [2])
   .ret))),
[.tmp 2]⟩
theorem F71_ok : prepF Go.Proofs.Tryz.prog ⟨[], [(0, [0]), (1, [0, 3]), (2, [0, 3, 9]), (3, [0, 3, 5]), (4, [0, 3, 5, 18]), (5, [2]), (6, [0, 3]), (7, [2]), (1000000, [0, 3])], []⟩ Go.Proofs.Tryz.f71 = some F71 := by kernel_rfl
theorem F71_fn : FnOK2 Go.Proofs.Tryz.prog 71 (.pl F71) := .pl Go.Proofs.Tryz.func71 (by kernel_rfl) F71_ok
/-- emend/tree.Read$1 -/
def F72 : DG := ⟨1, 4,
[⟨some 1, .mv (.t 4), none⟩], [0, 1],
(.seq
 (.reg [
   ⟨some 5, .mv (.t 1), none⟩,
   ⟨some 6, .bin .eql (some .ifc) (.t 5) (.c .nilif), none⟩] [0, 1, 6])
 (.seq
  (.cnd (.t 6)
   .ret
   .skip)
  (.seq
   (.reg [
     ⟨some 8, .mv (.t 1), none⟩,
     ⟨some 9, .tas true 64 .nilp (.t 8), none⟩,
     ⟨some 7, .mv (.t 9), none⟩,
     ⟨some 10, .ext (.t 7) 0, none⟩,
     ⟨some 11, .ext (.t 7) 1, none⟩,
     ⟨some 2, .mv (.t 10), none⟩,
     ⟨some 3, .mv (.t 11), none⟩] [0, 1, 2, 3])
   (.seq
    (.reg [
      ⟨some 12, .mv (.t 3), none⟩,
      ⟨some 13, .un .not (.t 12), none⟩] [0, 1, 2, 13])
    (.seq
     (.cnd (.t 13)
      (.reg [
        ⟨some 14, .mv (.t 1), none⟩,
        ⟨none, .pnc (.t 14), none⟩] [0, 2])
      .skip)
     (.seq
      (.reg [
        ⟨some 15, .mv (.t 2), none⟩,
        ⟨some 16, .mki 64 (.t 15), none⟩,
        ⟨none, .st 1 (.t 0) (.t 16), none⟩] [])
      .skip))))))⟩
theorem F72_ok : prepG Go.Proofs.Tryz.prog ⟨[], [(0, [0, 1]), (1, [0, 1, 6]), (2, [0, 1, 2, 3]), (3, [0, 1, 2, 13]), (4, [0, 2]), (5, [])], []⟩ Go.Proofs.Tryz.f72 = some F72 := by kernel_rfl
theorem F72_fn : FnOK2 Go.Proofs.Tryz.prog 72 (.rc F72) := .rc Go.Proofs.Tryz.func72 (by kernel_rfl) F72_ok
/-- (*emend/tree.Place).Row -/
def F73 : DF := ⟨2,
(.seq
 (.reg [
   ⟨some 4, .mv (.c (.str [])), none⟩] [0, 1])
 (.seq
  (.reg [
    ⟨some 6, .mv (.t 0), none⟩,
    ⟨some 7, .nilc (.t 6), none⟩,
    ⟨some 8, .fa 1 (.t 7), none⟩,
    ⟨some 9, .ld false 1 (.t 8), none⟩,
    ⟨some 5, .mv (.t 9), none⟩] [0, 1, 5])
  (.seq
   (.blk 0
    (.seq
     (.trim [0, 1, 5])
     (.lop
      (.seq
       (.seq
        (.seq
         (.drw [
           ((⟨some 10, .mv (.t 0), none⟩, none), []),
           ((⟨some 11, .nilc (.t 10), none⟩, none), []),
           ((⟨some 12, .fa 1 (.t 11), none⟩, none), []),
           ((⟨some 13, .ld false 1 (.t 12), none⟩, none), []),
           ((⟨some 14, .mv (.t 0), none⟩, none), []),
           ((⟨some 15, .nilc (.t 14), none⟩, none), []),
           ((⟨some 16, .fa 0 (.t 15), none⟩, none), []),
           ((⟨some 17, .ld false 1 (.t 16), none⟩, none), []),
           ((⟨some 18, .lenS (.t 17), none⟩, none), []),
           ((⟨some 19, .bin .lss none (.t 13) (.t 18), none⟩, none), []),
           ((⟨some 20, .mv (.t 19), none⟩, none), []),
           ((⟨some 21, .mv (.t 1), some (20, true)⟩, none), []),
           ((⟨some 22, .mv (.t 0), some (20, true)⟩, none), []),
           ((⟨some 23, .nilc (.t 22), some (20, true)⟩, none), []),
           ((⟨some 24, .fa 0 (.t 23), some (20, true)⟩, none), []),
           ((⟨some 25, .ld false 1 (.t 24), some (20, true)⟩, none), []),
           ((⟨some 26, .mv (.t 0), some (20, true)⟩, none), []),
           ((⟨some 27, .nilc (.t 26), some (20, true)⟩, none), []),
           ((⟨some 28, .fa 1 (.t 27), some (20, true)⟩, none), []),
           ((⟨some 29, .ld false 1 (.t 28), some (20, true)⟩, none), []),
           ((⟨some 30, .ixS (.t 25) (.t 29), some (20, true)⟩, none), []),
           ((⟨some 31, .callv (.t 21) [(.t 30)], some (20, true)⟩, none), []),
           ((⟨some 32, .pick (.t 20) (.t 31) (.c (.bool false)), none⟩, none), [])] [0, 1, 5, 32])
         (.cnd (.t 32)
          .skip
          (.exit 0)))
        (.blk 1
         (.reg [
           ⟨some 33, .mv (.t 0), none⟩,
           ⟨some 34, .nilc (.t 33), none⟩,
           ⟨some 35, .fa 1 (.t 34), none⟩,
           ⟨some 36, .ld false 1 (.t 35), none⟩,
           ⟨some 37, .bin .add none (.t 36) (.c (.int .i64 1)), none⟩,
           ⟨some 38, .nilc (.t 33), none⟩,
           ⟨some 39, .fa 1 (.t 38), none⟩,
           ⟨none, .st 1 (.t 39) (.t 37), none⟩] [0, 1, 5])))
       (.trim [0, 1, 5])))))
   (.seq
    (.drw [
      ((⟨some 40, .mv (.t 0), none⟩, none), []),
      ((⟨some 41, .nilc (.t 40), none⟩, none), []),
      ((⟨some 42, .fa 0 (.t 41), none⟩, none), []),
      ((⟨some 43, .ld false 1 (.t 42), none⟩, none), []),
      ((⟨some 44, .mv (.t 5), none⟩, none), []),
      ((⟨some 45, .mv (.t 0), none⟩, none), []),
      ((⟨some 46, .nilc (.t 45), none⟩, none), []),
      ((⟨some 47, .fa 1 (.t 46), none⟩, none), []),
      ((⟨some 48, .ld false 1 (.t 47), none⟩, none), []),
      ((⟨some 49, .slS (.t 43) (some (.t 44)) (some (.t 48)), none⟩, none), []),
      ((⟨some 4, .mv (.t 49), none⟩, none), [])] [4])
    .ret)))),
[.tmp 4]⟩
theorem F73_ok : prepF Go.Proofs.Tryz.prog ⟨[], [(0, [0, 1]), (1, [0, 1, 5]), (2, [0, 1, 5, 32]), (3, [0, 1, 5]), (4, [4]), (1000000, [0, 1, 5])], []⟩ Go.Proofs.Tryz.f73 = some F73 := by kernel_rfl
theorem F73_fn : FnOK2 Go.Proofs.Tryz.prog 73 (.pl F73) := .pl Go.Proofs.Tryz.func73 (by kernel_rfl) F73_ok
/-- emend/tree.Blank -/
def F74 : DF := ⟨1,
(.seq
 (.reg [
   ⟨some 2, .mv (.c (.bool false)), none⟩] [0])
 (.seq
  (.reg [
    ⟨some 3, .mv (.t 0), none⟩,
    ⟨some 4, .bin .eql (some .int) (.t 3) (.c (.int .u8 9)), none⟩,
    ⟨some 5, .mv (.t 4), none⟩,
    ⟨some 6, .mv (.t 0), some (5, false)⟩,
    ⟨some 7, .bin .eql (some .int) (.t 6) (.c (.int .u8 10)), some (5, false)⟩,
    ⟨some 8, .pick (.t 5) (.c (.bool true)) (.t 7), none⟩,
    ⟨some 9, .mv (.t 8), none⟩,
    ⟨some 10, .mv (.t 0), some (9, false)⟩,
    ⟨some 11, .bin .eql (some .int) (.t 10) (.c (.int .u8 13)), some (9, false)⟩,
    ⟨some 12, .pick (.t 9) (.c (.bool true)) (.t 11), none⟩,
    ⟨some 13, .mv (.t 12), none⟩,
    ⟨some 14, .mv (.t 0), some (13, false)⟩,
    ⟨some 15, .bin .eql (some .int) (.t 14) (.c (.int .u8 32)), some (13, false)⟩,
    ⟨some 16, .pick (.t 13) (.c (.bool true)) (.t 15), none⟩,
    ⟨some 2, .mv (.t 16), none⟩] [2])
  .ret)),
[.tmp 2]⟩
theorem F74_ok : prepF Go.Proofs.Tryz.prog ⟨[], [(0, [0]), (1, [2])], []⟩ Go.Proofs.Tryz.f74 = some F74 := by kernel_rfl
theorem F74_fn : FnOK2 Go.Proofs.Tryz.prog 74 (.pl F74) := .pl Go.Proofs.Tryz.func74 (by kernel_rfl) F74_ok
/-- (*emend/tree.Place).Is -/
def F75 : DF := ⟨2,
(.seq
 (.reg [
   ⟨some 4, .mv (.c (.bool false)), none⟩] [0, 1])
 (.seq
  (.drw [
    ((⟨some 5, .mv (.t 0), none⟩, none), []),
    ((⟨some 6, .nilc (.t 5), none⟩, none), []),
    ((⟨some 7, .fa 1 (.t 6), none⟩, none), []),
    ((⟨some 8, .ld false 1 (.t 7), none⟩, none), []),
    ((⟨some 9, .mv (.t 0), none⟩, none), []),
    ((⟨some 10, .nilc (.t 9), none⟩, none), []),
    ((⟨some 11, .fa 0 (.t 10), none⟩, none), []),
    ((⟨some 12, .ld false 1 (.t 11), none⟩, none), []),
    ((⟨some 13, .lenS (.t 12), none⟩, none), []),
    ((⟨some 14, .bin .lss none (.t 8) (.t 13), none⟩, none), []),
    ((⟨some 15, .mv (.t 14), none⟩, none), []),
    ((⟨some 16, .mv (.t 0), some (15, true)⟩, none), []),
    ((⟨some 17, .nilc (.t 16), some (15, true)⟩, none), []),
    ((⟨some 18, .fa 0 (.t 17), some (15, true)⟩, none), []),
    ((⟨some 19, .ld false 1 (.t 18), some (15, true)⟩, none), []),
    ((⟨some 20, .mv (.t 0), some (15, true)⟩, none), []),
    ((⟨some 21, .nilc (.t 20), some (15, true)⟩, none), []),
    ((⟨some 22, .fa 1 (.t 21), some (15, true)⟩, none), []),
    ((⟨some 23, .ld false 1 (.t 22), some (15, true)⟩, none), []),
    ((⟨some 24, .ixS (.t 19) (.t 23), some (15, true)⟩, none), []),
    ((⟨some 25, .mv (.t 1), some (15, true)⟩, none), []),
    ((⟨some 26, .bin .eql (some .int) (.t 24) (.t 25), some (15, true)⟩, none), []),
    ((⟨some 27, .pick (.t 15) (.t 26) (.c (.bool false)), none⟩, none), []),
    ((⟨some 4, .mv (.t 27), none⟩, none), [])] [4])
  .ret)),
[.tmp 4]⟩
theorem F75_ok : prepF Go.Proofs.Tryz.prog ⟨[], [(0, [0, 1]), (1, [4])], []⟩ Go.Proofs.Tryz.f75 = some F75 := by kernel_rfl
theorem F75_fn : FnOK2 Go.Proofs.Tryz.prog 75 (.pl F75) := .pl Go.Proofs.Tryz.func75 (by kernel_rfl) F75_ok
/-- (*emend/tree.Place).Node -/
def F76 : DF := ⟨4,
(.seq
 (.seq
  (.reg [
    ⟨some 8, .mv (.t 2), none⟩,
    ⟨some 9, .bin .gtr none (.t 8) (.c (.int .i64 64)), none⟩] [0, 1, 3, 9])
  (.cnd (.t 9)
   (.reg [
     ⟨some 10, .mv (.t 1), none⟩,
     ⟨some 11, .call 81 [(.t 10), (.c (.int .i64 4))], none⟩] [0, 1, 3])
   .skip))
 (.seq
  (.reg [
    ⟨some 12, .mv (.t 0), none⟩,
    ⟨some 13, .nilc (.t 12), none⟩,
    ⟨some 14, .fa 2 (.t 13), none⟩,
    ⟨some 15, .ld false 1 (.t 14), none⟩,
    ⟨some 16, .mv (.t 3), none⟩,
    ⟨some 17, .bin .add none (.t 15) (.t 16), none⟩,
    ⟨some 18, .nilc (.t 12), none⟩,
    ⟨some 19, .fa 2 (.t 18), none⟩,
    ⟨none, .st 1 (.t 19) (.t 17), none⟩] [0, 1])
  (.seq
   (.reg [
     ⟨some 20, .mv (.t 0), none⟩,
     ⟨some 21, .nilc (.t 20), none⟩,
     ⟨some 22, .fa 2 (.t 21), none⟩,
     ⟨some 23, .ld false 1 (.t 22), none⟩,
     ⟨some 24, .bin .gtr none (.t 23) (.c (.int .i64 4096)), none⟩] [1, 24])
   (.cnd (.t 24)
    (.reg [
      ⟨some 25, .mv (.t 1), none⟩,
      ⟨some 26, .call 81 [(.t 25), (.c (.int .i64 3))], none⟩] [])
    .skip)))),
[]⟩
theorem F76_ok : prepF Go.Proofs.Tryz.prog ⟨[], [(0, [0, 1, 3, 9]), (1, [0, 1, 3]), (2, [0, 1]), (3, [1, 24]), (4, [])], []⟩ Go.Proofs.Tryz.f76 = some F76 := by kernel_rfl
theorem F76_fn : FnOK2 Go.Proofs.Tryz.prog 76 (.pl F76) := .pl Go.Proofs.Tryz.func76 (by kernel_rfl) F76_ok
/-- (emend/json.reader).container -/
def F77 : DF := ⟨4,
(.seq
 (.reg [
   ⟨some 4, .bxL (.t 0), none⟩,
   ⟨some 5, .bxL (.t 1), none⟩,
   ⟨some 8, .alL [(.int .i64 0), (.str []), (.str []), (.str []), (.int .i64 0), (.str []), (.sl 1 ⟨none, 0, (some 0), true⟩ []), (.sl 4 ⟨none, 0, (some 0), true⟩ []), (.str []), (.sl 14 ⟨none, 0, (some 0), true⟩ []), (.sl 1 ⟨none, 0, (some 0), true⟩ []), (.str []), (.str []), (.int .i64 0)], none⟩] [2, 3, 4, 5, 8])
 (.seq
  (.reg [
    ⟨some 15, .mv (.t 3), none⟩,
    ⟨some 16, .cvI .i32 (.t 15), none⟩,
    ⟨some 17, .cvRS (.t 16), none⟩,
    ⟨some 18, .fa 11 (.t 5), none⟩,
    ⟨none, .st 1 (.t 18) (.t 17), none⟩] [2, 3, 4, 5, 8])
  (.seq
   (.reg [
     ⟨some 19, .fa 0 (.t 4), none⟩,
     ⟨some 20, .ld false 1 (.t 19), none⟩,
     ⟨some 21, .nilc (.t 20), none⟩,
     ⟨some 22, .fa 1 (.t 21), none⟩,
     ⟨some 23, .ld false 1 (.t 22), none⟩,
     ⟨some 24, .bin .add none (.t 23) (.c (.int .i64 1)), none⟩,
     ⟨some 25, .nilc (.t 20), none⟩,
     ⟨some 26, .fa 1 (.t 25), none⟩,
     ⟨none, .st 1 (.t 26) (.t 24), none⟩] [2, 3, 4, 5, 8])
   (.seq
    (.reg [
      ⟨some 27, .mkm, none⟩,
      ⟨some 9, .mv (.t 27), none⟩] [2, 3, 4, 5, 8, 9])
    (.seq
     (.reg [
       ⟨some 28, .fa 0 (.t 4), none⟩,
       ⟨some 29, .ld false 1 (.t 28), none⟩,
       ⟨some 30, .nilc (.t 29), none⟩,
       ⟨some 31, .fa 1 (.t 30), none⟩,
       ⟨some 32, .ld false 1 (.t 31), none⟩,
       ⟨some 10, .mv (.t 32), none⟩] [2, 3, 4, 5, 8, 9, 10])
     (.seq
      (.seq
       (.reg [
         ⟨some 33, .ld true 1 (.t 4), none⟩,
         ⟨some 34, .call 34 [(.t 33)], none⟩,
         ⟨some 11, .mv (.t 34), none⟩] [2, 3, 4, 5, 8, 9, 10, 11])
       (.seq
        (.reg [
          ⟨some 35, .fa 0 (.t 4), none⟩,
          ⟨some 36, .ld false 1 (.t 35), none⟩,
          ⟨some 37, .mv (.t 3), none⟩,
          ⟨some 38, .call 75 [(.t 36), (.t 37)], none⟩] [2, 3, 4, 5, 8, 9, 10, 11, 38])
        (.cnd (.t 38)
         (.seq
          (.reg [
            ⟨some 39, .fa 8 (.t 5), none⟩,
            ⟨some 40, .ld false 1 (.t 39), none⟩,
            ⟨some 41, .mv (.t 11), none⟩,
            ⟨some 42, .bin .add none (.t 40) (.t 41), none⟩,
            ⟨some 43, .fa 8 (.t 5), none⟩,
            ⟨none, .st 1 (.t 43) (.t 42), none⟩] [4, 5, 8])
          (.seq
           (.reg [
             ⟨some 44, .fa 0 (.t 4), none⟩,
             ⟨some 45, .ld false 1 (.t 44), none⟩,
             ⟨some 46, .nilc (.t 45), none⟩,
             ⟨some 47, .fa 1 (.t 46), none⟩,
             ⟨some 48, .ld false 1 (.t 47), none⟩,
             ⟨some 49, .bin .add none (.t 48) (.c (.int .i64 1)), none⟩,
             ⟨some 50, .nilc (.t 45), none⟩,
             ⟨some 51, .fa 1 (.t 50), none⟩,
             ⟨none, .st 1 (.t 51) (.t 49), none⟩] [5, 8])
           (.seq
            (.reg [
              ⟨some 52, .ld true 14 (.t 5), none⟩,
              ⟨none, .st 14 (.t 8) (.t 52), none⟩] [8])
            .ret)))
         .skip)))
      (.blk 0
       (.seq
        (.trim [2, 3, 4, 5, 8, 9, 10])
        (.lop
         (.seq
          (.blk 1
           (.seq
            (.reg [
              ⟨some 12, .mv (.c (.str [])), none⟩] [2, 3, 4, 5, 8, 9, 10, 12])
            (.seq
             (.seq
              (.reg [
                ⟨some 53, .fa 0 (.t 5), none⟩,
                ⟨some 54, .ld false 1 (.t 53), none⟩,
                ⟨some 55, .bin .eql (some .int) (.t 54) (.c (.int .i64 7)), none⟩] [2, 3, 4, 5, 8, 9, 10, 12, 55])
              (.cnd (.t 55)
               (.reg [
                 ⟨some 56, .ld true 1 (.t 4), none⟩,
                 ⟨some 57, .mv (.t 9), none⟩,
                 ⟨some 58, .call 113 [(.t 56), (.t 57)], none⟩,
                 ⟨some 12, .mv (.t 58), none⟩] [2, 3, 4, 5, 8, 9, 10, 12])
               .skip))
             (.seq
              (.drw [
                ((⟨some 59, .fa 0 (.t 4), none⟩, (some 4)), []),
                ((⟨some 60, .ld false 1 (.t 59), none⟩, (some 4)), []),
                ((⟨some 61, .nilc (.t 60), none⟩, none), []),
                ((⟨some 62, .fa 0 (.t 61), none⟩, none), []),
                ((⟨some 63, .ld false 1 (.t 62), none⟩, none), []),
                ((⟨some 64, .mv (.t 10), none⟩, none), []),
                ((⟨some 65, .fa 0 (.t 4), none⟩, (some 4)), []),
                ((⟨some 66, .ld false 1 (.t 65), none⟩, (some 4)), []),
                ((⟨some 67, .nilc (.t 66), none⟩, none), []),
                ((⟨some 68, .fa 1 (.t 67), none⟩, none), []),
                ((⟨some 69, .ld false 1 (.t 68), none⟩, none), []),
                ((⟨some 70, .slS (.t 63) (some (.t 64)) (some (.t 69)), none⟩, none), []),
                ((⟨some 13, .mv (.t 70), none⟩, none), [])] [2, 3, 4, 5, 8, 9, 12, 13])
              (.seq
               (.reg [
                 ⟨some 71, .ld true 1 (.t 4), none⟩,
                 ⟨some 72, .mv (.t 2), none⟩,
                 ⟨some 73, .bin .add none (.t 72) (.c (.int .i64 1)), none⟩,
                 ⟨some 74, .call 35 [(.t 71), (.t 73)], none⟩,
                 ⟨some 14, .alL [(.int .i64 0), (.str []), (.str []), (.str []), (.int .i64 0), (.str []), (.sl 1 ⟨none, 0, (some 0), true⟩ []), (.sl 4 ⟨none, 0, (some 0), true⟩ []), (.str []), (.sl 14 ⟨none, 0, (some 0), true⟩ []), (.sl 1 ⟨none, 0, (some 0), true⟩ []), (.str []), (.str []), (.int .i64 0)], none⟩,
                 ⟨none, .st 14 (.t 14) (.t 74), none⟩] [2, 3, 4, 5, 8, 9, 12, 13, 14])
               (.seq
                (.reg [
                  ⟨some 75, .mv (.t 13), none⟩,
                  ⟨some 76, .mv (.t 12), none⟩,
                  ⟨some 77, .ld true 1 (.t 4), none⟩,
                  ⟨some 78, .call 34 [(.t 77)], none⟩,
                  ⟨some 79, .fa 1 (.t 14), none⟩,
                  ⟨none, .st 1 (.t 79) (.t 75), none⟩,
                  ⟨some 80, .fa 2 (.t 14), none⟩,
                  ⟨none, .st 1 (.t 80) (.t 76), none⟩,
                  ⟨some 81, .fa 12 (.t 14), none⟩,
                  ⟨none, .st 1 (.t 81) (.t 78), none⟩] [2, 3, 4, 5, 8, 9, 14])
                (.seq
                 (.reg [
                   ⟨some 82, .fa 9 (.t 5), none⟩,
                   ⟨some 83, .ld false 1 (.t 82), none⟩,
                   ⟨some 84, .ld true 14 (.t 14), none⟩,
                   ⟨some 85, .bldT 28 14 1 (.agg [(.int .i64 0), (.str []), (.str []), (.str []), (.int .i64 0), (.str []), (.sl 1 ⟨none, 0, (some 0), true⟩ []), (.sl 4 ⟨none, 0, (some 0), true⟩ []), (.str []), (.sl 14 ⟨none, 0, (some 0), true⟩ []), (.sl 1 ⟨none, 0, (some 0), true⟩ []), (.str []), (.str []), (.int .i64 0)]) [(0, (.t 84))], none⟩,
                   ⟨some 86, .app true 28 14 232 (.t 83) (.t 85), none⟩,
                   ⟨some 87, .fa 9 (.t 5), none⟩,
                   ⟨none, .st 1 (.t 87) (.t 86), none⟩] [2, 3, 4, 5, 8, 9])
                 (.seq
                  (.seq
                   (.reg [
                     ⟨some 88, .fa 0 (.t 4), none⟩,
                     ⟨some 89, .ld false 1 (.t 88), none⟩,
                     ⟨some 90, .call 75 [(.t 89), (.c (.int .u8 44))], none⟩,
                     ⟨some 91, .un .not (.t 90), none⟩] [2, 3, 4, 5, 8, 9, 91])
                   (.cnd (.t 91)
                    (.seq
                     (.reg [
                       ⟨some 92, .fa 0 (.t 4), none⟩,
                       ⟨some 93, .ld false 1 (.t 92), none⟩,
                       ⟨some 94, .mv (.t 3), none⟩,
                       ⟨some 95, .call 114 [(.t 93), (.t 94)], none⟩] [5, 8])
                     (.seq
                      (.reg [
                        ⟨some 96, .ld true 14 (.t 5), none⟩,
                        ⟨none, .st 14 (.t 8) (.t 96), none⟩] [8])
                      .ret))
                    .skip))
                  (.seq
                   (.reg [
                     ⟨some 97, .fa 10 (.t 5), none⟩,
                     ⟨some 98, .ld false 1 (.t 97), none⟩,
                     ⟨some 99, .bldT 9 1 1 (.str []) [(0, (.c (.str [44])))], none⟩,
                     ⟨some 100, .app false 9 1 16 (.t 98) (.t 99), none⟩,
                     ⟨some 101, .fa 10 (.t 5), none⟩,
                     ⟨none, .st 1 (.t 101) (.t 100), none⟩] [2, 3, 4, 5, 8, 9])
                   (.seq
                    (.reg [
                      ⟨some 102, .fa 0 (.t 4), none⟩,
                      ⟨some 103, .ld false 1 (.t 102), none⟩,
                      ⟨some 104, .nilc (.t 103), none⟩,
                      ⟨some 105, .fa 1 (.t 104), none⟩,
                      ⟨some 106, .ld false 1 (.t 105), none⟩,
                      ⟨some 107, .bin .add none (.t 106) (.c (.int .i64 1)), none⟩,
                      ⟨some 108, .nilc (.t 103), none⟩,
                      ⟨some 109, .fa 1 (.t 108), none⟩,
                      ⟨none, .st 1 (.t 109) (.t 107), none⟩] [2, 3, 4, 5, 8, 9])
                    (.seq
                     (.reg [
                       ⟨some 110, .fa 0 (.t 4), none⟩,
                       ⟨some 111, .ld false 1 (.t 110), none⟩,
                       ⟨some 112, .nilc (.t 111), none⟩,
                       ⟨some 113, .fa 1 (.t 112), none⟩,
                       ⟨some 114, .ld false 1 (.t 113), none⟩,
                       ⟨some 10, .mv (.t 114), none⟩] [2, 3, 4, 5, 8, 9, 10])
                     (.reg [
                       ⟨some 115, .ld true 1 (.t 4), none⟩,
                       ⟨some 116, .call 34 [(.t 115)], none⟩] [2, 3, 4, 5, 8, 9, 10]))))))))))))
          (.trim [2, 3, 4, 5, 8, 9, 10]))))))))))),
[.cell 8 true 14]⟩
theorem F77_ok : prepF Go.Proofs.Tryz.prog ⟨[4, 5, 8, 14], [(0, [2, 3, 4, 5, 8]), (1, [2, 3, 4, 5, 8]), (2, [2, 3, 4, 5, 8]), (3, [2, 3, 4, 5, 8, 9]), (4, [2, 3, 4, 5, 8, 9, 10]), (5, [2, 3, 4, 5, 8, 9, 10, 11]), (6, [2, 3, 4, 5, 8, 9, 10, 11, 38]), (7, [4, 5, 8]), (8, [5, 8]), (9, [8]), (10, [2, 3, 4, 5, 8, 9, 10, 12]), (11, [2, 3, 4, 5, 8, 9, 10, 12, 55]), (12, [2, 3, 4, 5, 8, 9, 10, 12]), (13, [2, 3, 4, 5, 8, 9, 12, 13]), (14, [2, 3, 4, 5, 8, 9, 12, 13, 14]), (15, [2, 3, 4, 5, 8, 9, 14]), (16, [2, 3, 4, 5, 8, 9]), (17, [2, 3, 4, 5, 8, 9, 91]), (18, [5, 8]), (19, [8]), (20, [2, 3, 4, 5, 8, 9]), (21, [2, 3, 4, 5, 8, 9]), (22, [2, 3, 4, 5, 8, 9, 10]), (23, [2, 3, 4, 5, 8, 9, 10]), (1000000, [2, 3, 4, 5, 8, 9, 10])], [(13, [(some 4), (some 4), none, none, none, none, (some 4), (some 4), none, none, none, none, none])]⟩ Go.Proofs.Tryz.f77 = some F77 := by kernel_rfl
theorem F77_fn : FnOK2 Go.Proofs.Tryz.prog 77 (.pl F77) := .pl Go.Proofs.Tryz.func77 (by kernel_rfl) F77_ok
/-- (emend/json.reader).leaf -/
def F78 : DF := ⟨3,
(.seq
 (.reg [
   ⟨some 3, .bxL (.t 0), none⟩,
   ⟨some 5, .bxL (.t 2), none⟩,
   ⟨some 6, .alL [(.int .i64 0), (.str []), (.str []), (.str []), (.int .i64 0), (.str []), (.sl 1 ⟨none, 0, (some 0), true⟩ []), (.sl 4 ⟨none, 0, (some 0), true⟩ []), (.str []), (.sl 14 ⟨none, 0, (some 0), true⟩ []), (.sl 1 ⟨none, 0, (some 0), true⟩ []), (.str []), (.str []), (.int .i64 0)], none⟩] [1, 3, 5, 6])
 (.seq
  (.drw [
    ((⟨some 7, .fa 0 (.t 5), none⟩, (some 5)), []),
    ((⟨some 8, .ld false 1 (.t 7), none⟩, (some 5)), []),
    ((⟨some 9, .fa 0 (.t 3), none⟩, (some 3)), []),
    ((⟨some 10, .ld false 1 (.t 9), none⟩, (some 3)), []),
    ((⟨some 11, .nilc (.t 10), none⟩, none), []),
    ((⟨some 12, .fa 0 (.t 11), none⟩, none), []),
    ((⟨some 13, .ld false 1 (.t 12), none⟩, none), []),
    ((⟨some 14, .mv (.t 1), none⟩, none), []),
    ((⟨some 15, .fa 0 (.t 3), none⟩, (some 3)), []),
    ((⟨some 16, .ld false 1 (.t 15), none⟩, (some 3)), []),
    ((⟨some 17, .nilc (.t 16), none⟩, none), []),
    ((⟨some 18, .fa 1 (.t 17), none⟩, none), []),
    ((⟨some 19, .ld false 1 (.t 18), none⟩, none), []),
    ((⟨some 20, .slS (.t 13) (some (.t 14)) (some (.t 19)), none⟩, none), []),
    ((⟨some 21, .ld true 4 (.t 5), none⟩, (some 5)), []),
    ((⟨some 22, .bld [(.int .i64 0), (.str []), (.str []), (.str []), (.int .i64 0), (.str []), (.sl 1 ⟨none, 0, (some 0), true⟩ []), (.sl 4 ⟨none, 0, (some 0), true⟩ []), (.str []), (.sl 14 ⟨none, 0, (some 0), true⟩ []), (.sl 1 ⟨none, 0, (some 0), true⟩ []), (.str []), (.str []), (.int .i64 0)] [(0, 1, (.t 8)), (3, 1, (.t 20)), (4, 4, (.t 21))], none⟩, none), []),
    ((⟨none, .st 14 (.t 6) (.t 22), none⟩, (some 6)), [])] [6])
  .ret)),
[.cell 6 true 14]⟩
theorem F78_ok : prepF Go.Proofs.Tryz.prog ⟨[3, 5, 6], [(0, [1, 3, 5, 6]), (1, [6])], [(1, [(some 5), (some 5), (some 3), (some 3), none, none, none, none, (some 3), (some 3), none, none, none, none, (some 5), none, (some 6)])]⟩ Go.Proofs.Tryz.f78 = some F78 := by kernel_rfl
theorem F78_fn : FnOK2 Go.Proofs.Tryz.prog 78 (.pl F78) := .pl Go.Proofs.Tryz.func78 (by kernel_rfl) F78_ok
/-- (*emend/tree.Place).Quoted -/
def F79 : DF := ⟨1,
(.seq
 (.reg [
   ⟨some 2, .mv (.c (.str [])), none⟩] [0])
 (.seq
  (.drw [
    ((⟨some 7, .mv (.t 0), none⟩, none), []),
    ((⟨some 8, .nilc (.t 7), none⟩, none), []),
    ((⟨some 9, .fa 0 (.t 8), none⟩, none), []),
    ((⟨some 10, .ld false 1 (.t 9), none⟩, none), []),
    ((⟨some 11, .mv (.t 0), none⟩, none), []),
    ((⟨some 12, .nilc (.t 11), none⟩, none), []),
    ((⟨some 13, .fa 1 (.t 12), none⟩, none), []),
    ((⟨some 14, .ld false 1 (.t 13), none⟩, none), []),
    ((⟨some 15, .slS (.t 10) (some (.t 14)) none, none⟩, none), []),
    ((⟨some 16, .call 115 [(.t 15)], none⟩, none), []),
    ((⟨some 6, .mv (.t 16), none⟩, none), []),
    ((⟨some 17, .ext (.t 6) 0, none⟩, none), []),
    ((⟨some 18, .ext (.t 6) 1, none⟩, none), []),
    ((⟨some 19, .ext (.t 6) 2, none⟩, none), []),
    ((⟨some 3, .mv (.t 17), none⟩, none), []),
    ((⟨some 4, .mv (.t 18), none⟩, none), []),
    ((⟨some 5, .mv (.t 19), none⟩, none), [])] [0, 3, 4, 5])
  (.seq
   (.seq
    (.reg [
      ⟨some 20, .mv (.t 5), none⟩,
      ⟨some 21, .bin .neq (some .ptr) (.t 20) (.c .nilp), none⟩] [0, 3, 4, 5, 21])
    (.cnd (.t 21)
     (.drw [
       ((⟨some 22, .mv (.t 0), none⟩, none), []),
       ((⟨some 23, .nilc (.t 22), none⟩, none), []),
       ((⟨some 24, .fa 1 (.t 23), none⟩, none), []),
       ((⟨some 25, .ld false 1 (.t 24), none⟩, none), []),
       ((⟨some 26, .mv (.t 5), none⟩, none), []),
       ((⟨some 27, .nilc (.t 26), none⟩, none), []),
       ((⟨some 28, .fa 0 (.t 27), none⟩, none), []),
       ((⟨some 29, .fa 0 (.t 28), none⟩, none), []),
       ((⟨some 30, .ld false 1 (.t 29), none⟩, none), []),
       ((⟨some 31, .bin .add none (.t 25) (.t 30), none⟩, none), []),
       ((⟨some 32, .mv (.t 5), none⟩, none), []),
       ((⟨some 33, .nilc (.t 32), none⟩, none), []),
       ((⟨some 34, .fa 1 (.t 33), none⟩, none), []),
       ((⟨some 35, .ld false 1 (.t 34), none⟩, none), []),
       ((⟨some 36, .call 81 [(.t 31), (.t 35)], none⟩, none), [])] [0, 3, 4])
     .skip))
   (.seq
    (.reg [
      ⟨some 37, .mv (.t 0), none⟩,
      ⟨some 38, .nilc (.t 37), none⟩,
      ⟨some 39, .fa 1 (.t 38), none⟩,
      ⟨some 40, .ld false 1 (.t 39), none⟩,
      ⟨some 41, .mv (.t 4), none⟩,
      ⟨some 42, .bin .add none (.t 40) (.t 41), none⟩,
      ⟨some 43, .nilc (.t 37), none⟩,
      ⟨some 44, .fa 1 (.t 43), none⟩,
      ⟨none, .st 1 (.t 44) (.t 42), none⟩] [3])
    (.seq
     (.reg [
       ⟨some 45, .mv (.t 3), none⟩,
       ⟨some 2, .mv (.t 45), none⟩] [2])
     .ret))))),
[.tmp 2]⟩
theorem F79_ok : prepF Go.Proofs.Tryz.prog ⟨[], [(0, [0]), (1, [0, 3, 4, 5]), (2, [0, 3, 4, 5, 21]), (3, [0, 3, 4]), (4, [3]), (5, [2])], []⟩ Go.Proofs.Tryz.f79 = some F79 := by kernel_rfl
theorem F79_fn : FnOK2 Go.Proofs.Tryz.prog 79 (.pl F79) := .pl Go.Proofs.Tryz.func79 (by kernel_rfl) F79_ok
/-- (*emend/tree.Place).Scalar -/
def F80 : DF := ⟨1,
(.seq
 (.reg [
   ⟨some 2, .alL [(.int .i64 0), (.str []), (.sl 1 ⟨none, 0, (some 0), true⟩ []), (.sl 4 ⟨none, 0, (some 0), true⟩ [])], none⟩] [0, 2])
 (.seq
  (.reg [
    ⟨some 7, .mv (.t 0), none⟩,
    ⟨some 8, .nilc (.t 7), none⟩,
    ⟨some 9, .fa 1 (.t 8), none⟩,
    ⟨some 10, .ld false 1 (.t 9), none⟩,
    ⟨some 3, .mv (.t 10), none⟩] [0, 2, 3])
  (.seq
   (.blk 0
    (.seq
     (.drw [
       ((⟨some 12, .mv (.t 0), none⟩, none), []),
       ((⟨some 13, .nilc (.t 12), none⟩, none), []),
       ((⟨some 14, .fa 1 (.t 13), none⟩, none), []),
       ((⟨some 15, .ld false 1 (.t 14), none⟩, none), []),
       ((⟨some 16, .mv (.t 0), none⟩, none), []),
       ((⟨some 17, .nilc (.t 16), none⟩, none), []),
       ((⟨some 18, .fa 0 (.t 17), none⟩, none), []),
       ((⟨some 19, .ld false 1 (.t 18), none⟩, none), []),
       ((⟨some 20, .lenS (.t 19), none⟩, none), []),
       ((⟨some 21, .bin .lss none (.t 15) (.t 20), none⟩, none), []),
       ((⟨some 22, .mv (.t 21), none⟩, none), []),
       ((⟨some 23, .mv (.t 0), some (22, true)⟩, none), []),
       ((⟨some 24, .nilc (.t 23), some (22, true)⟩, none), []),
       ((⟨some 25, .fa 0 (.t 24), some (22, true)⟩, none), []),
       ((⟨some 26, .ld false 1 (.t 25), some (22, true)⟩, none), []),
       ((⟨some 27, .mv (.t 0), some (22, true)⟩, none), []),
       ((⟨some 28, .nilc (.t 27), some (22, true)⟩, none), []),
       ((⟨some 29, .fa 1 (.t 28), some (22, true)⟩, none), []),
       ((⟨some 30, .ld false 1 (.t 29), some (22, true)⟩, none), []),
       ((⟨some 31, .ixS (.t 26) (.t 30), some (22, true)⟩, none), []),
       ((⟨some 32, .call 116 [(.t 31)], some (22, true)⟩, none), []),
       ((⟨some 33, .mv (.t 32), some (22, true)⟩, none), []),
       ((⟨some 34, .mv (.t 0), some (33, false)⟩, none), []),
       ((⟨some 35, .nilc (.t 34), some (33, false)⟩, none), []),
       ((⟨some 36, .fa 0 (.t 35), some (33, false)⟩, none), []),
       ((⟨some 37, .ld false 1 (.t 36), some (33, false)⟩, none), []),
       ((⟨some 38, .mv (.t 0), some (33, false)⟩, none), []),
       ((⟨some 39, .nilc (.t 38), some (33, false)⟩, none), []),
       ((⟨some 40, .fa 1 (.t 39), some (33, false)⟩, none), []),
       ((⟨some 41, .ld false 1 (.t 40), some (33, false)⟩, none), []),
       ((⟨some 42, .ixS (.t 37) (.t 41), some (33, false)⟩, none), []),
       ((⟨some 43, .bin .eql (some .int) (.t 42) (.c (.int .u8 45)), some (33, false)⟩, none), []),
       ((⟨some 44, .pick (.t 33) (.c (.bool true)) (.t 43), some (22, true)⟩, none), []),
       ((⟨some 45, .pick (.t 22) (.t 44) (.c (.bool false)), none⟩, none), []),
       ((⟨some 11, .mv (.t 45), none⟩, none), [])] [0, 2, 3, 11])
     (.cnd (.t 11)
      (.seq
       (.reg [
         ⟨some 47, .mv (.t 0), none⟩,
         ⟨some 48, .call 73 [(.t 47), (.f 109)], none⟩,
         ⟨some 49, .call 100 [(.t 48)], none⟩,
         ⟨some 46, .mv (.t 49), none⟩,
         ⟨some 50, .ext (.t 46) 0, none⟩,
         ⟨some 51, .ext (.t 46) 1, none⟩,
         ⟨some 4, .mv (.t 50), none⟩,
         ⟨some 5, .mv (.t 51), none⟩] [2, 3, 4, 5])
       (.seq
        (.seq
         (.reg [
           ⟨some 52, .mv (.t 5), none⟩,
           ⟨some 53, .bin .neq (some .int) (.t 52) (.c (.int .i64 0)), none⟩] [2, 3, 4, 5, 53])
         (.cnd (.t 53)
          (.reg [
            ⟨some 54, .mv (.t 3), none⟩,
            ⟨some 55, .mv (.t 5), none⟩,
            ⟨some 56, .call 81 [(.t 54), (.t 55)], none⟩] [2, 4])
          .skip))
        (.seq
         (.reg [
           ⟨some 57, .mv (.t 4), none⟩,
           ⟨some 58, .bld [(.int .i64 0), (.str []), (.sl 1 ⟨none, 0, (some 0), true⟩ []), (.sl 4 ⟨none, 0, (some 0), true⟩ [])] [(0, 1, (.c (.int .i64 3))), (1, 1, (.t 57))], none⟩,
           ⟨none, .st 4 (.t 2) (.t 58), none⟩] [2])
         .ret)))
      (.seq
       (.drw [
         ((⟨some 60, .mv (.t 0), none⟩, none), []),
         ((⟨some 61, .nilc (.t 60), none⟩, none), []),
         ((⟨some 62, .fa 1 (.t 61), none⟩, none), []),
         ((⟨some 63, .ld false 1 (.t 62), none⟩, none), []),
         ((⟨some 64, .mv (.t 0), none⟩, none), []),
         ((⟨some 65, .nilc (.t 64), none⟩, none), []),
         ((⟨some 66, .fa 0 (.t 65), none⟩, none), []),
         ((⟨some 67, .ld false 1 (.t 66), none⟩, none), []),
         ((⟨some 68, .lenS (.t 67), none⟩, none), []),
         ((⟨some 69, .bin .lss none (.t 63) (.t 68), none⟩, none), []),
         ((⟨some 70, .mv (.t 69), none⟩, none), []),
         ((⟨some 71, .mv (.t 0), some (70, true)⟩, none), []),
         ((⟨some 72, .nilc (.t 71), some (70, true)⟩, none), []),
         ((⟨some 73, .fa 0 (.t 72), some (70, true)⟩, none), []),
         ((⟨some 74, .ld false 1 (.t 73), some (70, true)⟩, none), []),
         ((⟨some 75, .mv (.t 0), some (70, true)⟩, none), []),
         ((⟨some 76, .nilc (.t 75), some (70, true)⟩, none), []),
         ((⟨some 77, .fa 1 (.t 76), some (70, true)⟩, none), []),
         ((⟨some 78, .ld false 1 (.t 77), some (70, true)⟩, none), []),
         ((⟨some 79, .ixS (.t 74) (.t 78), some (70, true)⟩, none), []),
         ((⟨some 80, .call 117 [(.t 79)], some (70, true)⟩, none), []),
         ((⟨some 81, .pick (.t 70) (.t 80) (.c (.bool false)), none⟩, none), []),
         ((⟨some 59, .mv (.t 81), none⟩, none), [])] [0, 2, 3, 59])
       (.cnd (.t 59)
        (.seq
         (.seq
          (.reg [
            ⟨some 82, .mv (.t 0), none⟩,
            ⟨some 83, .call 73 [(.t 82), (.f 117)], none⟩,
            ⟨some 6, .mv (.t 83), none⟩] [0, 2, 3, 6])
          (.seq
           (.reg [
             ⟨some 84, .mv (.t 6), none⟩] [0, 2, 3, 6, 84])
           (.blk 1
            (.seq
             (.reg [
               ⟨some 86, .bin .eql (some .str) (.t 84) (.c (.str [110, 117, 108, 108])), none⟩,
               ⟨some 85, .mv (.t 86), none⟩] [0, 2, 3, 6, 84, 85])
             (.cnd (.t 85)
              (.seq
               (.reg [
                 ⟨some 87, .bld [(.int .i64 0), (.str []), (.sl 1 ⟨none, 0, (some 0), true⟩ []), (.sl 4 ⟨none, 0, (some 0), true⟩ [])] [(0, 1, (.c (.int .i64 1)))], none⟩,
                 ⟨none, .st 4 (.t 2) (.t 87), none⟩] [2])
               .ret)
              (.seq
               (.seq
                (.reg [
                  ⟨some 89, .bin .eql (some .str) (.t 84) (.c (.str [116, 114, 117, 101])), none⟩,
                  ⟨some 88, .mv (.t 89), none⟩] [0, 2, 3, 6, 84, 88])
                (.cnd (.t 88)
                 .skip
                 (.reg [
                   ⟨some 90, .bin .eql (some .str) (.t 84) (.c (.str [102, 97, 108, 115, 101])), none⟩,
                   ⟨some 88, .mv (.t 90), none⟩] [0, 2, 3, 6, 88])))
               (.cnd (.t 88)
                (.seq
                 (.reg [
                   ⟨some 91, .mv (.t 6), none⟩,
                   ⟨some 92, .bld [(.int .i64 0), (.str []), (.sl 1 ⟨none, 0, (some 0), true⟩ []), (.sl 4 ⟨none, 0, (some 0), true⟩ [])] [(0, 1, (.c (.int .i64 2))), (1, 1, (.t 91))], none⟩,
                   ⟨none, .st 4 (.t 2) (.t 92), none⟩] [2])
                 .ret)
                .skip)))))))
         (.reg [
           ⟨some 93, .mv (.t 3), none⟩,
           ⟨some 94, .call 81 [(.t 93), (.c (.int .i64 13))], none⟩] [0, 2]))
        .skip)))))
   (.seq
    (.reg [
      ⟨some 95, .mv (.t 0), none⟩,
      ⟨some 96, .call 36 [(.t 95)], none⟩] [2])
    (.seq
     (.reg [
       ⟨some 97, .bld [(.int .i64 0), (.str []), (.sl 1 ⟨none, 0, (some 0), true⟩ []), (.sl 4 ⟨none, 0, (some 0), true⟩ [])] [], none⟩,
       ⟨none, .st 4 (.t 2) (.t 97), none⟩] [2])
     .ret))))),
[.cell 2 true 4]⟩
theorem F80_ok : prepF Go.Proofs.Tryz.prog ⟨[2], [(0, [0, 2]), (1, [0, 2, 3]), (2, [0, 2, 3, 11]), (3, [2, 3, 4, 5]), (4, [2, 3, 4, 5, 53]), (5, [2, 4]), (6, [2]), (7, [0, 2, 3, 59]), (8, [0, 2, 3, 6]), (9, [0, 2, 3, 6, 84]), (10, [0, 2, 3, 6, 84, 85]), (11, [2]), (12, [0, 2, 3, 6, 84, 88]), (13, [0, 2, 3, 6, 88]), (14, [2]), (15, [0, 2]), (16, [2]), (17, [2])], []⟩ Go.Proofs.Tryz.f80 = some F80 := by kernel_rfl
theorem F80_fn : FnOK2 Go.Proofs.Tryz.prog 80 (.pl F80) := .pl Go.Proofs.Tryz.func80 (by kernel_rfl) F80_ok
/-- emend/tree.Fail -/
def F81 : DF := ⟨2,
(.reg [
  ⟨some 4, .mv (.t 0), none⟩,
  ⟨some 5, .mv (.t 1), none⟩,
  ⟨some 6, .call 70 [(.t 4), (.t 5)], none⟩,
  ⟨some 7, .mki 64 (.t 6), none⟩,
  ⟨none, .pnc (.t 7), none⟩] []),
[]⟩
theorem F81_ok : prepF Go.Proofs.Tryz.prog ⟨[], [(0, [])], []⟩ Go.Proofs.Tryz.f81 = some F81 := by kernel_rfl
theorem F81_fn : FnOK2 Go.Proofs.Tryz.prog 81 (.pl F81) := .pl Go.Proofs.Tryz.func81 (by kernel_rfl) F81_ok
/-- (*emend/tree.writer).tree -/
def F82 : DF := ⟨2,
(.seq
 (.reg [
   ⟨some 3, .bxL (.t 1), none⟩] [0, 3])
 (.seq
  (.reg [
    ⟨some 12, .fa 0 (.t 3), none⟩,
    ⟨some 13, .ld false 1 (.t 12), none⟩] [0, 3, 13])
  (.blk 0
   (.seq
    (.reg [
      ⟨some 15, .bin .eql (some .int) (.t 13) (.c (.int .i64 1)), none⟩,
      ⟨some 14, .mv (.t 15), none⟩] [0, 3, 13, 14])
    (.cnd (.t 14)
     (.reg [
       ⟨some 16, .mv (.t 0), none⟩,
       ⟨some 17, .call 118 [(.t 16), (.c (.str [110, 117, 108, 108]))], none⟩] [])
     (.seq
      (.seq
       (.reg [
         ⟨some 19, .bin .eql (some .int) (.t 13) (.c (.int .i64 2)), none⟩,
         ⟨some 18, .mv (.t 19), none⟩] [0, 3, 13, 18])
       (.cnd (.t 18)
        .skip
        (.reg [
          ⟨some 20, .bin .eql (some .int) (.t 13) (.c (.int .i64 3)), none⟩,
          ⟨some 18, .mv (.t 20), none⟩] [0, 3, 13, 18])))
      (.cnd (.t 18)
       (.reg [
         ⟨some 21, .mv (.t 0), none⟩,
         ⟨some 22, .fa 1 (.t 3), none⟩,
         ⟨some 23, .ld false 1 (.t 22), none⟩,
         ⟨some 24, .call 118 [(.t 21), (.t 23)], none⟩] [])
       (.seq
        (.reg [
          ⟨some 26, .bin .eql (some .int) (.t 13) (.c (.int .i64 4)), none⟩,
          ⟨some 25, .mv (.t 26), none⟩] [0, 3, 13, 25])
        (.cnd (.t 25)
         (.seq
          (.reg [
            ⟨some 28, .fa 1 (.t 3), none⟩,
            ⟨some 29, .ld false 1 (.t 28), none⟩,
            ⟨some 30, .call 119 [(.t 29)], none⟩,
            ⟨some 27, .mv (.t 30), none⟩,
            ⟨some 31, .ext (.t 27) 0, none⟩,
            ⟨some 32, .ext (.t 27) 1, none⟩,
            ⟨some 4, .mv (.t 31), none⟩,
            ⟨some 5, .mv (.t 32), none⟩] [0, 4])
          (.reg [
            ⟨some 33, .mv (.t 0), none⟩,
            ⟨some 34, .mv (.t 4), none⟩,
            ⟨some 35, .call 118 [(.t 33), (.t 34)], none⟩] []))
         (.seq
          (.reg [
            ⟨some 37, .bin .eql (some .int) (.t 13) (.c (.int .i64 5)), none⟩,
            ⟨some 36, .mv (.t 37), none⟩] [0, 3, 13, 36])
          (.cnd (.t 36)
           (.reg [
             ⟨some 38, .mv (.t 0), none⟩,
             ⟨some 39, .fa 1 (.t 3), none⟩,
             ⟨some 40, .ld false 1 (.t 39), none⟩,
             ⟨some 41, .bin .add none (.c (.str [64])) (.t 40), none⟩,
             ⟨some 42, .call 118 [(.t 38), (.t 41)], none⟩] [])
           (.seq
            (.reg [
              ⟨some 44, .bin .eql (some .int) (.t 13) (.c (.int .i64 6)), none⟩,
              ⟨some 43, .mv (.t 44), none⟩] [0, 3, 13, 43])
            (.cnd (.t 43)
             (.seq
              (.reg [
                ⟨some 45, .mv (.t 0), none⟩,
                ⟨some 46, .call 118 [(.t 45), (.c (.str [91]))], none⟩] [0, 3])
              (.seq
               (.seq
                (.reg [
                  ⟨some 47, .fa 3 (.t 3), none⟩,
                  ⟨some 48, .ld false 1 (.t 47), none⟩,
                  ⟨some 49, .len (.t 48), none⟩,
                  ⟨some 50, .mv (.c (.int .i64 0)), none⟩] [0, 48, 49, 50])
                (.blk 1
                 (.seq
                  (.trim [0, 48, 49, 50])
                  (.lop
                   (.seq
                    (.seq
                     (.reg [
                       ⟨some 51, .bin .lss none (.t 50) (.t 49), none⟩] [0, 48, 49, 50, 51])
                     (.seq
                      (.cnd (.t 51)
                       .skip
                       (.exit 1))
                      (.seq
                       (.blk 2
                        (.seq
                         (.reg [
                           ⟨some 52, .mv (.t 50), none⟩,
                           ⟨some 53, .ia 4 (.t 48) (.t 50), none⟩,
                           ⟨some 54, .ld true 4 (.t 53), none⟩,
                           ⟨some 7, .alL [(.int .i64 0), (.str []), (.sl 1 ⟨none, 0, (some 0), true⟩ []), (.sl 4 ⟨none, 0, (some 0), true⟩ [])], none⟩,
                           ⟨some 6, .mv (.t 52), none⟩,
                           ⟨none, .st 4 (.t 7) (.t 54), none⟩] [0, 6, 7, 48, 49, 50])
                         (.seq
                          (.seq
                           (.reg [
                             ⟨some 55, .mv (.t 6), none⟩,
                             ⟨some 56, .bin .gtr none (.t 55) (.c (.int .i64 0)), none⟩] [0, 7, 48, 49, 50, 56])
                           (.cnd (.t 56)
                            (.reg [
                              ⟨some 57, .mv (.t 0), none⟩,
                              ⟨some 58, .call 118 [(.t 57), (.c (.str [44, 32]))], none⟩] [0, 7, 48, 49, 50])
                            .skip))
                          (.reg [
                            ⟨some 59, .mv (.t 0), none⟩,
                            ⟨some 60, .ld true 4 (.t 7), none⟩,
                            ⟨some 61, .call 82 [(.t 59), (.t 60)], none⟩] [0, 48, 49, 50]))))
                       (.reg [
                         ⟨some 62, .bin .add none (.t 50) (.c (.int .i64 1)), none⟩,
                         ⟨some 50, .mv (.t 62), none⟩] [0, 48, 49, 50]))))
                    (.trim [0, 48, 49, 50]))))))
               (.reg [
                 ⟨some 63, .mv (.t 0), none⟩,
                 ⟨some 64, .call 118 [(.t 63), (.c (.str [93]))], none⟩] [])))
             (.seq
              (.reg [
                ⟨some 66, .bin .eql (some .int) (.t 13) (.c (.int .i64 7)), none⟩,
                ⟨some 65, .mv (.t 66), none⟩] [0, 3, 65])
              (.cnd (.t 65)
               (.seq
                (.reg [
                  ⟨some 67, .mv (.t 0), none⟩,
                  ⟨some 68, .call 118 [(.t 67), (.c (.str [123]))], none⟩] [0, 3])
                (.seq
                 (.seq
                  (.reg [
                    ⟨some 69, .fa 2 (.t 3), none⟩,
                    ⟨some 70, .ld false 1 (.t 69), none⟩,
                    ⟨some 71, .call 105 [(.t 70)], none⟩,
                    ⟨some 72, .len (.t 71), none⟩,
                    ⟨some 73, .mv (.c (.int .i64 0)), none⟩] [0, 3, 71, 72, 73])
                  (.blk 3
                   (.seq
                    (.trim [0, 3, 71, 72, 73])
                    (.lop
                     (.seq
                      (.seq
                       (.reg [
                         ⟨some 74, .bin .lss none (.t 73) (.t 72), none⟩] [0, 3, 71, 72, 73, 74])
                       (.seq
                        (.cnd (.t 74)
                         .skip
                         (.exit 3))
                        (.seq
                         (.blk 4
                          (.seq
                           (.reg [
                             ⟨some 75, .mv (.t 73), none⟩,
                             ⟨some 76, .ia 1 (.t 71) (.t 73), none⟩,
                             ⟨some 77, .ld false 1 (.t 76), none⟩,
                             ⟨some 8, .mv (.t 75), none⟩,
                             ⟨some 9, .mv (.t 77), none⟩] [0, 3, 8, 9, 71, 72, 73])
                           (.seq
                            (.seq
                             (.reg [
                               ⟨some 78, .mv (.t 8), none⟩,
                               ⟨some 79, .bin .gtr none (.t 78) (.c (.int .i64 0)), none⟩] [0, 3, 9, 71, 72, 73, 79])
                             (.cnd (.t 79)
                              (.reg [
                                ⟨some 80, .mv (.t 0), none⟩,
                                ⟨some 81, .call 118 [(.t 80), (.c (.str [44, 32]))], none⟩] [0, 3, 9, 71, 72, 73])
                              .skip))
                            (.seq
                             (.reg [
                               ⟨some 83, .fa 2 (.t 3), none⟩,
                               ⟨some 84, .ld false 1 (.t 83), none⟩,
                               ⟨some 85, .mv (.t 9), none⟩,
                               ⟨some 86, .ia 1 (.t 84) (.t 85), none⟩,
                               ⟨some 87, .ld false 1 (.t 86), none⟩,
                               ⟨some 88, .call 119 [(.t 87)], none⟩,
                               ⟨some 82, .mv (.t 88), none⟩,
                               ⟨some 89, .ext (.t 82) 0, none⟩,
                               ⟨some 90, .ext (.t 82) 1, none⟩,
                               ⟨some 10, .mv (.t 89), none⟩,
                               ⟨some 11, .mv (.t 90), none⟩] [0, 3, 9, 10, 71, 72, 73])
                             (.seq
                              (.reg [
                                ⟨some 91, .mv (.t 0), none⟩,
                                ⟨some 92, .mv (.t 10), none⟩,
                                ⟨some 93, .bin .add none (.t 92) (.c (.str [58, 32])), none⟩,
                                ⟨some 94, .call 118 [(.t 91), (.t 93)], none⟩] [0, 3, 9, 71, 72, 73])
                              (.reg [
                                ⟨some 95, .mv (.t 0), none⟩,
                                ⟨some 96, .fa 3 (.t 3), none⟩,
                                ⟨some 97, .ld false 1 (.t 96), none⟩,
                                ⟨some 98, .mv (.t 9), none⟩,
                                ⟨some 99, .ia 4 (.t 97) (.t 98), none⟩,
                                ⟨some 100, .ld true 4 (.t 99), none⟩,
                                ⟨some 101, .call 82 [(.t 95), (.t 100)], none⟩] [0, 3, 71, 72, 73]))))))
                         (.reg [
                           ⟨some 102, .bin .add none (.t 73) (.c (.int .i64 1)), none⟩,
                           ⟨some 73, .mv (.t 102), none⟩] [0, 3, 71, 72, 73]))))
                      (.trim [0, 3, 71, 72, 73]))))))
                 (.reg [
                   ⟨some 103, .mv (.t 0), none⟩,
                   ⟨some 104, .call 118 [(.t 103), (.c (.str [125]))], none⟩] [])))
               .skip))))))))))))))),
[]⟩
theorem F82_ok : prepF Go.Proofs.Tryz.prog ⟨[3, 7], [(0, [0, 3]), (1, [0, 3, 13]), (2, [0, 3, 13, 14]), (3, []), (4, [0, 3, 13, 18]), (5, [0, 3, 13, 18]), (6, []), (7, [0, 3, 13, 25]), (8, [0, 4]), (9, []), (10, [0, 3, 13, 36]), (11, []), (12, [0, 3, 13, 43]), (13, [0, 3]), (14, [0, 48, 49, 50]), (15, [0, 48, 49, 50, 51]), (16, [0, 6, 7, 48, 49, 50]), (17, [0, 7, 48, 49, 50, 56]), (18, [0, 7, 48, 49, 50]), (19, [0, 48, 49, 50]), (20, [0, 48, 49, 50]), (21, []), (22, [0, 3, 65]), (23, [0, 3]), (24, [0, 3, 71, 72, 73]), (25, [0, 3, 71, 72, 73, 74]), (26, [0, 3, 8, 9, 71, 72, 73]), (27, [0, 3, 9, 71, 72, 73, 79]), (28, [0, 3, 9, 71, 72, 73]), (29, [0, 3, 9, 10, 71, 72, 73]), (30, [0, 3, 9, 71, 72, 73]), (31, [0, 3, 71, 72, 73]), (32, [0, 3, 71, 72, 73]), (33, []), (1000001, [0, 48, 49, 50]), (1000003, [0, 3, 71, 72, 73])], []⟩ Go.Proofs.Tryz.f82 = some F82 := by kernel_rfl
theorem F82_fn : FnOK2 Go.Proofs.Tryz.prog 82 (.pl F82) := .pl Go.Proofs.Tryz.func82 (by kernel_rfl) F82_ok
/-- (*strings.Builder).Len -/
def F83 : DF := ⟨1,
(.seq
 (.reg [
   ⟨some 2, .mv (.c (.int .i64 0)), none⟩] [0])
 (.seq
  (.reg [
    ⟨some 3, .mv (.t 0), none⟩,
    ⟨some 4, .nilc (.t 3), none⟩,
    ⟨some 5, .fa 1 (.t 4), none⟩,
    ⟨some 6, .ld false 1 (.t 5), none⟩,
    ⟨some 7, .len (.t 6), none⟩,
    ⟨some 2, .mv (.t 7), none⟩] [2])
  .ret)),
[.tmp 2]⟩
theorem F83_ok : prepF Go.Proofs.Tryz.prog ⟨[], [(0, [0]), (1, [2])], []⟩ Go.Proofs.Tryz.f83 = some F83 := by kernel_rfl
theorem F83_fn : FnOK2 Go.Proofs.Tryz.prog 83 (.pl F83) := .pl Go.Proofs.Tryz.func83 (by kernel_rfl) F83_ok
/-- strconv.Itoa -/
def F89 : DF := ⟨1,
(.seq
 (.reg [
   ⟨some 2, .mv (.c (.str [])), none⟩] [0])
 (.seq
  (.reg [
    ⟨some 3, .mv (.t 0), none⟩,
    ⟨some 4, .call 128 [(.t 3)], none⟩,
    ⟨some 2, .mv (.t 4), none⟩] [2])
  .ret)),
[.tmp 2]⟩
theorem F89_ok : prepF Go.Proofs.Tryz.prog ⟨[], [(0, [0]), (1, [2])], []⟩ Go.Proofs.Tryz.f89 = some F89 := by kernel_rfl
theorem F89_fn : FnOK2 Go.Proofs.Tryz.prog 89 (.pl F89) := .pl Go.Proofs.Tryz.func89 (by kernel_rfl) F89_ok
/-- (emend/api.Errno).Error -/
def F90 : DF := ⟨1,
(.seq
 (.reg [
   ⟨some 2, .mv (.c (.str [])), none⟩] [0])
 (.seq
  (.seq
   (.reg [
     ⟨some 5, .mv (.t 0), none⟩] [0, 5])
   (.blk 0
    (.seq
     (.reg [
       ⟨some 7, .bin .eql (some .int) (.t 5) (.c (.int .i64 0)), none⟩,
       ⟨some 6, .mv (.t 7), none⟩] [0, 5, 6])
     (.cnd (.t 6)
      (.seq
       (.reg [
         ⟨some 2, .mv (.c (.str [110, 111, 32, 101, 114, 114, 111, 114])), none⟩] [2])
       .ret)
      (.seq
       (.reg [
         ⟨some 9, .bin .eql (some .int) (.t 5) (.c (.int .i64 51)), none⟩,
         ⟨some 8, .mv (.t 9), none⟩] [0, 5, 8])
       (.cnd (.t 8)
        (.seq
         (.reg [
           ⟨some 2, .mv (.c (.str [116, 104, 101, 32, 118, 105, 101, 119, 32, 105, 115, 32, 110, 111, 116, 32, 111, 102, 32, 116, 104, 101, 32, 108, 101, 110, 115, 39, 115, 32, 118, 105, 101, 119, 32, 116, 121, 112, 101])), none⟩] [2])
         .ret)
        (.seq
         (.reg [
           ⟨some 11, .bin .eql (some .int) (.t 5) (.c (.int .i64 50)), none⟩,
           ⟨some 10, .mv (.t 11), none⟩] [0, 10])
         (.cnd (.t 10)
          (.seq
           (.reg [
             ⟨some 2, .mv (.c (.str [116, 104, 101, 32, 102, 105, 108, 101, 32, 105, 115, 32, 110, 111, 116, 32, 111, 102, 32, 116, 104, 101, 32, 108, 101, 110, 115, 39, 115, 32, 115, 111, 117, 114, 99, 101, 32, 116, 121, 112, 101])), none⟩] [2])
           .ret)
          .skip))))))))
  (.seq
   (.reg [
     ⟨some 12, .mv (.t 0), none⟩,
     ⟨some 3, .mv (.t 12), none⟩] [3])
   (.seq
    (.seq
     (.reg [
       ⟨some 13, .mv (.t 3), none⟩,
       ⟨some 14, .bin .lss none (.t 13) (.c (.int .i64 0)), none⟩] [3, 14])
     (.cnd (.t 14)
      (.seq
       (.reg [
         ⟨some 2, .mv (.c (.str [97, 32, 114, 101, 102, 117, 115, 97, 108, 32, 119, 105, 116, 104, 111, 117, 116, 32, 97, 32, 110, 117, 109, 98, 101, 114])), none⟩] [2])
       .ret)
      .skip))
    (.seq
     (.reg [
       ⟨some 4, .mv (.c (.sl 1 ⟨none, 0, (some 0), true⟩ [])), none⟩] [3, 4])
     (.seq
      (.blk 1
       (.seq
        (.trim [3, 4])
        (.lop
         (.seq
          (.seq
           (.seq
            (.reg [
              ⟨some 15, .mv (.t 3), none⟩,
              ⟨some 16, .bin .gtr none (.t 15) (.c (.int .i64 0)), none⟩,
              ⟨some 17, .mv (.t 16), none⟩,
              ⟨some 18, .mv (.t 4), some (17, false)⟩,
              ⟨some 19, .len (.t 18), some (17, false)⟩,
              ⟨some 20, .bin .eql (some .int) (.t 19) (.c (.int .i64 0)), some (17, false)⟩,
              ⟨some 21, .pick (.t 17) (.c (.bool true)) (.t 20), none⟩] [3, 4, 21])
            (.cnd (.t 21)
             .skip
             (.exit 1)))
           (.blk 2
            (.seq
             (.reg [
               ⟨some 22, .mv (.t 3), none⟩,
               ⟨some 23, .bin .rem none (.t 22) (.c (.int .i64 10)), none⟩,
               ⟨some 24, .bin .add none (.c (.int .i64 48)) (.t 23), none⟩,
               ⟨some 25, .cvI .u8 (.t 24), none⟩,
               ⟨some 26, .bldT 5 1 1 (.int .u8 0) [(0, (.t 25))], none⟩,
               ⟨some 27, .mv (.t 4), none⟩,
               ⟨some 28, .app false 5 1 1 (.t 26) (.t 27), none⟩,
               ⟨some 4, .mv (.t 28), none⟩] [3, 4])
             (.reg [
               ⟨some 29, .mv (.t 3), none⟩,
               ⟨some 30, .bin .quo none (.t 29) (.c (.int .i64 10)), none⟩,
               ⟨some 3, .mv (.t 30), none⟩] [3, 4]))))
          (.trim [3, 4])))))
      (.seq
       (.reg [
         ⟨some 31, .mv (.t 4), none⟩,
         ⟨some 32, .cvBS (.t 31), none⟩,
         ⟨some 33, .bin .add none (.c (.str [114, 101, 102, 117, 115, 97, 108, 32])) (.t 32), none⟩,
         ⟨some 2, .mv (.t 33), none⟩] [2])
       .ret))))))),
[.tmp 2]⟩
theorem F90_ok : prepF Go.Proofs.Tryz.prog ⟨[], [(0, [0]), (1, [0, 5]), (2, [0, 5, 6]), (3, [2]), (4, [0, 5, 8]), (5, [2]), (6, [0, 10]), (7, [2]), (8, [3]), (9, [3, 14]), (10, [2]), (11, [3, 4]), (12, [3, 4, 21]), (13, [3, 4]), (14, [3, 4]), (15, [2]), (1000001, [3, 4])], []⟩ Go.Proofs.Tryz.f90 = some F90 := by kernel_rfl
theorem F90_fn : FnOK2 Go.Proofs.Tryz.prog 90 (.pl F90) := .pl Go.Proofs.Tryz.func90 (by kernel_rfl) F90_ok
/-- emend/cst.leaf -/
def F96 : DF := ⟨1,
(.seq
 (.reg [
   ⟨some 1, .bxL (.t 0), none⟩,
   ⟨some 2, .mv (.c (.bool false)), none⟩] [1])
 (.seq
  (.reg [
    ⟨some 3, .fa 0 (.t 1), none⟩,
    ⟨some 4, .ld false 1 (.t 3), none⟩,
    ⟨some 5, .call 134 [(.t 4)], none⟩,
    ⟨some 2, .mv (.t 5), none⟩] [2])
  .ret)),
[.tmp 2]⟩
theorem F96_ok : prepF Go.Proofs.Tryz.prog ⟨[1], [(0, [1]), (1, [2])], []⟩ Go.Proofs.Tryz.f96 = some F96 := by kernel_rfl
theorem F96_fn : FnOK2 Go.Proofs.Tryz.prog 96 (.pl F96) := .pl Go.Proofs.Tryz.func96 (by kernel_rfl) F96_ok
/-- emend/tree.Copy -/
def F97 : DF := ⟨1,
(.seq
 (.reg [
   ⟨some 1, .bxL (.t 0), none⟩,
   ⟨some 2, .alL [(.int .i64 0), (.str []), (.sl 1 ⟨none, 0, (some 0), true⟩ []), (.sl 4 ⟨none, 0, (some 0), true⟩ [])], none⟩] [1, 2])
 (.seq
  (.reg [
    ⟨some 6, .fa 0 (.t 1), none⟩,
    ⟨some 7, .ld false 1 (.t 6), none⟩,
    ⟨some 8, .fa 1 (.t 1), none⟩,
    ⟨some 9, .ld false 1 (.t 8), none⟩,
    ⟨some 10, .bld [(.int .i64 0), (.str []), (.sl 1 ⟨none, 0, (some 0), true⟩ []), (.sl 4 ⟨none, 0, (some 0), true⟩ [])] [(0, 1, (.t 7)), (1, 1, (.t 9))], none⟩,
    ⟨some 3, .alL [(.int .i64 0), (.str []), (.sl 1 ⟨none, 0, (some 0), true⟩ []), (.sl 4 ⟨none, 0, (some 0), true⟩ [])], none⟩,
    ⟨none, .st 4 (.t 3) (.t 10), none⟩] [1, 2, 3])
  (.seq
   (.reg [
     ⟨some 11, .fa 2 (.t 3), none⟩,
     ⟨some 12, .ld false 1 (.t 11), none⟩,
     ⟨some 13, .fa 2 (.t 1), none⟩,
     ⟨some 14, .ld false 1 (.t 13), none⟩,
     ⟨some 15, .app false 9 1 16 (.t 12) (.t 14), none⟩,
     ⟨some 16, .fa 2 (.t 3), none⟩,
     ⟨none, .st 1 (.t 16) (.t 15), none⟩] [1, 2, 3])
   (.seq
    (.seq
     (.reg [
       ⟨some 17, .fa 3 (.t 1), none⟩,
       ⟨some 18, .ld false 1 (.t 17), none⟩,
       ⟨some 19, .len (.t 18), none⟩,
       ⟨some 20, .mv (.c (.int .i64 0)), none⟩] [2, 3, 18, 19, 20])
     (.blk 0
      (.seq
       (.trim [2, 3, 18, 19, 20])
       (.lop
        (.seq
         (.seq
          (.reg [
            ⟨some 21, .bin .lss none (.t 20) (.t 19), none⟩] [2, 3, 18, 19, 20, 21])
          (.seq
           (.cnd (.t 21)
            .skip
            (.exit 0))
           (.seq
            (.blk 1
             (.seq
              (.reg [
                ⟨some 22, .ia 4 (.t 18) (.t 20), none⟩,
                ⟨some 23, .ld true 4 (.t 22), none⟩,
                ⟨some 5, .alL [(.int .i64 0), (.str []), (.sl 1 ⟨none, 0, (some 0), true⟩ []), (.sl 4 ⟨none, 0, (some 0), true⟩ [])], none⟩,
                ⟨none, .st 4 (.t 5) (.t 23), none⟩] [2, 3, 5, 18, 19, 20])
              (.drw [
                ((⟨some 24, .fa 3 (.t 3), none⟩, (some 3)), []),
                ((⟨some 25, .ld false 1 (.t 24), none⟩, (some 3)), []),
                ((⟨some 26, .ld true 4 (.t 5), none⟩, (some 5)), []),
                ((⟨some 27, .call 97 [(.t 26)], none⟩, none), []),
                ((⟨some 28, .bldS 4 1 (.agg [(.int .i64 0), (.str []), (.sl 1 ⟨none, 0, (some 0), true⟩ []), (.sl 4 ⟨none, 0, (some 0), true⟩ [])]) [(0, (.t 27))], none⟩, none), []),
                ((⟨some 29, .app true 25 4 72 (.t 25) (.t 28), none⟩, none), []),
                ((⟨some 30, .fa 3 (.t 3), none⟩, (some 3)), []),
                ((⟨none, .st 1 (.t 30) (.t 29), none⟩, (some 3)), [])] [2, 3, 18, 19, 20])))
            (.reg [
              ⟨some 31, .bin .add none (.t 20) (.c (.int .i64 1)), none⟩,
              ⟨some 20, .mv (.t 31), none⟩] [2, 3, 18, 19, 20]))))
         (.trim [2, 3, 18, 19, 20]))))))
    (.seq
     (.reg [
       ⟨some 32, .ld true 4 (.t 3), none⟩,
       ⟨none, .st 4 (.t 2) (.t 32), none⟩] [2])
     .ret))))),
[.cell 2 true 4]⟩
theorem F97_ok : prepF Go.Proofs.Tryz.prog ⟨[1, 2, 3, 5], [(0, [1, 2]), (1, [1, 2, 3]), (2, [1, 2, 3]), (3, [2, 3, 18, 19, 20]), (4, [2, 3, 18, 19, 20, 21]), (5, [2, 3, 5, 18, 19, 20]), (6, [2, 3, 18, 19, 20]), (7, [2, 3, 18, 19, 20]), (8, [2]), (1000000, [2, 3, 18, 19, 20])], [(6, [(some 3), (some 3), (some 5), none, none, none, (some 3), (some 3)])]⟩ Go.Proofs.Tryz.f97 = some F97 := by kernel_rfl
theorem F97_fn : FnOK2 Go.Proofs.Tryz.prog 97 (.pl F97) := .pl Go.Proofs.Tryz.func97 (by kernel_rfl) F97_ok
/-- (*strings.Builder).copyCheck -/
def F98 : DF := ⟨1,
(.seq
 (.reg [
   ⟨some 2, .mv (.t 0), none⟩,
   ⟨some 3, .nilc (.t 2), none⟩,
   ⟨some 4, .fa 0 (.t 3), none⟩,
   ⟨some 5, .ld false 1 (.t 4), none⟩,
   ⟨some 6, .bin .eql (some .ptr) (.t 5) (.c .nilp), none⟩] [0, 6])
 (.cnd (.t 6)
  (.reg [
    ⟨some 7, .mv (.t 0), none⟩,
    ⟨some 8, .mv (.t 0), none⟩,
    ⟨some 9, .cvU (.t 8), none⟩,
    ⟨some 10, .xtn .noEscape [(.t 9)], none⟩,
    ⟨some 11, .cvP [(99, (0, 2)), (100, (0, 2)), (131, (0, 2)), (132, (0, 2))] (.t 10), none⟩,
    ⟨some 12, .nilc (.t 7), none⟩,
    ⟨some 13, .fa 0 (.t 12), none⟩,
    ⟨none, .st 1 (.t 13) (.t 11), none⟩] [])
  (.seq
   (.reg [
     ⟨some 14, .mv (.t 0), none⟩,
     ⟨some 15, .nilc (.t 14), none⟩,
     ⟨some 16, .fa 0 (.t 15), none⟩,
     ⟨some 17, .ld false 1 (.t 16), none⟩,
     ⟨some 18, .mv (.t 0), none⟩,
     ⟨some 19, .bin .neq (some .ptr) (.t 17) (.t 18), none⟩] [19])
   (.cnd (.t 19)
    .fail
    .skip)))),
[]⟩
theorem F98_ok : prepF Go.Proofs.Tryz.prog ⟨[], [(0, [0, 6]), (1, []), (2, [19])], []⟩ Go.Proofs.Tryz.f98 = some F98 := by kernel_rfl
theorem F98_fn : FnOK2 Go.Proofs.Tryz.prog 98 (.pl F98) := .pl Go.Proofs.Tryz.func98 (by kernel_rfl) F98_ok
/-- emend/text.Valid -/
def F99 : DF := ⟨1,
(.seq
 (.reg [
   ⟨some 2, .mv (.c (.bool false)), none⟩] [0])
 (.seq
  (.reg [
    ⟨some 3, .mv (.t 0), none⟩,
    ⟨some 4, .call 71 [(.t 3)], none⟩,
    ⟨some 5, .bin .lss none (.t 4) (.c (.int .i64 0)), none⟩,
    ⟨some 2, .mv (.t 5), none⟩] [2])
  .ret)),
[.tmp 2]⟩
theorem F99_ok : prepF Go.Proofs.Tryz.prog ⟨[], [(0, [0]), (1, [2])], []⟩ Go.Proofs.Tryz.f99 = some F99 := by kernel_rfl
theorem F99_fn : FnOK2 Go.Proofs.Tryz.prog 99 (.pl F99) := .pl Go.Proofs.Tryz.func99 (by kernel_rfl) F99_ok
/-- emend/num.Normal -/
def F100 : DF := ⟨1,
(.seq
 (.reg [
   ⟨some 2, .mv (.c (.str [])), none⟩,
   ⟨some 3, .mv (.c (.int .i64 0)), none⟩] [0])
 (.seq
  (.reg [
    ⟨some 7, .mv (.t 0), none⟩,
    ⟨some 8, .call 136 [(.t 7)], none⟩,
    ⟨some 6, .mv (.t 8), none⟩,
    ⟨some 9, .ext (.t 6) 0, none⟩,
    ⟨some 10, .ext (.t 6) 1, none⟩,
    ⟨some 4, .alL [(.bool false), (.str []), (.int .i64 0)], none⟩,
    ⟨none, .st 3 (.t 4) (.t 9), none⟩,
    ⟨some 5, .mv (.t 10), none⟩] [4, 5])
  (.seq
   (.seq
    (.reg [
      ⟨some 11, .mv (.t 5), none⟩,
      ⟨some 12, .bin .neq (some .int) (.t 11) (.c (.int .i64 0)), none⟩] [4, 5, 12])
    (.cnd (.t 12)
     (.seq
      (.reg [
        ⟨some 13, .mv (.t 5), none⟩,
        ⟨some 2, .mv (.c (.str [])), none⟩,
        ⟨some 3, .mv (.t 13), none⟩] [2, 3])
      .ret)
     .skip))
   (.seq
    (.reg [
      ⟨some 14, .ld true 3 (.t 4), none⟩,
      ⟨some 15, .call 137 [(.t 14)], none⟩,
      ⟨some 16, .ext (.t 15) 0, none⟩,
      ⟨some 17, .ext (.t 15) 1, none⟩,
      ⟨some 2, .mv (.t 16), none⟩,
      ⟨some 3, .mv (.t 17), none⟩] [2, 3])
    .ret)))),
[.tmp 2, .tmp 3]⟩
theorem F100_ok : prepF Go.Proofs.Tryz.prog ⟨[4], [(0, [0]), (1, [4, 5]), (2, [4, 5, 12]), (3, [2, 3]), (4, [2, 3])], []⟩ Go.Proofs.Tryz.f100 = some F100 := by kernel_rfl
theorem F100_fn : FnOK2 Go.Proofs.Tryz.prog 100 (.pl F100) := .pl Go.Proofs.Tryz.func100 (by kernel_rfl) F100_ok
/-- emend/tree.Time -/
def F101 : DF := ⟨1,
(.seq
 (.reg [
   ⟨some 2, .mv (.c (.bool false)), none⟩] [0])
 (.seq
  (.seq
   (.reg [
     ⟨some 6, .mv (.t 0), none⟩,
     ⟨some 7, .call 138 [(.t 6)], none⟩,
     ⟨some 8, .mv (.t 7), none⟩,
     ⟨some 9, .mv (.t 0), some (8, false)⟩,
     ⟨some 10, .call 139 [(.t 9)], some (8, false)⟩,
     ⟨some 11, .pick (.t 8) (.c (.bool true)) (.t 10), none⟩] [0, 11])
   (.cnd (.t 11)
    (.seq
     (.reg [
       ⟨some 2, .mv (.c (.bool true)), none⟩] [2])
     .ret)
    .skip))
  (.seq
   (.reg [
     ⟨some 13, .mv (.t 0), none⟩,
     ⟨some 14, .call 140 [(.t 13)], none⟩,
     ⟨some 12, .mv (.t 14), none⟩,
     ⟨some 15, .ext (.t 12) 0, none⟩,
     ⟨some 16, .ext (.t 12) 1, none⟩,
     ⟨some 0, .mv (.t 15), none⟩] [0])
   (.seq
    (.reg [
      ⟨some 18, .mv (.t 0), none⟩,
      ⟨some 19, .call 141 [(.t 18), (.c (.str [84]))], none⟩,
      ⟨some 17, .mv (.t 19), none⟩,
      ⟨some 20, .ext (.t 17) 0, none⟩,
      ⟨some 21, .ext (.t 17) 1, none⟩,
      ⟨some 22, .ext (.t 17) 2, none⟩,
      ⟨some 3, .mv (.t 20), none⟩,
      ⟨some 4, .mv (.t 21), none⟩,
      ⟨some 5, .mv (.t 22), none⟩] [3, 4, 5])
    (.seq
     (.reg [
       ⟨some 23, .mv (.t 5), none⟩,
       ⟨some 24, .mv (.t 23), none⟩,
       ⟨some 25, .mv (.t 3), some (24, true)⟩,
       ⟨some 26, .call 138 [(.t 25)], some (24, true)⟩,
       ⟨some 27, .pick (.t 24) (.t 26) (.c (.bool false)), none⟩,
       ⟨some 28, .mv (.t 27), none⟩,
       ⟨some 29, .mv (.t 4), some (28, true)⟩,
       ⟨some 30, .call 139 [(.t 29)], some (28, true)⟩,
       ⟨some 31, .pick (.t 28) (.t 30) (.c (.bool false)), none⟩,
       ⟨some 2, .mv (.t 31), none⟩] [2])
     .ret))))),
[.tmp 2]⟩
theorem F101_ok : prepF Go.Proofs.Tryz.prog ⟨[], [(0, [0]), (1, [0, 11]), (2, [2]), (3, [0]), (4, [3, 4, 5]), (5, [2])], []⟩ Go.Proofs.Tryz.f101 = some F101 := by kernel_rfl
theorem F101_fn : FnOK2 Go.Proofs.Tryz.prog 101 (.pl F101) := .pl Go.Proofs.Tryz.func101 (by kernel_rfl) F101_ok
/-- emend/tree.unlike -/
def F102 : DF := ⟨1,
(.seq
 (.reg [
   ⟨some 2, .mv (.c (.bool false)), none⟩] [0])
 (.seq
  (.reg [
    ⟨some 6, .mkm, none⟩,
    ⟨some 3, .mv (.t 6), none⟩] [0, 3])
  (.seq
   (.seq
    (.reg [
      ⟨some 7, .mv (.t 0), none⟩,
      ⟨some 8, .len (.t 7), none⟩,
      ⟨some 9, .mv (.c (.int .i64 0)), none⟩] [3, 7, 8, 9])
    (.blk 0
     (.seq
      (.trim [3, 7, 8, 9])
      (.lop
       (.seq
        (.seq
         (.reg [
           ⟨some 10, .bin .lss none (.t 9) (.t 8), none⟩] [3, 7, 8, 9, 10])
         (.seq
          (.cnd (.t 10)
           .skip
           (.exit 0))
          (.seq
           (.blk 1
            (.seq
             (.reg [
               ⟨some 11, .ia 1 (.t 7) (.t 9), none⟩,
               ⟨some 12, .ld false 1 (.t 11), none⟩,
               ⟨some 5, .mv (.t 12), none⟩] [3, 5, 7, 8, 9])
             (.seq
              (.reg [
                ⟨some 13, .mv (.t 3), none⟩,
                ⟨some 14, .mv (.t 5), none⟩,
                ⟨some 15, .lkp .str (.int .i64 0) (.t 13) (.t 14) false, none⟩,
                ⟨some 16, .bin .add none (.t 15) (.c (.int .i64 1)), none⟩,
                ⟨none, .mup .str (.t 13) (.t 14) (.t 16), none⟩] [3, 5, 7, 8, 9])
              (.seq
               (.reg [
                 ⟨some 17, .mv (.t 3), none⟩,
                 ⟨some 18, .mv (.t 5), none⟩,
                 ⟨some 19, .lkp .str (.int .i64 0) (.t 17) (.t 18) false, none⟩,
                 ⟨some 20, .bin .gtr none (.t 19) (.c (.int .i64 1)), none⟩,
                 ⟨some 21, .mv (.t 20), none⟩,
                 ⟨some 22, .mv (.t 5), some (21, false)⟩,
                 ⟨some 23, .call 99 [(.t 22)], some (21, false)⟩,
                 ⟨some 24, .un .not (.t 23), some (21, false)⟩,
                 ⟨some 25, .pick (.t 21) (.c (.bool true)) (.t 24), none⟩] [3, 7, 8, 9, 25])
               (.cnd (.t 25)
                (.seq
                 (.reg [
                   ⟨some 2, .mv (.c (.bool false)), none⟩] [2])
                 .ret)
                .skip)))))
           (.reg [
             ⟨some 26, .bin .add none (.t 9) (.c (.int .i64 1)), none⟩,
             ⟨some 9, .mv (.t 26), none⟩] [3, 7, 8, 9]))))
        (.trim [3, 7, 8, 9]))))))
   (.seq
    (.reg [
      ⟨some 2, .mv (.c (.bool true)), none⟩] [2])
    .ret)))),
[.tmp 2]⟩
theorem F102_ok : prepF Go.Proofs.Tryz.prog ⟨[], [(0, [0]), (1, [0, 3]), (2, [3, 7, 8, 9]), (3, [3, 7, 8, 9, 10]), (4, [3, 5, 7, 8, 9]), (5, [3, 5, 7, 8, 9]), (6, [3, 7, 8, 9, 25]), (7, [2]), (8, [3, 7, 8, 9]), (9, [2]), (1000000, [3, 7, 8, 9])], []⟩ Go.Proofs.Tryz.f102 = some F102 := by kernel_rfl
theorem F102_fn : FnOK2 Go.Proofs.Tryz.prog 102 (.pl F102) := .pl Go.Proofs.Tryz.func102 (by kernel_rfl) F102_ok
/-- slices.Equal[[]string,string] -/
def F103 : DF := ⟨2,
(.seq
 (.reg [
   ⟨some 4, .mv (.c (.bool false)), none⟩] [0, 1])
 (.seq
  (.seq
   (.reg [
     ⟨some 6, .mv (.t 0), none⟩,
     ⟨some 7, .len (.t 6), none⟩,
     ⟨some 8, .mv (.t 1), none⟩,
     ⟨some 9, .len (.t 8), none⟩,
     ⟨some 10, .bin .neq (some .int) (.t 7) (.t 9), none⟩] [0, 1, 10])
   (.cnd (.t 10)
    (.seq
     (.reg [
       ⟨some 4, .mv (.c (.bool false)), none⟩] [4])
     .ret)
    .skip))
  (.seq
   (.seq
    (.reg [
      ⟨some 11, .mv (.t 0), none⟩,
      ⟨some 12, .len (.t 11), none⟩,
      ⟨some 13, .mv (.c (.int .i64 0)), none⟩] [0, 1, 12, 13])
    (.blk 0
     (.seq
      (.trim [0, 1, 12, 13])
      (.lop
       (.seq
        (.seq
         (.reg [
           ⟨some 14, .bin .lss none (.t 13) (.t 12), none⟩] [0, 1, 12, 13, 14])
         (.seq
          (.cnd (.t 14)
           .skip
           (.exit 0))
          (.seq
           (.blk 1
            (.seq
             (.reg [
               ⟨some 15, .mv (.t 13), none⟩,
               ⟨some 5, .mv (.t 15), none⟩] [0, 1, 5, 12, 13])
             (.seq
              (.drw [
                ((⟨some 16, .mv (.t 0), none⟩, none), []),
                ((⟨some 17, .mv (.t 5), none⟩, none), []),
                ((⟨some 18, .ia 1 (.t 16) (.t 17), none⟩, none), []),
                ((⟨some 19, .ld false 1 (.t 18), none⟩, none), []),
                ((⟨some 20, .mv (.t 1), none⟩, none), []),
                ((⟨some 21, .mv (.t 5), none⟩, none), []),
                ((⟨some 22, .ia 1 (.t 20) (.t 21), none⟩, none), []),
                ((⟨some 23, .ld false 1 (.t 22), none⟩, none), []),
                ((⟨some 24, .bin .neq (some .str) (.t 19) (.t 23), none⟩, none), [])] [0, 1, 12, 13, 24])
              (.cnd (.t 24)
               (.seq
                (.reg [
                  ⟨some 4, .mv (.c (.bool false)), none⟩] [4])
                .ret)
               .skip))))
           (.reg [
             ⟨some 25, .bin .add none (.t 13) (.c (.int .i64 1)), none⟩,
             ⟨some 13, .mv (.t 25), none⟩] [0, 1, 12, 13]))))
        (.trim [0, 1, 12, 13]))))))
   (.seq
    (.reg [
      ⟨some 4, .mv (.c (.bool true)), none⟩] [4])
    .ret)))),
[.tmp 4]⟩
theorem F103_ok : prepF Go.Proofs.Tryz.prog ⟨[], [(0, [0, 1]), (1, [0, 1, 10]), (2, [4]), (3, [0, 1, 12, 13]), (4, [0, 1, 12, 13, 14]), (5, [0, 1, 5, 12, 13]), (6, [0, 1, 12, 13, 24]), (7, [4]), (8, [0, 1, 12, 13]), (9, [4]), (1000000, [0, 1, 12, 13])], []⟩ Go.Proofs.Tryz.f103 = some F103 := by kernel_rfl
theorem F103_fn : FnOK2 Go.Proofs.Tryz.prog 103 (.pl F103) := .pl Go.Proofs.Tryz.func103 (by kernel_rfl) F103_ok
/-- slices.EqualFunc[[]emend/api.Tree,[]emend/api.Tree,emend/api.Tree,emend/api.Tree] -/
def F104 : DF := ⟨3,
(.seq
 (.reg [
   ⟨some 6, .mv (.c (.bool false)), none⟩] [0, 1, 2])
 (.seq
  (.seq
   (.reg [
     ⟨some 10, .mv (.t 0), none⟩,
     ⟨some 11, .len (.t 10), none⟩,
     ⟨some 12, .mv (.t 1), none⟩,
     ⟨some 13, .len (.t 12), none⟩,
     ⟨some 14, .bin .neq (some .int) (.t 11) (.t 13), none⟩] [0, 1, 2, 14])
   (.cnd (.t 14)
    (.seq
     (.reg [
       ⟨some 6, .mv (.c (.bool false)), none⟩] [6])
     .ret)
    .skip))
  (.seq
   (.seq
    (.reg [
      ⟨some 15, .mv (.t 0), none⟩,
      ⟨some 16, .len (.t 15), none⟩,
      ⟨some 17, .mv (.c (.int .i64 0)), none⟩] [1, 2, 15, 16, 17])
    (.blk 0
     (.seq
      (.trim [1, 2, 15, 16, 17])
      (.lop
       (.seq
        (.seq
         (.reg [
           ⟨some 18, .bin .lss none (.t 17) (.t 16), none⟩] [1, 2, 15, 16, 17, 18])
         (.seq
          (.cnd (.t 18)
           .skip
           (.exit 0))
          (.seq
           (.blk 1
            (.seq
             (.reg [
               ⟨some 19, .mv (.t 17), none⟩,
               ⟨some 20, .ia 4 (.t 15) (.t 17), none⟩,
               ⟨some 21, .ld true 4 (.t 20), none⟩,
               ⟨some 8, .alL [(.int .i64 0), (.str []), (.sl 1 ⟨none, 0, (some 0), true⟩ []), (.sl 4 ⟨none, 0, (some 0), true⟩ [])], none⟩,
               ⟨some 7, .mv (.t 19), none⟩,
               ⟨none, .st 4 (.t 8) (.t 21), none⟩] [1, 2, 7, 8, 15, 16, 17])
             (.seq
              (.reg [
                ⟨some 22, .mv (.t 1), none⟩,
                ⟨some 23, .mv (.t 7), none⟩,
                ⟨some 24, .ia 4 (.t 22) (.t 23), none⟩,
                ⟨some 25, .ld true 4 (.t 24), none⟩,
                ⟨some 9, .alL [(.int .i64 0), (.str []), (.sl 1 ⟨none, 0, (some 0), true⟩ []), (.sl 4 ⟨none, 0, (some 0), true⟩ [])], none⟩,
                ⟨none, .st 4 (.t 9) (.t 25), none⟩] [1, 2, 8, 9, 15, 16, 17])
              (.seq
               (.reg [
                 ⟨some 26, .mv (.t 2), none⟩,
                 ⟨some 27, .ld true 4 (.t 8), none⟩,
                 ⟨some 28, .ld true 4 (.t 9), none⟩,
                 ⟨some 29, .callv (.t 26) [(.t 27), (.t 28)], none⟩,
                 ⟨some 30, .un .not (.t 29), none⟩] [1, 2, 15, 16, 17, 30])
               (.cnd (.t 30)
                (.seq
                 (.reg [
                   ⟨some 6, .mv (.c (.bool false)), none⟩] [6])
                 .ret)
                .skip)))))
           (.reg [
             ⟨some 31, .bin .add none (.t 17) (.c (.int .i64 1)), none⟩,
             ⟨some 17, .mv (.t 31), none⟩] [1, 2, 15, 16, 17]))))
        (.trim [1, 2, 15, 16, 17]))))))
   (.seq
    (.reg [
      ⟨some 6, .mv (.c (.bool true)), none⟩] [6])
    .ret)))),
[.tmp 6]⟩
theorem F104_ok : prepF Go.Proofs.Tryz.prog ⟨[8, 9], [(0, [0, 1, 2]), (1, [0, 1, 2, 14]), (2, [6]), (3, [1, 2, 15, 16, 17]), (4, [1, 2, 15, 16, 17, 18]), (5, [1, 2, 7, 8, 15, 16, 17]), (6, [1, 2, 8, 9, 15, 16, 17]), (7, [1, 2, 15, 16, 17, 30]), (8, [6]), (9, [1, 2, 15, 16, 17]), (10, [6]), (1000000, [1, 2, 15, 16, 17])], []⟩ Go.Proofs.Tryz.f104 = some F104 := by kernel_rfl
theorem F104_fn : FnOK2 Go.Proofs.Tryz.prog 104 (.pl F104) := .pl Go.Proofs.Tryz.func104 (by kernel_rfl) F104_ok
/-- emend/tree.order -/
def F105 : DF := ⟨1,
(.seq
 (.reg [
   ⟨some 1, .bxH 22 (.t 0), none⟩,
   ⟨some 2, .mv (.c (.sl 1 ⟨none, 0, (some 0), true⟩ [])), none⟩] [1])
 (.seq
  (.reg [
    ⟨some 5, .ld false 1 (.t 1), none⟩,
    ⟨some 6, .len (.t 5), none⟩,
    ⟨some 7, .mks 3 1 8 (.int .i64 0) (.t 6) (.t 6), none⟩,
    ⟨some 3, .mv (.t 7), none⟩] [1, 3])
  (.seq
   (.seq
    (.reg [
      ⟨some 8, .mv (.t 3), none⟩,
      ⟨some 9, .len (.t 8), none⟩,
      ⟨some 10, .mv (.c (.int .i64 0)), none⟩] [1, 3, 9, 10])
    (.blk 0
     (.seq
      (.trim [1, 3, 9, 10])
      (.lop
       (.seq
        (.seq
         (.reg [
           ⟨some 11, .bin .lss none (.t 10) (.t 9), none⟩] [1, 3, 9, 10, 11])
         (.seq
          (.cnd (.t 11)
           .skip
           (.exit 0))
          (.seq
           (.blk 1
            (.seq
             (.reg [
               ⟨some 12, .mv (.t 10), none⟩,
               ⟨some 4, .mv (.t 12), none⟩] [1, 3, 4, 9, 10])
             (.reg [
               ⟨some 13, .mv (.t 3), none⟩,
               ⟨some 14, .mv (.t 4), none⟩,
               ⟨some 15, .mv (.t 4), none⟩,
               ⟨some 16, .ia 1 (.t 13) (.t 14), none⟩,
               ⟨none, .st 1 (.t 16) (.t 15), none⟩] [1, 3, 9, 10])))
           (.reg [
             ⟨some 17, .bin .add none (.t 10) (.c (.int .i64 1)), none⟩,
             ⟨some 10, .mv (.t 17), none⟩] [1, 3, 9, 10]))))
        (.trim [1, 3, 9, 10]))))))
   (.seq
    (.reg [
      ⟨some 18, .mv (.t 3), none⟩,
      ⟨some 19, .mkf 143 [] [(.t 1)], none⟩,
      ⟨some 20, .call 142 [(.t 18), (.t 19)], none⟩] [3])
    (.seq
     (.reg [
       ⟨some 21, .mv (.t 3), none⟩,
       ⟨some 2, .mv (.t 21), none⟩] [2])
     .ret))))),
[.tmp 2]⟩
theorem F105_ok : prepF Go.Proofs.Tryz.prog ⟨[], [(0, [1]), (1, [1, 3]), (2, [1, 3, 9, 10]), (3, [1, 3, 9, 10, 11]), (4, [1, 3, 4, 9, 10]), (5, [1, 3, 9, 10]), (6, [1, 3, 9, 10]), (7, [3]), (8, [2]), (1000000, [1, 3, 9, 10])], []⟩ Go.Proofs.Tryz.f105 = some F105 := by kernel_rfl
theorem F105_fn : FnOK2 Go.Proofs.Tryz.prog 105 (.pl F105) := .pl Go.Proofs.Tryz.func105 (by kernel_rfl) F105_ok
/-- (emend/tree.parser).list -/
def F106 : DF := ⟨2,
(.seq
 (.reg [
   ⟨some 2, .bxL (.t 0), none⟩,
   ⟨some 4, .alL [(.int .i64 0), (.str []), (.sl 1 ⟨none, 0, (some 0), true⟩ []), (.sl 4 ⟨none, 0, (some 0), true⟩ [])], none⟩] [1, 2, 4])
 (.seq
  (.reg [
    ⟨some 6, .bld [(.int .i64 0), (.str []), (.sl 1 ⟨none, 0, (some 0), true⟩ []), (.sl 4 ⟨none, 0, (some 0), true⟩ [])] [(0, 1, (.c (.int .i64 6)))], none⟩,
    ⟨some 5, .alL [(.int .i64 0), (.str []), (.sl 1 ⟨none, 0, (some 0), true⟩ []), (.sl 4 ⟨none, 0, (some 0), true⟩ [])], none⟩,
    ⟨none, .st 4 (.t 5) (.t 6), none⟩] [1, 2, 4, 5])
  (.seq
   (.reg [
     ⟨some 7, .fa 0 (.t 2), none⟩,
     ⟨some 8, .ld false 1 (.t 7), none⟩,
     ⟨some 9, .call 114 [(.t 8), (.c (.int .u8 91))], none⟩] [1, 2, 4, 5])
   (.seq
    (.seq
     (.reg [
       ⟨some 10, .ld true 1 (.t 2), none⟩,
       ⟨some 11, .call 64 [(.t 10)], none⟩] [1, 2, 4, 5])
     (.seq
      (.reg [
        ⟨some 12, .fa 0 (.t 2), none⟩,
        ⟨some 13, .ld false 1 (.t 12), none⟩,
        ⟨some 14, .call 75 [(.t 13), (.c (.int .u8 93))], none⟩] [1, 2, 4, 5, 14])
      (.cnd (.t 14)
       (.seq
        (.reg [
          ⟨some 15, .fa 0 (.t 2), none⟩,
          ⟨some 16, .ld false 1 (.t 15), none⟩,
          ⟨some 17, .nilc (.t 16), none⟩,
          ⟨some 18, .fa 1 (.t 17), none⟩,
          ⟨some 19, .ld false 1 (.t 18), none⟩,
          ⟨some 20, .bin .add none (.t 19) (.c (.int .i64 1)), none⟩,
          ⟨some 21, .nilc (.t 16), none⟩,
          ⟨some 22, .fa 1 (.t 21), none⟩,
          ⟨none, .st 1 (.t 22) (.t 20), none⟩] [4, 5])
        (.seq
         (.reg [
           ⟨some 23, .ld true 4 (.t 5), none⟩,
           ⟨none, .st 4 (.t 4) (.t 23), none⟩] [4])
         .ret))
       .skip)))
    (.blk 0
     (.seq
      (.trim [1, 2, 4, 5])
      (.lop
       (.seq
        (.blk 1
         (.seq
          (.reg [
            ⟨some 24, .ld true 1 (.t 2), none⟩,
            ⟨some 25, .call 64 [(.t 24)], none⟩] [1, 2, 4, 5])
          (.seq
           (.drw [
             ((⟨some 26, .fa 3 (.t 5), none⟩, (some 5)), []),
             ((⟨some 27, .ld false 1 (.t 26), none⟩, (some 5)), []),
             ((⟨some 28, .ld true 1 (.t 2), none⟩, (some 2)), []),
             ((⟨some 29, .mv (.t 1), none⟩, none), []),
             ((⟨some 30, .bin .add none (.t 29) (.c (.int .i64 1)), none⟩, none), []),
             ((⟨some 31, .call 65 [(.t 28), (.t 30)], none⟩, none), []),
             ((⟨some 32, .bldS 4 1 (.agg [(.int .i64 0), (.str []), (.sl 1 ⟨none, 0, (some 0), true⟩ []), (.sl 4 ⟨none, 0, (some 0), true⟩ [])]) [(0, (.t 31))], none⟩, none), []),
             ((⟨some 33, .app true 25 4 72 (.t 27) (.t 32), none⟩, none), []),
             ((⟨some 34, .fa 3 (.t 5), none⟩, (some 5)), []),
             ((⟨none, .st 1 (.t 34) (.t 33), none⟩, (some 5)), [])] [1, 2, 4, 5])
           (.seq
            (.reg [
              ⟨some 35, .ld true 1 (.t 2), none⟩,
              ⟨some 36, .call 64 [(.t 35)], none⟩] [1, 2, 4, 5])
            (.seq
             (.seq
              (.reg [
                ⟨some 37, .fa 0 (.t 2), none⟩,
                ⟨some 38, .ld false 1 (.t 37), none⟩,
                ⟨some 39, .call 75 [(.t 38), (.c (.int .u8 44))], none⟩,
                ⟨some 40, .un .not (.t 39), none⟩] [1, 2, 4, 5, 40])
              (.cnd (.t 40)
               (.seq
                (.reg [
                  ⟨some 41, .fa 0 (.t 2), none⟩,
                  ⟨some 42, .ld false 1 (.t 41), none⟩,
                  ⟨some 43, .call 114 [(.t 42), (.c (.int .u8 93))], none⟩] [4, 5])
                (.seq
                 (.reg [
                   ⟨some 44, .ld true 4 (.t 5), none⟩,
                   ⟨none, .st 4 (.t 4) (.t 44), none⟩] [4])
                 .ret))
               .skip))
             (.reg [
               ⟨some 45, .fa 0 (.t 2), none⟩,
               ⟨some 46, .ld false 1 (.t 45), none⟩,
               ⟨some 47, .nilc (.t 46), none⟩,
               ⟨some 48, .fa 1 (.t 47), none⟩,
               ⟨some 49, .ld false 1 (.t 48), none⟩,
               ⟨some 50, .bin .add none (.t 49) (.c (.int .i64 1)), none⟩,
               ⟨some 51, .nilc (.t 46), none⟩,
               ⟨some 52, .fa 1 (.t 51), none⟩,
               ⟨none, .st 1 (.t 52) (.t 50), none⟩] [1, 2, 4, 5]))))))
        (.trim [1, 2, 4, 5]))))))))),
[.cell 4 true 4]⟩
theorem F106_ok : prepF Go.Proofs.Tryz.prog ⟨[2, 4, 5], [(0, [1, 2, 4]), (1, [1, 2, 4, 5]), (2, [1, 2, 4, 5]), (3, [1, 2, 4, 5]), (4, [1, 2, 4, 5, 14]), (5, [4, 5]), (6, [4]), (7, [1, 2, 4, 5]), (8, [1, 2, 4, 5]), (9, [1, 2, 4, 5]), (10, [1, 2, 4, 5, 40]), (11, [4, 5]), (12, [4]), (13, [1, 2, 4, 5]), (1000000, [1, 2, 4, 5])], [(8, [(some 5), (some 5), (some 2), none, none, none, none, none, (some 5), (some 5)])]⟩ Go.Proofs.Tryz.f106 = some F106 := by kernel_rfl
theorem F106_fn : FnOK2 Go.Proofs.Tryz.prog 106 (.pl F106) := .pl Go.Proofs.Tryz.func106 (by kernel_rfl) F106_ok
/-- (emend/tree.parser).record -/
def F107 : DF := ⟨2,
(.seq
 (.reg [
   ⟨some 2, .bxL (.t 0), none⟩,
   ⟨some 4, .alL [(.int .i64 0), (.str []), (.sl 1 ⟨none, 0, (some 0), true⟩ []), (.sl 4 ⟨none, 0, (some 0), true⟩ [])], none⟩] [1, 2, 4])
 (.seq
  (.reg [
    ⟨some 9, .bld [(.int .i64 0), (.str []), (.sl 1 ⟨none, 0, (some 0), true⟩ []), (.sl 4 ⟨none, 0, (some 0), true⟩ [])] [(0, 1, (.c (.int .i64 7)))], none⟩,
    ⟨some 5, .alL [(.int .i64 0), (.str []), (.sl 1 ⟨none, 0, (some 0), true⟩ []), (.sl 4 ⟨none, 0, (some 0), true⟩ [])], none⟩,
    ⟨none, .st 4 (.t 5) (.t 9), none⟩] [1, 2, 4, 5])
  (.seq
   (.reg [
     ⟨some 10, .mkm, none⟩,
     ⟨some 6, .mv (.t 10), none⟩] [1, 2, 4, 5, 6])
   (.seq
    (.reg [
      ⟨some 11, .fa 0 (.t 2), none⟩,
      ⟨some 12, .ld false 1 (.t 11), none⟩,
      ⟨some 13, .call 114 [(.t 12), (.c (.int .u8 123))], none⟩] [1, 2, 4, 5, 6])
    (.seq
     (.seq
      (.reg [
        ⟨some 14, .ld true 1 (.t 2), none⟩,
        ⟨some 15, .call 64 [(.t 14)], none⟩] [1, 2, 4, 5, 6])
      (.seq
       (.reg [
         ⟨some 16, .fa 0 (.t 2), none⟩,
         ⟨some 17, .ld false 1 (.t 16), none⟩,
         ⟨some 18, .call 75 [(.t 17), (.c (.int .u8 125))], none⟩] [1, 2, 4, 5, 6, 18])
       (.cnd (.t 18)
        (.seq
         (.reg [
           ⟨some 19, .fa 0 (.t 2), none⟩,
           ⟨some 20, .ld false 1 (.t 19), none⟩,
           ⟨some 21, .nilc (.t 20), none⟩,
           ⟨some 22, .fa 1 (.t 21), none⟩,
           ⟨some 23, .ld false 1 (.t 22), none⟩,
           ⟨some 24, .bin .add none (.t 23) (.c (.int .i64 1)), none⟩,
           ⟨some 25, .nilc (.t 20), none⟩,
           ⟨some 26, .fa 1 (.t 25), none⟩,
           ⟨none, .st 1 (.t 26) (.t 24), none⟩] [4, 5])
         (.seq
          (.reg [
            ⟨some 27, .ld true 4 (.t 5), none⟩,
            ⟨none, .st 4 (.t 4) (.t 27), none⟩] [4])
          .ret))
        .skip)))
     (.blk 0
      (.seq
       (.trim [1, 2, 4, 5, 6])
       (.lop
        (.seq
         (.blk 1
          (.seq
           (.reg [
             ⟨some 28, .ld true 1 (.t 2), none⟩,
             ⟨some 29, .call 64 [(.t 28)], none⟩] [1, 2, 4, 5, 6])
           (.seq
            (.reg [
              ⟨some 30, .fa 0 (.t 2), none⟩,
              ⟨some 31, .ld false 1 (.t 30), none⟩,
              ⟨some 32, .nilc (.t 31), none⟩,
              ⟨some 33, .fa 1 (.t 32), none⟩,
              ⟨some 34, .ld false 1 (.t 33), none⟩,
              ⟨some 7, .mv (.t 34), none⟩] [1, 2, 4, 5, 6, 7])
            (.seq
             (.seq
              (.reg [
                ⟨some 35, .fa 0 (.t 2), none⟩,
                ⟨some 36, .ld false 1 (.t 35), none⟩,
                ⟨some 37, .call 75 [(.t 36), (.c (.int .u8 34))], none⟩,
                ⟨some 38, .un .not (.t 37), none⟩] [1, 2, 4, 5, 6, 7, 38])
              (.cnd (.t 38)
               (.reg [
                 ⟨some 39, .fa 0 (.t 2), none⟩,
                 ⟨some 40, .ld false 1 (.t 39), none⟩,
                 ⟨some 41, .call 36 [(.t 40)], none⟩] [1, 2, 4, 5, 6, 7])
               .skip))
             (.seq
              (.reg [
                ⟨some 42, .fa 0 (.t 2), none⟩,
                ⟨some 43, .ld false 1 (.t 42), none⟩,
                ⟨some 44, .call 79 [(.t 43)], none⟩,
                ⟨some 8, .mv (.t 44), none⟩] [1, 2, 4, 5, 6, 7, 8])
              (.seq
               (.seq
                (.reg [
                  ⟨some 45, .mv (.t 6), none⟩,
                  ⟨some 46, .mv (.t 8), none⟩,
                  ⟨some 47, .lkp .str (.int .i64 0) (.t 45) (.t 46) false, none⟩,
                  ⟨some 48, .bin .add none (.t 47) (.c (.int .i64 1)), none⟩,
                  ⟨none, .mup .str (.t 45) (.t 46) (.t 48), none⟩] [1, 2, 4, 5, 6, 7, 8])
                (.seq
                 (.reg [
                   ⟨some 49, .mv (.t 6), none⟩,
                   ⟨some 50, .mv (.t 8), none⟩,
                   ⟨some 51, .lkp .str (.int .i64 0) (.t 49) (.t 50) false, none⟩,
                   ⟨some 52, .bin .gtr none (.t 51) (.c (.int .i64 1)), none⟩] [1, 2, 4, 5, 6, 7, 8, 52])
                 (.cnd (.t 52)
                  (.reg [
                    ⟨some 53, .mv (.t 7), none⟩,
                    ⟨some 54, .call 81 [(.t 53), (.c (.int .i64 15))], none⟩] [1, 2, 4, 5, 6, 8])
                  .skip)))
               (.seq
                (.reg [
                  ⟨some 55, .ld true 1 (.t 2), none⟩,
                  ⟨some 56, .call 64 [(.t 55)], none⟩] [1, 2, 4, 5, 6, 8])
                (.seq
                 (.reg [
                   ⟨some 57, .fa 0 (.t 2), none⟩,
                   ⟨some 58, .ld false 1 (.t 57), none⟩,
                   ⟨some 59, .call 114 [(.t 58), (.c (.int .u8 58))], none⟩] [1, 2, 4, 5, 6, 8])
                 (.seq
                  (.reg [
                    ⟨some 60, .ld true 1 (.t 2), none⟩,
                    ⟨some 61, .call 64 [(.t 60)], none⟩] [1, 2, 4, 5, 6, 8])
                  (.seq
                   (.reg [
                     ⟨some 62, .fa 2 (.t 5), none⟩,
                     ⟨some 63, .ld false 1 (.t 62), none⟩,
                     ⟨some 64, .mv (.t 8), none⟩,
                     ⟨some 65, .bldT 9 1 1 (.str []) [(0, (.t 64))], none⟩,
                     ⟨some 66, .app false 9 1 16 (.t 63) (.t 65), none⟩,
                     ⟨some 67, .fa 2 (.t 5), none⟩,
                     ⟨none, .st 1 (.t 67) (.t 66), none⟩] [1, 2, 4, 5, 6])
                   (.seq
                    (.drw [
                      ((⟨some 68, .fa 3 (.t 5), none⟩, (some 5)), []),
                      ((⟨some 69, .ld false 1 (.t 68), none⟩, (some 5)), []),
                      ((⟨some 70, .ld true 1 (.t 2), none⟩, (some 2)), []),
                      ((⟨some 71, .mv (.t 1), none⟩, none), []),
                      ((⟨some 72, .bin .add none (.t 71) (.c (.int .i64 1)), none⟩, none), []),
                      ((⟨some 73, .call 65 [(.t 70), (.t 72)], none⟩, none), []),
                      ((⟨some 74, .bldS 4 1 (.agg [(.int .i64 0), (.str []), (.sl 1 ⟨none, 0, (some 0), true⟩ []), (.sl 4 ⟨none, 0, (some 0), true⟩ [])]) [(0, (.t 73))], none⟩, none), []),
                      ((⟨some 75, .app true 25 4 72 (.t 69) (.t 74), none⟩, none), []),
                      ((⟨some 76, .fa 3 (.t 5), none⟩, (some 5)), []),
                      ((⟨none, .st 1 (.t 76) (.t 75), none⟩, (some 5)), [])] [1, 2, 4, 5, 6])
                    (.seq
                     (.reg [
                       ⟨some 77, .ld true 1 (.t 2), none⟩,
                       ⟨some 78, .call 64 [(.t 77)], none⟩] [1, 2, 4, 5, 6])
                     (.seq
                      (.seq
                       (.reg [
                         ⟨some 79, .fa 0 (.t 2), none⟩,
                         ⟨some 80, .ld false 1 (.t 79), none⟩,
                         ⟨some 81, .call 75 [(.t 80), (.c (.int .u8 44))], none⟩,
                         ⟨some 82, .un .not (.t 81), none⟩] [1, 2, 4, 5, 6, 82])
                       (.cnd (.t 82)
                        (.seq
                         (.reg [
                           ⟨some 83, .fa 0 (.t 2), none⟩,
                           ⟨some 84, .ld false 1 (.t 83), none⟩,
                           ⟨some 85, .call 114 [(.t 84), (.c (.int .u8 125))], none⟩] [4, 5])
                         (.seq
                          (.reg [
                            ⟨some 86, .ld true 4 (.t 5), none⟩,
                            ⟨none, .st 4 (.t 4) (.t 86), none⟩] [4])
                          .ret))
                        .skip))
                      (.reg [
                        ⟨some 87, .fa 0 (.t 2), none⟩,
                        ⟨some 88, .ld false 1 (.t 87), none⟩,
                        ⟨some 89, .nilc (.t 88), none⟩,
                        ⟨some 90, .fa 1 (.t 89), none⟩,
                        ⟨some 91, .ld false 1 (.t 90), none⟩,
                        ⟨some 92, .bin .add none (.t 91) (.c (.int .i64 1)), none⟩,
                        ⟨some 93, .nilc (.t 88), none⟩,
                        ⟨some 94, .fa 1 (.t 93), none⟩,
                        ⟨none, .st 1 (.t 94) (.t 92), none⟩] [1, 2, 4, 5, 6]))))))))))))))
         (.trim [1, 2, 4, 5, 6])))))))))),
[.cell 4 true 4]⟩
theorem F107_ok : prepF Go.Proofs.Tryz.prog ⟨[2, 4, 5], [(0, [1, 2, 4]), (1, [1, 2, 4, 5]), (2, [1, 2, 4, 5, 6]), (3, [1, 2, 4, 5, 6]), (4, [1, 2, 4, 5, 6]), (5, [1, 2, 4, 5, 6, 18]), (6, [4, 5]), (7, [4]), (8, [1, 2, 4, 5, 6]), (9, [1, 2, 4, 5, 6, 7]), (10, [1, 2, 4, 5, 6, 7, 38]), (11, [1, 2, 4, 5, 6, 7]), (12, [1, 2, 4, 5, 6, 7, 8]), (13, [1, 2, 4, 5, 6, 7, 8]), (14, [1, 2, 4, 5, 6, 7, 8, 52]), (15, [1, 2, 4, 5, 6, 8]), (16, [1, 2, 4, 5, 6, 8]), (17, [1, 2, 4, 5, 6, 8]), (18, [1, 2, 4, 5, 6, 8]), (19, [1, 2, 4, 5, 6]), (20, [1, 2, 4, 5, 6]), (21, [1, 2, 4, 5, 6]), (22, [1, 2, 4, 5, 6, 82]), (23, [4, 5]), (24, [4]), (25, [1, 2, 4, 5, 6]), (1000000, [1, 2, 4, 5, 6])], [(20, [(some 5), (some 5), (some 2), none, none, none, none, none, (some 5), (some 5)])]⟩ Go.Proofs.Tryz.f107 = some F107 := by kernel_rfl
theorem F107_fn : FnOK2 Go.Proofs.Tryz.prog 107 (.pl F107) := .pl Go.Proofs.Tryz.func107 (by kernel_rfl) F107_ok
/-- (emend/tree.parser).tree$1 -/
def F108 : DF := ⟨1,
(.seq
 (.reg [
   ⟨some 2, .mv (.c (.bool false)), none⟩] [0])
 (.seq
  (.reg [
    ⟨some 3, .mv (.t 0), none⟩,
    ⟨some 4, .call 109 [(.t 3)], none⟩,
    ⟨some 5, .mv (.t 4), none⟩,
    ⟨some 6, .mv (.t 0), some (5, false)⟩,
    ⟨some 7, .bin .eql (some .int) (.t 6) (.c (.int .u8 58)), some (5, false)⟩,
    ⟨some 8, .pick (.t 5) (.c (.bool true)) (.t 7), none⟩,
    ⟨some 2, .mv (.t 8), none⟩] [2])
  .ret)),
[.tmp 2]⟩
theorem F108_ok : prepF Go.Proofs.Tryz.prog ⟨[], [(0, [0]), (1, [2])], []⟩ Go.Proofs.Tryz.f108 = some F108 := by kernel_rfl
theorem F108_fn : FnOK2 Go.Proofs.Tryz.prog 108 (.pl F108) := .pl Go.Proofs.Tryz.func108 (by kernel_rfl) F108_ok
/-- emend/tree.InNumber -/
def F109 : DF := ⟨1,
(.seq
 (.reg [
   ⟨some 2, .mv (.c (.bool false)), none⟩] [0])
 (.seq
  (.reg [
    ⟨some 3, .mv (.t 0), none⟩,
    ⟨some 4, .call 116 [(.t 3)], none⟩,
    ⟨some 5, .mv (.t 4), none⟩,
    ⟨some 6, .mv (.t 0), some (5, false)⟩,
    ⟨some 7, .call 117 [(.t 6)], some (5, false)⟩,
    ⟨some 8, .pick (.t 5) (.c (.bool true)) (.t 7), none⟩,
    ⟨some 9, .mv (.t 8), none⟩,
    ⟨some 10, .mv (.t 0), some (9, false)⟩,
    ⟨some 11, .bin .eql (some .int) (.t 10) (.c (.int .u8 43)), some (9, false)⟩,
    ⟨some 12, .pick (.t 9) (.c (.bool true)) (.t 11), none⟩,
    ⟨some 13, .mv (.t 12), none⟩,
    ⟨some 14, .mv (.t 0), some (13, false)⟩,
    ⟨some 15, .bin .eql (some .int) (.t 14) (.c (.int .u8 45)), some (13, false)⟩,
    ⟨some 16, .pick (.t 13) (.c (.bool true)) (.t 15), none⟩,
    ⟨some 17, .mv (.t 16), none⟩,
    ⟨some 18, .mv (.t 0), some (17, false)⟩,
    ⟨some 19, .bin .eql (some .int) (.t 18) (.c (.int .u8 46)), some (17, false)⟩,
    ⟨some 20, .pick (.t 17) (.c (.bool true)) (.t 19), none⟩,
    ⟨some 2, .mv (.t 20), none⟩] [2])
  .ret)),
[.tmp 2]⟩
theorem F109_ok : prepF Go.Proofs.Tryz.prog ⟨[], [(0, [0]), (1, [2])], []⟩ Go.Proofs.Tryz.f109 = some F109 := by kernel_rfl
theorem F109_fn : FnOK2 Go.Proofs.Tryz.prog 109 (.pl F109) := .pl Go.Proofs.Tryz.func109 (by kernel_rfl) F109_ok
/-- emend/text.First -/
def F112 : DF := ⟨1,
(.seq
 (.reg [
   ⟨some 2, .mv (.c (.int .i64 0)), none⟩,
   ⟨some 3, .mv (.c (.int .i64 0)), none⟩] [0])
 (.seq
  (.seq
   (.reg [
     ⟨some 6, .mv (.t 0), none⟩,
     ⟨some 7, .bin .eql (some .str) (.t 6) (.c (.str [])), none⟩] [0, 7])
   (.cnd (.t 7)
    (.seq
     (.reg [
       ⟨some 2, .mv (.c (.int .i64 0)), none⟩,
       ⟨some 3, .mv (.c (.int .i64 0)), none⟩] [2, 3])
     .ret)
    .skip))
  (.seq
   (.reg [
     ⟨some 9, .mv (.t 0), none⟩,
     ⟨some 10, .ixS (.t 9) (.c (.int .i64 0)), none⟩,
     ⟨some 11, .call 145 [(.t 10)], none⟩,
     ⟨some 8, .mv (.t 11), none⟩,
     ⟨some 12, .ext (.t 8) 0, none⟩,
     ⟨some 13, .ext (.t 8) 1, none⟩,
     ⟨some 14, .ext (.t 8) 2, none⟩,
     ⟨some 3, .mv (.t 12), none⟩,
     ⟨some 2, .mv (.t 13), none⟩,
     ⟨some 4, .mv (.t 14), none⟩] [0, 2, 3, 4])
   (.seq
    (.seq
     (.reg [
       ⟨some 15, .mv (.t 3), none⟩,
       ⟨some 16, .bin .eql (some .int) (.t 15) (.c (.int .i64 0)), none⟩,
       ⟨some 17, .mv (.t 16), none⟩,
       ⟨some 18, .mv (.t 3), some (17, false)⟩,
       ⟨some 19, .mv (.t 0), some (17, false)⟩,
       ⟨some 20, .lenS (.t 19), some (17, false)⟩,
       ⟨some 21, .bin .gtr none (.t 18) (.t 20), some (17, false)⟩,
       ⟨some 22, .pick (.t 17) (.c (.bool true)) (.t 21), none⟩] [0, 2, 3, 4, 22])
     (.cnd (.t 22)
      (.seq
       (.reg [
         ⟨some 2, .mv (.c (.int .i64 0)), none⟩,
         ⟨some 3, .mv (.c (.int .i64 0)), none⟩] [2, 3])
       .ret)
      .skip))
    (.seq
     (.seq
      (.reg [
        ⟨some 5, .mv (.c (.int .i64 1)), none⟩] [0, 2, 3, 4, 5])
      (.blk 0
       (.seq
        (.trim [0, 2, 3, 4, 5])
        (.lop
         (.seq
          (.seq
           (.seq
            (.reg [
              ⟨some 23, .mv (.t 5), none⟩,
              ⟨some 24, .mv (.t 3), none⟩,
              ⟨some 25, .bin .lss none (.t 23) (.t 24), none⟩] [0, 2, 3, 4, 5, 25])
            (.cnd (.t 25)
             .skip
             (.exit 0)))
           (.seq
            (.blk 1
             (.seq
              (.seq
               (.reg [
                 ⟨some 28, .mv (.t 0), none⟩,
                 ⟨some 29, .mv (.t 5), none⟩,
                 ⟨some 30, .ixS (.t 28) (.t 29), none⟩,
                 ⟨some 31, .bin .shr none (.t 30) (.c (.int .u64 6)), none⟩,
                 ⟨some 32, .bin .neq (some .int) (.t 31) (.c (.int .u8 2)), none⟩] [0, 2, 3, 4, 5, 32])
               (.cnd (.t 32)
                (.seq
                 (.reg [
                   ⟨some 2, .mv (.c (.int .i64 0)), none⟩,
                   ⟨some 3, .mv (.c (.int .i64 0)), none⟩] [2, 3])
                 .ret)
                .skip))
              (.reg [
                ⟨some 33, .mv (.t 2), none⟩,
                ⟨some 34, .bin .shl none (.t 33) (.c (.int .u64 6)), none⟩,
                ⟨some 35, .mv (.t 0), none⟩,
                ⟨some 36, .mv (.t 5), none⟩,
                ⟨some 37, .ixS (.t 35) (.t 36), none⟩,
                ⟨some 38, .bin .and none (.t 37) (.c (.int .u8 63)), none⟩,
                ⟨some 39, .cvI .i64 (.t 38), none⟩,
                ⟨some 40, .bin .or none (.t 34) (.t 39), none⟩,
                ⟨some 2, .mv (.t 40), none⟩] [0, 2, 3, 4, 5])))
            (.reg [
              ⟨some 26, .mv (.t 5), none⟩,
              ⟨some 27, .bin .add none (.t 26) (.c (.int .i64 1)), none⟩,
              ⟨some 5, .mv (.t 27), none⟩] [0, 2, 3, 4, 5])))
          (.trim [0, 2, 3, 4, 5]))))))
     (.seq
      (.seq
       (.reg [
         ⟨some 41, .mv (.t 2), none⟩,
         ⟨some 42, .mv (.t 4), none⟩,
         ⟨some 43, .bin .lss none (.t 41) (.t 42), none⟩,
         ⟨some 44, .mv (.t 43), none⟩,
         ⟨some 45, .mv (.t 2), some (44, false)⟩,
         ⟨some 46, .call 146 [(.t 45)], some (44, false)⟩,
         ⟨some 47, .un .not (.t 46), some (44, false)⟩,
         ⟨some 48, .pick (.t 44) (.c (.bool true)) (.t 47), none⟩] [2, 3, 48])
       (.cnd (.t 48)
        (.seq
         (.reg [
           ⟨some 2, .mv (.c (.int .i64 0)), none⟩,
           ⟨some 3, .mv (.c (.int .i64 0)), none⟩] [2, 3])
         .ret)
        .skip))
      (.seq
       (.reg [
         ⟨some 49, .mv (.t 2), none⟩,
         ⟨some 50, .mv (.t 3), none⟩,
         ⟨some 2, .mv (.t 49), none⟩,
         ⟨some 3, .mv (.t 50), none⟩] [2, 3])
       .ret))))))),
[.tmp 2, .tmp 3]⟩
theorem F112_ok : prepF Go.Proofs.Tryz.prog ⟨[], [(0, [0]), (1, [0, 7]), (2, [2, 3]), (3, [0, 2, 3, 4]), (4, [0, 2, 3, 4, 22]), (5, [2, 3]), (6, [0, 2, 3, 4, 5]), (7, [0, 2, 3, 4, 5, 25]), (8, [0, 2, 3, 4, 5]), (9, [0, 2, 3, 4, 5, 32]), (10, [2, 3]), (11, [0, 2, 3, 4, 5]), (12, [2, 3, 48]), (13, [2, 3]), (14, [2, 3]), (1000000, [0, 2, 3, 4, 5])], []⟩ Go.Proofs.Tryz.f112 = some F112 := by kernel_rfl
theorem F112_fn : FnOK2 Go.Proofs.Tryz.prog 112 (.pl F112) := .pl Go.Proofs.Tryz.func112 (by kernel_rfl) F112_ok
/-- (emend/json.reader).key -/
def F113 : DF := ⟨2,
(.seq
 (.reg [
   ⟨some 2, .bxL (.t 0), none⟩,
   ⟨some 4, .mv (.c (.str [])), none⟩] [1, 2])
 (.seq
  (.reg [
    ⟨some 7, .fa 0 (.t 2), none⟩,
    ⟨some 8, .ld false 1 (.t 7), none⟩,
    ⟨some 9, .nilc (.t 8), none⟩,
    ⟨some 10, .fa 1 (.t 9), none⟩,
    ⟨some 11, .ld false 1 (.t 10), none⟩,
    ⟨some 5, .mv (.t 11), none⟩] [1, 2, 5])
  (.seq
   (.seq
    (.reg [
      ⟨some 12, .fa 0 (.t 2), none⟩,
      ⟨some 13, .ld false 1 (.t 12), none⟩,
      ⟨some 14, .call 75 [(.t 13), (.c (.int .u8 34))], none⟩,
      ⟨some 15, .un .not (.t 14), none⟩] [1, 2, 5, 15])
    (.cnd (.t 15)
     (.reg [
       ⟨some 16, .fa 0 (.t 2), none⟩,
       ⟨some 17, .ld false 1 (.t 16), none⟩,
       ⟨some 18, .call 36 [(.t 17)], none⟩] [1, 2, 5])
     .skip))
   (.seq
    (.reg [
      ⟨some 19, .fa 0 (.t 2), none⟩,
      ⟨some 20, .ld false 1 (.t 19), none⟩,
      ⟨some 21, .call 79 [(.t 20)], none⟩,
      ⟨some 6, .mv (.t 21), none⟩] [1, 2, 5, 6])
    (.seq
     (.seq
      (.reg [
        ⟨some 22, .mv (.t 1), none⟩,
        ⟨some 23, .mv (.t 6), none⟩,
        ⟨some 24, .lkp .str (.int .i64 0) (.t 22) (.t 23) false, none⟩,
        ⟨some 25, .bin .add none (.t 24) (.c (.int .i64 1)), none⟩,
        ⟨none, .mup .str (.t 22) (.t 23) (.t 25), none⟩] [1, 2, 5, 6])
      (.seq
       (.reg [
         ⟨some 26, .mv (.t 1), none⟩,
         ⟨some 27, .mv (.t 6), none⟩,
         ⟨some 28, .lkp .str (.int .i64 0) (.t 26) (.t 27) false, none⟩,
         ⟨some 29, .bin .gtr none (.t 28) (.c (.int .i64 1)), none⟩] [2, 5, 6, 29])
       (.cnd (.t 29)
        (.reg [
          ⟨some 30, .mv (.t 5), none⟩,
          ⟨some 31, .call 81 [(.t 30), (.c (.int .i64 15))], none⟩] [2, 6])
        .skip)))
     (.seq
      (.reg [
        ⟨some 32, .ld true 1 (.t 2), none⟩,
        ⟨some 33, .call 34 [(.t 32)], none⟩] [2, 6])
      (.seq
       (.reg [
         ⟨some 34, .fa 0 (.t 2), none⟩,
         ⟨some 35, .ld false 1 (.t 34), none⟩,
         ⟨some 36, .call 114 [(.t 35), (.c (.int .u8 58))], none⟩] [2, 6])
       (.seq
        (.reg [
          ⟨some 37, .ld true 1 (.t 2), none⟩,
          ⟨some 38, .call 34 [(.t 37)], none⟩] [6])
        (.seq
         (.reg [
           ⟨some 39, .mv (.t 6), none⟩,
           ⟨some 4, .mv (.t 39), none⟩] [4])
         .ret))))))))),
[.tmp 4]⟩
theorem F113_ok : prepF Go.Proofs.Tryz.prog ⟨[2], [(0, [1, 2]), (1, [1, 2, 5]), (2, [1, 2, 5, 15]), (3, [1, 2, 5]), (4, [1, 2, 5, 6]), (5, [1, 2, 5, 6]), (6, [2, 5, 6, 29]), (7, [2, 6]), (8, [2, 6]), (9, [2, 6]), (10, [6]), (11, [4])], []⟩ Go.Proofs.Tryz.f113 = some F113 := by kernel_rfl
theorem F113_fn : FnOK2 Go.Proofs.Tryz.prog 113 (.pl F113) := .pl Go.Proofs.Tryz.func113 (by kernel_rfl) F113_ok
/-- (*emend/tree.Place).Must -/
def F114 : DF := ⟨2,
(.seq
 (.seq
  (.reg [
    ⟨some 4, .mv (.t 0), none⟩,
    ⟨some 5, .mv (.t 1), none⟩,
    ⟨some 6, .call 75 [(.t 4), (.t 5)], none⟩,
    ⟨some 7, .un .not (.t 6), none⟩] [0, 7])
  (.cnd (.t 7)
   (.reg [
     ⟨some 8, .mv (.t 0), none⟩,
     ⟨some 9, .call 36 [(.t 8)], none⟩] [0])
   .skip))
 (.reg [
   ⟨some 10, .mv (.t 0), none⟩,
   ⟨some 11, .nilc (.t 10), none⟩,
   ⟨some 12, .fa 1 (.t 11), none⟩,
   ⟨some 13, .ld false 1 (.t 12), none⟩,
   ⟨some 14, .bin .add none (.t 13) (.c (.int .i64 1)), none⟩,
   ⟨some 15, .nilc (.t 10), none⟩,
   ⟨some 16, .fa 1 (.t 15), none⟩,
   ⟨none, .st 1 (.t 16) (.t 14), none⟩] [])),
[]⟩
theorem F114_ok : prepF Go.Proofs.Tryz.prog ⟨[], [(0, [0, 7]), (1, [0]), (2, [])], []⟩ Go.Proofs.Tryz.f114 = some F114 := by kernel_rfl
theorem F114_fn : FnOK2 Go.Proofs.Tryz.prog 114 (.pl F114) := .pl Go.Proofs.Tryz.func114 (by kernel_rfl) F114_ok
/-- emend/text.Quoted -/
def F115 : DF := ⟨1,
(.seq
 (.reg [
   ⟨some 2, .mv (.c (.str [])), none⟩,
   ⟨some 3, .mv (.c (.int .i64 0)), none⟩,
   ⟨some 4, .mv (.c .nilp), none⟩] [0])
 (.seq
  (.seq
   (.reg [
     ⟨some 10, .mv (.t 0), none⟩,
     ⟨some 11, .bin .eql (some .str) (.t 10) (.c (.str [])), none⟩] [0, 11])
   (.cnd (.t 11)
    (.seq
     (.reg [
       ⟨some 12, .call 70 [(.c (.int .i64 0)), (.c (.int .i64 14))], none⟩,
       ⟨some 2, .mv (.c (.str [])), none⟩,
       ⟨some 3, .mv (.c (.int .i64 0)), none⟩,
       ⟨some 4, .mv (.t 12), none⟩] [2, 3, 4])
     .ret)
    .skip))
  (.seq
   (.seq
    (.reg [
      ⟨some 13, .mv (.t 0), none⟩,
      ⟨some 14, .ixS (.t 13) (.c (.int .i64 0)), none⟩,
      ⟨some 15, .bin .neq (some .int) (.t 14) (.c (.int .u8 34)), none⟩] [0, 15])
    (.cnd (.t 15)
     (.seq
      (.reg [
        ⟨some 16, .call 70 [(.c (.int .i64 0)), (.c (.int .i64 13))], none⟩,
        ⟨some 2, .mv (.c (.str [])), none⟩,
        ⟨some 3, .mv (.c (.int .i64 0)), none⟩,
        ⟨some 4, .mv (.t 16), none⟩] [2, 3, 4])
      .ret)
     .skip))
   (.seq
    (.reg [
      ⟨some 5, .mv (.c (.sl 1 ⟨none, 0, (some 0), true⟩ [])), none⟩] [0, 5])
    (.seq
     (.seq
      (.reg [
        ⟨some 6, .mv (.c (.int .i64 1)), none⟩] [0, 5, 6])
      (.blk 0
       (.seq
        (.trim [0, 5, 6])
        (.lop
         (.seq
          (.seq
           (.seq
            (.reg [
              ⟨some 17, .mv (.t 6), none⟩,
              ⟨some 18, .mv (.t 0), none⟩,
              ⟨some 19, .lenS (.t 18), none⟩,
              ⟨some 20, .bin .lss none (.t 17) (.t 19), none⟩] [0, 5, 6, 20])
            (.cnd (.t 20)
             .skip
             (.exit 0)))
           (.blk 1
            (.seq
             (.reg [
               ⟨some 21, .mv (.t 0), none⟩,
               ⟨some 22, .mv (.t 6), none⟩,
               ⟨some 23, .ixS (.t 21) (.t 22), none⟩,
               ⟨some 7, .mv (.t 23), none⟩] [0, 5, 6, 7])
             (.blk 2
              (.seq
               (.reg [
                 ⟨some 31, .mv (.t 7), none⟩,
                 ⟨some 32, .bin .eql (some .int) (.t 31) (.c (.int .u8 34)), none⟩,
                 ⟨some 30, .mv (.t 32), none⟩] [0, 5, 6, 7, 30])
               (.cnd (.t 30)
                (.seq
                 (.reg [
                   ⟨some 33, .mv (.t 5), none⟩,
                   ⟨some 34, .cvBS (.t 33), none⟩,
                   ⟨some 35, .mv (.t 6), none⟩,
                   ⟨some 36, .bin .add none (.t 35) (.c (.int .i64 1)), none⟩,
                   ⟨some 2, .mv (.t 34), none⟩,
                   ⟨some 3, .mv (.t 36), none⟩,
                   ⟨some 4, .mv (.c .nilp), none⟩] [2, 3, 4])
                 .ret)
                (.seq
                 (.reg [
                   ⟨some 38, .mv (.t 7), none⟩,
                   ⟨some 39, .bin .lss none (.t 38) (.c (.int .u8 32)), none⟩,
                   ⟨some 37, .mv (.t 39), none⟩] [0, 5, 6, 7, 37])
                 (.cnd (.t 37)
                  (.seq
                   (.reg [
                     ⟨some 40, .mv (.t 6), none⟩,
                     ⟨some 41, .call 70 [(.t 40), (.c (.int .i64 13))], none⟩,
                     ⟨some 2, .mv (.c (.str [])), none⟩,
                     ⟨some 3, .mv (.c (.int .i64 0)), none⟩,
                     ⟨some 4, .mv (.t 41), none⟩] [2, 3, 4])
                   .ret)
                  (.seq
                   (.reg [
                     ⟨some 43, .mv (.t 7), none⟩,
                     ⟨some 44, .bin .eql (some .int) (.t 43) (.c (.int .u8 92)), none⟩,
                     ⟨some 42, .mv (.t 44), none⟩] [0, 5, 6, 7, 42])
                   (.cnd (.t 42)
                    (.seq
                     (.reg [
                       ⟨some 46, .mv (.t 0), none⟩,
                       ⟨some 47, .mv (.t 6), none⟩,
                       ⟨some 48, .bin .add none (.t 47) (.c (.int .i64 1)), none⟩,
                       ⟨some 49, .slS (.t 46) (some (.t 48)) none, none⟩,
                       ⟨some 50, .call 147 [(.t 49)], none⟩,
                       ⟨some 45, .mv (.t 50), none⟩,
                       ⟨some 51, .ext (.t 45) 0, none⟩,
                       ⟨some 52, .ext (.t 45) 1, none⟩,
                       ⟨some 8, .mv (.t 51), none⟩,
                       ⟨some 9, .mv (.t 52), none⟩] [0, 5, 6, 8, 9])
                     (.seq
                      (.seq
                       (.reg [
                         ⟨some 53, .mv (.t 9), none⟩,
                         ⟨some 54, .bin .eql (some .int) (.t 53) (.c (.int .i64 0)), none⟩] [0, 5, 6, 8, 9, 54])
                       (.cnd (.t 54)
                        (.seq
                         (.reg [
                           ⟨some 55, .mv (.t 6), none⟩,
                           ⟨some 56, .call 70 [(.t 55), (.c (.int .i64 11))], none⟩,
                           ⟨some 2, .mv (.c (.str [])), none⟩,
                           ⟨some 3, .mv (.c (.int .i64 0)), none⟩,
                           ⟨some 4, .mv (.t 56), none⟩] [2, 3, 4])
                         .ret)
                        .skip))
                      (.seq
                       (.reg [
                         ⟨some 57, .mv (.t 5), none⟩,
                         ⟨some 58, .mv (.t 8), none⟩,
                         ⟨some 59, .call 148 [(.t 57), (.t 58)], none⟩,
                         ⟨some 5, .mv (.t 59), none⟩] [0, 5, 6, 9])
                       (.reg [
                         ⟨some 60, .mv (.t 6), none⟩,
                         ⟨some 61, .mv (.t 9), none⟩,
                         ⟨some 62, .bin .add none (.c (.int .i64 1)) (.t 61), none⟩,
                         ⟨some 63, .bin .add none (.t 60) (.t 62), none⟩,
                         ⟨some 6, .mv (.t 63), none⟩] [0, 5, 6]))))
                    (.seq
                     (.reg [
                       ⟨some 24, .mv (.t 5), none⟩,
                       ⟨some 25, .mv (.t 7), none⟩,
                       ⟨some 26, .bldT 5 1 1 (.int .u8 0) [(0, (.t 25))], none⟩,
                       ⟨some 27, .app false 5 1 1 (.t 24) (.t 26), none⟩,
                       ⟨some 5, .mv (.t 27), none⟩] [0, 5, 6])
                     (.reg [
                       ⟨some 28, .mv (.t 6), none⟩,
                       ⟨some 29, .bin .add none (.t 28) (.c (.int .i64 1)), none⟩,
                       ⟨some 6, .mv (.t 29), none⟩] [0, 5, 6]))))))))))))
          (.trim [0, 5, 6]))))))
     (.seq
      (.reg [
        ⟨some 64, .mv (.t 0), none⟩,
        ⟨some 65, .lenS (.t 64), none⟩,
        ⟨some 66, .call 70 [(.t 65), (.c (.int .i64 14))], none⟩,
        ⟨some 2, .mv (.c (.str [])), none⟩,
        ⟨some 3, .mv (.c (.int .i64 0)), none⟩,
        ⟨some 4, .mv (.t 66), none⟩] [2, 3, 4])
      .ret)))))),
[.tmp 2, .tmp 3, .tmp 4]⟩
theorem F115_ok : prepF Go.Proofs.Tryz.prog ⟨[], [(0, [0]), (1, [0, 11]), (2, [2, 3, 4]), (3, [0, 15]), (4, [2, 3, 4]), (5, [0, 5]), (6, [0, 5, 6]), (7, [0, 5, 6, 20]), (8, [0, 5, 6, 7]), (9, [0, 5, 6]), (10, [0, 5, 6]), (11, [0, 5, 6, 7, 30]), (12, [2, 3, 4]), (13, [0, 5, 6, 7, 37]), (14, [2, 3, 4]), (15, [0, 5, 6, 7, 42]), (16, [0, 5, 6, 8, 9]), (17, [0, 5, 6, 8, 9, 54]), (18, [2, 3, 4]), (19, [0, 5, 6, 9]), (20, [0, 5, 6]), (21, [2, 3, 4]), (1000000, [0, 5, 6])], []⟩ Go.Proofs.Tryz.f115 = some F115 := by kernel_rfl
theorem F115_fn : FnOK2 Go.Proofs.Tryz.prog 115 (.pl F115) := .pl Go.Proofs.Tryz.func115 (by kernel_rfl) F115_ok
/-- emend/tree.Digit -/
def F116 : DF := ⟨1,
(.seq
 (.reg [
   ⟨some 2, .mv (.c (.bool false)), none⟩] [0])
 (.seq
  (.reg [
    ⟨some 3, .mv (.t 0), none⟩,
    ⟨some 4, .bin .geq none (.t 3) (.c (.int .u8 48)), none⟩,
    ⟨some 5, .mv (.t 4), none⟩,
    ⟨some 6, .mv (.t 0), some (5, true)⟩,
    ⟨some 7, .bin .leq none (.t 6) (.c (.int .u8 57)), some (5, true)⟩,
    ⟨some 8, .pick (.t 5) (.t 7) (.c (.bool false)), none⟩,
    ⟨some 2, .mv (.t 8), none⟩] [2])
  .ret)),
[.tmp 2]⟩
theorem F116_ok : prepF Go.Proofs.Tryz.prog ⟨[], [(0, [0]), (1, [2])], []⟩ Go.Proofs.Tryz.f116 = some F116 := by kernel_rfl
theorem F116_fn : FnOK2 Go.Proofs.Tryz.prog 116 (.pl F116) := .pl Go.Proofs.Tryz.func116 (by kernel_rfl) F116_ok
/-- emend/tree.Letter -/
def F117 : DF := ⟨1,
(.seq
 (.reg [
   ⟨some 2, .mv (.c (.bool false)), none⟩] [0])
 (.seq
  (.reg [
    ⟨some 3, .mv (.t 0), none⟩,
    ⟨some 4, .bin .geq none (.t 3) (.c (.int .u8 97)), none⟩,
    ⟨some 5, .mv (.t 4), none⟩,
    ⟨some 6, .mv (.t 0), some (5, true)⟩,
    ⟨some 7, .bin .leq none (.t 6) (.c (.int .u8 122)), some (5, true)⟩,
    ⟨some 8, .pick (.t 5) (.t 7) (.c (.bool false)), none⟩,
    ⟨some 9, .mv (.t 8), none⟩,
    ⟨some 10, .mv (.t 0), some (9, false)⟩,
    ⟨some 11, .bin .geq none (.t 10) (.c (.int .u8 65)), some (9, false)⟩,
    ⟨some 12, .mv (.t 11), some (9, false)⟩,
    ⟨some 13, .mv (.t 0), some (12, true)⟩,
    ⟨some 14, .bin .leq none (.t 13) (.c (.int .u8 90)), some (12, true)⟩,
    ⟨some 15, .pick (.t 12) (.t 14) (.c (.bool false)), some (9, false)⟩,
    ⟨some 16, .pick (.t 9) (.c (.bool true)) (.t 15), none⟩,
    ⟨some 2, .mv (.t 16), none⟩] [2])
  .ret)),
[.tmp 2]⟩
theorem F117_ok : prepF Go.Proofs.Tryz.prog ⟨[], [(0, [0]), (1, [2])], []⟩ Go.Proofs.Tryz.f117 = some F117 := by kernel_rfl
theorem F117_fn : FnOK2 Go.Proofs.Tryz.prog 117 (.pl F117) := .pl Go.Proofs.Tryz.func117 (by kernel_rfl) F117_ok
/-- (*emend/tree.writer).put -/
def F118 : DF := ⟨2,
(.seq
 (.reg [
   ⟨some 4, .mv (.t 0), none⟩,
   ⟨some 5, .nilc (.t 4), none⟩,
   ⟨some 6, .fa 0 (.t 5), none⟩,
   ⟨some 7, .call 83 [(.t 6)], none⟩,
   ⟨some 8, .bin .leq none (.t 7) (.c (.int .i64 65536)), none⟩] [0, 1, 8])
 (.cnd (.t 8)
  (.reg [
    ⟨some 9, .mv (.t 0), none⟩,
    ⟨some 10, .nilc (.t 9), none⟩,
    ⟨some 11, .fa 0 (.t 10), none⟩,
    ⟨some 12, .mv (.t 1), none⟩,
    ⟨some 13, .call 53 [(.t 11), (.t 12)], none⟩] [])
  .skip)),
[]⟩
theorem F118_ok : prepF Go.Proofs.Tryz.prog ⟨[], [(0, [0, 1, 8]), (1, [])], []⟩ Go.Proofs.Tryz.f118 = some F118 := by kernel_rfl
theorem F118_fn : FnOK2 Go.Proofs.Tryz.prog 118 (.pl F118) := .pl Go.Proofs.Tryz.func118 (by kernel_rfl) F118_ok
/-- emend/text.Quote -/
def F119 : DF := ⟨1,
(.seq
 (.reg [
   ⟨some 2, .mv (.c (.str [])), none⟩,
   ⟨some 3, .mv (.c (.int .i64 0)), none⟩] [0])
 (.seq
  (.seq
   (.reg [
     ⟨some 8, .mv (.t 0), none⟩,
     ⟨some 9, .call 99 [(.t 8)], none⟩,
     ⟨some 10, .un .not (.t 9), none⟩] [0, 10])
   (.cnd (.t 10)
    (.seq
     (.reg [
       ⟨some 2, .mv (.c (.str [])), none⟩,
       ⟨some 3, .mv (.c (.int .i64 10)), none⟩] [2, 3])
     .ret)
    .skip))
  (.seq
   (.reg [
     ⟨some 4, .alH 100 [.nilp, (.sl 1 ⟨none, 0, (some 0), true⟩ [])], none⟩] [0, 4])
   (.seq
    (.reg [
      ⟨some 11, .call 149 [(.t 4), (.c (.int .u8 34))], none⟩] [0, 4])
    (.seq
     (.seq
      (.reg [
        ⟨some 12, .mv (.t 0), none⟩,
        ⟨some 13, .lenS (.t 12), none⟩,
        ⟨some 14, .mv (.c (.int .i64 0)), none⟩] [0, 4, 13, 14])
      (.blk 0
       (.seq
        (.trim [0, 4, 13, 14])
        (.lop
         (.seq
          (.seq
           (.reg [
             ⟨some 15, .bin .lss none (.t 14) (.t 13), none⟩] [0, 4, 13, 14, 15])
           (.seq
            (.cnd (.t 15)
             .skip
             (.exit 0))
            (.seq
             (.blk 1
              (.seq
               (.reg [
                 ⟨some 16, .mv (.t 14), none⟩,
                 ⟨some 5, .mv (.t 16), none⟩] [0, 4, 5, 13, 14])
               (.seq
                (.reg [
                  ⟨some 17, .mv (.t 0), none⟩,
                  ⟨some 18, .mv (.t 5), none⟩,
                  ⟨some 19, .ixS (.t 17) (.t 18), none⟩,
                  ⟨some 6, .mv (.t 19), none⟩] [0, 4, 6, 13, 14])
                (.seq
                 (.reg [
                   ⟨some 20, .mv (.t 6), none⟩,
                   ⟨some 21, .call 150 [(.t 20)], none⟩,
                   ⟨some 7, .mv (.t 21), none⟩] [0, 4, 6, 7, 13, 14])
                 (.blk 2
                  (.seq
                   (.reg [
                     ⟨some 25, .mv (.t 7), none⟩,
                     ⟨some 26, .bin .neq (some .int) (.t 25) (.c (.int .u8 0)), none⟩,
                     ⟨some 24, .mv (.t 26), none⟩] [0, 4, 6, 7, 13, 14, 24])
                   (.cnd (.t 24)
                    (.seq
                     (.reg [
                       ⟨some 27, .call 149 [(.t 4), (.c (.int .u8 92))], none⟩] [0, 4, 7, 13, 14])
                     (.reg [
                       ⟨some 28, .mv (.t 7), none⟩,
                       ⟨some 29, .call 149 [(.t 4), (.t 28)], none⟩] [0, 4, 13, 14]))
                    (.seq
                     (.reg [
                       ⟨some 31, .mv (.t 6), none⟩,
                       ⟨some 32, .bin .lss none (.t 31) (.c (.int .u8 32)), none⟩,
                       ⟨some 33, .mv (.t 32), none⟩,
                       ⟨some 34, .mv (.t 6), some (33, false)⟩,
                       ⟨some 35, .bin .eql (some .int) (.t 34) (.c (.int .u8 127)), some (33, false)⟩,
                       ⟨some 36, .pick (.t 33) (.c (.bool true)) (.t 35), none⟩,
                       ⟨some 30, .mv (.t 36), none⟩] [0, 4, 6, 13, 14, 30])
                     (.cnd (.t 30)
                      (.seq
                       (.reg [
                         ⟨some 37, .call 53 [(.t 4), (.c (.str [92, 117, 48, 48]))], none⟩] [0, 4, 6, 13, 14])
                       (.seq
                        (.reg [
                          ⟨some 38, .mv (.t 6), none⟩,
                          ⟨some 39, .bin .shr none (.t 38) (.c (.int .u64 4)), none⟩,
                          ⟨some 40, .cvI .i64 (.t 39), none⟩,
                          ⟨some 41, .call 151 [(.t 40)], none⟩,
                          ⟨some 42, .call 149 [(.t 4), (.t 41)], none⟩] [0, 4, 6, 13, 14])
                        (.reg [
                          ⟨some 43, .mv (.t 6), none⟩,
                          ⟨some 44, .cvI .i64 (.t 43), none⟩,
                          ⟨some 45, .call 151 [(.t 44)], none⟩,
                          ⟨some 46, .call 149 [(.t 4), (.t 45)], none⟩] [0, 4, 13, 14])))
                      (.reg [
                        ⟨some 22, .mv (.t 6), none⟩,
                        ⟨some 23, .call 149 [(.t 4), (.t 22)], none⟩] [0, 4, 13, 14]))))))))))
             (.reg [
               ⟨some 47, .bin .add none (.t 14) (.c (.int .i64 1)), none⟩,
               ⟨some 14, .mv (.t 47), none⟩] [0, 4, 13, 14]))))
          (.trim [0, 4, 13, 14]))))))
     (.seq
      (.reg [
        ⟨some 48, .call 149 [(.t 4), (.c (.int .u8 34))], none⟩] [4])
      (.seq
       (.reg [
         ⟨some 49, .call 54 [(.t 4)], none⟩,
         ⟨some 2, .mv (.t 49), none⟩,
         ⟨some 3, .mv (.c (.int .i64 0)), none⟩] [2, 3])
       .ret))))))),
[.tmp 2, .tmp 3]⟩
theorem F119_ok : prepF Go.Proofs.Tryz.prog ⟨[], [(0, [0]), (1, [0, 10]), (2, [2, 3]), (3, [0, 4]), (4, [0, 4]), (5, [0, 4, 13, 14]), (6, [0, 4, 13, 14, 15]), (7, [0, 4, 5, 13, 14]), (8, [0, 4, 6, 13, 14]), (9, [0, 4, 6, 7, 13, 14]), (10, [0, 4, 13, 14]), (11, [0, 4, 6, 7, 13, 14, 24]), (12, [0, 4, 7, 13, 14]), (13, [0, 4, 13, 14]), (14, [0, 4, 6, 13, 14, 30]), (15, [0, 4, 6, 13, 14]), (16, [0, 4, 6, 13, 14]), (17, [0, 4, 13, 14]), (18, [0, 4, 13, 14]), (19, [4]), (20, [2, 3]), (1000000, [0, 4, 13, 14])], []⟩ Go.Proofs.Tryz.f119 = some F119 := by kernel_rfl
theorem F119_fn : FnOK2 Go.Proofs.Tryz.prog 119 (.pl F119) := .pl Go.Proofs.Tryz.func119 (by kernel_rfl) F119_ok
/-- internal/strconv.Itoa -/
def F128 : DF := ⟨1,
(.seq
 (.reg [
   ⟨some 2, .mv (.c (.str [])), none⟩] [0])
 (.seq
  (.reg [
    ⟨some 3, .mv (.t 0), none⟩,
    ⟨some 4, .call 156 [(.t 3), (.c (.int .i64 10))], none⟩,
    ⟨some 2, .mv (.t 4), none⟩] [2])
  .ret)),
[.tmp 2]⟩
theorem F128_ok : prepF Go.Proofs.Tryz.prog ⟨[], [(0, [0]), (1, [2])], []⟩ Go.Proofs.Tryz.f128 = some F128 := by kernel_rfl
theorem F128_fn : FnOK2 Go.Proofs.Tryz.prog 128 (.pl F128) := .pl Go.Proofs.Tryz.func128 (by kernel_rfl) F128_ok
/-- emend/tree.Scalar -/
def F134 : DF := ⟨1,
(.seq
 (.reg [
   ⟨some 2, .mv (.c (.bool false)), none⟩] [0])
 (.seq
  (.reg [
    ⟨some 3, .mv (.t 0), none⟩,
    ⟨some 4, .bin .geq none (.t 3) (.c (.int .i64 1)), none⟩,
    ⟨some 5, .mv (.t 4), none⟩,
    ⟨some 6, .mv (.t 0), some (5, true)⟩,
    ⟨some 7, .bin .leq none (.t 6) (.c (.int .i64 5)), some (5, true)⟩,
    ⟨some 8, .pick (.t 5) (.t 7) (.c (.bool false)), none⟩,
    ⟨some 2, .mv (.t 8), none⟩] [2])
  .ret)),
[.tmp 2]⟩
theorem F134_ok : prepF Go.Proofs.Tryz.prog ⟨[], [(0, [0]), (1, [2])], []⟩ Go.Proofs.Tryz.f134 = some F134 := by kernel_rfl
theorem F134_fn : FnOK2 Go.Proofs.Tryz.prog 134 (.pl F134) := .pl Go.Proofs.Tryz.func134 (by kernel_rfl) F134_ok
/-- emend/num.Split -/
def F136 : DF := ⟨1,
(.seq
 (.reg [
   ⟨some 2, .alL [(.bool false), (.str []), (.int .i64 0)], none⟩,
   ⟨some 3, .mv (.c (.int .i64 0)), none⟩] [0, 2])
 (.seq
  (.reg [
    ⟨some 13, .mv (.t 0), none⟩,
    ⟨some 14, .call 163 [(.t 13)], none⟩,
    ⟨some 12, .mv (.t 14), none⟩,
    ⟨some 15, .ext (.t 12) 0, none⟩,
    ⟨some 16, .ext (.t 12) 1, none⟩,
    ⟨some 17, .ext (.t 12) 2, none⟩,
    ⟨some 18, .ext (.t 12) 3, none⟩,
    ⟨some 19, .ext (.t 12) 4, none⟩,
    ⟨some 4, .mv (.t 15), none⟩,
    ⟨some 5, .mv (.t 16), none⟩,
    ⟨some 6, .mv (.t 17), none⟩,
    ⟨some 7, .mv (.t 18), none⟩,
    ⟨some 8, .mv (.t 19), none⟩] [0, 2, 4, 5, 6, 7, 8])
  (.seq
   (.seq
    (.reg [
      ⟨some 20, .mv (.t 8), none⟩,
      ⟨some 21, .un .not (.t 20), none⟩] [0, 2, 4, 5, 6, 7, 21])
    (.cnd (.t 21)
     (.seq
      (.reg [
        ⟨some 22, .bld [(.bool false), (.str []), (.int .i64 0)] [], none⟩,
        ⟨none, .st 3 (.t 2) (.t 22), none⟩,
        ⟨some 3, .mv (.c (.int .i64 12)), none⟩] [2, 3])
      .ret)
     .skip))
   (.seq
    (.seq
     (.reg [
       ⟨some 23, .mv (.t 0), none⟩,
       ⟨some 24, .lenS (.t 23), none⟩,
       ⟨some 25, .bin .gtr none (.t 24) (.c (.int .i64 1000)), none⟩] [2, 4, 5, 6, 7, 25])
     (.cnd (.t 25)
      (.seq
       (.reg [
         ⟨some 26, .bld [(.bool false), (.str []), (.int .i64 0)] [], none⟩,
         ⟨none, .st 3 (.t 2) (.t 26), none⟩,
         ⟨some 3, .mv (.c (.int .i64 2)), none⟩] [2, 3])
       .ret)
      .skip))
    (.seq
     (.reg [
       ⟨some 28, .mv (.t 7), none⟩,
       ⟨some 29, .call 164 [(.t 28)], none⟩,
       ⟨some 27, .mv (.t 29), none⟩,
       ⟨some 30, .ext (.t 27) 0, none⟩,
       ⟨some 31, .ext (.t 27) 1, none⟩,
       ⟨some 9, .mv (.t 30), none⟩,
       ⟨some 8, .mv (.t 31), none⟩] [2, 4, 5, 6, 8, 9])
     (.seq
      (.seq
       (.reg [
         ⟨some 32, .mv (.t 8), none⟩,
         ⟨some 33, .un .not (.t 32), none⟩] [2, 4, 5, 6, 9, 33])
       (.cnd (.t 33)
        (.seq
         (.reg [
           ⟨some 34, .bld [(.bool false), (.str []), (.int .i64 0)] [], none⟩,
           ⟨none, .st 3 (.t 2) (.t 34), none⟩,
           ⟨some 3, .mv (.c (.int .i64 5)), none⟩] [2, 3])
         .ret)
        .skip))
      (.seq
       (.reg [
         ⟨some 35, .mv (.t 5), none⟩,
         ⟨some 36, .mv (.t 6), none⟩,
         ⟨some 37, .bin .add none (.t 35) (.t 36), none⟩,
         ⟨some 38, .call 165 [(.t 37), (.c (.str [48]))], none⟩,
         ⟨some 10, .mv (.t 38), none⟩] [2, 4, 6, 9, 10])
       (.seq
        (.reg [
          ⟨some 39, .mv (.t 9), none⟩,
          ⟨some 40, .mv (.t 6), none⟩,
          ⟨some 41, .lenS (.t 40), none⟩,
          ⟨some 42, .bin .sub none (.t 39) (.t 41), none⟩,
          ⟨some 9, .mv (.t 42), none⟩] [2, 4, 9, 10])
        (.seq
         (.reg [
           ⟨some 43, .mv (.t 10), none⟩,
           ⟨some 44, .call 166 [(.t 43), (.c (.str [48]))], none⟩,
           ⟨some 11, .mv (.t 44), none⟩] [2, 4, 9, 10, 11])
         (.seq
          (.reg [
            ⟨some 45, .mv (.t 9), none⟩,
            ⟨some 46, .mv (.t 10), none⟩,
            ⟨some 47, .lenS (.t 46), none⟩,
            ⟨some 48, .mv (.t 11), none⟩,
            ⟨some 49, .lenS (.t 48), none⟩,
            ⟨some 50, .bin .sub none (.t 47) (.t 49), none⟩,
            ⟨some 51, .bin .add none (.t 45) (.t 50), none⟩,
            ⟨some 9, .mv (.t 51), none⟩] [2, 4, 9, 11])
          (.seq
           (.seq
            (.reg [
              ⟨some 52, .mv (.t 11), none⟩,
              ⟨some 53, .bin .eql (some .str) (.t 52) (.c (.str [])), none⟩] [2, 4, 9, 11, 53])
            (.cnd (.t 53)
             (.seq
              (.reg [
                ⟨some 54, .bld [(.bool false), (.str []), (.int .i64 0)] [], none⟩,
                ⟨none, .st 3 (.t 2) (.t 54), none⟩,
                ⟨some 3, .mv (.c (.int .i64 0)), none⟩] [2, 3])
              .ret)
             .skip))
           (.seq
            (.reg [
              ⟨some 55, .mv (.t 4), none⟩,
              ⟨some 56, .mv (.t 11), none⟩,
              ⟨some 57, .mv (.t 9), none⟩,
              ⟨some 58, .bld [(.bool false), (.str []), (.int .i64 0)] [(0, 1, (.t 55)), (1, 1, (.t 56)), (2, 1, (.t 57))], none⟩,
              ⟨none, .st 3 (.t 2) (.t 58), none⟩,
              ⟨some 3, .mv (.c (.int .i64 0)), none⟩] [2, 3])
            .ret)))))))))))),
[.cell 2 true 3, .tmp 3]⟩
theorem F136_ok : prepF Go.Proofs.Tryz.prog ⟨[2], [(0, [0, 2]), (1, [0, 2, 4, 5, 6, 7, 8]), (2, [0, 2, 4, 5, 6, 7, 21]), (3, [2, 3]), (4, [2, 4, 5, 6, 7, 25]), (5, [2, 3]), (6, [2, 4, 5, 6, 8, 9]), (7, [2, 4, 5, 6, 9, 33]), (8, [2, 3]), (9, [2, 4, 6, 9, 10]), (10, [2, 4, 9, 10]), (11, [2, 4, 9, 10, 11]), (12, [2, 4, 9, 11]), (13, [2, 4, 9, 11, 53]), (14, [2, 3]), (15, [2, 3])], []⟩ Go.Proofs.Tryz.f136 = some F136 := by kernel_rfl
theorem F136_fn : FnOK2 Go.Proofs.Tryz.prog 136 (.pl F136) := .pl Go.Proofs.Tryz.func136 (by kernel_rfl) F136_ok
/-- emend/num.Join -/
def F137 : DF := ⟨1,
(.seq
 (.reg [
   ⟨some 1, .bxL (.t 0), none⟩,
   ⟨some 2, .mv (.c (.str [])), none⟩,
   ⟨some 3, .mv (.c (.int .i64 0)), none⟩] [1])
 (.seq
  (.reg [
    ⟨some 6, .fa 1 (.t 1), none⟩,
    ⟨some 7, .ld false 1 (.t 6), none⟩,
    ⟨some 8, .lenS (.t 7), none⟩,
    ⟨some 4, .mv (.t 8), none⟩] [1, 4])
  (.seq
   (.blk 0
    (.seq
     (.seq
      (.reg [
        ⟨some 10, .fa 1 (.t 1), none⟩,
        ⟨some 11, .ld false 1 (.t 10), none⟩,
        ⟨some 12, .call 167 [(.t 11)], none⟩,
        ⟨some 13, .mv (.t 4), none⟩,
        ⟨some 14, .bin .lss none (.t 12) (.t 13), none⟩,
        ⟨some 9, .mv (.t 14), none⟩] [1, 4, 9])
      (.cnd (.t 9)
       .skip
       (.seq
        (.reg [
          ⟨some 15, .mv (.t 4), none⟩,
          ⟨some 16, .bin .gtr none (.t 15) (.c (.int .i64 0)), none⟩,
          ⟨some 17, .mv (.t 16), none⟩,
          ⟨some 18, .fa 1 (.t 1), some (17, true)⟩,
          ⟨some 19, .ld false 1 (.t 18), some (17, true)⟩,
          ⟨some 20, .ixS (.t 19) (.c (.int .i64 0)), some (17, true)⟩,
          ⟨some 21, .bin .eql (some .int) (.t 20) (.c (.int .u8 48)), some (17, true)⟩,
          ⟨some 22, .mv (.t 21), some (17, true)⟩,
          ⟨some 23, .fa 1 (.t 1), some (22, false)⟩,
          ⟨some 24, .ld false 1 (.t 23), some (22, false)⟩,
          ⟨some 25, .mv (.t 4), some (22, false)⟩,
          ⟨some 26, .bin .sub none (.t 25) (.c (.int .i64 1)), some (22, false)⟩,
          ⟨some 27, .ixS (.t 24) (.t 26), some (22, false)⟩,
          ⟨some 28, .bin .eql (some .int) (.t 27) (.c (.int .u8 48)), some (22, false)⟩,
          ⟨some 29, .pick (.t 22) (.c (.bool true)) (.t 28), some (17, true)⟩,
          ⟨some 30, .pick (.t 17) (.t 29) (.c (.bool false)), none⟩,
          ⟨some 9, .mv (.t 30), none⟩] [1, 4, 9])
        (.cnd (.t 9)
         .skip
         (.reg [
           ⟨some 31, .mv (.t 4), none⟩,
           ⟨some 32, .bin .eql (some .int) (.t 31) (.c (.int .i64 0)), none⟩,
           ⟨some 33, .mv (.t 32), none⟩,
           ⟨some 34, .fa 2 (.t 1), some (33, true)⟩,
           ⟨some 35, .ld false 1 (.t 34), some (33, true)⟩,
           ⟨some 36, .bin .neq (some .int) (.t 35) (.c (.int .i64 0)), some (33, true)⟩,
           ⟨some 37, .mv (.t 36), some (33, true)⟩,
           ⟨some 38, .fa 0 (.t 1), some (37, false)⟩,
           ⟨some 39, .ld false 1 (.t 38), some (37, false)⟩,
           ⟨some 40, .pick (.t 37) (.c (.bool true)) (.t 39), some (33, true)⟩,
           ⟨some 41, .pick (.t 33) (.t 40) (.c (.bool false)), none⟩,
           ⟨some 9, .mv (.t 41), none⟩] [1, 4, 9])))))
     (.cnd (.t 9)
      (.seq
       (.reg [
         ⟨some 2, .mv (.c (.str [])), none⟩,
         ⟨some 3, .mv (.c (.int .i64 1)), none⟩] [2, 3])
       .ret)
      (.seq
       (.reg [
         ⟨some 43, .fa 2 (.t 1), none⟩,
         ⟨some 44, .ld false 1 (.t 43), none⟩,
         ⟨some 45, .bin .lss none (.t 44) (.c (.int .i64 (-999999))), none⟩,
         ⟨some 46, .mv (.t 45), none⟩,
         ⟨some 47, .fa 2 (.t 1), some (46, false)⟩,
         ⟨some 48, .ld false 1 (.t 47), some (46, false)⟩,
         ⟨some 49, .bin .gtr none (.t 48) (.c (.int .i64 999999)), some (46, false)⟩,
         ⟨some 50, .pick (.t 46) (.c (.bool true)) (.t 49), none⟩,
         ⟨some 42, .mv (.t 50), none⟩] [1, 4, 42])
       (.cnd (.t 42)
        (.seq
         (.reg [
           ⟨some 2, .mv (.c (.str [])), none⟩,
           ⟨some 3, .mv (.c (.int .i64 5)), none⟩] [2, 3])
         .ret)
        (.seq
         (.reg [
           ⟨some 52, .mv (.t 4), none⟩,
           ⟨some 53, .bin .eql (some .int) (.t 52) (.c (.int .i64 0)), none⟩,
           ⟨some 51, .mv (.t 53), none⟩] [1, 51])
         (.cnd (.t 51)
          (.seq
           (.reg [
             ⟨some 2, .mv (.c (.str [48])), none⟩,
             ⟨some 3, .mv (.c (.int .i64 0)), none⟩] [2, 3])
           .ret)
          .skip)))))))
   (.seq
    (.reg [
      ⟨some 54, .fa 1 (.t 1), none⟩,
      ⟨some 55, .ld false 1 (.t 54), none⟩,
      ⟨some 5, .mv (.t 55), none⟩] [1, 5])
    (.seq
     (.seq
      (.reg [
        ⟨some 56, .fa 0 (.t 1), none⟩,
        ⟨some 57, .ld false 1 (.t 56), none⟩] [1, 5, 57])
      (.cnd (.t 57)
       (.reg [
         ⟨some 58, .mv (.t 5), none⟩,
         ⟨some 59, .bin .add none (.c (.str [45])) (.t 58), none⟩,
         ⟨some 5, .mv (.t 59), none⟩] [1, 5])
       .skip))
     (.seq
      (.seq
       (.reg [
         ⟨some 60, .fa 2 (.t 1), none⟩,
         ⟨some 61, .ld false 1 (.t 60), none⟩,
         ⟨some 62, .bin .neq (some .int) (.t 61) (.c (.int .i64 0)), none⟩] [1, 5, 62])
       (.cnd (.t 62)
        (.reg [
          ⟨some 63, .mv (.t 5), none⟩,
          ⟨some 64, .fa 2 (.t 1), none⟩,
          ⟨some 65, .ld false 1 (.t 64), none⟩,
          ⟨some 66, .call 89 [(.t 65)], none⟩,
          ⟨some 67, .bin .add none (.c (.str [101])) (.t 66), none⟩,
          ⟨some 68, .bin .add none (.t 63) (.t 67), none⟩,
          ⟨some 5, .mv (.t 68), none⟩] [5])
        .skip))
      (.seq
       (.seq
        (.reg [
          ⟨some 69, .mv (.t 5), none⟩,
          ⟨some 70, .lenS (.t 69), none⟩,
          ⟨some 71, .bin .gtr none (.t 70) (.c (.int .i64 1000)), none⟩] [5, 71])
        (.cnd (.t 71)
         (.seq
          (.reg [
            ⟨some 2, .mv (.c (.str [])), none⟩,
            ⟨some 3, .mv (.c (.int .i64 2)), none⟩] [2, 3])
          .ret)
         .skip))
       (.seq
        (.reg [
          ⟨some 72, .mv (.t 5), none⟩,
          ⟨some 2, .mv (.t 72), none⟩,
          ⟨some 3, .mv (.c (.int .i64 0)), none⟩] [2, 3])
        .ret)))))))),
[.tmp 2, .tmp 3]⟩
theorem F137_ok : prepF Go.Proofs.Tryz.prog ⟨[1], [(0, [1]), (1, [1, 4]), (2, [1, 4, 9]), (3, [1, 4, 9]), (4, [1, 4, 9]), (5, [2, 3]), (6, [1, 4, 42]), (7, [2, 3]), (8, [1, 51]), (9, [2, 3]), (10, [1, 5]), (11, [1, 5, 57]), (12, [1, 5]), (13, [1, 5, 62]), (14, [5]), (15, [5, 71]), (16, [2, 3]), (17, [2, 3])], []⟩ Go.Proofs.Tryz.f137 = some F137 := by kernel_rfl
theorem F137_fn : FnOK2 Go.Proofs.Tryz.prog 137 (.pl F137) := .pl Go.Proofs.Tryz.func137 (by kernel_rfl) F137_ok
/-- emend/tree.date -/
def F138 : DF := ⟨1,
(.seq
 (.reg [
   ⟨some 2, .mv (.c (.bool false)), none⟩] [0])
 (.seq
  (.seq
   (.reg [
     ⟨some 3, .mv (.t 0), none⟩,
     ⟨some 4, .lenS (.t 3), none⟩,
     ⟨some 5, .bin .neq (some .int) (.t 4) (.c (.int .i64 10)), none⟩,
     ⟨some 6, .mv (.t 5), none⟩,
     ⟨some 7, .mv (.t 0), some (6, false)⟩,
     ⟨some 8, .ixS (.t 7) (.c (.int .i64 4)), some (6, false)⟩,
     ⟨some 9, .bin .neq (some .int) (.t 8) (.c (.int .u8 45)), some (6, false)⟩,
     ⟨some 10, .pick (.t 6) (.c (.bool true)) (.t 9), none⟩,
     ⟨some 11, .mv (.t 10), none⟩,
     ⟨some 12, .mv (.t 0), some (11, false)⟩,
     ⟨some 13, .ixS (.t 12) (.c (.int .i64 7)), some (11, false)⟩,
     ⟨some 14, .bin .neq (some .int) (.t 13) (.c (.int .u8 45)), some (11, false)⟩,
     ⟨some 15, .pick (.t 11) (.c (.bool true)) (.t 14), none⟩,
     ⟨some 16, .mv (.t 15), none⟩,
     ⟨some 17, .mv (.t 0), some (16, false)⟩,
     ⟨some 18, .slS (.t 17) none (some (.c (.int .i64 2))), some (16, false)⟩,
     ⟨some 19, .call 168 [(.t 18)], some (16, false)⟩,
     ⟨some 20, .bin .lss none (.t 19) (.c (.int .i64 0)), some (16, false)⟩,
     ⟨some 21, .pick (.t 16) (.c (.bool true)) (.t 20), none⟩,
     ⟨some 22, .mv (.t 21), none⟩,
     ⟨some 23, .mv (.t 0), some (22, false)⟩,
     ⟨some 24, .slS (.t 23) (some (.c (.int .i64 2))) (some (.c (.int .i64 4))), some (22, false)⟩,
     ⟨some 25, .call 168 [(.t 24)], some (22, false)⟩,
     ⟨some 26, .bin .lss none (.t 25) (.c (.int .i64 0)), some (22, false)⟩,
     ⟨some 27, .pick (.t 22) (.c (.bool true)) (.t 26), none⟩,
     ⟨some 28, .mv (.t 27), none⟩,
     ⟨some 29, .mv (.t 0), some (28, false)⟩,
     ⟨some 30, .slS (.t 29) (some (.c (.int .i64 5))) (some (.c (.int .i64 7))), some (28, false)⟩,
     ⟨some 31, .call 169 [(.t 30), (.c (.int .i64 1)), (.c (.int .i64 12))], some (28, false)⟩,
     ⟨some 32, .un .not (.t 31), some (28, false)⟩,
     ⟨some 33, .pick (.t 28) (.c (.bool true)) (.t 32), none⟩] [0, 33])
   (.cnd (.t 33)
    (.seq
     (.reg [
       ⟨some 2, .mv (.c (.bool false)), none⟩] [2])
     .ret)
    .skip))
  (.seq
   (.drw [
     ((⟨some 34, .mv (.t 0), none⟩, none), []),
     ((⟨some 35, .slS (.t 34) (some (.c (.int .i64 8))) none, none⟩, none), []),
     ((⟨some 36, .mv (.t 0), none⟩, none), []),
     ((⟨some 37, .slS (.t 36) none (some (.c (.int .i64 2))), none⟩, none), []),
     ((⟨some 40, .mv (.t 0), none⟩, none), []),
     ((⟨some 41, .slS (.t 40) (some (.c (.int .i64 2))) (some (.c (.int .i64 4))), none⟩, none), []),
     ((⟨some 44, .mv (.t 0), none⟩, none), []),
     ((⟨some 45, .slS (.t 44) (some (.c (.int .i64 5))) (some (.c (.int .i64 7))), none⟩, none), []),
     ((⟨some 38, .call 168 [(.t 37)], none⟩, none), []),
     ((⟨some 39, .bin .mul none (.t 38) (.c (.int .i64 100)), none⟩, none), []),
     ((⟨some 42, .call 168 [(.t 41)], none⟩, none), []),
     ((⟨some 43, .bin .add none (.t 39) (.t 42), none⟩, none), []),
     ((⟨some 46, .call 168 [(.t 45)], none⟩, none), []),
     ((⟨some 47, .call 170 [(.t 43), (.t 46)], none⟩, none), []),
     ((⟨some 48, .call 169 [(.t 35), (.c (.int .i64 1)), (.t 47)], none⟩, none), []),
     ((⟨some 2, .mv (.t 48), none⟩, none), [])] [2])
   .ret))),
[.tmp 2]⟩
theorem F138_ok : prepF Go.Proofs.Tryz.prog ⟨[], [(0, [0]), (1, [0, 33]), (2, [2]), (3, [2])], []⟩ Go.Proofs.Tryz.f138 = some F138 := by kernel_rfl
theorem F138_fn : FnOK2 Go.Proofs.Tryz.prog 138 (.pl F138) := .pl Go.Proofs.Tryz.func138 (by kernel_rfl) F138_ok
end Go.Proofs.YtinhgnepnkbpcaaGreatDoor.C1
