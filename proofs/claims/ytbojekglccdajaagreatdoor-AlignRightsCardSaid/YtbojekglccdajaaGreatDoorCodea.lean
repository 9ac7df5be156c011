/- The code of the functions that are reached, printed by a program (Gen). -/
import Derived.Test.YtbojekglccdajaaGreatDoorProg
import Derived.Test.YtbojekglccdajaaGreatDoorDnZ
namespace Go.Proofs.YtbojekglccdajaaGreatDoor.C1
open Go Go.Dn
set_option maxRecDepth 100000
/-- emend/emendlaw13.AlignRuns -/
def F3 : DF := ⟨0,
(.seq
 (.reg [
   ⟨some 0, .mv (.c (.bool false)), none⟩] [])
 (.seq
  (.reg [
    ⟨some 19, .call 12 [(.c (.str [91, 34, 97, 34, 44, 34, 98, 34, 44, 34, 99, 34, 93]))], none⟩,
    ⟨some 20, .call 12 [(.c (.str [91, 34, 97, 34, 44, 34, 99, 34, 93]))], none⟩,
    ⟨some 21, .call 11 [(.t 19), (.t 20)], none⟩,
    ⟨some 18, .mv (.t 21), none⟩,
    ⟨some 22, .ext (.t 18) 0, none⟩,
    ⟨some 23, .ext (.t 18) 1, none⟩,
    ⟨some 24, .ext (.t 18) 2, none⟩,
    ⟨some 1, .mv (.t 22), none⟩,
    ⟨some 2, .mv (.t 23), none⟩,
    ⟨some 3, .mv (.t 24), none⟩] [1, 2, 3])
  (.seq
   (.reg [
     ⟨some 26, .call 12 [(.c (.str [91, 49, 93]))], none⟩,
     ⟨some 27, .call 12 [(.c (.str [91, 50, 93]))], none⟩,
     ⟨some 28, .call 11 [(.t 26), (.t 27)], none⟩,
     ⟨some 25, .mv (.t 28), none⟩,
     ⟨some 29, .ext (.t 25) 0, none⟩,
     ⟨some 30, .ext (.t 25) 1, none⟩,
     ⟨some 31, .ext (.t 25) 2, none⟩,
     ⟨some 4, .mv (.t 29), none⟩,
     ⟨some 5, .mv (.t 30), none⟩,
     ⟨some 6, .mv (.t 31), none⟩] [1, 2, 3, 4, 5, 6])
   (.seq
    (.reg [
      ⟨some 33, .call 12 [(.c (.str [91, 49, 44, 50, 93]))], none⟩,
      ⟨some 34, .call 12 [(.c (.str [91, 50, 44, 49, 93]))], none⟩,
      ⟨some 35, .call 11 [(.t 33), (.t 34)], none⟩,
      ⟨some 32, .mv (.t 35), none⟩,
      ⟨some 36, .ext (.t 32) 0, none⟩,
      ⟨some 37, .ext (.t 32) 1, none⟩,
      ⟨some 38, .ext (.t 32) 2, none⟩,
      ⟨some 7, .mv (.t 36), none⟩,
      ⟨some 8, .mv (.t 37), none⟩,
      ⟨some 9, .mv (.t 38), none⟩] [1, 2, 3, 4, 5, 6, 7, 8, 9])
    (.seq
     (.drw [
       ((⟨some 40, .mksS 4 72 (.agg [(.int .i64 0), (.str []), (.sl 1 ⟨none, 0, (some 0), true⟩ []), (.sl 4 ⟨none, 0, (some 0), true⟩ [])]) (.c (.int .i64 257)) (.c (.int .i64 257)), none⟩, none), []),
       ((⟨some 41, .mksS 4 72 (.agg [(.int .i64 0), (.str []), (.sl 1 ⟨none, 0, (some 0), true⟩ []), (.sl 4 ⟨none, 0, (some 0), true⟩ [])]) (.c (.int .i64 256)) (.c (.int .i64 256)), none⟩, none), []),
       ((⟨some 42, .call 11 [(.t 40), (.t 41)], none⟩, none), []),
       ((⟨some 39, .mv (.t 42), none⟩, none), []),
       ((⟨some 43, .ext (.t 39) 0, none⟩, none), []),
       ((⟨some 44, .ext (.t 39) 1, none⟩, none), []),
       ((⟨some 45, .ext (.t 39) 2, none⟩, none), []),
       ((⟨some 10, .mv (.t 43), none⟩, none), []),
       ((⟨some 11, .mv (.t 44), none⟩, none), []),
       ((⟨some 12, .mv (.t 45), none⟩, none), [])] [1, 2, 3, 4, 5, 6, 7, 8, 9, 12])
     (.seq
      (.reg [
        ⟨some 47, .call 13 [(.c (.int .i64 9)), (.c (.str [])), (.c (.sl 4 ⟨none, 0, (some 0), true⟩ [])), (.c (.sl 4 ⟨none, 0, (some 0), true⟩ []))], none⟩,
        ⟨some 46, .mv (.t 47), none⟩,
        ⟨some 48, .ext (.t 46) 0, none⟩,
        ⟨some 49, .ext (.t 46) 1, none⟩,
        ⟨some 13, .mv (.t 48), none⟩,
        ⟨some 14, .mv (.t 49), none⟩] [1, 2, 3, 4, 5, 6, 7, 8, 9, 12, 14])
      (.seq
       (.reg [
         ⟨some 51, .call 11 [(.c (.sl 4 ⟨none, 0, (some 0), true⟩ [])), (.c (.sl 4 ⟨none, 0, (some 0), true⟩ []))], none⟩,
         ⟨some 50, .mv (.t 51), none⟩,
         ⟨some 52, .ext (.t 50) 0, none⟩,
         ⟨some 53, .ext (.t 50) 1, none⟩,
         ⟨some 54, .ext (.t 50) 2, none⟩,
         ⟨some 15, .mv (.t 52), none⟩,
         ⟨some 16, .mv (.t 53), none⟩,
         ⟨some 17, .mv (.t 54), none⟩] [1, 2, 3, 4, 5, 6, 7, 8, 9, 12, 14, 15, 16, 17])
       (.seq
        (.reg [
          ⟨some 55, .call 12 [(.c (.str [91, 49, 44, 50, 93]))], none⟩,
          ⟨some 56, .call 12 [(.c (.str [91, 49, 44, 50, 44, 51, 93]))], none⟩,
          ⟨some 57, .call 15 [(.t 55), (.t 56)], none⟩,
          ⟨some 58, .bldT 3 1 3 (.int .i64 0) [(0, (.c (.int .i64 0))), (1, (.c (.int .i64 1))), (2, (.c (.int .i64 (-1))))], none⟩,
          ⟨some 59, .call 14 [(.t 57), (.t 58)], none⟩,
          ⟨some 60, .mv (.t 59), none⟩,
          ⟨some 61, .call 12 [(.c (.str [91, 123, 34, 107, 34, 58, 49, 125, 44, 123, 34, 107, 34, 58, 50, 125, 44, 123, 34, 107, 34, 58, 49, 125, 93]))], some (60, true)⟩,
          ⟨some 62, .call 12 [(.c (.str [91, 123, 34, 107, 34, 58, 49, 125, 44, 123, 34, 107, 34, 58, 51, 125, 44, 123, 34, 107, 34, 58, 49, 125, 44, 123, 34, 107, 34, 58, 49, 125, 44, 53, 93]))], some (60, true)⟩,
          ⟨some 63, .call 16 [(.t 61), (.t 62), (.c (.str [107]))], some (60, true)⟩,
          ⟨some 64, .bldT 3 1 5 (.int .i64 0) [(0, (.c (.int .i64 0))), (1, (.c (.int .i64 (-1)))), (2, (.c (.int .i64 2))), (3, (.c (.int .i64 (-1)))), (4, (.c (.int .i64 (-1))))], some (60, true)⟩,
          ⟨some 65, .call 14 [(.t 63), (.t 64)], some (60, true)⟩,
          ⟨some 66, .pick (.t 60) (.t 65) (.c (.bool false)), none⟩,
          ⟨some 67, .mv (.t 66), none⟩,
          ⟨some 68, .mv (.t 1), some (67, true)⟩,
          ⟨some 69, .bldT 3 1 2 (.int .i64 0) [(0, (.c (.int .i64 0))), (1, (.c (.int .i64 2)))], some (67, true)⟩,
          ⟨some 70, .call 14 [(.t 68), (.t 69)], some (67, true)⟩,
          ⟨some 71, .pick (.t 67) (.t 70) (.c (.bool false)), none⟩,
          ⟨some 72, .mv (.t 71), none⟩,
          ⟨some 73, .mv (.t 2), some (72, true)⟩,
          ⟨some 74, .bin .eql (some .int) (.t 73) (.c (.int .i64 2)), some (72, true)⟩,
          ⟨some 75, .pick (.t 72) (.t 74) (.c (.bool false)), none⟩,
          ⟨some 76, .mv (.t 75), none⟩,
          ⟨some 77, .mv (.t 3), some (76, true)⟩,
          ⟨some 78, .bin .eql (some .int) (.t 77) (.c (.int .i64 0)), some (76, true)⟩,
          ⟨some 79, .pick (.t 76) (.t 78) (.c (.bool false)), none⟩,
          ⟨some 80, .mv (.t 79), none⟩,
          ⟨some 81, .mv (.t 4), some (80, true)⟩,
          ⟨some 82, .bldT 3 1 1 (.int .i64 0) [(0, (.c (.int .i64 0)))], some (80, true)⟩,
          ⟨some 83, .call 14 [(.t 81), (.t 82)], some (80, true)⟩,
          ⟨some 84, .pick (.t 80) (.t 83) (.c (.bool false)), none⟩,
          ⟨some 85, .mv (.t 84), none⟩,
          ⟨some 86, .mv (.t 5), some (85, true)⟩,
          ⟨some 87, .bin .eql (some .int) (.t 86) (.c (.int .i64 3)), some (85, true)⟩,
          ⟨some 88, .pick (.t 85) (.t 87) (.c (.bool false)), none⟩,
          ⟨some 89, .mv (.t 88), none⟩,
          ⟨some 90, .mv (.t 6), some (89, true)⟩,
          ⟨some 91, .bin .eql (some .int) (.t 90) (.c (.int .i64 0)), some (89, true)⟩,
          ⟨some 92, .pick (.t 89) (.t 91) (.c (.bool false)), none⟩,
          ⟨some 93, .mv (.t 92), none⟩,
          ⟨some 94, .mv (.t 7), some (93, true)⟩,
          ⟨some 95, .bldT 3 1 2 (.int .i64 0) [(0, (.c (.int .i64 (-1)))), (1, (.c (.int .i64 0)))], some (93, true)⟩,
          ⟨some 96, .call 14 [(.t 94), (.t 95)], some (93, true)⟩,
          ⟨some 97, .pick (.t 93) (.t 96) (.c (.bool false)), none⟩,
          ⟨some 98, .mv (.t 97), none⟩,
          ⟨some 99, .mv (.t 8), some (98, true)⟩,
          ⟨some 100, .bin .eql (some .int) (.t 99) (.c (.int .i64 4)), some (98, true)⟩,
          ⟨some 101, .pick (.t 98) (.t 100) (.c (.bool false)), none⟩,
          ⟨some 102, .mv (.t 101), none⟩,
          ⟨some 103, .mv (.t 9), some (102, true)⟩,
          ⟨some 104, .bin .eql (some .int) (.t 103) (.c (.int .i64 0)), some (102, true)⟩,
          ⟨some 105, .pick (.t 102) (.t 104) (.c (.bool false)), none⟩,
          ⟨some 106, .mv (.t 105), none⟩,
          ⟨some 107, .mv (.t 12), some (106, true)⟩,
          ⟨some 108, .bin .eql (some .int) (.t 107) (.c (.int .i64 52)), some (106, true)⟩,
          ⟨some 109, .pick (.t 106) (.t 108) (.c (.bool false)), none⟩,
          ⟨some 110, .mv (.t 109), none⟩,
          ⟨some 111, .mv (.t 14), some (110, true)⟩,
          ⟨some 112, .bin .eql (some .int) (.t 111) (.c (.int .i64 1)), some (110, true)⟩,
          ⟨some 113, .pick (.t 110) (.t 112) (.c (.bool false)), none⟩,
          ⟨some 114, .mv (.t 113), none⟩,
          ⟨some 115, .mv (.t 15), some (114, true)⟩,
          ⟨some 116, .len (.t 115), some (114, true)⟩,
          ⟨some 117, .bin .eql (some .int) (.t 116) (.c (.int .i64 0)), some (114, true)⟩,
          ⟨some 118, .pick (.t 114) (.t 117) (.c (.bool false)), none⟩,
          ⟨some 119, .mv (.t 118), none⟩,
          ⟨some 120, .mv (.t 16), some (119, true)⟩,
          ⟨some 121, .bin .eql (some .int) (.t 120) (.c (.int .i64 0)), some (119, true)⟩,
          ⟨some 122, .pick (.t 119) (.t 121) (.c (.bool false)), none⟩,
          ⟨some 123, .mv (.t 122), none⟩,
          ⟨some 124, .mv (.t 17), some (123, true)⟩,
          ⟨some 125, .bin .eql (some .int) (.t 124) (.c (.int .i64 0)), some (123, true)⟩,
          ⟨some 126, .pick (.t 123) (.t 125) (.c (.bool false)), none⟩,
          ⟨some 127, .mv (.t 126), none⟩,
          ⟨some 128, .bldT 3 1 2 (.int .i64 0) [(0, (.c (.int .i64 1))), (1, (.c (.int .i64 (-1))))], some (127, true)⟩,
          ⟨some 129, .call 17 [(.t 128), (.c (.int .i64 2))], some (127, true)⟩,
          ⟨some 130, .pick (.t 127) (.t 129) (.c (.bool false)), none⟩,
          ⟨some 131, .mv (.t 130), none⟩,
          ⟨some 132, .bldT 3 1 2 (.int .i64 0) [(0, (.c (.int .i64 1))), (1, (.c (.int .i64 1)))], some (131, true)⟩,
          ⟨some 133, .call 17 [(.t 132), (.c (.int .i64 2))], some (131, true)⟩,
          ⟨some 134, .un .not (.t 133), some (131, true)⟩,
          ⟨some 135, .pick (.t 131) (.t 134) (.c (.bool false)), none⟩,
          ⟨some 136, .mv (.t 135), none⟩,
          ⟨some 137, .bldT 3 1 1 (.int .i64 0) [(0, (.c (.int .i64 2)))], some (136, true)⟩,
          ⟨some 138, .call 17 [(.t 137), (.c (.int .i64 2))], some (136, true)⟩,
          ⟨some 139, .un .not (.t 138), some (136, true)⟩,
          ⟨some 140, .pick (.t 136) (.t 139) (.c (.bool false)), none⟩,
          ⟨some 0, .mv (.t 140), none⟩] [0])
        .ret)))))))),
[.tmp 0]⟩
theorem F3_ok : prepF Go.Proofs.Tryz.prog ⟨[], [(0, []), (1, [1, 2, 3]), (2, [1, 2, 3, 4, 5, 6]), (3, [1, 2, 3, 4, 5, 6, 7, 8, 9]), (4, [1, 2, 3, 4, 5, 6, 7, 8, 9, 12]), (5, [1, 2, 3, 4, 5, 6, 7, 8, 9, 12, 14]), (6, [1, 2, 3, 4, 5, 6, 7, 8, 9, 12, 14, 15, 16, 17]), (7, [0])], []⟩ Go.Proofs.Tryz.f3 = some F3 := by kernel_rfl
theorem F3_fn : FnOK2 Go.Proofs.Tryz.prog 3 (.pl F3) := .pl Go.Proofs.Tryz.func3 (by kernel_rfl) F3_ok
/-- emend/emendlaw13.AlignRights -/
def F5 : DF := ⟨2,
(.seq
 (.reg [
   ⟨some 4, .mv (.c (.bool false)), none⟩] [0, 1])
 (.seq
  (.seq
   (.reg [
     ⟨some 5, .mv (.t 0), none⟩,
     ⟨some 6, .len (.t 5), none⟩,
     ⟨some 7, .bin .gtr none (.t 6) (.c (.int .i64 500)), none⟩] [0, 1, 7])
   (.cnd (.t 7)
    (.reg [
      ⟨some 8, .mv (.t 0), none⟩,
      ⟨some 9, .slA 1 (.t 8) none (some (.c (.int .i64 500))) none, none⟩,
      ⟨some 0, .mv (.t 9), none⟩] [0, 1])
    .skip))
  (.seq
   (.reg [
     ⟨some 10, .mv (.t 0), none⟩,
     ⟨some 11, .mv (.t 1), none⟩,
     ⟨some 12, .call 17 [(.t 10), (.t 11)], none⟩,
     ⟨some 13, .mv (.t 0), none⟩,
     ⟨some 14, .mv (.t 1), none⟩,
     ⟨some 15, .call 23 [(.t 13), (.t 14)], none⟩,
     ⟨some 16, .bin .eql (some .bool) (.t 12) (.t 15), none⟩,
     ⟨some 17, .mv (.t 16), none⟩,
     ⟨some 18, .call 3 [], some (17, true)⟩,
     ⟨some 19, .pick (.t 17) (.t 18) (.c (.bool false)), none⟩,
     ⟨some 4, .mv (.t 19), none⟩] [4])
   .ret))),
[.tmp 4]⟩
theorem F5_ok : prepF Go.Proofs.Tryz.prog ⟨[], [(0, [0, 1]), (1, [0, 1, 7]), (2, [0, 1]), (3, [4])], []⟩ Go.Proofs.Tryz.f5 = some F5 := by kernel_rfl
theorem F5_fn : FnOK2 Go.Proofs.Tryz.prog 5 (.pl F5) := .pl Go.Proofs.Tryz.func5 (by kernel_rfl) F5_ok
/-- emend/align.Cost -/
def F11 : DF := ⟨2,
(.seq
 (.reg [
   ⟨some 4, .mv (.c (.sl 1 ⟨none, 0, (some 0), true⟩ [])), none⟩,
   ⟨some 5, .mv (.c (.int .i64 0)), none⟩,
   ⟨some 6, .mv (.c (.int .i64 0)), none⟩] [0, 1])
 (.seq
  (.seq
   (.reg [
     ⟨some 13, .mv (.t 0), none⟩,
     ⟨some 14, .len (.t 13), none⟩,
     ⟨some 15, .bin .gtr none (.t 14) (.c (.int .i64 0)), none⟩,
     ⟨some 16, .mv (.t 15), none⟩,
     ⟨some 17, .mv (.t 1), some (16, true)⟩,
     ⟨some 18, .len (.t 17), some (16, true)⟩,
     ⟨some 19, .mv (.t 0), some (16, true)⟩,
     ⟨some 20, .len (.t 19), some (16, true)⟩,
     ⟨some 21, .bin .quo none (.c (.int .i64 65536)) (.t 20), some (16, true)⟩,
     ⟨some 22, .bin .gtr none (.t 18) (.t 21), some (16, true)⟩,
     ⟨some 23, .pick (.t 16) (.t 22) (.c (.bool false)), none⟩] [0, 1, 23])
   (.cnd (.t 23)
    (.seq
     (.reg [
       ⟨some 4, .mv (.c (.sl 1 ⟨none, 0, (some 0), true⟩ [])), none⟩,
       ⟨some 5, .mv (.c (.int .i64 0)), none⟩,
       ⟨some 6, .mv (.c (.int .i64 52)), none⟩] [4, 5, 6])
     .ret)
    .skip))
  (.seq
   (.reg [
     ⟨some 24, .mv (.t 1), none⟩,
     ⟨some 25, .len (.t 24), none⟩,
     ⟨some 26, .mks 3 1 8 (.int .i64 0) (.t 25) (.t 25), none⟩,
     ⟨some 7, .mv (.t 26), none⟩] [0, 1, 7])
   (.seq
    (.seq
     (.reg [
       ⟨some 27, .mv (.t 7), none⟩,
       ⟨some 28, .len (.t 27), none⟩,
       ⟨some 29, .mv (.c (.int .i64 0)), none⟩] [0, 1, 7, 28, 29])
     (.blk 0
      (.seq
       (.trim [0, 1, 7, 28, 29])
       (.lop
        (.seq
         (.seq
          (.reg [
            ⟨some 30, .bin .lss none (.t 29) (.t 28), none⟩] [0, 1, 7, 28, 29, 30])
          (.seq
           (.cnd (.t 30)
            .skip
            (.exit 0))
           (.seq
            (.blk 1
             (.seq
              (.reg [
                ⟨some 31, .mv (.t 29), none⟩,
                ⟨some 8, .mv (.t 31), none⟩] [0, 1, 7, 8, 28, 29])
              (.reg [
                ⟨some 32, .mv (.t 7), none⟩,
                ⟨some 33, .mv (.t 8), none⟩,
                ⟨some 34, .ia 1 (.t 32) (.t 33), none⟩,
                ⟨none, .st 1 (.t 34) (.c (.int .i64 (-1))), none⟩] [0, 1, 7, 28, 29])))
            (.reg [
              ⟨some 35, .bin .add none (.t 29) (.c (.int .i64 1)), none⟩,
              ⟨some 29, .mv (.t 35), none⟩] [0, 1, 7, 28, 29]))))
         (.trim [0, 1, 7, 28, 29]))))))
    (.seq
     (.seq
      (.reg [
        ⟨some 36, .mv (.t 0), none⟩,
        ⟨some 37, .len (.t 36), none⟩,
        ⟨some 38, .bin .eql (some .int) (.t 37) (.c (.int .i64 0)), none⟩,
        ⟨some 39, .mv (.t 38), none⟩,
        ⟨some 40, .mv (.t 1), some (39, false)⟩,
        ⟨some 41, .len (.t 40), some (39, false)⟩,
        ⟨some 42, .bin .eql (some .int) (.t 41) (.c (.int .i64 0)), some (39, false)⟩,
        ⟨some 43, .pick (.t 39) (.c (.bool true)) (.t 42), none⟩] [0, 1, 7, 43])
      (.cnd (.t 43)
       (.seq
        (.reg [
          ⟨some 44, .mv (.t 7), none⟩,
          ⟨some 45, .mv (.t 0), none⟩,
          ⟨some 46, .len (.t 45), none⟩,
          ⟨some 47, .mv (.t 1), none⟩,
          ⟨some 48, .len (.t 47), none⟩,
          ⟨some 49, .bin .add none (.t 46) (.t 48), none⟩,
          ⟨some 50, .bin .mul none (.c (.int .i64 2)) (.t 49), none⟩,
          ⟨some 4, .mv (.t 44), none⟩,
          ⟨some 5, .mv (.t 50), none⟩,
          ⟨some 6, .mv (.c (.int .i64 0)), none⟩] [4, 5, 6])
        .ret)
       .skip))
     (.seq
      (.reg [
        ⟨some 51, .mv (.t 0), none⟩,
        ⟨some 52, .mv (.t 1), none⟩,
        ⟨some 53, .mkm, none⟩,
        ⟨some 54, .bld [(.sl 4 ⟨none, 0, (some 0), true⟩ []), (.sl 4 ⟨none, 0, (some 0), true⟩ []), .nilmap] [(0, 1, (.t 51)), (1, 1, (.t 52)), (2, 1, (.t 53))], none⟩,
        ⟨some 55, .bxH 56 (.t 54), none⟩,
        ⟨some 9, .mv (.t 55), none⟩] [0, 1, 7, 9])
      (.seq
       (.reg [
         ⟨some 56, .mv (.t 9), none⟩,
         ⟨some 57, .call 27 [(.t 56)], none⟩] [0, 1, 7, 9])
       (.seq
        (.reg [
          ⟨some 58, .mv (.t 0), none⟩,
          ⟨some 59, .len (.t 58), none⟩,
          ⟨some 60, .mv (.t 1), none⟩,
          ⟨some 61, .len (.t 60), none⟩,
          ⟨some 10, .mv (.t 59), none⟩,
          ⟨some 11, .mv (.t 61), none⟩] [0, 1, 7, 9, 10, 11])
        (.seq
         (.blk 2
          (.seq
           (.trim [0, 1, 7, 9, 10, 11])
           (.lop
            (.seq
             (.seq
              (.seq
               (.reg [
                 ⟨some 62, .mv (.t 10), none⟩,
                 ⟨some 63, .bin .gtr none (.t 62) (.c (.int .i64 0)), none⟩,
                 ⟨some 64, .mv (.t 63), none⟩,
                 ⟨some 65, .mv (.t 11), some (64, true)⟩,
                 ⟨some 66, .bin .gtr none (.t 65) (.c (.int .i64 0)), some (64, true)⟩,
                 ⟨some 67, .pick (.t 64) (.t 66) (.c (.bool false)), none⟩] [0, 1, 7, 9, 10, 11, 67])
               (.cnd (.t 67)
                .skip
                (.exit 2)))
              (.blk 3
               (.seq
                (.reg [
                  ⟨some 68, .mv (.t 9), none⟩,
                  ⟨some 69, .nilc (.t 68), none⟩,
                  ⟨some 70, .fa 2 (.t 69), none⟩,
                  ⟨some 71, .ld false 1 (.t 70), none⟩,
                  ⟨some 72, .mv (.t 10), none⟩,
                  ⟨some 73, .mv (.t 11), none⟩,
                  ⟨some 74, .bld [(.int .i64 0), (.int .i64 0)] [(0, 1, (.t 72)), (1, 1, (.t 73))], none⟩,
                  ⟨some 75, .lkp (.st [(0, .int), (1, .int)]) (.int .i64 0) (.t 71) (.t 74) false, none⟩,
                  ⟨some 12, .mv (.t 75), none⟩] [0, 1, 7, 9, 10, 11, 12])
                (.blk 4
                 (.seq
                  (.drw [
                    ((⟨some 79, .mv (.t 12), none⟩, none), []),
                    ((⟨some 80, .mv (.t 9), none⟩, none), []),
                    ((⟨some 81, .nilc (.t 80), none⟩, none), []),
                    ((⟨some 82, .fa 2 (.t 81), none⟩, none), []),
                    ((⟨some 83, .ld false 1 (.t 82), none⟩, none), []),
                    ((⟨some 84, .mv (.t 10), none⟩, none), []),
                    ((⟨some 85, .bin .sub none (.t 84) (.c (.int .i64 1)), none⟩, none), []),
                    ((⟨some 86, .mv (.t 11), none⟩, none), []),
                    ((⟨some 87, .bin .sub none (.t 86) (.c (.int .i64 1)), none⟩, none), []),
                    ((⟨some 88, .bld [(.int .i64 0), (.int .i64 0)] [(0, 1, (.t 85)), (1, 1, (.t 87))], none⟩, none), []),
                    ((⟨some 89, .lkp (.st [(0, .int), (1, .int)]) (.int .i64 0) (.t 83) (.t 88) false, none⟩, none), []),
                    ((⟨some 90, .mv (.t 9), none⟩, none), []),
                    ((⟨some 91, .mv (.t 10), none⟩, none), []),
                    ((⟨some 92, .mv (.t 11), none⟩, none), []),
                    ((⟨some 93, .call 28 [(.t 90), (.t 91), (.t 92)], none⟩, none), [(⟨some 83, .ld false 1 (.t 82), none⟩, none), (⟨some 89, .lkp (.st [(0, .int), (1, .int)]) (.int .i64 0) (.t 83) (.t 88) false, none⟩, none)]),
                    ((⟨some 94, .bin .add none (.t 89) (.t 93), none⟩, none), []),
                    ((⟨some 95, .bin .eql (some .int) (.t 79) (.t 94), none⟩, none), []),
                    ((⟨some 78, .mv (.t 95), none⟩, none), [])] [0, 1, 7, 9, 10, 11, 12, 78])
                  (.cnd (.t 78)
                   (.seq
                    (.reg [
                      ⟨some 96, .mv (.t 7), none⟩,
                      ⟨some 97, .mv (.t 11), none⟩,
                      ⟨some 98, .bin .sub none (.t 97) (.c (.int .i64 1)), none⟩,
                      ⟨some 99, .mv (.t 10), none⟩,
                      ⟨some 100, .bin .sub none (.t 99) (.c (.int .i64 1)), none⟩,
                      ⟨some 101, .ia 1 (.t 96) (.t 98), none⟩,
                      ⟨none, .st 1 (.t 101) (.t 100), none⟩] [0, 1, 7, 9, 10, 11])
                    (.reg [
                      ⟨some 102, .mv (.t 10), none⟩,
                      ⟨some 103, .bin .sub none (.t 102) (.c (.int .i64 1)), none⟩,
                      ⟨some 104, .mv (.t 11), none⟩,
                      ⟨some 105, .bin .sub none (.t 104) (.c (.int .i64 1)), none⟩,
                      ⟨some 10, .mv (.t 103), none⟩,
                      ⟨some 11, .mv (.t 105), none⟩] [0, 1, 7, 9, 10, 11]))
                   (.seq
                    (.reg [
                      ⟨some 107, .mv (.t 12), none⟩,
                      ⟨some 108, .mv (.t 9), none⟩,
                      ⟨some 109, .nilc (.t 108), none⟩,
                      ⟨some 110, .fa 2 (.t 109), none⟩,
                      ⟨some 111, .ld false 1 (.t 110), none⟩,
                      ⟨some 112, .mv (.t 10), none⟩,
                      ⟨some 113, .bin .sub none (.t 112) (.c (.int .i64 1)), none⟩,
                      ⟨some 114, .mv (.t 11), none⟩,
                      ⟨some 115, .bld [(.int .i64 0), (.int .i64 0)] [(0, 1, (.t 113)), (1, 1, (.t 114))], none⟩,
                      ⟨some 116, .lkp (.st [(0, .int), (1, .int)]) (.int .i64 0) (.t 111) (.t 115) false, none⟩,
                      ⟨some 117, .bin .add none (.t 116) (.c (.int .i64 2)), none⟩,
                      ⟨some 118, .bin .eql (some .int) (.t 107) (.t 117), none⟩,
                      ⟨some 106, .mv (.t 118), none⟩] [0, 1, 7, 9, 10, 11, 106])
                    (.cnd (.t 106)
                     (.reg [
                       ⟨some 119, .mv (.t 10), none⟩,
                       ⟨some 120, .bin .sub none (.t 119) (.c (.int .i64 1)), none⟩,
                       ⟨some 10, .mv (.t 120), none⟩] [0, 1, 7, 9, 10, 11])
                     (.reg [
                       ⟨some 76, .mv (.t 11), none⟩,
                       ⟨some 77, .bin .sub none (.t 76) (.c (.int .i64 1)), none⟩,
                       ⟨some 11, .mv (.t 77), none⟩] [0, 1, 7, 9, 10, 11])))))))))
             (.trim [0, 1, 7, 9, 10, 11])))))
         (.seq
          (.drw [
            ((⟨some 121, .mv (.t 7), none⟩, none), []),
            ((⟨some 122, .mv (.t 9), none⟩, none), []),
            ((⟨some 123, .nilc (.t 122), none⟩, none), []),
            ((⟨some 124, .fa 2 (.t 123), none⟩, none), []),
            ((⟨some 125, .ld false 1 (.t 124), none⟩, none), []),
            ((⟨some 126, .mv (.t 0), none⟩, none), []),
            ((⟨some 127, .len (.t 126), none⟩, none), []),
            ((⟨some 128, .mv (.t 1), none⟩, none), []),
            ((⟨some 129, .len (.t 128), none⟩, none), []),
            ((⟨some 130, .bld [(.int .i64 0), (.int .i64 0)] [(0, 1, (.t 127)), (1, 1, (.t 129))], none⟩, none), []),
            ((⟨some 131, .lkp (.st [(0, .int), (1, .int)]) (.int .i64 0) (.t 125) (.t 130) false, none⟩, none), []),
            ((⟨some 4, .mv (.t 121), none⟩, none), []),
            ((⟨some 5, .mv (.t 131), none⟩, none), []),
            ((⟨some 6, .mv (.c (.int .i64 0)), none⟩, none), [])] [4, 5, 6])
          .ret)))))))))),
[.tmp 4, .tmp 5, .tmp 6]⟩
theorem F11_ok : prepF Go.Proofs.Tryz.prog ⟨[], [(0, [0, 1]), (1, [0, 1, 23]), (2, [4, 5, 6]), (3, [0, 1, 7]), (4, [0, 1, 7, 28, 29]), (5, [0, 1, 7, 28, 29, 30]), (6, [0, 1, 7, 8, 28, 29]), (7, [0, 1, 7, 28, 29]), (8, [0, 1, 7, 28, 29]), (9, [0, 1, 7, 43]), (10, [4, 5, 6]), (11, [0, 1, 7, 9]), (12, [0, 1, 7, 9]), (13, [0, 1, 7, 9, 10, 11]), (14, [0, 1, 7, 9, 10, 11, 67]), (15, [0, 1, 7, 9, 10, 11, 12]), (16, [0, 1, 7, 9, 10, 11]), (17, [0, 1, 7, 9, 10, 11, 12, 78]), (18, [0, 1, 7, 9, 10, 11]), (19, [0, 1, 7, 9, 10, 11]), (20, [0, 1, 7, 9, 10, 11, 106]), (21, [0, 1, 7, 9, 10, 11]), (22, [4, 5, 6]), (1000000, [0, 1, 7, 28, 29]), (1000002, [0, 1, 7, 9, 10, 11])], []⟩ Go.Proofs.Tryz.f11 = some F11 := by kernel_rfl
theorem F11_fn : FnOK2 Go.Proofs.Tryz.prog 11 (.pl F11) := .pl Go.Proofs.Tryz.func11 (by kernel_rfl) F11_ok
/-- emend/emendlaw13.of -/
def F12 : DF := ⟨1,
(.seq
 (.reg [
   ⟨some 2, .mv (.c (.sl 4 ⟨none, 0, (some 0), true⟩ [])), none⟩] [0])
 (.seq
  (.reg [
    ⟨some 6, .mv (.t 0), none⟩,
    ⟨some 7, .call 29 [(.t 6)], none⟩,
    ⟨some 5, .mv (.t 7), none⟩,
    ⟨some 8, .ext (.t 5) 0, none⟩,
    ⟨some 9, .ext (.t 5) 1, none⟩,
    ⟨some 3, .alL [(.int .i64 0), (.str []), (.sl 1 ⟨none, 0, (some 0), true⟩ []), (.sl 4 ⟨none, 0, (some 0), true⟩ [])], none⟩,
    ⟨none, .st 4 (.t 3) (.t 8), none⟩,
    ⟨some 4, .mv (.t 9), none⟩] [3])
  (.seq
   (.reg [
     ⟨some 10, .fa 3 (.t 3), none⟩,
     ⟨some 11, .ld false 1 (.t 10), none⟩,
     ⟨some 2, .mv (.t 11), none⟩] [2])
   .ret))),
[.tmp 2]⟩
theorem F12_ok : prepF Go.Proofs.Tryz.prog ⟨[3], [(0, [0]), (1, [3]), (2, [2])], []⟩ Go.Proofs.Tryz.f12 = some F12 := by kernel_rfl
theorem F12_fn : FnOK2 Go.Proofs.Tryz.prog 12 (.pl F12) := .pl Go.Proofs.Tryz.func12 (by kernel_rfl) F12_ok
/-- emend/align.Do -/
def F13 : DF := ⟨4,
(.seq
 (.reg [
   ⟨some 8, .mv (.c (.sl 1 ⟨none, 0, (some 0), true⟩ [])), none⟩,
   ⟨some 9, .mv (.c (.int .i64 0)), none⟩] [0, 1, 2, 3])
 (.seq
  (.seq
   (.reg [
     ⟨some 13, .mv (.t 0), none⟩] [1, 2, 3, 13])
   (.blk 0
    (.seq
     (.reg [
       ⟨some 15, .bin .eql (some .int) (.t 13) (.c (.int .i64 1)), none⟩,
       ⟨some 14, .mv (.t 15), none⟩] [1, 2, 3, 13, 14])
     (.cnd (.t 14)
      (.seq
       (.reg [
         ⟨some 16, .mv (.t 2), none⟩,
         ⟨some 17, .mv (.t 3), none⟩,
         ⟨some 18, .call 15 [(.t 16), (.t 17)], none⟩,
         ⟨some 8, .mv (.t 18), none⟩,
         ⟨some 9, .mv (.c (.int .i64 0)), none⟩] [8, 9])
       .ret)
      (.seq
       (.reg [
         ⟨some 20, .bin .eql (some .int) (.t 13) (.c (.int .i64 2)), none⟩,
         ⟨some 19, .mv (.t 20), none⟩] [1, 2, 3, 13, 19])
       (.cnd (.t 19)
        (.seq
         (.reg [
           ⟨some 21, .mv (.t 2), none⟩,
           ⟨some 22, .mv (.t 3), none⟩,
           ⟨some 23, .mv (.t 1), none⟩,
           ⟨some 24, .call 16 [(.t 21), (.t 22), (.t 23)], none⟩,
           ⟨some 8, .mv (.t 24), none⟩,
           ⟨some 9, .mv (.c (.int .i64 0)), none⟩] [8, 9])
         .ret)
        (.seq
         (.reg [
           ⟨some 26, .bin .eql (some .int) (.t 13) (.c (.int .i64 3)), none⟩,
           ⟨some 25, .mv (.t 26), none⟩] [2, 3, 25])
         (.cnd (.t 25)
          (.seq
           (.reg [
             ⟨some 28, .mv (.t 2), none⟩,
             ⟨some 29, .mv (.t 3), none⟩,
             ⟨some 30, .call 11 [(.t 28), (.t 29)], none⟩,
             ⟨some 27, .mv (.t 30), none⟩,
             ⟨some 31, .ext (.t 27) 0, none⟩,
             ⟨some 32, .ext (.t 27) 1, none⟩,
             ⟨some 33, .ext (.t 27) 2, none⟩,
             ⟨some 10, .mv (.t 31), none⟩,
             ⟨some 11, .mv (.t 32), none⟩,
             ⟨some 12, .mv (.t 33), none⟩] [10, 12])
           (.seq
            (.reg [
              ⟨some 34, .mv (.t 10), none⟩,
              ⟨some 35, .mv (.t 12), none⟩,
              ⟨some 8, .mv (.t 34), none⟩,
              ⟨some 9, .mv (.t 35), none⟩] [8, 9])
            .ret))
          .skip))))))))
  (.seq
   (.reg [
     ⟨some 8, .mv (.c (.sl 1 ⟨none, 0, (some 0), true⟩ [])), none⟩,
     ⟨some 9, .mv (.c (.int .i64 1)), none⟩] [8, 9])
   .ret))),
[.tmp 8, .tmp 9]⟩
theorem F13_ok : prepF Go.Proofs.Tryz.prog ⟨[], [(0, [0, 1, 2, 3]), (1, [1, 2, 3, 13]), (2, [1, 2, 3, 13, 14]), (3, [8, 9]), (4, [1, 2, 3, 13, 19]), (5, [8, 9]), (6, [2, 3, 25]), (7, [10, 12]), (8, [8, 9]), (9, [8, 9])], []⟩ Go.Proofs.Tryz.f13 = some F13 := by kernel_rfl
theorem F13_fn : FnOK2 Go.Proofs.Tryz.prog 13 (.pl F13) := .pl Go.Proofs.Tryz.func13 (by kernel_rfl) F13_ok
/-- emend/emendbook.Same[int] -/
def F14 : DF := ⟨2,
(.seq
 (.reg [
   ⟨some 4, .mv (.c (.bool false)), none⟩] [0, 1])
 (.seq
  (.seq
   (.reg [
     ⟨some 6, .mv (.t 0), none⟩,
     ⟨some 7, .len (.t 6), none⟩,
     ⟨some 8, .mv (.t 1), none⟩,
     ⟨some 9, .len (.t 8), none⟩,
     ⟨some 10, .bin .neq (some .int) (.t 7) (.t 9), none⟩] [0, 1, 10])
   (.cnd (.t 10)
    (.seq
     (.reg [
       ⟨some 4, .mv (.c (.bool false)), none⟩] [4])
     .ret)
    .skip))
  (.seq
   (.seq
    (.reg [
      ⟨some 5, .mv (.c (.int .i64 0)), none⟩] [0, 1, 5])
    (.blk 0
     (.seq
      (.trim [0, 1, 5])
      (.lop
       (.seq
        (.seq
         (.seq
          (.reg [
            ⟨some 11, .mv (.t 5), none⟩,
            ⟨some 12, .mv (.t 0), none⟩,
            ⟨some 13, .len (.t 12), none⟩,
            ⟨some 14, .bin .lss none (.t 11) (.t 13), none⟩] [0, 1, 5, 14])
          (.cnd (.t 14)
           .skip
           (.exit 0)))
         (.seq
          (.blk 1
           (.seq
            (.drw [
              ((⟨some 17, .mv (.t 0), none⟩, none), []),
              ((⟨some 18, .mv (.t 5), none⟩, none), []),
              ((⟨some 19, .ia 1 (.t 17) (.t 18), none⟩, none), []),
              ((⟨some 20, .ld false 1 (.t 19), none⟩, none), []),
              ((⟨some 21, .mv (.t 1), none⟩, none), []),
              ((⟨some 22, .mv (.t 5), none⟩, none), []),
              ((⟨some 23, .ia 1 (.t 21) (.t 22), none⟩, none), []),
              ((⟨some 24, .ld false 1 (.t 23), none⟩, none), []),
              ((⟨some 25, .bin .neq (some .int) (.t 20) (.t 24), none⟩, none), [])] [0, 1, 5, 25])
            (.cnd (.t 25)
             (.seq
              (.reg [
                ⟨some 4, .mv (.c (.bool false)), none⟩] [4])
              .ret)
             .skip)))
          (.reg [
            ⟨some 15, .mv (.t 5), none⟩,
            ⟨some 16, .bin .add none (.t 15) (.c (.int .i64 1)), none⟩,
            ⟨some 5, .mv (.t 16), none⟩] [0, 1, 5])))
        (.trim [0, 1, 5]))))))
   (.seq
    (.reg [
      ⟨some 4, .mv (.c (.bool true)), none⟩] [4])
    .ret)))),
[.tmp 4]⟩
theorem F14_ok : prepF Go.Proofs.Tryz.prog ⟨[], [(0, [0, 1]), (1, [0, 1, 10]), (2, [4]), (3, [0, 1, 5]), (4, [0, 1, 5, 14]), (5, [0, 1, 5]), (6, [0, 1, 5, 25]), (7, [4]), (8, [4]), (1000000, [0, 1, 5])], []⟩ Go.Proofs.Tryz.f14 = some F14 := by kernel_rfl
theorem F14_fn : FnOK2 Go.Proofs.Tryz.prog 14 (.pl F14) := .pl Go.Proofs.Tryz.func14 (by kernel_rfl) F14_ok
/-- emend/align.Place -/
def F15 : DF := ⟨2,
(.seq
 (.reg [
   ⟨some 4, .mv (.c (.sl 1 ⟨none, 0, (some 0), true⟩ [])), none⟩] [0, 1])
 (.seq
  (.reg [
    ⟨some 7, .mv (.t 1), none⟩,
    ⟨some 8, .len (.t 7), none⟩,
    ⟨some 9, .mks 3 1 8 (.int .i64 0) (.c (.int .i64 0)) (.t 8), none⟩,
    ⟨some 5, .mv (.t 9), none⟩] [0, 1, 5])
  (.seq
   (.seq
    (.reg [
      ⟨some 10, .mv (.t 1), none⟩,
      ⟨some 11, .len (.t 10), none⟩,
      ⟨some 12, .mv (.c (.int .i64 0)), none⟩] [0, 5, 11, 12])
    (.blk 0
     (.seq
      (.trim [0, 5, 11, 12])
      (.lop
       (.seq
        (.seq
         (.reg [
           ⟨some 13, .bin .lss none (.t 12) (.t 11), none⟩] [0, 5, 11, 12, 13])
         (.seq
          (.cnd (.t 13)
           .skip
           (.exit 0))
          (.seq
           (.blk 1
            (.seq
             (.reg [
               ⟨some 14, .mv (.t 12), none⟩,
               ⟨some 6, .mv (.t 14), none⟩] [0, 5, 6, 11, 12])
             (.seq
              (.reg [
                ⟨some 15, .mv (.t 6), none⟩,
                ⟨some 16, .mv (.t 0), none⟩,
                ⟨some 17, .len (.t 16), none⟩,
                ⟨some 18, .bin .lss none (.t 15) (.t 17), none⟩] [0, 5, 6, 11, 12, 18])
              (.cnd (.t 18)
               (.reg [
                 ⟨some 19, .mv (.t 5), none⟩,
                 ⟨some 20, .mv (.t 6), none⟩,
                 ⟨some 21, .bldT 3 1 1 (.int .i64 0) [(0, (.t 20))], none⟩,
                 ⟨some 22, .app false 3 1 8 (.t 19) (.t 21), none⟩,
                 ⟨some 5, .mv (.t 22), none⟩] [0, 5, 11, 12])
               (.reg [
                 ⟨some 23, .mv (.t 5), none⟩,
                 ⟨some 24, .bldT 3 1 1 (.int .i64 0) [(0, (.c (.int .i64 (-1))))], none⟩,
                 ⟨some 25, .app false 3 1 8 (.t 23) (.t 24), none⟩,
                 ⟨some 5, .mv (.t 25), none⟩] [0, 5, 11, 12])))))
           (.reg [
             ⟨some 26, .bin .add none (.t 12) (.c (.int .i64 1)), none⟩,
             ⟨some 12, .mv (.t 26), none⟩] [0, 5, 11, 12]))))
        (.trim [0, 5, 11, 12]))))))
   (.seq
    (.reg [
      ⟨some 27, .mv (.t 5), none⟩,
      ⟨some 4, .mv (.t 27), none⟩] [4])
    .ret)))),
[.tmp 4]⟩
theorem F15_ok : prepF Go.Proofs.Tryz.prog ⟨[], [(0, [0, 1]), (1, [0, 1, 5]), (2, [0, 5, 11, 12]), (3, [0, 5, 11, 12, 13]), (4, [0, 5, 6, 11, 12]), (5, [0, 5, 6, 11, 12, 18]), (6, [0, 5, 11, 12]), (7, [0, 5, 11, 12]), (8, [0, 5, 11, 12]), (9, [4]), (1000000, [0, 5, 11, 12])], []⟩ Go.Proofs.Tryz.f15 = some F15 := by kernel_rfl
theorem F15_fn : FnOK2 Go.Proofs.Tryz.prog 15 (.pl F15) := .pl Go.Proofs.Tryz.func15 (by kernel_rfl) F15_ok
/-- emend/align.Key -/
def F16 : DF := ⟨3,
(.seq
 (.reg [
   ⟨some 6, .mv (.c (.sl 1 ⟨none, 0, (some 0), true⟩ [])), none⟩] [0, 1, 2])
 (.seq
  (.reg [
    ⟨some 18, .mkm, none⟩,
    ⟨some 7, .mv (.t 18), none⟩] [0, 1, 2, 7])
  (.seq
   (.reg [
     ⟨some 19, .mv (.t 1), none⟩,
     ⟨some 20, .len (.t 19), none⟩,
     ⟨some 21, .mks 3 1 8 (.int .i64 0) (.c (.int .i64 0)) (.t 20), none⟩,
     ⟨some 8, .mv (.t 21), none⟩] [0, 1, 2, 7, 8])
   (.seq
    (.seq
     (.reg [
       ⟨some 22, .mv (.t 1), none⟩,
       ⟨some 23, .len (.t 22), none⟩,
       ⟨some 24, .mv (.c (.int .i64 0)), none⟩] [0, 2, 7, 8, 22, 23, 24])
     (.blk 0
      (.seq
       (.trim [0, 2, 7, 8, 22, 23, 24])
       (.lop
        (.seq
         (.seq
          (.reg [
            ⟨some 25, .bin .lss none (.t 24) (.t 23), none⟩] [0, 2, 7, 8, 22, 23, 24, 25])
          (.seq
           (.cnd (.t 25)
            .skip
            (.exit 0))
           (.seq
            (.blk 1
             (.seq
              (.reg [
                ⟨some 26, .ia 4 (.t 22) (.t 24), none⟩,
                ⟨some 27, .ld true 4 (.t 26), none⟩,
                ⟨some 10, .alL [(.int .i64 0), (.str []), (.sl 1 ⟨none, 0, (some 0), true⟩ []), (.sl 4 ⟨none, 0, (some 0), true⟩ [])], none⟩,
                ⟨none, .st 4 (.t 10) (.t 27), none⟩] [0, 2, 7, 8, 10, 22, 23, 24])
              (.seq
               (.reg [
                 ⟨some 29, .ld true 4 (.t 10), none⟩,
                 ⟨some 30, .mv (.t 2), none⟩,
                 ⟨some 31, .call 30 [(.t 29), (.t 30)], none⟩,
                 ⟨some 28, .mv (.t 31), none⟩,
                 ⟨some 32, .ext (.t 28) 0, none⟩,
                 ⟨some 33, .ext (.t 28) 1, none⟩,
                 ⟨some 11, .alL [(.int .i64 0), (.str []), (.sl 1 ⟨none, 0, (some 0), true⟩ []), (.sl 4 ⟨none, 0, (some 0), true⟩ [])], none⟩,
                 ⟨none, .st 4 (.t 11) (.t 32), none⟩,
                 ⟨some 12, .mv (.t 33), none⟩] [0, 2, 7, 8, 11, 12, 22, 23, 24])
               (.seq
                (.reg [
                  ⟨some 13, .mv (.c (.int .i64 (-1))), none⟩] [0, 2, 7, 8, 11, 12, 13, 22, 23, 24])
                (.seq
                 (.seq
                  (.reg [
                    ⟨some 34, .mv (.t 0), none⟩,
                    ⟨some 35, .len (.t 34), none⟩,
                    ⟨some 36, .mv (.c (.int .i64 0)), none⟩] [0, 2, 7, 8, 11, 12, 13, 22, 23, 24, 34, 35, 36])
                  (.blk 2
                   (.seq
                    (.trim [0, 2, 7, 8, 11, 12, 13, 22, 23, 24, 34, 35, 36])
                    (.lop
                     (.seq
                      (.seq
                       (.reg [
                         ⟨some 37, .bin .lss none (.t 36) (.t 35), none⟩] [0, 2, 7, 8, 11, 12, 13, 22, 23, 24, 34, 35, 36, 37])
                       (.seq
                        (.cnd (.t 37)
                         .skip
                         (.exit 2))
                        (.seq
                         (.blk 3
                          (.seq
                           (.reg [
                             ⟨some 38, .mv (.t 36), none⟩,
                             ⟨some 39, .ia 4 (.t 34) (.t 36), none⟩,
                             ⟨some 40, .ld true 4 (.t 39), none⟩,
                             ⟨some 15, .alL [(.int .i64 0), (.str []), (.sl 1 ⟨none, 0, (some 0), true⟩ []), (.sl 4 ⟨none, 0, (some 0), true⟩ [])], none⟩,
                             ⟨some 14, .mv (.t 38), none⟩,
                             ⟨none, .st 4 (.t 15) (.t 40), none⟩] [0, 2, 7, 8, 11, 12, 13, 14, 15, 22, 23, 24, 34, 35, 36])
                           (.seq
                            (.reg [
                              ⟨some 42, .ld true 4 (.t 15), none⟩,
                              ⟨some 43, .mv (.t 2), none⟩,
                              ⟨some 44, .call 30 [(.t 42), (.t 43)], none⟩,
                              ⟨some 41, .mv (.t 44), none⟩,
                              ⟨some 45, .ext (.t 41) 0, none⟩,
                              ⟨some 46, .ext (.t 41) 1, none⟩,
                              ⟨some 16, .alL [(.int .i64 0), (.str []), (.sl 1 ⟨none, 0, (some 0), true⟩ []), (.sl 4 ⟨none, 0, (some 0), true⟩ [])], none⟩,
                              ⟨none, .st 4 (.t 16) (.t 45), none⟩,
                              ⟨some 17, .mv (.t 46), none⟩] [0, 2, 7, 8, 11, 12, 13, 14, 16, 17, 22, 23, 24, 34, 35, 36])
                            (.seq
                             (.reg [
                               ⟨some 47, .mv (.t 13), none⟩,
                               ⟨some 48, .bin .lss none (.t 47) (.c (.int .i64 0)), none⟩,
                               ⟨some 49, .mv (.t 48), none⟩,
                               ⟨some 50, .mv (.t 7), some (49, true)⟩,
                               ⟨some 51, .mv (.t 14), some (49, true)⟩,
                               ⟨some 52, .bld [(.int .i64 0)] [(0, 1, (.t 51))], some (49, true)⟩,
                               ⟨some 53, .lkp (.st [(0, .int)]) (.int .i64 0) (.t 50) (.t 52) false, some (49, true)⟩,
                               ⟨some 54, .bin .eql (some .int) (.t 53) (.c (.int .i64 0)), some (49, true)⟩,
                               ⟨some 55, .pick (.t 49) (.t 54) (.c (.bool false)), none⟩,
                               ⟨some 56, .mv (.t 55), none⟩,
                               ⟨some 57, .mv (.t 12), some (56, true)⟩,
                               ⟨some 58, .mv (.t 17), some (56, true)⟩,
                               ⟨some 59, .bin .eql (some .bool) (.t 57) (.t 58), some (56, true)⟩,
                               ⟨some 60, .pick (.t 56) (.t 59) (.c (.bool false)), none⟩,
                               ⟨some 61, .mv (.t 60), none⟩,
                               ⟨some 62, .mv (.t 12), some (61, true)⟩,
                               ⟨some 63, .un .not (.t 62), some (61, true)⟩,
                               ⟨some 64, .mv (.t 63), some (61, true)⟩,
                               ⟨some 65, .ld true 4 (.t 11), some (64, false)⟩,
                               ⟨some 66, .ld true 4 (.t 16), some (64, false)⟩,
                               ⟨some 67, .call 31 [(.t 65), (.t 66)], some (64, false)⟩,
                               ⟨some 68, .pick (.t 64) (.c (.bool true)) (.t 67), some (61, true)⟩,
                               ⟨some 69, .pick (.t 61) (.t 68) (.c (.bool false)), none⟩] [0, 2, 7, 8, 11, 12, 13, 14, 22, 23, 24, 34, 35, 36, 69])
                             (.cnd (.t 69)
                              (.seq
                               (.reg [
                                 ⟨some 70, .mv (.t 14), none⟩,
                                 ⟨some 13, .mv (.t 70), none⟩] [0, 2, 7, 8, 11, 12, 13, 14, 22, 23, 24, 34, 35, 36])
                               (.drw [
                                 ((⟨some 71, .mv (.t 7), none⟩, none), []),
                                 ((⟨some 72, .mv (.t 14), none⟩, none), []),
                                 ((⟨some 73, .bld [(.int .i64 0)] [(0, 1, (.t 72))], none⟩, none), []),
                                 ((⟨some 74, .lkp (.st [(0, .int)]) (.int .i64 0) (.t 71) (.t 73) false, none⟩, none), []),
                                 ((⟨some 75, .bin .add none (.t 74) (.c (.int .i64 1)), none⟩, none), []),
                                 ((⟨some 76, .mpe (.st [(0, .int)]) (.int .i64 0) (.t 71) (.t 73), none⟩, none), [(⟨some 74, .lkp (.st [(0, .int)]) (.int .i64 0) (.t 71) (.t 73) false, none⟩, none)]),
                                 ((⟨some 77, .ext (.t 76) 1, none⟩, none), []),
                                 ((⟨none, .ens (.t 71) (.t 77) (.t 75), none⟩, none), [])] [0, 2, 7, 8, 11, 12, 13, 22, 23, 24, 34, 35, 36]))
                              .skip)))))
                         (.reg [
                           ⟨some 78, .bin .add none (.t 36) (.c (.int .i64 1)), none⟩,
                           ⟨some 36, .mv (.t 78), none⟩] [0, 2, 7, 8, 11, 12, 13, 22, 23, 24, 34, 35, 36]))))
                      (.trim [0, 2, 7, 8, 11, 12, 13, 22, 23, 24, 34, 35, 36]))))))
                 (.reg [
                   ⟨some 79, .mv (.t 8), none⟩,
                   ⟨some 80, .mv (.t 13), none⟩,
                   ⟨some 81, .bldT 3 1 1 (.int .i64 0) [(0, (.t 80))], none⟩,
                   ⟨some 82, .app false 3 1 8 (.t 79) (.t 81), none⟩,
                   ⟨some 8, .mv (.t 82), none⟩] [0, 2, 7, 8, 22, 23, 24]))))))
            (.reg [
              ⟨some 83, .bin .add none (.t 24) (.c (.int .i64 1)), none⟩,
              ⟨some 24, .mv (.t 83), none⟩] [0, 2, 7, 8, 22, 23, 24]))))
         (.trim [0, 2, 7, 8, 22, 23, 24]))))))
    (.seq
     (.reg [
       ⟨some 84, .mv (.t 8), none⟩,
       ⟨some 6, .mv (.t 84), none⟩] [6])
     .ret))))),
[.tmp 6]⟩
theorem F16_ok : prepF Go.Proofs.Tryz.prog ⟨[10, 11, 15, 16], [(0, [0, 1, 2]), (1, [0, 1, 2, 7]), (2, [0, 1, 2, 7, 8]), (3, [0, 2, 7, 8, 22, 23, 24]), (4, [0, 2, 7, 8, 22, 23, 24, 25]), (5, [0, 2, 7, 8, 10, 22, 23, 24]), (6, [0, 2, 7, 8, 11, 12, 22, 23, 24]), (7, [0, 2, 7, 8, 11, 12, 13, 22, 23, 24]), (8, [0, 2, 7, 8, 11, 12, 13, 22, 23, 24, 34, 35, 36]), (9, [0, 2, 7, 8, 11, 12, 13, 22, 23, 24, 34, 35, 36, 37]), (10, [0, 2, 7, 8, 11, 12, 13, 14, 15, 22, 23, 24, 34, 35, 36]), (11, [0, 2, 7, 8, 11, 12, 13, 14, 16, 17, 22, 23, 24, 34, 35, 36]), (12, [0, 2, 7, 8, 11, 12, 13, 14, 22, 23, 24, 34, 35, 36, 69]), (13, [0, 2, 7, 8, 11, 12, 13, 14, 22, 23, 24, 34, 35, 36]), (14, [0, 2, 7, 8, 11, 12, 13, 22, 23, 24, 34, 35, 36]), (15, [0, 2, 7, 8, 11, 12, 13, 22, 23, 24, 34, 35, 36]), (16, [0, 2, 7, 8, 22, 23, 24]), (17, [0, 2, 7, 8, 22, 23, 24]), (18, [6]), (1000000, [0, 2, 7, 8, 22, 23, 24]), (1000002, [0, 2, 7, 8, 11, 12, 13, 22, 23, 24, 34, 35, 36])], []⟩ Go.Proofs.Tryz.f16 = some F16 := by kernel_rfl
theorem F16_fn : FnOK2 Go.Proofs.Tryz.prog 16 (.pl F16) := .pl Go.Proofs.Tryz.func16 (by kernel_rfl) F16_ok
/-- emend/align.Right -/
def F17 : DF := ⟨2,
(.seq
 (.reg [
   ⟨some 4, .mv (.c (.bool false)), none⟩] [0, 1])
 (.seq
  (.reg [
    ⟨some 8, .mkm, none⟩,
    ⟨some 5, .mv (.t 8), none⟩] [0, 1, 5])
  (.seq
   (.seq
    (.reg [
      ⟨some 9, .mv (.t 0), none⟩,
      ⟨some 10, .len (.t 9), none⟩,
      ⟨some 11, .mv (.c (.int .i64 0)), none⟩] [1, 5, 9, 10, 11])
    (.blk 0
     (.seq
      (.trim [1, 5, 9, 10, 11])
      (.lop
       (.seq
        (.seq
         (.reg [
           ⟨some 12, .bin .lss none (.t 11) (.t 10), none⟩] [1, 5, 9, 10, 11, 12])
         (.seq
          (.cnd (.t 12)
           .skip
           (.exit 0))
          (.seq
           (.blk 1
            (.seq
             (.reg [
               ⟨some 13, .ia 1 (.t 9) (.t 11), none⟩,
               ⟨some 14, .ld false 1 (.t 13), none⟩,
               ⟨some 7, .mv (.t 14), none⟩] [1, 5, 7, 9, 10, 11])
             (.seq
              (.seq
               (.reg [
                 ⟨some 15, .mv (.t 7), none⟩,
                 ⟨some 16, .bin .lss none (.t 15) (.c (.int .i64 0)), none⟩] [1, 5, 7, 9, 10, 11, 16])
               (.cnd (.t 16)
                (.seq
                 (.seq
                  (.reg [
                    ⟨some 17, .mv (.t 7), none⟩,
                    ⟨some 18, .bin .lss none (.t 17) (.c (.int .i64 (-1))), none⟩] [1, 5, 9, 10, 11, 18])
                  (.cnd (.t 18)
                   (.seq
                    (.reg [
                      ⟨some 4, .mv (.c (.bool false)), none⟩] [4])
                    .ret)
                   .skip))
                 (.exit 1))
                .skip))
              (.seq
               (.reg [
                 ⟨some 19, .mv (.t 5), none⟩,
                 ⟨some 20, .mv (.t 7), none⟩,
                 ⟨some 21, .lkp .int (.int .i64 0) (.t 19) (.t 20) false, none⟩,
                 ⟨some 22, .bin .add none (.t 21) (.c (.int .i64 1)), none⟩,
                 ⟨none, .mup .int (.t 19) (.t 20) (.t 22), none⟩] [1, 5, 7, 9, 10, 11])
               (.seq
                (.reg [
                  ⟨some 23, .mv (.t 7), none⟩,
                  ⟨some 24, .mv (.t 1), none⟩,
                  ⟨some 25, .bin .geq none (.t 23) (.t 24), none⟩,
                  ⟨some 26, .mv (.t 25), none⟩,
                  ⟨some 27, .mv (.t 5), some (26, false)⟩,
                  ⟨some 28, .mv (.t 7), some (26, false)⟩,
                  ⟨some 29, .lkp .int (.int .i64 0) (.t 27) (.t 28) false, some (26, false)⟩,
                  ⟨some 30, .bin .gtr none (.t 29) (.c (.int .i64 1)), some (26, false)⟩,
                  ⟨some 31, .pick (.t 26) (.c (.bool true)) (.t 30), none⟩] [1, 5, 9, 10, 11, 31])
                (.cnd (.t 31)
                 (.seq
                  (.reg [
                    ⟨some 4, .mv (.c (.bool false)), none⟩] [4])
                  .ret)
                 .skip))))))
           (.reg [
             ⟨some 32, .bin .add none (.t 11) (.c (.int .i64 1)), none⟩,
             ⟨some 11, .mv (.t 32), none⟩] [1, 5, 9, 10, 11]))))
        (.trim [1, 5, 9, 10, 11]))))))
   (.seq
    (.reg [
      ⟨some 4, .mv (.c (.bool true)), none⟩] [4])
    .ret)))),
[.tmp 4]⟩
theorem F17_ok : prepF Go.Proofs.Tryz.prog ⟨[], [(0, [0, 1]), (1, [0, 1, 5]), (2, [1, 5, 9, 10, 11]), (3, [1, 5, 9, 10, 11, 12]), (4, [1, 5, 7, 9, 10, 11]), (5, [1, 5, 7, 9, 10, 11, 16]), (6, [1, 5, 9, 10, 11, 18]), (7, [4]), (8, [1, 5, 7, 9, 10, 11]), (9, [1, 5, 9, 10, 11, 31]), (10, [4]), (11, [1, 5, 9, 10, 11]), (12, [4]), (1000000, [1, 5, 9, 10, 11])], []⟩ Go.Proofs.Tryz.f17 = some F17 := by kernel_rfl
theorem F17_fn : FnOK2 Go.Proofs.Tryz.prog 17 (.pl F17) := .pl Go.Proofs.Tryz.func17 (by kernel_rfl) F17_ok
/-- emend/emendref13.Right -/
def F23 : DF := ⟨2,
(.seq
 (.reg [
   ⟨some 4, .mv (.c (.bool false)), none⟩] [0, 1])
 (.seq
  (.reg [
    ⟨some 8, .mkm, none⟩,
    ⟨some 5, .mv (.t 8), none⟩] [0, 1, 5])
  (.seq
   (.seq
    (.reg [
      ⟨some 6, .mv (.c (.int .i64 0)), none⟩] [0, 1, 5, 6])
    (.blk 0
     (.seq
      (.trim [0, 1, 5, 6])
      (.lop
       (.seq
        (.seq
         (.seq
          (.reg [
            ⟨some 9, .mv (.t 6), none⟩,
            ⟨some 10, .mv (.t 0), none⟩,
            ⟨some 11, .len (.t 10), none⟩,
            ⟨some 12, .bin .lss none (.t 9) (.t 11), none⟩] [0, 1, 5, 6, 12])
          (.cnd (.t 12)
           .skip
           (.exit 0)))
         (.seq
          (.blk 1
           (.seq
            (.reg [
              ⟨some 15, .mv (.t 0), none⟩,
              ⟨some 16, .mv (.t 6), none⟩,
              ⟨some 17, .ia 1 (.t 15) (.t 16), none⟩,
              ⟨some 18, .ld false 1 (.t 17), none⟩,
              ⟨some 7, .mv (.t 18), none⟩] [0, 1, 5, 6, 7])
            (.seq
             (.seq
              (.reg [
                ⟨some 19, .mv (.t 7), none⟩,
                ⟨some 20, .bin .eql (some .int) (.t 19) (.c (.int .i64 (-1))), none⟩] [0, 1, 5, 6, 7, 20])
              (.cnd (.t 20)
               (.exit 1)
               .skip))
             (.seq
              (.seq
               (.reg [
                 ⟨some 21, .mv (.t 7), none⟩,
                 ⟨some 22, .bin .lss none (.t 21) (.c (.int .i64 0)), none⟩,
                 ⟨some 23, .mv (.t 22), none⟩,
                 ⟨some 24, .mv (.t 7), some (23, false)⟩,
                 ⟨some 25, .mv (.t 1), some (23, false)⟩,
                 ⟨some 26, .bin .geq none (.t 24) (.t 25), some (23, false)⟩,
                 ⟨some 27, .pick (.t 23) (.c (.bool true)) (.t 26), none⟩,
                 ⟨some 28, .mv (.t 27), none⟩,
                 ⟨some 29, .mv (.t 5), some (28, false)⟩,
                 ⟨some 30, .mv (.t 7), some (28, false)⟩,
                 ⟨some 31, .lkp .int (.int .i64 0) (.t 29) (.t 30) false, some (28, false)⟩,
                 ⟨some 32, .bin .gtr none (.t 31) (.c (.int .i64 0)), some (28, false)⟩,
                 ⟨some 33, .pick (.t 28) (.c (.bool true)) (.t 32), none⟩] [0, 1, 5, 6, 7, 33])
               (.cnd (.t 33)
                (.seq
                 (.reg [
                   ⟨some 4, .mv (.c (.bool false)), none⟩] [4])
                 .ret)
                .skip))
              (.reg [
                ⟨some 34, .mv (.t 5), none⟩,
                ⟨some 35, .mv (.t 7), none⟩,
                ⟨none, .mup .int (.t 34) (.t 35) (.c (.int .i64 1)), none⟩] [0, 1, 5, 6])))))
          (.reg [
            ⟨some 13, .mv (.t 6), none⟩,
            ⟨some 14, .bin .add none (.t 13) (.c (.int .i64 1)), none⟩,
            ⟨some 6, .mv (.t 14), none⟩] [0, 1, 5, 6])))
        (.trim [0, 1, 5, 6]))))))
   (.seq
    (.reg [
      ⟨some 4, .mv (.c (.bool true)), none⟩] [4])
    .ret)))),
[.tmp 4]⟩
theorem F23_ok : prepF Go.Proofs.Tryz.prog ⟨[], [(0, [0, 1]), (1, [0, 1, 5]), (2, [0, 1, 5, 6]), (3, [0, 1, 5, 6, 12]), (4, [0, 1, 5, 6]), (5, [0, 1, 5, 6, 7]), (6, [0, 1, 5, 6, 7, 20]), (7, [0, 1, 5, 6, 7, 33]), (8, [4]), (9, [0, 1, 5, 6]), (10, [4]), (1000000, [0, 1, 5, 6])], []⟩ Go.Proofs.Tryz.f23 = some F23 := by kernel_rfl
theorem F23_fn : FnOK2 Go.Proofs.Tryz.prog 23 (.pl F23) := .pl Go.Proofs.Tryz.func23 (by kernel_rfl) F23_ok
/-- (*emend/align.table).fill -/
def F27 : DF := ⟨1,
(.seq
 (.reg [
   ⟨some 4, .mv (.t 0), none⟩,
   ⟨some 5, .nilc (.t 4), none⟩,
   ⟨some 6, .fa 0 (.t 5), none⟩,
   ⟨some 7, .ld false 1 (.t 6), none⟩,
   ⟨some 8, .len (.t 7), none⟩,
   ⟨some 9, .bin .add none (.t 8) (.c (.int .i64 1)), none⟩,
   ⟨some 10, .mv (.c (.int .i64 0)), none⟩] [0, 9, 10])
 (.blk 0
  (.seq
   (.trim [0, 9, 10])
   (.lop
    (.seq
     (.seq
      (.reg [
        ⟨some 11, .bin .lss none (.t 10) (.t 9), none⟩] [0, 9, 10, 11])
      (.seq
       (.cnd (.t 11)
        .skip
        (.exit 0))
       (.seq
        (.blk 1
         (.seq
          (.reg [
            ⟨some 12, .mv (.t 10), none⟩,
            ⟨some 2, .mv (.t 12), none⟩] [0, 2, 9, 10])
          (.seq
           (.reg [
             ⟨some 13, .mv (.t 0), none⟩,
             ⟨some 14, .nilc (.t 13), none⟩,
             ⟨some 15, .fa 1 (.t 14), none⟩,
             ⟨some 16, .ld false 1 (.t 15), none⟩,
             ⟨some 17, .len (.t 16), none⟩,
             ⟨some 18, .bin .add none (.t 17) (.c (.int .i64 1)), none⟩,
             ⟨some 19, .mv (.c (.int .i64 0)), none⟩] [0, 2, 9, 10, 18, 19])
           (.blk 2
            (.seq
             (.trim [0, 2, 9, 10, 18, 19])
             (.lop
              (.seq
               (.seq
                (.reg [
                  ⟨some 20, .bin .lss none (.t 19) (.t 18), none⟩] [0, 2, 9, 10, 18, 19, 20])
                (.seq
                 (.cnd (.t 20)
                  .skip
                  (.exit 2))
                 (.seq
                  (.blk 3
                   (.seq
                    (.reg [
                      ⟨some 21, .mv (.t 19), none⟩,
                      ⟨some 3, .mv (.t 21), none⟩] [0, 2, 3, 9, 10, 18, 19])
                    (.blk 4
                     (.seq
                      (.reg [
                        ⟨some 66, .mv (.t 2), none⟩,
                        ⟨some 67, .bin .eql (some .int) (.t 66) (.c (.int .i64 0)), none⟩,
                        ⟨some 68, .mv (.t 67), none⟩,
                        ⟨some 69, .mv (.t 3), some (68, false)⟩,
                        ⟨some 70, .bin .eql (some .int) (.t 69) (.c (.int .i64 0)), some (68, false)⟩,
                        ⟨some 71, .pick (.t 68) (.c (.bool true)) (.t 70), none⟩,
                        ⟨some 65, .mv (.t 71), none⟩] [0, 2, 3, 9, 10, 18, 19, 65])
                      (.cnd (.t 65)
                       (.reg [
                         ⟨some 72, .mv (.t 0), none⟩,
                         ⟨some 73, .nilc (.t 72), none⟩,
                         ⟨some 74, .fa 2 (.t 73), none⟩,
                         ⟨some 75, .ld false 1 (.t 74), none⟩,
                         ⟨some 76, .mv (.t 2), none⟩,
                         ⟨some 77, .mv (.t 3), none⟩,
                         ⟨some 78, .bld [(.int .i64 0), (.int .i64 0)] [(0, 1, (.t 76)), (1, 1, (.t 77))], none⟩,
                         ⟨some 79, .mv (.t 2), none⟩,
                         ⟨some 80, .mv (.t 3), none⟩,
                         ⟨some 81, .bin .add none (.t 79) (.t 80), none⟩,
                         ⟨some 82, .bin .mul none (.c (.int .i64 2)) (.t 81), none⟩,
                         ⟨none, .mup (.st [(0, .int), (1, .int)]) (.t 75) (.t 78) (.t 82), none⟩] [0, 2, 9, 10, 18, 19])
                       (.drw [
                         ((⟨some 22, .mv (.t 0), none⟩, none), []),
                         ((⟨some 23, .nilc (.t 22), none⟩, none), []),
                         ((⟨some 24, .fa 2 (.t 23), none⟩, none), []),
                         ((⟨some 25, .ld false 1 (.t 24), none⟩, none), []),
                         ((⟨some 26, .mv (.t 2), none⟩, none), []),
                         ((⟨some 27, .mv (.t 3), none⟩, none), []),
                         ((⟨some 28, .bld [(.int .i64 0), (.int .i64 0)] [(0, 1, (.t 26)), (1, 1, (.t 27))], none⟩, none), []),
                         ((⟨some 29, .mv (.t 0), none⟩, none), []),
                         ((⟨some 30, .nilc (.t 29), none⟩, none), []),
                         ((⟨some 31, .fa 2 (.t 30), none⟩, none), []),
                         ((⟨some 32, .ld false 1 (.t 31), none⟩, none), []),
                         ((⟨some 33, .mv (.t 2), none⟩, none), []),
                         ((⟨some 34, .bin .sub none (.t 33) (.c (.int .i64 1)), none⟩, none), []),
                         ((⟨some 35, .mv (.t 3), none⟩, none), []),
                         ((⟨some 36, .bin .sub none (.t 35) (.c (.int .i64 1)), none⟩, none), []),
                         ((⟨some 37, .bld [(.int .i64 0), (.int .i64 0)] [(0, 1, (.t 34)), (1, 1, (.t 36))], none⟩, none), []),
                         ((⟨some 38, .lkp (.st [(0, .int), (1, .int)]) (.int .i64 0) (.t 32) (.t 37) false, none⟩, none), []),
                         ((⟨some 39, .mv (.t 0), none⟩, none), []),
                         ((⟨some 40, .mv (.t 2), none⟩, none), []),
                         ((⟨some 41, .mv (.t 3), none⟩, none), []),
                         ((⟨some 44, .mv (.t 0), none⟩, none), []),
                         ((⟨some 45, .nilc (.t 44), none⟩, none), []),
                         ((⟨some 46, .fa 2 (.t 45), none⟩, none), []),
                         ((⟨some 47, .ld false 1 (.t 46), none⟩, none), []),
                         ((⟨some 48, .mv (.t 2), none⟩, none), []),
                         ((⟨some 49, .bin .sub none (.t 48) (.c (.int .i64 1)), none⟩, none), []),
                         ((⟨some 50, .mv (.t 3), none⟩, none), []),
                         ((⟨some 51, .bld [(.int .i64 0), (.int .i64 0)] [(0, 1, (.t 49)), (1, 1, (.t 50))], none⟩, none), []),
                         ((⟨some 52, .lkp (.st [(0, .int), (1, .int)]) (.int .i64 0) (.t 47) (.t 51) false, none⟩, none), []),
                         ((⟨some 53, .bin .add none (.t 52) (.c (.int .i64 2)), none⟩, none), []),
                         ((⟨some 54, .mv (.t 0), none⟩, none), []),
                         ((⟨some 55, .nilc (.t 54), none⟩, none), []),
                         ((⟨some 56, .fa 2 (.t 55), none⟩, none), []),
                         ((⟨some 57, .ld false 1 (.t 56), none⟩, none), []),
                         ((⟨some 58, .mv (.t 2), none⟩, none), []),
                         ((⟨some 59, .mv (.t 3), none⟩, none), []),
                         ((⟨some 60, .bin .sub none (.t 59) (.c (.int .i64 1)), none⟩, none), []),
                         ((⟨some 61, .bld [(.int .i64 0), (.int .i64 0)] [(0, 1, (.t 58)), (1, 1, (.t 60))], none⟩, none), []),
                         ((⟨some 62, .lkp (.st [(0, .int), (1, .int)]) (.int .i64 0) (.t 57) (.t 61) false, none⟩, none), []),
                         ((⟨some 63, .bin .add none (.t 62) (.c (.int .i64 2)), none⟩, none), []),
                         ((⟨some 42, .call 28 [(.t 39), (.t 40), (.t 41)], none⟩, none), [(⟨some 25, .ld false 1 (.t 24), none⟩, none), (⟨some 32, .ld false 1 (.t 31), none⟩, none), (⟨some 38, .lkp (.st [(0, .int), (1, .int)]) (.int .i64 0) (.t 32) (.t 37) false, none⟩, none), (⟨some 47, .ld false 1 (.t 46), none⟩, none), (⟨some 52, .lkp (.st [(0, .int), (1, .int)]) (.int .i64 0) (.t 47) (.t 51) false, none⟩, none), (⟨some 57, .ld false 1 (.t 56), none⟩, none), (⟨some 62, .lkp (.st [(0, .int), (1, .int)]) (.int .i64 0) (.t 57) (.t 61) false, none⟩, none)]),
                         ((⟨some 43, .bin .add none (.t 38) (.t 42), none⟩, none), []),
                         ((⟨some 64, .mn [(.t 43), (.t 53), (.t 63)], none⟩, none), []),
                         ((⟨none, .mup (.st [(0, .int), (1, .int)]) (.t 25) (.t 28) (.t 64), none⟩, none), [])] [0, 2, 9, 10, 18, 19]))))))
                  (.reg [
                    ⟨some 83, .bin .add none (.t 19) (.c (.int .i64 1)), none⟩,
                    ⟨some 19, .mv (.t 83), none⟩] [0, 2, 9, 10, 18, 19]))))
               (.trim [0, 2, 9, 10, 18, 19]))))))))
        (.reg [
          ⟨some 84, .bin .add none (.t 10) (.c (.int .i64 1)), none⟩,
          ⟨some 10, .mv (.t 84), none⟩] [0, 9, 10]))))
     (.trim [0, 9, 10])))))),
[]⟩
theorem F27_ok : prepF Go.Proofs.Tryz.prog ⟨[], [(0, [0, 9, 10]), (1, [0, 9, 10, 11]), (2, [0, 2, 9, 10]), (3, [0, 2, 9, 10, 18, 19]), (4, [0, 2, 9, 10, 18, 19, 20]), (5, [0, 2, 3, 9, 10, 18, 19]), (6, [0, 2, 9, 10, 18, 19]), (7, [0, 2, 3, 9, 10, 18, 19, 65]), (8, [0, 2, 9, 10, 18, 19]), (9, [0, 2, 9, 10, 18, 19]), (10, [0, 9, 10]), (1000000, [0, 9, 10]), (1000002, [0, 2, 9, 10, 18, 19])], []⟩ Go.Proofs.Tryz.f27 = some F27 := by kernel_rfl
theorem F27_fn : FnOK2 Go.Proofs.Tryz.prog 27 (.pl F27) := .pl Go.Proofs.Tryz.func27 (by kernel_rfl) F27_ok
/-- (*emend/align.table).pair -/
def F28 : DF := ⟨3,
(.seq
 (.reg [
   ⟨some 6, .mv (.c (.int .i64 0)), none⟩] [0, 1, 2])
 (.seq
  (.seq
   (.drw [
     ((⟨some 7, .mv (.t 0), none⟩, none), []),
     ((⟨some 8, .nilc (.t 7), none⟩, none), []),
     ((⟨some 9, .fa 0 (.t 8), none⟩, none), []),
     ((⟨some 10, .ld false 1 (.t 9), none⟩, none), []),
     ((⟨some 11, .mv (.t 1), none⟩, none), []),
     ((⟨some 12, .bin .sub none (.t 11) (.c (.int .i64 1)), none⟩, none), []),
     ((⟨some 13, .ia 4 (.t 10) (.t 12), none⟩, none), []),
     ((⟨some 14, .ld true 4 (.t 13), none⟩, none), []),
     ((⟨some 15, .mv (.t 0), none⟩, none), []),
     ((⟨some 16, .nilc (.t 15), none⟩, none), []),
     ((⟨some 17, .fa 1 (.t 16), none⟩, none), []),
     ((⟨some 18, .ld false 1 (.t 17), none⟩, none), []),
     ((⟨some 19, .mv (.t 2), none⟩, none), []),
     ((⟨some 20, .bin .sub none (.t 19) (.c (.int .i64 1)), none⟩, none), []),
     ((⟨some 21, .ia 4 (.t 18) (.t 20), none⟩, none), []),
     ((⟨some 22, .ld true 4 (.t 21), none⟩, none), []),
     ((⟨some 23, .call 31 [(.t 14), (.t 22)], none⟩, none), [])] [23])
   (.cnd (.t 23)
    (.seq
     (.reg [
       ⟨some 6, .mv (.c (.int .i64 0)), none⟩] [6])
     .ret)
    .skip))
  (.seq
   (.reg [
     ⟨some 6, .mv (.c (.int .i64 3)), none⟩] [6])
   .ret))),
[.tmp 6]⟩
theorem F28_ok : prepF Go.Proofs.Tryz.prog ⟨[], [(0, [0, 1, 2]), (1, [23]), (2, [6]), (3, [6])], []⟩ Go.Proofs.Tryz.f28 = some F28 := by kernel_rfl
theorem F28_fn : FnOK2 Go.Proofs.Tryz.prog 28 (.pl F28) := .pl Go.Proofs.Tryz.func28 (by kernel_rfl) F28_ok
/-- emend/tree.Parse -/
def F29 : DF := ⟨1,
(.seq
 (.reg [
   ⟨some 1, .bxH 9 (.t 0), none⟩,
   ⟨some 2, .alL [(.int .i64 0), (.str []), (.sl 1 ⟨none, 0, (some 0), true⟩ []), (.sl 4 ⟨none, 0, (some 0), true⟩ [])], none⟩,
   ⟨some 3, .mv (.c .nilif), none⟩] [1, 2])
 (.seq
  (.reg [
    ⟨some 4, .alH 47 [(.int .i64 0), (.str []), (.sl 1 ⟨none, 0, (some 0), true⟩ []), (.sl 4 ⟨none, 0, (some 0), true⟩ [])], none⟩] [1, 2, 4])
  (.seq
   (.reg [
     ⟨some 6, .ld false 1 (.t 1), none⟩,
     ⟨some 7, .mkf 38 [] [(.t 4), (.t 1)], none⟩,
     ⟨some 8, .call 37 [(.t 6), (.t 7)], none⟩,
     ⟨some 5, .mv (.t 8), none⟩] [2, 4, 5])
   (.seq
    (.seq
     (.reg [
       ⟨some 9, .mv (.t 5), none⟩,
       ⟨some 10, .bin .neq (some .ifc) (.t 9) (.c .nilif), none⟩] [2, 4, 5, 10])
     (.cnd (.t 10)
      (.seq
       (.reg [
         ⟨some 11, .bld [(.int .i64 0), (.str []), (.sl 1 ⟨none, 0, (some 0), true⟩ []), (.sl 4 ⟨none, 0, (some 0), true⟩ [])] [], none⟩,
         ⟨some 12, .mv (.t 5), none⟩,
         ⟨none, .st 4 (.t 2) (.t 11), none⟩,
         ⟨some 3, .mv (.t 12), none⟩] [2, 3])
       .ret)
      .skip))
    (.seq
     (.reg [
       ⟨some 13, .ld true 4 (.t 4), none⟩,
       ⟨none, .st 4 (.t 2) (.t 13), none⟩,
       ⟨some 3, .mv (.c .nilif), none⟩] [2, 3])
     .ret))))),
[.cell 2 true 4, .tmp 3]⟩
theorem F29_ok : prepF Go.Proofs.Tryz.prog ⟨[2], [(0, [1, 2]), (1, [1, 2, 4]), (2, [2, 4, 5]), (3, [2, 4, 5, 10]), (4, [2, 3]), (5, [2, 3])], []⟩ Go.Proofs.Tryz.f29 = some F29 := by kernel_rfl
theorem F29_fn : FnOK2 Go.Proofs.Tryz.prog 29 (.pl F29) := .pl Go.Proofs.Tryz.func29 (by kernel_rfl) F29_ok
/-- emend/align.keyOf -/
def F30 : DF := ⟨2,
(.seq
 (.reg [
   ⟨some 2, .bxL (.t 0), none⟩,
   ⟨some 4, .alL [(.int .i64 0), (.str []), (.sl 1 ⟨none, 0, (some 0), true⟩ []), (.sl 4 ⟨none, 0, (some 0), true⟩ [])], none⟩,
   ⟨some 5, .mv (.c (.bool false)), none⟩] [1, 2, 4])
 (.seq
  (.seq
   (.reg [
     ⟨some 8, .fa 0 (.t 2), none⟩,
     ⟨some 9, .ld false 1 (.t 8), none⟩,
     ⟨some 10, .bin .neq (some .int) (.t 9) (.c (.int .i64 7)), none⟩] [1, 2, 4, 10])
   (.cnd (.t 10)
    (.seq
     (.reg [
       ⟨some 11, .bld [(.int .i64 0), (.str []), (.sl 1 ⟨none, 0, (some 0), true⟩ []), (.sl 4 ⟨none, 0, (some 0), true⟩ [])] [], none⟩,
       ⟨none, .st 4 (.t 4) (.t 11), none⟩,
       ⟨some 5, .mv (.c (.bool false)), none⟩] [4, 5])
     .ret)
    .skip))
  (.seq
   (.seq
    (.reg [
      ⟨some 12, .fa 2 (.t 2), none⟩,
      ⟨some 13, .ld false 1 (.t 12), none⟩,
      ⟨some 14, .len (.t 13), none⟩,
      ⟨some 15, .mv (.c (.int .i64 0)), none⟩] [1, 2, 4, 13, 14, 15])
    (.blk 0
     (.seq
      (.trim [1, 2, 4, 13, 14, 15])
      (.lop
       (.seq
        (.seq
         (.reg [
           ⟨some 16, .bin .lss none (.t 15) (.t 14), none⟩] [1, 2, 4, 13, 14, 15, 16])
         (.seq
          (.cnd (.t 16)
           .skip
           (.exit 0))
          (.seq
           (.blk 1
            (.seq
             (.reg [
               ⟨some 17, .mv (.t 15), none⟩,
               ⟨some 18, .ia 1 (.t 13) (.t 15), none⟩,
               ⟨some 19, .ld false 1 (.t 18), none⟩,
               ⟨some 6, .mv (.t 17), none⟩,
               ⟨some 7, .mv (.t 19), none⟩] [1, 2, 4, 6, 7, 13, 14, 15])
             (.seq
              (.reg [
                ⟨some 20, .mv (.t 7), none⟩,
                ⟨some 21, .mv (.t 1), none⟩,
                ⟨some 22, .bin .eql (some .str) (.t 20) (.t 21), none⟩,
                ⟨some 23, .mv (.t 22), none⟩,
                ⟨some 24, .mv (.t 6), some (23, true)⟩,
                ⟨some 25, .fa 3 (.t 2), some (23, true)⟩,
                ⟨some 26, .ld false 1 (.t 25), some (23, true)⟩,
                ⟨some 27, .len (.t 26), some (23, true)⟩,
                ⟨some 28, .bin .lss none (.t 24) (.t 27), some (23, true)⟩,
                ⟨some 29, .pick (.t 23) (.t 28) (.c (.bool false)), none⟩] [1, 2, 4, 6, 13, 14, 15, 29])
              (.cnd (.t 29)
               (.seq
                (.drw [
                  ((⟨some 30, .fa 3 (.t 2), none⟩, (some 2)), []),
                  ((⟨some 31, .ld false 1 (.t 30), none⟩, (some 2)), []),
                  ((⟨some 32, .mv (.t 6), none⟩, none), []),
                  ((⟨some 33, .ia 4 (.t 31) (.t 32), none⟩, none), []),
                  ((⟨some 34, .ld true 4 (.t 33), none⟩, none), []),
                  ((⟨some 35, .fa 3 (.t 2), none⟩, (some 2)), []),
                  ((⟨some 36, .ld false 1 (.t 35), none⟩, (some 2)), []),
                  ((⟨some 37, .mv (.t 6), none⟩, none), []),
                  ((⟨some 38, .ia 4 (.t 36) (.t 37), none⟩, none), []),
                  ((⟨some 39, .fa 0 (.t 38), none⟩, none), []),
                  ((⟨some 40, .ld false 1 (.t 39), none⟩, none), []),
                  ((⟨some 41, .call 42 [(.t 40)], none⟩, none), [(⟨some 34, .ld true 4 (.t 33), none⟩, none)]),
                  ((⟨none, .st 4 (.t 4) (.t 34), none⟩, (some 4)), []),
                  ((⟨some 5, .mv (.t 41), none⟩, none), [])] [4, 5])
                .ret)
               .skip))))
           (.reg [
             ⟨some 42, .bin .add none (.t 15) (.c (.int .i64 1)), none⟩,
             ⟨some 15, .mv (.t 42), none⟩] [1, 2, 4, 13, 14, 15]))))
        (.trim [1, 2, 4, 13, 14, 15]))))))
   (.seq
    (.reg [
      ⟨some 43, .bld [(.int .i64 0), (.str []), (.sl 1 ⟨none, 0, (some 0), true⟩ []), (.sl 4 ⟨none, 0, (some 0), true⟩ [])] [], none⟩,
      ⟨none, .st 4 (.t 4) (.t 43), none⟩,
      ⟨some 5, .mv (.c (.bool false)), none⟩] [4, 5])
    .ret)))),
[.cell 4 true 4, .tmp 5]⟩
theorem F30_ok : prepF Go.Proofs.Tryz.prog ⟨[2, 4], [(0, [1, 2, 4]), (1, [1, 2, 4, 10]), (2, [4, 5]), (3, [1, 2, 4, 13, 14, 15]), (4, [1, 2, 4, 13, 14, 15, 16]), (5, [1, 2, 4, 6, 7, 13, 14, 15]), (6, [1, 2, 4, 6, 13, 14, 15, 29]), (7, [4, 5]), (8, [1, 2, 4, 13, 14, 15]), (9, [4, 5]), (1000000, [1, 2, 4, 13, 14, 15])], [(7, [(some 2), (some 2), none, none, none, (some 2), (some 2), none, none, none, none, none, (some 4), none])]⟩ Go.Proofs.Tryz.f30 = some F30 := by kernel_rfl
theorem F30_fn : FnOK2 Go.Proofs.Tryz.prog 30 (.pl F30) := .pl Go.Proofs.Tryz.func30 (by kernel_rfl) F30_ok
/-- emend/tree.Same -/
def F31 : DF := ⟨2,
(.seq
 (.reg [
   ⟨some 2, .bxL (.t 0), none⟩,
   ⟨some 3, .bxL (.t 1), none⟩,
   ⟨some 4, .mv (.c (.bool false)), none⟩] [2, 3])
 (.seq
  (.seq
   (.reg [
     ⟨some 5, .ld true 4 (.t 2), none⟩,
     ⟨some 6, .call 43 [(.t 5)], none⟩,
     ⟨some 7, .un .not (.t 6), none⟩,
     ⟨some 8, .mv (.t 7), none⟩,
     ⟨some 9, .ld true 4 (.t 3), some (8, false)⟩,
     ⟨some 10, .call 43 [(.t 9)], some (8, false)⟩,
     ⟨some 11, .un .not (.t 10), some (8, false)⟩,
     ⟨some 12, .pick (.t 8) (.c (.bool true)) (.t 11), none⟩] [2, 3, 12])
   (.cnd (.t 12)
    (.seq
     (.reg [
       ⟨some 13, .ld true 4 (.t 2), none⟩,
       ⟨some 14, .ld true 4 (.t 3), none⟩,
       ⟨some 15, .call 44 [(.t 13), (.t 14)], none⟩,
       ⟨some 4, .mv (.t 15), none⟩] [4])
     .ret)
    .skip))
  (.seq
   (.drw [
     ((⟨some 16, .ld true 4 (.t 2), none⟩, (some 2)), []),
     ((⟨some 18, .ld true 4 (.t 3), none⟩, (some 3)), []),
     ((⟨some 17, .call 45 [(.t 16)], none⟩, none), []),
     ((⟨some 19, .call 45 [(.t 18)], none⟩, none), []),
     ((⟨some 20, .call 44 [(.t 17), (.t 19)], none⟩, none), []),
     ((⟨some 4, .mv (.t 20), none⟩, none), [])] [4])
   .ret))),
[.tmp 4]⟩
theorem F31_ok : prepF Go.Proofs.Tryz.prog ⟨[2, 3], [(0, [2, 3]), (1, [2, 3, 12]), (2, [4]), (3, [4])], [(3, [(some 2), none, (some 3), none, none, none])]⟩ Go.Proofs.Tryz.f31 = some F31 := by kernel_rfl
theorem F31_fn : FnOK2 Go.Proofs.Tryz.prog 31 (.pl F31) := .pl Go.Proofs.Tryz.func31 (by kernel_rfl) F31_ok
/-- emend/tree.Read -/
def F37 : DD := ⟨2,
(.seq
 (.reg [
   ⟨some 4, .alH 60 [.nilif], none⟩] [0, 1, 4])
 (.seq
  (.reg [
    ⟨some 6, .mv (.t 0), none⟩,
    ⟨some 7, .lenS (.t 6), none⟩,
    ⟨some 8, .bin .gtr none (.t 7) (.c (.int .i64 65536)), none⟩] [0, 1, 4, 8])
  (.seq
   (.cnd (.t 8)
    (.seq
     (.reg [
       ⟨some 9, .call 52 [(.c (.int .i64 0)), (.c (.int .i64 2))], none⟩,
       ⟨some 10, .mki 87 (.t 9), none⟩,
       ⟨none, .st 1 (.t 4) (.t 10), none⟩] [4])
     .ret)
    .skip)
   (.seq
    (.reg [
      ⟨some 11, .mv (.t 0), none⟩,
      ⟨some 12, .call 53 [(.t 11)], none⟩,
      ⟨some 5, .mv (.t 12), none⟩] [0, 1, 4, 5])
    (.seq
     (.reg [
       ⟨some 13, .mv (.t 5), none⟩,
       ⟨some 14, .bin .geq none (.t 13) (.c (.int .i64 0)), none⟩] [0, 1, 4, 5, 14])
     (.seq
      (.cnd (.t 14)
       (.seq
        (.reg [
          ⟨some 15, .mv (.t 5), none⟩,
          ⟨some 16, .call 52 [(.t 15), (.c (.int .i64 10))], none⟩,
          ⟨some 17, .mki 87 (.t 16), none⟩,
          ⟨none, .st 1 (.t 4) (.t 17), none⟩] [4])
        .ret)
       .skip)
      .skip)))))),
[⟨some 18, .mkf 54 [] [(.t 4)], none⟩], 18, [0, 1, 4],
(.seq
 (.reg [
   ⟨some 19, .mv (.t 1), none⟩,
   ⟨some 20, .mv (.t 0), none⟩,
   ⟨some 21, .bld [(.str []), (.int .i64 0), (.int .i64 0)] [(0, 1, (.t 20))], none⟩,
   ⟨some 22, .bxH 79 (.t 21), none⟩,
   ⟨some 23, .callv (.t 19) [(.t 22)], none⟩] [4])
 (.seq
  (.reg [
    ⟨none, .st 1 (.t 4) (.c .nilif), none⟩] [4])
  (.seq
   .ret
   .skip))),
[.cell 4 false 1], [4]⟩
theorem F37_ok : prepD Go.Proofs.Tryz.prog ⟨[], [(0, [0, 1, 4]), (1, [0, 1, 4, 8]), (2, [4]), (3, [0, 1, 4, 5]), (4, [0, 1, 4, 5, 14]), (5, [4]), (6, [0, 1, 4]), (7, [4]), (8, [4])], []⟩ Go.Proofs.Tryz.f37 = some F37 := by kernel_rfl
theorem F37_fn : FnOK2 Go.Proofs.Tryz.prog 37 (.df F37) := .df Go.Proofs.Tryz.func37 (by kernel_rfl) F37_ok
/-- emend/tree.Parse$1 -/
def F38 : DF := ⟨3,
(.seq
 (.reg [
   ⟨some 5, .mv (.t 0), none⟩,
   ⟨some 6, .bld [.nilp] [(0, 1, (.t 5))], none⟩,
   ⟨some 4, .alL [.nilp], none⟩,
   ⟨none, .st 1 (.t 4) (.t 6), none⟩] [1, 2, 4])
 (.seq
  (.reg [
    ⟨some 7, .ld true 1 (.t 4), none⟩,
    ⟨some 8, .call 39 [(.t 7)], none⟩] [1, 2, 4])
  (.seq
   (.reg [
     ⟨some 9, .ld true 1 (.t 4), none⟩,
     ⟨some 10, .call 40 [(.t 9), (.c (.int .i64 1))], none⟩,
     ⟨none, .st 4 (.t 1) (.t 10), none⟩] [2, 4])
   (.seq
    (.reg [
      ⟨some 11, .ld true 1 (.t 4), none⟩,
      ⟨some 12, .call 39 [(.t 11)], none⟩] [2, 4])
    (.seq
     (.drw [
       ((⟨some 13, .fa 0 (.t 4), none⟩, (some 4)), []),
       ((⟨some 14, .ld false 1 (.t 13), none⟩, (some 4)), []),
       ((⟨some 15, .nilc (.t 14), none⟩, none), []),
       ((⟨some 16, .fa 1 (.t 15), none⟩, none), []),
       ((⟨some 17, .ld false 1 (.t 16), none⟩, none), []),
       ((⟨some 18, .ld false 1 (.t 2), none⟩, none), []),
       ((⟨some 19, .lenS (.t 18), none⟩, none), []),
       ((⟨some 20, .bin .lss none (.t 17) (.t 19), none⟩, none), [])] [4, 20])
     (.cnd (.t 20)
      (.reg [
        ⟨some 21, .fa 0 (.t 4), none⟩,
        ⟨some 22, .ld false 1 (.t 21), none⟩,
        ⟨some 23, .call 41 [(.t 22)], none⟩] [])
      .skip)))))),
[]⟩
theorem F38_ok : prepF Go.Proofs.Tryz.prog ⟨[4], [(0, [1, 2, 4]), (1, [1, 2, 4]), (2, [2, 4]), (3, [2, 4]), (4, [4, 20]), (5, [])], [(4, [(some 4), (some 4), none, none, none, none, none, none])]⟩ Go.Proofs.Tryz.f38 = some F38 := by kernel_rfl
theorem F38_fn : FnOK2 Go.Proofs.Tryz.prog 38 (.pl F38) := .pl Go.Proofs.Tryz.func38 (by kernel_rfl) F38_ok
/-- (emend/tree.parser).blanks -/
def F39 : DF := ⟨1,
(.seq
 (.reg [
   ⟨some 1, .bxL (.t 0), none⟩] [1])
 (.reg [
   ⟨some 2, .fa 0 (.t 1), none⟩,
   ⟨some 3, .ld false 1 (.t 2), none⟩,
   ⟨some 4, .call 55 [(.t 3), (.f 56)], none⟩] [])),
[]⟩
theorem F39_ok : prepF Go.Proofs.Tryz.prog ⟨[1], [(0, [1]), (1, [])], []⟩ Go.Proofs.Tryz.f39 = some F39 := by kernel_rfl
theorem F39_fn : FnOK2 Go.Proofs.Tryz.prog 39 (.pl F39) := .pl Go.Proofs.Tryz.func39 (by kernel_rfl) F39_ok
/-- (emend/tree.parser).tree -/
def F40 : DF := ⟨2,
(.seq
 (.reg [
   ⟨some 2, .bxL (.t 0), none⟩,
   ⟨some 4, .alL [(.int .i64 0), (.str []), (.sl 1 ⟨none, 0, (some 0), true⟩ []), (.sl 4 ⟨none, 0, (some 0), true⟩ [])], none⟩] [1, 2, 4])
 (.seq
  (.reg [
    ⟨some 8, .fa 0 (.t 2), none⟩,
    ⟨some 9, .ld false 1 (.t 8), none⟩,
    ⟨some 10, .nilc (.t 9), none⟩,
    ⟨some 11, .fa 1 (.t 10), none⟩,
    ⟨some 12, .ld false 1 (.t 11), none⟩,
    ⟨some 5, .mv (.t 12), none⟩] [1, 2, 4, 5])
  (.seq
   (.blk 0
    (.seq
     (.reg [
       ⟨some 14, .fa 0 (.t 2), none⟩,
       ⟨some 15, .ld false 1 (.t 14), none⟩,
       ⟨some 16, .call 57 [(.t 15), (.c (.int .u8 34))], none⟩,
       ⟨some 13, .mv (.t 16), none⟩] [1, 2, 4, 5, 13])
     (.cnd (.t 13)
      (.seq
       (.reg [
         ⟨some 17, .fa 0 (.t 2), none⟩,
         ⟨some 18, .ld false 1 (.t 17), none⟩,
         ⟨some 19, .mv (.t 5), none⟩,
         ⟨some 20, .mv (.t 1), none⟩,
         ⟨some 21, .call 58 [(.t 18), (.t 19), (.t 20), (.c (.int .i64 1))], none⟩] [2, 4])
       (.seq
        (.reg [
          ⟨some 22, .fa 0 (.t 2), none⟩,
          ⟨some 23, .ld false 1 (.t 22), none⟩,
          ⟨some 24, .call 59 [(.t 23)], none⟩,
          ⟨some 25, .bld [(.int .i64 0), (.str []), (.sl 1 ⟨none, 0, (some 0), true⟩ []), (.sl 4 ⟨none, 0, (some 0), true⟩ [])] [(0, 1, (.c (.int .i64 4))), (1, 1, (.t 24))], none⟩,
          ⟨none, .st 4 (.t 4) (.t 25), none⟩] [4])
        .ret))
      (.seq
       (.reg [
         ⟨some 27, .fa 0 (.t 2), none⟩,
         ⟨some 28, .ld false 1 (.t 27), none⟩,
         ⟨some 29, .call 57 [(.t 28), (.c (.int .u8 91))], none⟩,
         ⟨some 26, .mv (.t 29), none⟩] [1, 2, 4, 5, 26])
       (.cnd (.t 26)
        (.seq
         (.reg [
           ⟨some 30, .fa 0 (.t 2), none⟩,
           ⟨some 31, .ld false 1 (.t 30), none⟩,
           ⟨some 32, .mv (.t 5), none⟩,
           ⟨some 33, .mv (.t 1), none⟩,
           ⟨some 34, .call 58 [(.t 31), (.t 32), (.t 33), (.c (.int .i64 1))], none⟩] [1, 2, 4])
         (.seq
          (.reg [
            ⟨some 35, .ld true 1 (.t 2), none⟩,
            ⟨some 36, .mv (.t 1), none⟩,
            ⟨some 37, .call 60 [(.t 35), (.t 36)], none⟩,
            ⟨none, .st 4 (.t 4) (.t 37), none⟩] [4])
          .ret))
        (.seq
         (.reg [
           ⟨some 39, .fa 0 (.t 2), none⟩,
           ⟨some 40, .ld false 1 (.t 39), none⟩,
           ⟨some 41, .call 57 [(.t 40), (.c (.int .u8 123))], none⟩,
           ⟨some 38, .mv (.t 41), none⟩] [1, 2, 4, 5, 38])
         (.cnd (.t 38)
          (.seq
           (.reg [
             ⟨some 42, .fa 0 (.t 2), none⟩,
             ⟨some 43, .ld false 1 (.t 42), none⟩,
             ⟨some 44, .mv (.t 5), none⟩,
             ⟨some 45, .mv (.t 1), none⟩,
             ⟨some 46, .call 58 [(.t 43), (.t 44), (.t 45), (.c (.int .i64 1))], none⟩] [1, 2, 4])
           (.seq
            (.reg [
              ⟨some 47, .ld true 1 (.t 2), none⟩,
              ⟨some 48, .mv (.t 1), none⟩,
              ⟨some 49, .call 61 [(.t 47), (.t 48)], none⟩,
              ⟨none, .st 4 (.t 4) (.t 49), none⟩] [4])
            .ret))
          (.seq
           (.reg [
             ⟨some 51, .fa 0 (.t 2), none⟩,
             ⟨some 52, .ld false 1 (.t 51), none⟩,
             ⟨some 53, .call 57 [(.t 52), (.c (.int .u8 64))], none⟩,
             ⟨some 50, .mv (.t 53), none⟩] [1, 2, 4, 5, 50])
           (.cnd (.t 50)
            (.seq
             (.reg [
               ⟨some 54, .fa 0 (.t 2), none⟩,
               ⟨some 55, .ld false 1 (.t 54), none⟩,
               ⟨some 56, .nilc (.t 55), none⟩,
               ⟨some 57, .fa 1 (.t 56), none⟩,
               ⟨some 58, .ld false 1 (.t 57), none⟩,
               ⟨some 59, .bin .add none (.t 58) (.c (.int .i64 1)), none⟩,
               ⟨some 60, .nilc (.t 55), none⟩,
               ⟨some 61, .fa 1 (.t 60), none⟩,
               ⟨none, .st 1 (.t 61) (.t 59), none⟩] [1, 2, 4, 5])
             (.seq
              (.reg [
                ⟨some 62, .fa 0 (.t 2), none⟩,
                ⟨some 63, .ld false 1 (.t 62), none⟩,
                ⟨some 64, .call 55 [(.t 63), (.f 62)], none⟩,
                ⟨some 6, .mv (.t 64), none⟩] [1, 2, 4, 5, 6])
              (.seq
               (.seq
                (.reg [
                  ⟨some 65, .mv (.t 6), none⟩,
                  ⟨some 66, .call 64 [(.t 65)], none⟩,
                  ⟨some 67, .un .not (.t 66), none⟩] [1, 2, 4, 5, 6, 67])
                (.cnd (.t 67)
                 (.reg [
                   ⟨some 68, .mv (.t 5), none⟩,
                   ⟨some 69, .call 65 [(.t 68), (.c (.int .i64 20))], none⟩] [1, 2, 4, 5, 6])
                 .skip))
               (.seq
                (.reg [
                  ⟨some 70, .fa 0 (.t 2), none⟩,
                  ⟨some 71, .ld false 1 (.t 70), none⟩,
                  ⟨some 72, .mv (.t 5), none⟩,
                  ⟨some 73, .mv (.t 1), none⟩,
                  ⟨some 74, .call 58 [(.t 71), (.t 72), (.t 73), (.c (.int .i64 1))], none⟩] [4, 6])
                (.seq
                 (.reg [
                   ⟨some 75, .mv (.t 6), none⟩,
                   ⟨some 76, .bld [(.int .i64 0), (.str []), (.sl 1 ⟨none, 0, (some 0), true⟩ []), (.sl 4 ⟨none, 0, (some 0), true⟩ [])] [(0, 1, (.c (.int .i64 5))), (1, 1, (.t 75))], none⟩,
                   ⟨none, .st 4 (.t 4) (.t 76), none⟩] [4])
                 .ret)))))
            .skip)))))))))
   (.seq
    (.reg [
      ⟨some 77, .fa 0 (.t 2), none⟩,
      ⟨some 78, .ld false 1 (.t 77), none⟩,
      ⟨some 79, .call 66 [(.t 78)], none⟩,
      ⟨some 7, .alL [(.int .i64 0), (.str []), (.sl 1 ⟨none, 0, (some 0), true⟩ []), (.sl 4 ⟨none, 0, (some 0), true⟩ [])], none⟩,
      ⟨none, .st 4 (.t 7) (.t 79), none⟩] [1, 2, 4, 5, 7])
    (.seq
     (.reg [
       ⟨some 80, .fa 0 (.t 2), none⟩,
       ⟨some 81, .ld false 1 (.t 80), none⟩,
       ⟨some 82, .mv (.t 5), none⟩,
       ⟨some 83, .mv (.t 1), none⟩,
       ⟨some 84, .call 58 [(.t 81), (.t 82), (.t 83), (.c (.int .i64 1))], none⟩] [4, 7])
     (.seq
      (.reg [
        ⟨some 85, .ld true 4 (.t 7), none⟩,
        ⟨none, .st 4 (.t 4) (.t 85), none⟩] [4])
      .ret)))))),
[.cell 4 true 4]⟩
theorem F40_ok : prepF Go.Proofs.Tryz.prog ⟨[2, 4, 7], [(0, [1, 2, 4]), (1, [1, 2, 4, 5]), (2, [1, 2, 4, 5, 13]), (3, [2, 4]), (4, [4]), (5, [1, 2, 4, 5, 26]), (6, [1, 2, 4]), (7, [4]), (8, [1, 2, 4, 5, 38]), (9, [1, 2, 4]), (10, [4]), (11, [1, 2, 4, 5, 50]), (12, [1, 2, 4, 5]), (13, [1, 2, 4, 5, 6]), (14, [1, 2, 4, 5, 6, 67]), (15, [1, 2, 4, 5, 6]), (16, [4, 6]), (17, [4]), (18, [1, 2, 4, 5, 7]), (19, [4, 7]), (20, [4])], []⟩ Go.Proofs.Tryz.f40 = some F40 := by kernel_rfl
theorem F40_fn : FnOK2 Go.Proofs.Tryz.prog 40 (.pl F40) := .pl Go.Proofs.Tryz.func40 (by kernel_rfl) F40_ok
/-- (*emend/tree.Place).Bad -/
def F41 : DF := ⟨1,
(.seq
 (.seq
  (.drw [
    ((⟨some 2, .mv (.t 0), none⟩, none), []),
    ((⟨some 3, .nilc (.t 2), none⟩, none), []),
    ((⟨some 4, .fa 1 (.t 3), none⟩, none), []),
    ((⟨some 5, .ld false 1 (.t 4), none⟩, none), []),
    ((⟨some 6, .mv (.t 0), none⟩, none), []),
    ((⟨some 7, .nilc (.t 6), none⟩, none), []),
    ((⟨some 8, .fa 0 (.t 7), none⟩, none), []),
    ((⟨some 9, .ld false 1 (.t 8), none⟩, none), []),
    ((⟨some 10, .lenS (.t 9), none⟩, none), []),
    ((⟨some 11, .bin .geq none (.t 5) (.t 10), none⟩, none), [])] [0, 11])
  (.cnd (.t 11)
   (.reg [
     ⟨some 12, .mv (.t 0), none⟩,
     ⟨some 13, .nilc (.t 12), none⟩,
     ⟨some 14, .fa 0 (.t 13), none⟩,
     ⟨some 15, .ld false 1 (.t 14), none⟩,
     ⟨some 16, .lenS (.t 15), none⟩,
     ⟨some 17, .call 65 [(.t 16), (.c (.int .i64 14))], none⟩] [0])
   .skip))
 (.reg [
   ⟨some 18, .mv (.t 0), none⟩,
   ⟨some 19, .nilc (.t 18), none⟩,
   ⟨some 20, .fa 1 (.t 19), none⟩,
   ⟨some 21, .ld false 1 (.t 20), none⟩,
   ⟨some 22, .call 65 [(.t 21), (.c (.int .i64 13))], none⟩] [])),
[]⟩
theorem F41_ok : prepF Go.Proofs.Tryz.prog ⟨[], [(0, [0, 11]), (1, [0]), (2, [])], []⟩ Go.Proofs.Tryz.f41 = some F41 := by kernel_rfl
theorem F41_fn : FnOK2 Go.Proofs.Tryz.prog 41 (.pl F41) := .pl Go.Proofs.Tryz.func41 (by kernel_rfl) F41_ok
/-- emend/tree.Scalar -/
def F42 : DF := ⟨1,
(.seq
 (.reg [
   ⟨some 2, .mv (.c (.bool false)), none⟩] [0])
 (.seq
  (.reg [
    ⟨some 3, .mv (.t 0), none⟩,
    ⟨some 4, .bin .geq none (.t 3) (.c (.int .i64 1)), none⟩,
    ⟨some 5, .mv (.t 4), none⟩,
    ⟨some 6, .mv (.t 0), some (5, true)⟩,
    ⟨some 7, .bin .leq none (.t 6) (.c (.int .i64 5)), some (5, true)⟩,
    ⟨some 8, .pick (.t 5) (.t 7) (.c (.bool false)), none⟩,
    ⟨some 2, .mv (.t 8), none⟩] [2])
  .ret)),
[.tmp 2]⟩
theorem F42_ok : prepF Go.Proofs.Tryz.prog ⟨[], [(0, [0]), (1, [2])], []⟩ Go.Proofs.Tryz.f42 = some F42 := by kernel_rfl
theorem F42_fn : FnOK2 Go.Proofs.Tryz.prog 42 (.pl F42) := .pl Go.Proofs.Tryz.func42 (by kernel_rfl) F42_ok
/-- emend/tree.formed -/
def F43 : DF := ⟨1,
(.seq
 (.reg [
   ⟨some 1, .bxL (.t 0), none⟩,
   ⟨some 2, .mv (.c (.bool false)), none⟩] [1])
 (.seq
  (.seq
   (.reg [
     ⟨some 8, .fa 3 (.t 1), none⟩,
     ⟨some 9, .ld false 1 (.t 8), none⟩,
     ⟨some 10, .len (.t 9), none⟩,
     ⟨some 11, .mv (.c (.int .i64 0)), none⟩] [1, 9, 10, 11])
   (.blk 0
    (.seq
     (.trim [1, 9, 10, 11])
     (.lop
      (.seq
       (.seq
        (.reg [
          ⟨some 12, .bin .lss none (.t 11) (.t 10), none⟩] [1, 9, 10, 11, 12])
        (.seq
         (.cnd (.t 12)
          .skip
          (.exit 0))
         (.seq
          (.blk 1
           (.seq
            (.reg [
              ⟨some 13, .ia 4 (.t 9) (.t 11), none⟩,
              ⟨some 14, .ld true 4 (.t 13), none⟩,
              ⟨some 4, .alL [(.int .i64 0), (.str []), (.sl 1 ⟨none, 0, (some 0), true⟩ []), (.sl 4 ⟨none, 0, (some 0), true⟩ [])], none⟩,
              ⟨none, .st 4 (.t 4) (.t 14), none⟩] [1, 4, 9, 10, 11])
            (.seq
             (.reg [
               ⟨some 15, .ld true 4 (.t 4), none⟩,
               ⟨some 16, .call 43 [(.t 15)], none⟩,
               ⟨some 17, .un .not (.t 16), none⟩] [1, 9, 10, 11, 17])
             (.cnd (.t 17)
              (.seq
               (.reg [
                 ⟨some 2, .mv (.c (.bool false)), none⟩] [2])
               .ret)
              .skip))))
          (.reg [
            ⟨some 18, .bin .add none (.t 11) (.c (.int .i64 1)), none⟩,
            ⟨some 11, .mv (.t 18), none⟩] [1, 9, 10, 11]))))
       (.trim [1, 9, 10, 11]))))))
  (.seq
   (.reg [
     ⟨some 19, .fa 2 (.t 1), none⟩,
     ⟨some 20, .ld false 1 (.t 19), none⟩,
     ⟨some 21, .len (.t 20), none⟩,
     ⟨some 22, .bin .eql (some .int) (.t 21) (.c (.int .i64 0)), none⟩,
     ⟨some 23, .mv (.t 22), none⟩,
     ⟨some 24, .fa 3 (.t 1), some (23, true)⟩,
     ⟨some 25, .ld false 1 (.t 24), some (23, true)⟩,
     ⟨some 26, .len (.t 25), some (23, true)⟩,
     ⟨some 27, .bin .eql (some .int) (.t 26) (.c (.int .i64 0)), some (23, true)⟩,
     ⟨some 28, .pick (.t 23) (.t 27) (.c (.bool false)), none⟩,
     ⟨some 5, .mv (.t 28), none⟩] [1, 5])
   (.seq
    (.seq
     (.reg [
       ⟨some 29, .fa 0 (.t 1), none⟩,
       ⟨some 30, .ld false 1 (.t 29), none⟩] [1, 5, 30])
     (.blk 2
      (.seq
       (.reg [
         ⟨some 32, .bin .eql (some .int) (.t 30) (.c (.int .i64 1)), none⟩,
         ⟨some 31, .mv (.t 32), none⟩] [1, 5, 30, 31])
       (.cnd (.t 31)
        (.seq
         (.reg [
           ⟨some 33, .mv (.t 5), none⟩,
           ⟨some 34, .mv (.t 33), none⟩,
           ⟨some 35, .fa 1 (.t 1), some (34, true)⟩,
           ⟨some 36, .ld false 1 (.t 35), some (34, true)⟩,
           ⟨some 37, .bin .eql (some .str) (.t 36) (.c (.str [])), some (34, true)⟩,
           ⟨some 38, .pick (.t 34) (.t 37) (.c (.bool false)), none⟩,
           ⟨some 2, .mv (.t 38), none⟩] [2])
         .ret)
        (.seq
         (.reg [
           ⟨some 40, .bin .eql (some .int) (.t 30) (.c (.int .i64 2)), none⟩,
           ⟨some 39, .mv (.t 40), none⟩] [1, 5, 30, 39])
         (.cnd (.t 39)
          (.seq
           (.reg [
             ⟨some 41, .mv (.t 5), none⟩,
             ⟨some 42, .mv (.t 41), none⟩,
             ⟨some 43, .fa 1 (.t 1), some (42, true)⟩,
             ⟨some 44, .ld false 1 (.t 43), some (42, true)⟩,
             ⟨some 45, .bin .eql (some .str) (.t 44) (.c (.str [116, 114, 117, 101])), some (42, true)⟩,
             ⟨some 46, .mv (.t 45), some (42, true)⟩,
             ⟨some 47, .fa 1 (.t 1), some (46, false)⟩,
             ⟨some 48, .ld false 1 (.t 47), some (46, false)⟩,
             ⟨some 49, .bin .eql (some .str) (.t 48) (.c (.str [102, 97, 108, 115, 101])), some (46, false)⟩,
             ⟨some 50, .pick (.t 46) (.c (.bool true)) (.t 49), some (42, true)⟩,
             ⟨some 51, .pick (.t 42) (.t 50) (.c (.bool false)), none⟩,
             ⟨some 2, .mv (.t 51), none⟩] [2])
           .ret)
          (.seq
           (.reg [
             ⟨some 53, .bin .eql (some .int) (.t 30) (.c (.int .i64 3)), none⟩,
             ⟨some 52, .mv (.t 53), none⟩] [1, 5, 30, 52])
           (.cnd (.t 52)
            (.seq
             (.reg [
               ⟨some 55, .fa 1 (.t 1), none⟩,
               ⟨some 56, .ld false 1 (.t 55), none⟩,
               ⟨some 57, .call 67 [(.t 56)], none⟩,
               ⟨some 54, .mv (.t 57), none⟩,
               ⟨some 58, .ext (.t 54) 0, none⟩,
               ⟨some 59, .ext (.t 54) 1, none⟩,
               ⟨some 6, .mv (.t 58), none⟩,
               ⟨some 7, .mv (.t 59), none⟩] [1, 5, 6, 7])
             (.seq
              (.reg [
                ⟨some 60, .mv (.t 5), none⟩,
                ⟨some 61, .mv (.t 60), none⟩,
                ⟨some 62, .mv (.t 7), some (61, true)⟩,
                ⟨some 63, .bin .eql (some .int) (.t 62) (.c (.int .i64 0)), some (61, true)⟩,
                ⟨some 64, .pick (.t 61) (.t 63) (.c (.bool false)), none⟩,
                ⟨some 65, .mv (.t 64), none⟩,
                ⟨some 66, .mv (.t 6), some (65, true)⟩,
                ⟨some 67, .fa 1 (.t 1), some (65, true)⟩,
                ⟨some 68, .ld false 1 (.t 67), some (65, true)⟩,
                ⟨some 69, .bin .eql (some .str) (.t 66) (.t 68), some (65, true)⟩,
                ⟨some 70, .pick (.t 65) (.t 69) (.c (.bool false)), none⟩,
                ⟨some 2, .mv (.t 70), none⟩] [2])
              .ret))
            (.seq
             (.reg [
               ⟨some 72, .bin .eql (some .int) (.t 30) (.c (.int .i64 4)), none⟩,
               ⟨some 71, .mv (.t 72), none⟩] [1, 5, 30, 71])
             (.cnd (.t 71)
              (.seq
               (.reg [
                 ⟨some 73, .mv (.t 5), none⟩,
                 ⟨some 74, .mv (.t 73), none⟩,
                 ⟨some 75, .fa 1 (.t 1), some (74, true)⟩,
                 ⟨some 76, .ld false 1 (.t 75), some (74, true)⟩,
                 ⟨some 77, .call 68 [(.t 76)], some (74, true)⟩,
                 ⟨some 78, .pick (.t 74) (.t 77) (.c (.bool false)), none⟩,
                 ⟨some 2, .mv (.t 78), none⟩] [2])
               .ret)
              (.seq
               (.reg [
                 ⟨some 80, .bin .eql (some .int) (.t 30) (.c (.int .i64 5)), none⟩,
                 ⟨some 79, .mv (.t 80), none⟩] [1, 5, 30, 79])
               (.cnd (.t 79)
                (.seq
                 (.reg [
                   ⟨some 81, .mv (.t 5), none⟩,
                   ⟨some 82, .mv (.t 81), none⟩,
                   ⟨some 83, .fa 1 (.t 1), some (82, true)⟩,
                   ⟨some 84, .ld false 1 (.t 83), some (82, true)⟩,
                   ⟨some 85, .call 64 [(.t 84)], some (82, true)⟩,
                   ⟨some 86, .pick (.t 82) (.t 85) (.c (.bool false)), none⟩,
                   ⟨some 2, .mv (.t 86), none⟩] [2])
                 .ret)
                (.seq
                 (.reg [
                   ⟨some 88, .bin .eql (some .int) (.t 30) (.c (.int .i64 6)), none⟩,
                   ⟨some 87, .mv (.t 88), none⟩] [1, 30, 87])
                 (.cnd (.t 87)
                  (.seq
                   (.reg [
                     ⟨some 89, .fa 1 (.t 1), none⟩,
                     ⟨some 90, .ld false 1 (.t 89), none⟩,
                     ⟨some 91, .bin .eql (some .str) (.t 90) (.c (.str [])), none⟩,
                     ⟨some 92, .mv (.t 91), none⟩,
                     ⟨some 93, .fa 2 (.t 1), some (92, true)⟩,
                     ⟨some 94, .ld false 1 (.t 93), some (92, true)⟩,
                     ⟨some 95, .len (.t 94), some (92, true)⟩,
                     ⟨some 96, .bin .eql (some .int) (.t 95) (.c (.int .i64 0)), some (92, true)⟩,
                     ⟨some 97, .pick (.t 92) (.t 96) (.c (.bool false)), none⟩,
                     ⟨some 2, .mv (.t 97), none⟩] [2])
                   .ret)
                  (.seq
                   (.reg [
                     ⟨some 99, .bin .eql (some .int) (.t 30) (.c (.int .i64 7)), none⟩,
                     ⟨some 98, .mv (.t 99), none⟩] [1, 98])
                   (.cnd (.t 98)
                    (.seq
                     (.reg [
                       ⟨some 100, .fa 1 (.t 1), none⟩,
                       ⟨some 101, .ld false 1 (.t 100), none⟩,
                       ⟨some 102, .bin .eql (some .str) (.t 101) (.c (.str [])), none⟩,
                       ⟨some 103, .mv (.t 102), none⟩,
                       ⟨some 104, .fa 2 (.t 1), some (103, true)⟩,
                       ⟨some 105, .ld false 1 (.t 104), some (103, true)⟩,
                       ⟨some 106, .len (.t 105), some (103, true)⟩,
                       ⟨some 107, .fa 3 (.t 1), some (103, true)⟩,
                       ⟨some 108, .ld false 1 (.t 107), some (103, true)⟩,
                       ⟨some 109, .len (.t 108), some (103, true)⟩,
                       ⟨some 110, .bin .eql (some .int) (.t 106) (.t 109), some (103, true)⟩,
                       ⟨some 111, .pick (.t 103) (.t 110) (.c (.bool false)), none⟩,
                       ⟨some 112, .mv (.t 111), none⟩,
                       ⟨some 113, .fa 2 (.t 1), some (112, true)⟩,
                       ⟨some 114, .ld false 1 (.t 113), some (112, true)⟩,
                       ⟨some 115, .call 69 [(.t 114)], some (112, true)⟩,
                       ⟨some 116, .pick (.t 112) (.t 115) (.c (.bool false)), none⟩,
                       ⟨some 2, .mv (.t 116), none⟩] [2])
                     .ret)
                    .skip))))))))))))))))
    (.seq
     (.reg [
       ⟨some 2, .mv (.c (.bool false)), none⟩] [2])
     .ret))))),
[.tmp 2]⟩
theorem F43_ok : prepF Go.Proofs.Tryz.prog ⟨[1, 4], [(0, [1]), (1, [1, 9, 10, 11]), (2, [1, 9, 10, 11, 12]), (3, [1, 4, 9, 10, 11]), (4, [1, 9, 10, 11, 17]), (5, [2]), (6, [1, 9, 10, 11]), (7, [1, 5]), (8, [1, 5, 30]), (9, [1, 5, 30, 31]), (10, [2]), (11, [1, 5, 30, 39]), (12, [2]), (13, [1, 5, 30, 52]), (14, [1, 5, 6, 7]), (15, [2]), (16, [1, 5, 30, 71]), (17, [2]), (18, [1, 5, 30, 79]), (19, [2]), (20, [1, 30, 87]), (21, [2]), (22, [1, 98]), (23, [2]), (24, [2]), (1000000, [1, 9, 10, 11])], []⟩ Go.Proofs.Tryz.f43 = some F43 := by kernel_rfl
theorem F43_fn : FnOK2 Go.Proofs.Tryz.prog 43 (.pl F43) := .pl Go.Proofs.Tryz.func43 (by kernel_rfl) F43_ok
/-- emend/tree.identical -/
def F44 : DF := ⟨2,
(.seq
 (.reg [
   ⟨some 2, .bxL (.t 0), none⟩,
   ⟨some 3, .bxL (.t 1), none⟩,
   ⟨some 4, .mv (.c (.bool false)), none⟩] [2, 3])
 (.seq
  (.reg [
    ⟨some 5, .fa 0 (.t 2), none⟩,
    ⟨some 6, .ld false 1 (.t 5), none⟩,
    ⟨some 7, .fa 0 (.t 3), none⟩,
    ⟨some 8, .ld false 1 (.t 7), none⟩,
    ⟨some 9, .bin .eql (some .int) (.t 6) (.t 8), none⟩,
    ⟨some 10, .mv (.t 9), none⟩,
    ⟨some 11, .fa 1 (.t 2), some (10, true)⟩,
    ⟨some 12, .ld false 1 (.t 11), some (10, true)⟩,
    ⟨some 13, .fa 1 (.t 3), some (10, true)⟩,
    ⟨some 14, .ld false 1 (.t 13), some (10, true)⟩,
    ⟨some 15, .bin .eql (some .str) (.t 12) (.t 14), some (10, true)⟩,
    ⟨some 16, .pick (.t 10) (.t 15) (.c (.bool false)), none⟩,
    ⟨some 17, .mv (.t 16), none⟩,
    ⟨some 18, .fa 2 (.t 2), some (17, true)⟩,
    ⟨some 19, .ld false 1 (.t 18), some (17, true)⟩,
    ⟨some 20, .fa 2 (.t 3), some (17, true)⟩,
    ⟨some 21, .ld false 1 (.t 20), some (17, true)⟩,
    ⟨some 22, .call 70 [(.t 19), (.t 21)], some (17, true)⟩,
    ⟨some 23, .pick (.t 17) (.t 22) (.c (.bool false)), none⟩,
    ⟨some 24, .mv (.t 23), none⟩,
    ⟨some 25, .fa 3 (.t 2), some (24, true)⟩,
    ⟨some 26, .ld false 1 (.t 25), some (24, true)⟩,
    ⟨some 27, .fa 3 (.t 3), some (24, true)⟩,
    ⟨some 28, .ld false 1 (.t 27), some (24, true)⟩,
    ⟨some 29, .call 71 [(.t 26), (.t 28), (.f 44)], some (24, true)⟩,
    ⟨some 30, .pick (.t 24) (.t 29) (.c (.bool false)), none⟩,
    ⟨some 4, .mv (.t 30), none⟩] [4])
  .ret)),
[.tmp 4]⟩
theorem F44_ok : prepF Go.Proofs.Tryz.prog ⟨[2, 3], [(0, [2, 3]), (1, [4])], []⟩ Go.Proofs.Tryz.f44 = some F44 := by kernel_rfl
theorem F44_fn : FnOK2 Go.Proofs.Tryz.prog 44 (.pl F44) := .pl Go.Proofs.Tryz.func44 (by kernel_rfl) F44_ok
/-- emend/tree.Sorted -/
def F45 : DF := ⟨1,
(.seq
 (.reg [
   ⟨some 1, .bxL (.t 0), none⟩,
   ⟨some 2, .alL [(.int .i64 0), (.str []), (.sl 1 ⟨none, 0, (some 0), true⟩ []), (.sl 4 ⟨none, 0, (some 0), true⟩ [])], none⟩] [1, 2])
 (.seq
  (.reg [
    ⟨some 8, .fa 0 (.t 1), none⟩,
    ⟨some 9, .ld false 1 (.t 8), none⟩,
    ⟨some 10, .fa 1 (.t 1), none⟩,
    ⟨some 11, .ld false 1 (.t 10), none⟩,
    ⟨some 12, .bld [(.int .i64 0), (.str []), (.sl 1 ⟨none, 0, (some 0), true⟩ []), (.sl 4 ⟨none, 0, (some 0), true⟩ [])] [(0, 1, (.t 9)), (1, 1, (.t 11))], none⟩,
    ⟨some 3, .alL [(.int .i64 0), (.str []), (.sl 1 ⟨none, 0, (some 0), true⟩ []), (.sl 4 ⟨none, 0, (some 0), true⟩ [])], none⟩,
    ⟨none, .st 4 (.t 3) (.t 12), none⟩] [1, 2, 3])
  (.seq
   (.seq
    (.reg [
      ⟨some 13, .fa 0 (.t 1), none⟩,
      ⟨some 14, .ld false 1 (.t 13), none⟩,
      ⟨some 15, .bin .neq (some .int) (.t 14) (.c (.int .i64 7)), none⟩,
      ⟨some 16, .mv (.t 15), none⟩,
      ⟨some 17, .fa 2 (.t 1), some (16, false)⟩,
      ⟨some 18, .ld false 1 (.t 17), some (16, false)⟩,
      ⟨some 19, .len (.t 18), some (16, false)⟩,
      ⟨some 20, .fa 3 (.t 1), some (16, false)⟩,
      ⟨some 21, .ld false 1 (.t 20), some (16, false)⟩,
      ⟨some 22, .len (.t 21), some (16, false)⟩,
      ⟨some 23, .bin .neq (some .int) (.t 19) (.t 22), some (16, false)⟩,
      ⟨some 24, .pick (.t 16) (.c (.bool true)) (.t 23), none⟩] [1, 2, 3, 24])
    (.cnd (.t 24)
     (.seq
      (.reg [
        ⟨some 25, .fa 2 (.t 3), none⟩,
        ⟨some 26, .ld false 1 (.t 25), none⟩,
        ⟨some 27, .fa 2 (.t 1), none⟩,
        ⟨some 28, .ld false 1 (.t 27), none⟩,
        ⟨some 29, .app false 9 1 16 (.t 26) (.t 28), none⟩,
        ⟨some 30, .fa 2 (.t 3), none⟩,
        ⟨none, .st 1 (.t 30) (.t 29), none⟩] [1, 2, 3])
      (.seq
       (.seq
        (.reg [
          ⟨some 31, .fa 3 (.t 1), none⟩,
          ⟨some 32, .ld false 1 (.t 31), none⟩,
          ⟨some 33, .len (.t 32), none⟩,
          ⟨some 34, .mv (.c (.int .i64 0)), none⟩] [2, 3, 32, 33, 34])
        (.blk 0
         (.seq
          (.trim [2, 3, 32, 33, 34])
          (.lop
           (.seq
            (.seq
             (.reg [
               ⟨some 35, .bin .lss none (.t 34) (.t 33), none⟩] [2, 3, 32, 33, 34, 35])
             (.seq
              (.cnd (.t 35)
               .skip
               (.exit 0))
              (.seq
               (.blk 1
                (.seq
                 (.reg [
                   ⟨some 36, .ia 4 (.t 32) (.t 34), none⟩,
                   ⟨some 37, .ld true 4 (.t 36), none⟩,
                   ⟨some 5, .alL [(.int .i64 0), (.str []), (.sl 1 ⟨none, 0, (some 0), true⟩ []), (.sl 4 ⟨none, 0, (some 0), true⟩ [])], none⟩,
                   ⟨none, .st 4 (.t 5) (.t 37), none⟩] [2, 3, 5, 32, 33, 34])
                 (.drw [
                   ((⟨some 38, .fa 3 (.t 3), none⟩, (some 3)), []),
                   ((⟨some 39, .ld false 1 (.t 38), none⟩, (some 3)), []),
                   ((⟨some 40, .ld true 4 (.t 5), none⟩, (some 5)), []),
                   ((⟨some 41, .call 45 [(.t 40)], none⟩, none), []),
                   ((⟨some 42, .bldS 4 1 (.agg [(.int .i64 0), (.str []), (.sl 1 ⟨none, 0, (some 0), true⟩ []), (.sl 4 ⟨none, 0, (some 0), true⟩ [])]) [(0, (.t 41))], none⟩, none), []),
                   ((⟨some 43, .app true 47 4 72 (.t 39) (.t 42), none⟩, none), []),
                   ((⟨some 44, .fa 3 (.t 3), none⟩, (some 3)), []),
                   ((⟨none, .st 1 (.t 44) (.t 43), none⟩, (some 3)), [])] [2, 3, 32, 33, 34])))
               (.reg [
                 ⟨some 45, .bin .add none (.t 34) (.c (.int .i64 1)), none⟩,
                 ⟨some 34, .mv (.t 45), none⟩] [2, 3, 32, 33, 34]))))
            (.trim [2, 3, 32, 33, 34]))))))
       (.seq
        (.reg [
          ⟨some 46, .ld true 4 (.t 3), none⟩,
          ⟨none, .st 4 (.t 2) (.t 46), none⟩] [2])
        .ret)))
     .skip))
   (.seq
    (.seq
     (.reg [
       ⟨some 47, .fa 2 (.t 1), none⟩,
       ⟨some 48, .ld false 1 (.t 47), none⟩,
       ⟨some 49, .call 72 [(.t 48)], none⟩,
       ⟨some 50, .len (.t 49), none⟩,
       ⟨some 51, .mv (.c (.int .i64 0)), none⟩] [1, 2, 3, 49, 50, 51])
     (.blk 2
      (.seq
       (.trim [1, 2, 3, 49, 50, 51])
       (.lop
        (.seq
         (.seq
          (.reg [
            ⟨some 52, .bin .lss none (.t 51) (.t 50), none⟩] [1, 2, 3, 49, 50, 51, 52])
          (.seq
           (.cnd (.t 52)
            .skip
            (.exit 2))
           (.seq
            (.blk 3
             (.seq
              (.reg [
                ⟨some 53, .ia 1 (.t 49) (.t 51), none⟩,
                ⟨some 54, .ld false 1 (.t 53), none⟩,
                ⟨some 7, .mv (.t 54), none⟩] [1, 2, 3, 7, 49, 50, 51])
              (.seq
               (.drw [
                 ((⟨some 55, .fa 2 (.t 3), none⟩, (some 3)), []),
                 ((⟨some 56, .ld false 1 (.t 55), none⟩, (some 3)), []),
                 ((⟨some 57, .fa 2 (.t 1), none⟩, (some 1)), []),
                 ((⟨some 58, .ld false 1 (.t 57), none⟩, (some 1)), []),
                 ((⟨some 59, .mv (.t 7), none⟩, none), []),
                 ((⟨some 60, .ia 1 (.t 58) (.t 59), none⟩, none), []),
                 ((⟨some 61, .ld false 1 (.t 60), none⟩, none), []),
                 ((⟨some 62, .bldS 1 1 (.str []) [(0, (.t 61))], none⟩, none), []),
                 ((⟨some 63, .app false 9 1 16 (.t 56) (.t 62), none⟩, none), []),
                 ((⟨some 64, .fa 2 (.t 3), none⟩, (some 3)), []),
                 ((⟨none, .st 1 (.t 64) (.t 63), none⟩, (some 3)), [])] [1, 2, 3, 7, 49, 50, 51])
               (.drw [
                 ((⟨some 65, .fa 3 (.t 3), none⟩, (some 3)), []),
                 ((⟨some 66, .ld false 1 (.t 65), none⟩, (some 3)), []),
                 ((⟨some 67, .fa 3 (.t 1), none⟩, (some 1)), []),
                 ((⟨some 68, .ld false 1 (.t 67), none⟩, (some 1)), []),
                 ((⟨some 69, .mv (.t 7), none⟩, none), []),
                 ((⟨some 70, .ia 4 (.t 68) (.t 69), none⟩, none), []),
                 ((⟨some 71, .ld true 4 (.t 70), none⟩, none), []),
                 ((⟨some 72, .call 45 [(.t 71)], none⟩, none), []),
                 ((⟨some 73, .bldS 4 1 (.agg [(.int .i64 0), (.str []), (.sl 1 ⟨none, 0, (some 0), true⟩ []), (.sl 4 ⟨none, 0, (some 0), true⟩ [])]) [(0, (.t 72))], none⟩, none), []),
                 ((⟨some 74, .app true 47 4 72 (.t 66) (.t 73), none⟩, none), []),
                 ((⟨some 75, .fa 3 (.t 3), none⟩, (some 3)), []),
                 ((⟨none, .st 1 (.t 75) (.t 74), none⟩, (some 3)), [])] [1, 2, 3, 49, 50, 51]))))
            (.reg [
              ⟨some 76, .bin .add none (.t 51) (.c (.int .i64 1)), none⟩,
              ⟨some 51, .mv (.t 76), none⟩] [1, 2, 3, 49, 50, 51]))))
         (.trim [1, 2, 3, 49, 50, 51]))))))
    (.seq
     (.reg [
       ⟨some 77, .ld true 4 (.t 3), none⟩,
       ⟨none, .st 4 (.t 2) (.t 77), none⟩] [2])
     .ret))))),
[.cell 2 true 4]⟩
theorem F45_ok : prepF Go.Proofs.Tryz.prog ⟨[1, 2, 3, 5], [(0, [1, 2]), (1, [1, 2, 3]), (2, [1, 2, 3, 24]), (3, [1, 2, 3]), (4, [2, 3, 32, 33, 34]), (5, [2, 3, 32, 33, 34, 35]), (6, [2, 3, 5, 32, 33, 34]), (7, [2, 3, 32, 33, 34]), (8, [2, 3, 32, 33, 34]), (9, [2]), (10, [1, 2, 3, 49, 50, 51]), (11, [1, 2, 3, 49, 50, 51, 52]), (12, [1, 2, 3, 7, 49, 50, 51]), (13, [1, 2, 3, 7, 49, 50, 51]), (14, [1, 2, 3, 49, 50, 51]), (15, [1, 2, 3, 49, 50, 51]), (16, [2]), (1000000, [2, 3, 32, 33, 34]), (1000002, [1, 2, 3, 49, 50, 51])], [(14, [(some 3), (some 3), (some 1), (some 1), none, none, none, none, none, none, (some 3), (some 3)]), (13, [(some 3), (some 3), (some 1), (some 1), none, none, none, none, none, (some 3), (some 3)]), (7, [(some 3), (some 3), (some 5), none, none, none, (some 3), (some 3)])]⟩ Go.Proofs.Tryz.f45 = some F45 := by kernel_rfl
theorem F45_fn : FnOK2 Go.Proofs.Tryz.prog 45 (.pl F45) := .pl Go.Proofs.Tryz.func45 (by kernel_rfl) F45_ok
/-- emend/text.Wrong -/
def F52 : DF := ⟨2,
(.seq
 (.reg [
   ⟨some 4, .mv (.c .nilp), none⟩] [0, 1])
 (.seq
  (.reg [
    ⟨some 5, .mv (.t 0), none⟩,
    ⟨some 6, .bld [(.int .i64 0)] [(0, 1, (.t 5))], none⟩,
    ⟨some 7, .mv (.t 1), none⟩,
    ⟨some 8, .bld [(.int .i64 0), (.int .i64 0)] [(0, 1, (.t 6)), (1, 1, (.t 7))], none⟩,
    ⟨some 9, .bxH 112 (.t 8), none⟩,
    ⟨some 4, .mv (.t 9), none⟩] [4])
  .ret)),
[.tmp 4]⟩
theorem F52_ok : prepF Go.Proofs.Tryz.prog ⟨[], [(0, [0, 1]), (1, [4])], []⟩ Go.Proofs.Tryz.f52 = some F52 := by kernel_rfl
theorem F52_fn : FnOK2 Go.Proofs.Tryz.prog 52 (.pl F52) := .pl Go.Proofs.Tryz.func52 (by kernel_rfl) F52_ok
/-- emend/text.Bad -/
def F53 : DF := ⟨1,
(.seq
 (.reg [
   ⟨some 2, .mv (.c (.int .i64 0)), none⟩] [0])
 (.seq
  (.seq
   (.reg [
     ⟨some 3, .mv (.c (.int .i64 0)), none⟩] [0, 3])
   (.blk 0
    (.seq
     (.trim [0, 3])
     (.lop
      (.seq
       (.seq
        (.seq
         (.reg [
           ⟨some 6, .mv (.t 3), none⟩,
           ⟨some 7, .mv (.t 0), none⟩,
           ⟨some 8, .lenS (.t 7), none⟩,
           ⟨some 9, .bin .lss none (.t 6) (.t 8), none⟩] [0, 3, 9])
         (.cnd (.t 9)
          .skip
          (.exit 0)))
        (.blk 1
         (.seq
          (.reg [
            ⟨some 11, .mv (.t 0), none⟩,
            ⟨some 12, .mv (.t 3), none⟩,
            ⟨some 13, .slS (.t 11) (some (.t 12)) none, none⟩,
            ⟨some 14, .call 78 [(.t 13)], none⟩,
            ⟨some 10, .mv (.t 14), none⟩,
            ⟨some 15, .ext (.t 10) 0, none⟩,
            ⟨some 16, .ext (.t 10) 1, none⟩,
            ⟨some 4, .mv (.t 15), none⟩,
            ⟨some 5, .mv (.t 16), none⟩] [0, 3, 5])
          (.seq
           (.seq
            (.reg [
              ⟨some 17, .mv (.t 5), none⟩,
              ⟨some 18, .bin .eql (some .int) (.t 17) (.c (.int .i64 0)), none⟩] [0, 3, 5, 18])
            (.cnd (.t 18)
             (.seq
              (.reg [
                ⟨some 19, .mv (.t 3), none⟩,
                ⟨some 2, .mv (.t 19), none⟩] [2])
              .ret)
             .skip))
           (.reg [
             ⟨some 20, .mv (.t 3), none⟩,
             ⟨some 21, .mv (.t 5), none⟩,
             ⟨some 22, .bin .add none (.t 20) (.t 21), none⟩,
             ⟨some 3, .mv (.t 22), none⟩] [0, 3])))))
       (.trim [0, 3]))))))
  (.seq
   (.reg [
     ⟨some 2, .mv (.c (.int .i64 (-1))), none⟩] [2])
   .ret))),
[.tmp 2]⟩
theorem F53_ok : prepF Go.Proofs.Tryz.prog ⟨[], [(0, [0]), (1, [0, 3]), (2, [0, 3, 9]), (3, [0, 3, 5]), (4, [0, 3, 5, 18]), (5, [2]), (6, [0, 3]), (7, [2]), (1000000, [0, 3])], []⟩ Go.Proofs.Tryz.f53 = some F53 := by kernel_rfl
theorem F53_fn : FnOK2 Go.Proofs.Tryz.prog 53 (.pl F53) := .pl Go.Proofs.Tryz.func53 (by kernel_rfl) F53_ok
/-- emend/tree.Read$1 -/
def F54 : DG := ⟨1, 4,
[⟨some 1, .mv (.t 4), none⟩], [0, 1],
(.seq
 (.reg [
   ⟨some 5, .mv (.t 1), none⟩,
   ⟨some 6, .bin .eql (some .ifc) (.t 5) (.c .nilif), none⟩] [0, 1, 6])
 (.seq
  (.cnd (.t 6)
   .ret
   .skip)
  (.seq
   (.reg [
     ⟨some 8, .mv (.t 1), none⟩,
     ⟨some 9, .tas true 87 .nilp (.t 8), none⟩,
     ⟨some 7, .mv (.t 9), none⟩,
     ⟨some 10, .ext (.t 7) 0, none⟩,
     ⟨some 11, .ext (.t 7) 1, none⟩,
     ⟨some 2, .mv (.t 10), none⟩,
     ⟨some 3, .mv (.t 11), none⟩] [0, 1, 2, 3])
   (.seq
    (.reg [
      ⟨some 12, .mv (.t 3), none⟩,
      ⟨some 13, .un .not (.t 12), none⟩] [0, 1, 2, 13])
    (.seq
     (.cnd (.t 13)
      (.reg [
        ⟨some 14, .mv (.t 1), none⟩,
        ⟨none, .pnc (.t 14), none⟩] [0, 2])
      .skip)
     (.seq
      (.reg [
        ⟨some 15, .mv (.t 2), none⟩,
        ⟨some 16, .mki 87 (.t 15), none⟩,
        ⟨none, .st 1 (.t 0) (.t 16), none⟩] [])
      .skip))))))⟩
theorem F54_ok : prepG Go.Proofs.Tryz.prog ⟨[], [(0, [0, 1]), (1, [0, 1, 6]), (2, [0, 1, 2, 3]), (3, [0, 1, 2, 13]), (4, [0, 2]), (5, [])], []⟩ Go.Proofs.Tryz.f54 = some F54 := by kernel_rfl
theorem F54_fn : FnOK2 Go.Proofs.Tryz.prog 54 (.rc F54) := .rc Go.Proofs.Tryz.func54 (by kernel_rfl) F54_ok
/-- (*emend/tree.Place).Row -/
def F55 : DF := ⟨2,
(.seq
 (.reg [
   ⟨some 4, .mv (.c (.str [])), none⟩] [0, 1])
 (.seq
  (.reg [
    ⟨some 6, .mv (.t 0), none⟩,
    ⟨some 7, .nilc (.t 6), none⟩,
    ⟨some 8, .fa 1 (.t 7), none⟩,
    ⟨some 9, .ld false 1 (.t 8), none⟩,
    ⟨some 5, .mv (.t 9), none⟩] [0, 1, 5])
  (.seq
   (.blk 0
    (.seq
     (.trim [0, 1, 5])
     (.lop
      (.seq
       (.seq
        (.seq
         (.drw [
           ((⟨some 10, .mv (.t 0), none⟩, none), []),
           ((⟨some 11, .nilc (.t 10), none⟩, none), []),
           ((⟨some 12, .fa 1 (.t 11), none⟩, none), []),
           ((⟨some 13, .ld false 1 (.t 12), none⟩, none), []),
           ((⟨some 14, .mv (.t 0), none⟩, none), []),
           ((⟨some 15, .nilc (.t 14), none⟩, none), []),
           ((⟨some 16, .fa 0 (.t 15), none⟩, none), []),
           ((⟨some 17, .ld false 1 (.t 16), none⟩, none), []),
           ((⟨some 18, .lenS (.t 17), none⟩, none), []),
           ((⟨some 19, .bin .lss none (.t 13) (.t 18), none⟩, none), []),
           ((⟨some 20, .mv (.t 19), none⟩, none), []),
           ((⟨some 21, .mv (.t 1), some (20, true)⟩, none), []),
           ((⟨some 22, .mv (.t 0), some (20, true)⟩, none), []),
           ((⟨some 23, .nilc (.t 22), some (20, true)⟩, none), []),
           ((⟨some 24, .fa 0 (.t 23), some (20, true)⟩, none), []),
           ((⟨some 25, .ld false 1 (.t 24), some (20, true)⟩, none), []),
           ((⟨some 26, .mv (.t 0), some (20, true)⟩, none), []),
           ((⟨some 27, .nilc (.t 26), some (20, true)⟩, none), []),
           ((⟨some 28, .fa 1 (.t 27), some (20, true)⟩, none), []),
           ((⟨some 29, .ld false 1 (.t 28), some (20, true)⟩, none), []),
           ((⟨some 30, .ixS (.t 25) (.t 29), some (20, true)⟩, none), []),
           ((⟨some 31, .callv (.t 21) [(.t 30)], some (20, true)⟩, none), []),
           ((⟨some 32, .pick (.t 20) (.t 31) (.c (.bool false)), none⟩, none), [])] [0, 1, 5, 32])
         (.cnd (.t 32)
          .skip
          (.exit 0)))
        (.blk 1
         (.reg [
           ⟨some 33, .mv (.t 0), none⟩,
           ⟨some 34, .nilc (.t 33), none⟩,
           ⟨some 35, .fa 1 (.t 34), none⟩,
           ⟨some 36, .ld false 1 (.t 35), none⟩,
           ⟨some 37, .bin .add none (.t 36) (.c (.int .i64 1)), none⟩,
           ⟨some 38, .nilc (.t 33), none⟩,
           ⟨some 39, .fa 1 (.t 38), none⟩,
           ⟨none, .st 1 (.t 39) (.t 37), none⟩] [0, 1, 5])))
       (.trim [0, 1, 5])))))
   (.seq
    (.drw [
      ((⟨some 40, .mv (.t 0), none⟩, none), []),
      ((⟨some 41, .nilc (.t 40), none⟩, none), []),
      ((⟨some 42, .fa 0 (.t 41), none⟩, none), []),
      ((⟨some 43, .ld false 1 (.t 42), none⟩, none), []),
      ((⟨some 44, .mv (.t 5), none⟩, none), []),
      ((⟨some 45, .mv (.t 0), none⟩, none), []),
      ((⟨some 46, .nilc (.t 45), none⟩, none), []),
      ((⟨some 47, .fa 1 (.t 46), none⟩, none), []),
      ((⟨some 48, .ld false 1 (.t 47), none⟩, none), []),
      ((⟨some 49, .slS (.t 43) (some (.t 44)) (some (.t 48)), none⟩, none), []),
      ((⟨some 4, .mv (.t 49), none⟩, none), [])] [4])
    .ret)))),
[.tmp 4]⟩
theorem F55_ok : prepF Go.Proofs.Tryz.prog ⟨[], [(0, [0, 1]), (1, [0, 1, 5]), (2, [0, 1, 5, 32]), (3, [0, 1, 5]), (4, [4]), (1000000, [0, 1, 5])], []⟩ Go.Proofs.Tryz.f55 = some F55 := by kernel_rfl
theorem F55_fn : FnOK2 Go.Proofs.Tryz.prog 55 (.pl F55) := .pl Go.Proofs.Tryz.func55 (by kernel_rfl) F55_ok
/-- emend/tree.Blank -/
def F56 : DF := ⟨1,
(.seq
 (.reg [
   ⟨some 2, .mv (.c (.bool false)), none⟩] [0])
 (.seq
  (.reg [
    ⟨some 3, .mv (.t 0), none⟩,
    ⟨some 4, .bin .eql (some .int) (.t 3) (.c (.int .u8 9)), none⟩,
    ⟨some 5, .mv (.t 4), none⟩,
    ⟨some 6, .mv (.t 0), some (5, false)⟩,
    ⟨some 7, .bin .eql (some .int) (.t 6) (.c (.int .u8 10)), some (5, false)⟩,
    ⟨some 8, .pick (.t 5) (.c (.bool true)) (.t 7), none⟩,
    ⟨some 9, .mv (.t 8), none⟩,
    ⟨some 10, .mv (.t 0), some (9, false)⟩,
    ⟨some 11, .bin .eql (some .int) (.t 10) (.c (.int .u8 13)), some (9, false)⟩,
    ⟨some 12, .pick (.t 9) (.c (.bool true)) (.t 11), none⟩,
    ⟨some 13, .mv (.t 12), none⟩,
    ⟨some 14, .mv (.t 0), some (13, false)⟩,
    ⟨some 15, .bin .eql (some .int) (.t 14) (.c (.int .u8 32)), some (13, false)⟩,
    ⟨some 16, .pick (.t 13) (.c (.bool true)) (.t 15), none⟩,
    ⟨some 2, .mv (.t 16), none⟩] [2])
  .ret)),
[.tmp 2]⟩
theorem F56_ok : prepF Go.Proofs.Tryz.prog ⟨[], [(0, [0]), (1, [2])], []⟩ Go.Proofs.Tryz.f56 = some F56 := by kernel_rfl
theorem F56_fn : FnOK2 Go.Proofs.Tryz.prog 56 (.pl F56) := .pl Go.Proofs.Tryz.func56 (by kernel_rfl) F56_ok
/-- (*emend/tree.Place).Is -/
def F57 : DF := ⟨2,
(.seq
 (.reg [
   ⟨some 4, .mv (.c (.bool false)), none⟩] [0, 1])
 (.seq
  (.drw [
    ((⟨some 5, .mv (.t 0), none⟩, none), []),
    ((⟨some 6, .nilc (.t 5), none⟩, none), []),
    ((⟨some 7, .fa 1 (.t 6), none⟩, none), []),
    ((⟨some 8, .ld false 1 (.t 7), none⟩, none), []),
    ((⟨some 9, .mv (.t 0), none⟩, none), []),
    ((⟨some 10, .nilc (.t 9), none⟩, none), []),
    ((⟨some 11, .fa 0 (.t 10), none⟩, none), []),
    ((⟨some 12, .ld false 1 (.t 11), none⟩, none), []),
    ((⟨some 13, .lenS (.t 12), none⟩, none), []),
    ((⟨some 14, .bin .lss none (.t 8) (.t 13), none⟩, none), []),
    ((⟨some 15, .mv (.t 14), none⟩, none), []),
    ((⟨some 16, .mv (.t 0), some (15, true)⟩, none), []),
    ((⟨some 17, .nilc (.t 16), some (15, true)⟩, none), []),
    ((⟨some 18, .fa 0 (.t 17), some (15, true)⟩, none), []),
    ((⟨some 19, .ld false 1 (.t 18), some (15, true)⟩, none), []),
    ((⟨some 20, .mv (.t 0), some (15, true)⟩, none), []),
    ((⟨some 21, .nilc (.t 20), some (15, true)⟩, none), []),
    ((⟨some 22, .fa 1 (.t 21), some (15, true)⟩, none), []),
    ((⟨some 23, .ld false 1 (.t 22), some (15, true)⟩, none), []),
    ((⟨some 24, .ixS (.t 19) (.t 23), some (15, true)⟩, none), []),
    ((⟨some 25, .mv (.t 1), some (15, true)⟩, none), []),
    ((⟨some 26, .bin .eql (some .int) (.t 24) (.t 25), some (15, true)⟩, none), []),
    ((⟨some 27, .pick (.t 15) (.t 26) (.c (.bool false)), none⟩, none), []),
    ((⟨some 4, .mv (.t 27), none⟩, none), [])] [4])
  .ret)),
[.tmp 4]⟩
theorem F57_ok : prepF Go.Proofs.Tryz.prog ⟨[], [(0, [0, 1]), (1, [4])], []⟩ Go.Proofs.Tryz.f57 = some F57 := by kernel_rfl
theorem F57_fn : FnOK2 Go.Proofs.Tryz.prog 57 (.pl F57) := .pl Go.Proofs.Tryz.func57 (by kernel_rfl) F57_ok
/-- (*emend/tree.Place).Node -/
def F58 : DF := ⟨4,
(.seq
 (.seq
  (.reg [
    ⟨some 8, .mv (.t 2), none⟩,
    ⟨some 9, .bin .gtr none (.t 8) (.c (.int .i64 64)), none⟩] [0, 1, 3, 9])
  (.cnd (.t 9)
   (.reg [
     ⟨some 10, .mv (.t 1), none⟩,
     ⟨some 11, .call 65 [(.t 10), (.c (.int .i64 4))], none⟩] [0, 1, 3])
   .skip))
 (.seq
  (.reg [
    ⟨some 12, .mv (.t 0), none⟩,
    ⟨some 13, .nilc (.t 12), none⟩,
    ⟨some 14, .fa 2 (.t 13), none⟩,
    ⟨some 15, .ld false 1 (.t 14), none⟩,
    ⟨some 16, .mv (.t 3), none⟩,
    ⟨some 17, .bin .add none (.t 15) (.t 16), none⟩,
    ⟨some 18, .nilc (.t 12), none⟩,
    ⟨some 19, .fa 2 (.t 18), none⟩,
    ⟨none, .st 1 (.t 19) (.t 17), none⟩] [0, 1])
  (.seq
   (.reg [
     ⟨some 20, .mv (.t 0), none⟩,
     ⟨some 21, .nilc (.t 20), none⟩,
     ⟨some 22, .fa 2 (.t 21), none⟩,
     ⟨some 23, .ld false 1 (.t 22), none⟩,
     ⟨some 24, .bin .gtr none (.t 23) (.c (.int .i64 4096)), none⟩] [1, 24])
   (.cnd (.t 24)
    (.reg [
      ⟨some 25, .mv (.t 1), none⟩,
      ⟨some 26, .call 65 [(.t 25), (.c (.int .i64 3))], none⟩] [])
    .skip)))),
[]⟩
theorem F58_ok : prepF Go.Proofs.Tryz.prog ⟨[], [(0, [0, 1, 3, 9]), (1, [0, 1, 3]), (2, [0, 1]), (3, [1, 24]), (4, [])], []⟩ Go.Proofs.Tryz.f58 = some F58 := by kernel_rfl
theorem F58_fn : FnOK2 Go.Proofs.Tryz.prog 58 (.pl F58) := .pl Go.Proofs.Tryz.func58 (by kernel_rfl) F58_ok
/-- (*emend/tree.Place).Quoted -/
def F59 : DF := ⟨1,
(.seq
 (.reg [
   ⟨some 2, .mv (.c (.str [])), none⟩] [0])
 (.seq
  (.drw [
    ((⟨some 7, .mv (.t 0), none⟩, none), []),
    ((⟨some 8, .nilc (.t 7), none⟩, none), []),
    ((⟨some 9, .fa 0 (.t 8), none⟩, none), []),
    ((⟨some 10, .ld false 1 (.t 9), none⟩, none), []),
    ((⟨some 11, .mv (.t 0), none⟩, none), []),
    ((⟨some 12, .nilc (.t 11), none⟩, none), []),
    ((⟨some 13, .fa 1 (.t 12), none⟩, none), []),
    ((⟨some 14, .ld false 1 (.t 13), none⟩, none), []),
    ((⟨some 15, .slS (.t 10) (some (.t 14)) none, none⟩, none), []),
    ((⟨some 16, .call 79 [(.t 15)], none⟩, none), []),
    ((⟨some 6, .mv (.t 16), none⟩, none), []),
    ((⟨some 17, .ext (.t 6) 0, none⟩, none), []),
    ((⟨some 18, .ext (.t 6) 1, none⟩, none), []),
    ((⟨some 19, .ext (.t 6) 2, none⟩, none), []),
    ((⟨some 3, .mv (.t 17), none⟩, none), []),
    ((⟨some 4, .mv (.t 18), none⟩, none), []),
    ((⟨some 5, .mv (.t 19), none⟩, none), [])] [0, 3, 4, 5])
  (.seq
   (.seq
    (.reg [
      ⟨some 20, .mv (.t 5), none⟩,
      ⟨some 21, .bin .neq (some .ptr) (.t 20) (.c .nilp), none⟩] [0, 3, 4, 5, 21])
    (.cnd (.t 21)
     (.drw [
       ((⟨some 22, .mv (.t 0), none⟩, none), []),
       ((⟨some 23, .nilc (.t 22), none⟩, none), []),
       ((⟨some 24, .fa 1 (.t 23), none⟩, none), []),
       ((⟨some 25, .ld false 1 (.t 24), none⟩, none), []),
       ((⟨some 26, .mv (.t 5), none⟩, none), []),
       ((⟨some 27, .nilc (.t 26), none⟩, none), []),
       ((⟨some 28, .fa 0 (.t 27), none⟩, none), []),
       ((⟨some 29, .fa 0 (.t 28), none⟩, none), []),
       ((⟨some 30, .ld false 1 (.t 29), none⟩, none), []),
       ((⟨some 31, .bin .add none (.t 25) (.t 30), none⟩, none), []),
       ((⟨some 32, .mv (.t 5), none⟩, none), []),
       ((⟨some 33, .nilc (.t 32), none⟩, none), []),
       ((⟨some 34, .fa 1 (.t 33), none⟩, none), []),
       ((⟨some 35, .ld false 1 (.t 34), none⟩, none), []),
       ((⟨some 36, .call 65 [(.t 31), (.t 35)], none⟩, none), [])] [0, 3, 4])
     .skip))
   (.seq
    (.reg [
      ⟨some 37, .mv (.t 0), none⟩,
      ⟨some 38, .nilc (.t 37), none⟩,
      ⟨some 39, .fa 1 (.t 38), none⟩,
      ⟨some 40, .ld false 1 (.t 39), none⟩,
      ⟨some 41, .mv (.t 4), none⟩,
      ⟨some 42, .bin .add none (.t 40) (.t 41), none⟩,
      ⟨some 43, .nilc (.t 37), none⟩,
      ⟨some 44, .fa 1 (.t 43), none⟩,
      ⟨none, .st 1 (.t 44) (.t 42), none⟩] [3])
    (.seq
     (.reg [
       ⟨some 45, .mv (.t 3), none⟩,
       ⟨some 2, .mv (.t 45), none⟩] [2])
     .ret))))),
[.tmp 2]⟩
theorem F59_ok : prepF Go.Proofs.Tryz.prog ⟨[], [(0, [0]), (1, [0, 3, 4, 5]), (2, [0, 3, 4, 5, 21]), (3, [0, 3, 4]), (4, [3]), (5, [2])], []⟩ Go.Proofs.Tryz.f59 = some F59 := by kernel_rfl
theorem F59_fn : FnOK2 Go.Proofs.Tryz.prog 59 (.pl F59) := .pl Go.Proofs.Tryz.func59 (by kernel_rfl) F59_ok
/-- (emend/tree.parser).list -/
def F60 : DF := ⟨2,
(.seq
 (.reg [
   ⟨some 2, .bxL (.t 0), none⟩,
   ⟨some 4, .alL [(.int .i64 0), (.str []), (.sl 1 ⟨none, 0, (some 0), true⟩ []), (.sl 4 ⟨none, 0, (some 0), true⟩ [])], none⟩] [1, 2, 4])
 (.seq
  (.reg [
    ⟨some 6, .bld [(.int .i64 0), (.str []), (.sl 1 ⟨none, 0, (some 0), true⟩ []), (.sl 4 ⟨none, 0, (some 0), true⟩ [])] [(0, 1, (.c (.int .i64 6)))], none⟩,
    ⟨some 5, .alL [(.int .i64 0), (.str []), (.sl 1 ⟨none, 0, (some 0), true⟩ []), (.sl 4 ⟨none, 0, (some 0), true⟩ [])], none⟩,
    ⟨none, .st 4 (.t 5) (.t 6), none⟩] [1, 2, 4, 5])
  (.seq
   (.reg [
     ⟨some 7, .fa 0 (.t 2), none⟩,
     ⟨some 8, .ld false 1 (.t 7), none⟩,
     ⟨some 9, .call 80 [(.t 8), (.c (.int .u8 91))], none⟩] [1, 2, 4, 5])
   (.seq
    (.seq
     (.reg [
       ⟨some 10, .ld true 1 (.t 2), none⟩,
       ⟨some 11, .call 39 [(.t 10)], none⟩] [1, 2, 4, 5])
     (.seq
      (.reg [
        ⟨some 12, .fa 0 (.t 2), none⟩,
        ⟨some 13, .ld false 1 (.t 12), none⟩,
        ⟨some 14, .call 57 [(.t 13), (.c (.int .u8 93))], none⟩] [1, 2, 4, 5, 14])
      (.cnd (.t 14)
       (.seq
        (.reg [
          ⟨some 15, .fa 0 (.t 2), none⟩,
          ⟨some 16, .ld false 1 (.t 15), none⟩,
          ⟨some 17, .nilc (.t 16), none⟩,
          ⟨some 18, .fa 1 (.t 17), none⟩,
          ⟨some 19, .ld false 1 (.t 18), none⟩,
          ⟨some 20, .bin .add none (.t 19) (.c (.int .i64 1)), none⟩,
          ⟨some 21, .nilc (.t 16), none⟩,
          ⟨some 22, .fa 1 (.t 21), none⟩,
          ⟨none, .st 1 (.t 22) (.t 20), none⟩] [4, 5])
        (.seq
         (.reg [
           ⟨some 23, .ld true 4 (.t 5), none⟩,
           ⟨none, .st 4 (.t 4) (.t 23), none⟩] [4])
         .ret))
       .skip)))
    (.blk 0
     (.seq
      (.trim [1, 2, 4, 5])
      (.lop
       (.seq
        (.blk 1
         (.seq
          (.reg [
            ⟨some 24, .ld true 1 (.t 2), none⟩,
            ⟨some 25, .call 39 [(.t 24)], none⟩] [1, 2, 4, 5])
          (.seq
           (.drw [
             ((⟨some 26, .fa 3 (.t 5), none⟩, (some 5)), []),
             ((⟨some 27, .ld false 1 (.t 26), none⟩, (some 5)), []),
             ((⟨some 28, .ld true 1 (.t 2), none⟩, (some 2)), []),
             ((⟨some 29, .mv (.t 1), none⟩, none), []),
             ((⟨some 30, .bin .add none (.t 29) (.c (.int .i64 1)), none⟩, none), []),
             ((⟨some 31, .call 40 [(.t 28), (.t 30)], none⟩, none), []),
             ((⟨some 32, .bldS 4 1 (.agg [(.int .i64 0), (.str []), (.sl 1 ⟨none, 0, (some 0), true⟩ []), (.sl 4 ⟨none, 0, (some 0), true⟩ [])]) [(0, (.t 31))], none⟩, none), []),
             ((⟨some 33, .app true 47 4 72 (.t 27) (.t 32), none⟩, none), []),
             ((⟨some 34, .fa 3 (.t 5), none⟩, (some 5)), []),
             ((⟨none, .st 1 (.t 34) (.t 33), none⟩, (some 5)), [])] [1, 2, 4, 5])
           (.seq
            (.reg [
              ⟨some 35, .ld true 1 (.t 2), none⟩,
              ⟨some 36, .call 39 [(.t 35)], none⟩] [1, 2, 4, 5])
            (.seq
             (.seq
              (.reg [
                ⟨some 37, .fa 0 (.t 2), none⟩,
                ⟨some 38, .ld false 1 (.t 37), none⟩,
                ⟨some 39, .call 57 [(.t 38), (.c (.int .u8 44))], none⟩,
                ⟨some 40, .un .not (.t 39), none⟩] [1, 2, 4, 5, 40])
              (.cnd (.t 40)
               (.seq
                (.reg [
                  ⟨some 41, .fa 0 (.t 2), none⟩,
                  ⟨some 42, .ld false 1 (.t 41), none⟩,
                  ⟨some 43, .call 80 [(.t 42), (.c (.int .u8 93))], none⟩] [4, 5])
                (.seq
                 (.reg [
                   ⟨some 44, .ld true 4 (.t 5), none⟩,
                   ⟨none, .st 4 (.t 4) (.t 44), none⟩] [4])
                 .ret))
               .skip))
             (.reg [
               ⟨some 45, .fa 0 (.t 2), none⟩,
               ⟨some 46, .ld false 1 (.t 45), none⟩,
               ⟨some 47, .nilc (.t 46), none⟩,
               ⟨some 48, .fa 1 (.t 47), none⟩,
               ⟨some 49, .ld false 1 (.t 48), none⟩,
               ⟨some 50, .bin .add none (.t 49) (.c (.int .i64 1)), none⟩,
               ⟨some 51, .nilc (.t 46), none⟩,
               ⟨some 52, .fa 1 (.t 51), none⟩,
               ⟨none, .st 1 (.t 52) (.t 50), none⟩] [1, 2, 4, 5]))))))
        (.trim [1, 2, 4, 5]))))))))),
[.cell 4 true 4]⟩
theorem F60_ok : prepF Go.Proofs.Tryz.prog ⟨[2, 4, 5], [(0, [1, 2, 4]), (1, [1, 2, 4, 5]), (2, [1, 2, 4, 5]), (3, [1, 2, 4, 5]), (4, [1, 2, 4, 5, 14]), (5, [4, 5]), (6, [4]), (7, [1, 2, 4, 5]), (8, [1, 2, 4, 5]), (9, [1, 2, 4, 5]), (10, [1, 2, 4, 5, 40]), (11, [4, 5]), (12, [4]), (13, [1, 2, 4, 5]), (1000000, [1, 2, 4, 5])], [(8, [(some 5), (some 5), (some 2), none, none, none, none, none, (some 5), (some 5)])]⟩ Go.Proofs.Tryz.f60 = some F60 := by kernel_rfl
theorem F60_fn : FnOK2 Go.Proofs.Tryz.prog 60 (.pl F60) := .pl Go.Proofs.Tryz.func60 (by kernel_rfl) F60_ok
/-- (emend/tree.parser).record -/
def F61 : DF := ⟨2,
(.seq
 (.reg [
   ⟨some 2, .bxL (.t 0), none⟩,
   ⟨some 4, .alL [(.int .i64 0), (.str []), (.sl 1 ⟨none, 0, (some 0), true⟩ []), (.sl 4 ⟨none, 0, (some 0), true⟩ [])], none⟩] [1, 2, 4])
 (.seq
  (.reg [
    ⟨some 9, .bld [(.int .i64 0), (.str []), (.sl 1 ⟨none, 0, (some 0), true⟩ []), (.sl 4 ⟨none, 0, (some 0), true⟩ [])] [(0, 1, (.c (.int .i64 7)))], none⟩,
    ⟨some 5, .alL [(.int .i64 0), (.str []), (.sl 1 ⟨none, 0, (some 0), true⟩ []), (.sl 4 ⟨none, 0, (some 0), true⟩ [])], none⟩,
    ⟨none, .st 4 (.t 5) (.t 9), none⟩] [1, 2, 4, 5])
  (.seq
   (.reg [
     ⟨some 10, .mkm, none⟩,
     ⟨some 6, .mv (.t 10), none⟩] [1, 2, 4, 5, 6])
   (.seq
    (.reg [
      ⟨some 11, .fa 0 (.t 2), none⟩,
      ⟨some 12, .ld false 1 (.t 11), none⟩,
      ⟨some 13, .call 80 [(.t 12), (.c (.int .u8 123))], none⟩] [1, 2, 4, 5, 6])
    (.seq
     (.seq
      (.reg [
        ⟨some 14, .ld true 1 (.t 2), none⟩,
        ⟨some 15, .call 39 [(.t 14)], none⟩] [1, 2, 4, 5, 6])
      (.seq
       (.reg [
         ⟨some 16, .fa 0 (.t 2), none⟩,
         ⟨some 17, .ld false 1 (.t 16), none⟩,
         ⟨some 18, .call 57 [(.t 17), (.c (.int .u8 125))], none⟩] [1, 2, 4, 5, 6, 18])
       (.cnd (.t 18)
        (.seq
         (.reg [
           ⟨some 19, .fa 0 (.t 2), none⟩,
           ⟨some 20, .ld false 1 (.t 19), none⟩,
           ⟨some 21, .nilc (.t 20), none⟩,
           ⟨some 22, .fa 1 (.t 21), none⟩,
           ⟨some 23, .ld false 1 (.t 22), none⟩,
           ⟨some 24, .bin .add none (.t 23) (.c (.int .i64 1)), none⟩,
           ⟨some 25, .nilc (.t 20), none⟩,
           ⟨some 26, .fa 1 (.t 25), none⟩,
           ⟨none, .st 1 (.t 26) (.t 24), none⟩] [4, 5])
         (.seq
          (.reg [
            ⟨some 27, .ld true 4 (.t 5), none⟩,
            ⟨none, .st 4 (.t 4) (.t 27), none⟩] [4])
          .ret))
        .skip)))
     (.blk 0
      (.seq
       (.trim [1, 2, 4, 5, 6])
       (.lop
        (.seq
         (.blk 1
          (.seq
           (.reg [
             ⟨some 28, .ld true 1 (.t 2), none⟩,
             ⟨some 29, .call 39 [(.t 28)], none⟩] [1, 2, 4, 5, 6])
           (.seq
            (.reg [
              ⟨some 30, .fa 0 (.t 2), none⟩,
              ⟨some 31, .ld false 1 (.t 30), none⟩,
              ⟨some 32, .nilc (.t 31), none⟩,
              ⟨some 33, .fa 1 (.t 32), none⟩,
              ⟨some 34, .ld false 1 (.t 33), none⟩,
              ⟨some 7, .mv (.t 34), none⟩] [1, 2, 4, 5, 6, 7])
            (.seq
             (.seq
              (.reg [
                ⟨some 35, .fa 0 (.t 2), none⟩,
                ⟨some 36, .ld false 1 (.t 35), none⟩,
                ⟨some 37, .call 57 [(.t 36), (.c (.int .u8 34))], none⟩,
                ⟨some 38, .un .not (.t 37), none⟩] [1, 2, 4, 5, 6, 7, 38])
              (.cnd (.t 38)
               (.reg [
                 ⟨some 39, .fa 0 (.t 2), none⟩,
                 ⟨some 40, .ld false 1 (.t 39), none⟩,
                 ⟨some 41, .call 41 [(.t 40)], none⟩] [1, 2, 4, 5, 6, 7])
               .skip))
             (.seq
              (.reg [
                ⟨some 42, .fa 0 (.t 2), none⟩,
                ⟨some 43, .ld false 1 (.t 42), none⟩,
                ⟨some 44, .call 59 [(.t 43)], none⟩,
                ⟨some 8, .mv (.t 44), none⟩] [1, 2, 4, 5, 6, 7, 8])
              (.seq
               (.seq
                (.reg [
                  ⟨some 45, .mv (.t 6), none⟩,
                  ⟨some 46, .mv (.t 8), none⟩,
                  ⟨some 47, .lkp .str (.int .i64 0) (.t 45) (.t 46) false, none⟩,
                  ⟨some 48, .bin .add none (.t 47) (.c (.int .i64 1)), none⟩,
                  ⟨none, .mup .str (.t 45) (.t 46) (.t 48), none⟩] [1, 2, 4, 5, 6, 7, 8])
                (.seq
                 (.reg [
                   ⟨some 49, .mv (.t 6), none⟩,
                   ⟨some 50, .mv (.t 8), none⟩,
                   ⟨some 51, .lkp .str (.int .i64 0) (.t 49) (.t 50) false, none⟩,
                   ⟨some 52, .bin .gtr none (.t 51) (.c (.int .i64 1)), none⟩] [1, 2, 4, 5, 6, 7, 8, 52])
                 (.cnd (.t 52)
                  (.reg [
                    ⟨some 53, .mv (.t 7), none⟩,
                    ⟨some 54, .call 65 [(.t 53), (.c (.int .i64 15))], none⟩] [1, 2, 4, 5, 6, 8])
                  .skip)))
               (.seq
                (.reg [
                  ⟨some 55, .ld true 1 (.t 2), none⟩,
                  ⟨some 56, .call 39 [(.t 55)], none⟩] [1, 2, 4, 5, 6, 8])
                (.seq
                 (.reg [
                   ⟨some 57, .fa 0 (.t 2), none⟩,
                   ⟨some 58, .ld false 1 (.t 57), none⟩,
                   ⟨some 59, .call 80 [(.t 58), (.c (.int .u8 58))], none⟩] [1, 2, 4, 5, 6, 8])
                 (.seq
                  (.reg [
                    ⟨some 60, .ld true 1 (.t 2), none⟩,
                    ⟨some 61, .call 39 [(.t 60)], none⟩] [1, 2, 4, 5, 6, 8])
                  (.seq
                   (.reg [
                     ⟨some 62, .fa 2 (.t 5), none⟩,
                     ⟨some 63, .ld false 1 (.t 62), none⟩,
                     ⟨some 64, .mv (.t 8), none⟩,
                     ⟨some 65, .bldT 9 1 1 (.str []) [(0, (.t 64))], none⟩,
                     ⟨some 66, .app false 9 1 16 (.t 63) (.t 65), none⟩,
                     ⟨some 67, .fa 2 (.t 5), none⟩,
                     ⟨none, .st 1 (.t 67) (.t 66), none⟩] [1, 2, 4, 5, 6])
                   (.seq
                    (.drw [
                      ((⟨some 68, .fa 3 (.t 5), none⟩, (some 5)), []),
                      ((⟨some 69, .ld false 1 (.t 68), none⟩, (some 5)), []),
                      ((⟨some 70, .ld true 1 (.t 2), none⟩, (some 2)), []),
                      ((⟨some 71, .mv (.t 1), none⟩, none), []),
                      ((⟨some 72, .bin .add none (.t 71) (.c (.int .i64 1)), none⟩, none), []),
                      ((⟨some 73, .call 40 [(.t 70), (.t 72)], none⟩, none), []),
                      ((⟨some 74, .bldS 4 1 (.agg [(.int .i64 0), (.str []), (.sl 1 ⟨none, 0, (some 0), true⟩ []), (.sl 4 ⟨none, 0, (some 0), true⟩ [])]) [(0, (.t 73))], none⟩, none), []),
                      ((⟨some 75, .app true 47 4 72 (.t 69) (.t 74), none⟩, none), []),
                      ((⟨some 76, .fa 3 (.t 5), none⟩, (some 5)), []),
                      ((⟨none, .st 1 (.t 76) (.t 75), none⟩, (some 5)), [])] [1, 2, 4, 5, 6])
                    (.seq
                     (.reg [
                       ⟨some 77, .ld true 1 (.t 2), none⟩,
                       ⟨some 78, .call 39 [(.t 77)], none⟩] [1, 2, 4, 5, 6])
                     (.seq
                      (.seq
                       (.reg [
                         ⟨some 79, .fa 0 (.t 2), none⟩,
                         ⟨some 80, .ld false 1 (.t 79), none⟩,
                         ⟨some 81, .call 57 [(.t 80), (.c (.int .u8 44))], none⟩,
                         ⟨some 82, .un .not (.t 81), none⟩] [1, 2, 4, 5, 6, 82])
                       (.cnd (.t 82)
                        (.seq
                         (.reg [
                           ⟨some 83, .fa 0 (.t 2), none⟩,
                           ⟨some 84, .ld false 1 (.t 83), none⟩,
                           ⟨some 85, .call 80 [(.t 84), (.c (.int .u8 125))], none⟩] [4, 5])
                         (.seq
                          (.reg [
                            ⟨some 86, .ld true 4 (.t 5), none⟩,
                            ⟨none, .st 4 (.t 4) (.t 86), none⟩] [4])
                          .ret))
                        .skip))
                      (.reg [
                        ⟨some 87, .fa 0 (.t 2), none⟩,
                        ⟨some 88, .ld false 1 (.t 87), none⟩,
                        ⟨some 89, .nilc (.t 88), none⟩,
                        ⟨some 90, .fa 1 (.t 89), none⟩,
                        ⟨some 91, .ld false 1 (.t 90), none⟩,
                        ⟨some 92, .bin .add none (.t 91) (.c (.int .i64 1)), none⟩,
                        ⟨some 93, .nilc (.t 88), none⟩,
                        ⟨some 94, .fa 1 (.t 93), none⟩,
                        ⟨none, .st 1 (.t 94) (.t 92), none⟩] [1, 2, 4, 5, 6]))))))))))))))
         (.trim [1, 2, 4, 5, 6])))))))))),
[.cell 4 true 4]⟩
theorem F61_ok : prepF Go.Proofs.Tryz.prog ⟨[2, 4, 5], [(0, [1, 2, 4]), (1, [1, 2, 4, 5]), (2, [1, 2, 4, 5, 6]), (3, [1, 2, 4, 5, 6]), (4, [1, 2, 4, 5, 6]), (5, [1, 2, 4, 5, 6, 18]), (6, [4, 5]), (7, [4]), (8, [1, 2, 4, 5, 6]), (9, [1, 2, 4, 5, 6, 7]), (10, [1, 2, 4, 5, 6, 7, 38]), (11, [1, 2, 4, 5, 6, 7]), (12, [1, 2, 4, 5, 6, 7, 8]), (13, [1, 2, 4, 5, 6, 7, 8]), (14, [1, 2, 4, 5, 6, 7, 8, 52]), (15, [1, 2, 4, 5, 6, 8]), (16, [1, 2, 4, 5, 6, 8]), (17, [1, 2, 4, 5, 6, 8]), (18, [1, 2, 4, 5, 6, 8]), (19, [1, 2, 4, 5, 6]), (20, [1, 2, 4, 5, 6]), (21, [1, 2, 4, 5, 6]), (22, [1, 2, 4, 5, 6, 82]), (23, [4, 5]), (24, [4]), (25, [1, 2, 4, 5, 6]), (1000000, [1, 2, 4, 5, 6])], [(20, [(some 5), (some 5), (some 2), none, none, none, none, none, (some 5), (some 5)])]⟩ Go.Proofs.Tryz.f61 = some F61 := by kernel_rfl
theorem F61_fn : FnOK2 Go.Proofs.Tryz.prog 61 (.pl F61) := .pl Go.Proofs.Tryz.func61 (by kernel_rfl) F61_ok
/-- (emend/tree.parser).tree$1 -/
def F62 : DF := ⟨1,
(.seq
 (.reg [
   ⟨some 2, .mv (.c (.bool false)), none⟩] [0])
 (.seq
  (.reg [
    ⟨some 3, .mv (.t 0), none⟩,
    ⟨some 4, .call 63 [(.t 3)], none⟩,
    ⟨some 5, .mv (.t 4), none⟩,
    ⟨some 6, .mv (.t 0), some (5, false)⟩,
    ⟨some 7, .bin .eql (some .int) (.t 6) (.c (.int .u8 58)), some (5, false)⟩,
    ⟨some 8, .pick (.t 5) (.c (.bool true)) (.t 7), none⟩,
    ⟨some 2, .mv (.t 8), none⟩] [2])
  .ret)),
[.tmp 2]⟩
theorem F62_ok : prepF Go.Proofs.Tryz.prog ⟨[], [(0, [0]), (1, [2])], []⟩ Go.Proofs.Tryz.f62 = some F62 := by kernel_rfl
theorem F62_fn : FnOK2 Go.Proofs.Tryz.prog 62 (.pl F62) := .pl Go.Proofs.Tryz.func62 (by kernel_rfl) F62_ok
/-- emend/tree.InNumber -/
def F63 : DF := ⟨1,
(.seq
 (.reg [
   ⟨some 2, .mv (.c (.bool false)), none⟩] [0])
 (.seq
  (.reg [
    ⟨some 3, .mv (.t 0), none⟩,
    ⟨some 4, .call 81 [(.t 3)], none⟩,
    ⟨some 5, .mv (.t 4), none⟩,
    ⟨some 6, .mv (.t 0), some (5, false)⟩,
    ⟨some 7, .call 82 [(.t 6)], some (5, false)⟩,
    ⟨some 8, .pick (.t 5) (.c (.bool true)) (.t 7), none⟩,
    ⟨some 9, .mv (.t 8), none⟩,
    ⟨some 10, .mv (.t 0), some (9, false)⟩,
    ⟨some 11, .bin .eql (some .int) (.t 10) (.c (.int .u8 43)), some (9, false)⟩,
    ⟨some 12, .pick (.t 9) (.c (.bool true)) (.t 11), none⟩,
    ⟨some 13, .mv (.t 12), none⟩,
    ⟨some 14, .mv (.t 0), some (13, false)⟩,
    ⟨some 15, .bin .eql (some .int) (.t 14) (.c (.int .u8 45)), some (13, false)⟩,
    ⟨some 16, .pick (.t 13) (.c (.bool true)) (.t 15), none⟩,
    ⟨some 17, .mv (.t 16), none⟩,
    ⟨some 18, .mv (.t 0), some (17, false)⟩,
    ⟨some 19, .bin .eql (some .int) (.t 18) (.c (.int .u8 46)), some (17, false)⟩,
    ⟨some 20, .pick (.t 17) (.c (.bool true)) (.t 19), none⟩,
    ⟨some 2, .mv (.t 20), none⟩] [2])
  .ret)),
[.tmp 2]⟩
theorem F63_ok : prepF Go.Proofs.Tryz.prog ⟨[], [(0, [0]), (1, [2])], []⟩ Go.Proofs.Tryz.f63 = some F63 := by kernel_rfl
theorem F63_fn : FnOK2 Go.Proofs.Tryz.prog 63 (.pl F63) := .pl Go.Proofs.Tryz.func63 (by kernel_rfl) F63_ok
/-- emend/tree.Time -/
def F64 : DF := ⟨1,
(.seq
 (.reg [
   ⟨some 2, .mv (.c (.bool false)), none⟩] [0])
 (.seq
  (.seq
   (.reg [
     ⟨some 6, .mv (.t 0), none⟩,
     ⟨some 7, .call 83 [(.t 6)], none⟩,
     ⟨some 8, .mv (.t 7), none⟩,
     ⟨some 9, .mv (.t 0), some (8, false)⟩,
     ⟨some 10, .call 84 [(.t 9)], some (8, false)⟩,
     ⟨some 11, .pick (.t 8) (.c (.bool true)) (.t 10), none⟩] [0, 11])
   (.cnd (.t 11)
    (.seq
     (.reg [
       ⟨some 2, .mv (.c (.bool true)), none⟩] [2])
     .ret)
    .skip))
  (.seq
   (.reg [
     ⟨some 13, .mv (.t 0), none⟩,
     ⟨some 14, .call 85 [(.t 13)], none⟩,
     ⟨some 12, .mv (.t 14), none⟩,
     ⟨some 15, .ext (.t 12) 0, none⟩,
     ⟨some 16, .ext (.t 12) 1, none⟩,
     ⟨some 0, .mv (.t 15), none⟩] [0])
   (.seq
    (.reg [
      ⟨some 18, .mv (.t 0), none⟩,
      ⟨some 19, .call 86 [(.t 18), (.c (.str [84]))], none⟩,
      ⟨some 17, .mv (.t 19), none⟩,
      ⟨some 20, .ext (.t 17) 0, none⟩,
      ⟨some 21, .ext (.t 17) 1, none⟩,
      ⟨some 22, .ext (.t 17) 2, none⟩,
      ⟨some 3, .mv (.t 20), none⟩,
      ⟨some 4, .mv (.t 21), none⟩,
      ⟨some 5, .mv (.t 22), none⟩] [3, 4, 5])
    (.seq
     (.reg [
       ⟨some 23, .mv (.t 5), none⟩,
       ⟨some 24, .mv (.t 23), none⟩,
       ⟨some 25, .mv (.t 3), some (24, true)⟩,
       ⟨some 26, .call 83 [(.t 25)], some (24, true)⟩,
       ⟨some 27, .pick (.t 24) (.t 26) (.c (.bool false)), none⟩,
       ⟨some 28, .mv (.t 27), none⟩,
       ⟨some 29, .mv (.t 4), some (28, true)⟩,
       ⟨some 30, .call 84 [(.t 29)], some (28, true)⟩,
       ⟨some 31, .pick (.t 28) (.t 30) (.c (.bool false)), none⟩,
       ⟨some 2, .mv (.t 31), none⟩] [2])
     .ret))))),
[.tmp 2]⟩
theorem F64_ok : prepF Go.Proofs.Tryz.prog ⟨[], [(0, [0]), (1, [0, 11]), (2, [2]), (3, [0]), (4, [3, 4, 5]), (5, [2])], []⟩ Go.Proofs.Tryz.f64 = some F64 := by kernel_rfl
theorem F64_fn : FnOK2 Go.Proofs.Tryz.prog 64 (.pl F64) := .pl Go.Proofs.Tryz.func64 (by kernel_rfl) F64_ok
/-- emend/tree.Fail -/
def F65 : DF := ⟨2,
(.reg [
  ⟨some 4, .mv (.t 0), none⟩,
  ⟨some 5, .mv (.t 1), none⟩,
  ⟨some 6, .call 52 [(.t 4), (.t 5)], none⟩,
  ⟨some 7, .mki 87 (.t 6), none⟩,
  ⟨none, .pnc (.t 7), none⟩] []),
[]⟩
theorem F65_ok : prepF Go.Proofs.Tryz.prog ⟨[], [(0, [])], []⟩ Go.Proofs.Tryz.f65 = some F65 := by kernel_rfl
theorem F65_fn : FnOK2 Go.Proofs.Tryz.prog 65 (.pl F65) := .pl Go.Proofs.Tryz.func65 (by kernel_rfl) F65_ok
/-- (*emend/tree.Place).Scalar -/
def F66 : DF := ⟨1,
(.seq
 (.reg [
   ⟨some 2, .alL [(.int .i64 0), (.str []), (.sl 1 ⟨none, 0, (some 0), true⟩ []), (.sl 4 ⟨none, 0, (some 0), true⟩ [])], none⟩] [0, 2])
 (.seq
  (.reg [
    ⟨some 7, .mv (.t 0), none⟩,
    ⟨some 8, .nilc (.t 7), none⟩,
    ⟨some 9, .fa 1 (.t 8), none⟩,
    ⟨some 10, .ld false 1 (.t 9), none⟩,
    ⟨some 3, .mv (.t 10), none⟩] [0, 2, 3])
  (.seq
   (.blk 0
    (.seq
     (.drw [
       ((⟨some 12, .mv (.t 0), none⟩, none), []),
       ((⟨some 13, .nilc (.t 12), none⟩, none), []),
       ((⟨some 14, .fa 1 (.t 13), none⟩, none), []),
       ((⟨some 15, .ld false 1 (.t 14), none⟩, none), []),
       ((⟨some 16, .mv (.t 0), none⟩, none), []),
       ((⟨some 17, .nilc (.t 16), none⟩, none), []),
       ((⟨some 18, .fa 0 (.t 17), none⟩, none), []),
       ((⟨some 19, .ld false 1 (.t 18), none⟩, none), []),
       ((⟨some 20, .lenS (.t 19), none⟩, none), []),
       ((⟨some 21, .bin .lss none (.t 15) (.t 20), none⟩, none), []),
       ((⟨some 22, .mv (.t 21), none⟩, none), []),
       ((⟨some 23, .mv (.t 0), some (22, true)⟩, none), []),
       ((⟨some 24, .nilc (.t 23), some (22, true)⟩, none), []),
       ((⟨some 25, .fa 0 (.t 24), some (22, true)⟩, none), []),
       ((⟨some 26, .ld false 1 (.t 25), some (22, true)⟩, none), []),
       ((⟨some 27, .mv (.t 0), some (22, true)⟩, none), []),
       ((⟨some 28, .nilc (.t 27), some (22, true)⟩, none), []),
       ((⟨some 29, .fa 1 (.t 28), some (22, true)⟩, none), []),
       ((⟨some 30, .ld false 1 (.t 29), some (22, true)⟩, none), []),
       ((⟨some 31, .ixS (.t 26) (.t 30), some (22, true)⟩, none), []),
       ((⟨some 32, .call 81 [(.t 31)], some (22, true)⟩, none), []),
       ((⟨some 33, .mv (.t 32), some (22, true)⟩, none), []),
       ((⟨some 34, .mv (.t 0), some (33, false)⟩, none), []),
       ((⟨some 35, .nilc (.t 34), some (33, false)⟩, none), []),
       ((⟨some 36, .fa 0 (.t 35), some (33, false)⟩, none), []),
       ((⟨some 37, .ld false 1 (.t 36), some (33, false)⟩, none), []),
       ((⟨some 38, .mv (.t 0), some (33, false)⟩, none), []),
       ((⟨some 39, .nilc (.t 38), some (33, false)⟩, none), []),
       ((⟨some 40, .fa 1 (.t 39), some (33, false)⟩, none), []),
       ((⟨some 41, .ld false 1 (.t 40), some (33, false)⟩, none), []),
       ((⟨some 42, .ixS (.t 37) (.t 41), some (33, false)⟩, none), []),
       ((⟨some 43, .bin .eql (some .int) (.t 42) (.c (.int .u8 45)), some (33, false)⟩, none), []),
       ((⟨some 44, .pick (.t 33) (.c (.bool true)) (.t 43), some (22, true)⟩, none), []),
       ((⟨some 45, .pick (.t 22) (.t 44) (.c (.bool false)), none⟩, none), []),
       ((⟨some 11, .mv (.t 45), none⟩, none), [])] [0, 2, 3, 11])
     (.cnd (.t 11)
      (.seq
       (.reg [
         ⟨some 47, .mv (.t 0), none⟩,
         ⟨some 48, .call 55 [(.t 47), (.f 63)], none⟩,
         ⟨some 49, .call 67 [(.t 48)], none⟩,
         ⟨some 46, .mv (.t 49), none⟩,
         ⟨some 50, .ext (.t 46) 0, none⟩,
         ⟨some 51, .ext (.t 46) 1, none⟩,
         ⟨some 4, .mv (.t 50), none⟩,
         ⟨some 5, .mv (.t 51), none⟩] [2, 3, 4, 5])
       (.seq
        (.seq
         (.reg [
           ⟨some 52, .mv (.t 5), none⟩,
           ⟨some 53, .bin .neq (some .int) (.t 52) (.c (.int .i64 0)), none⟩] [2, 3, 4, 5, 53])
         (.cnd (.t 53)
          (.reg [
            ⟨some 54, .mv (.t 3), none⟩,
            ⟨some 55, .mv (.t 5), none⟩,
            ⟨some 56, .call 65 [(.t 54), (.t 55)], none⟩] [2, 4])
          .skip))
        (.seq
         (.reg [
           ⟨some 57, .mv (.t 4), none⟩,
           ⟨some 58, .bld [(.int .i64 0), (.str []), (.sl 1 ⟨none, 0, (some 0), true⟩ []), (.sl 4 ⟨none, 0, (some 0), true⟩ [])] [(0, 1, (.c (.int .i64 3))), (1, 1, (.t 57))], none⟩,
           ⟨none, .st 4 (.t 2) (.t 58), none⟩] [2])
         .ret)))
      (.seq
       (.drw [
         ((⟨some 60, .mv (.t 0), none⟩, none), []),
         ((⟨some 61, .nilc (.t 60), none⟩, none), []),
         ((⟨some 62, .fa 1 (.t 61), none⟩, none), []),
         ((⟨some 63, .ld false 1 (.t 62), none⟩, none), []),
         ((⟨some 64, .mv (.t 0), none⟩, none), []),
         ((⟨some 65, .nilc (.t 64), none⟩, none), []),
         ((⟨some 66, .fa 0 (.t 65), none⟩, none), []),
         ((⟨some 67, .ld false 1 (.t 66), none⟩, none), []),
         ((⟨some 68, .lenS (.t 67), none⟩, none), []),
         ((⟨some 69, .bin .lss none (.t 63) (.t 68), none⟩, none), []),
         ((⟨some 70, .mv (.t 69), none⟩, none), []),
         ((⟨some 71, .mv (.t 0), some (70, true)⟩, none), []),
         ((⟨some 72, .nilc (.t 71), some (70, true)⟩, none), []),
         ((⟨some 73, .fa 0 (.t 72), some (70, true)⟩, none), []),
         ((⟨some 74, .ld false 1 (.t 73), some (70, true)⟩, none), []),
         ((⟨some 75, .mv (.t 0), some (70, true)⟩, none), []),
         ((⟨some 76, .nilc (.t 75), some (70, true)⟩, none), []),
         ((⟨some 77, .fa 1 (.t 76), some (70, true)⟩, none), []),
         ((⟨some 78, .ld false 1 (.t 77), some (70, true)⟩, none), []),
         ((⟨some 79, .ixS (.t 74) (.t 78), some (70, true)⟩, none), []),
         ((⟨some 80, .call 82 [(.t 79)], some (70, true)⟩, none), []),
         ((⟨some 81, .pick (.t 70) (.t 80) (.c (.bool false)), none⟩, none), []),
         ((⟨some 59, .mv (.t 81), none⟩, none), [])] [0, 2, 3, 59])
       (.cnd (.t 59)
        (.seq
         (.seq
          (.reg [
            ⟨some 82, .mv (.t 0), none⟩,
            ⟨some 83, .call 55 [(.t 82), (.f 82)], none⟩,
            ⟨some 6, .mv (.t 83), none⟩] [0, 2, 3, 6])
          (.seq
           (.reg [
             ⟨some 84, .mv (.t 6), none⟩] [0, 2, 3, 6, 84])
           (.blk 1
            (.seq
             (.reg [
               ⟨some 86, .bin .eql (some .str) (.t 84) (.c (.str [110, 117, 108, 108])), none⟩,
               ⟨some 85, .mv (.t 86), none⟩] [0, 2, 3, 6, 84, 85])
             (.cnd (.t 85)
              (.seq
               (.reg [
                 ⟨some 87, .bld [(.int .i64 0), (.str []), (.sl 1 ⟨none, 0, (some 0), true⟩ []), (.sl 4 ⟨none, 0, (some 0), true⟩ [])] [(0, 1, (.c (.int .i64 1)))], none⟩,
                 ⟨none, .st 4 (.t 2) (.t 87), none⟩] [2])
               .ret)
              (.seq
               (.seq
                (.reg [
                  ⟨some 89, .bin .eql (some .str) (.t 84) (.c (.str [116, 114, 117, 101])), none⟩,
                  ⟨some 88, .mv (.t 89), none⟩] [0, 2, 3, 6, 84, 88])
                (.cnd (.t 88)
                 .skip
                 (.reg [
                   ⟨some 90, .bin .eql (some .str) (.t 84) (.c (.str [102, 97, 108, 115, 101])), none⟩,
                   ⟨some 88, .mv (.t 90), none⟩] [0, 2, 3, 6, 88])))
               (.cnd (.t 88)
                (.seq
                 (.reg [
                   ⟨some 91, .mv (.t 6), none⟩,
                   ⟨some 92, .bld [(.int .i64 0), (.str []), (.sl 1 ⟨none, 0, (some 0), true⟩ []), (.sl 4 ⟨none, 0, (some 0), true⟩ [])] [(0, 1, (.c (.int .i64 2))), (1, 1, (.t 91))], none⟩,
                   ⟨none, .st 4 (.t 2) (.t 92), none⟩] [2])
                 .ret)
                .skip)))))))
         (.reg [
           ⟨some 93, .mv (.t 3), none⟩,
           ⟨some 94, .call 65 [(.t 93), (.c (.int .i64 13))], none⟩] [0, 2]))
        .skip)))))
   (.seq
    (.reg [
      ⟨some 95, .mv (.t 0), none⟩,
      ⟨some 96, .call 41 [(.t 95)], none⟩] [2])
    (.seq
     (.reg [
       ⟨some 97, .bld [(.int .i64 0), (.str []), (.sl 1 ⟨none, 0, (some 0), true⟩ []), (.sl 4 ⟨none, 0, (some 0), true⟩ [])] [], none⟩,
       ⟨none, .st 4 (.t 2) (.t 97), none⟩] [2])
     .ret))))),
[.cell 2 true 4]⟩
theorem F66_ok : prepF Go.Proofs.Tryz.prog ⟨[2], [(0, [0, 2]), (1, [0, 2, 3]), (2, [0, 2, 3, 11]), (3, [2, 3, 4, 5]), (4, [2, 3, 4, 5, 53]), (5, [2, 4]), (6, [2]), (7, [0, 2, 3, 59]), (8, [0, 2, 3, 6]), (9, [0, 2, 3, 6, 84]), (10, [0, 2, 3, 6, 84, 85]), (11, [2]), (12, [0, 2, 3, 6, 84, 88]), (13, [0, 2, 3, 6, 88]), (14, [2]), (15, [0, 2]), (16, [2]), (17, [2])], []⟩ Go.Proofs.Tryz.f66 = some F66 := by kernel_rfl
theorem F66_fn : FnOK2 Go.Proofs.Tryz.prog 66 (.pl F66) := .pl Go.Proofs.Tryz.func66 (by kernel_rfl) F66_ok
/-- emend/num.Normal -/
def F67 : DF := ⟨1,
(.seq
 (.reg [
   ⟨some 2, .mv (.c (.str [])), none⟩,
   ⟨some 3, .mv (.c (.int .i64 0)), none⟩] [0])
 (.seq
  (.reg [
    ⟨some 7, .mv (.t 0), none⟩,
    ⟨some 8, .call 87 [(.t 7)], none⟩,
    ⟨some 6, .mv (.t 8), none⟩,
    ⟨some 9, .ext (.t 6) 0, none⟩,
    ⟨some 10, .ext (.t 6) 1, none⟩,
    ⟨some 4, .alL [(.bool false), (.str []), (.int .i64 0)], none⟩,
    ⟨none, .st 3 (.t 4) (.t 9), none⟩,
    ⟨some 5, .mv (.t 10), none⟩] [4, 5])
  (.seq
   (.seq
    (.reg [
      ⟨some 11, .mv (.t 5), none⟩,
      ⟨some 12, .bin .neq (some .int) (.t 11) (.c (.int .i64 0)), none⟩] [4, 5, 12])
    (.cnd (.t 12)
     (.seq
      (.reg [
        ⟨some 13, .mv (.t 5), none⟩,
        ⟨some 2, .mv (.c (.str [])), none⟩,
        ⟨some 3, .mv (.t 13), none⟩] [2, 3])
      .ret)
     .skip))
   (.seq
    (.reg [
      ⟨some 14, .ld true 3 (.t 4), none⟩,
      ⟨some 15, .call 88 [(.t 14)], none⟩,
      ⟨some 16, .ext (.t 15) 0, none⟩,
      ⟨some 17, .ext (.t 15) 1, none⟩,
      ⟨some 2, .mv (.t 16), none⟩,
      ⟨some 3, .mv (.t 17), none⟩] [2, 3])
    .ret)))),
[.tmp 2, .tmp 3]⟩
theorem F67_ok : prepF Go.Proofs.Tryz.prog ⟨[4], [(0, [0]), (1, [4, 5]), (2, [4, 5, 12]), (3, [2, 3]), (4, [2, 3])], []⟩ Go.Proofs.Tryz.f67 = some F67 := by kernel_rfl
theorem F67_fn : FnOK2 Go.Proofs.Tryz.prog 67 (.pl F67) := .pl Go.Proofs.Tryz.func67 (by kernel_rfl) F67_ok
/-- emend/text.Valid -/
def F68 : DF := ⟨1,
(.seq
 (.reg [
   ⟨some 2, .mv (.c (.bool false)), none⟩] [0])
 (.seq
  (.reg [
    ⟨some 3, .mv (.t 0), none⟩,
    ⟨some 4, .call 53 [(.t 3)], none⟩,
    ⟨some 5, .bin .lss none (.t 4) (.c (.int .i64 0)), none⟩,
    ⟨some 2, .mv (.t 5), none⟩] [2])
  .ret)),
[.tmp 2]⟩
theorem F68_ok : prepF Go.Proofs.Tryz.prog ⟨[], [(0, [0]), (1, [2])], []⟩ Go.Proofs.Tryz.f68 = some F68 := by kernel_rfl
theorem F68_fn : FnOK2 Go.Proofs.Tryz.prog 68 (.pl F68) := .pl Go.Proofs.Tryz.func68 (by kernel_rfl) F68_ok
/-- emend/tree.unlike -/
def F69 : DF := ⟨1,
(.seq
 (.reg [
   ⟨some 2, .mv (.c (.bool false)), none⟩] [0])
 (.seq
  (.reg [
    ⟨some 6, .mkm, none⟩,
    ⟨some 3, .mv (.t 6), none⟩] [0, 3])
  (.seq
   (.seq
    (.reg [
      ⟨some 7, .mv (.t 0), none⟩,
      ⟨some 8, .len (.t 7), none⟩,
      ⟨some 9, .mv (.c (.int .i64 0)), none⟩] [3, 7, 8, 9])
    (.blk 0
     (.seq
      (.trim [3, 7, 8, 9])
      (.lop
       (.seq
        (.seq
         (.reg [
           ⟨some 10, .bin .lss none (.t 9) (.t 8), none⟩] [3, 7, 8, 9, 10])
         (.seq
          (.cnd (.t 10)
           .skip
           (.exit 0))
          (.seq
           (.blk 1
            (.seq
             (.reg [
               ⟨some 11, .ia 1 (.t 7) (.t 9), none⟩,
               ⟨some 12, .ld false 1 (.t 11), none⟩,
               ⟨some 5, .mv (.t 12), none⟩] [3, 5, 7, 8, 9])
             (.seq
              (.reg [
                ⟨some 13, .mv (.t 3), none⟩,
                ⟨some 14, .mv (.t 5), none⟩,
                ⟨some 15, .lkp .str (.int .i64 0) (.t 13) (.t 14) false, none⟩,
                ⟨some 16, .bin .add none (.t 15) (.c (.int .i64 1)), none⟩,
                ⟨none, .mup .str (.t 13) (.t 14) (.t 16), none⟩] [3, 5, 7, 8, 9])
              (.seq
               (.reg [
                 ⟨some 17, .mv (.t 3), none⟩,
                 ⟨some 18, .mv (.t 5), none⟩,
                 ⟨some 19, .lkp .str (.int .i64 0) (.t 17) (.t 18) false, none⟩,
                 ⟨some 20, .bin .gtr none (.t 19) (.c (.int .i64 1)), none⟩,
                 ⟨some 21, .mv (.t 20), none⟩,
                 ⟨some 22, .mv (.t 5), some (21, false)⟩,
                 ⟨some 23, .call 68 [(.t 22)], some (21, false)⟩,
                 ⟨some 24, .un .not (.t 23), some (21, false)⟩,
                 ⟨some 25, .pick (.t 21) (.c (.bool true)) (.t 24), none⟩] [3, 7, 8, 9, 25])
               (.cnd (.t 25)
                (.seq
                 (.reg [
                   ⟨some 2, .mv (.c (.bool false)), none⟩] [2])
                 .ret)
                .skip)))))
           (.reg [
             ⟨some 26, .bin .add none (.t 9) (.c (.int .i64 1)), none⟩,
             ⟨some 9, .mv (.t 26), none⟩] [3, 7, 8, 9]))))
        (.trim [3, 7, 8, 9]))))))
   (.seq
    (.reg [
      ⟨some 2, .mv (.c (.bool true)), none⟩] [2])
    .ret)))),
[.tmp 2]⟩
theorem F69_ok : prepF Go.Proofs.Tryz.prog ⟨[], [(0, [0]), (1, [0, 3]), (2, [3, 7, 8, 9]), (3, [3, 7, 8, 9, 10]), (4, [3, 5, 7, 8, 9]), (5, [3, 5, 7, 8, 9]), (6, [3, 7, 8, 9, 25]), (7, [2]), (8, [3, 7, 8, 9]), (9, [2]), (1000000, [3, 7, 8, 9])], []⟩ Go.Proofs.Tryz.f69 = some F69 := by kernel_rfl
theorem F69_fn : FnOK2 Go.Proofs.Tryz.prog 69 (.pl F69) := .pl Go.Proofs.Tryz.func69 (by kernel_rfl) F69_ok
/-- slices.Equal[[]string,string] -/
def F70 : DF := ⟨2,
(.seq
 (.reg [
   ⟨some 4, .mv (.c (.bool false)), none⟩] [0, 1])
 (.seq
  (.seq
   (.reg [
     ⟨some 6, .mv (.t 0), none⟩,
     ⟨some 7, .len (.t 6), none⟩,
     ⟨some 8, .mv (.t 1), none⟩,
     ⟨some 9, .len (.t 8), none⟩,
     ⟨some 10, .bin .neq (some .int) (.t 7) (.t 9), none⟩] [0, 1, 10])
   (.cnd (.t 10)
    (.seq
     (.reg [
       ⟨some 4, .mv (.c (.bool false)), none⟩] [4])
     .ret)
    .skip))
  (.seq
   (.seq
    (.reg [
      ⟨some 11, .mv (.t 0), none⟩,
      ⟨some 12, .len (.t 11), none⟩,
      ⟨some 13, .mv (.c (.int .i64 0)), none⟩] [0, 1, 12, 13])
    (.blk 0
     (.seq
      (.trim [0, 1, 12, 13])
      (.lop
       (.seq
        (.seq
         (.reg [
           ⟨some 14, .bin .lss none (.t 13) (.t 12), none⟩] [0, 1, 12, 13, 14])
         (.seq
          (.cnd (.t 14)
           .skip
           (.exit 0))
          (.seq
           (.blk 1
            (.seq
             (.reg [
               ⟨some 15, .mv (.t 13), none⟩,
               ⟨some 5, .mv (.t 15), none⟩] [0, 1, 5, 12, 13])
             (.seq
              (.drw [
                ((⟨some 16, .mv (.t 0), none⟩, none), []),
                ((⟨some 17, .mv (.t 5), none⟩, none), []),
                ((⟨some 18, .ia 1 (.t 16) (.t 17), none⟩, none), []),
                ((⟨some 19, .ld false 1 (.t 18), none⟩, none), []),
                ((⟨some 20, .mv (.t 1), none⟩, none), []),
                ((⟨some 21, .mv (.t 5), none⟩, none), []),
                ((⟨some 22, .ia 1 (.t 20) (.t 21), none⟩, none), []),
                ((⟨some 23, .ld false 1 (.t 22), none⟩, none), []),
                ((⟨some 24, .bin .neq (some .str) (.t 19) (.t 23), none⟩, none), [])] [0, 1, 12, 13, 24])
              (.cnd (.t 24)
               (.seq
                (.reg [
                  ⟨some 4, .mv (.c (.bool false)), none⟩] [4])
                .ret)
               .skip))))
           (.reg [
             ⟨some 25, .bin .add none (.t 13) (.c (.int .i64 1)), none⟩,
             ⟨some 13, .mv (.t 25), none⟩] [0, 1, 12, 13]))))
        (.trim [0, 1, 12, 13]))))))
   (.seq
    (.reg [
      ⟨some 4, .mv (.c (.bool true)), none⟩] [4])
    .ret)))),
[.tmp 4]⟩
theorem F70_ok : prepF Go.Proofs.Tryz.prog ⟨[], [(0, [0, 1]), (1, [0, 1, 10]), (2, [4]), (3, [0, 1, 12, 13]), (4, [0, 1, 12, 13, 14]), (5, [0, 1, 5, 12, 13]), (6, [0, 1, 12, 13, 24]), (7, [4]), (8, [0, 1, 12, 13]), (9, [4]), (1000000, [0, 1, 12, 13])], []⟩ Go.Proofs.Tryz.f70 = some F70 := by kernel_rfl
theorem F70_fn : FnOK2 Go.Proofs.Tryz.prog 70 (.pl F70) := .pl Go.Proofs.Tryz.func70 (by kernel_rfl) F70_ok
/-- slices.EqualFunc[[]emend/api.Tree,[]emend/api.Tree,emend/api.Tree,emend/api.Tree] -/
def F71 : DF := ⟨3,
(.seq
 (.reg [
   ⟨some 6, .mv (.c (.bool false)), none⟩] [0, 1, 2])
 (.seq
  (.seq
   (.reg [
     ⟨some 10, .mv (.t 0), none⟩,
     ⟨some 11, .len (.t 10), none⟩,
     ⟨some 12, .mv (.t 1), none⟩,
     ⟨some 13, .len (.t 12), none⟩,
     ⟨some 14, .bin .neq (some .int) (.t 11) (.t 13), none⟩] [0, 1, 2, 14])
   (.cnd (.t 14)
    (.seq
     (.reg [
       ⟨some 6, .mv (.c (.bool false)), none⟩] [6])
     .ret)
    .skip))
  (.seq
   (.seq
    (.reg [
      ⟨some 15, .mv (.t 0), none⟩,
      ⟨some 16, .len (.t 15), none⟩,
      ⟨some 17, .mv (.c (.int .i64 0)), none⟩] [1, 2, 15, 16, 17])
    (.blk 0
     (.seq
      (.trim [1, 2, 15, 16, 17])
      (.lop
       (.seq
        (.seq
         (.reg [
           ⟨some 18, .bin .lss none (.t 17) (.t 16), none⟩] [1, 2, 15, 16, 17, 18])
         (.seq
          (.cnd (.t 18)
           .skip
           (.exit 0))
          (.seq
           (.blk 1
            (.seq
             (.reg [
               ⟨some 19, .mv (.t 17), none⟩,
               ⟨some 20, .ia 4 (.t 15) (.t 17), none⟩,
               ⟨some 21, .ld true 4 (.t 20), none⟩,
               ⟨some 8, .alL [(.int .i64 0), (.str []), (.sl 1 ⟨none, 0, (some 0), true⟩ []), (.sl 4 ⟨none, 0, (some 0), true⟩ [])], none⟩,
               ⟨some 7, .mv (.t 19), none⟩,
               ⟨none, .st 4 (.t 8) (.t 21), none⟩] [1, 2, 7, 8, 15, 16, 17])
             (.seq
              (.reg [
                ⟨some 22, .mv (.t 1), none⟩,
                ⟨some 23, .mv (.t 7), none⟩,
                ⟨some 24, .ia 4 (.t 22) (.t 23), none⟩,
                ⟨some 25, .ld true 4 (.t 24), none⟩,
                ⟨some 9, .alL [(.int .i64 0), (.str []), (.sl 1 ⟨none, 0, (some 0), true⟩ []), (.sl 4 ⟨none, 0, (some 0), true⟩ [])], none⟩,
                ⟨none, .st 4 (.t 9) (.t 25), none⟩] [1, 2, 8, 9, 15, 16, 17])
              (.seq
               (.reg [
                 ⟨some 26, .mv (.t 2), none⟩,
                 ⟨some 27, .ld true 4 (.t 8), none⟩,
                 ⟨some 28, .ld true 4 (.t 9), none⟩,
                 ⟨some 29, .callv (.t 26) [(.t 27), (.t 28)], none⟩,
                 ⟨some 30, .un .not (.t 29), none⟩] [1, 2, 15, 16, 17, 30])
               (.cnd (.t 30)
                (.seq
                 (.reg [
                   ⟨some 6, .mv (.c (.bool false)), none⟩] [6])
                 .ret)
                .skip)))))
           (.reg [
             ⟨some 31, .bin .add none (.t 17) (.c (.int .i64 1)), none⟩,
             ⟨some 17, .mv (.t 31), none⟩] [1, 2, 15, 16, 17]))))
        (.trim [1, 2, 15, 16, 17]))))))
   (.seq
    (.reg [
      ⟨some 6, .mv (.c (.bool true)), none⟩] [6])
    .ret)))),
[.tmp 6]⟩
theorem F71_ok : prepF Go.Proofs.Tryz.prog ⟨[8, 9], [(0, [0, 1, 2]), (1, [0, 1, 2, 14]), (2, [6]), (3, [1, 2, 15, 16, 17]), (4, [1, 2, 15, 16, 17, 18]), (5, [1, 2, 7, 8, 15, 16, 17]), (6, [1, 2, 8, 9, 15, 16, 17]), (7, [1, 2, 15, 16, 17, 30]), (8, [6]), (9, [1, 2, 15, 16, 17]), (10, [6]), (1000000, [1, 2, 15, 16, 17])], []⟩ Go.Proofs.Tryz.f71 = some F71 := by kernel_rfl
theorem F71_fn : FnOK2 Go.Proofs.Tryz.prog 71 (.pl F71) := .pl Go.Proofs.Tryz.func71 (by kernel_rfl) F71_ok
/-- emend/tree.order -/
def F72 : DF := ⟨1,
(.seq
 (.reg [
   ⟨some 1, .bxH 45 (.t 0), none⟩,
   ⟨some 2, .mv (.c (.sl 1 ⟨none, 0, (some 0), true⟩ [])), none⟩] [1])
 (.seq
  (.reg [
    ⟨some 5, .ld false 1 (.t 1), none⟩,
    ⟨some 6, .len (.t 5), none⟩,
    ⟨some 7, .mks 3 1 8 (.int .i64 0) (.t 6) (.t 6), none⟩,
    ⟨some 3, .mv (.t 7), none⟩] [1, 3])
  (.seq
   (.seq
    (.reg [
      ⟨some 8, .mv (.t 3), none⟩,
      ⟨some 9, .len (.t 8), none⟩,
      ⟨some 10, .mv (.c (.int .i64 0)), none⟩] [1, 3, 9, 10])
    (.blk 0
     (.seq
      (.trim [1, 3, 9, 10])
      (.lop
       (.seq
        (.seq
         (.reg [
           ⟨some 11, .bin .lss none (.t 10) (.t 9), none⟩] [1, 3, 9, 10, 11])
         (.seq
          (.cnd (.t 11)
           .skip
           (.exit 0))
          (.seq
           (.blk 1
            (.seq
             (.reg [
               ⟨some 12, .mv (.t 10), none⟩,
               ⟨some 4, .mv (.t 12), none⟩] [1, 3, 4, 9, 10])
             (.reg [
               ⟨some 13, .mv (.t 3), none⟩,
               ⟨some 14, .mv (.t 4), none⟩,
               ⟨some 15, .mv (.t 4), none⟩,
               ⟨some 16, .ia 1 (.t 13) (.t 14), none⟩,
               ⟨none, .st 1 (.t 16) (.t 15), none⟩] [1, 3, 9, 10])))
           (.reg [
             ⟨some 17, .bin .add none (.t 10) (.c (.int .i64 1)), none⟩,
             ⟨some 10, .mv (.t 17), none⟩] [1, 3, 9, 10]))))
        (.trim [1, 3, 9, 10]))))))
   (.seq
    (.reg [
      ⟨some 18, .mv (.t 3), none⟩,
      ⟨some 19, .mkf 90 [] [(.t 1)], none⟩,
      ⟨some 20, .call 89 [(.t 18), (.t 19)], none⟩] [3])
    (.seq
     (.reg [
       ⟨some 21, .mv (.t 3), none⟩,
       ⟨some 2, .mv (.t 21), none⟩] [2])
     .ret))))),
[.tmp 2]⟩
theorem F72_ok : prepF Go.Proofs.Tryz.prog ⟨[], [(0, [1]), (1, [1, 3]), (2, [1, 3, 9, 10]), (3, [1, 3, 9, 10, 11]), (4, [1, 3, 4, 9, 10]), (5, [1, 3, 9, 10]), (6, [1, 3, 9, 10]), (7, [3]), (8, [2]), (1000000, [1, 3, 9, 10])], []⟩ Go.Proofs.Tryz.f72 = some F72 := by kernel_rfl
theorem F72_fn : FnOK2 Go.Proofs.Tryz.prog 72 (.pl F72) := .pl Go.Proofs.Tryz.func72 (by kernel_rfl) F72_ok
/-- emend/text.First -/
def F78 : DF := ⟨1,
(.seq
 (.reg [
   ⟨some 2, .mv (.c (.int .i64 0)), none⟩,
   ⟨some 3, .mv (.c (.int .i64 0)), none⟩] [0])
 (.seq
  (.seq
   (.reg [
     ⟨some 6, .mv (.t 0), none⟩,
     ⟨some 7, .bin .eql (some .str) (.t 6) (.c (.str [])), none⟩] [0, 7])
   (.cnd (.t 7)
    (.seq
     (.reg [
       ⟨some 2, .mv (.c (.int .i64 0)), none⟩,
       ⟨some 3, .mv (.c (.int .i64 0)), none⟩] [2, 3])
     .ret)
    .skip))
  (.seq
   (.reg [
     ⟨some 9, .mv (.t 0), none⟩,
     ⟨some 10, .ixS (.t 9) (.c (.int .i64 0)), none⟩,
     ⟨some 11, .call 99 [(.t 10)], none⟩,
     ⟨some 8, .mv (.t 11), none⟩,
     ⟨some 12, .ext (.t 8) 0, none⟩,
     ⟨some 13, .ext (.t 8) 1, none⟩,
     ⟨some 14, .ext (.t 8) 2, none⟩,
     ⟨some 3, .mv (.t 12), none⟩,
     ⟨some 2, .mv (.t 13), none⟩,
     ⟨some 4, .mv (.t 14), none⟩] [0, 2, 3, 4])
   (.seq
    (.seq
     (.reg [
       ⟨some 15, .mv (.t 3), none⟩,
       ⟨some 16, .bin .eql (some .int) (.t 15) (.c (.int .i64 0)), none⟩,
       ⟨some 17, .mv (.t 16), none⟩,
       ⟨some 18, .mv (.t 3), some (17, false)⟩,
       ⟨some 19, .mv (.t 0), some (17, false)⟩,
       ⟨some 20, .lenS (.t 19), some (17, false)⟩,
       ⟨some 21, .bin .gtr none (.t 18) (.t 20), some (17, false)⟩,
       ⟨some 22, .pick (.t 17) (.c (.bool true)) (.t 21), none⟩] [0, 2, 3, 4, 22])
     (.cnd (.t 22)
      (.seq
       (.reg [
         ⟨some 2, .mv (.c (.int .i64 0)), none⟩,
         ⟨some 3, .mv (.c (.int .i64 0)), none⟩] [2, 3])
       .ret)
      .skip))
    (.seq
     (.seq
      (.reg [
        ⟨some 5, .mv (.c (.int .i64 1)), none⟩] [0, 2, 3, 4, 5])
      (.blk 0
       (.seq
        (.trim [0, 2, 3, 4, 5])
        (.lop
         (.seq
          (.seq
           (.seq
            (.reg [
              ⟨some 23, .mv (.t 5), none⟩,
              ⟨some 24, .mv (.t 3), none⟩,
              ⟨some 25, .bin .lss none (.t 23) (.t 24), none⟩] [0, 2, 3, 4, 5, 25])
            (.cnd (.t 25)
             .skip
             (.exit 0)))
           (.seq
            (.blk 1
             (.seq
              (.seq
               (.reg [
                 ⟨some 28, .mv (.t 0), none⟩,
                 ⟨some 29, .mv (.t 5), none⟩,
                 ⟨some 30, .ixS (.t 28) (.t 29), none⟩,
                 ⟨some 31, .bin .shr none (.t 30) (.c (.int .u64 6)), none⟩,
                 ⟨some 32, .bin .neq (some .int) (.t 31) (.c (.int .u8 2)), none⟩] [0, 2, 3, 4, 5, 32])
               (.cnd (.t 32)
                (.seq
                 (.reg [
                   ⟨some 2, .mv (.c (.int .i64 0)), none⟩,
                   ⟨some 3, .mv (.c (.int .i64 0)), none⟩] [2, 3])
                 .ret)
                .skip))
              (.reg [
                ⟨some 33, .mv (.t 2), none⟩,
                ⟨some 34, .bin .shl none (.t 33) (.c (.int .u64 6)), none⟩,
                ⟨some 35, .mv (.t 0), none⟩,
                ⟨some 36, .mv (.t 5), none⟩,
                ⟨some 37, .ixS (.t 35) (.t 36), none⟩,
                ⟨some 38, .bin .and none (.t 37) (.c (.int .u8 63)), none⟩,
                ⟨some 39, .cvI .i64 (.t 38), none⟩,
                ⟨some 40, .bin .or none (.t 34) (.t 39), none⟩,
                ⟨some 2, .mv (.t 40), none⟩] [0, 2, 3, 4, 5])))
            (.reg [
              ⟨some 26, .mv (.t 5), none⟩,
              ⟨some 27, .bin .add none (.t 26) (.c (.int .i64 1)), none⟩,
              ⟨some 5, .mv (.t 27), none⟩] [0, 2, 3, 4, 5])))
          (.trim [0, 2, 3, 4, 5]))))))
     (.seq
      (.seq
       (.reg [
         ⟨some 41, .mv (.t 2), none⟩,
         ⟨some 42, .mv (.t 4), none⟩,
         ⟨some 43, .bin .lss none (.t 41) (.t 42), none⟩,
         ⟨some 44, .mv (.t 43), none⟩,
         ⟨some 45, .mv (.t 2), some (44, false)⟩,
         ⟨some 46, .call 100 [(.t 45)], some (44, false)⟩,
         ⟨some 47, .un .not (.t 46), some (44, false)⟩,
         ⟨some 48, .pick (.t 44) (.c (.bool true)) (.t 47), none⟩] [2, 3, 48])
       (.cnd (.t 48)
        (.seq
         (.reg [
           ⟨some 2, .mv (.c (.int .i64 0)), none⟩,
           ⟨some 3, .mv (.c (.int .i64 0)), none⟩] [2, 3])
         .ret)
        .skip))
      (.seq
       (.reg [
         ⟨some 49, .mv (.t 2), none⟩,
         ⟨some 50, .mv (.t 3), none⟩,
         ⟨some 2, .mv (.t 49), none⟩,
         ⟨some 3, .mv (.t 50), none⟩] [2, 3])
       .ret))))))),
[.tmp 2, .tmp 3]⟩
theorem F78_ok : prepF Go.Proofs.Tryz.prog ⟨[], [(0, [0]), (1, [0, 7]), (2, [2, 3]), (3, [0, 2, 3, 4]), (4, [0, 2, 3, 4, 22]), (5, [2, 3]), (6, [0, 2, 3, 4, 5]), (7, [0, 2, 3, 4, 5, 25]), (8, [0, 2, 3, 4, 5]), (9, [0, 2, 3, 4, 5, 32]), (10, [2, 3]), (11, [0, 2, 3, 4, 5]), (12, [2, 3, 48]), (13, [2, 3]), (14, [2, 3]), (1000000, [0, 2, 3, 4, 5])], []⟩ Go.Proofs.Tryz.f78 = some F78 := by kernel_rfl
theorem F78_fn : FnOK2 Go.Proofs.Tryz.prog 78 (.pl F78) := .pl Go.Proofs.Tryz.func78 (by kernel_rfl) F78_ok
/-- emend/text.Quoted -/
def F79 : DF := ⟨1,
(.seq
 (.reg [
   ⟨some 2, .mv (.c (.str [])), none⟩,
   ⟨some 3, .mv (.c (.int .i64 0)), none⟩,
   ⟨some 4, .mv (.c .nilp), none⟩] [0])
 (.seq
  (.seq
   (.reg [
     ⟨some 10, .mv (.t 0), none⟩,
     ⟨some 11, .bin .eql (some .str) (.t 10) (.c (.str [])), none⟩] [0, 11])
   (.cnd (.t 11)
    (.seq
     (.reg [
       ⟨some 12, .call 52 [(.c (.int .i64 0)), (.c (.int .i64 14))], none⟩,
       ⟨some 2, .mv (.c (.str [])), none⟩,
       ⟨some 3, .mv (.c (.int .i64 0)), none⟩,
       ⟨some 4, .mv (.t 12), none⟩] [2, 3, 4])
     .ret)
    .skip))
  (.seq
   (.seq
    (.reg [
      ⟨some 13, .mv (.t 0), none⟩,
      ⟨some 14, .ixS (.t 13) (.c (.int .i64 0)), none⟩,
      ⟨some 15, .bin .neq (some .int) (.t 14) (.c (.int .u8 34)), none⟩] [0, 15])
    (.cnd (.t 15)
     (.seq
      (.reg [
        ⟨some 16, .call 52 [(.c (.int .i64 0)), (.c (.int .i64 13))], none⟩,
        ⟨some 2, .mv (.c (.str [])), none⟩,
        ⟨some 3, .mv (.c (.int .i64 0)), none⟩,
        ⟨some 4, .mv (.t 16), none⟩] [2, 3, 4])
      .ret)
     .skip))
   (.seq
    (.reg [
      ⟨some 5, .mv (.c (.sl 1 ⟨none, 0, (some 0), true⟩ [])), none⟩] [0, 5])
    (.seq
     (.seq
      (.reg [
        ⟨some 6, .mv (.c (.int .i64 1)), none⟩] [0, 5, 6])
      (.blk 0
       (.seq
        (.trim [0, 5, 6])
        (.lop
         (.seq
          (.seq
           (.seq
            (.reg [
              ⟨some 17, .mv (.t 6), none⟩,
              ⟨some 18, .mv (.t 0), none⟩,
              ⟨some 19, .lenS (.t 18), none⟩,
              ⟨some 20, .bin .lss none (.t 17) (.t 19), none⟩] [0, 5, 6, 20])
            (.cnd (.t 20)
             .skip
             (.exit 0)))
           (.blk 1
            (.seq
             (.reg [
               ⟨some 21, .mv (.t 0), none⟩,
               ⟨some 22, .mv (.t 6), none⟩,
               ⟨some 23, .ixS (.t 21) (.t 22), none⟩,
               ⟨some 7, .mv (.t 23), none⟩] [0, 5, 6, 7])
             (.blk 2
              (.seq
               (.reg [
                 ⟨some 31, .mv (.t 7), none⟩,
                 ⟨some 32, .bin .eql (some .int) (.t 31) (.c (.int .u8 34)), none⟩,
                 ⟨some 30, .mv (.t 32), none⟩] [0, 5, 6, 7, 30])
               (.cnd (.t 30)
                (.seq
                 (.reg [
                   ⟨some 33, .mv (.t 5), none⟩,
                   ⟨some 34, .cvBS (.t 33), none⟩,
                   ⟨some 35, .mv (.t 6), none⟩,
                   ⟨some 36, .bin .add none (.t 35) (.c (.int .i64 1)), none⟩,
                   ⟨some 2, .mv (.t 34), none⟩,
                   ⟨some 3, .mv (.t 36), none⟩,
                   ⟨some 4, .mv (.c .nilp), none⟩] [2, 3, 4])
                 .ret)
                (.seq
                 (.reg [
                   ⟨some 38, .mv (.t 7), none⟩,
                   ⟨some 39, .bin .lss none (.t 38) (.c (.int .u8 32)), none⟩,
                   ⟨some 37, .mv (.t 39), none⟩] [0, 5, 6, 7, 37])
                 (.cnd (.t 37)
                  (.seq
                   (.reg [
                     ⟨some 40, .mv (.t 6), none⟩,
                     ⟨some 41, .call 52 [(.t 40), (.c (.int .i64 13))], none⟩,
                     ⟨some 2, .mv (.c (.str [])), none⟩,
                     ⟨some 3, .mv (.c (.int .i64 0)), none⟩,
                     ⟨some 4, .mv (.t 41), none⟩] [2, 3, 4])
                   .ret)
                  (.seq
                   (.reg [
                     ⟨some 43, .mv (.t 7), none⟩,
                     ⟨some 44, .bin .eql (some .int) (.t 43) (.c (.int .u8 92)), none⟩,
                     ⟨some 42, .mv (.t 44), none⟩] [0, 5, 6, 7, 42])
                   (.cnd (.t 42)
                    (.seq
                     (.reg [
                       ⟨some 46, .mv (.t 0), none⟩,
                       ⟨some 47, .mv (.t 6), none⟩,
                       ⟨some 48, .bin .add none (.t 47) (.c (.int .i64 1)), none⟩,
                       ⟨some 49, .slS (.t 46) (some (.t 48)) none, none⟩,
                       ⟨some 50, .call 101 [(.t 49)], none⟩,
                       ⟨some 45, .mv (.t 50), none⟩,
                       ⟨some 51, .ext (.t 45) 0, none⟩,
                       ⟨some 52, .ext (.t 45) 1, none⟩,
                       ⟨some 8, .mv (.t 51), none⟩,
                       ⟨some 9, .mv (.t 52), none⟩] [0, 5, 6, 8, 9])
                     (.seq
                      (.seq
                       (.reg [
                         ⟨some 53, .mv (.t 9), none⟩,
                         ⟨some 54, .bin .eql (some .int) (.t 53) (.c (.int .i64 0)), none⟩] [0, 5, 6, 8, 9, 54])
                       (.cnd (.t 54)
                        (.seq
                         (.reg [
                           ⟨some 55, .mv (.t 6), none⟩,
                           ⟨some 56, .call 52 [(.t 55), (.c (.int .i64 11))], none⟩,
                           ⟨some 2, .mv (.c (.str [])), none⟩,
                           ⟨some 3, .mv (.c (.int .i64 0)), none⟩,
                           ⟨some 4, .mv (.t 56), none⟩] [2, 3, 4])
                         .ret)
                        .skip))
                      (.seq
                       (.reg [
                         ⟨some 57, .mv (.t 5), none⟩,
                         ⟨some 58, .mv (.t 8), none⟩,
                         ⟨some 59, .call 102 [(.t 57), (.t 58)], none⟩,
                         ⟨some 5, .mv (.t 59), none⟩] [0, 5, 6, 9])
                       (.reg [
                         ⟨some 60, .mv (.t 6), none⟩,
                         ⟨some 61, .mv (.t 9), none⟩,
                         ⟨some 62, .bin .add none (.c (.int .i64 1)) (.t 61), none⟩,
                         ⟨some 63, .bin .add none (.t 60) (.t 62), none⟩,
                         ⟨some 6, .mv (.t 63), none⟩] [0, 5, 6]))))
                    (.seq
                     (.reg [
                       ⟨some 24, .mv (.t 5), none⟩,
                       ⟨some 25, .mv (.t 7), none⟩,
                       ⟨some 26, .bldT 5 1 1 (.int .u8 0) [(0, (.t 25))], none⟩,
                       ⟨some 27, .app false 5 1 1 (.t 24) (.t 26), none⟩,
                       ⟨some 5, .mv (.t 27), none⟩] [0, 5, 6])
                     (.reg [
                       ⟨some 28, .mv (.t 6), none⟩,
                       ⟨some 29, .bin .add none (.t 28) (.c (.int .i64 1)), none⟩,
                       ⟨some 6, .mv (.t 29), none⟩] [0, 5, 6]))))))))))))
          (.trim [0, 5, 6]))))))
     (.seq
      (.reg [
        ⟨some 64, .mv (.t 0), none⟩,
        ⟨some 65, .lenS (.t 64), none⟩,
        ⟨some 66, .call 52 [(.t 65), (.c (.int .i64 14))], none⟩,
        ⟨some 2, .mv (.c (.str [])), none⟩,
        ⟨some 3, .mv (.c (.int .i64 0)), none⟩,
        ⟨some 4, .mv (.t 66), none⟩] [2, 3, 4])
      .ret)))))),
[.tmp 2, .tmp 3, .tmp 4]⟩
theorem F79_ok : prepF Go.Proofs.Tryz.prog ⟨[], [(0, [0]), (1, [0, 11]), (2, [2, 3, 4]), (3, [0, 15]), (4, [2, 3, 4]), (5, [0, 5]), (6, [0, 5, 6]), (7, [0, 5, 6, 20]), (8, [0, 5, 6, 7]), (9, [0, 5, 6]), (10, [0, 5, 6]), (11, [0, 5, 6, 7, 30]), (12, [2, 3, 4]), (13, [0, 5, 6, 7, 37]), (14, [2, 3, 4]), (15, [0, 5, 6, 7, 42]), (16, [0, 5, 6, 8, 9]), (17, [0, 5, 6, 8, 9, 54]), (18, [2, 3, 4]), (19, [0, 5, 6, 9]), (20, [0, 5, 6]), (21, [2, 3, 4]), (1000000, [0, 5, 6])], []⟩ Go.Proofs.Tryz.f79 = some F79 := by kernel_rfl
theorem F79_fn : FnOK2 Go.Proofs.Tryz.prog 79 (.pl F79) := .pl Go.Proofs.Tryz.func79 (by kernel_rfl) F79_ok
/-- (*emend/tree.Place).Must -/
def F80 : DF := ⟨2,
(.seq
 (.seq
  (.reg [
    ⟨some 4, .mv (.t 0), none⟩,
    ⟨some 5, .mv (.t 1), none⟩,
    ⟨some 6, .call 57 [(.t 4), (.t 5)], none⟩,
    ⟨some 7, .un .not (.t 6), none⟩] [0, 7])
  (.cnd (.t 7)
   (.reg [
     ⟨some 8, .mv (.t 0), none⟩,
     ⟨some 9, .call 41 [(.t 8)], none⟩] [0])
   .skip))
 (.reg [
   ⟨some 10, .mv (.t 0), none⟩,
   ⟨some 11, .nilc (.t 10), none⟩,
   ⟨some 12, .fa 1 (.t 11), none⟩,
   ⟨some 13, .ld false 1 (.t 12), none⟩,
   ⟨some 14, .bin .add none (.t 13) (.c (.int .i64 1)), none⟩,
   ⟨some 15, .nilc (.t 10), none⟩,
   ⟨some 16, .fa 1 (.t 15), none⟩,
   ⟨none, .st 1 (.t 16) (.t 14), none⟩] [])),
[]⟩
theorem F80_ok : prepF Go.Proofs.Tryz.prog ⟨[], [(0, [0, 7]), (1, [0]), (2, [])], []⟩ Go.Proofs.Tryz.f80 = some F80 := by kernel_rfl
theorem F80_fn : FnOK2 Go.Proofs.Tryz.prog 80 (.pl F80) := .pl Go.Proofs.Tryz.func80 (by kernel_rfl) F80_ok
/-- emend/tree.Digit -/
def F81 : DF := ⟨1,
(.seq
 (.reg [
   ⟨some 2, .mv (.c (.bool false)), none⟩] [0])
 (.seq
  (.reg [
    ⟨some 3, .mv (.t 0), none⟩,
    ⟨some 4, .bin .geq none (.t 3) (.c (.int .u8 48)), none⟩,
    ⟨some 5, .mv (.t 4), none⟩,
    ⟨some 6, .mv (.t 0), some (5, true)⟩,
    ⟨some 7, .bin .leq none (.t 6) (.c (.int .u8 57)), some (5, true)⟩,
    ⟨some 8, .pick (.t 5) (.t 7) (.c (.bool false)), none⟩,
    ⟨some 2, .mv (.t 8), none⟩] [2])
  .ret)),
[.tmp 2]⟩
theorem F81_ok : prepF Go.Proofs.Tryz.prog ⟨[], [(0, [0]), (1, [2])], []⟩ Go.Proofs.Tryz.f81 = some F81 := by kernel_rfl
theorem F81_fn : FnOK2 Go.Proofs.Tryz.prog 81 (.pl F81) := .pl Go.Proofs.Tryz.func81 (by kernel_rfl) F81_ok
/-- emend/tree.Letter -/
def F82 : DF := ⟨1,
(.seq
 (.reg [
   ⟨some 2, .mv (.c (.bool false)), none⟩] [0])
 (.seq
  (.reg [
    ⟨some 3, .mv (.t 0), none⟩,
    ⟨some 4, .bin .geq none (.t 3) (.c (.int .u8 97)), none⟩,
    ⟨some 5, .mv (.t 4), none⟩,
    ⟨some 6, .mv (.t 0), some (5, true)⟩,
    ⟨some 7, .bin .leq none (.t 6) (.c (.int .u8 122)), some (5, true)⟩,
    ⟨some 8, .pick (.t 5) (.t 7) (.c (.bool false)), none⟩,
    ⟨some 9, .mv (.t 8), none⟩,
    ⟨some 10, .mv (.t 0), some (9, false)⟩,
    ⟨some 11, .bin .geq none (.t 10) (.c (.int .u8 65)), some (9, false)⟩,
    ⟨some 12, .mv (.t 11), some (9, false)⟩,
    ⟨some 13, .mv (.t 0), some (12, true)⟩,
    ⟨some 14, .bin .leq none (.t 13) (.c (.int .u8 90)), some (12, true)⟩,
    ⟨some 15, .pick (.t 12) (.t 14) (.c (.bool false)), some (9, false)⟩,
    ⟨some 16, .pick (.t 9) (.c (.bool true)) (.t 15), none⟩,
    ⟨some 2, .mv (.t 16), none⟩] [2])
  .ret)),
[.tmp 2]⟩
theorem F82_ok : prepF Go.Proofs.Tryz.prog ⟨[], [(0, [0]), (1, [2])], []⟩ Go.Proofs.Tryz.f82 = some F82 := by kernel_rfl
theorem F82_fn : FnOK2 Go.Proofs.Tryz.prog 82 (.pl F82) := .pl Go.Proofs.Tryz.func82 (by kernel_rfl) F82_ok
/-- emend/tree.date -/
def F83 : DF := ⟨1,
(.seq
 (.reg [
   ⟨some 2, .mv (.c (.bool false)), none⟩] [0])
 (.seq
  (.seq
   (.reg [
     ⟨some 3, .mv (.t 0), none⟩,
     ⟨some 4, .lenS (.t 3), none⟩,
     ⟨some 5, .bin .neq (some .int) (.t 4) (.c (.int .i64 10)), none⟩,
     ⟨some 6, .mv (.t 5), none⟩,
     ⟨some 7, .mv (.t 0), some (6, false)⟩,
     ⟨some 8, .ixS (.t 7) (.c (.int .i64 4)), some (6, false)⟩,
     ⟨some 9, .bin .neq (some .int) (.t 8) (.c (.int .u8 45)), some (6, false)⟩,
     ⟨some 10, .pick (.t 6) (.c (.bool true)) (.t 9), none⟩,
     ⟨some 11, .mv (.t 10), none⟩,
     ⟨some 12, .mv (.t 0), some (11, false)⟩,
     ⟨some 13, .ixS (.t 12) (.c (.int .i64 7)), some (11, false)⟩,
     ⟨some 14, .bin .neq (some .int) (.t 13) (.c (.int .u8 45)), some (11, false)⟩,
     ⟨some 15, .pick (.t 11) (.c (.bool true)) (.t 14), none⟩,
     ⟨some 16, .mv (.t 15), none⟩,
     ⟨some 17, .mv (.t 0), some (16, false)⟩,
     ⟨some 18, .slS (.t 17) none (some (.c (.int .i64 2))), some (16, false)⟩,
     ⟨some 19, .call 103 [(.t 18)], some (16, false)⟩,
     ⟨some 20, .bin .lss none (.t 19) (.c (.int .i64 0)), some (16, false)⟩,
     ⟨some 21, .pick (.t 16) (.c (.bool true)) (.t 20), none⟩,
     ⟨some 22, .mv (.t 21), none⟩,
     ⟨some 23, .mv (.t 0), some (22, false)⟩,
     ⟨some 24, .slS (.t 23) (some (.c (.int .i64 2))) (some (.c (.int .i64 4))), some (22, false)⟩,
     ⟨some 25, .call 103 [(.t 24)], some (22, false)⟩,
     ⟨some 26, .bin .lss none (.t 25) (.c (.int .i64 0)), some (22, false)⟩,
     ⟨some 27, .pick (.t 22) (.c (.bool true)) (.t 26), none⟩,
     ⟨some 28, .mv (.t 27), none⟩,
     ⟨some 29, .mv (.t 0), some (28, false)⟩,
     ⟨some 30, .slS (.t 29) (some (.c (.int .i64 5))) (some (.c (.int .i64 7))), some (28, false)⟩,
     ⟨some 31, .call 104 [(.t 30), (.c (.int .i64 1)), (.c (.int .i64 12))], some (28, false)⟩,
     ⟨some 32, .un .not (.t 31), some (28, false)⟩,
     ⟨some 33, .pick (.t 28) (.c (.bool true)) (.t 32), none⟩] [0, 33])
   (.cnd (.t 33)
    (.seq
     (.reg [
       ⟨some 2, .mv (.c (.bool false)), none⟩] [2])
     .ret)
    .skip))
  (.seq
   (.drw [
     ((⟨some 34, .mv (.t 0), none⟩, none), []),
     ((⟨some 35, .slS (.t 34) (some (.c (.int .i64 8))) none, none⟩, none), []),
     ((⟨some 36, .mv (.t 0), none⟩, none), []),
     ((⟨some 37, .slS (.t 36) none (some (.c (.int .i64 2))), none⟩, none), []),
     ((⟨some 40, .mv (.t 0), none⟩, none), []),
     ((⟨some 41, .slS (.t 40) (some (.c (.int .i64 2))) (some (.c (.int .i64 4))), none⟩, none), []),
     ((⟨some 44, .mv (.t 0), none⟩, none), []),
     ((⟨some 45, .slS (.t 44) (some (.c (.int .i64 5))) (some (.c (.int .i64 7))), none⟩, none), []),
     ((⟨some 38, .call 103 [(.t 37)], none⟩, none), []),
     ((⟨some 39, .bin .mul none (.t 38) (.c (.int .i64 100)), none⟩, none), []),
     ((⟨some 42, .call 103 [(.t 41)], none⟩, none), []),
     ((⟨some 43, .bin .add none (.t 39) (.t 42), none⟩, none), []),
     ((⟨some 46, .call 103 [(.t 45)], none⟩, none), []),
     ((⟨some 47, .call 105 [(.t 43), (.t 46)], none⟩, none), []),
     ((⟨some 48, .call 104 [(.t 35), (.c (.int .i64 1)), (.t 47)], none⟩, none), []),
     ((⟨some 2, .mv (.t 48), none⟩, none), [])] [2])
   .ret))),
[.tmp 2]⟩
theorem F83_ok : prepF Go.Proofs.Tryz.prog ⟨[], [(0, [0]), (1, [0, 33]), (2, [2]), (3, [2])], []⟩ Go.Proofs.Tryz.f83 = some F83 := by kernel_rfl
theorem F83_fn : FnOK2 Go.Proofs.Tryz.prog 83 (.pl F83) := .pl Go.Proofs.Tryz.func83 (by kernel_rfl) F83_ok
/-- emend/tree.clock -/
def F84 : DF := ⟨1,
(.seq
 (.reg [
   ⟨some 2, .mv (.c (.bool false)), none⟩] [0])
 (.seq
  (.seq
   (.reg [
     ⟨some 4, .mv (.t 0), none⟩,
     ⟨some 5, .lenS (.t 4), none⟩,
     ⟨some 6, .bin .lss none (.t 5) (.c (.int .i64 8)), none⟩,
     ⟨some 7, .mv (.t 6), none⟩,
     ⟨some 8, .mv (.t 0), some (7, false)⟩,
     ⟨some 9, .ixS (.t 8) (.c (.int .i64 2)), some (7, false)⟩,
     ⟨some 10, .bin .neq (some .int) (.t 9) (.c (.int .u8 58)), some (7, false)⟩,
     ⟨some 11, .pick (.t 7) (.c (.bool true)) (.t 10), none⟩,
     ⟨some 12, .mv (.t 11), none⟩,
     ⟨some 13, .mv (.t 0), some (12, false)⟩,
     ⟨some 14, .ixS (.t 13) (.c (.int .i64 5)), some (12, false)⟩,
     ⟨some 15, .bin .neq (some .int) (.t 14) (.c (.int .u8 58)), some (12, false)⟩,
     ⟨some 16, .pick (.t 12) (.c (.bool true)) (.t 15), none⟩,
     ⟨some 17, .mv (.t 16), none⟩,
     ⟨some 18, .mv (.t 0), some (17, false)⟩,
     ⟨some 19, .slS (.t 18) none (some (.c (.int .i64 2))), some (17, false)⟩,
     ⟨some 20, .call 104 [(.t 19), (.c (.int .i64 0)), (.c (.int .i64 23))], some (17, false)⟩,
     ⟨some 21, .un .not (.t 20), some (17, false)⟩,
     ⟨some 22, .pick (.t 17) (.c (.bool true)) (.t 21), none⟩,
     ⟨some 23, .mv (.t 22), none⟩,
     ⟨some 24, .mv (.t 0), some (23, false)⟩,
     ⟨some 25, .slS (.t 24) (some (.c (.int .i64 3))) (some (.c (.int .i64 5))), some (23, false)⟩,
     ⟨some 26, .call 104 [(.t 25), (.c (.int .i64 0)), (.c (.int .i64 59))], some (23, false)⟩,
     ⟨some 27, .un .not (.t 26), some (23, false)⟩,
     ⟨some 28, .pick (.t 23) (.c (.bool true)) (.t 27), none⟩,
     ⟨some 29, .mv (.t 28), none⟩,
     ⟨some 30, .mv (.t 0), some (29, false)⟩,
     ⟨some 31, .slS (.t 30) (some (.c (.int .i64 6))) (some (.c (.int .i64 8))), some (29, false)⟩,
     ⟨some 32, .call 104 [(.t 31), (.c (.int .i64 0)), (.c (.int .i64 59))], some (29, false)⟩,
     ⟨some 33, .un .not (.t 32), some (29, false)⟩,
     ⟨some 34, .pick (.t 29) (.c (.bool true)) (.t 33), none⟩] [0, 34])
   (.cnd (.t 34)
    (.seq
     (.reg [
       ⟨some 2, .mv (.c (.bool false)), none⟩] [2])
     .ret)
    .skip))
  (.seq
   (.seq
    (.reg [
      ⟨some 35, .mv (.t 0), none⟩,
      ⟨some 36, .lenS (.t 35), none⟩,
      ⟨some 37, .bin .eql (some .int) (.t 36) (.c (.int .i64 8)), none⟩] [0, 37])
    (.cnd (.t 37)
     (.seq
      (.reg [
        ⟨some 2, .mv (.c (.bool true)), none⟩] [2])
      .ret)
     .skip))
   (.seq
    (.reg [
      ⟨some 38, .mv (.t 0), none⟩,
      ⟨some 39, .slS (.t 38) (some (.c (.int .i64 9))) none, none⟩,
      ⟨some 3, .mv (.t 39), none⟩] [0, 3])
    (.seq
     (.reg [
       ⟨some 40, .mv (.t 0), none⟩,
       ⟨some 41, .ixS (.t 40) (.c (.int .i64 8)), none⟩,
       ⟨some 42, .bin .eql (some .int) (.t 41) (.c (.int .u8 46)), none⟩,
       ⟨some 43, .mv (.t 42), none⟩,
       ⟨some 44, .mv (.t 3), some (43, true)⟩,
       ⟨some 45, .lenS (.t 44), some (43, true)⟩,
       ⟨some 46, .bin .geq none (.t 45) (.c (.int .i64 1)), some (43, true)⟩,
       ⟨some 47, .pick (.t 43) (.t 46) (.c (.bool false)), none⟩,
       ⟨some 48, .mv (.t 47), none⟩,
       ⟨some 49, .mv (.t 3), some (48, true)⟩,
       ⟨some 50, .lenS (.t 49), some (48, true)⟩,
       ⟨some 51, .bin .leq none (.t 50) (.c (.int .i64 9)), some (48, true)⟩,
       ⟨some 52, .pick (.t 48) (.t 51) (.c (.bool false)), none⟩,
       ⟨some 53, .mv (.t 52), none⟩,
       ⟨some 54, .mv (.t 3), some (53, true)⟩,
       ⟨some 55, .call 106 [(.t 54), (.c (.str [48, 49, 50, 51, 52, 53, 54, 55, 56, 57]))], some (53, true)⟩,
       ⟨some 56, .bin .eql (some .str) (.t 55) (.c (.str [])), some (53, true)⟩,
       ⟨some 57, .pick (.t 53) (.t 56) (.c (.bool false)), none⟩,
       ⟨some 2, .mv (.t 57), none⟩] [2])
     .ret))))),
[.tmp 2]⟩
theorem F84_ok : prepF Go.Proofs.Tryz.prog ⟨[], [(0, [0]), (1, [0, 34]), (2, [2]), (3, [0, 37]), (4, [2]), (5, [0, 3]), (6, [2])], []⟩ Go.Proofs.Tryz.f84 = some F84 := by kernel_rfl
theorem F84_fn : FnOK2 Go.Proofs.Tryz.prog 84 (.pl F84) := .pl Go.Proofs.Tryz.func84 (by kernel_rfl) F84_ok
/-- emend/tree.zone -/
def F85 : DF := ⟨1,
(.seq
 (.reg [
   ⟨some 2, .mv (.c (.str [])), none⟩,
   ⟨some 3, .mv (.c (.str [])), none⟩] [0])
 (.seq
  (.seq
   (.reg [
     ⟨some 5, .mv (.t 0), none⟩,
     ⟨some 6, .call 107 [(.t 5), (.c (.str [90]))], none⟩] [0, 6])
   (.cnd (.t 6)
    (.seq
     (.reg [
       ⟨some 7, .mv (.t 0), none⟩,
       ⟨some 8, .mv (.t 0), none⟩,
       ⟨some 9, .lenS (.t 8), none⟩,
       ⟨some 10, .bin .sub none (.t 9) (.c (.int .i64 1)), none⟩,
       ⟨some 11, .slS (.t 7) none (some (.t 10)), none⟩,
       ⟨some 2, .mv (.t 11), none⟩,
       ⟨some 3, .mv (.c (.str [90])), none⟩] [2, 3])
     .ret)
    .skip))
  (.seq
   (.seq
    (.reg [
      ⟨some 12, .mv (.t 0), none⟩,
      ⟨some 13, .lenS (.t 12), none⟩,
      ⟨some 14, .bin .lss none (.t 13) (.c (.int .i64 6)), none⟩,
      ⟨some 15, .mv (.t 14), none⟩,
      ⟨some 16, .mv (.t 0), some (15, false)⟩,
      ⟨some 17, .mv (.t 0), some (15, false)⟩,
      ⟨some 18, .lenS (.t 17), some (15, false)⟩,
      ⟨some 19, .bin .sub none (.t 18) (.c (.int .i64 6)), some (15, false)⟩,
      ⟨some 20, .ixS (.t 16) (.t 19), some (15, false)⟩,
      ⟨some 21, .bin .neq (some .int) (.t 20) (.c (.int .u8 43)), some (15, false)⟩,
      ⟨some 22, .mv (.t 21), some (15, false)⟩,
      ⟨some 23, .mv (.t 0), some (22, true)⟩,
      ⟨some 24, .mv (.t 0), some (22, true)⟩,
      ⟨some 25, .lenS (.t 24), some (22, true)⟩,
      ⟨some 26, .bin .sub none (.t 25) (.c (.int .i64 6)), some (22, true)⟩,
      ⟨some 27, .ixS (.t 23) (.t 26), some (22, true)⟩,
      ⟨some 28, .bin .neq (some .int) (.t 27) (.c (.int .u8 45)), some (22, true)⟩,
      ⟨some 29, .pick (.t 22) (.t 28) (.c (.bool false)), some (15, false)⟩,
      ⟨some 30, .pick (.t 15) (.c (.bool true)) (.t 29), none⟩] [0, 30])
    (.cnd (.t 30)
     (.seq
      (.reg [
        ⟨some 31, .mv (.t 0), none⟩,
        ⟨some 2, .mv (.t 31), none⟩,
        ⟨some 3, .mv (.c (.str [])), none⟩] [2, 3])
      .ret)
     .skip))
   (.seq
    (.reg [
      ⟨some 32, .mv (.t 0), none⟩,
      ⟨some 33, .mv (.t 0), none⟩,
      ⟨some 34, .lenS (.t 33), none⟩,
      ⟨some 35, .bin .sub none (.t 34) (.c (.int .i64 6)), none⟩,
      ⟨some 36, .slS (.t 32) (some (.t 35)) none, none⟩,
      ⟨some 4, .mv (.t 36), none⟩] [0, 4])
    (.seq
     (.seq
      (.reg [
        ⟨some 37, .mv (.t 4), none⟩,
        ⟨some 38, .ixS (.t 37) (.c (.int .i64 3)), none⟩,
        ⟨some 39, .bin .neq (some .int) (.t 38) (.c (.int .u8 58)), none⟩,
        ⟨some 40, .mv (.t 39), none⟩,
        ⟨some 41, .mv (.t 4), some (40, false)⟩,
        ⟨some 42, .slS (.t 41) (some (.c (.int .i64 1))) (some (.c (.int .i64 3))), some (40, false)⟩,
        ⟨some 43, .call 104 [(.t 42), (.c (.int .i64 0)), (.c (.int .i64 23))], some (40, false)⟩,
        ⟨some 44, .un .not (.t 43), some (40, false)⟩,
        ⟨some 45, .pick (.t 40) (.c (.bool true)) (.t 44), none⟩,
        ⟨some 46, .mv (.t 45), none⟩,
        ⟨some 47, .mv (.t 4), some (46, false)⟩,
        ⟨some 48, .slS (.t 47) (some (.c (.int .i64 4))) none, some (46, false)⟩,
        ⟨some 49, .call 104 [(.t 48), (.c (.int .i64 0)), (.c (.int .i64 59))], some (46, false)⟩,
        ⟨some 50, .un .not (.t 49), some (46, false)⟩,
        ⟨some 51, .pick (.t 46) (.c (.bool true)) (.t 50), none⟩] [0, 4, 51])
      (.cnd (.t 51)
       (.seq
        (.reg [
          ⟨some 52, .mv (.t 0), none⟩,
          ⟨some 2, .mv (.t 52), none⟩,
          ⟨some 3, .mv (.c (.str [])), none⟩] [2, 3])
        .ret)
       .skip))
     (.seq
      (.reg [
        ⟨some 53, .mv (.t 0), none⟩,
        ⟨some 54, .mv (.t 0), none⟩,
        ⟨some 55, .lenS (.t 54), none⟩,
        ⟨some 56, .bin .sub none (.t 55) (.c (.int .i64 6)), none⟩,
        ⟨some 57, .slS (.t 53) none (some (.t 56)), none⟩,
        ⟨some 58, .mv (.t 4), none⟩,
        ⟨some 2, .mv (.t 57), none⟩,
        ⟨some 3, .mv (.t 58), none⟩] [2, 3])
      .ret)))))),
[.tmp 2, .tmp 3]⟩
theorem F85_ok : prepF Go.Proofs.Tryz.prog ⟨[], [(0, [0]), (1, [0, 6]), (2, [2, 3]), (3, [0, 30]), (4, [2, 3]), (5, [0, 4]), (6, [0, 4, 51]), (7, [2, 3]), (8, [2, 3])], []⟩ Go.Proofs.Tryz.f85 = some F85 := by kernel_rfl
theorem F85_fn : FnOK2 Go.Proofs.Tryz.prog 85 (.pl F85) := .pl Go.Proofs.Tryz.func85 (by kernel_rfl) F85_ok
/-- strings.Cut -/
def F86 : DF := ⟨2,
(.seq
 (.reg [
   ⟨some 4, .mv (.c (.str [])), none⟩,
   ⟨some 5, .mv (.c (.str [])), none⟩,
   ⟨some 6, .mv (.c (.bool false)), none⟩] [0, 1])
 (.seq
  (.reg [
    ⟨some 7, .mv (.t 0), none⟩,
    ⟨some 8, .mv (.t 1), none⟩,
    ⟨some 9, .call 108 [(.t 7), (.t 8)], none⟩,
    ⟨some 10, .ext (.t 9) 0, none⟩,
    ⟨some 11, .ext (.t 9) 1, none⟩,
    ⟨some 12, .ext (.t 9) 2, none⟩,
    ⟨some 4, .mv (.t 10), none⟩,
    ⟨some 5, .mv (.t 11), none⟩,
    ⟨some 6, .mv (.t 12), none⟩] [4, 5, 6])
  .ret)),
[.tmp 4, .tmp 5, .tmp 6]⟩
theorem F86_ok : prepF Go.Proofs.Tryz.prog ⟨[], [(0, [0, 1]), (1, [4, 5, 6])], []⟩ Go.Proofs.Tryz.f86 = some F86 := by kernel_rfl
theorem F86_fn : FnOK2 Go.Proofs.Tryz.prog 86 (.pl F86) := .pl Go.Proofs.Tryz.func86 (by kernel_rfl) F86_ok
/-- emend/num.Split -/
def F87 : DF := ⟨1,
(.seq
 (.reg [
   ⟨some 2, .alL [(.bool false), (.str []), (.int .i64 0)], none⟩,
   ⟨some 3, .mv (.c (.int .i64 0)), none⟩] [0, 2])
 (.seq
  (.reg [
    ⟨some 13, .mv (.t 0), none⟩,
    ⟨some 14, .call 109 [(.t 13)], none⟩,
    ⟨some 12, .mv (.t 14), none⟩,
    ⟨some 15, .ext (.t 12) 0, none⟩,
    ⟨some 16, .ext (.t 12) 1, none⟩,
    ⟨some 17, .ext (.t 12) 2, none⟩,
    ⟨some 18, .ext (.t 12) 3, none⟩,
    ⟨some 19, .ext (.t 12) 4, none⟩,
    ⟨some 4, .mv (.t 15), none⟩,
    ⟨some 5, .mv (.t 16), none⟩,
    ⟨some 6, .mv (.t 17), none⟩,
    ⟨some 7, .mv (.t 18), none⟩,
    ⟨some 8, .mv (.t 19), none⟩] [0, 2, 4, 5, 6, 7, 8])
  (.seq
   (.seq
    (.reg [
      ⟨some 20, .mv (.t 8), none⟩,
      ⟨some 21, .un .not (.t 20), none⟩] [0, 2, 4, 5, 6, 7, 21])
    (.cnd (.t 21)
     (.seq
      (.reg [
        ⟨some 22, .bld [(.bool false), (.str []), (.int .i64 0)] [], none⟩,
        ⟨none, .st 3 (.t 2) (.t 22), none⟩,
        ⟨some 3, .mv (.c (.int .i64 12)), none⟩] [2, 3])
      .ret)
     .skip))
   (.seq
    (.seq
     (.reg [
       ⟨some 23, .mv (.t 0), none⟩,
       ⟨some 24, .lenS (.t 23), none⟩,
       ⟨some 25, .bin .gtr none (.t 24) (.c (.int .i64 1000)), none⟩] [2, 4, 5, 6, 7, 25])
     (.cnd (.t 25)
      (.seq
       (.reg [
         ⟨some 26, .bld [(.bool false), (.str []), (.int .i64 0)] [], none⟩,
         ⟨none, .st 3 (.t 2) (.t 26), none⟩,
         ⟨some 3, .mv (.c (.int .i64 2)), none⟩] [2, 3])
       .ret)
      .skip))
    (.seq
     (.reg [
       ⟨some 28, .mv (.t 7), none⟩,
       ⟨some 29, .call 110 [(.t 28)], none⟩,
       ⟨some 27, .mv (.t 29), none⟩,
       ⟨some 30, .ext (.t 27) 0, none⟩,
       ⟨some 31, .ext (.t 27) 1, none⟩,
       ⟨some 9, .mv (.t 30), none⟩,
       ⟨some 8, .mv (.t 31), none⟩] [2, 4, 5, 6, 8, 9])
     (.seq
      (.seq
       (.reg [
         ⟨some 32, .mv (.t 8), none⟩,
         ⟨some 33, .un .not (.t 32), none⟩] [2, 4, 5, 6, 9, 33])
       (.cnd (.t 33)
        (.seq
         (.reg [
           ⟨some 34, .bld [(.bool false), (.str []), (.int .i64 0)] [], none⟩,
           ⟨none, .st 3 (.t 2) (.t 34), none⟩,
           ⟨some 3, .mv (.c (.int .i64 5)), none⟩] [2, 3])
         .ret)
        .skip))
      (.seq
       (.reg [
         ⟨some 35, .mv (.t 5), none⟩,
         ⟨some 36, .mv (.t 6), none⟩,
         ⟨some 37, .bin .add none (.t 35) (.t 36), none⟩,
         ⟨some 38, .call 111 [(.t 37), (.c (.str [48]))], none⟩,
         ⟨some 10, .mv (.t 38), none⟩] [2, 4, 6, 9, 10])
       (.seq
        (.reg [
          ⟨some 39, .mv (.t 9), none⟩,
          ⟨some 40, .mv (.t 6), none⟩,
          ⟨some 41, .lenS (.t 40), none⟩,
          ⟨some 42, .bin .sub none (.t 39) (.t 41), none⟩,
          ⟨some 9, .mv (.t 42), none⟩] [2, 4, 9, 10])
        (.seq
         (.reg [
           ⟨some 43, .mv (.t 10), none⟩,
           ⟨some 44, .call 112 [(.t 43), (.c (.str [48]))], none⟩,
           ⟨some 11, .mv (.t 44), none⟩] [2, 4, 9, 10, 11])
         (.seq
          (.reg [
            ⟨some 45, .mv (.t 9), none⟩,
            ⟨some 46, .mv (.t 10), none⟩,
            ⟨some 47, .lenS (.t 46), none⟩,
            ⟨some 48, .mv (.t 11), none⟩,
            ⟨some 49, .lenS (.t 48), none⟩,
            ⟨some 50, .bin .sub none (.t 47) (.t 49), none⟩,
            ⟨some 51, .bin .add none (.t 45) (.t 50), none⟩,
            ⟨some 9, .mv (.t 51), none⟩] [2, 4, 9, 11])
          (.seq
           (.seq
            (.reg [
              ⟨some 52, .mv (.t 11), none⟩,
              ⟨some 53, .bin .eql (some .str) (.t 52) (.c (.str [])), none⟩] [2, 4, 9, 11, 53])
            (.cnd (.t 53)
             (.seq
              (.reg [
                ⟨some 54, .bld [(.bool false), (.str []), (.int .i64 0)] [], none⟩,
                ⟨none, .st 3 (.t 2) (.t 54), none⟩,
                ⟨some 3, .mv (.c (.int .i64 0)), none⟩] [2, 3])
              .ret)
             .skip))
           (.seq
            (.reg [
              ⟨some 55, .mv (.t 4), none⟩,
              ⟨some 56, .mv (.t 11), none⟩,
              ⟨some 57, .mv (.t 9), none⟩,
              ⟨some 58, .bld [(.bool false), (.str []), (.int .i64 0)] [(0, 1, (.t 55)), (1, 1, (.t 56)), (2, 1, (.t 57))], none⟩,
              ⟨none, .st 3 (.t 2) (.t 58), none⟩,
              ⟨some 3, .mv (.c (.int .i64 0)), none⟩] [2, 3])
            .ret)))))))))))),
[.cell 2 true 3, .tmp 3]⟩
theorem F87_ok : prepF Go.Proofs.Tryz.prog ⟨[2], [(0, [0, 2]), (1, [0, 2, 4, 5, 6, 7, 8]), (2, [0, 2, 4, 5, 6, 7, 21]), (3, [2, 3]), (4, [2, 4, 5, 6, 7, 25]), (5, [2, 3]), (6, [2, 4, 5, 6, 8, 9]), (7, [2, 4, 5, 6, 9, 33]), (8, [2, 3]), (9, [2, 4, 6, 9, 10]), (10, [2, 4, 9, 10]), (11, [2, 4, 9, 10, 11]), (12, [2, 4, 9, 11]), (13, [2, 4, 9, 11, 53]), (14, [2, 3]), (15, [2, 3])], []⟩ Go.Proofs.Tryz.f87 = some F87 := by kernel_rfl
theorem F87_fn : FnOK2 Go.Proofs.Tryz.prog 87 (.pl F87) := .pl Go.Proofs.Tryz.func87 (by kernel_rfl) F87_ok
/-- emend/num.Join -/
def F88 : DF := ⟨1,
(.seq
 (.reg [
   ⟨some 1, .bxL (.t 0), none⟩,
   ⟨some 2, .mv (.c (.str [])), none⟩,
   ⟨some 3, .mv (.c (.int .i64 0)), none⟩] [1])
 (.seq
  (.reg [
    ⟨some 6, .fa 1 (.t 1), none⟩,
    ⟨some 7, .ld false 1 (.t 6), none⟩,
    ⟨some 8, .lenS (.t 7), none⟩,
    ⟨some 4, .mv (.t 8), none⟩] [1, 4])
  (.seq
   (.blk 0
    (.seq
     (.seq
      (.reg [
        ⟨some 10, .fa 1 (.t 1), none⟩,
        ⟨some 11, .ld false 1 (.t 10), none⟩,
        ⟨some 12, .call 113 [(.t 11)], none⟩,
        ⟨some 13, .mv (.t 4), none⟩,
        ⟨some 14, .bin .lss none (.t 12) (.t 13), none⟩,
        ⟨some 9, .mv (.t 14), none⟩] [1, 4, 9])
      (.cnd (.t 9)
       .skip
       (.seq
        (.reg [
          ⟨some 15, .mv (.t 4), none⟩,
          ⟨some 16, .bin .gtr none (.t 15) (.c (.int .i64 0)), none⟩,
          ⟨some 17, .mv (.t 16), none⟩,
          ⟨some 18, .fa 1 (.t 1), some (17, true)⟩,
          ⟨some 19, .ld false 1 (.t 18), some (17, true)⟩,
          ⟨some 20, .ixS (.t 19) (.c (.int .i64 0)), some (17, true)⟩,
          ⟨some 21, .bin .eql (some .int) (.t 20) (.c (.int .u8 48)), some (17, true)⟩,
          ⟨some 22, .mv (.t 21), some (17, true)⟩,
          ⟨some 23, .fa 1 (.t 1), some (22, false)⟩,
          ⟨some 24, .ld false 1 (.t 23), some (22, false)⟩,
          ⟨some 25, .mv (.t 4), some (22, false)⟩,
          ⟨some 26, .bin .sub none (.t 25) (.c (.int .i64 1)), some (22, false)⟩,
          ⟨some 27, .ixS (.t 24) (.t 26), some (22, false)⟩,
          ⟨some 28, .bin .eql (some .int) (.t 27) (.c (.int .u8 48)), some (22, false)⟩,
          ⟨some 29, .pick (.t 22) (.c (.bool true)) (.t 28), some (17, true)⟩,
          ⟨some 30, .pick (.t 17) (.t 29) (.c (.bool false)), none⟩,
          ⟨some 9, .mv (.t 30), none⟩] [1, 4, 9])
        (.cnd (.t 9)
         .skip
         (.reg [
           ⟨some 31, .mv (.t 4), none⟩,
           ⟨some 32, .bin .eql (some .int) (.t 31) (.c (.int .i64 0)), none⟩,
           ⟨some 33, .mv (.t 32), none⟩,
           ⟨some 34, .fa 2 (.t 1), some (33, true)⟩,
           ⟨some 35, .ld false 1 (.t 34), some (33, true)⟩,
           ⟨some 36, .bin .neq (some .int) (.t 35) (.c (.int .i64 0)), some (33, true)⟩,
           ⟨some 37, .mv (.t 36), some (33, true)⟩,
           ⟨some 38, .fa 0 (.t 1), some (37, false)⟩,
           ⟨some 39, .ld false 1 (.t 38), some (37, false)⟩,
           ⟨some 40, .pick (.t 37) (.c (.bool true)) (.t 39), some (33, true)⟩,
           ⟨some 41, .pick (.t 33) (.t 40) (.c (.bool false)), none⟩,
           ⟨some 9, .mv (.t 41), none⟩] [1, 4, 9])))))
     (.cnd (.t 9)
      (.seq
       (.reg [
         ⟨some 2, .mv (.c (.str [])), none⟩,
         ⟨some 3, .mv (.c (.int .i64 1)), none⟩] [2, 3])
       .ret)
      (.seq
       (.reg [
         ⟨some 43, .fa 2 (.t 1), none⟩,
         ⟨some 44, .ld false 1 (.t 43), none⟩,
         ⟨some 45, .bin .lss none (.t 44) (.c (.int .i64 (-999999))), none⟩,
         ⟨some 46, .mv (.t 45), none⟩,
         ⟨some 47, .fa 2 (.t 1), some (46, false)⟩,
         ⟨some 48, .ld false 1 (.t 47), some (46, false)⟩,
         ⟨some 49, .bin .gtr none (.t 48) (.c (.int .i64 999999)), some (46, false)⟩,
         ⟨some 50, .pick (.t 46) (.c (.bool true)) (.t 49), none⟩,
         ⟨some 42, .mv (.t 50), none⟩] [1, 4, 42])
       (.cnd (.t 42)
        (.seq
         (.reg [
           ⟨some 2, .mv (.c (.str [])), none⟩,
           ⟨some 3, .mv (.c (.int .i64 5)), none⟩] [2, 3])
         .ret)
        (.seq
         (.reg [
           ⟨some 52, .mv (.t 4), none⟩,
           ⟨some 53, .bin .eql (some .int) (.t 52) (.c (.int .i64 0)), none⟩,
           ⟨some 51, .mv (.t 53), none⟩] [1, 51])
         (.cnd (.t 51)
          (.seq
           (.reg [
             ⟨some 2, .mv (.c (.str [48])), none⟩,
             ⟨some 3, .mv (.c (.int .i64 0)), none⟩] [2, 3])
           .ret)
          .skip)))))))
   (.seq
    (.reg [
      ⟨some 54, .fa 1 (.t 1), none⟩,
      ⟨some 55, .ld false 1 (.t 54), none⟩,
      ⟨some 5, .mv (.t 55), none⟩] [1, 5])
    (.seq
     (.seq
      (.reg [
        ⟨some 56, .fa 0 (.t 1), none⟩,
        ⟨some 57, .ld false 1 (.t 56), none⟩] [1, 5, 57])
      (.cnd (.t 57)
       (.reg [
         ⟨some 58, .mv (.t 5), none⟩,
         ⟨some 59, .bin .add none (.c (.str [45])) (.t 58), none⟩,
         ⟨some 5, .mv (.t 59), none⟩] [1, 5])
       .skip))
     (.seq
      (.seq
       (.reg [
         ⟨some 60, .fa 2 (.t 1), none⟩,
         ⟨some 61, .ld false 1 (.t 60), none⟩,
         ⟨some 62, .bin .neq (some .int) (.t 61) (.c (.int .i64 0)), none⟩] [1, 5, 62])
       (.cnd (.t 62)
        (.reg [
          ⟨some 63, .mv (.t 5), none⟩,
          ⟨some 64, .fa 2 (.t 1), none⟩,
          ⟨some 65, .ld false 1 (.t 64), none⟩,
          ⟨some 66, .call 114 [(.t 65)], none⟩,
          ⟨some 67, .bin .add none (.c (.str [101])) (.t 66), none⟩,
          ⟨some 68, .bin .add none (.t 63) (.t 67), none⟩,
          ⟨some 5, .mv (.t 68), none⟩] [5])
        .skip))
      (.seq
       (.seq
        (.reg [
          ⟨some 69, .mv (.t 5), none⟩,
          ⟨some 70, .lenS (.t 69), none⟩,
          ⟨some 71, .bin .gtr none (.t 70) (.c (.int .i64 1000)), none⟩] [5, 71])
        (.cnd (.t 71)
         (.seq
          (.reg [
            ⟨some 2, .mv (.c (.str [])), none⟩,
            ⟨some 3, .mv (.c (.int .i64 2)), none⟩] [2, 3])
          .ret)
         .skip))
       (.seq
        (.reg [
          ⟨some 72, .mv (.t 5), none⟩,
          ⟨some 2, .mv (.t 72), none⟩,
          ⟨some 3, .mv (.c (.int .i64 0)), none⟩] [2, 3])
        .ret)))))))),
[.tmp 2, .tmp 3]⟩
theorem F88_ok : prepF Go.Proofs.Tryz.prog ⟨[1], [(0, [1]), (1, [1, 4]), (2, [1, 4, 9]), (3, [1, 4, 9]), (4, [1, 4, 9]), (5, [2, 3]), (6, [1, 4, 42]), (7, [2, 3]), (8, [1, 51]), (9, [2, 3]), (10, [1, 5]), (11, [1, 5, 57]), (12, [1, 5]), (13, [1, 5, 62]), (14, [5]), (15, [5, 71]), (16, [2, 3]), (17, [2, 3])], []⟩ Go.Proofs.Tryz.f88 = some F88 := by kernel_rfl
theorem F88_fn : FnOK2 Go.Proofs.Tryz.prog 88 (.pl F88) := .pl Go.Proofs.Tryz.func88 (by kernel_rfl) F88_ok
/-- slices.SortStableFunc[[]int,int] -/
def F89 : DF := ⟨2,
(.reg [
  ⟨some 4, .mv (.t 0), none⟩,
  ⟨some 5, .mv (.t 0), none⟩,
  ⟨some 6, .len (.t 5), none⟩,
  ⟨some 7, .mv (.t 1), none⟩,
  ⟨some 8, .call 115 [(.t 4), (.t 6), (.t 7)], none⟩] []),
[]⟩
theorem F89_ok : prepF Go.Proofs.Tryz.prog ⟨[], [(0, [])], []⟩ Go.Proofs.Tryz.f89 = some F89 := by kernel_rfl
theorem F89_fn : FnOK2 Go.Proofs.Tryz.prog 89 (.pl F89) := .pl Go.Proofs.Tryz.func89 (by kernel_rfl) F89_ok
/-- emend/tree.order$1 -/
def F90 : DF := ⟨3,
(.seq
 (.reg [
   ⟨some 5, .mv (.c (.int .i64 0)), none⟩] [0, 1, 2])
 (.seq
  (.drw [
    ((⟨some 6, .ld false 1 (.t 2), none⟩, none), []),
    ((⟨some 7, .mv (.t 0), none⟩, none), []),
    ((⟨some 8, .ia 1 (.t 6) (.t 7), none⟩, none), []),
    ((⟨some 9, .ld false 1 (.t 8), none⟩, none), []),
    ((⟨some 10, .ld false 1 (.t 2), none⟩, none), []),
    ((⟨some 11, .mv (.t 1), none⟩, none), []),
    ((⟨some 12, .ia 1 (.t 10) (.t 11), none⟩, none), []),
    ((⟨some 13, .ld false 1 (.t 12), none⟩, none), []),
    ((⟨some 14, .call 91 [(.t 9), (.t 13)], none⟩, none), []),
    ((⟨some 5, .mv (.t 14), none⟩, none), [])] [5])
  .ret)),
[.tmp 5]⟩
theorem F90_ok : prepF Go.Proofs.Tryz.prog ⟨[], [(0, [0, 1, 2]), (1, [5])], []⟩ Go.Proofs.Tryz.f90 = some F90 := by kernel_rfl
theorem F90_fn : FnOK2 Go.Proofs.Tryz.prog 90 (.pl F90) := .pl Go.Proofs.Tryz.func90 (by kernel_rfl) F90_ok
/-- strings.Compare -/
def F91 : DF := ⟨2,
(.seq
 (.reg [
   ⟨some 4, .mv (.c (.int .i64 0)), none⟩] [0, 1])
 (.seq
  (.reg [
    ⟨some 5, .mv (.t 0), none⟩,
    ⟨some 6, .mv (.t 1), none⟩,
    ⟨some 7, .call 116 [(.t 5), (.t 6)], none⟩,
    ⟨some 4, .mv (.t 7), none⟩] [4])
  .ret)),
[.tmp 4]⟩
theorem F91_ok : prepF Go.Proofs.Tryz.prog ⟨[], [(0, [0, 1]), (1, [4])], []⟩ Go.Proofs.Tryz.f91 = some F91 := by kernel_rfl
theorem F91_fn : FnOK2 Go.Proofs.Tryz.prog 91 (.pl F91) := .pl Go.Proofs.Tryz.func91 (by kernel_rfl) F91_ok
/-- emend/text.row -/
def F99 : DF := ⟨1,
(.seq
 (.reg [
   ⟨some 2, .mv (.c (.int .i64 0)), none⟩,
   ⟨some 3, .mv (.c (.int .i64 0)), none⟩,
   ⟨some 4, .mv (.c (.int .i64 0)), none⟩] [0])
 (.seq
  (.blk 0
   (.seq
    (.reg [
      ⟨some 6, .mv (.t 0), none⟩,
      ⟨some 7, .bin .shr none (.t 6) (.c (.int .u64 7)), none⟩,
      ⟨some 8, .bin .eql (some .int) (.t 7) (.c (.int .u8 0)), none⟩,
      ⟨some 5, .mv (.t 8), none⟩] [0, 5])
    (.cnd (.t 5)
     (.seq
      (.reg [
        ⟨some 9, .mv (.t 0), none⟩,
        ⟨some 10, .cvI .i64 (.t 9), none⟩,
        ⟨some 2, .mv (.c (.int .i64 1)), none⟩,
        ⟨some 3, .mv (.t 10), none⟩,
        ⟨some 4, .mv (.c (.int .i64 0)), none⟩] [2, 3, 4])
      .ret)
     (.seq
      (.reg [
        ⟨some 12, .mv (.t 0), none⟩,
        ⟨some 13, .bin .shr none (.t 12) (.c (.int .u64 5)), none⟩,
        ⟨some 14, .bin .eql (some .int) (.t 13) (.c (.int .u8 6)), none⟩,
        ⟨some 11, .mv (.t 14), none⟩] [0, 11])
      (.cnd (.t 11)
       (.seq
        (.reg [
          ⟨some 15, .mv (.t 0), none⟩,
          ⟨some 16, .bin .and none (.t 15) (.c (.int .u8 31)), none⟩,
          ⟨some 17, .cvI .i64 (.t 16), none⟩,
          ⟨some 2, .mv (.c (.int .i64 2)), none⟩,
          ⟨some 3, .mv (.t 17), none⟩,
          ⟨some 4, .mv (.c (.int .i64 128)), none⟩] [2, 3, 4])
        .ret)
       (.seq
        (.reg [
          ⟨some 19, .mv (.t 0), none⟩,
          ⟨some 20, .bin .shr none (.t 19) (.c (.int .u64 4)), none⟩,
          ⟨some 21, .bin .eql (some .int) (.t 20) (.c (.int .u8 14)), none⟩,
          ⟨some 18, .mv (.t 21), none⟩] [0, 18])
        (.cnd (.t 18)
         (.seq
          (.reg [
            ⟨some 22, .mv (.t 0), none⟩,
            ⟨some 23, .bin .and none (.t 22) (.c (.int .u8 15)), none⟩,
            ⟨some 24, .cvI .i64 (.t 23), none⟩,
            ⟨some 2, .mv (.c (.int .i64 3)), none⟩,
            ⟨some 3, .mv (.t 24), none⟩,
            ⟨some 4, .mv (.c (.int .i64 2048)), none⟩] [2, 3, 4])
          .ret)
         (.seq
          (.reg [
            ⟨some 26, .mv (.t 0), none⟩,
            ⟨some 27, .bin .shr none (.t 26) (.c (.int .u64 3)), none⟩,
            ⟨some 28, .bin .eql (some .int) (.t 27) (.c (.int .u8 30)), none⟩,
            ⟨some 25, .mv (.t 28), none⟩] [0, 25])
          (.cnd (.t 25)
           (.seq
            (.reg [
              ⟨some 29, .mv (.t 0), none⟩,
              ⟨some 30, .bin .and none (.t 29) (.c (.int .u8 7)), none⟩,
              ⟨some 31, .cvI .i64 (.t 30), none⟩,
              ⟨some 2, .mv (.c (.int .i64 4)), none⟩,
              ⟨some 3, .mv (.t 31), none⟩,
              ⟨some 4, .mv (.c (.int .i64 65536)), none⟩] [2, 3, 4])
            .ret)
           .skip)))))))))
  (.seq
   (.reg [
     ⟨some 2, .mv (.c (.int .i64 0)), none⟩,
     ⟨some 3, .mv (.c (.int .i64 0)), none⟩,
     ⟨some 4, .mv (.c (.int .i64 0)), none⟩] [2, 3, 4])
   .ret))),
[.tmp 2, .tmp 3, .tmp 4]⟩
theorem F99_ok : prepF Go.Proofs.Tryz.prog ⟨[], [(0, [0]), (1, [0, 5]), (2, [2, 3, 4]), (3, [0, 11]), (4, [2, 3, 4]), (5, [0, 18]), (6, [2, 3, 4]), (7, [0, 25]), (8, [2, 3, 4]), (9, [2, 3, 4])], []⟩ Go.Proofs.Tryz.f99 = some F99 := by kernel_rfl
theorem F99_fn : FnOK2 Go.Proofs.Tryz.prog 99 (.pl F99) := .pl Go.Proofs.Tryz.func99 (by kernel_rfl) F99_ok
/-- emend/text.character -/
def F100 : DF := ⟨1,
(.seq
 (.reg [
   ⟨some 2, .mv (.c (.bool false)), none⟩] [0])
 (.seq
  (.reg [
    ⟨some 3, .mv (.t 0), none⟩,
    ⟨some 4, .bin .geq none (.t 3) (.c (.int .i64 0)), none⟩,
    ⟨some 5, .mv (.t 4), none⟩,
    ⟨some 6, .mv (.t 0), some (5, true)⟩,
    ⟨some 7, .bin .leq none (.t 6) (.c (.int .i64 1114111)), some (5, true)⟩,
    ⟨some 8, .pick (.t 5) (.t 7) (.c (.bool false)), none⟩,
    ⟨some 9, .mv (.t 8), none⟩,
    ⟨some 10, .mv (.t 0), some (9, true)⟩,
    ⟨some 11, .bin .lss none (.t 10) (.c (.int .i64 55296)), some (9, true)⟩,
    ⟨some 12, .mv (.t 11), some (9, true)⟩,
    ⟨some 13, .mv (.t 0), some (12, false)⟩,
    ⟨some 14, .bin .gtr none (.t 13) (.c (.int .i64 57343)), some (12, false)⟩,
    ⟨some 15, .pick (.t 12) (.c (.bool true)) (.t 14), some (9, true)⟩,
    ⟨some 16, .pick (.t 9) (.t 15) (.c (.bool false)), none⟩,
    ⟨some 2, .mv (.t 16), none⟩] [2])
  .ret)),
[.tmp 2]⟩
theorem F100_ok : prepF Go.Proofs.Tryz.prog ⟨[], [(0, [0]), (1, [2])], []⟩ Go.Proofs.Tryz.f100 = some F100 := by kernel_rfl
theorem F100_fn : FnOK2 Go.Proofs.Tryz.prog 100 (.pl F100) := .pl Go.Proofs.Tryz.func100 (by kernel_rfl) F100_ok
/-- emend/text.Escaped -/
def F101 : DF := ⟨1,
(.seq
 (.reg [
   ⟨some 2, .mv (.c (.int .i64 0)), none⟩,
   ⟨some 3, .mv (.c (.int .i64 0)), none⟩] [0])
 (.seq
  (.seq
   (.reg [
     ⟨some 4, .mv (.t 0), none⟩,
     ⟨some 5, .bin .eql (some .str) (.t 4) (.c (.str [])), none⟩] [0, 5])
   (.cnd (.t 5)
    (.seq
     (.reg [
       ⟨some 2, .mv (.c (.int .i64 0)), none⟩,
       ⟨some 3, .mv (.c (.int .i64 0)), none⟩] [2, 3])
     .ret)
    .skip))
  (.seq
   (.seq
    (.reg [
      ⟨some 6, .mv (.t 0), none⟩,
      ⟨some 7, .ixS (.t 6) (.c (.int .i64 0)), none⟩] [0, 7])
    (.blk 0
     (.seq
      (.seq
       (.reg [
         ⟨some 9, .bin .eql (some .int) (.t 7) (.c (.int .u8 34)), none⟩,
         ⟨some 8, .mv (.t 9), none⟩] [0, 7, 8])
       (.cnd (.t 8)
        .skip
        (.seq
         (.reg [
           ⟨some 10, .bin .eql (some .int) (.t 7) (.c (.int .u8 92)), none⟩,
           ⟨some 8, .mv (.t 10), none⟩] [0, 7, 8])
         (.cnd (.t 8)
          .skip
          (.reg [
            ⟨some 11, .bin .eql (some .int) (.t 7) (.c (.int .u8 47)), none⟩,
            ⟨some 8, .mv (.t 11), none⟩] [0, 7, 8])))))
      (.cnd (.t 8)
       (.seq
        (.reg [
          ⟨some 12, .mv (.t 0), none⟩,
          ⟨some 13, .ixS (.t 12) (.c (.int .i64 0)), none⟩,
          ⟨some 14, .cvI .i64 (.t 13), none⟩,
          ⟨some 2, .mv (.t 14), none⟩,
          ⟨some 3, .mv (.c (.int .i64 1)), none⟩] [2, 3])
        .ret)
       (.seq
        (.reg [
          ⟨some 16, .bin .eql (some .int) (.t 7) (.c (.int .u8 98)), none⟩,
          ⟨some 15, .mv (.t 16), none⟩] [0, 7, 15])
        (.cnd (.t 15)
         (.seq
          (.reg [
            ⟨some 2, .mv (.c (.int .i64 8)), none⟩,
            ⟨some 3, .mv (.c (.int .i64 1)), none⟩] [2, 3])
          .ret)
         (.seq
          (.reg [
            ⟨some 18, .bin .eql (some .int) (.t 7) (.c (.int .u8 116)), none⟩,
            ⟨some 17, .mv (.t 18), none⟩] [0, 7, 17])
          (.cnd (.t 17)
           (.seq
            (.reg [
              ⟨some 2, .mv (.c (.int .i64 9)), none⟩,
              ⟨some 3, .mv (.c (.int .i64 1)), none⟩] [2, 3])
            .ret)
           (.seq
            (.reg [
              ⟨some 20, .bin .eql (some .int) (.t 7) (.c (.int .u8 110)), none⟩,
              ⟨some 19, .mv (.t 20), none⟩] [0, 7, 19])
            (.cnd (.t 19)
             (.seq
              (.reg [
                ⟨some 2, .mv (.c (.int .i64 10)), none⟩,
                ⟨some 3, .mv (.c (.int .i64 1)), none⟩] [2, 3])
              .ret)
             (.seq
              (.reg [
                ⟨some 22, .bin .eql (some .int) (.t 7) (.c (.int .u8 102)), none⟩,
                ⟨some 21, .mv (.t 22), none⟩] [0, 7, 21])
              (.cnd (.t 21)
               (.seq
                (.reg [
                  ⟨some 2, .mv (.c (.int .i64 12)), none⟩,
                  ⟨some 3, .mv (.c (.int .i64 1)), none⟩] [2, 3])
                .ret)
               (.seq
                (.reg [
                  ⟨some 24, .bin .eql (some .int) (.t 7) (.c (.int .u8 114)), none⟩,
                  ⟨some 23, .mv (.t 24), none⟩] [0, 7, 23])
                (.cnd (.t 23)
                 (.seq
                  (.reg [
                    ⟨some 2, .mv (.c (.int .i64 13)), none⟩,
                    ⟨some 3, .mv (.c (.int .i64 1)), none⟩] [2, 3])
                  .ret)
                 (.seq
                  (.reg [
                    ⟨some 26, .bin .eql (some .int) (.t 7) (.c (.int .u8 117)), none⟩,
                    ⟨some 25, .mv (.t 26), none⟩] [0, 25])
                  (.cnd (.t 25)
                   (.seq
                    (.reg [
                      ⟨some 27, .mv (.t 0), none⟩,
                      ⟨some 28, .call 121 [(.t 27)], none⟩,
                      ⟨some 29, .ext (.t 28) 0, none⟩,
                      ⟨some 30, .ext (.t 28) 1, none⟩,
                      ⟨some 2, .mv (.t 29), none⟩,
                      ⟨some 3, .mv (.t 30), none⟩] [2, 3])
                    .ret)
                   .skip))))))))))))))))
   (.seq
    (.reg [
      ⟨some 2, .mv (.c (.int .i64 0)), none⟩,
      ⟨some 3, .mv (.c (.int .i64 0)), none⟩] [2, 3])
    .ret)))),
[.tmp 2, .tmp 3]⟩
theorem F101_ok : prepF Go.Proofs.Tryz.prog ⟨[], [(0, [0]), (1, [0, 5]), (2, [2, 3]), (3, [0, 7]), (4, [0, 7, 8]), (5, [0, 7, 8]), (6, [0, 7, 8]), (7, [2, 3]), (8, [0, 7, 15]), (9, [2, 3]), (10, [0, 7, 17]), (11, [2, 3]), (12, [0, 7, 19]), (13, [2, 3]), (14, [0, 7, 21]), (15, [2, 3]), (16, [0, 7, 23]), (17, [2, 3]), (18, [0, 25]), (19, [2, 3]), (20, [2, 3])], []⟩ Go.Proofs.Tryz.f101 = some F101 := by kernel_rfl
theorem F101_fn : FnOK2 Go.Proofs.Tryz.prog 101 (.pl F101) := .pl Go.Proofs.Tryz.func101 (by kernel_rfl) F101_ok
/-- emend/text.put -/
def F102 : DF := ⟨2,
(.seq
 (.reg [
   ⟨some 3, .bxH 3 (.t 1), none⟩,
   ⟨some 4, .mv (.c (.sl 1 ⟨none, 0, (some 0), true⟩ [])), none⟩] [0, 3])
 (.seq
  (.reg [
    ⟨some 6, .mkf 122 [] [(.t 3)], none⟩,
    ⟨some 5, .mv (.t 6), none⟩] [0, 3, 5])
  (.seq
   (.blk 0
    (.seq
     (.reg [
       ⟨some 8, .ld false 1 (.t 3), none⟩,
       ⟨some 9, .bin .lss none (.t 8) (.c (.int .i64 128)), none⟩,
       ⟨some 7, .mv (.t 9), none⟩] [0, 3, 5, 7])
     (.cnd (.t 7)
      (.seq
       (.reg [
         ⟨some 10, .mv (.t 0), none⟩,
         ⟨some 11, .ld false 1 (.t 3), none⟩,
         ⟨some 12, .cvI .u8 (.t 11), none⟩,
         ⟨some 13, .bldT 5 1 1 (.int .u8 0) [(0, (.t 12))], none⟩,
         ⟨some 14, .app false 5 1 1 (.t 10) (.t 13), none⟩,
         ⟨some 4, .mv (.t 14), none⟩] [4])
       .ret)
      (.seq
       (.reg [
         ⟨some 16, .ld false 1 (.t 3), none⟩,
         ⟨some 17, .bin .lss none (.t 16) (.c (.int .i64 2048)), none⟩,
         ⟨some 15, .mv (.t 17), none⟩] [0, 3, 5, 15])
       (.cnd (.t 15)
        (.seq
         (.drw [
           ((⟨some 18, .mv (.t 0), none⟩, none), []),
           ((⟨some 19, .ld false 1 (.t 3), none⟩, none), []),
           ((⟨some 20, .bin .shr none (.t 19) (.c (.int .u64 6)), none⟩, none), []),
           ((⟨some 21, .bin .or none (.c (.int .i64 192)) (.t 20), none⟩, none), []),
           ((⟨some 22, .cvI .u8 (.t 21), none⟩, none), []),
           ((⟨some 23, .mv (.t 5), none⟩, none), []),
           ((⟨some 24, .callv (.t 23) [(.c (.int .i64 0))], none⟩, none), [(⟨some 19, .ld false 1 (.t 3), none⟩, none)]),
           ((⟨some 25, .bldS 1 2 (.int .u8 0) [(0, (.t 22)), (1, (.t 24))], none⟩, none), []),
           ((⟨some 26, .app false 5 1 1 (.t 18) (.t 25), none⟩, none), []),
           ((⟨some 4, .mv (.t 26), none⟩, none), [])] [4])
         .ret)
        (.seq
         (.reg [
           ⟨some 28, .ld false 1 (.t 3), none⟩,
           ⟨some 29, .bin .lss none (.t 28) (.c (.int .i64 65536)), none⟩,
           ⟨some 27, .mv (.t 29), none⟩] [0, 3, 5, 27])
         (.cnd (.t 27)
          (.seq
           (.drw [
             ((⟨some 30, .mv (.t 0), none⟩, none), []),
             ((⟨some 31, .ld false 1 (.t 3), none⟩, none), []),
             ((⟨some 32, .bin .shr none (.t 31) (.c (.int .u64 12)), none⟩, none), []),
             ((⟨some 33, .bin .or none (.c (.int .i64 224)) (.t 32), none⟩, none), []),
             ((⟨some 34, .cvI .u8 (.t 33), none⟩, none), []),
             ((⟨some 35, .mv (.t 5), none⟩, none), []),
             ((⟨some 37, .mv (.t 5), none⟩, none), []),
             ((⟨some 36, .callv (.t 35) [(.c (.int .i64 6))], none⟩, none), [(⟨some 31, .ld false 1 (.t 3), none⟩, none)]),
             ((⟨some 38, .callv (.t 37) [(.c (.int .i64 0))], none⟩, none), [(⟨some 31, .ld false 1 (.t 3), none⟩, none)]),
             ((⟨some 39, .bldS 1 3 (.int .u8 0) [(0, (.t 34)), (1, (.t 36)), (2, (.t 38))], none⟩, none), []),
             ((⟨some 40, .app false 5 1 1 (.t 30) (.t 39), none⟩, none), []),
             ((⟨some 4, .mv (.t 40), none⟩, none), [])] [4])
           .ret)
          .skip)))))))
   (.seq
    (.drw [
      ((⟨some 41, .mv (.t 0), none⟩, none), []),
      ((⟨some 42, .ld false 1 (.t 3), none⟩, none), []),
      ((⟨some 43, .bin .shr none (.t 42) (.c (.int .u64 18)), none⟩, none), []),
      ((⟨some 44, .bin .or none (.c (.int .i64 240)) (.t 43), none⟩, none), []),
      ((⟨some 45, .cvI .u8 (.t 44), none⟩, none), []),
      ((⟨some 46, .mv (.t 5), none⟩, none), []),
      ((⟨some 48, .mv (.t 5), none⟩, none), []),
      ((⟨some 50, .mv (.t 5), none⟩, none), []),
      ((⟨some 47, .callv (.t 46) [(.c (.int .i64 12))], none⟩, none), [(⟨some 42, .ld false 1 (.t 3), none⟩, none)]),
      ((⟨some 49, .callv (.t 48) [(.c (.int .i64 6))], none⟩, none), [(⟨some 42, .ld false 1 (.t 3), none⟩, none)]),
      ((⟨some 51, .callv (.t 50) [(.c (.int .i64 0))], none⟩, none), [(⟨some 42, .ld false 1 (.t 3), none⟩, none)]),
      ((⟨some 52, .bldS 1 4 (.int .u8 0) [(0, (.t 45)), (1, (.t 47)), (2, (.t 49)), (3, (.t 51))], none⟩, none), []),
      ((⟨some 53, .app false 5 1 1 (.t 41) (.t 52), none⟩, none), []),
      ((⟨some 4, .mv (.t 53), none⟩, none), [])] [4])
    .ret)))),
[.tmp 4]⟩
theorem F102_ok : prepF Go.Proofs.Tryz.prog ⟨[], [(0, [0, 3]), (1, [0, 3, 5]), (2, [0, 3, 5, 7]), (3, [4]), (4, [0, 3, 5, 15]), (5, [4]), (6, [0, 3, 5, 27]), (7, [4]), (8, [4])], []⟩ Go.Proofs.Tryz.f102 = some F102 := by kernel_rfl
theorem F102_fn : FnOK2 Go.Proofs.Tryz.prog 102 (.pl F102) := .pl Go.Proofs.Tryz.func102 (by kernel_rfl) F102_ok
/-- emend/tree.two -/
def F103 : DF := ⟨1,
(.seq
 (.reg [
   ⟨some 2, .mv (.c (.int .i64 0)), none⟩] [0])
 (.seq
  (.seq
   (.reg [
     ⟨some 3, .mv (.t 0), none⟩,
     ⟨some 4, .lenS (.t 3), none⟩,
     ⟨some 5, .bin .neq (some .int) (.t 4) (.c (.int .i64 2)), none⟩,
     ⟨some 6, .mv (.t 5), none⟩,
     ⟨some 7, .mv (.t 0), some (6, false)⟩,
     ⟨some 8, .ixS (.t 7) (.c (.int .i64 0)), some (6, false)⟩,
     ⟨some 9, .bin .lss none (.t 8) (.c (.int .u8 48)), some (6, false)⟩,
     ⟨some 10, .pick (.t 6) (.c (.bool true)) (.t 9), none⟩,
     ⟨some 11, .mv (.t 10), none⟩,
     ⟨some 12, .mv (.t 0), some (11, false)⟩,
     ⟨some 13, .ixS (.t 12) (.c (.int .i64 0)), some (11, false)⟩,
     ⟨some 14, .bin .gtr none (.t 13) (.c (.int .u8 57)), some (11, false)⟩,
     ⟨some 15, .pick (.t 11) (.c (.bool true)) (.t 14), none⟩,
     ⟨some 16, .mv (.t 15), none⟩,
     ⟨some 17, .mv (.t 0), some (16, false)⟩,
     ⟨some 18, .ixS (.t 17) (.c (.int .i64 1)), some (16, false)⟩,
     ⟨some 19, .bin .lss none (.t 18) (.c (.int .u8 48)), some (16, false)⟩,
     ⟨some 20, .pick (.t 16) (.c (.bool true)) (.t 19), none⟩,
     ⟨some 21, .mv (.t 20), none⟩,
     ⟨some 22, .mv (.t 0), some (21, false)⟩,
     ⟨some 23, .ixS (.t 22) (.c (.int .i64 1)), some (21, false)⟩,
     ⟨some 24, .bin .gtr none (.t 23) (.c (.int .u8 57)), some (21, false)⟩,
     ⟨some 25, .pick (.t 21) (.c (.bool true)) (.t 24), none⟩] [0, 25])
   (.cnd (.t 25)
    (.seq
     (.reg [
       ⟨some 2, .mv (.c (.int .i64 (-1))), none⟩] [2])
     .ret)
    .skip))
  (.seq
   (.drw [
     ((⟨some 26, .mv (.t 0), none⟩, none), []),
     ((⟨some 27, .ixS (.t 26) (.c (.int .i64 0)), none⟩, none), []),
     ((⟨some 28, .bin .sub none (.t 27) (.c (.int .u8 48)), none⟩, none), []),
     ((⟨some 29, .cvI .i64 (.t 28), none⟩, none), []),
     ((⟨some 30, .bin .mul none (.t 29) (.c (.int .i64 10)), none⟩, none), []),
     ((⟨some 31, .mv (.t 0), none⟩, none), []),
     ((⟨some 32, .ixS (.t 31) (.c (.int .i64 1)), none⟩, none), []),
     ((⟨some 33, .bin .sub none (.t 32) (.c (.int .u8 48)), none⟩, none), []),
     ((⟨some 34, .cvI .i64 (.t 33), none⟩, none), []),
     ((⟨some 35, .bin .add none (.t 30) (.t 34), none⟩, none), []),
     ((⟨some 2, .mv (.t 35), none⟩, none), [])] [2])
   .ret))),
[.tmp 2]⟩
theorem F103_ok : prepF Go.Proofs.Tryz.prog ⟨[], [(0, [0]), (1, [0, 25]), (2, [2]), (3, [2])], []⟩ Go.Proofs.Tryz.f103 = some F103 := by kernel_rfl
theorem F103_fn : FnOK2 Go.Proofs.Tryz.prog 103 (.pl F103) := .pl Go.Proofs.Tryz.func103 (by kernel_rfl) F103_ok
/-- emend/tree.within -/
def F104 : DF := ⟨3,
(.seq
 (.reg [
   ⟨some 6, .mv (.c (.bool false)), none⟩] [0, 1, 2])
 (.seq
  (.reg [
    ⟨some 7, .mv (.t 0), none⟩,
    ⟨some 8, .call 103 [(.t 7)], none⟩,
    ⟨some 9, .mv (.t 1), none⟩,
    ⟨some 10, .bin .geq none (.t 8) (.t 9), none⟩,
    ⟨some 11, .mv (.t 10), none⟩,
    ⟨some 12, .mv (.t 0), some (11, true)⟩,
    ⟨some 13, .call 103 [(.t 12)], some (11, true)⟩,
    ⟨some 14, .mv (.t 2), some (11, true)⟩,
    ⟨some 15, .bin .leq none (.t 13) (.t 14), some (11, true)⟩,
    ⟨some 16, .pick (.t 11) (.t 15) (.c (.bool false)), none⟩,
    ⟨some 6, .mv (.t 16), none⟩] [6])
  .ret)),
[.tmp 6]⟩
theorem F104_ok : prepF Go.Proofs.Tryz.prog ⟨[], [(0, [0, 1, 2]), (1, [6])], []⟩ Go.Proofs.Tryz.f104 = some F104 := by kernel_rfl
theorem F104_fn : FnOK2 Go.Proofs.Tryz.prog 104 (.pl F104) := .pl Go.Proofs.Tryz.func104 (by kernel_rfl) F104_ok
/-- emend/tree.days -/
def F105 : DF := ⟨2,
(.seq
 (.reg [
   ⟨some 4, .mv (.c (.int .i64 0)), none⟩] [0, 1])
 (.seq
  (.seq
   (.reg [
     ⟨some 5, .mv (.t 1), none⟩] [0, 5])
   (.blk 0
    (.seq
     (.seq
      (.reg [
        ⟨some 7, .bin .eql (some .int) (.t 5) (.c (.int .i64 4)), none⟩,
        ⟨some 6, .mv (.t 7), none⟩] [0, 5, 6])
      (.cnd (.t 6)
       .skip
       (.seq
        (.reg [
          ⟨some 8, .bin .eql (some .int) (.t 5) (.c (.int .i64 6)), none⟩,
          ⟨some 6, .mv (.t 8), none⟩] [0, 5, 6])
        (.cnd (.t 6)
         .skip
         (.seq
          (.reg [
            ⟨some 9, .bin .eql (some .int) (.t 5) (.c (.int .i64 9)), none⟩,
            ⟨some 6, .mv (.t 9), none⟩] [0, 5, 6])
          (.cnd (.t 6)
           .skip
           (.reg [
             ⟨some 10, .bin .eql (some .int) (.t 5) (.c (.int .i64 11)), none⟩,
             ⟨some 6, .mv (.t 10), none⟩] [0, 5, 6])))))))
     (.cnd (.t 6)
      (.seq
       (.reg [
         ⟨some 4, .mv (.c (.int .i64 30)), none⟩] [4])
       .ret)
      (.seq
       (.reg [
         ⟨some 12, .bin .eql (some .int) (.t 5) (.c (.int .i64 2)), none⟩,
         ⟨some 11, .mv (.t 12), none⟩] [0, 11])
       (.cnd (.t 11)
        (.seq
         (.seq
          (.reg [
            ⟨some 13, .mv (.t 0), none⟩,
            ⟨some 14, .bin .rem none (.t 13) (.c (.int .i64 4)), none⟩,
            ⟨some 15, .bin .eql (some .int) (.t 14) (.c (.int .i64 0)), none⟩,
            ⟨some 16, .mv (.t 15), none⟩,
            ⟨some 17, .mv (.t 0), some (16, true)⟩,
            ⟨some 18, .bin .rem none (.t 17) (.c (.int .i64 100)), some (16, true)⟩,
            ⟨some 19, .bin .neq (some .int) (.t 18) (.c (.int .i64 0)), some (16, true)⟩,
            ⟨some 20, .mv (.t 19), some (16, true)⟩,
            ⟨some 21, .mv (.t 0), some (20, false)⟩,
            ⟨some 22, .bin .rem none (.t 21) (.c (.int .i64 400)), some (20, false)⟩,
            ⟨some 23, .bin .eql (some .int) (.t 22) (.c (.int .i64 0)), some (20, false)⟩,
            ⟨some 24, .pick (.t 20) (.c (.bool true)) (.t 23), some (16, true)⟩,
            ⟨some 25, .pick (.t 16) (.t 24) (.c (.bool false)), none⟩] [25])
          (.cnd (.t 25)
           (.seq
            (.reg [
              ⟨some 4, .mv (.c (.int .i64 29)), none⟩] [4])
            .ret)
           .skip))
         (.seq
          (.reg [
            ⟨some 4, .mv (.c (.int .i64 28)), none⟩] [4])
          .ret))
        .skip))))))
  (.seq
   (.reg [
     ⟨some 4, .mv (.c (.int .i64 31)), none⟩] [4])
   .ret))),
[.tmp 4]⟩
theorem F105_ok : prepF Go.Proofs.Tryz.prog ⟨[], [(0, [0, 1]), (1, [0, 5]), (2, [0, 5, 6]), (3, [0, 5, 6]), (4, [0, 5, 6]), (5, [0, 5, 6]), (6, [4]), (7, [0, 11]), (8, [25]), (9, [4]), (10, [4]), (11, [4])], []⟩ Go.Proofs.Tryz.f105 = some F105 := by kernel_rfl
theorem F105_fn : FnOK2 Go.Proofs.Tryz.prog 105 (.pl F105) := .pl Go.Proofs.Tryz.func105 (by kernel_rfl) F105_ok
/-- strings.Trim -/
def F106 : DF := ⟨2,
(.seq
 (.reg [
   ⟨some 4, .mv (.c (.str [])), none⟩] [0, 1])
 (.seq
  (.seq
   (.reg [
     ⟨some 7, .mv (.t 0), none⟩,
     ⟨some 8, .bin .eql (some .str) (.t 7) (.c (.str [])), none⟩,
     ⟨some 9, .mv (.t 8), none⟩,
     ⟨some 10, .mv (.t 1), some (9, false)⟩,
     ⟨some 11, .bin .eql (some .str) (.t 10) (.c (.str [])), some (9, false)⟩,
     ⟨some 12, .pick (.t 9) (.c (.bool true)) (.t 11), none⟩] [0, 1, 12])
   (.cnd (.t 12)
    (.seq
     (.reg [
       ⟨some 13, .mv (.t 0), none⟩,
       ⟨some 4, .mv (.t 13), none⟩] [4])
     .ret)
    .skip))
  (.seq
   (.seq
    (.reg [
      ⟨some 14, .mv (.t 1), none⟩,
      ⟨some 15, .lenS (.t 14), none⟩,
      ⟨some 16, .bin .eql (some .int) (.t 15) (.c (.int .i64 1)), none⟩,
      ⟨some 17, .mv (.t 16), none⟩,
      ⟨some 18, .mv (.t 1), some (17, true)⟩,
      ⟨some 19, .ixS (.t 18) (.c (.int .i64 0)), some (17, true)⟩,
      ⟨some 20, .bin .lss none (.t 19) (.c (.int .u8 128)), some (17, true)⟩,
      ⟨some 21, .pick (.t 17) (.t 20) (.c (.bool false)), none⟩] [0, 1, 21])
    (.cnd (.t 21)
     (.seq
      (.drw [
        ((⟨some 22, .mv (.t 0), none⟩, none), []),
        ((⟨some 23, .mv (.t 1), none⟩, none), []),
        ((⟨some 24, .ixS (.t 23) (.c (.int .i64 0)), none⟩, none), []),
        ((⟨some 26, .mv (.t 1), none⟩, none), []),
        ((⟨some 27, .ixS (.t 26) (.c (.int .i64 0)), none⟩, none), []),
        ((⟨some 25, .call 124 [(.t 22), (.t 24)], none⟩, none), []),
        ((⟨some 28, .call 123 [(.t 25), (.t 27)], none⟩, none), []),
        ((⟨some 4, .mv (.t 28), none⟩, none), [])] [4])
      .ret)
     .skip))
   (.seq
    (.seq
     (.reg [
       ⟨some 30, .mv (.t 1), none⟩,
       ⟨some 31, .call 125 [(.t 30)], none⟩,
       ⟨some 29, .mv (.t 31), none⟩,
       ⟨some 32, .ext (.t 29) 0, none⟩,
       ⟨some 33, .ext (.t 29) 1, none⟩,
       ⟨some 5, .alH 157 [(.bool false), (.bool false), (.bool false), (.bool false), (.bool false), (.bool false), (.bool false), (.bool false), (.bool false), (.bool false), (.bool false), (.bool false), (.bool false), (.bool false), (.bool false), (.bool false), (.bool false), (.bool false), (.bool false), (.bool false), (.bool false), (.bool false), (.bool false), (.bool false), (.bool false), (.bool false), (.bool false), (.bool false), (.bool false), (.bool false), (.bool false), (.bool false), (.bool false), (.bool false), (.bool false), (.bool false), (.bool false), (.bool false), (.bool false), (.bool false), (.bool false), (.bool false), (.bool false), (.bool false), (.bool false), (.bool false), (.bool false), (.bool false), (.bool false), (.bool false), (.bool false), (.bool false), (.bool false), (.bool false), (.bool false), (.bool false), (.bool false), (.bool false), (.bool false), (.bool false), (.bool false), (.bool false), (.bool false), (.bool false), (.bool false), (.bool false), (.bool false), (.bool false), (.bool false), (.bool false), (.bool false), (.bool false), (.bool false), (.bool false), (.bool false), (.bool false), (.bool false), (.bool false), (.bool false), (.bool false), (.bool false), (.bool false), (.bool false), (.bool false), (.bool false), (.bool false), (.bool false), (.bool false), (.bool false), (.bool false), (.bool false), (.bool false), (.bool false), (.bool false), (.bool false), (.bool false), (.bool false), (.bool false), (.bool false), (.bool false), (.bool false), (.bool false), (.bool false), (.bool false), (.bool false), (.bool false), (.bool false), (.bool false), (.bool false), (.bool false), (.bool false), (.bool false), (.bool false), (.bool false), (.bool false), (.bool false), (.bool false), (.bool false), (.bool false), (.bool false), (.bool false), (.bool false), (.bool false), (.bool false), (.bool false), (.bool false), (.bool false), (.bool false), (.bool false), (.bool false), (.bool false), (.bool false), (.bool false), (.bool false), (.bool false), (.bool false), (.bool false), (.bool false), (.bool false), (.bool false), (.bool false), (.bool false), (.bool false), (.bool false), (.bool false), (.bool false), (.bool false), (.bool false), (.bool false), (.bool false), (.bool false), (.bool false), (.bool false), (.bool false), (.bool false), (.bool false), (.bool false), (.bool false), (.bool false), (.bool false), (.bool false), (.bool false), (.bool false), (.bool false), (.bool false), (.bool false), (.bool false), (.bool false), (.bool false), (.bool false), (.bool false), (.bool false), (.bool false), (.bool false), (.bool false), (.bool false), (.bool false), (.bool false), (.bool false), (.bool false), (.bool false), (.bool false), (.bool false), (.bool false), (.bool false), (.bool false), (.bool false), (.bool false), (.bool false), (.bool false), (.bool false), (.bool false), (.bool false), (.bool false), (.bool false), (.bool false), (.bool false), (.bool false), (.bool false), (.bool false), (.bool false), (.bool false), (.bool false), (.bool false), (.bool false), (.bool false), (.bool false), (.bool false), (.bool false), (.bool false), (.bool false), (.bool false), (.bool false), (.bool false), (.bool false), (.bool false), (.bool false), (.bool false), (.bool false), (.bool false), (.bool false), (.bool false), (.bool false), (.bool false), (.bool false), (.bool false), (.bool false), (.bool false), (.bool false), (.bool false), (.bool false), (.bool false), (.bool false), (.bool false), (.bool false), (.bool false), (.bool false), (.bool false), (.bool false), (.bool false), (.bool false), (.bool false), (.bool false), (.bool false), (.bool false), (.bool false), (.bool false), (.bool false), (.bool false), (.bool false), (.bool false), (.bool false), (.bool false), (.bool false), (.bool false), (.bool false)], none⟩,
       ⟨none, .st 256 (.t 5) (.t 32), none⟩,
       ⟨some 6, .mv (.t 33), none⟩] [0, 1, 5, 6])
     (.seq
      (.reg [
        ⟨some 34, .mv (.t 6), none⟩] [0, 1, 5, 34])
      (.cnd (.t 34)
       (.seq
        (.reg [
          ⟨some 35, .mv (.t 0), none⟩,
          ⟨some 36, .call 127 [(.t 35), (.t 5)], none⟩,
          ⟨some 37, .call 126 [(.t 36), (.t 5)], none⟩,
          ⟨some 4, .mv (.t 37), none⟩] [4])
        .ret)
       .skip)))
    (.seq
     (.reg [
       ⟨some 38, .mv (.t 0), none⟩,
       ⟨some 39, .mv (.t 1), none⟩,
       ⟨some 40, .call 129 [(.t 38), (.t 39)], none⟩,
       ⟨some 41, .mv (.t 1), none⟩,
       ⟨some 42, .call 128 [(.t 40), (.t 41)], none⟩,
       ⟨some 4, .mv (.t 42), none⟩] [4])
     .ret))))),
[.tmp 4]⟩
theorem F106_ok : prepF Go.Proofs.Tryz.prog ⟨[], [(0, [0, 1]), (1, [0, 1, 12]), (2, [4]), (3, [0, 1, 21]), (4, [4]), (5, [0, 1, 5, 6]), (6, [0, 1, 5, 34]), (7, [4]), (8, [4])], []⟩ Go.Proofs.Tryz.f106 = some F106 := by kernel_rfl
theorem F106_fn : FnOK2 Go.Proofs.Tryz.prog 106 (.pl F106) := .pl Go.Proofs.Tryz.func106 (by kernel_rfl) F106_ok
/-- strings.HasSuffix -/
def F107 : DF := ⟨2,
(.seq
 (.reg [
   ⟨some 4, .mv (.c (.bool false)), none⟩] [0, 1])
 (.seq
  (.reg [
    ⟨some 5, .mv (.t 0), none⟩,
    ⟨some 6, .mv (.t 1), none⟩,
    ⟨some 7, .call 130 [(.t 5), (.t 6)], none⟩,
    ⟨some 4, .mv (.t 7), none⟩] [4])
  .ret)),
[.tmp 4]⟩
theorem F107_ok : prepF Go.Proofs.Tryz.prog ⟨[], [(0, [0, 1]), (1, [4])], []⟩ Go.Proofs.Tryz.f107 = some F107 := by kernel_rfl
theorem F107_fn : FnOK2 Go.Proofs.Tryz.prog 107 (.pl F107) := .pl Go.Proofs.Tryz.func107 (by kernel_rfl) F107_ok
/-- internal/stringslite.Cut -/
def F108 : DF := ⟨2,
(.seq
 (.reg [
   ⟨some 4, .mv (.c (.str [])), none⟩,
   ⟨some 5, .mv (.c (.str [])), none⟩,
   ⟨some 6, .mv (.c (.bool false)), none⟩] [0, 1])
 (.seq
  (.seq
   (.reg [
     ⟨some 8, .mv (.t 0), none⟩,
     ⟨some 9, .mv (.t 1), none⟩,
     ⟨some 10, .call 131 [(.t 8), (.t 9)], none⟩,
     ⟨some 7, .mv (.t 10), none⟩] [0, 1, 7])
   (.seq
    (.reg [
      ⟨some 11, .mv (.t 7), none⟩,
      ⟨some 12, .bin .geq none (.t 11) (.c (.int .i64 0)), none⟩] [0, 1, 7, 12])
    (.cnd (.t 12)
     (.seq
      (.drw [
        ((⟨some 13, .mv (.t 0), none⟩, none), []),
        ((⟨some 14, .mv (.t 7), none⟩, none), []),
        ((⟨some 15, .slS (.t 13) none (some (.t 14)), none⟩, none), []),
        ((⟨some 16, .mv (.t 0), none⟩, none), []),
        ((⟨some 17, .mv (.t 7), none⟩, none), []),
        ((⟨some 18, .mv (.t 1), none⟩, none), []),
        ((⟨some 19, .lenS (.t 18), none⟩, none), []),
        ((⟨some 20, .bin .add none (.t 17) (.t 19), none⟩, none), []),
        ((⟨some 21, .slS (.t 16) (some (.t 20)) none, none⟩, none), []),
        ((⟨some 4, .mv (.t 15), none⟩, none), []),
        ((⟨some 5, .mv (.t 21), none⟩, none), []),
        ((⟨some 6, .mv (.c (.bool true)), none⟩, none), [])] [4, 5, 6])
      .ret)
     .skip)))
  (.seq
   (.reg [
     ⟨some 22, .mv (.t 0), none⟩,
     ⟨some 4, .mv (.t 22), none⟩,
     ⟨some 5, .mv (.c (.str [])), none⟩,
     ⟨some 6, .mv (.c (.bool false)), none⟩] [4, 5, 6])
   .ret))),
[.tmp 4, .tmp 5, .tmp 6]⟩
theorem F108_ok : prepF Go.Proofs.Tryz.prog ⟨[], [(0, [0, 1]), (1, [0, 1, 7]), (2, [0, 1, 7, 12]), (3, [4, 5, 6]), (4, [4, 5, 6])], []⟩ Go.Proofs.Tryz.f108 = some F108 := by kernel_rfl
theorem F108_fn : FnOK2 Go.Proofs.Tryz.prog 108 (.pl F108) := .pl Go.Proofs.Tryz.func108 (by kernel_rfl) F108_ok
/-- emend/num.cut -/
def F109 : DF := ⟨1,
(.seq
 (.reg [
   ⟨some 2, .mv (.c (.bool false)), none⟩,
   ⟨some 3, .mv (.c (.str [])), none⟩,
   ⟨some 4, .mv (.c (.str [])), none⟩,
   ⟨some 5, .mv (.c (.str [])), none⟩,
   ⟨some 6, .mv (.c (.bool false)), none⟩] [0, 4])
 (.seq
  (.reg [
    ⟨some 10, .mv (.t 0), none⟩,
    ⟨some 7, .mv (.t 10), none⟩] [4, 7])
  (.seq
   (.seq
    (.reg [
      ⟨some 11, .mv (.t 7), none⟩,
      ⟨some 12, .call 132 [(.t 11), (.c (.str [45]))], none⟩,
      ⟨some 2, .mv (.t 12), none⟩] [2, 4, 7])
    (.seq
     (.reg [
       ⟨some 13, .mv (.t 2), none⟩] [2, 4, 7, 13])
     (.cnd (.t 13)
      (.reg [
        ⟨some 14, .mv (.t 7), none⟩,
        ⟨some 15, .slS (.t 14) (some (.c (.int .i64 1))) none, none⟩,
        ⟨some 7, .mv (.t 15), none⟩] [2, 4, 7])
      .skip)))
   (.seq
    (.reg [
      ⟨some 16, .mv (.t 7), none⟩,
      ⟨some 17, .call 113 [(.t 16)], none⟩,
      ⟨some 8, .mv (.t 17), none⟩] [2, 4, 7, 8])
    (.seq
     (.seq
      (.reg [
        ⟨some 18, .mv (.t 8), none⟩,
        ⟨some 19, .bin .eql (some .int) (.t 18) (.c (.int .i64 0)), none⟩,
        ⟨some 20, .mv (.t 19), none⟩,
        ⟨some 21, .mv (.t 8), some (20, false)⟩,
        ⟨some 22, .bin .gtr none (.t 21) (.c (.int .i64 1)), some (20, false)⟩,
        ⟨some 23, .mv (.t 22), some (20, false)⟩,
        ⟨some 24, .mv (.t 7), some (23, true)⟩,
        ⟨some 25, .ixS (.t 24) (.c (.int .i64 0)), some (23, true)⟩,
        ⟨some 26, .bin .eql (some .int) (.t 25) (.c (.int .u8 48)), some (23, true)⟩,
        ⟨some 27, .pick (.t 23) (.t 26) (.c (.bool false)), some (20, false)⟩,
        ⟨some 28, .pick (.t 20) (.c (.bool true)) (.t 27), none⟩] [2, 4, 7, 8, 28])
      (.cnd (.t 28)
       (.seq
        (.reg [
          ⟨some 2, .mv (.c (.bool false)), none⟩,
          ⟨some 3, .mv (.c (.str [])), none⟩,
          ⟨some 4, .mv (.c (.str [])), none⟩,
          ⟨some 5, .mv (.c (.str [])), none⟩,
          ⟨some 6, .mv (.c (.bool false)), none⟩] [2, 3, 4, 5, 6])
        .ret)
       .skip))
     (.seq
      (.drw [
        ((⟨some 29, .mv (.t 7), none⟩, none), []),
        ((⟨some 30, .mv (.t 8), none⟩, none), []),
        ((⟨some 31, .slS (.t 29) none (some (.t 30)), none⟩, none), []),
        ((⟨some 32, .mv (.t 7), none⟩, none), []),
        ((⟨some 33, .mv (.t 8), none⟩, none), []),
        ((⟨some 34, .slS (.t 32) (some (.t 33)) none, none⟩, none), []),
        ((⟨some 3, .mv (.t 31), none⟩, none), []),
        ((⟨some 7, .mv (.t 34), none⟩, none), [])] [2, 3, 4, 7])
      (.seq
       (.seq
        (.reg [
          ⟨some 35, .mv (.t 7), none⟩,
          ⟨some 36, .call 132 [(.t 35), (.c (.str [46]))], none⟩] [2, 3, 4, 7, 36])
        (.cnd (.t 36)
         (.seq
          (.seq
           (.reg [
             ⟨some 37, .mv (.t 7), none⟩,
             ⟨some 38, .slS (.t 37) (some (.c (.int .i64 1))) none, none⟩,
             ⟨some 39, .call 113 [(.t 38)], none⟩,
             ⟨some 8, .mv (.t 39), none⟩] [2, 3, 7, 8])
           (.seq
            (.reg [
              ⟨some 40, .mv (.t 8), none⟩,
              ⟨some 41, .bin .eql (some .int) (.t 40) (.c (.int .i64 0)), none⟩] [2, 3, 7, 8, 41])
            (.cnd (.t 41)
             (.seq
              (.reg [
                ⟨some 2, .mv (.c (.bool false)), none⟩,
                ⟨some 3, .mv (.c (.str [])), none⟩,
                ⟨some 4, .mv (.c (.str [])), none⟩,
                ⟨some 5, .mv (.c (.str [])), none⟩,
                ⟨some 6, .mv (.c (.bool false)), none⟩] [2, 3, 4, 5, 6])
              .ret)
             .skip)))
          (.drw [
            ((⟨some 42, .mv (.t 7), none⟩, none), []),
            ((⟨some 43, .mv (.t 8), none⟩, none), []),
            ((⟨some 44, .bin .add none (.c (.int .i64 1)) (.t 43), none⟩, none), []),
            ((⟨some 45, .slS (.t 42) (some (.c (.int .i64 1))) (some (.t 44)), none⟩, none), []),
            ((⟨some 46, .mv (.t 7), none⟩, none), []),
            ((⟨some 47, .mv (.t 8), none⟩, none), []),
            ((⟨some 48, .bin .add none (.c (.int .i64 1)) (.t 47), none⟩, none), []),
            ((⟨some 49, .slS (.t 46) (some (.t 48)) none, none⟩, none), []),
            ((⟨some 4, .mv (.t 45), none⟩, none), []),
            ((⟨some 7, .mv (.t 49), none⟩, none), [])] [2, 3, 4, 7]))
         .skip))
       (.seq
        (.seq
         (.reg [
           ⟨some 50, .mv (.t 7), none⟩,
           ⟨some 51, .bin .eql (some .str) (.t 50) (.c (.str [])), none⟩] [2, 3, 4, 7, 51])
         (.cnd (.t 51)
          (.seq
           (.reg [
             ⟨some 52, .mv (.t 2), none⟩,
             ⟨some 53, .mv (.t 3), none⟩,
             ⟨some 54, .mv (.t 4), none⟩,
             ⟨some 2, .mv (.t 52), none⟩,
             ⟨some 3, .mv (.t 53), none⟩,
             ⟨some 4, .mv (.t 54), none⟩,
             ⟨some 5, .mv (.c (.str [])), none⟩,
             ⟨some 6, .mv (.c (.bool true)), none⟩] [2, 3, 4, 5, 6])
           .ret)
          .skip))
        (.seq
         (.seq
          (.reg [
            ⟨some 55, .mv (.t 7), none⟩,
            ⟨some 56, .ixS (.t 55) (.c (.int .i64 0)), none⟩,
            ⟨some 57, .bin .neq (some .int) (.t 56) (.c (.int .u8 101)), none⟩,
            ⟨some 58, .mv (.t 57), none⟩,
            ⟨some 59, .mv (.t 7), some (58, true)⟩,
            ⟨some 60, .ixS (.t 59) (.c (.int .i64 0)), some (58, true)⟩,
            ⟨some 61, .bin .neq (some .int) (.t 60) (.c (.int .u8 69)), some (58, true)⟩,
            ⟨some 62, .pick (.t 58) (.t 61) (.c (.bool false)), none⟩] [2, 3, 4, 7, 62])
          (.cnd (.t 62)
           (.seq
            (.reg [
              ⟨some 2, .mv (.c (.bool false)), none⟩,
              ⟨some 3, .mv (.c (.str [])), none⟩,
              ⟨some 4, .mv (.c (.str [])), none⟩,
              ⟨some 5, .mv (.c (.str [])), none⟩,
              ⟨some 6, .mv (.c (.bool false)), none⟩] [2, 3, 4, 5, 6])
            .ret)
           .skip))
         (.seq
          (.reg [
            ⟨some 63, .mv (.t 7), none⟩,
            ⟨some 64, .slS (.t 63) (some (.c (.int .i64 1))) none, none⟩,
            ⟨some 5, .mv (.t 64), none⟩] [2, 3, 4, 5])
          (.seq
           (.reg [
             ⟨some 65, .mv (.t 5), none⟩,
             ⟨some 66, .call 133 [(.t 65), (.c (.str [45]))], none⟩,
             ⟨some 9, .mv (.t 66), none⟩] [2, 3, 4, 5, 9])
           (.seq
            (.seq
             (.reg [
               ⟨some 67, .mv (.t 9), none⟩,
               ⟨some 68, .mv (.t 5), none⟩,
               ⟨some 69, .bin .eql (some .str) (.t 67) (.t 68), none⟩] [2, 3, 4, 5, 9, 69])
             (.cnd (.t 69)
              (.reg [
                ⟨some 70, .mv (.t 5), none⟩,
                ⟨some 71, .call 133 [(.t 70), (.c (.str [43]))], none⟩,
                ⟨some 9, .mv (.t 71), none⟩] [2, 3, 4, 5, 9])
              .skip))
            (.seq
             (.seq
              (.reg [
                ⟨some 72, .mv (.t 9), none⟩,
                ⟨some 73, .bin .eql (some .str) (.t 72) (.c (.str [])), none⟩,
                ⟨some 74, .mv (.t 73), none⟩,
                ⟨some 75, .mv (.t 9), some (74, false)⟩,
                ⟨some 76, .call 113 [(.t 75)], some (74, false)⟩,
                ⟨some 77, .mv (.t 9), some (74, false)⟩,
                ⟨some 78, .lenS (.t 77), some (74, false)⟩,
                ⟨some 79, .bin .lss none (.t 76) (.t 78), some (74, false)⟩,
                ⟨some 80, .pick (.t 74) (.c (.bool true)) (.t 79), none⟩] [2, 3, 4, 5, 80])
              (.cnd (.t 80)
               (.seq
                (.reg [
                  ⟨some 2, .mv (.c (.bool false)), none⟩,
                  ⟨some 3, .mv (.c (.str [])), none⟩,
                  ⟨some 4, .mv (.c (.str [])), none⟩,
                  ⟨some 5, .mv (.c (.str [])), none⟩,
                  ⟨some 6, .mv (.c (.bool false)), none⟩] [2, 3, 4, 5, 6])
                .ret)
               .skip))
             (.seq
              (.reg [
                ⟨some 81, .mv (.t 2), none⟩,
                ⟨some 82, .mv (.t 3), none⟩,
                ⟨some 83, .mv (.t 4), none⟩,
                ⟨some 84, .mv (.t 5), none⟩,
                ⟨some 2, .mv (.t 81), none⟩,
                ⟨some 3, .mv (.t 82), none⟩,
                ⟨some 4, .mv (.t 83), none⟩,
                ⟨some 5, .mv (.t 84), none⟩,
                ⟨some 6, .mv (.c (.bool true)), none⟩] [2, 3, 4, 5, 6])
              .ret)))))))))))))),
[.tmp 2, .tmp 3, .tmp 4, .tmp 5, .tmp 6]⟩
theorem F109_ok : prepF Go.Proofs.Tryz.prog ⟨[], [(0, [0, 4]), (1, [4, 7]), (2, [2, 4, 7]), (3, [2, 4, 7, 13]), (4, [2, 4, 7]), (5, [2, 4, 7, 8]), (6, [2, 4, 7, 8, 28]), (7, [2, 3, 4, 5, 6]), (8, [2, 3, 4, 7]), (9, [2, 3, 4, 7, 36]), (10, [2, 3, 7, 8]), (11, [2, 3, 7, 8, 41]), (12, [2, 3, 4, 5, 6]), (13, [2, 3, 4, 7]), (14, [2, 3, 4, 7, 51]), (15, [2, 3, 4, 5, 6]), (16, [2, 3, 4, 7, 62]), (17, [2, 3, 4, 5, 6]), (18, [2, 3, 4, 5]), (19, [2, 3, 4, 5, 9]), (20, [2, 3, 4, 5, 9, 69]), (21, [2, 3, 4, 5, 9]), (22, [2, 3, 4, 5, 80]), (23, [2, 3, 4, 5, 6]), (24, [2, 3, 4, 5, 6])], []⟩ Go.Proofs.Tryz.f109 = some F109 := by kernel_rfl
theorem F109_fn : FnOK2 Go.Proofs.Tryz.prog 109 (.pl F109) := .pl Go.Proofs.Tryz.func109 (by kernel_rfl) F109_ok
/-- emend/num.exponent -/
def F110 : DF := ⟨1,
(.seq
 (.reg [
   ⟨some 2, .mv (.c (.int .i64 0)), none⟩,
   ⟨some 3, .mv (.c (.bool false)), none⟩] [0])
 (.seq
  (.reg [
    ⟨some 7, .mv (.t 0), none⟩,
    ⟨some 8, .call 132 [(.t 7), (.c (.str [45]))], none⟩,
    ⟨some 4, .mv (.t 8), none⟩] [0, 4])
  (.seq
   (.reg [
     ⟨some 9, .mv (.t 0), none⟩,
     ⟨some 10, .call 111 [(.t 9), (.c (.str [43, 45]))], none⟩,
     ⟨some 11, .call 111 [(.t 10), (.c (.str [48]))], none⟩,
     ⟨some 0, .mv (.t 11), none⟩] [0, 4])
   (.seq
    (.seq
     (.reg [
       ⟨some 12, .mv (.t 0), none⟩,
       ⟨some 13, .lenS (.t 12), none⟩,
       ⟨some 14, .bin .gtr none (.t 13) (.c (.int .i64 6)), none⟩] [0, 4, 14])
     (.cnd (.t 14)
      (.seq
       (.reg [
         ⟨some 2, .mv (.c (.int .i64 0)), none⟩,
         ⟨some 3, .mv (.c (.bool false)), none⟩] [2, 3])
       .ret)
      .skip))
    (.seq
     (.reg [
       ⟨some 16, .mv (.t 0), none⟩,
       ⟨some 17, .bin .add none (.c (.str [48])) (.t 16), none⟩,
       ⟨some 18, .call 134 [(.t 17)], none⟩,
       ⟨some 15, .mv (.t 18), none⟩,
       ⟨some 19, .ext (.t 15) 0, none⟩,
       ⟨some 20, .ext (.t 15) 1, none⟩,
       ⟨some 5, .mv (.t 19), none⟩,
       ⟨some 6, .mv (.t 20), none⟩] [4, 5])
     (.seq
      (.seq
       (.reg [
         ⟨some 21, .mv (.t 4), none⟩] [5, 21])
       (.cnd (.t 21)
        (.seq
         (.reg [
           ⟨some 22, .mv (.t 5), none⟩,
           ⟨some 23, .un .neg (.t 22), none⟩,
           ⟨some 2, .mv (.t 23), none⟩,
           ⟨some 3, .mv (.c (.bool true)), none⟩] [2, 3])
         .ret)
        .skip))
      (.seq
       (.reg [
         ⟨some 24, .mv (.t 5), none⟩,
         ⟨some 2, .mv (.t 24), none⟩,
         ⟨some 3, .mv (.c (.bool true)), none⟩] [2, 3])
       .ret))))))),
[.tmp 2, .tmp 3]⟩
theorem F110_ok : prepF Go.Proofs.Tryz.prog ⟨[], [(0, [0]), (1, [0, 4]), (2, [0, 4]), (3, [0, 4, 14]), (4, [2, 3]), (5, [4, 5]), (6, [5, 21]), (7, [2, 3]), (8, [2, 3])], []⟩ Go.Proofs.Tryz.f110 = some F110 := by kernel_rfl
theorem F110_fn : FnOK2 Go.Proofs.Tryz.prog 110 (.pl F110) := .pl Go.Proofs.Tryz.func110 (by kernel_rfl) F110_ok
/-- strings.TrimLeft -/
def F111 : DF := ⟨2,
(.seq
 (.reg [
   ⟨some 4, .mv (.c (.str [])), none⟩] [0, 1])
 (.seq
  (.seq
   (.reg [
     ⟨some 7, .mv (.t 0), none⟩,
     ⟨some 8, .bin .eql (some .str) (.t 7) (.c (.str [])), none⟩,
     ⟨some 9, .mv (.t 8), none⟩,
     ⟨some 10, .mv (.t 1), some (9, false)⟩,
     ⟨some 11, .bin .eql (some .str) (.t 10) (.c (.str [])), some (9, false)⟩,
     ⟨some 12, .pick (.t 9) (.c (.bool true)) (.t 11), none⟩] [0, 1, 12])
   (.cnd (.t 12)
    (.seq
     (.reg [
       ⟨some 13, .mv (.t 0), none⟩,
       ⟨some 4, .mv (.t 13), none⟩] [4])
     .ret)
    .skip))
  (.seq
   (.seq
    (.reg [
      ⟨some 14, .mv (.t 1), none⟩,
      ⟨some 15, .lenS (.t 14), none⟩,
      ⟨some 16, .bin .eql (some .int) (.t 15) (.c (.int .i64 1)), none⟩,
      ⟨some 17, .mv (.t 16), none⟩,
      ⟨some 18, .mv (.t 1), some (17, true)⟩,
      ⟨some 19, .ixS (.t 18) (.c (.int .i64 0)), some (17, true)⟩,
      ⟨some 20, .bin .lss none (.t 19) (.c (.int .u8 128)), some (17, true)⟩,
      ⟨some 21, .pick (.t 17) (.t 20) (.c (.bool false)), none⟩] [0, 1, 21])
    (.cnd (.t 21)
     (.seq
      (.reg [
        ⟨some 22, .mv (.t 0), none⟩,
        ⟨some 23, .mv (.t 1), none⟩,
        ⟨some 24, .ixS (.t 23) (.c (.int .i64 0)), none⟩,
        ⟨some 25, .call 123 [(.t 22), (.t 24)], none⟩,
        ⟨some 4, .mv (.t 25), none⟩] [4])
      .ret)
     .skip))
   (.seq
    (.seq
     (.reg [
       ⟨some 27, .mv (.t 1), none⟩,
       ⟨some 28, .call 125 [(.t 27)], none⟩,
       ⟨some 26, .mv (.t 28), none⟩,
       ⟨some 29, .ext (.t 26) 0, none⟩,
       ⟨some 30, .ext (.t 26) 1, none⟩,
       ⟨some 5, .alH 157 [(.bool false), (.bool false), (.bool false), (.bool false), (.bool false), (.bool false), (.bool false), (.bool false), (.bool false), (.bool false), (.bool false), (.bool false), (.bool false), (.bool false), (.bool false), (.bool false), (.bool false), (.bool false), (.bool false), (.bool false), (.bool false), (.bool false), (.bool false), (.bool false), (.bool false), (.bool false), (.bool false), (.bool false), (.bool false), (.bool false), (.bool false), (.bool false), (.bool false), (.bool false), (.bool false), (.bool false), (.bool false), (.bool false), (.bool false), (.bool false), (.bool false), (.bool false), (.bool false), (.bool false), (.bool false), (.bool false), (.bool false), (.bool false), (.bool false), (.bool false), (.bool false), (.bool false), (.bool false), (.bool false), (.bool false), (.bool false), (.bool false), (.bool false), (.bool false), (.bool false), (.bool false), (.bool false), (.bool false), (.bool false), (.bool false), (.bool false), (.bool false), (.bool false), (.bool false), (.bool false), (.bool false), (.bool false), (.bool false), (.bool false), (.bool false), (.bool false), (.bool false), (.bool false), (.bool false), (.bool false), (.bool false), (.bool false), (.bool false), (.bool false), (.bool false), (.bool false), (.bool false), (.bool false), (.bool false), (.bool false), (.bool false), (.bool false), (.bool false), (.bool false), (.bool false), (.bool false), (.bool false), (.bool false), (.bool false), (.bool false), (.bool false), (.bool false), (.bool false), (.bool false), (.bool false), (.bool false), (.bool false), (.bool false), (.bool false), (.bool false), (.bool false), (.bool false), (.bool false), (.bool false), (.bool false), (.bool false), (.bool false), (.bool false), (.bool false), (.bool false), (.bool false), (.bool false), (.bool false), (.bool false), (.bool false), (.bool false), (.bool false), (.bool false), (.bool false), (.bool false), (.bool false), (.bool false), (.bool false), (.bool false), (.bool false), (.bool false), (.bool false), (.bool false), (.bool false), (.bool false), (.bool false), (.bool false), (.bool false), (.bool false), (.bool false), (.bool false), (.bool false), (.bool false), (.bool false), (.bool false), (.bool false), (.bool false), (.bool false), (.bool false), (.bool false), (.bool false), (.bool false), (.bool false), (.bool false), (.bool false), (.bool false), (.bool false), (.bool false), (.bool false), (.bool false), (.bool false), (.bool false), (.bool false), (.bool false), (.bool false), (.bool false), (.bool false), (.bool false), (.bool false), (.bool false), (.bool false), (.bool false), (.bool false), (.bool false), (.bool false), (.bool false), (.bool false), (.bool false), (.bool false), (.bool false), (.bool false), (.bool false), (.bool false), (.bool false), (.bool false), (.bool false), (.bool false), (.bool false), (.bool false), (.bool false), (.bool false), (.bool false), (.bool false), (.bool false), (.bool false), (.bool false), (.bool false), (.bool false), (.bool false), (.bool false), (.bool false), (.bool false), (.bool false), (.bool false), (.bool false), (.bool false), (.bool false), (.bool false), (.bool false), (.bool false), (.bool false), (.bool false), (.bool false), (.bool false), (.bool false), (.bool false), (.bool false), (.bool false), (.bool false), (.bool false), (.bool false), (.bool false), (.bool false), (.bool false), (.bool false), (.bool false), (.bool false), (.bool false), (.bool false), (.bool false), (.bool false), (.bool false), (.bool false), (.bool false), (.bool false), (.bool false), (.bool false), (.bool false), (.bool false), (.bool false), (.bool false), (.bool false), (.bool false), (.bool false), (.bool false), (.bool false), (.bool false), (.bool false), (.bool false), (.bool false), (.bool false)], none⟩,
       ⟨none, .st 256 (.t 5) (.t 29), none⟩,
       ⟨some 6, .mv (.t 30), none⟩] [0, 1, 5, 6])
     (.seq
      (.reg [
        ⟨some 31, .mv (.t 6), none⟩] [0, 1, 5, 31])
      (.cnd (.t 31)
       (.seq
        (.reg [
          ⟨some 32, .mv (.t 0), none⟩,
          ⟨some 33, .call 126 [(.t 32), (.t 5)], none⟩,
          ⟨some 4, .mv (.t 33), none⟩] [4])
        .ret)
       .skip)))
    (.seq
     (.reg [
       ⟨some 34, .mv (.t 0), none⟩,
       ⟨some 35, .mv (.t 1), none⟩,
       ⟨some 36, .call 128 [(.t 34), (.t 35)], none⟩,
       ⟨some 4, .mv (.t 36), none⟩] [4])
     .ret))))),
[.tmp 4]⟩
theorem F111_ok : prepF Go.Proofs.Tryz.prog ⟨[], [(0, [0, 1]), (1, [0, 1, 12]), (2, [4]), (3, [0, 1, 21]), (4, [4]), (5, [0, 1, 5, 6]), (6, [0, 1, 5, 31]), (7, [4]), (8, [4])], []⟩ Go.Proofs.Tryz.f111 = some F111 := by kernel_rfl
theorem F111_fn : FnOK2 Go.Proofs.Tryz.prog 111 (.pl F111) := .pl Go.Proofs.Tryz.func111 (by kernel_rfl) F111_ok
end Go.Proofs.YtbojekglccdajaaGreatDoor.C1
