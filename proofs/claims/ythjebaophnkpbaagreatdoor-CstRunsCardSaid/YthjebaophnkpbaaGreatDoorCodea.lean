/- The code of the functions that are reached, printed by a program (Gen). -/
import Derived.Test.YthjebaophnkpbaaGreatDoorProg
import Derived.Test.YthjebaophnkpbaaGreatDoorDnE
namespace Go.Proofs.YthjebaophnkpbaaGreatDoor.C1
open Go Go.Dn
set_option maxRecDepth 100000
/-- emend/emendlaw4.CstRuns -/
def F3 : DF := ⟨0,
(.seq
 (.reg [
   ⟨some 0, .mv (.c (.bool false)), none⟩] [])
 (.seq
  (.reg [
    ⟨some 15, .call 8 [], none⟩,
    ⟨some 1, .alL [(.int .i64 0), (.str []), (.str []), (.str []), (.int .i64 0), (.str []), (.sl 1 ⟨none, 0, (some 0), true⟩ []), (.sl 4 ⟨none, 0, (some 0), true⟩ []), (.str []), (.sl 14 ⟨none, 0, (some 0), true⟩ []), (.sl 1 ⟨none, 0, (some 0), true⟩ []), (.str []), (.str []), (.int .i64 0)], none⟩,
    ⟨none, .st 14 (.t 1) (.t 15), none⟩] [1])
  (.seq
   (.reg [
     ⟨some 17, .ld true 14 (.t 1), none⟩,
     ⟨some 18, .call 9 [(.t 17)], none⟩,
     ⟨some 16, .mv (.t 18), none⟩,
     ⟨some 19, .ext (.t 16) 0, none⟩,
     ⟨some 20, .ext (.t 16) 1, none⟩,
     ⟨some 2, .alL [(.int .i64 0), (.str []), (.sl 1 ⟨none, 0, (some 0), true⟩ []), (.sl 4 ⟨none, 0, (some 0), true⟩ [])], none⟩,
     ⟨none, .st 4 (.t 2) (.t 19), none⟩,
     ⟨some 3, .mv (.t 20), none⟩] [1, 2, 3])
   (.seq
    (.reg [
      ⟨some 22, .ld true 4 (.t 2), none⟩,
      ⟨some 23, .call 10 [(.t 22)], none⟩,
      ⟨some 21, .mv (.t 23), none⟩,
      ⟨some 24, .ext (.t 21) 0, none⟩,
      ⟨some 25, .ext (.t 21) 1, none⟩,
      ⟨some 4, .mv (.t 24), none⟩,
      ⟨some 5, .mv (.t 25), none⟩] [1, 3, 4, 5])
    (.seq
     (.seq
      (.reg [
        ⟨some 26, .ld true 14 (.t 1), none⟩,
        ⟨some 27, .call 11 [(.t 26)], none⟩,
        ⟨some 28, .bin .neq (some .str) (.t 27) (.c (.str [91, 49, 44, 32, 123, 34, 97, 34, 58, 32, 50, 125, 93])), none⟩,
        ⟨some 29, .mv (.t 28), none⟩,
        ⟨some 30, .mv (.t 3), some (29, false)⟩,
        ⟨some 31, .bin .neq (some .int) (.t 30) (.c (.int .i64 0)), some (29, false)⟩,
        ⟨some 32, .pick (.t 29) (.c (.bool true)) (.t 31), none⟩,
        ⟨some 33, .mv (.t 32), none⟩,
        ⟨some 34, .mv (.t 5), some (33, false)⟩,
        ⟨some 35, .bin .neq (some .int) (.t 34) (.c (.int .i64 0)), some (33, false)⟩,
        ⟨some 36, .pick (.t 33) (.c (.bool true)) (.t 35), none⟩,
        ⟨some 37, .mv (.t 36), none⟩,
        ⟨some 38, .mv (.t 4), some (37, false)⟩,
        ⟨some 39, .bin .neq (some .str) (.t 38) (.c (.str [91, 49, 44, 32, 123, 34, 97, 34, 58, 32, 50, 125, 93])), some (37, false)⟩,
        ⟨some 40, .pick (.t 37) (.c (.bool true)) (.t 39), none⟩,
        ⟨some 41, .mv (.t 40), none⟩,
        ⟨some 42, .ld true 14 (.t 1), some (41, false)⟩,
        ⟨some 43, .call 12 [(.t 42)], some (41, false)⟩,
        ⟨some 44, .bin .neq (some .int) (.t 43) (.c (.int .i64 13)), some (41, false)⟩,
        ⟨some 45, .pick (.t 41) (.c (.bool true)) (.t 44), none⟩,
        ⟨some 46, .mv (.t 45), none⟩,
        ⟨some 47, .ld true 14 (.t 1), some (46, false)⟩,
        ⟨some 48, .call 13 [(.t 47)], some (46, false)⟩,
        ⟨some 49, .bin .neq (some .int) (.t 48) (.c (.int .i64 4)), some (46, false)⟩,
        ⟨some 50, .pick (.t 46) (.c (.bool true)) (.t 49), none⟩,
        ⟨some 51, .mv (.t 50), none⟩,
        ⟨some 52, .ld true 14 (.t 1), some (51, false)⟩,
        ⟨some 53, .call 14 [(.t 52)], some (51, false)⟩,
        ⟨some 54, .un .not (.t 53), some (51, false)⟩,
        ⟨some 55, .pick (.t 51) (.c (.bool true)) (.t 54), none⟩] [1, 55])
      (.cnd (.t 55)
       (.seq
        (.reg [
          ⟨some 0, .mv (.c (.bool false)), none⟩] [0])
        .ret)
       .skip))
     (.seq
      (.reg [
        ⟨some 57, .ld true 14 (.t 1), none⟩,
        ⟨some 58, .bld [(.str []), (.int .i64 0)] [(1, 1, (.c (.int .i64 0)))], none⟩,
        ⟨some 59, .bldT 41 2 1 (.agg [(.str []), (.int .i64 0)]) [(0, (.t 58))], none⟩,
        ⟨some 60, .call 15 [(.t 57), (.t 59)], none⟩,
        ⟨some 56, .mv (.t 60), none⟩,
        ⟨some 61, .ext (.t 56) 0, none⟩,
        ⟨some 62, .ext (.t 56) 1, none⟩,
        ⟨some 63, .ext (.t 56) 2, none⟩,
        ⟨some 6, .alL [(.int .i64 0), (.str []), (.str []), (.str []), (.int .i64 0), (.str []), (.sl 1 ⟨none, 0, (some 0), true⟩ []), (.sl 4 ⟨none, 0, (some 0), true⟩ []), (.str []), (.sl 14 ⟨none, 0, (some 0), true⟩ []), (.sl 1 ⟨none, 0, (some 0), true⟩ []), (.str []), (.str []), (.int .i64 0)], none⟩,
        ⟨none, .st 14 (.t 6) (.t 61), none⟩,
        ⟨some 7, .mv (.t 62), none⟩,
        ⟨some 8, .mv (.t 63), none⟩] [1, 6, 7, 8])
      (.seq
       (.reg [
         ⟨some 65, .ld true 14 (.t 1), none⟩,
         ⟨some 66, .bld [(.str []), (.int .i64 0)] [(1, 1, (.c (.int .i64 1)))], none⟩,
         ⟨some 67, .bld [(.str []), (.int .i64 0)] [(0, 1, (.c (.str [97])))], none⟩,
         ⟨some 68, .bldT 41 2 2 (.agg [(.str []), (.int .i64 0)]) [(0, (.t 66)), (1, (.t 67))], none⟩,
         ⟨some 69, .call 15 [(.t 65), (.t 68)], none⟩,
         ⟨some 64, .mv (.t 69), none⟩,
         ⟨some 70, .ext (.t 64) 0, none⟩,
         ⟨some 71, .ext (.t 64) 1, none⟩,
         ⟨some 72, .ext (.t 64) 2, none⟩,
         ⟨some 9, .alL [(.int .i64 0), (.str []), (.str []), (.str []), (.int .i64 0), (.str []), (.sl 1 ⟨none, 0, (some 0), true⟩ []), (.sl 4 ⟨none, 0, (some 0), true⟩ []), (.str []), (.sl 14 ⟨none, 0, (some 0), true⟩ []), (.sl 1 ⟨none, 0, (some 0), true⟩ []), (.str []), (.str []), (.int .i64 0)], none⟩,
         ⟨none, .st 14 (.t 9) (.t 70), none⟩,
         ⟨some 10, .mv (.t 71), none⟩,
         ⟨some 11, .mv (.t 72), none⟩] [1, 6, 7, 8, 9, 10, 11])
       (.seq
        (.reg [
          ⟨some 74, .ld true 14 (.t 1), none⟩,
          ⟨some 75, .bld [(.str []), (.int .i64 0)] [(1, 1, (.c (.int .i64 2)))], none⟩,
          ⟨some 76, .bldT 41 2 1 (.agg [(.str []), (.int .i64 0)]) [(0, (.t 75))], none⟩,
          ⟨some 77, .call 15 [(.t 74), (.t 76)], none⟩,
          ⟨some 73, .mv (.t 77), none⟩,
          ⟨some 78, .ext (.t 73) 0, none⟩,
          ⟨some 79, .ext (.t 73) 1, none⟩,
          ⟨some 80, .ext (.t 73) 2, none⟩,
          ⟨some 12, .alL [(.int .i64 0), (.str []), (.str []), (.str []), (.int .i64 0), (.str []), (.sl 1 ⟨none, 0, (some 0), true⟩ []), (.sl 4 ⟨none, 0, (some 0), true⟩ []), (.str []), (.sl 14 ⟨none, 0, (some 0), true⟩ []), (.sl 1 ⟨none, 0, (some 0), true⟩ []), (.str []), (.str []), (.int .i64 0)], none⟩,
          ⟨none, .st 14 (.t 12) (.t 78), none⟩,
          ⟨some 13, .mv (.t 79), none⟩,
          ⟨some 14, .mv (.t 80), none⟩] [1, 6, 7, 8, 9, 10, 11, 14])
        (.seq
         (.seq
          (.reg [
            ⟨some 81, .fa 3 (.t 6), none⟩,
            ⟨some 82, .ld false 1 (.t 81), none⟩,
            ⟨some 83, .bin .neq (some .str) (.t 82) (.c (.str [49])), none⟩,
            ⟨some 84, .mv (.t 83), none⟩,
            ⟨some 85, .mv (.t 7), some (84, false)⟩,
            ⟨some 86, .bin .neq (some .int) (.t 85) (.c (.int .i64 1)), some (84, false)⟩,
            ⟨some 87, .pick (.t 84) (.c (.bool true)) (.t 86), none⟩,
            ⟨some 88, .mv (.t 87), none⟩,
            ⟨some 89, .mv (.t 8), some (88, false)⟩,
            ⟨some 90, .un .not (.t 89), some (88, false)⟩,
            ⟨some 91, .pick (.t 88) (.c (.bool true)) (.t 90), none⟩,
            ⟨some 92, .mv (.t 91), none⟩,
            ⟨some 93, .ld true 14 (.t 9), some (92, false)⟩,
            ⟨some 94, .call 11 [(.t 93)], some (92, false)⟩,
            ⟨some 95, .bin .neq (some .str) (.t 94) (.c (.str [34, 97, 34, 58, 32, 50])), some (92, false)⟩,
            ⟨some 96, .pick (.t 92) (.c (.bool true)) (.t 95), none⟩,
            ⟨some 97, .mv (.t 96), none⟩,
            ⟨some 98, .mv (.t 10), some (97, false)⟩,
            ⟨some 99, .bin .neq (some .int) (.t 98) (.c (.int .i64 5)), some (97, false)⟩,
            ⟨some 100, .pick (.t 97) (.c (.bool true)) (.t 99), none⟩,
            ⟨some 101, .mv (.t 100), none⟩,
            ⟨some 102, .mv (.t 11), some (101, false)⟩,
            ⟨some 103, .un .not (.t 102), some (101, false)⟩,
            ⟨some 104, .pick (.t 101) (.c (.bool true)) (.t 103), none⟩,
            ⟨some 105, .mv (.t 104), none⟩,
            ⟨some 106, .mv (.t 14), some (105, false)⟩,
            ⟨some 107, .pick (.t 105) (.c (.bool true)) (.t 106), none⟩] [1, 107])
          (.cnd (.t 107)
           (.seq
            (.reg [
              ⟨some 0, .mv (.c (.bool false)), none⟩] [0])
            .ret)
           .skip))
         (.seq
          (.seq
           (.ndet [
             ⟨some 108, .alL [(.bool false)], none⟩,
             ⟨none, .st 1 (.t 108) (.c (.bool true)), none⟩,
             ⟨none, .st 1 (.t 108) (.c (.bool false)), none⟩,
             ⟨some 109, .ld false 1 (.t 108), none⟩] [1, 109])
           (.cnd (.t 109)
            (.seq
             (.drw [
               (⟨some 110, .fa 9 (.t 1), none⟩, (some 1)),
               (⟨some 111, .ld false 1 (.t 110), none⟩, (some 1)),
               (⟨some 112, .ia 14 (.t 111) (.c (.int .i64 1)), none⟩, none),
               (⟨some 113, .fa 9 (.t 112), none⟩, none),
               (⟨some 114, .ld false 1 (.t 113), none⟩, none),
               (⟨some 115, .fa 9 (.t 1), none⟩, (some 1)),
               (⟨some 116, .ld false 1 (.t 115), none⟩, (some 1)),
               (⟨some 117, .ia 14 (.t 116) (.c (.int .i64 1)), none⟩, none),
               (⟨some 118, .fa 9 (.t 117), none⟩, none),
               (⟨some 119, .ld false 1 (.t 118), none⟩, none),
               (⟨some 120, .ia 14 (.t 119) (.c (.int .i64 0)), none⟩, none),
               (⟨some 121, .ld true 14 (.t 120), none⟩, none),
               (⟨some 122, .len (.t 114), none⟩, none),
               (⟨some 123, .bldS 14 1 (.agg [(.int .i64 0), (.str []), (.str []), (.str []), (.int .i64 0), (.str []), (.sl 1 ⟨none, 0, (some 0), true⟩ []), (.sl 4 ⟨none, 0, (some 0), true⟩ []), (.str []), (.sl 14 ⟨none, 0, (some 0), true⟩ []), (.sl 1 ⟨none, 0, (some 0), true⟩ []), (.str []), (.str []), (.int .i64 0)]) [(0, (.c (.agg [(.int .i64 0), (.str []), (.str []), (.str []), (.int .i64 0), (.str []), (.sl 1 ⟨none, 0, (some 0), true⟩ []), (.sl 4 ⟨none, 0, (some 0), true⟩ []), (.str []), (.sl 14 ⟨none, 0, (some 0), true⟩ []), (.sl 1 ⟨none, 0, (some 0), true⟩ []), (.str []), (.str []), (.int .i64 0)])))], none⟩, none),
               (⟨some 124, .app true 28 14 232 (.t 114) (.t 123), none⟩, none),
               (⟨some 125, .ia 14 (.t 111) (.c (.int .i64 1)), none⟩, none),
               (⟨some 126, .fa 9 (.t 125), none⟩, none),
               (⟨none, .st 1 (.t 126) (.t 124), none⟩, none)] [1, 121, 122, 124])
             (.reg [
               ⟨some 127, .ia 14 (.t 124) (.t 122), none⟩,
               ⟨none, .st 14 (.t 127) (.t 121), none⟩] [1]))
            (.drw [
              (⟨some 128, .fa 9 (.t 1), none⟩, (some 1)),
              (⟨some 129, .ld false 1 (.t 128), none⟩, (some 1)),
              (⟨some 130, .fa 9 (.t 1), none⟩, (some 1)),
              (⟨some 131, .ld false 1 (.t 130), none⟩, (some 1)),
              (⟨some 132, .ia 14 (.t 131) (.c (.int .i64 1)), none⟩, none),
              (⟨some 133, .fa 9 (.t 132), none⟩, none),
              (⟨some 134, .ld false 1 (.t 133), none⟩, none),
              (⟨some 135, .fa 9 (.t 1), none⟩, (some 1)),
              (⟨some 136, .ld false 1 (.t 135), none⟩, (some 1)),
              (⟨some 137, .ia 14 (.t 136) (.c (.int .i64 1)), none⟩, none),
              (⟨some 138, .fa 9 (.t 137), none⟩, none),
              (⟨some 139, .ld false 1 (.t 138), none⟩, none),
              (⟨some 140, .ia 14 (.t 139) (.c (.int .i64 0)), none⟩, none),
              (⟨some 141, .ld true 14 (.t 140), none⟩, none),
              (⟨some 142, .bldS 14 1 (.agg [(.int .i64 0), (.str []), (.str []), (.str []), (.int .i64 0), (.str []), (.sl 1 ⟨none, 0, (some 0), true⟩ []), (.sl 4 ⟨none, 0, (some 0), true⟩ []), (.str []), (.sl 14 ⟨none, 0, (some 0), true⟩ []), (.sl 1 ⟨none, 0, (some 0), true⟩ []), (.str []), (.str []), (.int .i64 0)]) [(0, (.t 141))], none⟩, none),
              (⟨some 143, .app true 28 14 232 (.t 134) (.t 142), none⟩, none),
              (⟨some 144, .ia 14 (.t 129) (.c (.int .i64 1)), none⟩, none),
              (⟨some 145, .fa 9 (.t 144), none⟩, none),
              (⟨none, .st 1 (.t 145) (.t 143), none⟩, none)] [1])))
          (.seq
           (.reg [
             ⟨some 146, .fa 9 (.t 1), none⟩,
             ⟨some 147, .ld false 1 (.t 146), none⟩,
             ⟨some 148, .bldT 9 1 1 (.str []) [(0, (.c (.str [44])))], none⟩,
             ⟨some 149, .ia 14 (.t 147) (.c (.int .i64 1)), none⟩,
             ⟨some 150, .fa 10 (.t 149), none⟩,
             ⟨none, .st 1 (.t 150) (.t 148), none⟩] [1])
           (.seq
            (.reg [
              ⟨some 152, .ld true 14 (.t 1), none⟩,
              ⟨some 153, .call 9 [(.t 152)], none⟩,
              ⟨some 151, .mv (.t 153), none⟩,
              ⟨some 154, .ext (.t 151) 0, none⟩,
              ⟨some 155, .ext (.t 151) 1, none⟩,
              ⟨some 3, .mv (.t 155), none⟩] [1, 3])
            (.seq
             (.reg [
               ⟨some 156, .mv (.t 3), none⟩,
               ⟨some 157, .bin .eql (some .int) (.t 156) (.c (.int .i64 1)), none⟩,
               ⟨some 158, .mv (.t 157), none⟩,
               ⟨some 159, .ld true 14 (.t 1), some (158, true)⟩,
               ⟨some 160, .call 14 [(.t 159)], some (158, true)⟩,
               ⟨some 161, .un .not (.t 160), some (158, true)⟩,
               ⟨some 162, .pick (.t 158) (.t 161) (.c (.bool false)), none⟩,
               ⟨some 163, .mv (.t 162), none⟩,
               ⟨some 164, .bld [(.int .i64 0), (.str []), (.str []), (.str []), (.int .i64 0), (.str []), (.sl 1 ⟨none, 0, (some 0), true⟩ []), (.sl 4 ⟨none, 0, (some 0), true⟩ []), (.str []), (.sl 14 ⟨none, 0, (some 0), true⟩ []), (.sl 1 ⟨none, 0, (some 0), true⟩ []), (.str []), (.str []), (.int .i64 0)] [], some (163, true)⟩,
               ⟨some 165, .call 11 [(.t 164)], some (163, true)⟩,
               ⟨some 166, .bin .eql (some .str) (.t 165) (.c (.str [])), some (163, true)⟩,
               ⟨some 167, .pick (.t 163) (.t 166) (.c (.bool false)), none⟩,
               ⟨some 0, .mv (.t 167), none⟩] [0])
             .ret))))))))))))),
[.tmp 0]⟩
theorem F3_ok : prepF Go.Proofs.Tryz.prog ⟨[1, 2, 6, 9, 12, 108], [(0, []), (1, [1]), (2, [1, 2, 3]), (3, [1, 3, 4, 5]), (4, [1, 55]), (5, [0]), (6, [1, 6, 7, 8]), (7, [1, 6, 7, 8, 9, 10, 11]), (8, [1, 6, 7, 8, 9, 10, 11, 14]), (9, [1, 107]), (10, [0]), (11, [1, 109]), (12, [1, 121, 122, 124]), (13, [1]), (14, [1]), (15, [1]), (16, [1, 3]), (17, [0])], [(14, [(some 1), (some 1), (some 1), (some 1), none, none, none, (some 1), (some 1), none, none, none, none, none, none, none, none, none, none]), (12, [(some 1), (some 1), none, none, none, (some 1), (some 1), none, none, none, none, none, none, none, none, none, none, none]), (11, [none, (some 108), (some 108), (some 108)])]⟩ Go.Proofs.Tryz.f3 = some F3 := by kernel_rfl
/-- emend/emendlaw4.list -/
def F8 : DF := ⟨0,
(.seq
 (.reg [
   ⟨some 0, .alL [(.int .i64 0), (.str []), (.str []), (.str []), (.int .i64 0), (.str []), (.sl 1 ⟨none, 0, (some 0), true⟩ []), (.sl 4 ⟨none, 0, (some 0), true⟩ []), (.str []), (.sl 14 ⟨none, 0, (some 0), true⟩ []), (.sl 1 ⟨none, 0, (some 0), true⟩ []), (.str []), (.str []), (.int .i64 0)], none⟩] [0])
 (.seq
  (.reg [
    ⟨some 4, .bld [(.int .i64 0), (.str []), (.sl 1 ⟨none, 0, (some 0), true⟩ []), (.sl 4 ⟨none, 0, (some 0), true⟩ [])] [(0, 1, (.c (.int .i64 3))), (1, 1, (.c (.str [49])))], none⟩,
    ⟨some 5, .bld [(.int .i64 0), (.str []), (.str []), (.str []), (.int .i64 0), (.str []), (.sl 1 ⟨none, 0, (some 0), true⟩ []), (.sl 4 ⟨none, 0, (some 0), true⟩ []), (.str []), (.sl 14 ⟨none, 0, (some 0), true⟩ []), (.sl 1 ⟨none, 0, (some 0), true⟩ []), (.str []), (.str []), (.int .i64 0)] [(0, 1, (.c (.int .i64 3))), (3, 1, (.c (.str [49]))), (4, 4, (.t 4))], none⟩,
    ⟨some 1, .alL [(.int .i64 0), (.str []), (.str []), (.str []), (.int .i64 0), (.str []), (.sl 1 ⟨none, 0, (some 0), true⟩ []), (.sl 4 ⟨none, 0, (some 0), true⟩ []), (.str []), (.sl 14 ⟨none, 0, (some 0), true⟩ []), (.sl 1 ⟨none, 0, (some 0), true⟩ []), (.str []), (.str []), (.int .i64 0)], none⟩,
    ⟨none, .st 14 (.t 1) (.t 5), none⟩] [0, 1])
  (.seq
   (.reg [
     ⟨some 6, .bld [(.int .i64 0), (.str []), (.sl 1 ⟨none, 0, (some 0), true⟩ []), (.sl 4 ⟨none, 0, (some 0), true⟩ [])] [(0, 1, (.c (.int .i64 3))), (1, 1, (.c (.str [50])))], none⟩,
     ⟨some 7, .bld [(.int .i64 0), (.str []), (.str []), (.str []), (.int .i64 0), (.str []), (.sl 1 ⟨none, 0, (some 0), true⟩ []), (.sl 4 ⟨none, 0, (some 0), true⟩ []), (.str []), (.sl 14 ⟨none, 0, (some 0), true⟩ []), (.sl 1 ⟨none, 0, (some 0), true⟩ []), (.str []), (.str []), (.int .i64 0)] [(0, 1, (.c (.int .i64 3))), (1, 1, (.c (.str [34, 97, 34, 58, 32]))), (2, 1, (.c (.str [97]))), (3, 1, (.c (.str [50]))), (4, 4, (.t 6))], none⟩,
     ⟨some 2, .alL [(.int .i64 0), (.str []), (.str []), (.str []), (.int .i64 0), (.str []), (.sl 1 ⟨none, 0, (some 0), true⟩ []), (.sl 4 ⟨none, 0, (some 0), true⟩ []), (.str []), (.sl 14 ⟨none, 0, (some 0), true⟩ []), (.sl 1 ⟨none, 0, (some 0), true⟩ []), (.str []), (.str []), (.int .i64 0)], none⟩,
     ⟨none, .st 14 (.t 2) (.t 7), none⟩] [0, 1, 2])
   (.seq
    (.reg [
      ⟨some 8, .ld true 14 (.t 2), none⟩,
      ⟨some 9, .bldT 28 14 1 (.agg [(.int .i64 0), (.str []), (.str []), (.str []), (.int .i64 0), (.str []), (.sl 1 ⟨none, 0, (some 0), true⟩ []), (.sl 4 ⟨none, 0, (some 0), true⟩ []), (.str []), (.sl 14 ⟨none, 0, (some 0), true⟩ []), (.sl 1 ⟨none, 0, (some 0), true⟩ []), (.str []), (.str []), (.int .i64 0)]) [(0, (.t 8))], none⟩,
      ⟨some 10, .bld [(.int .i64 0), (.str []), (.str []), (.str []), (.int .i64 0), (.str []), (.sl 1 ⟨none, 0, (some 0), true⟩ []), (.sl 4 ⟨none, 0, (some 0), true⟩ []), (.str []), (.sl 14 ⟨none, 0, (some 0), true⟩ []), (.sl 1 ⟨none, 0, (some 0), true⟩ []), (.str []), (.str []), (.int .i64 0)] [(0, 1, (.c (.int .i64 7))), (1, 1, (.c (.str [32]))), (8, 1, (.c (.str [123]))), (11, 1, (.c (.str [125]))), (9, 1, (.t 9))], none⟩,
      ⟨some 3, .alL [(.int .i64 0), (.str []), (.str []), (.str []), (.int .i64 0), (.str []), (.sl 1 ⟨none, 0, (some 0), true⟩ []), (.sl 4 ⟨none, 0, (some 0), true⟩ []), (.str []), (.sl 14 ⟨none, 0, (some 0), true⟩ []), (.sl 1 ⟨none, 0, (some 0), true⟩ []), (.str []), (.str []), (.int .i64 0)], none⟩,
      ⟨none, .st 14 (.t 3) (.t 10), none⟩] [0, 1, 3])
    (.seq
     (.reg [
       ⟨some 11, .bldT 9 1 1 (.str []) [(0, (.c (.str [44])))], none⟩,
       ⟨some 12, .ld true 14 (.t 1), none⟩,
       ⟨some 13, .ld true 14 (.t 3), none⟩,
       ⟨some 14, .bldT 28 14 2 (.agg [(.int .i64 0), (.str []), (.str []), (.str []), (.int .i64 0), (.str []), (.sl 1 ⟨none, 0, (some 0), true⟩ []), (.sl 4 ⟨none, 0, (some 0), true⟩ []), (.str []), (.sl 14 ⟨none, 0, (some 0), true⟩ []), (.sl 1 ⟨none, 0, (some 0), true⟩ []), (.str []), (.str []), (.int .i64 0)]) [(0, (.t 12)), (1, (.t 13))], none⟩,
       ⟨some 15, .bld [(.int .i64 0), (.str []), (.str []), (.str []), (.int .i64 0), (.str []), (.sl 1 ⟨none, 0, (some 0), true⟩ []), (.sl 4 ⟨none, 0, (some 0), true⟩ []), (.str []), (.sl 14 ⟨none, 0, (some 0), true⟩ []), (.sl 1 ⟨none, 0, (some 0), true⟩ []), (.str []), (.str []), (.int .i64 0)] [(0, 1, (.c (.int .i64 6))), (8, 1, (.c (.str [91]))), (11, 1, (.c (.str [93]))), (10, 1, (.t 11)), (9, 1, (.t 14))], none⟩,
       ⟨none, .st 14 (.t 0) (.t 15), none⟩] [0])
     .ret))))),
[.cell 0 true 14]⟩
theorem F8_ok : prepF Go.Proofs.Tryz.prog ⟨[0, 1, 2, 3], [(0, [0]), (1, [0, 1]), (2, [0, 1, 2]), (3, [0, 1, 3]), (4, [0])], []⟩ Go.Proofs.Tryz.f8 = some F8 := by kernel_rfl
/-- emend/cst.Tree -/
def F9 : DF := ⟨1,
(.seq
 (.reg [
   ⟨some 1, .bxL (.t 0), none⟩,
   ⟨some 2, .alL [(.int .i64 0), (.str []), (.sl 1 ⟨none, 0, (some 0), true⟩ []), (.sl 4 ⟨none, 0, (some 0), true⟩ [])], none⟩,
   ⟨some 3, .mv (.c (.int .i64 0)), none⟩] [1, 2])
 (.seq
  (.seq
   (.reg [
     ⟨some 4, .ld true 14 (.t 1), none⟩,
     ⟨some 5, .call 14 [(.t 4)], none⟩,
     ⟨some 6, .un .not (.t 5), none⟩] [1, 2, 6])
   (.cnd (.t 6)
    (.seq
     (.reg [
       ⟨some 7, .bld [(.int .i64 0), (.str []), (.sl 1 ⟨none, 0, (some 0), true⟩ []), (.sl 4 ⟨none, 0, (some 0), true⟩ [])] [], none⟩,
       ⟨none, .st 4 (.t 2) (.t 7), none⟩,
       ⟨some 3, .mv (.c (.int .i64 1)), none⟩] [2, 3])
     .ret)
    .skip))
  (.seq
   (.reg [
     ⟨some 8, .ld true 14 (.t 1), none⟩,
     ⟨some 9, .call 32 [(.t 8)], none⟩,
     ⟨none, .st 4 (.t 2) (.t 9), none⟩,
     ⟨some 3, .mv (.c (.int .i64 0)), none⟩] [2, 3])
   .ret))),
[.cell 2 true 4, .tmp 3]⟩
theorem F9_ok : prepF Go.Proofs.Tryz.prog ⟨[1, 2], [(0, [1, 2]), (1, [1, 2, 6]), (2, [2, 3]), (3, [2, 3])], []⟩ Go.Proofs.Tryz.f9 = some F9 := by kernel_rfl
/-- emend/tree.Text -/
def F10 : DF := ⟨1,
(.seq
 (.reg [
   ⟨some 1, .bxL (.t 0), none⟩,
   ⟨some 2, .mv (.c (.str [])), none⟩,
   ⟨some 3, .mv (.c (.int .i64 0)), none⟩] [1])
 (.seq
  (.seq
   (.reg [
     ⟨some 6, .ld true 4 (.t 1), none⟩,
     ⟨some 7, .call 28 [(.t 6)], none⟩,
     ⟨some 4, .mv (.t 7), none⟩] [1, 4])
   (.seq
    (.reg [
      ⟨some 8, .mv (.t 4), none⟩,
      ⟨some 9, .bin .neq (some .int) (.t 8) (.c (.int .i64 0)), none⟩] [1, 4, 9])
    (.cnd (.t 9)
     (.seq
      (.reg [
        ⟨some 10, .mv (.t 4), none⟩,
        ⟨some 2, .mv (.c (.str [])), none⟩,
        ⟨some 3, .mv (.t 10), none⟩] [2, 3])
      .ret)
     .skip)))
  (.seq
   (.reg [
     ⟨some 11, .bld [.nilp, (.sl 1 ⟨none, 0, (some 0), true⟩ [])] [], none⟩,
     ⟨some 12, .bxH 65 (.t 11), none⟩,
     ⟨some 5, .mv (.t 12), none⟩] [1, 5])
   (.seq
    (.reg [
      ⟨some 13, .mv (.t 5), none⟩,
      ⟨some 14, .ld true 4 (.t 1), none⟩,
      ⟨some 15, .call 33 [(.t 13), (.t 14)], none⟩] [5])
    (.seq
     (.seq
      (.reg [
        ⟨some 16, .mv (.t 5), none⟩,
        ⟨some 17, .nilc (.t 16), none⟩,
        ⟨some 18, .fa 0 (.t 17), none⟩,
        ⟨some 19, .call 34 [(.t 18)], none⟩,
        ⟨some 20, .bin .gtr none (.t 19) (.c (.int .i64 65536)), none⟩] [5, 20])
      (.cnd (.t 20)
       (.seq
        (.reg [
          ⟨some 2, .mv (.c (.str [])), none⟩,
          ⟨some 3, .mv (.c (.int .i64 2)), none⟩] [2, 3])
        .ret)
       .skip))
     (.seq
      (.reg [
        ⟨some 21, .mv (.t 5), none⟩,
        ⟨some 22, .nilc (.t 21), none⟩,
        ⟨some 23, .fa 0 (.t 22), none⟩,
        ⟨some 24, .call 35 [(.t 23)], none⟩,
        ⟨some 2, .mv (.t 24), none⟩,
        ⟨some 3, .mv (.c (.int .i64 0)), none⟩] [2, 3])
      .ret)))))),
[.tmp 2, .tmp 3]⟩
theorem F10_ok : prepF Go.Proofs.Tryz.prog ⟨[1], [(0, [1]), (1, [1, 4]), (2, [1, 4, 9]), (3, [2, 3]), (4, [1, 5]), (5, [5]), (6, [5, 20]), (7, [2, 3]), (8, [2, 3])], []⟩ Go.Proofs.Tryz.f10 = some F10 := by kernel_rfl
/-- emend/cst.Flatten -/
def F11 : DF := ⟨1,
(.seq
 (.reg [
   ⟨some 1, .bxL (.t 0), none⟩,
   ⟨some 2, .mv (.c (.str [])), none⟩] [1])
 (.seq
  (.reg [
    ⟨some 3, .alH 63 [.nilp, (.sl 1 ⟨none, 0, (some 0), true⟩ [])], none⟩] [1, 3])
  (.seq
   (.reg [
     ⟨some 4, .ld true 14 (.t 1), none⟩,
     ⟨some 5, .mkf 37 [] [(.t 3)], none⟩,
     ⟨some 6, .call 36 [(.t 4), (.t 5)], none⟩] [3])
   (.seq
    (.reg [
      ⟨some 7, .call 35 [(.t 3)], none⟩,
      ⟨some 2, .mv (.t 7), none⟩] [2])
    .ret)))),
[.tmp 2]⟩
theorem F11_ok : prepF Go.Proofs.Tryz.prog ⟨[1], [(0, [1]), (1, [1, 3]), (2, [3]), (3, [2])], []⟩ Go.Proofs.Tryz.f11 = some F11 := by kernel_rfl
/-- emend/cst.Len -/
def F12 : DF := ⟨1,
(.seq
 (.reg [
   ⟨some 1, .bxL (.t 0), none⟩,
   ⟨some 2, .mv (.c (.int .i64 0)), none⟩] [1])
 (.seq
  (.reg [
    ⟨some 3, .alH 3 [(.int .i64 0)], none⟩,
    ⟨none, .st 1 (.t 3) (.c (.int .i64 0)), none⟩] [1, 3])
  (.seq
   (.reg [
     ⟨some 4, .ld true 14 (.t 1), none⟩,
     ⟨some 5, .mkf 39 [] [(.t 3)], none⟩,
     ⟨some 6, .call 36 [(.t 4), (.t 5)], none⟩] [3])
   (.seq
    (.reg [
      ⟨some 7, .ld false 1 (.t 3), none⟩,
      ⟨some 2, .mv (.t 7), none⟩] [2])
    .ret)))),
[.tmp 2]⟩
theorem F12_ok : prepF Go.Proofs.Tryz.prog ⟨[1], [(0, [1]), (1, [1, 3]), (2, [3]), (3, [2])], []⟩ Go.Proofs.Tryz.f12 = some F12 := by kernel_rfl
/-- emend/cst.Count -/
def F13 : DF := ⟨1,
(.seq
 (.reg [
   ⟨some 1, .bxL (.t 0), none⟩,
   ⟨some 2, .mv (.c (.int .i64 0)), none⟩] [1])
 (.seq
  (.reg [
    ⟨some 3, .mv (.c (.int .i64 1)), none⟩] [1, 3])
  (.seq
   (.seq
    (.reg [
      ⟨some 6, .fa 9 (.t 1), none⟩,
      ⟨some 7, .ld false 1 (.t 6), none⟩,
      ⟨some 8, .len (.t 7), none⟩,
      ⟨some 9, .mv (.c (.int .i64 0)), none⟩] [3, 7, 8, 9])
    (.blk 0
     (.seq
      (.trim [3, 7, 8, 9])
      (.lop
       (.seq
        (.seq
         (.reg [
           ⟨some 10, .bin .lss none (.t 9) (.t 8), none⟩] [3, 7, 8, 9, 10])
         (.seq
          (.cnd (.t 10)
           .skip
           (.exit 0))
          (.seq
           (.blk 1
            (.seq
             (.reg [
               ⟨some 11, .ia 14 (.t 7) (.t 9), none⟩,
               ⟨some 12, .ld true 14 (.t 11), none⟩,
               ⟨some 5, .alL [(.int .i64 0), (.str []), (.str []), (.str []), (.int .i64 0), (.str []), (.sl 1 ⟨none, 0, (some 0), true⟩ []), (.sl 4 ⟨none, 0, (some 0), true⟩ []), (.str []), (.sl 14 ⟨none, 0, (some 0), true⟩ []), (.sl 1 ⟨none, 0, (some 0), true⟩ []), (.str []), (.str []), (.int .i64 0)], none⟩,
               ⟨none, .st 14 (.t 5) (.t 12), none⟩] [3, 5, 7, 8, 9])
             (.reg [
               ⟨some 13, .mv (.t 3), none⟩,
               ⟨some 14, .ld true 14 (.t 5), none⟩,
               ⟨some 15, .call 13 [(.t 14)], none⟩,
               ⟨some 16, .bin .add none (.t 13) (.t 15), none⟩,
               ⟨some 3, .mv (.t 16), none⟩] [3, 7, 8, 9])))
           (.reg [
             ⟨some 17, .bin .add none (.t 9) (.c (.int .i64 1)), none⟩,
             ⟨some 9, .mv (.t 17), none⟩] [3, 7, 8, 9]))))
        (.trim [3, 7, 8, 9]))))))
   (.seq
    (.reg [
      ⟨some 18, .mv (.t 3), none⟩,
      ⟨some 2, .mv (.t 18), none⟩] [2])
    .ret)))),
[.tmp 2]⟩
theorem F13_ok : prepF Go.Proofs.Tryz.prog ⟨[1, 5], [(0, [1]), (1, [1, 3]), (2, [3, 7, 8, 9]), (3, [3, 7, 8, 9, 10]), (4, [3, 5, 7, 8, 9]), (5, [3, 7, 8, 9]), (6, [3, 7, 8, 9]), (7, [2]), (1000000, [3, 7, 8, 9])], []⟩ Go.Proofs.Tryz.f13 = some F13 := by kernel_rfl
/-- emend/cst.Right -/
def F14 : DF := ⟨1,
(.seq
 (.reg [
   ⟨some 1, .bxL (.t 0), none⟩,
   ⟨some 2, .mv (.c (.bool false)), none⟩] [1])
 (.seq
  (.reg [
    ⟨some 3, .ld true 14 (.t 1), none⟩,
    ⟨some 4, .call 40 [(.t 3)], none⟩,
    ⟨some 5, .bin .leq none (.t 4) (.c (.int .i64 64)), none⟩,
    ⟨some 6, .mv (.t 5), none⟩,
    ⟨some 7, .ld true 14 (.t 1), some (6, true)⟩,
    ⟨some 8, .call 13 [(.t 7)], some (6, true)⟩,
    ⟨some 9, .bin .leq none (.t 8) (.c (.int .i64 4096)), some (6, true)⟩,
    ⟨some 10, .pick (.t 6) (.t 9) (.c (.bool false)), none⟩,
    ⟨some 11, .mv (.t 10), none⟩,
    ⟨some 12, .ld true 14 (.t 1), some (11, true)⟩,
    ⟨some 13, .call 41 [(.t 12)], some (11, true)⟩,
    ⟨some 14, .pick (.t 11) (.t 13) (.c (.bool false)), none⟩,
    ⟨some 2, .mv (.t 14), none⟩] [2])
  .ret)),
[.tmp 2]⟩
theorem F14_ok : prepF Go.Proofs.Tryz.prog ⟨[1], [(0, [1]), (1, [2])], []⟩ Go.Proofs.Tryz.f14 = some F14 := by kernel_rfl
/-- emend/cst.Find -/
def F15 : DF := ⟨2,
(.seq
 (.reg [
   ⟨some 2, .bxL (.t 0), none⟩,
   ⟨some 4, .alL [(.int .i64 0), (.str []), (.str []), (.str []), (.int .i64 0), (.str []), (.sl 1 ⟨none, 0, (some 0), true⟩ []), (.sl 4 ⟨none, 0, (some 0), true⟩ []), (.str []), (.sl 14 ⟨none, 0, (some 0), true⟩ []), (.sl 1 ⟨none, 0, (some 0), true⟩ []), (.str []), (.str []), (.int .i64 0)], none⟩,
   ⟨some 5, .mv (.c (.int .i64 0)), none⟩,
   ⟨some 6, .mv (.c (.bool false)), none⟩] [1, 2, 4])
 (.seq
  (.reg [
    ⟨some 7, .mv (.c (.int .i64 0)), none⟩] [1, 2, 4, 7])
  (.seq
   (.seq
    (.reg [
      ⟨some 13, .mv (.t 1), none⟩,
      ⟨some 14, .len (.t 13), none⟩,
      ⟨some 15, .mv (.c (.int .i64 0)), none⟩] [2, 4, 7, 13, 14, 15])
    (.blk 0
     (.seq
      (.trim [2, 4, 7, 13, 14, 15])
      (.lop
       (.seq
        (.seq
         (.reg [
           ⟨some 16, .bin .lss none (.t 15) (.t 14), none⟩] [2, 4, 7, 13, 14, 15, 16])
         (.seq
          (.cnd (.t 16)
           .skip
           (.exit 0))
          (.seq
           (.blk 1
            (.seq
             (.reg [
               ⟨some 17, .ia 2 (.t 13) (.t 15), none⟩,
               ⟨some 18, .ld true 2 (.t 17), none⟩,
               ⟨some 9, .alL [(.str []), (.int .i64 0)], none⟩,
               ⟨none, .st 2 (.t 9) (.t 18), none⟩] [2, 4, 7, 9, 13, 14, 15])
             (.seq
              (.reg [
                ⟨some 19, .ld true 14 (.t 2), none⟩,
                ⟨some 20, .ld true 2 (.t 9), none⟩,
                ⟨some 21, .call 42 [(.t 19), (.t 20)], none⟩,
                ⟨some 10, .mv (.t 21), none⟩] [2, 4, 7, 10, 13, 14, 15])
              (.seq
               (.seq
                (.reg [
                  ⟨some 22, .mv (.t 10), none⟩,
                  ⟨some 23, .bin .lss none (.t 22) (.c (.int .i64 0)), none⟩] [2, 4, 7, 10, 13, 14, 15, 23])
                (.cnd (.t 23)
                 (.seq
                  (.reg [
                    ⟨some 24, .bld [(.int .i64 0), (.str []), (.str []), (.str []), (.int .i64 0), (.str []), (.sl 1 ⟨none, 0, (some 0), true⟩ []), (.sl 4 ⟨none, 0, (some 0), true⟩ []), (.str []), (.sl 14 ⟨none, 0, (some 0), true⟩ []), (.sl 1 ⟨none, 0, (some 0), true⟩ []), (.str []), (.str []), (.int .i64 0)] [], none⟩,
                    ⟨none, .st 14 (.t 4) (.t 24), none⟩,
                    ⟨some 5, .mv (.c (.int .i64 0)), none⟩,
                    ⟨some 6, .mv (.c (.bool false)), none⟩] [4, 5, 6])
                  .ret)
                 .skip))
               (.seq
                (.reg [
                  ⟨some 25, .mv (.t 7), none⟩,
                  ⟨some 26, .fa 1 (.t 2), none⟩,
                  ⟨some 27, .ld false 1 (.t 26), none⟩,
                  ⟨some 28, .lenS (.t 27), none⟩,
                  ⟨some 29, .fa 8 (.t 2), none⟩,
                  ⟨some 30, .ld false 1 (.t 29), none⟩,
                  ⟨some 31, .lenS (.t 30), none⟩,
                  ⟨some 32, .bin .add none (.t 28) (.t 31), none⟩,
                  ⟨some 33, .bin .add none (.t 25) (.t 32), none⟩,
                  ⟨some 7, .mv (.t 33), none⟩] [2, 4, 7, 10, 13, 14, 15])
                (.seq
                 (.seq
                  (.reg [
                    ⟨some 34, .fa 9 (.t 2), none⟩,
                    ⟨some 35, .ld false 1 (.t 34), none⟩,
                    ⟨some 36, .mv (.t 10), none⟩,
                    ⟨some 37, .slA 14 (.t 35) none (some (.t 36)) none, none⟩,
                    ⟨some 38, .len (.t 37), none⟩,
                    ⟨some 39, .mv (.c (.int .i64 0)), none⟩] [2, 4, 7, 10, 13, 14, 15, 37, 38, 39])
                  (.blk 2
                   (.seq
                    (.trim [2, 4, 7, 10, 13, 14, 15, 37, 38, 39])
                    (.lop
                     (.seq
                      (.seq
                       (.reg [
                         ⟨some 40, .bin .lss none (.t 39) (.t 38), none⟩] [2, 4, 7, 10, 13, 14, 15, 37, 38, 39, 40])
                       (.seq
                        (.cnd (.t 40)
                         .skip
                         (.exit 2))
                        (.seq
                         (.blk 3
                          (.seq
                           (.reg [
                             ⟨some 41, .mv (.t 39), none⟩,
                             ⟨some 42, .ia 14 (.t 37) (.t 39), none⟩,
                             ⟨some 43, .ld true 14 (.t 42), none⟩,
                             ⟨some 12, .alL [(.int .i64 0), (.str []), (.str []), (.str []), (.int .i64 0), (.str []), (.sl 1 ⟨none, 0, (some 0), true⟩ []), (.sl 4 ⟨none, 0, (some 0), true⟩ []), (.str []), (.sl 14 ⟨none, 0, (some 0), true⟩ []), (.sl 1 ⟨none, 0, (some 0), true⟩ []), (.str []), (.str []), (.int .i64 0)], none⟩,
                             ⟨some 11, .mv (.t 41), none⟩,
                             ⟨none, .st 14 (.t 12) (.t 43), none⟩] [2, 4, 7, 10, 11, 12, 13, 14, 15, 37, 38, 39])
                           (.seq
                            (.reg [
                              ⟨some 44, .mv (.t 7), none⟩,
                              ⟨some 45, .ld true 14 (.t 12), none⟩,
                              ⟨some 46, .call 12 [(.t 45)], none⟩,
                              ⟨some 47, .bin .add none (.t 44) (.t 46), none⟩,
                              ⟨some 7, .mv (.t 47), none⟩] [2, 4, 7, 10, 11, 13, 14, 15, 37, 38, 39])
                            (.seq
                             (.reg [
                               ⟨some 48, .mv (.t 11), none⟩,
                               ⟨some 49, .fa 10 (.t 2), none⟩,
                               ⟨some 50, .ld false 1 (.t 49), none⟩,
                               ⟨some 51, .len (.t 50), none⟩,
                               ⟨some 52, .bin .lss none (.t 48) (.t 51), none⟩] [2, 4, 7, 10, 11, 13, 14, 15, 37, 38, 39, 52])
                             (.cnd (.t 52)
                              (.reg [
                                ⟨some 53, .mv (.t 7), none⟩,
                                ⟨some 54, .fa 10 (.t 2), none⟩,
                                ⟨some 55, .ld false 1 (.t 54), none⟩,
                                ⟨some 56, .mv (.t 11), none⟩,
                                ⟨some 57, .ia 1 (.t 55) (.t 56), none⟩,
                                ⟨some 58, .ld false 1 (.t 57), none⟩,
                                ⟨some 59, .lenS (.t 58), none⟩,
                                ⟨some 60, .bin .add none (.t 53) (.t 59), none⟩,
                                ⟨some 7, .mv (.t 60), none⟩] [2, 4, 7, 10, 13, 14, 15, 37, 38, 39])
                              .skip)))))
                         (.reg [
                           ⟨some 61, .bin .add none (.t 39) (.c (.int .i64 1)), none⟩,
                           ⟨some 39, .mv (.t 61), none⟩] [2, 4, 7, 10, 13, 14, 15, 37, 38, 39]))))
                      (.trim [2, 4, 7, 10, 13, 14, 15, 37, 38, 39]))))))
                 (.reg [
                   ⟨some 62, .fa 9 (.t 2), none⟩,
                   ⟨some 63, .ld false 1 (.t 62), none⟩,
                   ⟨some 64, .mv (.t 10), none⟩,
                   ⟨some 65, .ia 14 (.t 63) (.t 64), none⟩,
                   ⟨some 66, .ld true 14 (.t 65), none⟩,
                   ⟨none, .st 14 (.t 2) (.t 66), none⟩] [2, 4, 7, 13, 14, 15])))))))
           (.reg [
             ⟨some 67, .bin .add none (.t 15) (.c (.int .i64 1)), none⟩,
             ⟨some 15, .mv (.t 67), none⟩] [2, 4, 7, 13, 14, 15]))))
        (.trim [2, 4, 7, 13, 14, 15]))))))
   (.seq
    (.reg [
      ⟨some 68, .ld true 14 (.t 2), none⟩,
      ⟨some 69, .call 24 [(.t 68)], none⟩,
      ⟨some 70, .mv (.t 7), none⟩,
      ⟨none, .st 14 (.t 4) (.t 69), none⟩,
      ⟨some 5, .mv (.t 70), none⟩,
      ⟨some 6, .mv (.c (.bool true)), none⟩] [4, 5, 6])
    .ret)))),
[.cell 4 true 14, .tmp 5, .tmp 6]⟩
theorem F15_ok : prepF Go.Proofs.Tryz.prog ⟨[2, 4, 9, 12], [(0, [1, 2, 4]), (1, [1, 2, 4, 7]), (2, [2, 4, 7, 13, 14, 15]), (3, [2, 4, 7, 13, 14, 15, 16]), (4, [2, 4, 7, 9, 13, 14, 15]), (5, [2, 4, 7, 10, 13, 14, 15]), (6, [2, 4, 7, 10, 13, 14, 15, 23]), (7, [4, 5, 6]), (8, [2, 4, 7, 10, 13, 14, 15]), (9, [2, 4, 7, 10, 13, 14, 15, 37, 38, 39]), (10, [2, 4, 7, 10, 13, 14, 15, 37, 38, 39, 40]), (11, [2, 4, 7, 10, 11, 12, 13, 14, 15, 37, 38, 39]), (12, [2, 4, 7, 10, 11, 13, 14, 15, 37, 38, 39]), (13, [2, 4, 7, 10, 11, 13, 14, 15, 37, 38, 39, 52]), (14, [2, 4, 7, 10, 13, 14, 15, 37, 38, 39]), (15, [2, 4, 7, 10, 13, 14, 15, 37, 38, 39]), (16, [2, 4, 7, 13, 14, 15]), (17, [2, 4, 7, 13, 14, 15]), (18, [4, 5, 6]), (1000000, [2, 4, 7, 13, 14, 15]), (1000002, [2, 4, 7, 10, 13, 14, 15, 37, 38, 39])], []⟩ Go.Proofs.Tryz.f15 = some F15 := by kernel_rfl
/-- emend/cst.Copy -/
def F24 : DF := ⟨1,
(.seq
 (.reg [
   ⟨some 1, .bxL (.t 0), none⟩,
   ⟨some 2, .alL [(.int .i64 0), (.str []), (.str []), (.str []), (.int .i64 0), (.str []), (.sl 1 ⟨none, 0, (some 0), true⟩ []), (.sl 4 ⟨none, 0, (some 0), true⟩ []), (.str []), (.sl 14 ⟨none, 0, (some 0), true⟩ []), (.sl 1 ⟨none, 0, (some 0), true⟩ []), (.str []), (.str []), (.int .i64 0)], none⟩] [1, 2])
 (.seq
  (.reg [
    ⟨some 6, .ld true 14 (.t 1), none⟩,
    ⟨some 3, .alL [(.int .i64 0), (.str []), (.str []), (.str []), (.int .i64 0), (.str []), (.sl 1 ⟨none, 0, (some 0), true⟩ []), (.sl 4 ⟨none, 0, (some 0), true⟩ []), (.str []), (.sl 14 ⟨none, 0, (some 0), true⟩ []), (.sl 1 ⟨none, 0, (some 0), true⟩ []), (.str []), (.str []), (.int .i64 0)], none⟩,
    ⟨none, .st 14 (.t 3) (.t 6), none⟩] [1, 2, 3])
  (.seq
   (.reg [
     ⟨some 7, .fa 4 (.t 1), none⟩,
     ⟨some 8, .ld true 4 (.t 7), none⟩,
     ⟨some 9, .call 49 [(.t 8)], none⟩,
     ⟨some 10, .fa 4 (.t 3), none⟩,
     ⟨none, .st 4 (.t 10) (.t 9), none⟩] [1, 2, 3])
   (.seq
    (.reg [
      ⟨some 11, .fa 10 (.t 1), none⟩,
      ⟨some 12, .ld false 1 (.t 11), none⟩,
      ⟨some 13, .app false 9 1 16 (.c (.sl 1 ⟨none, 0, (some 0), true⟩ [])) (.t 12), none⟩,
      ⟨some 14, .fa 9 (.t 3), none⟩,
      ⟨none, .st 1 (.t 14) (.c (.sl 14 ⟨none, 0, (some 0), true⟩ [])), none⟩,
      ⟨some 15, .fa 10 (.t 3), none⟩,
      ⟨none, .st 1 (.t 15) (.t 13), none⟩] [1, 2, 3])
    (.seq
     (.seq
      (.reg [
        ⟨some 16, .fa 9 (.t 1), none⟩,
        ⟨some 17, .ld false 1 (.t 16), none⟩,
        ⟨some 18, .len (.t 17), none⟩,
        ⟨some 19, .mv (.c (.int .i64 0)), none⟩] [2, 3, 17, 18, 19])
      (.blk 0
       (.seq
        (.trim [2, 3, 17, 18, 19])
        (.lop
         (.seq
          (.seq
           (.reg [
             ⟨some 20, .bin .lss none (.t 19) (.t 18), none⟩] [2, 3, 17, 18, 19, 20])
           (.seq
            (.cnd (.t 20)
             .skip
             (.exit 0))
            (.seq
             (.blk 1
              (.seq
               (.reg [
                 ⟨some 21, .ia 14 (.t 17) (.t 19), none⟩,
                 ⟨some 22, .ld true 14 (.t 21), none⟩,
                 ⟨some 5, .alL [(.int .i64 0), (.str []), (.str []), (.str []), (.int .i64 0), (.str []), (.sl 1 ⟨none, 0, (some 0), true⟩ []), (.sl 4 ⟨none, 0, (some 0), true⟩ []), (.str []), (.sl 14 ⟨none, 0, (some 0), true⟩ []), (.sl 1 ⟨none, 0, (some 0), true⟩ []), (.str []), (.str []), (.int .i64 0)], none⟩,
                 ⟨none, .st 14 (.t 5) (.t 22), none⟩] [2, 3, 5, 17, 18, 19])
               (.drw [
                 (⟨some 23, .fa 9 (.t 3), none⟩, (some 3)),
                 (⟨some 24, .ld false 1 (.t 23), none⟩, (some 3)),
                 (⟨some 25, .ld true 14 (.t 5), none⟩, (some 5)),
                 (⟨some 26, .call 24 [(.t 25)], none⟩, none),
                 (⟨some 27, .bldS 14 1 (.agg [(.int .i64 0), (.str []), (.str []), (.str []), (.int .i64 0), (.str []), (.sl 1 ⟨none, 0, (some 0), true⟩ []), (.sl 4 ⟨none, 0, (some 0), true⟩ []), (.str []), (.sl 14 ⟨none, 0, (some 0), true⟩ []), (.sl 1 ⟨none, 0, (some 0), true⟩ []), (.str []), (.str []), (.int .i64 0)]) [(0, (.t 26))], none⟩, none),
                 (⟨some 28, .app true 28 14 232 (.t 24) (.t 27), none⟩, none),
                 (⟨some 29, .fa 9 (.t 3), none⟩, (some 3)),
                 (⟨none, .st 1 (.t 29) (.t 28), none⟩, (some 3))] [2, 3, 17, 18, 19])))
             (.reg [
               ⟨some 30, .bin .add none (.t 19) (.c (.int .i64 1)), none⟩,
               ⟨some 19, .mv (.t 30), none⟩] [2, 3, 17, 18, 19]))))
          (.trim [2, 3, 17, 18, 19]))))))
     (.seq
      (.reg [
        ⟨some 31, .ld true 14 (.t 3), none⟩,
        ⟨none, .st 14 (.t 2) (.t 31), none⟩] [2])
      .ret)))))),
[.cell 2 true 14]⟩
theorem F24_ok : prepF Go.Proofs.Tryz.prog ⟨[1, 2, 3, 5], [(0, [1, 2]), (1, [1, 2, 3]), (2, [1, 2, 3]), (3, [1, 2, 3]), (4, [2, 3, 17, 18, 19]), (5, [2, 3, 17, 18, 19, 20]), (6, [2, 3, 5, 17, 18, 19]), (7, [2, 3, 17, 18, 19]), (8, [2, 3, 17, 18, 19]), (9, [2]), (1000000, [2, 3, 17, 18, 19])], [(7, [(some 3), (some 3), (some 5), none, none, none, (some 3), (some 3)])]⟩ Go.Proofs.Tryz.f24 = some F24 := by kernel_rfl
/-- emend/tree.Right -/
def F28 : DF := ⟨1,
(.seq
 (.reg [
   ⟨some 1, .bxL (.t 0), none⟩,
   ⟨some 2, .mv (.c (.int .i64 0)), none⟩] [1])
 (.seq
  (.blk 0
   (.seq
    (.reg [
      ⟨some 4, .ld true 4 (.t 1), none⟩,
      ⟨some 5, .call 52 [(.t 4)], none⟩,
      ⟨some 6, .bin .gtr none (.t 5) (.c (.int .i64 64)), none⟩,
      ⟨some 3, .mv (.t 6), none⟩] [1, 3])
    (.cnd (.t 3)
     (.seq
      (.reg [
        ⟨some 2, .mv (.c (.int .i64 4)), none⟩] [2])
      .ret)
     (.seq
      (.reg [
        ⟨some 8, .ld true 4 (.t 1), none⟩,
        ⟨some 9, .call 53 [(.t 8)], none⟩,
        ⟨some 10, .bin .gtr none (.t 9) (.c (.int .i64 4096)), none⟩,
        ⟨some 7, .mv (.t 10), none⟩] [1, 7])
      (.cnd (.t 7)
       (.seq
        (.reg [
          ⟨some 2, .mv (.c (.int .i64 3)), none⟩] [2])
        .ret)
       (.seq
        (.reg [
          ⟨some 12, .ld true 4 (.t 1), none⟩,
          ⟨some 13, .call 54 [(.t 12)], none⟩,
          ⟨some 14, .un .not (.t 13), none⟩,
          ⟨some 11, .mv (.t 14), none⟩] [11])
        (.cnd (.t 11)
         (.seq
          (.reg [
            ⟨some 2, .mv (.c (.int .i64 1)), none⟩] [2])
          .ret)
         .skip)))))))
  (.seq
   (.reg [
     ⟨some 2, .mv (.c (.int .i64 0)), none⟩] [2])
   .ret))),
[.tmp 2]⟩
theorem F28_ok : prepF Go.Proofs.Tryz.prog ⟨[1], [(0, [1]), (1, [1, 3]), (2, [2]), (3, [1, 7]), (4, [2]), (5, [11]), (6, [2]), (7, [2])], []⟩ Go.Proofs.Tryz.f28 = some F28 := by kernel_rfl
/-- emend/tree.Same -/
def F30 : DF := ⟨2,
(.seq
 (.reg [
   ⟨some 2, .bxL (.t 0), none⟩,
   ⟨some 3, .bxL (.t 1), none⟩,
   ⟨some 4, .mv (.c (.bool false)), none⟩] [2, 3])
 (.seq
  (.seq
   (.reg [
     ⟨some 5, .ld true 4 (.t 2), none⟩,
     ⟨some 6, .call 54 [(.t 5)], none⟩,
     ⟨some 7, .un .not (.t 6), none⟩,
     ⟨some 8, .mv (.t 7), none⟩,
     ⟨some 9, .ld true 4 (.t 3), some (8, false)⟩,
     ⟨some 10, .call 54 [(.t 9)], some (8, false)⟩,
     ⟨some 11, .un .not (.t 10), some (8, false)⟩,
     ⟨some 12, .pick (.t 8) (.c (.bool true)) (.t 11), none⟩] [2, 3, 12])
   (.cnd (.t 12)
    (.seq
     (.reg [
       ⟨some 13, .ld true 4 (.t 2), none⟩,
       ⟨some 14, .ld true 4 (.t 3), none⟩,
       ⟨some 15, .call 56 [(.t 13), (.t 14)], none⟩,
       ⟨some 4, .mv (.t 15), none⟩] [4])
     .ret)
    .skip))
  (.seq
   (.drw [
     (⟨some 16, .ld true 4 (.t 2), none⟩, (some 2)),
     (⟨some 18, .ld true 4 (.t 3), none⟩, (some 3)),
     (⟨some 17, .call 57 [(.t 16)], none⟩, none),
     (⟨some 19, .call 57 [(.t 18)], none⟩, none),
     (⟨some 20, .call 56 [(.t 17), (.t 19)], none⟩, none),
     (⟨some 4, .mv (.t 20), none⟩, none)] [4])
   .ret))),
[.tmp 4]⟩
theorem F30_ok : prepF Go.Proofs.Tryz.prog ⟨[2, 3], [(0, [2, 3]), (1, [2, 3, 12]), (2, [4]), (3, [4])], [(3, [(some 2), none, (some 3), none, none, none])]⟩ Go.Proofs.Tryz.f30 = some F30 := by kernel_rfl
/-- emend/cst.made -/
def F32 : DF := ⟨1,
(.seq
 (.reg [
   ⟨some 1, .bxL (.t 0), none⟩,
   ⟨some 2, .alL [(.int .i64 0), (.str []), (.sl 1 ⟨none, 0, (some 0), true⟩ []), (.sl 4 ⟨none, 0, (some 0), true⟩ [])], none⟩] [1, 2])
 (.seq
  (.seq
   (.reg [
     ⟨some 6, .ld true 14 (.t 1), none⟩,
     ⟨some 7, .call 58 [(.t 6)], none⟩] [1, 2, 7])
   (.cnd (.t 7)
    (.seq
     (.reg [
       ⟨some 8, .fa 4 (.t 1), none⟩,
       ⟨some 9, .ld true 4 (.t 8), none⟩,
       ⟨some 10, .call 49 [(.t 9)], none⟩,
       ⟨none, .st 4 (.t 2) (.t 10), none⟩] [2])
     .ret)
    .skip))
  (.seq
   (.reg [
     ⟨some 11, .fa 0 (.t 1), none⟩,
     ⟨some 12, .ld false 1 (.t 11), none⟩,
     ⟨some 13, .bld [(.int .i64 0), (.str []), (.sl 1 ⟨none, 0, (some 0), true⟩ []), (.sl 4 ⟨none, 0, (some 0), true⟩ [])] [(0, 1, (.t 12))], none⟩,
     ⟨some 3, .alL [(.int .i64 0), (.str []), (.sl 1 ⟨none, 0, (some 0), true⟩ []), (.sl 4 ⟨none, 0, (some 0), true⟩ [])], none⟩,
     ⟨none, .st 4 (.t 3) (.t 13), none⟩] [1, 2, 3])
   (.seq
    (.seq
     (.reg [
       ⟨some 14, .fa 9 (.t 1), none⟩,
       ⟨some 15, .ld false 1 (.t 14), none⟩,
       ⟨some 16, .len (.t 15), none⟩,
       ⟨some 17, .mv (.c (.int .i64 0)), none⟩] [1, 2, 3, 15, 16, 17])
     (.blk 0
      (.seq
       (.trim [1, 2, 3, 15, 16, 17])
       (.lop
        (.seq
         (.seq
          (.reg [
            ⟨some 18, .bin .lss none (.t 17) (.t 16), none⟩] [1, 2, 3, 15, 16, 17, 18])
          (.seq
           (.cnd (.t 18)
            .skip
            (.exit 0))
           (.seq
            (.blk 1
             (.seq
              (.reg [
                ⟨some 19, .ia 14 (.t 15) (.t 17), none⟩,
                ⟨some 20, .ld true 14 (.t 19), none⟩,
                ⟨some 5, .alL [(.int .i64 0), (.str []), (.str []), (.str []), (.int .i64 0), (.str []), (.sl 1 ⟨none, 0, (some 0), true⟩ []), (.sl 4 ⟨none, 0, (some 0), true⟩ []), (.str []), (.sl 14 ⟨none, 0, (some 0), true⟩ []), (.sl 1 ⟨none, 0, (some 0), true⟩ []), (.str []), (.str []), (.int .i64 0)], none⟩,
                ⟨none, .st 14 (.t 5) (.t 20), none⟩] [1, 2, 3, 5, 15, 16, 17])
              (.seq
               (.seq
                (.reg [
                  ⟨some 21, .fa 0 (.t 1), none⟩,
                  ⟨some 22, .ld false 1 (.t 21), none⟩,
                  ⟨some 23, .bin .eql (some .int) (.t 22) (.c (.int .i64 7)), none⟩] [1, 2, 3, 5, 15, 16, 17, 23])
                (.cnd (.t 23)
                 (.reg [
                   ⟨some 24, .fa 2 (.t 3), none⟩,
                   ⟨some 25, .ld false 1 (.t 24), none⟩,
                   ⟨some 26, .fa 2 (.t 5), none⟩,
                   ⟨some 27, .ld false 1 (.t 26), none⟩,
                   ⟨some 28, .bldT 9 1 1 (.str []) [(0, (.t 27))], none⟩,
                   ⟨some 29, .app false 9 1 16 (.t 25) (.t 28), none⟩,
                   ⟨some 30, .fa 2 (.t 3), none⟩,
                   ⟨none, .st 1 (.t 30) (.t 29), none⟩] [1, 2, 3, 5, 15, 16, 17])
                 .skip))
               (.drw [
                 (⟨some 31, .fa 3 (.t 3), none⟩, (some 3)),
                 (⟨some 32, .ld false 1 (.t 31), none⟩, (some 3)),
                 (⟨some 33, .ld true 14 (.t 5), none⟩, (some 5)),
                 (⟨some 34, .call 32 [(.t 33)], none⟩, none),
                 (⟨some 35, .bldS 4 1 (.agg [(.int .i64 0), (.str []), (.sl 1 ⟨none, 0, (some 0), true⟩ []), (.sl 4 ⟨none, 0, (some 0), true⟩ [])]) [(0, (.t 34))], none⟩, none),
                 (⟨some 36, .app true 25 4 72 (.t 32) (.t 35), none⟩, none),
                 (⟨some 37, .fa 3 (.t 3), none⟩, (some 3)),
                 (⟨none, .st 1 (.t 37) (.t 36), none⟩, (some 3))] [1, 2, 3, 15, 16, 17]))))
            (.reg [
              ⟨some 38, .bin .add none (.t 17) (.c (.int .i64 1)), none⟩,
              ⟨some 17, .mv (.t 38), none⟩] [1, 2, 3, 15, 16, 17]))))
         (.trim [1, 2, 3, 15, 16, 17]))))))
    (.seq
     (.reg [
       ⟨some 39, .ld true 4 (.t 3), none⟩,
       ⟨none, .st 4 (.t 2) (.t 39), none⟩] [2])
     .ret))))),
[.cell 2 true 4]⟩
theorem F32_ok : prepF Go.Proofs.Tryz.prog ⟨[1, 2, 3, 5], [(0, [1, 2]), (1, [1, 2, 7]), (2, [2]), (3, [1, 2, 3]), (4, [1, 2, 3, 15, 16, 17]), (5, [1, 2, 3, 15, 16, 17, 18]), (6, [1, 2, 3, 5, 15, 16, 17]), (7, [1, 2, 3, 5, 15, 16, 17, 23]), (8, [1, 2, 3, 5, 15, 16, 17]), (9, [1, 2, 3, 15, 16, 17]), (10, [1, 2, 3, 15, 16, 17]), (11, [2]), (1000000, [1, 2, 3, 15, 16, 17])], [(9, [(some 3), (some 3), (some 5), none, none, none, (some 3), (some 3)])]⟩ Go.Proofs.Tryz.f32 = some F32 := by kernel_rfl
/-- (*emend/tree.writer).tree -/
def F33 : DF := ⟨2,
(.seq
 (.reg [
   ⟨some 3, .bxL (.t 1), none⟩] [0, 3])
 (.seq
  (.reg [
    ⟨some 12, .fa 0 (.t 3), none⟩,
    ⟨some 13, .ld false 1 (.t 12), none⟩] [0, 3, 13])
  (.blk 0
   (.seq
    (.reg [
      ⟨some 15, .bin .eql (some .int) (.t 13) (.c (.int .i64 1)), none⟩,
      ⟨some 14, .mv (.t 15), none⟩] [0, 3, 13, 14])
    (.cnd (.t 14)
     (.reg [
       ⟨some 16, .mv (.t 0), none⟩,
       ⟨some 17, .call 59 [(.t 16), (.c (.str [110, 117, 108, 108]))], none⟩] [])
     (.seq
      (.seq
       (.reg [
         ⟨some 19, .bin .eql (some .int) (.t 13) (.c (.int .i64 2)), none⟩,
         ⟨some 18, .mv (.t 19), none⟩] [0, 3, 13, 18])
       (.cnd (.t 18)
        .skip
        (.reg [
          ⟨some 20, .bin .eql (some .int) (.t 13) (.c (.int .i64 3)), none⟩,
          ⟨some 18, .mv (.t 20), none⟩] [0, 3, 13, 18])))
      (.cnd (.t 18)
       (.reg [
         ⟨some 21, .mv (.t 0), none⟩,
         ⟨some 22, .fa 1 (.t 3), none⟩,
         ⟨some 23, .ld false 1 (.t 22), none⟩,
         ⟨some 24, .call 59 [(.t 21), (.t 23)], none⟩] [])
       (.seq
        (.reg [
          ⟨some 26, .bin .eql (some .int) (.t 13) (.c (.int .i64 4)), none⟩,
          ⟨some 25, .mv (.t 26), none⟩] [0, 3, 13, 25])
        (.cnd (.t 25)
         (.seq
          (.reg [
            ⟨some 28, .fa 1 (.t 3), none⟩,
            ⟨some 29, .ld false 1 (.t 28), none⟩,
            ⟨some 30, .call 60 [(.t 29)], none⟩,
            ⟨some 27, .mv (.t 30), none⟩,
            ⟨some 31, .ext (.t 27) 0, none⟩,
            ⟨some 32, .ext (.t 27) 1, none⟩,
            ⟨some 4, .mv (.t 31), none⟩,
            ⟨some 5, .mv (.t 32), none⟩] [0, 4])
          (.reg [
            ⟨some 33, .mv (.t 0), none⟩,
            ⟨some 34, .mv (.t 4), none⟩,
            ⟨some 35, .call 59 [(.t 33), (.t 34)], none⟩] []))
         (.seq
          (.reg [
            ⟨some 37, .bin .eql (some .int) (.t 13) (.c (.int .i64 5)), none⟩,
            ⟨some 36, .mv (.t 37), none⟩] [0, 3, 13, 36])
          (.cnd (.t 36)
           (.reg [
             ⟨some 38, .mv (.t 0), none⟩,
             ⟨some 39, .fa 1 (.t 3), none⟩,
             ⟨some 40, .ld false 1 (.t 39), none⟩,
             ⟨some 41, .bin .add none (.c (.str [64])) (.t 40), none⟩,
             ⟨some 42, .call 59 [(.t 38), (.t 41)], none⟩] [])
           (.seq
            (.reg [
              ⟨some 44, .bin .eql (some .int) (.t 13) (.c (.int .i64 6)), none⟩,
              ⟨some 43, .mv (.t 44), none⟩] [0, 3, 13, 43])
            (.cnd (.t 43)
             (.seq
              (.reg [
                ⟨some 45, .mv (.t 0), none⟩,
                ⟨some 46, .call 59 [(.t 45), (.c (.str [91]))], none⟩] [0, 3])
              (.seq
               (.seq
                (.reg [
                  ⟨some 47, .fa 3 (.t 3), none⟩,
                  ⟨some 48, .ld false 1 (.t 47), none⟩,
                  ⟨some 49, .len (.t 48), none⟩,
                  ⟨some 50, .mv (.c (.int .i64 0)), none⟩] [0, 48, 49, 50])
                (.blk 1
                 (.seq
                  (.trim [0, 48, 49, 50])
                  (.lop
                   (.seq
                    (.seq
                     (.reg [
                       ⟨some 51, .bin .lss none (.t 50) (.t 49), none⟩] [0, 48, 49, 50, 51])
                     (.seq
                      (.cnd (.t 51)
                       .skip
                       (.exit 1))
                      (.seq
                       (.blk 2
                        (.seq
                         (.reg [
                           ⟨some 52, .mv (.t 50), none⟩,
                           ⟨some 53, .ia 4 (.t 48) (.t 50), none⟩,
                           ⟨some 54, .ld true 4 (.t 53), none⟩,
                           ⟨some 7, .alL [(.int .i64 0), (.str []), (.sl 1 ⟨none, 0, (some 0), true⟩ []), (.sl 4 ⟨none, 0, (some 0), true⟩ [])], none⟩,
                           ⟨some 6, .mv (.t 52), none⟩,
                           ⟨none, .st 4 (.t 7) (.t 54), none⟩] [0, 6, 7, 48, 49, 50])
                         (.seq
                          (.seq
                           (.reg [
                             ⟨some 55, .mv (.t 6), none⟩,
                             ⟨some 56, .bin .gtr none (.t 55) (.c (.int .i64 0)), none⟩] [0, 7, 48, 49, 50, 56])
                           (.cnd (.t 56)
                            (.reg [
                              ⟨some 57, .mv (.t 0), none⟩,
                              ⟨some 58, .call 59 [(.t 57), (.c (.str [44, 32]))], none⟩] [0, 7, 48, 49, 50])
                            .skip))
                          (.reg [
                            ⟨some 59, .mv (.t 0), none⟩,
                            ⟨some 60, .ld true 4 (.t 7), none⟩,
                            ⟨some 61, .call 33 [(.t 59), (.t 60)], none⟩] [0, 48, 49, 50]))))
                       (.reg [
                         ⟨some 62, .bin .add none (.t 50) (.c (.int .i64 1)), none⟩,
                         ⟨some 50, .mv (.t 62), none⟩] [0, 48, 49, 50]))))
                    (.trim [0, 48, 49, 50]))))))
               (.reg [
                 ⟨some 63, .mv (.t 0), none⟩,
                 ⟨some 64, .call 59 [(.t 63), (.c (.str [93]))], none⟩] [])))
             (.seq
              (.reg [
                ⟨some 66, .bin .eql (some .int) (.t 13) (.c (.int .i64 7)), none⟩,
                ⟨some 65, .mv (.t 66), none⟩] [0, 3, 65])
              (.cnd (.t 65)
               (.seq
                (.reg [
                  ⟨some 67, .mv (.t 0), none⟩,
                  ⟨some 68, .call 59 [(.t 67), (.c (.str [123]))], none⟩] [0, 3])
                (.seq
                 (.seq
                  (.reg [
                    ⟨some 69, .fa 2 (.t 3), none⟩,
                    ⟨some 70, .ld false 1 (.t 69), none⟩,
                    ⟨some 71, .call 61 [(.t 70)], none⟩,
                    ⟨some 72, .len (.t 71), none⟩,
                    ⟨some 73, .mv (.c (.int .i64 0)), none⟩] [0, 3, 71, 72, 73])
                  (.blk 3
                   (.seq
                    (.trim [0, 3, 71, 72, 73])
                    (.lop
                     (.seq
                      (.seq
                       (.reg [
                         ⟨some 74, .bin .lss none (.t 73) (.t 72), none⟩] [0, 3, 71, 72, 73, 74])
                       (.seq
                        (.cnd (.t 74)
                         .skip
                         (.exit 3))
                        (.seq
                         (.blk 4
                          (.seq
                           (.reg [
                             ⟨some 75, .mv (.t 73), none⟩,
                             ⟨some 76, .ia 1 (.t 71) (.t 73), none⟩,
                             ⟨some 77, .ld false 1 (.t 76), none⟩,
                             ⟨some 8, .mv (.t 75), none⟩,
                             ⟨some 9, .mv (.t 77), none⟩] [0, 3, 8, 9, 71, 72, 73])
                           (.seq
                            (.seq
                             (.reg [
                               ⟨some 78, .mv (.t 8), none⟩,
                               ⟨some 79, .bin .gtr none (.t 78) (.c (.int .i64 0)), none⟩] [0, 3, 9, 71, 72, 73, 79])
                             (.cnd (.t 79)
                              (.reg [
                                ⟨some 80, .mv (.t 0), none⟩,
                                ⟨some 81, .call 59 [(.t 80), (.c (.str [44, 32]))], none⟩] [0, 3, 9, 71, 72, 73])
                              .skip))
                            (.seq
                             (.reg [
                               ⟨some 83, .fa 2 (.t 3), none⟩,
                               ⟨some 84, .ld false 1 (.t 83), none⟩,
                               ⟨some 85, .mv (.t 9), none⟩,
                               ⟨some 86, .ia 1 (.t 84) (.t 85), none⟩,
                               ⟨some 87, .ld false 1 (.t 86), none⟩,
                               ⟨some 88, .call 60 [(.t 87)], none⟩,
                               ⟨some 82, .mv (.t 88), none⟩,
                               ⟨some 89, .ext (.t 82) 0, none⟩,
                               ⟨some 90, .ext (.t 82) 1, none⟩,
                               ⟨some 10, .mv (.t 89), none⟩,
                               ⟨some 11, .mv (.t 90), none⟩] [0, 3, 9, 10, 71, 72, 73])
                             (.seq
                              (.reg [
                                ⟨some 91, .mv (.t 0), none⟩,
                                ⟨some 92, .mv (.t 10), none⟩,
                                ⟨some 93, .bin .add none (.t 92) (.c (.str [58, 32])), none⟩,
                                ⟨some 94, .call 59 [(.t 91), (.t 93)], none⟩] [0, 3, 9, 71, 72, 73])
                              (.reg [
                                ⟨some 95, .mv (.t 0), none⟩,
                                ⟨some 96, .fa 3 (.t 3), none⟩,
                                ⟨some 97, .ld false 1 (.t 96), none⟩,
                                ⟨some 98, .mv (.t 9), none⟩,
                                ⟨some 99, .ia 4 (.t 97) (.t 98), none⟩,
                                ⟨some 100, .ld true 4 (.t 99), none⟩,
                                ⟨some 101, .call 33 [(.t 95), (.t 100)], none⟩] [0, 3, 71, 72, 73]))))))
                         (.reg [
                           ⟨some 102, .bin .add none (.t 73) (.c (.int .i64 1)), none⟩,
                           ⟨some 73, .mv (.t 102), none⟩] [0, 3, 71, 72, 73]))))
                      (.trim [0, 3, 71, 72, 73]))))))
                 (.reg [
                   ⟨some 103, .mv (.t 0), none⟩,
                   ⟨some 104, .call 59 [(.t 103), (.c (.str [125]))], none⟩] [])))
               .skip))))))))))))))),
[]⟩
theorem F33_ok : prepF Go.Proofs.Tryz.prog ⟨[3, 7], [(0, [0, 3]), (1, [0, 3, 13]), (2, [0, 3, 13, 14]), (3, []), (4, [0, 3, 13, 18]), (5, [0, 3, 13, 18]), (6, []), (7, [0, 3, 13, 25]), (8, [0, 4]), (9, []), (10, [0, 3, 13, 36]), (11, []), (12, [0, 3, 13, 43]), (13, [0, 3]), (14, [0, 48, 49, 50]), (15, [0, 48, 49, 50, 51]), (16, [0, 6, 7, 48, 49, 50]), (17, [0, 7, 48, 49, 50, 56]), (18, [0, 7, 48, 49, 50]), (19, [0, 48, 49, 50]), (20, [0, 48, 49, 50]), (21, []), (22, [0, 3, 65]), (23, [0, 3]), (24, [0, 3, 71, 72, 73]), (25, [0, 3, 71, 72, 73, 74]), (26, [0, 3, 8, 9, 71, 72, 73]), (27, [0, 3, 9, 71, 72, 73, 79]), (28, [0, 3, 9, 71, 72, 73]), (29, [0, 3, 9, 10, 71, 72, 73]), (30, [0, 3, 9, 71, 72, 73]), (31, [0, 3, 71, 72, 73]), (32, [0, 3, 71, 72, 73]), (33, []), (1000001, [0, 48, 49, 50]), (1000003, [0, 3, 71, 72, 73])], []⟩ Go.Proofs.Tryz.f33 = some F33 := by kernel_rfl
/-- (*strings.Builder).Len -/
def F34 : DF := ⟨1,
(.seq
 (.reg [
   ⟨some 2, .mv (.c (.int .i64 0)), none⟩] [0])
 (.seq
  (.reg [
    ⟨some 3, .mv (.t 0), none⟩,
    ⟨some 4, .nilc (.t 3), none⟩,
    ⟨some 5, .fa 1 (.t 4), none⟩,
    ⟨some 6, .ld false 1 (.t 5), none⟩,
    ⟨some 7, .len (.t 6), none⟩,
    ⟨some 2, .mv (.t 7), none⟩] [2])
  .ret)),
[.tmp 2]⟩
theorem F34_ok : prepF Go.Proofs.Tryz.prog ⟨[], [(0, [0]), (1, [2])], []⟩ Go.Proofs.Tryz.f34 = some F34 := by kernel_rfl
/-- (*strings.Builder).String -/
def F35 : DF := ⟨1,
(.seq
 (.reg [
   ⟨some 2, .mv (.c (.str [])), none⟩] [0])
 (.seq
  (.drw [
    (⟨some 3, .mv (.t 0), none⟩, none),
    (⟨some 4, .nilc (.t 3), none⟩, none),
    (⟨some 5, .fa 1 (.t 4), none⟩, none),
    (⟨some 6, .ld false 1 (.t 5), none⟩, none),
    (⟨some 7, .usd (.t 6), none⟩, none),
    (⟨some 8, .mv (.t 0), none⟩, none),
    (⟨some 9, .nilc (.t 8), none⟩, none),
    (⟨some 10, .fa 1 (.t 9), none⟩, none),
    (⟨some 11, .ld false 1 (.t 10), none⟩, none),
    (⟨some 12, .len (.t 11), none⟩, none),
    (⟨some 13, .ustr 5 (.t 7) (.t 12), none⟩, none),
    (⟨some 2, .mv (.t 13), none⟩, none)] [2])
  .ret)),
[.tmp 2]⟩
theorem F35_ok : prepF Go.Proofs.Tryz.prog ⟨[], [(0, [0]), (1, [2])], []⟩ Go.Proofs.Tryz.f35 = some F35 := by kernel_rfl
/-- emend/cst.pieces -/
def F36 : DF := ⟨2,
(.seq
 (.reg [
   ⟨some 2, .bxL (.t 0), none⟩] [1, 2])
 (.seq
  (.reg [
    ⟨some 6, .mv (.t 1), none⟩,
    ⟨some 7, .fa 1 (.t 2), none⟩,
    ⟨some 8, .ld false 1 (.t 7), none⟩,
    ⟨some 9, .callv (.t 6) [(.t 8)], none⟩] [1, 2])
  (.seq
   (.seq
    (.reg [
      ⟨some 10, .ld true 14 (.t 2), none⟩,
      ⟨some 11, .call 58 [(.t 10)], none⟩] [1, 2, 11])
    (.cnd (.t 11)
     (.reg [
       ⟨some 12, .mv (.t 1), none⟩,
       ⟨some 13, .fa 3 (.t 2), none⟩,
       ⟨some 14, .ld false 1 (.t 13), none⟩,
       ⟨some 15, .callv (.t 12) [(.t 14)], none⟩] [1, 2])
     (.seq
      (.reg [
        ⟨some 16, .mv (.t 1), none⟩,
        ⟨some 17, .fa 8 (.t 2), none⟩,
        ⟨some 18, .ld false 1 (.t 17), none⟩,
        ⟨some 19, .callv (.t 16) [(.t 18)], none⟩] [1, 2])
      (.seq
       (.seq
        (.reg [
          ⟨some 20, .fa 9 (.t 2), none⟩,
          ⟨some 21, .ld false 1 (.t 20), none⟩,
          ⟨some 22, .len (.t 21), none⟩,
          ⟨some 23, .mv (.c (.int .i64 0)), none⟩] [1, 2, 21, 22, 23])
        (.blk 0
         (.seq
          (.trim [1, 2, 21, 22, 23])
          (.lop
           (.seq
            (.seq
             (.reg [
               ⟨some 24, .bin .lss none (.t 23) (.t 22), none⟩] [1, 2, 21, 22, 23, 24])
             (.seq
              (.cnd (.t 24)
               .skip
               (.exit 0))
              (.seq
               (.blk 1
                (.seq
                 (.reg [
                   ⟨some 25, .mv (.t 23), none⟩,
                   ⟨some 26, .ia 14 (.t 21) (.t 23), none⟩,
                   ⟨some 27, .ld true 14 (.t 26), none⟩,
                   ⟨some 5, .alL [(.int .i64 0), (.str []), (.str []), (.str []), (.int .i64 0), (.str []), (.sl 1 ⟨none, 0, (some 0), true⟩ []), (.sl 4 ⟨none, 0, (some 0), true⟩ []), (.str []), (.sl 14 ⟨none, 0, (some 0), true⟩ []), (.sl 1 ⟨none, 0, (some 0), true⟩ []), (.str []), (.str []), (.int .i64 0)], none⟩,
                   ⟨some 4, .mv (.t 25), none⟩,
                   ⟨none, .st 14 (.t 5) (.t 27), none⟩] [1, 2, 4, 5, 21, 22, 23])
                 (.seq
                  (.seq
                   (.reg [
                     ⟨some 28, .mv (.t 4), none⟩,
                     ⟨some 29, .bin .gtr none (.t 28) (.c (.int .i64 0)), none⟩,
                     ⟨some 30, .mv (.t 29), none⟩,
                     ⟨some 31, .mv (.t 4), some (30, true)⟩,
                     ⟨some 32, .bin .sub none (.t 31) (.c (.int .i64 1)), some (30, true)⟩,
                     ⟨some 33, .fa 10 (.t 2), some (30, true)⟩,
                     ⟨some 34, .ld false 1 (.t 33), some (30, true)⟩,
                     ⟨some 35, .len (.t 34), some (30, true)⟩,
                     ⟨some 36, .bin .lss none (.t 32) (.t 35), some (30, true)⟩,
                     ⟨some 37, .pick (.t 30) (.t 36) (.c (.bool false)), none⟩] [1, 2, 4, 5, 21, 22, 23, 37])
                   (.cnd (.t 37)
                    (.reg [
                      ⟨some 38, .mv (.t 1), none⟩,
                      ⟨some 39, .fa 10 (.t 2), none⟩,
                      ⟨some 40, .ld false 1 (.t 39), none⟩,
                      ⟨some 41, .mv (.t 4), none⟩,
                      ⟨some 42, .bin .sub none (.t 41) (.c (.int .i64 1)), none⟩,
                      ⟨some 43, .ia 1 (.t 40) (.t 42), none⟩,
                      ⟨some 44, .ld false 1 (.t 43), none⟩,
                      ⟨some 45, .callv (.t 38) [(.t 44)], none⟩] [1, 2, 5, 21, 22, 23])
                    .skip))
                  (.reg [
                    ⟨some 46, .ld true 14 (.t 5), none⟩,
                    ⟨some 47, .mv (.t 1), none⟩,
                    ⟨some 48, .call 36 [(.t 46), (.t 47)], none⟩] [1, 2, 21, 22, 23]))))
               (.reg [
                 ⟨some 49, .bin .add none (.t 23) (.c (.int .i64 1)), none⟩,
                 ⟨some 23, .mv (.t 49), none⟩] [1, 2, 21, 22, 23]))))
            (.trim [1, 2, 21, 22, 23]))))))
       (.reg [
         ⟨some 50, .mv (.t 1), none⟩,
         ⟨some 51, .fa 11 (.t 2), none⟩,
         ⟨some 52, .ld false 1 (.t 51), none⟩,
         ⟨some 53, .callv (.t 50) [(.t 52)], none⟩] [1, 2])))))
   (.reg [
     ⟨some 54, .mv (.t 1), none⟩,
     ⟨some 55, .fa 12 (.t 2), none⟩,
     ⟨some 56, .ld false 1 (.t 55), none⟩,
     ⟨some 57, .callv (.t 54) [(.t 56)], none⟩] [])))),
[]⟩
theorem F36_ok : prepF Go.Proofs.Tryz.prog ⟨[2, 5], [(0, [1, 2]), (1, [1, 2]), (2, [1, 2, 11]), (3, [1, 2]), (4, [1, 2]), (5, [1, 2, 21, 22, 23]), (6, [1, 2, 21, 22, 23, 24]), (7, [1, 2, 4, 5, 21, 22, 23]), (8, [1, 2, 4, 5, 21, 22, 23, 37]), (9, [1, 2, 5, 21, 22, 23]), (10, [1, 2, 21, 22, 23]), (11, [1, 2, 21, 22, 23]), (12, [1, 2]), (13, []), (1000000, [1, 2, 21, 22, 23])], []⟩ Go.Proofs.Tryz.f36 = some F36 := by kernel_rfl
/-- emend/cst.Flatten$1 -/
def F37 : DF := ⟨2,
(.reg [
  ⟨some 3, .mv (.t 0), none⟩,
  ⟨some 4, .call 38 [(.t 1), (.t 3)], none⟩] []),
[]⟩
theorem F37_ok : prepF Go.Proofs.Tryz.prog ⟨[], [(0, [])], []⟩ Go.Proofs.Tryz.f37 = some F37 := by kernel_rfl
/-- (*strings.Builder).WriteString -/
def F38 : DF := ⟨2,
(.seq
 (.reg [
   ⟨some 4, .mv (.c (.int .i64 0)), none⟩,
   ⟨some 5, .mv (.c .nilif), none⟩] [0, 1])
 (.seq
  (.reg [
    ⟨some 6, .mv (.t 0), none⟩,
    ⟨some 7, .call 62 [(.t 6)], none⟩] [0, 1])
  (.seq
   (.reg [
     ⟨some 8, .mv (.t 0), none⟩,
     ⟨some 9, .mv (.t 0), none⟩,
     ⟨some 10, .nilc (.t 9), none⟩,
     ⟨some 11, .fa 1 (.t 10), none⟩,
     ⟨some 12, .ld false 1 (.t 11), none⟩,
     ⟨some 13, .mv (.t 1), none⟩,
     ⟨some 14, .app false 5 1 1 (.t 12) (.t 13), none⟩,
     ⟨some 15, .nilc (.t 8), none⟩,
     ⟨some 16, .fa 1 (.t 15), none⟩,
     ⟨none, .st 1 (.t 16) (.t 14), none⟩] [1])
   (.seq
    (.reg [
      ⟨some 17, .mv (.t 1), none⟩,
      ⟨some 18, .lenS (.t 17), none⟩,
      ⟨some 4, .mv (.t 18), none⟩,
      ⟨some 5, .mv (.c .nilif), none⟩] [4, 5])
    .ret)))),
[.tmp 4, .tmp 5]⟩
theorem F38_ok : prepF Go.Proofs.Tryz.prog ⟨[], [(0, [0, 1]), (1, [0, 1]), (2, [1]), (3, [4, 5])], []⟩ Go.Proofs.Tryz.f38 = some F38 := by kernel_rfl
/-- emend/cst.Len$1 -/
def F39 : DF := ⟨2,
(.reg [
  ⟨some 3, .ld false 1 (.t 1), none⟩,
  ⟨some 4, .mv (.t 0), none⟩,
  ⟨some 5, .lenS (.t 4), none⟩,
  ⟨some 6, .bin .add none (.t 3) (.t 5), none⟩,
  ⟨none, .st 1 (.t 1) (.t 6), none⟩] []),
[]⟩
theorem F39_ok : prepF Go.Proofs.Tryz.prog ⟨[], [(0, [])], []⟩ Go.Proofs.Tryz.f39 = some F39 := by kernel_rfl
/-- emend/cst.depth -/
def F40 : DF := ⟨1,
(.seq
 (.reg [
   ⟨some 1, .bxL (.t 0), none⟩,
   ⟨some 2, .mv (.c (.int .i64 0)), none⟩] [1])
 (.seq
  (.reg [
    ⟨some 3, .mv (.c (.int .i64 0)), none⟩] [1, 3])
  (.seq
   (.seq
    (.reg [
      ⟨some 6, .fa 9 (.t 1), none⟩,
      ⟨some 7, .ld false 1 (.t 6), none⟩,
      ⟨some 8, .len (.t 7), none⟩,
      ⟨some 9, .mv (.c (.int .i64 0)), none⟩] [3, 7, 8, 9])
    (.blk 0
     (.seq
      (.trim [3, 7, 8, 9])
      (.lop
       (.seq
        (.seq
         (.reg [
           ⟨some 10, .bin .lss none (.t 9) (.t 8), none⟩] [3, 7, 8, 9, 10])
         (.seq
          (.cnd (.t 10)
           .skip
           (.exit 0))
          (.seq
           (.blk 1
            (.seq
             (.reg [
               ⟨some 11, .ia 14 (.t 7) (.t 9), none⟩,
               ⟨some 12, .ld true 14 (.t 11), none⟩,
               ⟨some 5, .alL [(.int .i64 0), (.str []), (.str []), (.str []), (.int .i64 0), (.str []), (.sl 1 ⟨none, 0, (some 0), true⟩ []), (.sl 4 ⟨none, 0, (some 0), true⟩ []), (.str []), (.sl 14 ⟨none, 0, (some 0), true⟩ []), (.sl 1 ⟨none, 0, (some 0), true⟩ []), (.str []), (.str []), (.int .i64 0)], none⟩,
               ⟨none, .st 14 (.t 5) (.t 12), none⟩] [3, 5, 7, 8, 9])
             (.reg [
               ⟨some 13, .mv (.t 3), none⟩,
               ⟨some 14, .ld true 14 (.t 5), none⟩,
               ⟨some 15, .call 40 [(.t 14)], none⟩,
               ⟨some 16, .mx [(.t 13), (.t 15)], none⟩,
               ⟨some 3, .mv (.t 16), none⟩] [3, 7, 8, 9])))
           (.reg [
             ⟨some 17, .bin .add none (.t 9) (.c (.int .i64 1)), none⟩,
             ⟨some 9, .mv (.t 17), none⟩] [3, 7, 8, 9]))))
        (.trim [3, 7, 8, 9]))))))
   (.seq
    (.reg [
      ⟨some 18, .mv (.t 3), none⟩,
      ⟨some 19, .bin .add none (.t 18) (.c (.int .i64 1)), none⟩,
      ⟨some 2, .mv (.t 19), none⟩] [2])
    .ret)))),
[.tmp 2]⟩
theorem F40_ok : prepF Go.Proofs.Tryz.prog ⟨[1, 5], [(0, [1]), (1, [1, 3]), (2, [3, 7, 8, 9]), (3, [3, 7, 8, 9, 10]), (4, [3, 5, 7, 8, 9]), (5, [3, 7, 8, 9]), (6, [3, 7, 8, 9]), (7, [2]), (1000000, [3, 7, 8, 9])], []⟩ Go.Proofs.Tryz.f40 = some F40 := by kernel_rfl
/-- emend/cst.formed -/
def F41 : DF := ⟨1,
(.seq
 (.reg [
   ⟨some 1, .bxL (.t 0), none⟩,
   ⟨some 2, .mv (.c (.bool false)), none⟩] [1])
 (.seq
  (.seq
   (.reg [
     ⟨some 6, .ld true 14 (.t 1), none⟩,
     ⟨some 7, .call 58 [(.t 6)], none⟩] [1, 7])
   (.cnd (.t 7)
    (.seq
     (.reg [
       ⟨some 8, .fa 4 (.t 1), none⟩,
       ⟨some 9, .fa 0 (.t 8), none⟩,
       ⟨some 10, .ld false 1 (.t 9), none⟩,
       ⟨some 11, .fa 0 (.t 1), none⟩,
       ⟨some 12, .ld false 1 (.t 11), none⟩,
       ⟨some 13, .bin .eql (some .int) (.t 10) (.t 12), none⟩,
       ⟨some 14, .mv (.t 13), none⟩,
       ⟨some 15, .fa 4 (.t 1), some (14, true)⟩,
       ⟨some 16, .ld true 4 (.t 15), some (14, true)⟩,
       ⟨some 17, .call 28 [(.t 16)], some (14, true)⟩,
       ⟨some 18, .bin .eql (some .int) (.t 17) (.c (.int .i64 0)), some (14, true)⟩,
       ⟨some 19, .pick (.t 14) (.t 18) (.c (.bool false)), none⟩,
       ⟨some 20, .mv (.t 19), none⟩,
       ⟨some 21, .fa 8 (.t 1), some (20, true)⟩,
       ⟨some 22, .ld false 1 (.t 21), some (20, true)⟩,
       ⟨some 23, .bin .eql (some .str) (.t 22) (.c (.str [])), some (20, true)⟩,
       ⟨some 24, .pick (.t 20) (.t 23) (.c (.bool false)), none⟩,
       ⟨some 25, .mv (.t 24), none⟩,
       ⟨some 26, .fa 11 (.t 1), some (25, true)⟩,
       ⟨some 27, .ld false 1 (.t 26), some (25, true)⟩,
       ⟨some 28, .bin .eql (some .str) (.t 27) (.c (.str [])), some (25, true)⟩,
       ⟨some 29, .pick (.t 25) (.t 28) (.c (.bool false)), none⟩,
       ⟨some 30, .mv (.t 29), none⟩,
       ⟨some 31, .fa 9 (.t 1), some (30, true)⟩,
       ⟨some 32, .ld false 1 (.t 31), some (30, true)⟩,
       ⟨some 33, .len (.t 32), some (30, true)⟩,
       ⟨some 34, .bin .eql (some .int) (.t 33) (.c (.int .i64 0)), some (30, true)⟩,
       ⟨some 35, .pick (.t 30) (.t 34) (.c (.bool false)), none⟩,
       ⟨some 36, .mv (.t 35), none⟩,
       ⟨some 37, .fa 10 (.t 1), some (36, true)⟩,
       ⟨some 38, .ld false 1 (.t 37), some (36, true)⟩,
       ⟨some 39, .len (.t 38), some (36, true)⟩,
       ⟨some 40, .bin .eql (some .int) (.t 39) (.c (.int .i64 0)), some (36, true)⟩,
       ⟨some 41, .pick (.t 36) (.t 40) (.c (.bool false)), none⟩,
       ⟨some 2, .mv (.t 41), none⟩] [2])
     .ret)
    .skip))
  (.seq
   (.seq
    (.reg [
      ⟨some 42, .fa 0 (.t 1), none⟩,
      ⟨some 43, .ld false 1 (.t 42), none⟩,
      ⟨some 44, .bin .neq (some .int) (.t 43) (.c (.int .i64 6)), none⟩,
      ⟨some 45, .mv (.t 44), none⟩,
      ⟨some 46, .fa 0 (.t 1), some (45, true)⟩,
      ⟨some 47, .ld false 1 (.t 46), some (45, true)⟩,
      ⟨some 48, .bin .neq (some .int) (.t 47) (.c (.int .i64 7)), some (45, true)⟩,
      ⟨some 49, .pick (.t 45) (.t 48) (.c (.bool false)), none⟩,
      ⟨some 50, .mv (.t 49), none⟩,
      ⟨some 51, .fa 3 (.t 1), some (50, false)⟩,
      ⟨some 52, .ld false 1 (.t 51), some (50, false)⟩,
      ⟨some 53, .bin .neq (some .str) (.t 52) (.c (.str [])), some (50, false)⟩,
      ⟨some 54, .pick (.t 50) (.c (.bool true)) (.t 53), none⟩,
      ⟨some 55, .mv (.t 54), none⟩,
      ⟨some 56, .fa 4 (.t 1), some (55, false)⟩,
      ⟨some 57, .ld true 4 (.t 56), some (55, false)⟩,
      ⟨some 58, .bld [(.int .i64 0), (.str []), (.sl 1 ⟨none, 0, (some 0), true⟩ []), (.sl 4 ⟨none, 0, (some 0), true⟩ [])] [], some (55, false)⟩,
      ⟨some 59, .call 30 [(.t 57), (.t 58)], some (55, false)⟩,
      ⟨some 60, .un .not (.t 59), some (55, false)⟩,
      ⟨some 61, .pick (.t 55) (.c (.bool true)) (.t 60), none⟩,
      ⟨some 62, .mv (.t 61), none⟩,
      ⟨some 63, .fa 10 (.t 1), some (62, false)⟩,
      ⟨some 64, .ld false 1 (.t 63), some (62, false)⟩,
      ⟨some 65, .len (.t 64), some (62, false)⟩,
      ⟨some 66, .fa 9 (.t 1), some (62, false)⟩,
      ⟨some 67, .ld false 1 (.t 66), some (62, false)⟩,
      ⟨some 68, .len (.t 67), some (62, false)⟩,
      ⟨some 69, .bin .sub none (.t 68) (.c (.int .i64 1)), some (62, false)⟩,
      ⟨some 70, .mx [(.c (.int .i64 0)), (.t 69)], some (62, false)⟩,
      ⟨some 71, .bin .neq (some .int) (.t 65) (.t 70), some (62, false)⟩,
      ⟨some 72, .pick (.t 62) (.c (.bool true)) (.t 71), none⟩] [1, 72])
    (.cnd (.t 72)
     (.seq
      (.reg [
        ⟨some 2, .mv (.c (.bool false)), none⟩] [2])
      .ret)
     .skip))
   (.seq
    (.reg [
      ⟨some 73, .mkm, none⟩,
      ⟨some 3, .mv (.t 73), none⟩] [1, 3])
    (.seq
     (.seq
      (.reg [
        ⟨some 74, .fa 9 (.t 1), none⟩,
        ⟨some 75, .ld false 1 (.t 74), none⟩,
        ⟨some 76, .len (.t 75), none⟩,
        ⟨some 77, .mv (.c (.int .i64 0)), none⟩] [1, 3, 75, 76, 77])
      (.blk 0
       (.seq
        (.trim [1, 3, 75, 76, 77])
        (.lop
         (.seq
          (.seq
           (.reg [
             ⟨some 78, .bin .lss none (.t 77) (.t 76), none⟩] [1, 3, 75, 76, 77, 78])
           (.seq
            (.cnd (.t 78)
             .skip
             (.exit 0))
            (.seq
             (.blk 1
              (.seq
               (.reg [
                 ⟨some 79, .ia 14 (.t 75) (.t 77), none⟩,
                 ⟨some 80, .ld true 14 (.t 79), none⟩,
                 ⟨some 5, .alL [(.int .i64 0), (.str []), (.str []), (.str []), (.int .i64 0), (.str []), (.sl 1 ⟨none, 0, (some 0), true⟩ []), (.sl 4 ⟨none, 0, (some 0), true⟩ []), (.str []), (.sl 14 ⟨none, 0, (some 0), true⟩ []), (.sl 1 ⟨none, 0, (some 0), true⟩ []), (.str []), (.str []), (.int .i64 0)], none⟩,
                 ⟨none, .st 14 (.t 5) (.t 80), none⟩] [1, 3, 5, 75, 76, 77])
               (.seq
                (.reg [
                  ⟨some 81, .mv (.t 3), none⟩,
                  ⟨some 82, .fa 2 (.t 5), none⟩,
                  ⟨some 83, .ld false 1 (.t 82), none⟩,
                  ⟨some 84, .lkp .str (.int .i64 0) (.t 81) (.t 83) false, none⟩,
                  ⟨some 85, .bin .add none (.t 84) (.c (.int .i64 1)), none⟩,
                  ⟨none, .mup .str (.t 81) (.t 83) (.t 85), none⟩] [1, 3, 5, 75, 76, 77])
                (.seq
                 (.reg [
                   ⟨some 86, .fa 0 (.t 1), none⟩,
                   ⟨some 87, .ld false 1 (.t 86), none⟩,
                   ⟨some 88, .bin .eql (some .int) (.t 87) (.c (.int .i64 7)), none⟩,
                   ⟨some 89, .mv (.t 88), none⟩,
                   ⟨some 90, .mv (.t 3), some (89, true)⟩,
                   ⟨some 91, .fa 2 (.t 5), some (89, true)⟩,
                   ⟨some 92, .ld false 1 (.t 91), some (89, true)⟩,
                   ⟨some 93, .lkp .str (.int .i64 0) (.t 90) (.t 92) false, some (89, true)⟩,
                   ⟨some 94, .bin .gtr none (.t 93) (.c (.int .i64 1)), some (89, true)⟩,
                   ⟨some 95, .mv (.t 94), some (89, true)⟩,
                   ⟨some 96, .fa 2 (.t 5), some (95, false)⟩,
                   ⟨some 97, .ld false 1 (.t 96), some (95, false)⟩,
                   ⟨some 98, .call 63 [(.t 97)], some (95, false)⟩,
                   ⟨some 99, .un .not (.t 98), some (95, false)⟩,
                   ⟨some 100, .pick (.t 95) (.c (.bool true)) (.t 99), some (89, true)⟩,
                   ⟨some 101, .pick (.t 89) (.t 100) (.c (.bool false)), none⟩,
                   ⟨some 102, .mv (.t 101), none⟩,
                   ⟨some 103, .fa 0 (.t 1), some (102, false)⟩,
                   ⟨some 104, .ld false 1 (.t 103), some (102, false)⟩,
                   ⟨some 105, .bin .eql (some .int) (.t 104) (.c (.int .i64 6)), some (102, false)⟩,
                   ⟨some 106, .mv (.t 105), some (102, false)⟩,
                   ⟨some 107, .fa 2 (.t 5), some (106, true)⟩,
                   ⟨some 108, .ld false 1 (.t 107), some (106, true)⟩,
                   ⟨some 109, .bin .neq (some .str) (.t 108) (.c (.str [])), some (106, true)⟩,
                   ⟨some 110, .pick (.t 106) (.t 109) (.c (.bool false)), some (102, false)⟩,
                   ⟨some 111, .pick (.t 102) (.c (.bool true)) (.t 110), none⟩,
                   ⟨some 112, .mv (.t 111), none⟩,
                   ⟨some 113, .ld true 14 (.t 5), some (112, false)⟩,
                   ⟨some 114, .call 41 [(.t 113)], some (112, false)⟩,
                   ⟨some 115, .un .not (.t 114), some (112, false)⟩,
                   ⟨some 116, .pick (.t 112) (.c (.bool true)) (.t 115), none⟩] [1, 3, 75, 76, 77, 116])
                 (.cnd (.t 116)
                  (.seq
                   (.reg [
                     ⟨some 2, .mv (.c (.bool false)), none⟩] [2])
                   .ret)
                  .skip)))))
             (.reg [
               ⟨some 117, .bin .add none (.t 77) (.c (.int .i64 1)), none⟩,
               ⟨some 77, .mv (.t 117), none⟩] [1, 3, 75, 76, 77]))))
          (.trim [1, 3, 75, 76, 77]))))))
     (.seq
      (.reg [
        ⟨some 2, .mv (.c (.bool true)), none⟩] [2])
      .ret)))))),
[.tmp 2]⟩
theorem F41_ok : prepF Go.Proofs.Tryz.prog ⟨[1, 5], [(0, [1]), (1, [1, 7]), (2, [2]), (3, [1, 72]), (4, [2]), (5, [1, 3]), (6, [1, 3, 75, 76, 77]), (7, [1, 3, 75, 76, 77, 78]), (8, [1, 3, 5, 75, 76, 77]), (9, [1, 3, 5, 75, 76, 77]), (10, [1, 3, 75, 76, 77, 116]), (11, [2]), (12, [1, 3, 75, 76, 77]), (13, [2]), (1000000, [1, 3, 75, 76, 77])], []⟩ Go.Proofs.Tryz.f41 = some F41 := by kernel_rfl
/-- emend/cst.kid -/
def F42 : DF := ⟨2,
(.seq
 (.reg [
   ⟨some 2, .bxL (.t 0), none⟩,
   ⟨some 3, .bxL (.t 1), none⟩,
   ⟨some 4, .mv (.c (.int .i64 0)), none⟩] [2, 3])
 (.seq
  (.seq
   (.reg [
     ⟨some 7, .fa 0 (.t 2), none⟩,
     ⟨some 8, .ld false 1 (.t 7), none⟩] [2, 3, 8])
   (.blk 0
    (.seq
     (.reg [
       ⟨some 10, .bin .eql (some .int) (.t 8) (.c (.int .i64 6)), none⟩,
       ⟨some 9, .mv (.t 10), none⟩] [2, 3, 8, 9])
     (.cnd (.t 9)
      (.seq
       (.reg [
         ⟨some 11, .fa 0 (.t 3), none⟩,
         ⟨some 12, .ld false 1 (.t 11), none⟩,
         ⟨some 13, .bin .eql (some .str) (.t 12) (.c (.str [])), none⟩,
         ⟨some 14, .mv (.t 13), none⟩,
         ⟨some 15, .fa 1 (.t 3), some (14, true)⟩,
         ⟨some 16, .ld false 1 (.t 15), some (14, true)⟩,
         ⟨some 17, .bin .geq none (.t 16) (.c (.int .i64 0)), some (14, true)⟩,
         ⟨some 18, .pick (.t 14) (.t 17) (.c (.bool false)), none⟩,
         ⟨some 19, .mv (.t 18), none⟩,
         ⟨some 20, .fa 1 (.t 3), some (19, true)⟩,
         ⟨some 21, .ld false 1 (.t 20), some (19, true)⟩,
         ⟨some 22, .fa 9 (.t 2), some (19, true)⟩,
         ⟨some 23, .ld false 1 (.t 22), some (19, true)⟩,
         ⟨some 24, .len (.t 23), some (19, true)⟩,
         ⟨some 25, .bin .lss none (.t 21) (.t 24), some (19, true)⟩,
         ⟨some 26, .pick (.t 19) (.t 25) (.c (.bool false)), none⟩] [3, 26])
       (.cnd (.t 26)
        (.seq
         (.reg [
           ⟨some 27, .fa 1 (.t 3), none⟩,
           ⟨some 28, .ld false 1 (.t 27), none⟩,
           ⟨some 4, .mv (.t 28), none⟩] [4])
         .ret)
        .skip))
      (.seq
       (.reg [
         ⟨some 30, .bin .eql (some .int) (.t 8) (.c (.int .i64 7)), none⟩,
         ⟨some 29, .mv (.t 30), none⟩] [2, 3, 29])
       (.cnd (.t 29)
        (.seq
         (.reg [
           ⟨some 31, .fa 9 (.t 2), none⟩,
           ⟨some 32, .ld false 1 (.t 31), none⟩,
           ⟨some 33, .len (.t 32), none⟩,
           ⟨some 34, .mv (.c (.int .i64 0)), none⟩] [3, 32, 33, 34])
         (.blk 1
          (.seq
           (.trim [3, 32, 33, 34])
           (.lop
            (.seq
             (.seq
              (.reg [
                ⟨some 35, .bin .lss none (.t 34) (.t 33), none⟩] [3, 32, 33, 34, 35])
              (.seq
               (.cnd (.t 35)
                .skip
                (.exit 1))
               (.seq
                (.blk 2
                 (.seq
                  (.reg [
                    ⟨some 36, .mv (.t 34), none⟩,
                    ⟨some 37, .ia 14 (.t 32) (.t 34), none⟩,
                    ⟨some 38, .ld true 14 (.t 37), none⟩,
                    ⟨some 6, .alL [(.int .i64 0), (.str []), (.str []), (.str []), (.int .i64 0), (.str []), (.sl 1 ⟨none, 0, (some 0), true⟩ []), (.sl 4 ⟨none, 0, (some 0), true⟩ []), (.str []), (.sl 14 ⟨none, 0, (some 0), true⟩ []), (.sl 1 ⟨none, 0, (some 0), true⟩ []), (.str []), (.str []), (.int .i64 0)], none⟩,
                    ⟨some 5, .mv (.t 36), none⟩,
                    ⟨none, .st 14 (.t 6) (.t 38), none⟩] [3, 5, 6, 32, 33, 34])
                  (.seq
                   (.reg [
                     ⟨some 39, .ld true 2 (.t 3), none⟩,
                     ⟨some 40, .fa 2 (.t 6), none⟩,
                     ⟨some 41, .ld false 1 (.t 40), none⟩,
                     ⟨some 42, .bld [(.str []), (.int .i64 0)] [(0, 1, (.t 41))], none⟩,
                     ⟨some 43, .bin .eql (some (.st [(0, .str), (1, .int)])) (.t 39) (.t 42), none⟩] [3, 5, 32, 33, 34, 43])
                   (.cnd (.t 43)
                    (.seq
                     (.reg [
                       ⟨some 44, .mv (.t 5), none⟩,
                       ⟨some 4, .mv (.t 44), none⟩] [4])
                     .ret)
                    .skip))))
                (.reg [
                  ⟨some 45, .bin .add none (.t 34) (.c (.int .i64 1)), none⟩,
                  ⟨some 34, .mv (.t 45), none⟩] [3, 32, 33, 34]))))
             (.trim [3, 32, 33, 34]))))))
        .skip))))))
  (.seq
   (.reg [
     ⟨some 4, .mv (.c (.int .i64 (-1))), none⟩] [4])
   .ret))),
[.tmp 4]⟩
theorem F42_ok : prepF Go.Proofs.Tryz.prog ⟨[2, 3, 6], [(0, [2, 3]), (1, [2, 3, 8]), (2, [2, 3, 8, 9]), (3, [3, 26]), (4, [4]), (5, [2, 3, 29]), (6, [3, 32, 33, 34]), (7, [3, 32, 33, 34, 35]), (8, [3, 5, 6, 32, 33, 34]), (9, [3, 5, 32, 33, 34, 43]), (10, [4]), (11, [3, 32, 33, 34]), (12, [4]), (1000001, [3, 32, 33, 34])], []⟩ Go.Proofs.Tryz.f42 = some F42 := by kernel_rfl
/-- emend/tree.Copy -/
def F49 : DF := ⟨1,
(.seq
 (.reg [
   ⟨some 1, .bxL (.t 0), none⟩,
   ⟨some 2, .alL [(.int .i64 0), (.str []), (.sl 1 ⟨none, 0, (some 0), true⟩ []), (.sl 4 ⟨none, 0, (some 0), true⟩ [])], none⟩] [1, 2])
 (.seq
  (.reg [
    ⟨some 6, .fa 0 (.t 1), none⟩,
    ⟨some 7, .ld false 1 (.t 6), none⟩,
    ⟨some 8, .fa 1 (.t 1), none⟩,
    ⟨some 9, .ld false 1 (.t 8), none⟩,
    ⟨some 10, .bld [(.int .i64 0), (.str []), (.sl 1 ⟨none, 0, (some 0), true⟩ []), (.sl 4 ⟨none, 0, (some 0), true⟩ [])] [(0, 1, (.t 7)), (1, 1, (.t 9))], none⟩,
    ⟨some 3, .alL [(.int .i64 0), (.str []), (.sl 1 ⟨none, 0, (some 0), true⟩ []), (.sl 4 ⟨none, 0, (some 0), true⟩ [])], none⟩,
    ⟨none, .st 4 (.t 3) (.t 10), none⟩] [1, 2, 3])
  (.seq
   (.reg [
     ⟨some 11, .fa 2 (.t 3), none⟩,
     ⟨some 12, .ld false 1 (.t 11), none⟩,
     ⟨some 13, .fa 2 (.t 1), none⟩,
     ⟨some 14, .ld false 1 (.t 13), none⟩,
     ⟨some 15, .app false 9 1 16 (.t 12) (.t 14), none⟩,
     ⟨some 16, .fa 2 (.t 3), none⟩,
     ⟨none, .st 1 (.t 16) (.t 15), none⟩] [1, 2, 3])
   (.seq
    (.seq
     (.reg [
       ⟨some 17, .fa 3 (.t 1), none⟩,
       ⟨some 18, .ld false 1 (.t 17), none⟩,
       ⟨some 19, .len (.t 18), none⟩,
       ⟨some 20, .mv (.c (.int .i64 0)), none⟩] [2, 3, 18, 19, 20])
     (.blk 0
      (.seq
       (.trim [2, 3, 18, 19, 20])
       (.lop
        (.seq
         (.seq
          (.reg [
            ⟨some 21, .bin .lss none (.t 20) (.t 19), none⟩] [2, 3, 18, 19, 20, 21])
          (.seq
           (.cnd (.t 21)
            .skip
            (.exit 0))
           (.seq
            (.blk 1
             (.seq
              (.reg [
                ⟨some 22, .ia 4 (.t 18) (.t 20), none⟩,
                ⟨some 23, .ld true 4 (.t 22), none⟩,
                ⟨some 5, .alL [(.int .i64 0), (.str []), (.sl 1 ⟨none, 0, (some 0), true⟩ []), (.sl 4 ⟨none, 0, (some 0), true⟩ [])], none⟩,
                ⟨none, .st 4 (.t 5) (.t 23), none⟩] [2, 3, 5, 18, 19, 20])
              (.drw [
                (⟨some 24, .fa 3 (.t 3), none⟩, (some 3)),
                (⟨some 25, .ld false 1 (.t 24), none⟩, (some 3)),
                (⟨some 26, .ld true 4 (.t 5), none⟩, (some 5)),
                (⟨some 27, .call 49 [(.t 26)], none⟩, none),
                (⟨some 28, .bldS 4 1 (.agg [(.int .i64 0), (.str []), (.sl 1 ⟨none, 0, (some 0), true⟩ []), (.sl 4 ⟨none, 0, (some 0), true⟩ [])]) [(0, (.t 27))], none⟩, none),
                (⟨some 29, .app true 25 4 72 (.t 25) (.t 28), none⟩, none),
                (⟨some 30, .fa 3 (.t 3), none⟩, (some 3)),
                (⟨none, .st 1 (.t 30) (.t 29), none⟩, (some 3))] [2, 3, 18, 19, 20])))
            (.reg [
              ⟨some 31, .bin .add none (.t 20) (.c (.int .i64 1)), none⟩,
              ⟨some 20, .mv (.t 31), none⟩] [2, 3, 18, 19, 20]))))
         (.trim [2, 3, 18, 19, 20]))))))
    (.seq
     (.reg [
       ⟨some 32, .ld true 4 (.t 3), none⟩,
       ⟨none, .st 4 (.t 2) (.t 32), none⟩] [2])
     .ret))))),
[.cell 2 true 4]⟩
theorem F49_ok : prepF Go.Proofs.Tryz.prog ⟨[1, 2, 3, 5], [(0, [1, 2]), (1, [1, 2, 3]), (2, [1, 2, 3]), (3, [2, 3, 18, 19, 20]), (4, [2, 3, 18, 19, 20, 21]), (5, [2, 3, 5, 18, 19, 20]), (6, [2, 3, 18, 19, 20]), (7, [2, 3, 18, 19, 20]), (8, [2]), (1000000, [2, 3, 18, 19, 20])], [(6, [(some 3), (some 3), (some 5), none, none, none, (some 3), (some 3)])]⟩ Go.Proofs.Tryz.f49 = some F49 := by kernel_rfl
/-- emend/tree.Depth -/
def F52 : DF := ⟨1,
(.seq
 (.reg [
   ⟨some 1, .bxL (.t 0), none⟩,
   ⟨some 2, .mv (.c (.int .i64 0)), none⟩] [1])
 (.seq
  (.reg [
    ⟨some 3, .mv (.c (.int .i64 0)), none⟩] [1, 3])
  (.seq
   (.seq
    (.reg [
      ⟨some 6, .fa 3 (.t 1), none⟩,
      ⟨some 7, .ld false 1 (.t 6), none⟩,
      ⟨some 8, .len (.t 7), none⟩,
      ⟨some 9, .mv (.c (.int .i64 0)), none⟩] [3, 7, 8, 9])
    (.blk 0
     (.seq
      (.trim [3, 7, 8, 9])
      (.lop
       (.seq
        (.seq
         (.reg [
           ⟨some 10, .bin .lss none (.t 9) (.t 8), none⟩] [3, 7, 8, 9, 10])
         (.seq
          (.cnd (.t 10)
           .skip
           (.exit 0))
          (.seq
           (.blk 1
            (.seq
             (.reg [
               ⟨some 11, .ia 4 (.t 7) (.t 9), none⟩,
               ⟨some 12, .ld true 4 (.t 11), none⟩,
               ⟨some 5, .alL [(.int .i64 0), (.str []), (.sl 1 ⟨none, 0, (some 0), true⟩ []), (.sl 4 ⟨none, 0, (some 0), true⟩ [])], none⟩,
               ⟨none, .st 4 (.t 5) (.t 12), none⟩] [3, 5, 7, 8, 9])
             (.reg [
               ⟨some 13, .mv (.t 3), none⟩,
               ⟨some 14, .ld true 4 (.t 5), none⟩,
               ⟨some 15, .call 52 [(.t 14)], none⟩,
               ⟨some 16, .mx [(.t 13), (.t 15)], none⟩,
               ⟨some 3, .mv (.t 16), none⟩] [3, 7, 8, 9])))
           (.reg [
             ⟨some 17, .bin .add none (.t 9) (.c (.int .i64 1)), none⟩,
             ⟨some 9, .mv (.t 17), none⟩] [3, 7, 8, 9]))))
        (.trim [3, 7, 8, 9]))))))
   (.seq
    (.reg [
      ⟨some 18, .mv (.t 3), none⟩,
      ⟨some 19, .bin .add none (.t 18) (.c (.int .i64 1)), none⟩,
      ⟨some 2, .mv (.t 19), none⟩] [2])
    .ret)))),
[.tmp 2]⟩
theorem F52_ok : prepF Go.Proofs.Tryz.prog ⟨[1, 5], [(0, [1]), (1, [1, 3]), (2, [3, 7, 8, 9]), (3, [3, 7, 8, 9, 10]), (4, [3, 5, 7, 8, 9]), (5, [3, 7, 8, 9]), (6, [3, 7, 8, 9]), (7, [2]), (1000000, [3, 7, 8, 9])], []⟩ Go.Proofs.Tryz.f52 = some F52 := by kernel_rfl
/-- emend/tree.Size -/
def F53 : DF := ⟨1,
(.seq
 (.reg [
   ⟨some 1, .bxL (.t 0), none⟩,
   ⟨some 2, .mv (.c (.int .i64 0)), none⟩] [1])
 (.seq
  (.reg [
    ⟨some 3, .mv (.c (.int .i64 1)), none⟩] [1, 3])
  (.seq
   (.seq
    (.reg [
      ⟨some 6, .fa 3 (.t 1), none⟩,
      ⟨some 7, .ld false 1 (.t 6), none⟩,
      ⟨some 8, .len (.t 7), none⟩,
      ⟨some 9, .mv (.c (.int .i64 0)), none⟩] [3, 7, 8, 9])
    (.blk 0
     (.seq
      (.trim [3, 7, 8, 9])
      (.lop
       (.seq
        (.seq
         (.reg [
           ⟨some 10, .bin .lss none (.t 9) (.t 8), none⟩] [3, 7, 8, 9, 10])
         (.seq
          (.cnd (.t 10)
           .skip
           (.exit 0))
          (.seq
           (.blk 1
            (.seq
             (.reg [
               ⟨some 11, .ia 4 (.t 7) (.t 9), none⟩,
               ⟨some 12, .ld true 4 (.t 11), none⟩,
               ⟨some 5, .alL [(.int .i64 0), (.str []), (.sl 1 ⟨none, 0, (some 0), true⟩ []), (.sl 4 ⟨none, 0, (some 0), true⟩ [])], none⟩,
               ⟨none, .st 4 (.t 5) (.t 12), none⟩] [3, 5, 7, 8, 9])
             (.reg [
               ⟨some 13, .mv (.t 3), none⟩,
               ⟨some 14, .ld true 4 (.t 5), none⟩,
               ⟨some 15, .call 53 [(.t 14)], none⟩,
               ⟨some 16, .bin .add none (.t 13) (.t 15), none⟩,
               ⟨some 3, .mv (.t 16), none⟩] [3, 7, 8, 9])))
           (.reg [
             ⟨some 17, .bin .add none (.t 9) (.c (.int .i64 1)), none⟩,
             ⟨some 9, .mv (.t 17), none⟩] [3, 7, 8, 9]))))
        (.trim [3, 7, 8, 9]))))))
   (.seq
    (.reg [
      ⟨some 18, .mv (.t 3), none⟩,
      ⟨some 2, .mv (.t 18), none⟩] [2])
    .ret)))),
[.tmp 2]⟩
theorem F53_ok : prepF Go.Proofs.Tryz.prog ⟨[1, 5], [(0, [1]), (1, [1, 3]), (2, [3, 7, 8, 9]), (3, [3, 7, 8, 9, 10]), (4, [3, 5, 7, 8, 9]), (5, [3, 7, 8, 9]), (6, [3, 7, 8, 9]), (7, [2]), (1000000, [3, 7, 8, 9])], []⟩ Go.Proofs.Tryz.f53 = some F53 := by kernel_rfl
/-- emend/tree.formed -/
def F54 : DF := ⟨1,
(.seq
 (.reg [
   ⟨some 1, .bxL (.t 0), none⟩,
   ⟨some 2, .mv (.c (.bool false)), none⟩] [1])
 (.seq
  (.seq
   (.reg [
     ⟨some 8, .fa 3 (.t 1), none⟩,
     ⟨some 9, .ld false 1 (.t 8), none⟩,
     ⟨some 10, .len (.t 9), none⟩,
     ⟨some 11, .mv (.c (.int .i64 0)), none⟩] [1, 9, 10, 11])
   (.blk 0
    (.seq
     (.trim [1, 9, 10, 11])
     (.lop
      (.seq
       (.seq
        (.reg [
          ⟨some 12, .bin .lss none (.t 11) (.t 10), none⟩] [1, 9, 10, 11, 12])
        (.seq
         (.cnd (.t 12)
          .skip
          (.exit 0))
         (.seq
          (.blk 1
           (.seq
            (.reg [
              ⟨some 13, .ia 4 (.t 9) (.t 11), none⟩,
              ⟨some 14, .ld true 4 (.t 13), none⟩,
              ⟨some 4, .alL [(.int .i64 0), (.str []), (.sl 1 ⟨none, 0, (some 0), true⟩ []), (.sl 4 ⟨none, 0, (some 0), true⟩ [])], none⟩,
              ⟨none, .st 4 (.t 4) (.t 14), none⟩] [1, 4, 9, 10, 11])
            (.seq
             (.reg [
               ⟨some 15, .ld true 4 (.t 4), none⟩,
               ⟨some 16, .call 54 [(.t 15)], none⟩,
               ⟨some 17, .un .not (.t 16), none⟩] [1, 9, 10, 11, 17])
             (.cnd (.t 17)
              (.seq
               (.reg [
                 ⟨some 2, .mv (.c (.bool false)), none⟩] [2])
               .ret)
              .skip))))
          (.reg [
            ⟨some 18, .bin .add none (.t 11) (.c (.int .i64 1)), none⟩,
            ⟨some 11, .mv (.t 18), none⟩] [1, 9, 10, 11]))))
       (.trim [1, 9, 10, 11]))))))
  (.seq
   (.reg [
     ⟨some 19, .fa 2 (.t 1), none⟩,
     ⟨some 20, .ld false 1 (.t 19), none⟩,
     ⟨some 21, .len (.t 20), none⟩,
     ⟨some 22, .bin .eql (some .int) (.t 21) (.c (.int .i64 0)), none⟩,
     ⟨some 23, .mv (.t 22), none⟩,
     ⟨some 24, .fa 3 (.t 1), some (23, true)⟩,
     ⟨some 25, .ld false 1 (.t 24), some (23, true)⟩,
     ⟨some 26, .len (.t 25), some (23, true)⟩,
     ⟨some 27, .bin .eql (some .int) (.t 26) (.c (.int .i64 0)), some (23, true)⟩,
     ⟨some 28, .pick (.t 23) (.t 27) (.c (.bool false)), none⟩,
     ⟨some 5, .mv (.t 28), none⟩] [1, 5])
   (.seq
    (.seq
     (.reg [
       ⟨some 29, .fa 0 (.t 1), none⟩,
       ⟨some 30, .ld false 1 (.t 29), none⟩] [1, 5, 30])
     (.blk 2
      (.seq
       (.reg [
         ⟨some 32, .bin .eql (some .int) (.t 30) (.c (.int .i64 1)), none⟩,
         ⟨some 31, .mv (.t 32), none⟩] [1, 5, 30, 31])
       (.cnd (.t 31)
        (.seq
         (.reg [
           ⟨some 33, .mv (.t 5), none⟩,
           ⟨some 34, .mv (.t 33), none⟩,
           ⟨some 35, .fa 1 (.t 1), some (34, true)⟩,
           ⟨some 36, .ld false 1 (.t 35), some (34, true)⟩,
           ⟨some 37, .bin .eql (some .str) (.t 36) (.c (.str [])), some (34, true)⟩,
           ⟨some 38, .pick (.t 34) (.t 37) (.c (.bool false)), none⟩,
           ⟨some 2, .mv (.t 38), none⟩] [2])
         .ret)
        (.seq
         (.reg [
           ⟨some 40, .bin .eql (some .int) (.t 30) (.c (.int .i64 2)), none⟩,
           ⟨some 39, .mv (.t 40), none⟩] [1, 5, 30, 39])
         (.cnd (.t 39)
          (.seq
           (.reg [
             ⟨some 41, .mv (.t 5), none⟩,
             ⟨some 42, .mv (.t 41), none⟩,
             ⟨some 43, .fa 1 (.t 1), some (42, true)⟩,
             ⟨some 44, .ld false 1 (.t 43), some (42, true)⟩,
             ⟨some 45, .bin .eql (some .str) (.t 44) (.c (.str [116, 114, 117, 101])), some (42, true)⟩,
             ⟨some 46, .mv (.t 45), some (42, true)⟩,
             ⟨some 47, .fa 1 (.t 1), some (46, false)⟩,
             ⟨some 48, .ld false 1 (.t 47), some (46, false)⟩,
             ⟨some 49, .bin .eql (some .str) (.t 48) (.c (.str [102, 97, 108, 115, 101])), some (46, false)⟩,
             ⟨some 50, .pick (.t 46) (.c (.bool true)) (.t 49), some (42, true)⟩,
             ⟨some 51, .pick (.t 42) (.t 50) (.c (.bool false)), none⟩,
             ⟨some 2, .mv (.t 51), none⟩] [2])
           .ret)
          (.seq
           (.reg [
             ⟨some 53, .bin .eql (some .int) (.t 30) (.c (.int .i64 3)), none⟩,
             ⟨some 52, .mv (.t 53), none⟩] [1, 5, 30, 52])
           (.cnd (.t 52)
            (.seq
             (.reg [
               ⟨some 55, .fa 1 (.t 1), none⟩,
               ⟨some 56, .ld false 1 (.t 55), none⟩,
               ⟨some 57, .call 66 [(.t 56)], none⟩,
               ⟨some 54, .mv (.t 57), none⟩,
               ⟨some 58, .ext (.t 54) 0, none⟩,
               ⟨some 59, .ext (.t 54) 1, none⟩,
               ⟨some 6, .mv (.t 58), none⟩,
               ⟨some 7, .mv (.t 59), none⟩] [1, 5, 6, 7])
             (.seq
              (.reg [
                ⟨some 60, .mv (.t 5), none⟩,
                ⟨some 61, .mv (.t 60), none⟩,
                ⟨some 62, .mv (.t 7), some (61, true)⟩,
                ⟨some 63, .bin .eql (some .int) (.t 62) (.c (.int .i64 0)), some (61, true)⟩,
                ⟨some 64, .pick (.t 61) (.t 63) (.c (.bool false)), none⟩,
                ⟨some 65, .mv (.t 64), none⟩,
                ⟨some 66, .mv (.t 6), some (65, true)⟩,
                ⟨some 67, .fa 1 (.t 1), some (65, true)⟩,
                ⟨some 68, .ld false 1 (.t 67), some (65, true)⟩,
                ⟨some 69, .bin .eql (some .str) (.t 66) (.t 68), some (65, true)⟩,
                ⟨some 70, .pick (.t 65) (.t 69) (.c (.bool false)), none⟩,
                ⟨some 2, .mv (.t 70), none⟩] [2])
              .ret))
            (.seq
             (.reg [
               ⟨some 72, .bin .eql (some .int) (.t 30) (.c (.int .i64 4)), none⟩,
               ⟨some 71, .mv (.t 72), none⟩] [1, 5, 30, 71])
             (.cnd (.t 71)
              (.seq
               (.reg [
                 ⟨some 73, .mv (.t 5), none⟩,
                 ⟨some 74, .mv (.t 73), none⟩,
                 ⟨some 75, .fa 1 (.t 1), some (74, true)⟩,
                 ⟨some 76, .ld false 1 (.t 75), some (74, true)⟩,
                 ⟨some 77, .call 63 [(.t 76)], some (74, true)⟩,
                 ⟨some 78, .pick (.t 74) (.t 77) (.c (.bool false)), none⟩,
                 ⟨some 2, .mv (.t 78), none⟩] [2])
               .ret)
              (.seq
               (.reg [
                 ⟨some 80, .bin .eql (some .int) (.t 30) (.c (.int .i64 5)), none⟩,
                 ⟨some 79, .mv (.t 80), none⟩] [1, 5, 30, 79])
               (.cnd (.t 79)
                (.seq
                 (.reg [
                   ⟨some 81, .mv (.t 5), none⟩,
                   ⟨some 82, .mv (.t 81), none⟩,
                   ⟨some 83, .fa 1 (.t 1), some (82, true)⟩,
                   ⟨some 84, .ld false 1 (.t 83), some (82, true)⟩,
                   ⟨some 85, .call 67 [(.t 84)], some (82, true)⟩,
                   ⟨some 86, .pick (.t 82) (.t 85) (.c (.bool false)), none⟩,
                   ⟨some 2, .mv (.t 86), none⟩] [2])
                 .ret)
                (.seq
                 (.reg [
                   ⟨some 88, .bin .eql (some .int) (.t 30) (.c (.int .i64 6)), none⟩,
                   ⟨some 87, .mv (.t 88), none⟩] [1, 30, 87])
                 (.cnd (.t 87)
                  (.seq
                   (.reg [
                     ⟨some 89, .fa 1 (.t 1), none⟩,
                     ⟨some 90, .ld false 1 (.t 89), none⟩,
                     ⟨some 91, .bin .eql (some .str) (.t 90) (.c (.str [])), none⟩,
                     ⟨some 92, .mv (.t 91), none⟩,
                     ⟨some 93, .fa 2 (.t 1), some (92, true)⟩,
                     ⟨some 94, .ld false 1 (.t 93), some (92, true)⟩,
                     ⟨some 95, .len (.t 94), some (92, true)⟩,
                     ⟨some 96, .bin .eql (some .int) (.t 95) (.c (.int .i64 0)), some (92, true)⟩,
                     ⟨some 97, .pick (.t 92) (.t 96) (.c (.bool false)), none⟩,
                     ⟨some 2, .mv (.t 97), none⟩] [2])
                   .ret)
                  (.seq
                   (.reg [
                     ⟨some 99, .bin .eql (some .int) (.t 30) (.c (.int .i64 7)), none⟩,
                     ⟨some 98, .mv (.t 99), none⟩] [1, 98])
                   (.cnd (.t 98)
                    (.seq
                     (.reg [
                       ⟨some 100, .fa 1 (.t 1), none⟩,
                       ⟨some 101, .ld false 1 (.t 100), none⟩,
                       ⟨some 102, .bin .eql (some .str) (.t 101) (.c (.str [])), none⟩,
                       ⟨some 103, .mv (.t 102), none⟩,
                       ⟨some 104, .fa 2 (.t 1), some (103, true)⟩,
                       ⟨some 105, .ld false 1 (.t 104), some (103, true)⟩,
                       ⟨some 106, .len (.t 105), some (103, true)⟩,
                       ⟨some 107, .fa 3 (.t 1), some (103, true)⟩,
                       ⟨some 108, .ld false 1 (.t 107), some (103, true)⟩,
                       ⟨some 109, .len (.t 108), some (103, true)⟩,
                       ⟨some 110, .bin .eql (some .int) (.t 106) (.t 109), some (103, true)⟩,
                       ⟨some 111, .pick (.t 103) (.t 110) (.c (.bool false)), none⟩,
                       ⟨some 112, .mv (.t 111), none⟩,
                       ⟨some 113, .fa 2 (.t 1), some (112, true)⟩,
                       ⟨some 114, .ld false 1 (.t 113), some (112, true)⟩,
                       ⟨some 115, .call 68 [(.t 114)], some (112, true)⟩,
                       ⟨some 116, .pick (.t 112) (.t 115) (.c (.bool false)), none⟩,
                       ⟨some 2, .mv (.t 116), none⟩] [2])
                     .ret)
                    .skip))))))))))))))))
    (.seq
     (.reg [
       ⟨some 2, .mv (.c (.bool false)), none⟩] [2])
     .ret))))),
[.tmp 2]⟩
theorem F54_ok : prepF Go.Proofs.Tryz.prog ⟨[1, 4], [(0, [1]), (1, [1, 9, 10, 11]), (2, [1, 9, 10, 11, 12]), (3, [1, 4, 9, 10, 11]), (4, [1, 9, 10, 11, 17]), (5, [2]), (6, [1, 9, 10, 11]), (7, [1, 5]), (8, [1, 5, 30]), (9, [1, 5, 30, 31]), (10, [2]), (11, [1, 5, 30, 39]), (12, [2]), (13, [1, 5, 30, 52]), (14, [1, 5, 6, 7]), (15, [2]), (16, [1, 5, 30, 71]), (17, [2]), (18, [1, 5, 30, 79]), (19, [2]), (20, [1, 30, 87]), (21, [2]), (22, [1, 98]), (23, [2]), (24, [2]), (1000000, [1, 9, 10, 11])], []⟩ Go.Proofs.Tryz.f54 = some F54 := by kernel_rfl
/-- emend/tree.identical -/
def F56 : DF := ⟨2,
(.seq
 (.reg [
   ⟨some 2, .bxL (.t 0), none⟩,
   ⟨some 3, .bxL (.t 1), none⟩,
   ⟨some 4, .mv (.c (.bool false)), none⟩] [2, 3])
 (.seq
  (.reg [
    ⟨some 5, .fa 0 (.t 2), none⟩,
    ⟨some 6, .ld false 1 (.t 5), none⟩,
    ⟨some 7, .fa 0 (.t 3), none⟩,
    ⟨some 8, .ld false 1 (.t 7), none⟩,
    ⟨some 9, .bin .eql (some .int) (.t 6) (.t 8), none⟩,
    ⟨some 10, .mv (.t 9), none⟩,
    ⟨some 11, .fa 1 (.t 2), some (10, true)⟩,
    ⟨some 12, .ld false 1 (.t 11), some (10, true)⟩,
    ⟨some 13, .fa 1 (.t 3), some (10, true)⟩,
    ⟨some 14, .ld false 1 (.t 13), some (10, true)⟩,
    ⟨some 15, .bin .eql (some .str) (.t 12) (.t 14), some (10, true)⟩,
    ⟨some 16, .pick (.t 10) (.t 15) (.c (.bool false)), none⟩,
    ⟨some 17, .mv (.t 16), none⟩,
    ⟨some 18, .fa 2 (.t 2), some (17, true)⟩,
    ⟨some 19, .ld false 1 (.t 18), some (17, true)⟩,
    ⟨some 20, .fa 2 (.t 3), some (17, true)⟩,
    ⟨some 21, .ld false 1 (.t 20), some (17, true)⟩,
    ⟨some 22, .call 70 [(.t 19), (.t 21)], some (17, true)⟩,
    ⟨some 23, .pick (.t 17) (.t 22) (.c (.bool false)), none⟩,
    ⟨some 24, .mv (.t 23), none⟩,
    ⟨some 25, .fa 3 (.t 2), some (24, true)⟩,
    ⟨some 26, .ld false 1 (.t 25), some (24, true)⟩,
    ⟨some 27, .fa 3 (.t 3), some (24, true)⟩,
    ⟨some 28, .ld false 1 (.t 27), some (24, true)⟩,
    ⟨some 29, .call 71 [(.t 26), (.t 28), (.f 56)], some (24, true)⟩,
    ⟨some 30, .pick (.t 24) (.t 29) (.c (.bool false)), none⟩,
    ⟨some 4, .mv (.t 30), none⟩] [4])
  .ret)),
[.tmp 4]⟩
theorem F56_ok : prepF Go.Proofs.Tryz.prog ⟨[2, 3], [(0, [2, 3]), (1, [4])], []⟩ Go.Proofs.Tryz.f56 = some F56 := by kernel_rfl
/-- emend/tree.Sorted -/
def F57 : DF := ⟨1,
(.seq
 (.reg [
   ⟨some 1, .bxL (.t 0), none⟩,
   ⟨some 2, .alL [(.int .i64 0), (.str []), (.sl 1 ⟨none, 0, (some 0), true⟩ []), (.sl 4 ⟨none, 0, (some 0), true⟩ [])], none⟩] [1, 2])
 (.seq
  (.reg [
    ⟨some 8, .fa 0 (.t 1), none⟩,
    ⟨some 9, .ld false 1 (.t 8), none⟩,
    ⟨some 10, .fa 1 (.t 1), none⟩,
    ⟨some 11, .ld false 1 (.t 10), none⟩,
    ⟨some 12, .bld [(.int .i64 0), (.str []), (.sl 1 ⟨none, 0, (some 0), true⟩ []), (.sl 4 ⟨none, 0, (some 0), true⟩ [])] [(0, 1, (.t 9)), (1, 1, (.t 11))], none⟩,
    ⟨some 3, .alL [(.int .i64 0), (.str []), (.sl 1 ⟨none, 0, (some 0), true⟩ []), (.sl 4 ⟨none, 0, (some 0), true⟩ [])], none⟩,
    ⟨none, .st 4 (.t 3) (.t 12), none⟩] [1, 2, 3])
  (.seq
   (.seq
    (.reg [
      ⟨some 13, .fa 0 (.t 1), none⟩,
      ⟨some 14, .ld false 1 (.t 13), none⟩,
      ⟨some 15, .bin .neq (some .int) (.t 14) (.c (.int .i64 7)), none⟩,
      ⟨some 16, .mv (.t 15), none⟩,
      ⟨some 17, .fa 2 (.t 1), some (16, false)⟩,
      ⟨some 18, .ld false 1 (.t 17), some (16, false)⟩,
      ⟨some 19, .len (.t 18), some (16, false)⟩,
      ⟨some 20, .fa 3 (.t 1), some (16, false)⟩,
      ⟨some 21, .ld false 1 (.t 20), some (16, false)⟩,
      ⟨some 22, .len (.t 21), some (16, false)⟩,
      ⟨some 23, .bin .neq (some .int) (.t 19) (.t 22), some (16, false)⟩,
      ⟨some 24, .pick (.t 16) (.c (.bool true)) (.t 23), none⟩] [1, 2, 3, 24])
    (.cnd (.t 24)
     (.seq
      (.reg [
        ⟨some 25, .fa 2 (.t 3), none⟩,
        ⟨some 26, .ld false 1 (.t 25), none⟩,
        ⟨some 27, .fa 2 (.t 1), none⟩,
        ⟨some 28, .ld false 1 (.t 27), none⟩,
        ⟨some 29, .app false 9 1 16 (.t 26) (.t 28), none⟩,
        ⟨some 30, .fa 2 (.t 3), none⟩,
        ⟨none, .st 1 (.t 30) (.t 29), none⟩] [1, 2, 3])
      (.seq
       (.seq
        (.reg [
          ⟨some 31, .fa 3 (.t 1), none⟩,
          ⟨some 32, .ld false 1 (.t 31), none⟩,
          ⟨some 33, .len (.t 32), none⟩,
          ⟨some 34, .mv (.c (.int .i64 0)), none⟩] [2, 3, 32, 33, 34])
        (.blk 0
         (.seq
          (.trim [2, 3, 32, 33, 34])
          (.lop
           (.seq
            (.seq
             (.reg [
               ⟨some 35, .bin .lss none (.t 34) (.t 33), none⟩] [2, 3, 32, 33, 34, 35])
             (.seq
              (.cnd (.t 35)
               .skip
               (.exit 0))
              (.seq
               (.blk 1
                (.seq
                 (.reg [
                   ⟨some 36, .ia 4 (.t 32) (.t 34), none⟩,
                   ⟨some 37, .ld true 4 (.t 36), none⟩,
                   ⟨some 5, .alL [(.int .i64 0), (.str []), (.sl 1 ⟨none, 0, (some 0), true⟩ []), (.sl 4 ⟨none, 0, (some 0), true⟩ [])], none⟩,
                   ⟨none, .st 4 (.t 5) (.t 37), none⟩] [2, 3, 5, 32, 33, 34])
                 (.drw [
                   (⟨some 38, .fa 3 (.t 3), none⟩, (some 3)),
                   (⟨some 39, .ld false 1 (.t 38), none⟩, (some 3)),
                   (⟨some 40, .ld true 4 (.t 5), none⟩, (some 5)),
                   (⟨some 41, .call 57 [(.t 40)], none⟩, none),
                   (⟨some 42, .bldS 4 1 (.agg [(.int .i64 0), (.str []), (.sl 1 ⟨none, 0, (some 0), true⟩ []), (.sl 4 ⟨none, 0, (some 0), true⟩ [])]) [(0, (.t 41))], none⟩, none),
                   (⟨some 43, .app true 25 4 72 (.t 39) (.t 42), none⟩, none),
                   (⟨some 44, .fa 3 (.t 3), none⟩, (some 3)),
                   (⟨none, .st 1 (.t 44) (.t 43), none⟩, (some 3))] [2, 3, 32, 33, 34])))
               (.reg [
                 ⟨some 45, .bin .add none (.t 34) (.c (.int .i64 1)), none⟩,
                 ⟨some 34, .mv (.t 45), none⟩] [2, 3, 32, 33, 34]))))
            (.trim [2, 3, 32, 33, 34]))))))
       (.seq
        (.reg [
          ⟨some 46, .ld true 4 (.t 3), none⟩,
          ⟨none, .st 4 (.t 2) (.t 46), none⟩] [2])
        .ret)))
     .skip))
   (.seq
    (.seq
     (.reg [
       ⟨some 47, .fa 2 (.t 1), none⟩,
       ⟨some 48, .ld false 1 (.t 47), none⟩,
       ⟨some 49, .call 61 [(.t 48)], none⟩,
       ⟨some 50, .len (.t 49), none⟩,
       ⟨some 51, .mv (.c (.int .i64 0)), none⟩] [1, 2, 3, 49, 50, 51])
     (.blk 2
      (.seq
       (.trim [1, 2, 3, 49, 50, 51])
       (.lop
        (.seq
         (.seq
          (.reg [
            ⟨some 52, .bin .lss none (.t 51) (.t 50), none⟩] [1, 2, 3, 49, 50, 51, 52])
          (.seq
           (.cnd (.t 52)
            .skip
            (.exit 2))
           (.seq
            (.blk 3
             (.seq
              (.reg [
                ⟨some 53, .ia 1 (.t 49) (.t 51), none⟩,
                ⟨some 54, .ld false 1 (.t 53), none⟩,
                ⟨some 7, .mv (.t 54), none⟩] [1, 2, 3, 7, 49, 50, 51])
              (.seq
               (.drw [
                 (⟨some 55, .fa 2 (.t 3), none⟩, (some 3)),
                 (⟨some 56, .ld false 1 (.t 55), none⟩, (some 3)),
                 (⟨some 57, .fa 2 (.t 1), none⟩, (some 1)),
                 (⟨some 58, .ld false 1 (.t 57), none⟩, (some 1)),
                 (⟨some 59, .mv (.t 7), none⟩, none),
                 (⟨some 60, .ia 1 (.t 58) (.t 59), none⟩, none),
                 (⟨some 61, .ld false 1 (.t 60), none⟩, none),
                 (⟨some 62, .bldS 1 1 (.str []) [(0, (.t 61))], none⟩, none),
                 (⟨some 63, .app false 9 1 16 (.t 56) (.t 62), none⟩, none),
                 (⟨some 64, .fa 2 (.t 3), none⟩, (some 3)),
                 (⟨none, .st 1 (.t 64) (.t 63), none⟩, (some 3))] [1, 2, 3, 7, 49, 50, 51])
               (.drw [
                 (⟨some 65, .fa 3 (.t 3), none⟩, (some 3)),
                 (⟨some 66, .ld false 1 (.t 65), none⟩, (some 3)),
                 (⟨some 67, .fa 3 (.t 1), none⟩, (some 1)),
                 (⟨some 68, .ld false 1 (.t 67), none⟩, (some 1)),
                 (⟨some 69, .mv (.t 7), none⟩, none),
                 (⟨some 70, .ia 4 (.t 68) (.t 69), none⟩, none),
                 (⟨some 71, .ld true 4 (.t 70), none⟩, none),
                 (⟨some 72, .call 57 [(.t 71)], none⟩, none),
                 (⟨some 73, .bldS 4 1 (.agg [(.int .i64 0), (.str []), (.sl 1 ⟨none, 0, (some 0), true⟩ []), (.sl 4 ⟨none, 0, (some 0), true⟩ [])]) [(0, (.t 72))], none⟩, none),
                 (⟨some 74, .app true 25 4 72 (.t 66) (.t 73), none⟩, none),
                 (⟨some 75, .fa 3 (.t 3), none⟩, (some 3)),
                 (⟨none, .st 1 (.t 75) (.t 74), none⟩, (some 3))] [1, 2, 3, 49, 50, 51]))))
            (.reg [
              ⟨some 76, .bin .add none (.t 51) (.c (.int .i64 1)), none⟩,
              ⟨some 51, .mv (.t 76), none⟩] [1, 2, 3, 49, 50, 51]))))
         (.trim [1, 2, 3, 49, 50, 51]))))))
    (.seq
     (.reg [
       ⟨some 77, .ld true 4 (.t 3), none⟩,
       ⟨none, .st 4 (.t 2) (.t 77), none⟩] [2])
     .ret))))),
[.cell 2 true 4]⟩
theorem F57_ok : prepF Go.Proofs.Tryz.prog ⟨[1, 2, 3, 5], [(0, [1, 2]), (1, [1, 2, 3]), (2, [1, 2, 3, 24]), (3, [1, 2, 3]), (4, [2, 3, 32, 33, 34]), (5, [2, 3, 32, 33, 34, 35]), (6, [2, 3, 5, 32, 33, 34]), (7, [2, 3, 32, 33, 34]), (8, [2, 3, 32, 33, 34]), (9, [2]), (10, [1, 2, 3, 49, 50, 51]), (11, [1, 2, 3, 49, 50, 51, 52]), (12, [1, 2, 3, 7, 49, 50, 51]), (13, [1, 2, 3, 7, 49, 50, 51]), (14, [1, 2, 3, 49, 50, 51]), (15, [1, 2, 3, 49, 50, 51]), (16, [2]), (1000000, [2, 3, 32, 33, 34]), (1000002, [1, 2, 3, 49, 50, 51])], [(14, [(some 3), (some 3), (some 1), (some 1), none, none, none, none, none, none, (some 3), (some 3)]), (13, [(some 3), (some 3), (some 1), (some 1), none, none, none, none, none, (some 3), (some 3)]), (7, [(some 3), (some 3), (some 5), none, none, none, (some 3), (some 3)])]⟩ Go.Proofs.Tryz.f57 = some F57 := by kernel_rfl
/-- emend/cst.leaf -/
def F58 : DF := ⟨1,
(.seq
 (.reg [
   ⟨some 1, .bxL (.t 0), none⟩,
   ⟨some 2, .mv (.c (.bool false)), none⟩] [1])
 (.seq
  (.reg [
    ⟨some 3, .fa 0 (.t 1), none⟩,
    ⟨some 4, .ld false 1 (.t 3), none⟩,
    ⟨some 5, .call 72 [(.t 4)], none⟩,
    ⟨some 2, .mv (.t 5), none⟩] [2])
  .ret)),
[.tmp 2]⟩
theorem F58_ok : prepF Go.Proofs.Tryz.prog ⟨[1], [(0, [1]), (1, [2])], []⟩ Go.Proofs.Tryz.f58 = some F58 := by kernel_rfl
/-- (*emend/tree.writer).put -/
def F59 : DF := ⟨2,
(.seq
 (.reg [
   ⟨some 4, .mv (.t 0), none⟩,
   ⟨some 5, .nilc (.t 4), none⟩,
   ⟨some 6, .fa 0 (.t 5), none⟩,
   ⟨some 7, .call 34 [(.t 6)], none⟩,
   ⟨some 8, .bin .leq none (.t 7) (.c (.int .i64 65536)), none⟩] [0, 1, 8])
 (.cnd (.t 8)
  (.reg [
    ⟨some 9, .mv (.t 0), none⟩,
    ⟨some 10, .nilc (.t 9), none⟩,
    ⟨some 11, .fa 0 (.t 10), none⟩,
    ⟨some 12, .mv (.t 1), none⟩,
    ⟨some 13, .call 38 [(.t 11), (.t 12)], none⟩] [])
  .skip)),
[]⟩
theorem F59_ok : prepF Go.Proofs.Tryz.prog ⟨[], [(0, [0, 1, 8]), (1, [])], []⟩ Go.Proofs.Tryz.f59 = some F59 := by kernel_rfl
/-- emend/text.Quote -/
def F60 : DF := ⟨1,
(.seq
 (.reg [
   ⟨some 2, .mv (.c (.str [])), none⟩,
   ⟨some 3, .mv (.c (.int .i64 0)), none⟩] [0])
 (.seq
  (.seq
   (.reg [
     ⟨some 8, .mv (.t 0), none⟩,
     ⟨some 9, .call 63 [(.t 8)], none⟩,
     ⟨some 10, .un .not (.t 9), none⟩] [0, 10])
   (.cnd (.t 10)
    (.seq
     (.reg [
       ⟨some 2, .mv (.c (.str [])), none⟩,
       ⟨some 3, .mv (.c (.int .i64 10)), none⟩] [2, 3])
     .ret)
    .skip))
  (.seq
   (.reg [
     ⟨some 4, .alH 63 [.nilp, (.sl 1 ⟨none, 0, (some 0), true⟩ [])], none⟩] [0, 4])
   (.seq
    (.reg [
      ⟨some 11, .call 73 [(.t 4), (.c (.int .u8 34))], none⟩] [0, 4])
    (.seq
     (.seq
      (.reg [
        ⟨some 12, .mv (.t 0), none⟩,
        ⟨some 13, .lenS (.t 12), none⟩,
        ⟨some 14, .mv (.c (.int .i64 0)), none⟩] [0, 4, 13, 14])
      (.blk 0
       (.seq
        (.trim [0, 4, 13, 14])
        (.lop
         (.seq
          (.seq
           (.reg [
             ⟨some 15, .bin .lss none (.t 14) (.t 13), none⟩] [0, 4, 13, 14, 15])
           (.seq
            (.cnd (.t 15)
             .skip
             (.exit 0))
            (.seq
             (.blk 1
              (.seq
               (.reg [
                 ⟨some 16, .mv (.t 14), none⟩,
                 ⟨some 5, .mv (.t 16), none⟩] [0, 4, 5, 13, 14])
               (.seq
                (.reg [
                  ⟨some 17, .mv (.t 0), none⟩,
                  ⟨some 18, .mv (.t 5), none⟩,
                  ⟨some 19, .ixS (.t 17) (.t 18), none⟩,
                  ⟨some 6, .mv (.t 19), none⟩] [0, 4, 6, 13, 14])
                (.seq
                 (.reg [
                   ⟨some 20, .mv (.t 6), none⟩,
                   ⟨some 21, .call 74 [(.t 20)], none⟩,
                   ⟨some 7, .mv (.t 21), none⟩] [0, 4, 6, 7, 13, 14])
                 (.blk 2
                  (.seq
                   (.reg [
                     ⟨some 25, .mv (.t 7), none⟩,
                     ⟨some 26, .bin .neq (some .int) (.t 25) (.c (.int .u8 0)), none⟩,
                     ⟨some 24, .mv (.t 26), none⟩] [0, 4, 6, 7, 13, 14, 24])
                   (.cnd (.t 24)
                    (.seq
                     (.reg [
                       ⟨some 27, .call 73 [(.t 4), (.c (.int .u8 92))], none⟩] [0, 4, 7, 13, 14])
                     (.reg [
                       ⟨some 28, .mv (.t 7), none⟩,
                       ⟨some 29, .call 73 [(.t 4), (.t 28)], none⟩] [0, 4, 13, 14]))
                    (.seq
                     (.reg [
                       ⟨some 31, .mv (.t 6), none⟩,
                       ⟨some 32, .bin .lss none (.t 31) (.c (.int .u8 32)), none⟩,
                       ⟨some 33, .mv (.t 32), none⟩,
                       ⟨some 34, .mv (.t 6), some (33, false)⟩,
                       ⟨some 35, .bin .eql (some .int) (.t 34) (.c (.int .u8 127)), some (33, false)⟩,
                       ⟨some 36, .pick (.t 33) (.c (.bool true)) (.t 35), none⟩,
                       ⟨some 30, .mv (.t 36), none⟩] [0, 4, 6, 13, 14, 30])
                     (.cnd (.t 30)
                      (.seq
                       (.reg [
                         ⟨some 37, .call 38 [(.t 4), (.c (.str [92, 117, 48, 48]))], none⟩] [0, 4, 6, 13, 14])
                       (.seq
                        (.reg [
                          ⟨some 38, .mv (.t 6), none⟩,
                          ⟨some 39, .bin .shr none (.t 38) (.c (.int .u64 4)), none⟩,
                          ⟨some 40, .cvI .i64 (.t 39), none⟩,
                          ⟨some 41, .call 75 [(.t 40)], none⟩,
                          ⟨some 42, .call 73 [(.t 4), (.t 41)], none⟩] [0, 4, 6, 13, 14])
                        (.reg [
                          ⟨some 43, .mv (.t 6), none⟩,
                          ⟨some 44, .cvI .i64 (.t 43), none⟩,
                          ⟨some 45, .call 75 [(.t 44)], none⟩,
                          ⟨some 46, .call 73 [(.t 4), (.t 45)], none⟩] [0, 4, 13, 14])))
                      (.reg [
                        ⟨some 22, .mv (.t 6), none⟩,
                        ⟨some 23, .call 73 [(.t 4), (.t 22)], none⟩] [0, 4, 13, 14]))))))))))
             (.reg [
               ⟨some 47, .bin .add none (.t 14) (.c (.int .i64 1)), none⟩,
               ⟨some 14, .mv (.t 47), none⟩] [0, 4, 13, 14]))))
          (.trim [0, 4, 13, 14]))))))
     (.seq
      (.reg [
        ⟨some 48, .call 73 [(.t 4), (.c (.int .u8 34))], none⟩] [4])
      (.seq
       (.reg [
         ⟨some 49, .call 35 [(.t 4)], none⟩,
         ⟨some 2, .mv (.t 49), none⟩,
         ⟨some 3, .mv (.c (.int .i64 0)), none⟩] [2, 3])
       .ret))))))),
[.tmp 2, .tmp 3]⟩
theorem F60_ok : prepF Go.Proofs.Tryz.prog ⟨[], [(0, [0]), (1, [0, 10]), (2, [2, 3]), (3, [0, 4]), (4, [0, 4]), (5, [0, 4, 13, 14]), (6, [0, 4, 13, 14, 15]), (7, [0, 4, 5, 13, 14]), (8, [0, 4, 6, 13, 14]), (9, [0, 4, 6, 7, 13, 14]), (10, [0, 4, 13, 14]), (11, [0, 4, 6, 7, 13, 14, 24]), (12, [0, 4, 7, 13, 14]), (13, [0, 4, 13, 14]), (14, [0, 4, 6, 13, 14, 30]), (15, [0, 4, 6, 13, 14]), (16, [0, 4, 6, 13, 14]), (17, [0, 4, 13, 14]), (18, [0, 4, 13, 14]), (19, [4]), (20, [2, 3]), (1000000, [0, 4, 13, 14])], []⟩ Go.Proofs.Tryz.f60 = some F60 := by kernel_rfl
/-- emend/tree.order -/
def F61 : DF := ⟨1,
(.seq
 (.reg [
   ⟨some 1, .bxH 22 (.t 0), none⟩,
   ⟨some 2, .mv (.c (.sl 1 ⟨none, 0, (some 0), true⟩ [])), none⟩] [1])
 (.seq
  (.reg [
    ⟨some 5, .ld false 1 (.t 1), none⟩,
    ⟨some 6, .len (.t 5), none⟩,
    ⟨some 7, .mks 3 1 8 (.int .i64 0) (.t 6) (.t 6), none⟩,
    ⟨some 3, .mv (.t 7), none⟩] [1, 3])
  (.seq
   (.seq
    (.reg [
      ⟨some 8, .mv (.t 3), none⟩,
      ⟨some 9, .len (.t 8), none⟩,
      ⟨some 10, .mv (.c (.int .i64 0)), none⟩] [1, 3, 9, 10])
    (.blk 0
     (.seq
      (.trim [1, 3, 9, 10])
      (.lop
       (.seq
        (.seq
         (.reg [
           ⟨some 11, .bin .lss none (.t 10) (.t 9), none⟩] [1, 3, 9, 10, 11])
         (.seq
          (.cnd (.t 11)
           .skip
           (.exit 0))
          (.seq
           (.blk 1
            (.seq
             (.reg [
               ⟨some 12, .mv (.t 10), none⟩,
               ⟨some 4, .mv (.t 12), none⟩] [1, 3, 4, 9, 10])
             (.reg [
               ⟨some 13, .mv (.t 3), none⟩,
               ⟨some 14, .mv (.t 4), none⟩,
               ⟨some 15, .mv (.t 4), none⟩,
               ⟨some 16, .ia 1 (.t 13) (.t 14), none⟩,
               ⟨none, .st 1 (.t 16) (.t 15), none⟩] [1, 3, 9, 10])))
           (.reg [
             ⟨some 17, .bin .add none (.t 10) (.c (.int .i64 1)), none⟩,
             ⟨some 10, .mv (.t 17), none⟩] [1, 3, 9, 10]))))
        (.trim [1, 3, 9, 10]))))))
   (.seq
    (.reg [
      ⟨some 18, .mv (.t 3), none⟩,
      ⟨some 19, .mkf 77 [] [(.t 1)], none⟩,
      ⟨some 20, .call 76 [(.t 18), (.t 19)], none⟩] [3])
    (.seq
     (.reg [
       ⟨some 21, .mv (.t 3), none⟩,
       ⟨some 2, .mv (.t 21), none⟩] [2])
     .ret))))),
[.tmp 2]⟩
theorem F61_ok : prepF Go.Proofs.Tryz.prog ⟨[], [(0, [1]), (1, [1, 3]), (2, [1, 3, 9, 10]), (3, [1, 3, 9, 10, 11]), (4, [1, 3, 4, 9, 10]), (5, [1, 3, 9, 10]), (6, [1, 3, 9, 10]), (7, [3]), (8, [2]), (1000000, [1, 3, 9, 10])], []⟩ Go.Proofs.Tryz.f61 = some F61 := by kernel_rfl
/-- (*strings.Builder).copyCheck -/
def F62 : DF := ⟨1,
(.seq
 (.reg [
   ⟨some 2, .mv (.t 0), none⟩,
   ⟨some 3, .nilc (.t 2), none⟩,
   ⟨some 4, .fa 0 (.t 3), none⟩,
   ⟨some 5, .ld false 1 (.t 4), none⟩,
   ⟨some 6, .bin .eql (some .ptr) (.t 5) (.c .nilp), none⟩] [0, 6])
 (.cnd (.t 6)
  (.reg [
    ⟨some 7, .mv (.t 0), none⟩,
    ⟨some 8, .mv (.t 0), none⟩,
    ⟨some 9, .cvU (.t 8), none⟩,
    ⟨some 10, .xtn .noEscape [(.t 9)], none⟩,
    ⟨some 11, .cvP [(62, 2), (63, 2), (64, 2), (65, 2)] (.t 10), none⟩,
    ⟨some 12, .nilc (.t 7), none⟩,
    ⟨some 13, .fa 0 (.t 12), none⟩,
    ⟨none, .st 1 (.t 13) (.t 11), none⟩] [])
  (.seq
   (.reg [
     ⟨some 14, .mv (.t 0), none⟩,
     ⟨some 15, .nilc (.t 14), none⟩,
     ⟨some 16, .fa 0 (.t 15), none⟩,
     ⟨some 17, .ld false 1 (.t 16), none⟩,
     ⟨some 18, .mv (.t 0), none⟩,
     ⟨some 19, .bin .neq (some .ptr) (.t 17) (.t 18), none⟩] [19])
   (.cnd (.t 19)
    .fail
    .skip)))),
[]⟩
theorem F62_ok : prepF Go.Proofs.Tryz.prog ⟨[], [(0, [0, 6]), (1, []), (2, [19])], []⟩ Go.Proofs.Tryz.f62 = some F62 := by kernel_rfl
/-- emend/text.Valid -/
def F63 : DF := ⟨1,
(.seq
 (.reg [
   ⟨some 2, .mv (.c (.bool false)), none⟩] [0])
 (.seq
  (.reg [
    ⟨some 3, .mv (.t 0), none⟩,
    ⟨some 4, .call 80 [(.t 3)], none⟩,
    ⟨some 5, .bin .lss none (.t 4) (.c (.int .i64 0)), none⟩,
    ⟨some 2, .mv (.t 5), none⟩] [2])
  .ret)),
[.tmp 2]⟩
theorem F63_ok : prepF Go.Proofs.Tryz.prog ⟨[], [(0, [0]), (1, [2])], []⟩ Go.Proofs.Tryz.f63 = some F63 := by kernel_rfl
/-- emend/num.Normal -/
def F66 : DF := ⟨1,
(.seq
 (.reg [
   ⟨some 2, .mv (.c (.str [])), none⟩,
   ⟨some 3, .mv (.c (.int .i64 0)), none⟩] [0])
 (.seq
  (.reg [
    ⟨some 7, .mv (.t 0), none⟩,
    ⟨some 8, .call 84 [(.t 7)], none⟩,
    ⟨some 6, .mv (.t 8), none⟩,
    ⟨some 9, .ext (.t 6) 0, none⟩,
    ⟨some 10, .ext (.t 6) 1, none⟩,
    ⟨some 4, .alL [(.bool false), (.str []), (.int .i64 0)], none⟩,
    ⟨none, .st 3 (.t 4) (.t 9), none⟩,
    ⟨some 5, .mv (.t 10), none⟩] [4, 5])
  (.seq
   (.seq
    (.reg [
      ⟨some 11, .mv (.t 5), none⟩,
      ⟨some 12, .bin .neq (some .int) (.t 11) (.c (.int .i64 0)), none⟩] [4, 5, 12])
    (.cnd (.t 12)
     (.seq
      (.reg [
        ⟨some 13, .mv (.t 5), none⟩,
        ⟨some 2, .mv (.c (.str [])), none⟩,
        ⟨some 3, .mv (.t 13), none⟩] [2, 3])
      .ret)
     .skip))
   (.seq
    (.reg [
      ⟨some 14, .ld true 3 (.t 4), none⟩,
      ⟨some 15, .call 85 [(.t 14)], none⟩,
      ⟨some 16, .ext (.t 15) 0, none⟩,
      ⟨some 17, .ext (.t 15) 1, none⟩,
      ⟨some 2, .mv (.t 16), none⟩,
      ⟨some 3, .mv (.t 17), none⟩] [2, 3])
    .ret)))),
[.tmp 2, .tmp 3]⟩
theorem F66_ok : prepF Go.Proofs.Tryz.prog ⟨[4], [(0, [0]), (1, [4, 5]), (2, [4, 5, 12]), (3, [2, 3]), (4, [2, 3])], []⟩ Go.Proofs.Tryz.f66 = some F66 := by kernel_rfl
/-- emend/tree.Time -/
def F67 : DF := ⟨1,
(.seq
 (.reg [
   ⟨some 2, .mv (.c (.bool false)), none⟩] [0])
 (.seq
  (.seq
   (.reg [
     ⟨some 6, .mv (.t 0), none⟩,
     ⟨some 7, .call 86 [(.t 6)], none⟩,
     ⟨some 8, .mv (.t 7), none⟩,
     ⟨some 9, .mv (.t 0), some (8, false)⟩,
     ⟨some 10, .call 87 [(.t 9)], some (8, false)⟩,
     ⟨some 11, .pick (.t 8) (.c (.bool true)) (.t 10), none⟩] [0, 11])
   (.cnd (.t 11)
    (.seq
     (.reg [
       ⟨some 2, .mv (.c (.bool true)), none⟩] [2])
     .ret)
    .skip))
  (.seq
   (.reg [
     ⟨some 13, .mv (.t 0), none⟩,
     ⟨some 14, .call 88 [(.t 13)], none⟩,
     ⟨some 12, .mv (.t 14), none⟩,
     ⟨some 15, .ext (.t 12) 0, none⟩,
     ⟨some 16, .ext (.t 12) 1, none⟩,
     ⟨some 0, .mv (.t 15), none⟩] [0])
   (.seq
    (.reg [
      ⟨some 18, .mv (.t 0), none⟩,
      ⟨some 19, .call 89 [(.t 18), (.c (.str [84]))], none⟩,
      ⟨some 17, .mv (.t 19), none⟩,
      ⟨some 20, .ext (.t 17) 0, none⟩,
      ⟨some 21, .ext (.t 17) 1, none⟩,
      ⟨some 22, .ext (.t 17) 2, none⟩,
      ⟨some 3, .mv (.t 20), none⟩,
      ⟨some 4, .mv (.t 21), none⟩,
      ⟨some 5, .mv (.t 22), none⟩] [3, 4, 5])
    (.seq
     (.reg [
       ⟨some 23, .mv (.t 5), none⟩,
       ⟨some 24, .mv (.t 23), none⟩,
       ⟨some 25, .mv (.t 3), some (24, true)⟩,
       ⟨some 26, .call 86 [(.t 25)], some (24, true)⟩,
       ⟨some 27, .pick (.t 24) (.t 26) (.c (.bool false)), none⟩,
       ⟨some 28, .mv (.t 27), none⟩,
       ⟨some 29, .mv (.t 4), some (28, true)⟩,
       ⟨some 30, .call 87 [(.t 29)], some (28, true)⟩,
       ⟨some 31, .pick (.t 28) (.t 30) (.c (.bool false)), none⟩,
       ⟨some 2, .mv (.t 31), none⟩] [2])
     .ret))))),
[.tmp 2]⟩
theorem F67_ok : prepF Go.Proofs.Tryz.prog ⟨[], [(0, [0]), (1, [0, 11]), (2, [2]), (3, [0]), (4, [3, 4, 5]), (5, [2])], []⟩ Go.Proofs.Tryz.f67 = some F67 := by kernel_rfl
/-- emend/tree.unlike -/
def F68 : DF := ⟨1,
(.seq
 (.reg [
   ⟨some 2, .mv (.c (.bool false)), none⟩] [0])
 (.seq
  (.reg [
    ⟨some 6, .mkm, none⟩,
    ⟨some 3, .mv (.t 6), none⟩] [0, 3])
  (.seq
   (.seq
    (.reg [
      ⟨some 7, .mv (.t 0), none⟩,
      ⟨some 8, .len (.t 7), none⟩,
      ⟨some 9, .mv (.c (.int .i64 0)), none⟩] [3, 7, 8, 9])
    (.blk 0
     (.seq
      (.trim [3, 7, 8, 9])
      (.lop
       (.seq
        (.seq
         (.reg [
           ⟨some 10, .bin .lss none (.t 9) (.t 8), none⟩] [3, 7, 8, 9, 10])
         (.seq
          (.cnd (.t 10)
           .skip
           (.exit 0))
          (.seq
           (.blk 1
            (.seq
             (.reg [
               ⟨some 11, .ia 1 (.t 7) (.t 9), none⟩,
               ⟨some 12, .ld false 1 (.t 11), none⟩,
               ⟨some 5, .mv (.t 12), none⟩] [3, 5, 7, 8, 9])
             (.seq
              (.reg [
                ⟨some 13, .mv (.t 3), none⟩,
                ⟨some 14, .mv (.t 5), none⟩,
                ⟨some 15, .lkp .str (.int .i64 0) (.t 13) (.t 14) false, none⟩,
                ⟨some 16, .bin .add none (.t 15) (.c (.int .i64 1)), none⟩,
                ⟨none, .mup .str (.t 13) (.t 14) (.t 16), none⟩] [3, 5, 7, 8, 9])
              (.seq
               (.reg [
                 ⟨some 17, .mv (.t 3), none⟩,
                 ⟨some 18, .mv (.t 5), none⟩,
                 ⟨some 19, .lkp .str (.int .i64 0) (.t 17) (.t 18) false, none⟩,
                 ⟨some 20, .bin .gtr none (.t 19) (.c (.int .i64 1)), none⟩,
                 ⟨some 21, .mv (.t 20), none⟩,
                 ⟨some 22, .mv (.t 5), some (21, false)⟩,
                 ⟨some 23, .call 63 [(.t 22)], some (21, false)⟩,
                 ⟨some 24, .un .not (.t 23), some (21, false)⟩,
                 ⟨some 25, .pick (.t 21) (.c (.bool true)) (.t 24), none⟩] [3, 7, 8, 9, 25])
               (.cnd (.t 25)
                (.seq
                 (.reg [
                   ⟨some 2, .mv (.c (.bool false)), none⟩] [2])
                 .ret)
                .skip)))))
           (.reg [
             ⟨some 26, .bin .add none (.t 9) (.c (.int .i64 1)), none⟩,
             ⟨some 9, .mv (.t 26), none⟩] [3, 7, 8, 9]))))
        (.trim [3, 7, 8, 9]))))))
   (.seq
    (.reg [
      ⟨some 2, .mv (.c (.bool true)), none⟩] [2])
    .ret)))),
[.tmp 2]⟩
theorem F68_ok : prepF Go.Proofs.Tryz.prog ⟨[], [(0, [0]), (1, [0, 3]), (2, [3, 7, 8, 9]), (3, [3, 7, 8, 9, 10]), (4, [3, 5, 7, 8, 9]), (5, [3, 5, 7, 8, 9]), (6, [3, 7, 8, 9, 25]), (7, [2]), (8, [3, 7, 8, 9]), (9, [2]), (1000000, [3, 7, 8, 9])], []⟩ Go.Proofs.Tryz.f68 = some F68 := by kernel_rfl
/-- slices.Equal[[]string,string] -/
def F70 : DF := ⟨2,
(.seq
 (.reg [
   ⟨some 4, .mv (.c (.bool false)), none⟩] [0, 1])
 (.seq
  (.seq
   (.reg [
     ⟨some 6, .mv (.t 0), none⟩,
     ⟨some 7, .len (.t 6), none⟩,
     ⟨some 8, .mv (.t 1), none⟩,
     ⟨some 9, .len (.t 8), none⟩,
     ⟨some 10, .bin .neq (some .int) (.t 7) (.t 9), none⟩] [0, 1, 10])
   (.cnd (.t 10)
    (.seq
     (.reg [
       ⟨some 4, .mv (.c (.bool false)), none⟩] [4])
     .ret)
    .skip))
  (.seq
   (.seq
    (.reg [
      ⟨some 11, .mv (.t 0), none⟩,
      ⟨some 12, .len (.t 11), none⟩,
      ⟨some 13, .mv (.c (.int .i64 0)), none⟩] [0, 1, 12, 13])
    (.blk 0
     (.seq
      (.trim [0, 1, 12, 13])
      (.lop
       (.seq
        (.seq
         (.reg [
           ⟨some 14, .bin .lss none (.t 13) (.t 12), none⟩] [0, 1, 12, 13, 14])
         (.seq
          (.cnd (.t 14)
           .skip
           (.exit 0))
          (.seq
           (.blk 1
            (.seq
             (.reg [
               ⟨some 15, .mv (.t 13), none⟩,
               ⟨some 5, .mv (.t 15), none⟩] [0, 1, 5, 12, 13])
             (.seq
              (.drw [
                (⟨some 16, .mv (.t 0), none⟩, none),
                (⟨some 17, .mv (.t 5), none⟩, none),
                (⟨some 18, .ia 1 (.t 16) (.t 17), none⟩, none),
                (⟨some 19, .ld false 1 (.t 18), none⟩, none),
                (⟨some 20, .mv (.t 1), none⟩, none),
                (⟨some 21, .mv (.t 5), none⟩, none),
                (⟨some 22, .ia 1 (.t 20) (.t 21), none⟩, none),
                (⟨some 23, .ld false 1 (.t 22), none⟩, none),
                (⟨some 24, .bin .neq (some .str) (.t 19) (.t 23), none⟩, none)] [0, 1, 12, 13, 24])
              (.cnd (.t 24)
               (.seq
                (.reg [
                  ⟨some 4, .mv (.c (.bool false)), none⟩] [4])
                .ret)
               .skip))))
           (.reg [
             ⟨some 25, .bin .add none (.t 13) (.c (.int .i64 1)), none⟩,
             ⟨some 13, .mv (.t 25), none⟩] [0, 1, 12, 13]))))
        (.trim [0, 1, 12, 13]))))))
   (.seq
    (.reg [
      ⟨some 4, .mv (.c (.bool true)), none⟩] [4])
    .ret)))),
[.tmp 4]⟩
theorem F70_ok : prepF Go.Proofs.Tryz.prog ⟨[], [(0, [0, 1]), (1, [0, 1, 10]), (2, [4]), (3, [0, 1, 12, 13]), (4, [0, 1, 12, 13, 14]), (5, [0, 1, 5, 12, 13]), (6, [0, 1, 12, 13, 24]), (7, [4]), (8, [0, 1, 12, 13]), (9, [4]), (1000000, [0, 1, 12, 13])], []⟩ Go.Proofs.Tryz.f70 = some F70 := by kernel_rfl
/-- slices.EqualFunc[[]emend/api.Tree,[]emend/api.Tree,emend/api.Tree,emend/api.Tree] -/
def F71 : DF := ⟨3,
(.seq
 (.reg [
   ⟨some 6, .mv (.c (.bool false)), none⟩] [0, 1, 2])
 (.seq
  (.seq
   (.reg [
     ⟨some 10, .mv (.t 0), none⟩,
     ⟨some 11, .len (.t 10), none⟩,
     ⟨some 12, .mv (.t 1), none⟩,
     ⟨some 13, .len (.t 12), none⟩,
     ⟨some 14, .bin .neq (some .int) (.t 11) (.t 13), none⟩] [0, 1, 2, 14])
   (.cnd (.t 14)
    (.seq
     (.reg [
       ⟨some 6, .mv (.c (.bool false)), none⟩] [6])
     .ret)
    .skip))
  (.seq
   (.seq
    (.reg [
      ⟨some 15, .mv (.t 0), none⟩,
      ⟨some 16, .len (.t 15), none⟩,
      ⟨some 17, .mv (.c (.int .i64 0)), none⟩] [1, 2, 15, 16, 17])
    (.blk 0
     (.seq
      (.trim [1, 2, 15, 16, 17])
      (.lop
       (.seq
        (.seq
         (.reg [
           ⟨some 18, .bin .lss none (.t 17) (.t 16), none⟩] [1, 2, 15, 16, 17, 18])
         (.seq
          (.cnd (.t 18)
           .skip
           (.exit 0))
          (.seq
           (.blk 1
            (.seq
             (.reg [
               ⟨some 19, .mv (.t 17), none⟩,
               ⟨some 20, .ia 4 (.t 15) (.t 17), none⟩,
               ⟨some 21, .ld true 4 (.t 20), none⟩,
               ⟨some 8, .alL [(.int .i64 0), (.str []), (.sl 1 ⟨none, 0, (some 0), true⟩ []), (.sl 4 ⟨none, 0, (some 0), true⟩ [])], none⟩,
               ⟨some 7, .mv (.t 19), none⟩,
               ⟨none, .st 4 (.t 8) (.t 21), none⟩] [1, 2, 7, 8, 15, 16, 17])
             (.seq
              (.reg [
                ⟨some 22, .mv (.t 1), none⟩,
                ⟨some 23, .mv (.t 7), none⟩,
                ⟨some 24, .ia 4 (.t 22) (.t 23), none⟩,
                ⟨some 25, .ld true 4 (.t 24), none⟩,
                ⟨some 9, .alL [(.int .i64 0), (.str []), (.sl 1 ⟨none, 0, (some 0), true⟩ []), (.sl 4 ⟨none, 0, (some 0), true⟩ [])], none⟩,
                ⟨none, .st 4 (.t 9) (.t 25), none⟩] [1, 2, 8, 9, 15, 16, 17])
              (.seq
               (.reg [
                 ⟨some 26, .mv (.t 2), none⟩,
                 ⟨some 27, .ld true 4 (.t 8), none⟩,
                 ⟨some 28, .ld true 4 (.t 9), none⟩,
                 ⟨some 29, .callv (.t 26) [(.t 27), (.t 28)], none⟩,
                 ⟨some 30, .un .not (.t 29), none⟩] [1, 2, 15, 16, 17, 30])
               (.cnd (.t 30)
                (.seq
                 (.reg [
                   ⟨some 6, .mv (.c (.bool false)), none⟩] [6])
                 .ret)
                .skip)))))
           (.reg [
             ⟨some 31, .bin .add none (.t 17) (.c (.int .i64 1)), none⟩,
             ⟨some 17, .mv (.t 31), none⟩] [1, 2, 15, 16, 17]))))
        (.trim [1, 2, 15, 16, 17]))))))
   (.seq
    (.reg [
      ⟨some 6, .mv (.c (.bool true)), none⟩] [6])
    .ret)))),
[.tmp 6]⟩
theorem F71_ok : prepF Go.Proofs.Tryz.prog ⟨[8, 9], [(0, [0, 1, 2]), (1, [0, 1, 2, 14]), (2, [6]), (3, [1, 2, 15, 16, 17]), (4, [1, 2, 15, 16, 17, 18]), (5, [1, 2, 7, 8, 15, 16, 17]), (6, [1, 2, 8, 9, 15, 16, 17]), (7, [1, 2, 15, 16, 17, 30]), (8, [6]), (9, [1, 2, 15, 16, 17]), (10, [6]), (1000000, [1, 2, 15, 16, 17])], []⟩ Go.Proofs.Tryz.f71 = some F71 := by kernel_rfl
/-- emend/tree.Scalar -/
def F72 : DF := ⟨1,
(.seq
 (.reg [
   ⟨some 2, .mv (.c (.bool false)), none⟩] [0])
 (.seq
  (.reg [
    ⟨some 3, .mv (.t 0), none⟩,
    ⟨some 4, .bin .geq none (.t 3) (.c (.int .i64 1)), none⟩,
    ⟨some 5, .mv (.t 4), none⟩,
    ⟨some 6, .mv (.t 0), some (5, true)⟩,
    ⟨some 7, .bin .leq none (.t 6) (.c (.int .i64 5)), some (5, true)⟩,
    ⟨some 8, .pick (.t 5) (.t 7) (.c (.bool false)), none⟩,
    ⟨some 2, .mv (.t 8), none⟩] [2])
  .ret)),
[.tmp 2]⟩
theorem F72_ok : prepF Go.Proofs.Tryz.prog ⟨[], [(0, [0]), (1, [2])], []⟩ Go.Proofs.Tryz.f72 = some F72 := by kernel_rfl
/-- (*strings.Builder).WriteByte -/
def F73 : DF := ⟨2,
(.seq
 (.reg [
   ⟨some 4, .mv (.c .nilif), none⟩] [0, 1])
 (.seq
  (.reg [
    ⟨some 5, .mv (.t 0), none⟩,
    ⟨some 6, .call 62 [(.t 5)], none⟩] [0, 1])
  (.seq
   (.reg [
     ⟨some 7, .mv (.t 0), none⟩,
     ⟨some 8, .mv (.t 0), none⟩,
     ⟨some 9, .nilc (.t 8), none⟩,
     ⟨some 10, .fa 1 (.t 9), none⟩,
     ⟨some 11, .ld false 1 (.t 10), none⟩,
     ⟨some 12, .mv (.t 1), none⟩,
     ⟨some 13, .bldT 5 1 1 (.int .u8 0) [(0, (.t 12))], none⟩,
     ⟨some 14, .app false 5 1 1 (.t 11) (.t 13), none⟩,
     ⟨some 15, .nilc (.t 7), none⟩,
     ⟨some 16, .fa 1 (.t 15), none⟩,
     ⟨none, .st 1 (.t 16) (.t 14), none⟩] [])
   (.seq
    (.reg [
      ⟨some 4, .mv (.c .nilif), none⟩] [4])
    .ret)))),
[.tmp 4]⟩
theorem F73_ok : prepF Go.Proofs.Tryz.prog ⟨[], [(0, [0, 1]), (1, [0, 1]), (2, []), (3, [4])], []⟩ Go.Proofs.Tryz.f73 = some F73 := by kernel_rfl
/-- emend/text.short -/
def F74 : DF := ⟨1,
(.seq
 (.reg [
   ⟨some 2, .mv (.c (.int .u8 0)), none⟩] [0])
 (.seq
  (.seq
   (.reg [
     ⟨some 3, .mv (.t 0), none⟩] [0, 3])
   (.blk 0
    (.seq
     (.seq
      (.reg [
        ⟨some 5, .bin .eql (some .int) (.t 3) (.c (.int .u8 34)), none⟩,
        ⟨some 4, .mv (.t 5), none⟩] [0, 3, 4])
      (.cnd (.t 4)
       .skip
       (.reg [
         ⟨some 6, .bin .eql (some .int) (.t 3) (.c (.int .u8 92)), none⟩,
         ⟨some 4, .mv (.t 6), none⟩] [0, 3, 4])))
     (.cnd (.t 4)
      (.seq
       (.reg [
         ⟨some 7, .mv (.t 0), none⟩,
         ⟨some 2, .mv (.t 7), none⟩] [2])
       .ret)
      (.seq
       (.reg [
         ⟨some 9, .bin .eql (some .int) (.t 3) (.c (.int .u8 8)), none⟩,
         ⟨some 8, .mv (.t 9), none⟩] [3, 8])
       (.cnd (.t 8)
        (.seq
         (.reg [
           ⟨some 2, .mv (.c (.int .u8 98)), none⟩] [2])
         .ret)
        (.seq
         (.reg [
           ⟨some 11, .bin .eql (some .int) (.t 3) (.c (.int .u8 9)), none⟩,
           ⟨some 10, .mv (.t 11), none⟩] [3, 10])
         (.cnd (.t 10)
          (.seq
           (.reg [
             ⟨some 2, .mv (.c (.int .u8 116)), none⟩] [2])
           .ret)
          (.seq
           (.reg [
             ⟨some 13, .bin .eql (some .int) (.t 3) (.c (.int .u8 10)), none⟩,
             ⟨some 12, .mv (.t 13), none⟩] [3, 12])
           (.cnd (.t 12)
            (.seq
             (.reg [
               ⟨some 2, .mv (.c (.int .u8 110)), none⟩] [2])
             .ret)
            (.seq
             (.reg [
               ⟨some 15, .bin .eql (some .int) (.t 3) (.c (.int .u8 12)), none⟩,
               ⟨some 14, .mv (.t 15), none⟩] [3, 14])
             (.cnd (.t 14)
              (.seq
               (.reg [
                 ⟨some 2, .mv (.c (.int .u8 102)), none⟩] [2])
               .ret)
              (.seq
               (.reg [
                 ⟨some 17, .bin .eql (some .int) (.t 3) (.c (.int .u8 13)), none⟩,
                 ⟨some 16, .mv (.t 17), none⟩] [16])
               (.cnd (.t 16)
                (.seq
                 (.reg [
                   ⟨some 2, .mv (.c (.int .u8 114)), none⟩] [2])
                 .ret)
                .skip))))))))))))))
  (.seq
   (.reg [
     ⟨some 2, .mv (.c (.int .u8 0)), none⟩] [2])
   .ret))),
[.tmp 2]⟩
theorem F74_ok : prepF Go.Proofs.Tryz.prog ⟨[], [(0, [0]), (1, [0, 3]), (2, [0, 3, 4]), (3, [0, 3, 4]), (4, [2]), (5, [3, 8]), (6, [2]), (7, [3, 10]), (8, [2]), (9, [3, 12]), (10, [2]), (11, [3, 14]), (12, [2]), (13, [16]), (14, [2]), (15, [2])], []⟩ Go.Proofs.Tryz.f74 = some F74 := by kernel_rfl
/-- emend/text.digit -/
def F75 : DF := ⟨1,
(.seq
 (.reg [
   ⟨some 2, .mv (.c (.int .u8 0)), none⟩] [0])
 (.seq
  (.reg [
    ⟨some 3, .mv (.t 0), none⟩,
    ⟨some 4, .bin .and none (.t 3) (.c (.int .i64 15)), none⟩,
    ⟨some 5, .ixS (.c (.str [48, 49, 50, 51, 52, 53, 54, 55, 56, 57, 97, 98, 99, 100, 101, 102])) (.t 4), none⟩,
    ⟨some 2, .mv (.t 5), none⟩] [2])
  .ret)),
[.tmp 2]⟩
theorem F75_ok : prepF Go.Proofs.Tryz.prog ⟨[], [(0, [0]), (1, [2])], []⟩ Go.Proofs.Tryz.f75 = some F75 := by kernel_rfl
/-- slices.SortStableFunc[[]int,int] -/
def F76 : DF := ⟨2,
(.reg [
  ⟨some 4, .mv (.t 0), none⟩,
  ⟨some 5, .mv (.t 0), none⟩,
  ⟨some 6, .len (.t 5), none⟩,
  ⟨some 7, .mv (.t 1), none⟩,
  ⟨some 8, .call 90 [(.t 4), (.t 6), (.t 7)], none⟩] []),
[]⟩
theorem F76_ok : prepF Go.Proofs.Tryz.prog ⟨[], [(0, [])], []⟩ Go.Proofs.Tryz.f76 = some F76 := by kernel_rfl
/-- emend/tree.order$1 -/
def F77 : DF := ⟨3,
(.seq
 (.reg [
   ⟨some 5, .mv (.c (.int .i64 0)), none⟩] [0, 1, 2])
 (.seq
  (.drw [
    (⟨some 6, .ld false 1 (.t 2), none⟩, none),
    (⟨some 7, .mv (.t 0), none⟩, none),
    (⟨some 8, .ia 1 (.t 6) (.t 7), none⟩, none),
    (⟨some 9, .ld false 1 (.t 8), none⟩, none),
    (⟨some 10, .ld false 1 (.t 2), none⟩, none),
    (⟨some 11, .mv (.t 1), none⟩, none),
    (⟨some 12, .ia 1 (.t 10) (.t 11), none⟩, none),
    (⟨some 13, .ld false 1 (.t 12), none⟩, none),
    (⟨some 14, .call 78 [(.t 9), (.t 13)], none⟩, none),
    (⟨some 5, .mv (.t 14), none⟩, none)] [5])
  .ret)),
[.tmp 5]⟩
theorem F77_ok : prepF Go.Proofs.Tryz.prog ⟨[], [(0, [0, 1, 2]), (1, [5])], []⟩ Go.Proofs.Tryz.f77 = some F77 := by kernel_rfl
/-- strings.Compare -/
def F78 : DF := ⟨2,
(.seq
 (.reg [
   ⟨some 4, .mv (.c (.int .i64 0)), none⟩] [0, 1])
 (.seq
  (.reg [
    ⟨some 5, .mv (.t 0), none⟩,
    ⟨some 6, .mv (.t 1), none⟩,
    ⟨some 7, .call 91 [(.t 5), (.t 6)], none⟩,
    ⟨some 4, .mv (.t 7), none⟩] [4])
  .ret)),
[.tmp 4]⟩
theorem F78_ok : prepF Go.Proofs.Tryz.prog ⟨[], [(0, [0, 1]), (1, [4])], []⟩ Go.Proofs.Tryz.f78 = some F78 := by kernel_rfl
/-- emend/text.Bad -/
def F80 : DF := ⟨1,
(.seq
 (.reg [
   ⟨some 2, .mv (.c (.int .i64 0)), none⟩] [0])
 (.seq
  (.seq
   (.reg [
     ⟨some 3, .mv (.c (.int .i64 0)), none⟩] [0, 3])
   (.blk 0
    (.seq
     (.trim [0, 3])
     (.lop
      (.seq
       (.seq
        (.seq
         (.reg [
           ⟨some 6, .mv (.t 3), none⟩,
           ⟨some 7, .mv (.t 0), none⟩,
           ⟨some 8, .lenS (.t 7), none⟩,
           ⟨some 9, .bin .lss none (.t 6) (.t 8), none⟩] [0, 3, 9])
         (.cnd (.t 9)
          .skip
          (.exit 0)))
        (.blk 1
         (.seq
          (.reg [
            ⟨some 11, .mv (.t 0), none⟩,
            ⟨some 12, .mv (.t 3), none⟩,
            ⟨some 13, .slS (.t 11) (some (.t 12)) none, none⟩,
            ⟨some 14, .call 92 [(.t 13)], none⟩,
            ⟨some 10, .mv (.t 14), none⟩,
            ⟨some 15, .ext (.t 10) 0, none⟩,
            ⟨some 16, .ext (.t 10) 1, none⟩,
            ⟨some 4, .mv (.t 15), none⟩,
            ⟨some 5, .mv (.t 16), none⟩] [0, 3, 5])
          (.seq
           (.seq
            (.reg [
              ⟨some 17, .mv (.t 5), none⟩,
              ⟨some 18, .bin .eql (some .int) (.t 17) (.c (.int .i64 0)), none⟩] [0, 3, 5, 18])
            (.cnd (.t 18)
             (.seq
              (.reg [
                ⟨some 19, .mv (.t 3), none⟩,
                ⟨some 2, .mv (.t 19), none⟩] [2])
              .ret)
             .skip))
           (.reg [
             ⟨some 20, .mv (.t 3), none⟩,
             ⟨some 21, .mv (.t 5), none⟩,
             ⟨some 22, .bin .add none (.t 20) (.t 21), none⟩,
             ⟨some 3, .mv (.t 22), none⟩] [0, 3])))))
       (.trim [0, 3]))))))
  (.seq
   (.reg [
     ⟨some 2, .mv (.c (.int .i64 (-1))), none⟩] [2])
   .ret))),
[.tmp 2]⟩
theorem F80_ok : prepF Go.Proofs.Tryz.prog ⟨[], [(0, [0]), (1, [0, 3]), (2, [0, 3, 9]), (3, [0, 3, 5]), (4, [0, 3, 5, 18]), (5, [2]), (6, [0, 3]), (7, [2]), (1000000, [0, 3])], []⟩ Go.Proofs.Tryz.f80 = some F80 := by kernel_rfl
/-- emend/num.Split -/
def F84 : DF := ⟨1,
(.seq
 (.reg [
   ⟨some 2, .alL [(.bool false), (.str []), (.int .i64 0)], none⟩,
   ⟨some 3, .mv (.c (.int .i64 0)), none⟩] [0, 2])
 (.seq
  (.reg [
    ⟨some 13, .mv (.t 0), none⟩,
    ⟨some 14, .call 96 [(.t 13)], none⟩,
    ⟨some 12, .mv (.t 14), none⟩,
    ⟨some 15, .ext (.t 12) 0, none⟩,
    ⟨some 16, .ext (.t 12) 1, none⟩,
    ⟨some 17, .ext (.t 12) 2, none⟩,
    ⟨some 18, .ext (.t 12) 3, none⟩,
    ⟨some 19, .ext (.t 12) 4, none⟩,
    ⟨some 4, .mv (.t 15), none⟩,
    ⟨some 5, .mv (.t 16), none⟩,
    ⟨some 6, .mv (.t 17), none⟩,
    ⟨some 7, .mv (.t 18), none⟩,
    ⟨some 8, .mv (.t 19), none⟩] [0, 2, 4, 5, 6, 7, 8])
  (.seq
   (.seq
    (.reg [
      ⟨some 20, .mv (.t 8), none⟩,
      ⟨some 21, .un .not (.t 20), none⟩] [0, 2, 4, 5, 6, 7, 21])
    (.cnd (.t 21)
     (.seq
      (.reg [
        ⟨some 22, .bld [(.bool false), (.str []), (.int .i64 0)] [], none⟩,
        ⟨none, .st 3 (.t 2) (.t 22), none⟩,
        ⟨some 3, .mv (.c (.int .i64 12)), none⟩] [2, 3])
      .ret)
     .skip))
   (.seq
    (.seq
     (.reg [
       ⟨some 23, .mv (.t 0), none⟩,
       ⟨some 24, .lenS (.t 23), none⟩,
       ⟨some 25, .bin .gtr none (.t 24) (.c (.int .i64 1000)), none⟩] [2, 4, 5, 6, 7, 25])
     (.cnd (.t 25)
      (.seq
       (.reg [
         ⟨some 26, .bld [(.bool false), (.str []), (.int .i64 0)] [], none⟩,
         ⟨none, .st 3 (.t 2) (.t 26), none⟩,
         ⟨some 3, .mv (.c (.int .i64 2)), none⟩] [2, 3])
       .ret)
      .skip))
    (.seq
     (.reg [
       ⟨some 28, .mv (.t 7), none⟩,
       ⟨some 29, .call 97 [(.t 28)], none⟩,
       ⟨some 27, .mv (.t 29), none⟩,
       ⟨some 30, .ext (.t 27) 0, none⟩,
       ⟨some 31, .ext (.t 27) 1, none⟩,
       ⟨some 9, .mv (.t 30), none⟩,
       ⟨some 8, .mv (.t 31), none⟩] [2, 4, 5, 6, 8, 9])
     (.seq
      (.seq
       (.reg [
         ⟨some 32, .mv (.t 8), none⟩,
         ⟨some 33, .un .not (.t 32), none⟩] [2, 4, 5, 6, 9, 33])
       (.cnd (.t 33)
        (.seq
         (.reg [
           ⟨some 34, .bld [(.bool false), (.str []), (.int .i64 0)] [], none⟩,
           ⟨none, .st 3 (.t 2) (.t 34), none⟩,
           ⟨some 3, .mv (.c (.int .i64 5)), none⟩] [2, 3])
         .ret)
        .skip))
      (.seq
       (.reg [
         ⟨some 35, .mv (.t 5), none⟩,
         ⟨some 36, .mv (.t 6), none⟩,
         ⟨some 37, .bin .add none (.t 35) (.t 36), none⟩,
         ⟨some 38, .call 98 [(.t 37), (.c (.str [48]))], none⟩,
         ⟨some 10, .mv (.t 38), none⟩] [2, 4, 6, 9, 10])
       (.seq
        (.reg [
          ⟨some 39, .mv (.t 9), none⟩,
          ⟨some 40, .mv (.t 6), none⟩,
          ⟨some 41, .lenS (.t 40), none⟩,
          ⟨some 42, .bin .sub none (.t 39) (.t 41), none⟩,
          ⟨some 9, .mv (.t 42), none⟩] [2, 4, 9, 10])
        (.seq
         (.reg [
           ⟨some 43, .mv (.t 10), none⟩,
           ⟨some 44, .call 99 [(.t 43), (.c (.str [48]))], none⟩,
           ⟨some 11, .mv (.t 44), none⟩] [2, 4, 9, 10, 11])
         (.seq
          (.reg [
            ⟨some 45, .mv (.t 9), none⟩,
            ⟨some 46, .mv (.t 10), none⟩,
            ⟨some 47, .lenS (.t 46), none⟩,
            ⟨some 48, .mv (.t 11), none⟩,
            ⟨some 49, .lenS (.t 48), none⟩,
            ⟨some 50, .bin .sub none (.t 47) (.t 49), none⟩,
            ⟨some 51, .bin .add none (.t 45) (.t 50), none⟩,
            ⟨some 9, .mv (.t 51), none⟩] [2, 4, 9, 11])
          (.seq
           (.seq
            (.reg [
              ⟨some 52, .mv (.t 11), none⟩,
              ⟨some 53, .bin .eql (some .str) (.t 52) (.c (.str [])), none⟩] [2, 4, 9, 11, 53])
            (.cnd (.t 53)
             (.seq
              (.reg [
                ⟨some 54, .bld [(.bool false), (.str []), (.int .i64 0)] [], none⟩,
                ⟨none, .st 3 (.t 2) (.t 54), none⟩,
                ⟨some 3, .mv (.c (.int .i64 0)), none⟩] [2, 3])
              .ret)
             .skip))
           (.seq
            (.reg [
              ⟨some 55, .mv (.t 4), none⟩,
              ⟨some 56, .mv (.t 11), none⟩,
              ⟨some 57, .mv (.t 9), none⟩,
              ⟨some 58, .bld [(.bool false), (.str []), (.int .i64 0)] [(0, 1, (.t 55)), (1, 1, (.t 56)), (2, 1, (.t 57))], none⟩,
              ⟨none, .st 3 (.t 2) (.t 58), none⟩,
              ⟨some 3, .mv (.c (.int .i64 0)), none⟩] [2, 3])
            .ret)))))))))))),
[.cell 2 true 3, .tmp 3]⟩
theorem F84_ok : prepF Go.Proofs.Tryz.prog ⟨[2], [(0, [0, 2]), (1, [0, 2, 4, 5, 6, 7, 8]), (2, [0, 2, 4, 5, 6, 7, 21]), (3, [2, 3]), (4, [2, 4, 5, 6, 7, 25]), (5, [2, 3]), (6, [2, 4, 5, 6, 8, 9]), (7, [2, 4, 5, 6, 9, 33]), (8, [2, 3]), (9, [2, 4, 6, 9, 10]), (10, [2, 4, 9, 10]), (11, [2, 4, 9, 10, 11]), (12, [2, 4, 9, 11]), (13, [2, 4, 9, 11, 53]), (14, [2, 3]), (15, [2, 3])], []⟩ Go.Proofs.Tryz.f84 = some F84 := by kernel_rfl
/-- emend/num.Join -/
def F85 : DF := ⟨1,
(.seq
 (.reg [
   ⟨some 1, .bxL (.t 0), none⟩,
   ⟨some 2, .mv (.c (.str [])), none⟩,
   ⟨some 3, .mv (.c (.int .i64 0)), none⟩] [1])
 (.seq
  (.reg [
    ⟨some 6, .fa 1 (.t 1), none⟩,
    ⟨some 7, .ld false 1 (.t 6), none⟩,
    ⟨some 8, .lenS (.t 7), none⟩,
    ⟨some 4, .mv (.t 8), none⟩] [1, 4])
  (.seq
   (.blk 0
    (.seq
     (.seq
      (.reg [
        ⟨some 10, .fa 1 (.t 1), none⟩,
        ⟨some 11, .ld false 1 (.t 10), none⟩,
        ⟨some 12, .call 100 [(.t 11)], none⟩,
        ⟨some 13, .mv (.t 4), none⟩,
        ⟨some 14, .bin .lss none (.t 12) (.t 13), none⟩,
        ⟨some 9, .mv (.t 14), none⟩] [1, 4, 9])
      (.cnd (.t 9)
       .skip
       (.seq
        (.reg [
          ⟨some 15, .mv (.t 4), none⟩,
          ⟨some 16, .bin .gtr none (.t 15) (.c (.int .i64 0)), none⟩,
          ⟨some 17, .mv (.t 16), none⟩,
          ⟨some 18, .fa 1 (.t 1), some (17, true)⟩,
          ⟨some 19, .ld false 1 (.t 18), some (17, true)⟩,
          ⟨some 20, .ixS (.t 19) (.c (.int .i64 0)), some (17, true)⟩,
          ⟨some 21, .bin .eql (some .int) (.t 20) (.c (.int .u8 48)), some (17, true)⟩,
          ⟨some 22, .mv (.t 21), some (17, true)⟩,
          ⟨some 23, .fa 1 (.t 1), some (22, false)⟩,
          ⟨some 24, .ld false 1 (.t 23), some (22, false)⟩,
          ⟨some 25, .mv (.t 4), some (22, false)⟩,
          ⟨some 26, .bin .sub none (.t 25) (.c (.int .i64 1)), some (22, false)⟩,
          ⟨some 27, .ixS (.t 24) (.t 26), some (22, false)⟩,
          ⟨some 28, .bin .eql (some .int) (.t 27) (.c (.int .u8 48)), some (22, false)⟩,
          ⟨some 29, .pick (.t 22) (.c (.bool true)) (.t 28), some (17, true)⟩,
          ⟨some 30, .pick (.t 17) (.t 29) (.c (.bool false)), none⟩,
          ⟨some 9, .mv (.t 30), none⟩] [1, 4, 9])
        (.cnd (.t 9)
         .skip
         (.reg [
           ⟨some 31, .mv (.t 4), none⟩,
           ⟨some 32, .bin .eql (some .int) (.t 31) (.c (.int .i64 0)), none⟩,
           ⟨some 33, .mv (.t 32), none⟩,
           ⟨some 34, .fa 2 (.t 1), some (33, true)⟩,
           ⟨some 35, .ld false 1 (.t 34), some (33, true)⟩,
           ⟨some 36, .bin .neq (some .int) (.t 35) (.c (.int .i64 0)), some (33, true)⟩,
           ⟨some 37, .mv (.t 36), some (33, true)⟩,
           ⟨some 38, .fa 0 (.t 1), some (37, false)⟩,
           ⟨some 39, .ld false 1 (.t 38), some (37, false)⟩,
           ⟨some 40, .pick (.t 37) (.c (.bool true)) (.t 39), some (33, true)⟩,
           ⟨some 41, .pick (.t 33) (.t 40) (.c (.bool false)), none⟩,
           ⟨some 9, .mv (.t 41), none⟩] [1, 4, 9])))))
     (.cnd (.t 9)
      (.seq
       (.reg [
         ⟨some 2, .mv (.c (.str [])), none⟩,
         ⟨some 3, .mv (.c (.int .i64 1)), none⟩] [2, 3])
       .ret)
      (.seq
       (.reg [
         ⟨some 43, .fa 2 (.t 1), none⟩,
         ⟨some 44, .ld false 1 (.t 43), none⟩,
         ⟨some 45, .bin .lss none (.t 44) (.c (.int .i64 (-999999))), none⟩,
         ⟨some 46, .mv (.t 45), none⟩,
         ⟨some 47, .fa 2 (.t 1), some (46, false)⟩,
         ⟨some 48, .ld false 1 (.t 47), some (46, false)⟩,
         ⟨some 49, .bin .gtr none (.t 48) (.c (.int .i64 999999)), some (46, false)⟩,
         ⟨some 50, .pick (.t 46) (.c (.bool true)) (.t 49), none⟩,
         ⟨some 42, .mv (.t 50), none⟩] [1, 4, 42])
       (.cnd (.t 42)
        (.seq
         (.reg [
           ⟨some 2, .mv (.c (.str [])), none⟩,
           ⟨some 3, .mv (.c (.int .i64 5)), none⟩] [2, 3])
         .ret)
        (.seq
         (.reg [
           ⟨some 52, .mv (.t 4), none⟩,
           ⟨some 53, .bin .eql (some .int) (.t 52) (.c (.int .i64 0)), none⟩,
           ⟨some 51, .mv (.t 53), none⟩] [1, 51])
         (.cnd (.t 51)
          (.seq
           (.reg [
             ⟨some 2, .mv (.c (.str [48])), none⟩,
             ⟨some 3, .mv (.c (.int .i64 0)), none⟩] [2, 3])
           .ret)
          .skip)))))))
   (.seq
    (.reg [
      ⟨some 54, .fa 1 (.t 1), none⟩,
      ⟨some 55, .ld false 1 (.t 54), none⟩,
      ⟨some 5, .mv (.t 55), none⟩] [1, 5])
    (.seq
     (.seq
      (.reg [
        ⟨some 56, .fa 0 (.t 1), none⟩,
        ⟨some 57, .ld false 1 (.t 56), none⟩] [1, 5, 57])
      (.cnd (.t 57)
       (.reg [
         ⟨some 58, .mv (.t 5), none⟩,
         ⟨some 59, .bin .add none (.c (.str [45])) (.t 58), none⟩,
         ⟨some 5, .mv (.t 59), none⟩] [1, 5])
       .skip))
     (.seq
      (.seq
       (.reg [
         ⟨some 60, .fa 2 (.t 1), none⟩,
         ⟨some 61, .ld false 1 (.t 60), none⟩,
         ⟨some 62, .bin .neq (some .int) (.t 61) (.c (.int .i64 0)), none⟩] [1, 5, 62])
       (.cnd (.t 62)
        (.reg [
          ⟨some 63, .mv (.t 5), none⟩,
          ⟨some 64, .fa 2 (.t 1), none⟩,
          ⟨some 65, .ld false 1 (.t 64), none⟩,
          ⟨some 66, .call 101 [(.t 65)], none⟩,
          ⟨some 67, .bin .add none (.c (.str [101])) (.t 66), none⟩,
          ⟨some 68, .bin .add none (.t 63) (.t 67), none⟩,
          ⟨some 5, .mv (.t 68), none⟩] [5])
        .skip))
      (.seq
       (.seq
        (.reg [
          ⟨some 69, .mv (.t 5), none⟩,
          ⟨some 70, .lenS (.t 69), none⟩,
          ⟨some 71, .bin .gtr none (.t 70) (.c (.int .i64 1000)), none⟩] [5, 71])
        (.cnd (.t 71)
         (.seq
          (.reg [
            ⟨some 2, .mv (.c (.str [])), none⟩,
            ⟨some 3, .mv (.c (.int .i64 2)), none⟩] [2, 3])
          .ret)
         .skip))
       (.seq
        (.reg [
          ⟨some 72, .mv (.t 5), none⟩,
          ⟨some 2, .mv (.t 72), none⟩,
          ⟨some 3, .mv (.c (.int .i64 0)), none⟩] [2, 3])
        .ret)))))))),
[.tmp 2, .tmp 3]⟩
theorem F85_ok : prepF Go.Proofs.Tryz.prog ⟨[1], [(0, [1]), (1, [1, 4]), (2, [1, 4, 9]), (3, [1, 4, 9]), (4, [1, 4, 9]), (5, [2, 3]), (6, [1, 4, 42]), (7, [2, 3]), (8, [1, 51]), (9, [2, 3]), (10, [1, 5]), (11, [1, 5, 57]), (12, [1, 5]), (13, [1, 5, 62]), (14, [5]), (15, [5, 71]), (16, [2, 3]), (17, [2, 3])], []⟩ Go.Proofs.Tryz.f85 = some F85 := by kernel_rfl
/-- emend/tree.date -/
def F86 : DF := ⟨1,
(.seq
 (.reg [
   ⟨some 2, .mv (.c (.bool false)), none⟩] [0])
 (.seq
  (.seq
   (.reg [
     ⟨some 3, .mv (.t 0), none⟩,
     ⟨some 4, .lenS (.t 3), none⟩,
     ⟨some 5, .bin .neq (some .int) (.t 4) (.c (.int .i64 10)), none⟩,
     ⟨some 6, .mv (.t 5), none⟩,
     ⟨some 7, .mv (.t 0), some (6, false)⟩,
     ⟨some 8, .ixS (.t 7) (.c (.int .i64 4)), some (6, false)⟩,
     ⟨some 9, .bin .neq (some .int) (.t 8) (.c (.int .u8 45)), some (6, false)⟩,
     ⟨some 10, .pick (.t 6) (.c (.bool true)) (.t 9), none⟩,
     ⟨some 11, .mv (.t 10), none⟩,
     ⟨some 12, .mv (.t 0), some (11, false)⟩,
     ⟨some 13, .ixS (.t 12) (.c (.int .i64 7)), some (11, false)⟩,
     ⟨some 14, .bin .neq (some .int) (.t 13) (.c (.int .u8 45)), some (11, false)⟩,
     ⟨some 15, .pick (.t 11) (.c (.bool true)) (.t 14), none⟩,
     ⟨some 16, .mv (.t 15), none⟩,
     ⟨some 17, .mv (.t 0), some (16, false)⟩,
     ⟨some 18, .slS (.t 17) none (some (.c (.int .i64 2))), some (16, false)⟩,
     ⟨some 19, .call 102 [(.t 18)], some (16, false)⟩,
     ⟨some 20, .bin .lss none (.t 19) (.c (.int .i64 0)), some (16, false)⟩,
     ⟨some 21, .pick (.t 16) (.c (.bool true)) (.t 20), none⟩,
     ⟨some 22, .mv (.t 21), none⟩,
     ⟨some 23, .mv (.t 0), some (22, false)⟩,
     ⟨some 24, .slS (.t 23) (some (.c (.int .i64 2))) (some (.c (.int .i64 4))), some (22, false)⟩,
     ⟨some 25, .call 102 [(.t 24)], some (22, false)⟩,
     ⟨some 26, .bin .lss none (.t 25) (.c (.int .i64 0)), some (22, false)⟩,
     ⟨some 27, .pick (.t 22) (.c (.bool true)) (.t 26), none⟩,
     ⟨some 28, .mv (.t 27), none⟩,
     ⟨some 29, .mv (.t 0), some (28, false)⟩,
     ⟨some 30, .slS (.t 29) (some (.c (.int .i64 5))) (some (.c (.int .i64 7))), some (28, false)⟩,
     ⟨some 31, .call 103 [(.t 30), (.c (.int .i64 1)), (.c (.int .i64 12))], some (28, false)⟩,
     ⟨some 32, .un .not (.t 31), some (28, false)⟩,
     ⟨some 33, .pick (.t 28) (.c (.bool true)) (.t 32), none⟩] [0, 33])
   (.cnd (.t 33)
    (.seq
     (.reg [
       ⟨some 2, .mv (.c (.bool false)), none⟩] [2])
     .ret)
    .skip))
  (.seq
   (.drw [
     (⟨some 34, .mv (.t 0), none⟩, none),
     (⟨some 35, .slS (.t 34) (some (.c (.int .i64 8))) none, none⟩, none),
     (⟨some 36, .mv (.t 0), none⟩, none),
     (⟨some 37, .slS (.t 36) none (some (.c (.int .i64 2))), none⟩, none),
     (⟨some 40, .mv (.t 0), none⟩, none),
     (⟨some 41, .slS (.t 40) (some (.c (.int .i64 2))) (some (.c (.int .i64 4))), none⟩, none),
     (⟨some 44, .mv (.t 0), none⟩, none),
     (⟨some 45, .slS (.t 44) (some (.c (.int .i64 5))) (some (.c (.int .i64 7))), none⟩, none),
     (⟨some 38, .call 102 [(.t 37)], none⟩, none),
     (⟨some 39, .bin .mul none (.t 38) (.c (.int .i64 100)), none⟩, none),
     (⟨some 42, .call 102 [(.t 41)], none⟩, none),
     (⟨some 43, .bin .add none (.t 39) (.t 42), none⟩, none),
     (⟨some 46, .call 102 [(.t 45)], none⟩, none),
     (⟨some 47, .call 104 [(.t 43), (.t 46)], none⟩, none),
     (⟨some 48, .call 103 [(.t 35), (.c (.int .i64 1)), (.t 47)], none⟩, none),
     (⟨some 2, .mv (.t 48), none⟩, none)] [2])
   .ret))),
[.tmp 2]⟩
theorem F86_ok : prepF Go.Proofs.Tryz.prog ⟨[], [(0, [0]), (1, [0, 33]), (2, [2]), (3, [2])], []⟩ Go.Proofs.Tryz.f86 = some F86 := by kernel_rfl
/-- emend/tree.clock -/
def F87 : DF := ⟨1,
(.seq
 (.reg [
   ⟨some 2, .mv (.c (.bool false)), none⟩] [0])
 (.seq
  (.seq
   (.reg [
     ⟨some 4, .mv (.t 0), none⟩,
     ⟨some 5, .lenS (.t 4), none⟩,
     ⟨some 6, .bin .lss none (.t 5) (.c (.int .i64 8)), none⟩,
     ⟨some 7, .mv (.t 6), none⟩,
     ⟨some 8, .mv (.t 0), some (7, false)⟩,
     ⟨some 9, .ixS (.t 8) (.c (.int .i64 2)), some (7, false)⟩,
     ⟨some 10, .bin .neq (some .int) (.t 9) (.c (.int .u8 58)), some (7, false)⟩,
     ⟨some 11, .pick (.t 7) (.c (.bool true)) (.t 10), none⟩,
     ⟨some 12, .mv (.t 11), none⟩,
     ⟨some 13, .mv (.t 0), some (12, false)⟩,
     ⟨some 14, .ixS (.t 13) (.c (.int .i64 5)), some (12, false)⟩,
     ⟨some 15, .bin .neq (some .int) (.t 14) (.c (.int .u8 58)), some (12, false)⟩,
     ⟨some 16, .pick (.t 12) (.c (.bool true)) (.t 15), none⟩,
     ⟨some 17, .mv (.t 16), none⟩,
     ⟨some 18, .mv (.t 0), some (17, false)⟩,
     ⟨some 19, .slS (.t 18) none (some (.c (.int .i64 2))), some (17, false)⟩,
     ⟨some 20, .call 103 [(.t 19), (.c (.int .i64 0)), (.c (.int .i64 23))], some (17, false)⟩,
     ⟨some 21, .un .not (.t 20), some (17, false)⟩,
     ⟨some 22, .pick (.t 17) (.c (.bool true)) (.t 21), none⟩,
     ⟨some 23, .mv (.t 22), none⟩,
     ⟨some 24, .mv (.t 0), some (23, false)⟩,
     ⟨some 25, .slS (.t 24) (some (.c (.int .i64 3))) (some (.c (.int .i64 5))), some (23, false)⟩,
     ⟨some 26, .call 103 [(.t 25), (.c (.int .i64 0)), (.c (.int .i64 59))], some (23, false)⟩,
     ⟨some 27, .un .not (.t 26), some (23, false)⟩,
     ⟨some 28, .pick (.t 23) (.c (.bool true)) (.t 27), none⟩,
     ⟨some 29, .mv (.t 28), none⟩,
     ⟨some 30, .mv (.t 0), some (29, false)⟩,
     ⟨some 31, .slS (.t 30) (some (.c (.int .i64 6))) (some (.c (.int .i64 8))), some (29, false)⟩,
     ⟨some 32, .call 103 [(.t 31), (.c (.int .i64 0)), (.c (.int .i64 59))], some (29, false)⟩,
     ⟨some 33, .un .not (.t 32), some (29, false)⟩,
     ⟨some 34, .pick (.t 29) (.c (.bool true)) (.t 33), none⟩] [0, 34])
   (.cnd (.t 34)
    (.seq
     (.reg [
       ⟨some 2, .mv (.c (.bool false)), none⟩] [2])
     .ret)
    .skip))
  (.seq
   (.seq
    (.reg [
      ⟨some 35, .mv (.t 0), none⟩,
      ⟨some 36, .lenS (.t 35), none⟩,
      ⟨some 37, .bin .eql (some .int) (.t 36) (.c (.int .i64 8)), none⟩] [0, 37])
    (.cnd (.t 37)
     (.seq
      (.reg [
        ⟨some 2, .mv (.c (.bool true)), none⟩] [2])
      .ret)
     .skip))
   (.seq
    (.reg [
      ⟨some 38, .mv (.t 0), none⟩,
      ⟨some 39, .slS (.t 38) (some (.c (.int .i64 9))) none, none⟩,
      ⟨some 3, .mv (.t 39), none⟩] [0, 3])
    (.seq
     (.reg [
       ⟨some 40, .mv (.t 0), none⟩,
       ⟨some 41, .ixS (.t 40) (.c (.int .i64 8)), none⟩,
       ⟨some 42, .bin .eql (some .int) (.t 41) (.c (.int .u8 46)), none⟩,
       ⟨some 43, .mv (.t 42), none⟩,
       ⟨some 44, .mv (.t 3), some (43, true)⟩,
       ⟨some 45, .lenS (.t 44), some (43, true)⟩,
       ⟨some 46, .bin .geq none (.t 45) (.c (.int .i64 1)), some (43, true)⟩,
       ⟨some 47, .pick (.t 43) (.t 46) (.c (.bool false)), none⟩,
       ⟨some 48, .mv (.t 47), none⟩,
       ⟨some 49, .mv (.t 3), some (48, true)⟩,
       ⟨some 50, .lenS (.t 49), some (48, true)⟩,
       ⟨some 51, .bin .leq none (.t 50) (.c (.int .i64 9)), some (48, true)⟩,
       ⟨some 52, .pick (.t 48) (.t 51) (.c (.bool false)), none⟩,
       ⟨some 53, .mv (.t 52), none⟩,
       ⟨some 54, .mv (.t 3), some (53, true)⟩,
       ⟨some 55, .call 105 [(.t 54), (.c (.str [48, 49, 50, 51, 52, 53, 54, 55, 56, 57]))], some (53, true)⟩,
       ⟨some 56, .bin .eql (some .str) (.t 55) (.c (.str [])), some (53, true)⟩,
       ⟨some 57, .pick (.t 53) (.t 56) (.c (.bool false)), none⟩,
       ⟨some 2, .mv (.t 57), none⟩] [2])
     .ret))))),
[.tmp 2]⟩
theorem F87_ok : prepF Go.Proofs.Tryz.prog ⟨[], [(0, [0]), (1, [0, 34]), (2, [2]), (3, [0, 37]), (4, [2]), (5, [0, 3]), (6, [2])], []⟩ Go.Proofs.Tryz.f87 = some F87 := by kernel_rfl
/-- emend/tree.zone -/
def F88 : DF := ⟨1,
(.seq
 (.reg [
   ⟨some 2, .mv (.c (.str [])), none⟩,
   ⟨some 3, .mv (.c (.str [])), none⟩] [0])
 (.seq
  (.seq
   (.reg [
     ⟨some 5, .mv (.t 0), none⟩,
     ⟨some 6, .call 106 [(.t 5), (.c (.str [90]))], none⟩] [0, 6])
   (.cnd (.t 6)
    (.seq
     (.reg [
       ⟨some 7, .mv (.t 0), none⟩,
       ⟨some 8, .mv (.t 0), none⟩,
       ⟨some 9, .lenS (.t 8), none⟩,
       ⟨some 10, .bin .sub none (.t 9) (.c (.int .i64 1)), none⟩,
       ⟨some 11, .slS (.t 7) none (some (.t 10)), none⟩,
       ⟨some 2, .mv (.t 11), none⟩,
       ⟨some 3, .mv (.c (.str [90])), none⟩] [2, 3])
     .ret)
    .skip))
  (.seq
   (.seq
    (.reg [
      ⟨some 12, .mv (.t 0), none⟩,
      ⟨some 13, .lenS (.t 12), none⟩,
      ⟨some 14, .bin .lss none (.t 13) (.c (.int .i64 6)), none⟩,
      ⟨some 15, .mv (.t 14), none⟩,
      ⟨some 16, .mv (.t 0), some (15, false)⟩,
      ⟨some 17, .mv (.t 0), some (15, false)⟩,
      ⟨some 18, .lenS (.t 17), some (15, false)⟩,
      ⟨some 19, .bin .sub none (.t 18) (.c (.int .i64 6)), some (15, false)⟩,
      ⟨some 20, .ixS (.t 16) (.t 19), some (15, false)⟩,
      ⟨some 21, .bin .neq (some .int) (.t 20) (.c (.int .u8 43)), some (15, false)⟩,
      ⟨some 22, .mv (.t 21), some (15, false)⟩,
      ⟨some 23, .mv (.t 0), some (22, true)⟩,
      ⟨some 24, .mv (.t 0), some (22, true)⟩,
      ⟨some 25, .lenS (.t 24), some (22, true)⟩,
      ⟨some 26, .bin .sub none (.t 25) (.c (.int .i64 6)), some (22, true)⟩,
      ⟨some 27, .ixS (.t 23) (.t 26), some (22, true)⟩,
      ⟨some 28, .bin .neq (some .int) (.t 27) (.c (.int .u8 45)), some (22, true)⟩,
      ⟨some 29, .pick (.t 22) (.t 28) (.c (.bool false)), some (15, false)⟩,
      ⟨some 30, .pick (.t 15) (.c (.bool true)) (.t 29), none⟩] [0, 30])
    (.cnd (.t 30)
     (.seq
      (.reg [
        ⟨some 31, .mv (.t 0), none⟩,
        ⟨some 2, .mv (.t 31), none⟩,
        ⟨some 3, .mv (.c (.str [])), none⟩] [2, 3])
      .ret)
     .skip))
   (.seq
    (.reg [
      ⟨some 32, .mv (.t 0), none⟩,
      ⟨some 33, .mv (.t 0), none⟩,
      ⟨some 34, .lenS (.t 33), none⟩,
      ⟨some 35, .bin .sub none (.t 34) (.c (.int .i64 6)), none⟩,
      ⟨some 36, .slS (.t 32) (some (.t 35)) none, none⟩,
      ⟨some 4, .mv (.t 36), none⟩] [0, 4])
    (.seq
     (.seq
      (.reg [
        ⟨some 37, .mv (.t 4), none⟩,
        ⟨some 38, .ixS (.t 37) (.c (.int .i64 3)), none⟩,
        ⟨some 39, .bin .neq (some .int) (.t 38) (.c (.int .u8 58)), none⟩,
        ⟨some 40, .mv (.t 39), none⟩,
        ⟨some 41, .mv (.t 4), some (40, false)⟩,
        ⟨some 42, .slS (.t 41) (some (.c (.int .i64 1))) (some (.c (.int .i64 3))), some (40, false)⟩,
        ⟨some 43, .call 103 [(.t 42), (.c (.int .i64 0)), (.c (.int .i64 23))], some (40, false)⟩,
        ⟨some 44, .un .not (.t 43), some (40, false)⟩,
        ⟨some 45, .pick (.t 40) (.c (.bool true)) (.t 44), none⟩,
        ⟨some 46, .mv (.t 45), none⟩,
        ⟨some 47, .mv (.t 4), some (46, false)⟩,
        ⟨some 48, .slS (.t 47) (some (.c (.int .i64 4))) none, some (46, false)⟩,
        ⟨some 49, .call 103 [(.t 48), (.c (.int .i64 0)), (.c (.int .i64 59))], some (46, false)⟩,
        ⟨some 50, .un .not (.t 49), some (46, false)⟩,
        ⟨some 51, .pick (.t 46) (.c (.bool true)) (.t 50), none⟩] [0, 4, 51])
      (.cnd (.t 51)
       (.seq
        (.reg [
          ⟨some 52, .mv (.t 0), none⟩,
          ⟨some 2, .mv (.t 52), none⟩,
          ⟨some 3, .mv (.c (.str [])), none⟩] [2, 3])
        .ret)
       .skip))
     (.seq
      (.reg [
        ⟨some 53, .mv (.t 0), none⟩,
        ⟨some 54, .mv (.t 0), none⟩,
        ⟨some 55, .lenS (.t 54), none⟩,
        ⟨some 56, .bin .sub none (.t 55) (.c (.int .i64 6)), none⟩,
        ⟨some 57, .slS (.t 53) none (some (.t 56)), none⟩,
        ⟨some 58, .mv (.t 4), none⟩,
        ⟨some 2, .mv (.t 57), none⟩,
        ⟨some 3, .mv (.t 58), none⟩] [2, 3])
      .ret)))))),
[.tmp 2, .tmp 3]⟩
theorem F88_ok : prepF Go.Proofs.Tryz.prog ⟨[], [(0, [0]), (1, [0, 6]), (2, [2, 3]), (3, [0, 30]), (4, [2, 3]), (5, [0, 4]), (6, [0, 4, 51]), (7, [2, 3]), (8, [2, 3])], []⟩ Go.Proofs.Tryz.f88 = some F88 := by kernel_rfl
/-- strings.Cut -/
def F89 : DF := ⟨2,
(.seq
 (.reg [
   ⟨some 4, .mv (.c (.str [])), none⟩,
   ⟨some 5, .mv (.c (.str [])), none⟩,
   ⟨some 6, .mv (.c (.bool false)), none⟩] [0, 1])
 (.seq
  (.reg [
    ⟨some 7, .mv (.t 0), none⟩,
    ⟨some 8, .mv (.t 1), none⟩,
    ⟨some 9, .call 107 [(.t 7), (.t 8)], none⟩,
    ⟨some 10, .ext (.t 9) 0, none⟩,
    ⟨some 11, .ext (.t 9) 1, none⟩,
    ⟨some 12, .ext (.t 9) 2, none⟩,
    ⟨some 4, .mv (.t 10), none⟩,
    ⟨some 5, .mv (.t 11), none⟩,
    ⟨some 6, .mv (.t 12), none⟩] [4, 5, 6])
  .ret)),
[.tmp 4, .tmp 5, .tmp 6]⟩
theorem F89_ok : prepF Go.Proofs.Tryz.prog ⟨[], [(0, [0, 1]), (1, [4, 5, 6])], []⟩ Go.Proofs.Tryz.f89 = some F89 := by kernel_rfl
/-- slices.stableCmpFunc[int] -/
def F90 : DF := ⟨3,
(.seq
 (.reg [
   ⟨some 6, .mv (.c (.int .i64 20)), none⟩] [0, 1, 2, 6])
 (.seq
  (.reg [
    ⟨some 10, .mv (.t 6), none⟩,
    ⟨some 7, .mv (.c (.int .i64 0)), none⟩,
    ⟨some 8, .mv (.t 10), none⟩] [0, 1, 2, 6, 7, 8])
  (.seq
   (.blk 0
    (.seq
     (.trim [0, 1, 2, 6, 7, 8])
     (.lop
      (.seq
       (.seq
        (.seq
         (.reg [
           ⟨some 11, .mv (.t 8), none⟩,
           ⟨some 12, .mv (.t 1), none⟩,
           ⟨some 13, .bin .leq none (.t 11) (.t 12), none⟩] [0, 1, 2, 6, 7, 8, 13])
         (.cnd (.t 13)
          .skip
          (.exit 0)))
        (.blk 1
         (.seq
          (.reg [
            ⟨some 14, .mv (.t 0), none⟩,
            ⟨some 15, .mv (.t 7), none⟩,
            ⟨some 16, .mv (.t 8), none⟩,
            ⟨some 17, .mv (.t 2), none⟩,
            ⟨some 18, .call 108 [(.t 14), (.t 15), (.t 16), (.t 17)], none⟩] [0, 1, 2, 6, 8])
          (.seq
           (.reg [
             ⟨some 19, .mv (.t 8), none⟩,
             ⟨some 7, .mv (.t 19), none⟩] [0, 1, 2, 6, 7, 8])
           (.reg [
             ⟨some 20, .mv (.t 8), none⟩,
             ⟨some 21, .mv (.t 6), none⟩,
             ⟨some 22, .bin .add none (.t 20) (.t 21), none⟩,
             ⟨some 8, .mv (.t 22), none⟩] [0, 1, 2, 6, 7, 8])))))
       (.trim [0, 1, 2, 6, 7, 8])))))
   (.seq
    (.reg [
      ⟨some 23, .mv (.t 0), none⟩,
      ⟨some 24, .mv (.t 7), none⟩,
      ⟨some 25, .mv (.t 1), none⟩,
      ⟨some 26, .mv (.t 2), none⟩,
      ⟨some 27, .call 108 [(.t 23), (.t 24), (.t 25), (.t 26)], none⟩] [0, 1, 2, 6])
    (.blk 2
     (.seq
      (.trim [0, 1, 2, 6])
      (.lop
       (.seq
        (.seq
         (.seq
          (.reg [
            ⟨some 28, .mv (.t 6), none⟩,
            ⟨some 29, .mv (.t 1), none⟩,
            ⟨some 30, .bin .lss none (.t 28) (.t 29), none⟩] [0, 1, 2, 6, 30])
          (.cnd (.t 30)
           .skip
           (.exit 2)))
         (.blk 3
          (.seq
           (.reg [
             ⟨some 31, .mv (.t 6), none⟩,
             ⟨some 32, .bin .mul none (.c (.int .i64 2)) (.t 31), none⟩,
             ⟨some 7, .mv (.c (.int .i64 0)), none⟩,
             ⟨some 8, .mv (.t 32), none⟩] [0, 1, 2, 6, 7, 8])
           (.seq
            (.blk 4
             (.seq
              (.trim [0, 1, 2, 6, 7, 8])
              (.lop
               (.seq
                (.seq
                 (.seq
                  (.reg [
                    ⟨some 33, .mv (.t 8), none⟩,
                    ⟨some 34, .mv (.t 1), none⟩,
                    ⟨some 35, .bin .leq none (.t 33) (.t 34), none⟩] [0, 1, 2, 6, 7, 8, 35])
                  (.cnd (.t 35)
                   .skip
                   (.exit 4)))
                 (.blk 5
                  (.seq
                   (.reg [
                     ⟨some 36, .mv (.t 0), none⟩,
                     ⟨some 37, .mv (.t 7), none⟩,
                     ⟨some 38, .mv (.t 7), none⟩,
                     ⟨some 39, .mv (.t 6), none⟩,
                     ⟨some 40, .bin .add none (.t 38) (.t 39), none⟩,
                     ⟨some 41, .mv (.t 8), none⟩,
                     ⟨some 42, .mv (.t 2), none⟩,
                     ⟨some 43, .call 109 [(.t 36), (.t 37), (.t 40), (.t 41), (.t 42)], none⟩] [0, 1, 2, 6, 8])
                   (.seq
                    (.reg [
                      ⟨some 44, .mv (.t 8), none⟩,
                      ⟨some 7, .mv (.t 44), none⟩] [0, 1, 2, 6, 7, 8])
                    (.reg [
                      ⟨some 45, .mv (.t 8), none⟩,
                      ⟨some 46, .mv (.t 6), none⟩,
                      ⟨some 47, .bin .mul none (.c (.int .i64 2)) (.t 46), none⟩,
                      ⟨some 48, .bin .add none (.t 45) (.t 47), none⟩,
                      ⟨some 8, .mv (.t 48), none⟩] [0, 1, 2, 6, 7, 8])))))
                (.trim [0, 1, 2, 6, 7, 8])))))
            (.seq
             (.seq
              (.reg [
                ⟨some 49, .mv (.t 7), none⟩,
                ⟨some 50, .mv (.t 6), none⟩,
                ⟨some 51, .bin .add none (.t 49) (.t 50), none⟩,
                ⟨some 9, .mv (.t 51), none⟩] [0, 1, 2, 6, 7, 9])
              (.seq
               (.reg [
                 ⟨some 52, .mv (.t 9), none⟩,
                 ⟨some 53, .mv (.t 1), none⟩,
                 ⟨some 54, .bin .lss none (.t 52) (.t 53), none⟩] [0, 1, 2, 6, 7, 9, 54])
               (.cnd (.t 54)
                (.reg [
                  ⟨some 55, .mv (.t 0), none⟩,
                  ⟨some 56, .mv (.t 7), none⟩,
                  ⟨some 57, .mv (.t 9), none⟩,
                  ⟨some 58, .mv (.t 1), none⟩,
                  ⟨some 59, .mv (.t 2), none⟩,
                  ⟨some 60, .call 109 [(.t 55), (.t 56), (.t 57), (.t 58), (.t 59)], none⟩] [0, 1, 2, 6])
                .skip)))
             (.reg [
               ⟨some 61, .mv (.t 6), none⟩,
               ⟨some 62, .bin .mul none (.t 61) (.c (.int .i64 2)), none⟩,
               ⟨some 6, .mv (.t 62), none⟩] [0, 1, 2, 6]))))))
        (.trim [0, 1, 2, 6]))))))))),
[]⟩
theorem F90_ok : prepF Go.Proofs.Tryz.prog ⟨[], [(0, [0, 1, 2, 6]), (1, [0, 1, 2, 6, 7, 8]), (2, [0, 1, 2, 6, 7, 8, 13]), (3, [0, 1, 2, 6, 8]), (4, [0, 1, 2, 6, 7, 8]), (5, [0, 1, 2, 6, 7, 8]), (6, [0, 1, 2, 6]), (7, [0, 1, 2, 6, 30]), (8, [0, 1, 2, 6, 7, 8]), (9, [0, 1, 2, 6, 7, 8, 35]), (10, [0, 1, 2, 6, 8]), (11, [0, 1, 2, 6, 7, 8]), (12, [0, 1, 2, 6, 7, 8]), (13, [0, 1, 2, 6, 7, 9]), (14, [0, 1, 2, 6, 7, 9, 54]), (15, [0, 1, 2, 6]), (16, [0, 1, 2, 6]), (1000000, [0, 1, 2, 6, 7, 8]), (1000002, [0, 1, 2, 6]), (1000004, [0, 1, 2, 6, 7, 8])], []⟩ Go.Proofs.Tryz.f90 = some F90 := by kernel_rfl
/-- internal/bytealg.CompareString -/
def F91 : DF := ⟨2,
(.seq
 (.reg [
   ⟨some 4, .mv (.c (.int .i64 0)), none⟩] [0, 1])
 (.seq
  (.reg [
    ⟨some 5, .mv (.t 0), none⟩,
    ⟨some 6, .mv (.t 1), none⟩,
    ⟨some 7, .xtn .compare [(.t 5), (.t 6)], none⟩,
    ⟨some 4, .mv (.t 7), none⟩] [4])
  .ret)),
[.tmp 4]⟩
theorem F91_ok : prepF Go.Proofs.Tryz.prog ⟨[], [(0, [0, 1]), (1, [4])], []⟩ Go.Proofs.Tryz.f91 = some F91 := by kernel_rfl
/-- emend/text.First -/
def F92 : DF := ⟨1,
(.seq
 (.reg [
   ⟨some 2, .mv (.c (.int .i64 0)), none⟩,
   ⟨some 3, .mv (.c (.int .i64 0)), none⟩] [0])
 (.seq
  (.seq
   (.reg [
     ⟨some 6, .mv (.t 0), none⟩,
     ⟨some 7, .bin .eql (some .str) (.t 6) (.c (.str [])), none⟩] [0, 7])
   (.cnd (.t 7)
    (.seq
     (.reg [
       ⟨some 2, .mv (.c (.int .i64 0)), none⟩,
       ⟨some 3, .mv (.c (.int .i64 0)), none⟩] [2, 3])
     .ret)
    .skip))
  (.seq
   (.reg [
     ⟨some 9, .mv (.t 0), none⟩,
     ⟨some 10, .ixS (.t 9) (.c (.int .i64 0)), none⟩,
     ⟨some 11, .call 111 [(.t 10)], none⟩,
     ⟨some 8, .mv (.t 11), none⟩,
     ⟨some 12, .ext (.t 8) 0, none⟩,
     ⟨some 13, .ext (.t 8) 1, none⟩,
     ⟨some 14, .ext (.t 8) 2, none⟩,
     ⟨some 3, .mv (.t 12), none⟩,
     ⟨some 2, .mv (.t 13), none⟩,
     ⟨some 4, .mv (.t 14), none⟩] [0, 2, 3, 4])
   (.seq
    (.seq
     (.reg [
       ⟨some 15, .mv (.t 3), none⟩,
       ⟨some 16, .bin .eql (some .int) (.t 15) (.c (.int .i64 0)), none⟩,
       ⟨some 17, .mv (.t 16), none⟩,
       ⟨some 18, .mv (.t 3), some (17, false)⟩,
       ⟨some 19, .mv (.t 0), some (17, false)⟩,
       ⟨some 20, .lenS (.t 19), some (17, false)⟩,
       ⟨some 21, .bin .gtr none (.t 18) (.t 20), some (17, false)⟩,
       ⟨some 22, .pick (.t 17) (.c (.bool true)) (.t 21), none⟩] [0, 2, 3, 4, 22])
     (.cnd (.t 22)
      (.seq
       (.reg [
         ⟨some 2, .mv (.c (.int .i64 0)), none⟩,
         ⟨some 3, .mv (.c (.int .i64 0)), none⟩] [2, 3])
       .ret)
      .skip))
    (.seq
     (.seq
      (.reg [
        ⟨some 5, .mv (.c (.int .i64 1)), none⟩] [0, 2, 3, 4, 5])
      (.blk 0
       (.seq
        (.trim [0, 2, 3, 4, 5])
        (.lop
         (.seq
          (.seq
           (.seq
            (.reg [
              ⟨some 23, .mv (.t 5), none⟩,
              ⟨some 24, .mv (.t 3), none⟩,
              ⟨some 25, .bin .lss none (.t 23) (.t 24), none⟩] [0, 2, 3, 4, 5, 25])
            (.cnd (.t 25)
             .skip
             (.exit 0)))
           (.seq
            (.blk 1
             (.seq
              (.seq
               (.reg [
                 ⟨some 28, .mv (.t 0), none⟩,
                 ⟨some 29, .mv (.t 5), none⟩,
                 ⟨some 30, .ixS (.t 28) (.t 29), none⟩,
                 ⟨some 31, .bin .shr none (.t 30) (.c (.int .u64 6)), none⟩,
                 ⟨some 32, .bin .neq (some .int) (.t 31) (.c (.int .u8 2)), none⟩] [0, 2, 3, 4, 5, 32])
               (.cnd (.t 32)
                (.seq
                 (.reg [
                   ⟨some 2, .mv (.c (.int .i64 0)), none⟩,
                   ⟨some 3, .mv (.c (.int .i64 0)), none⟩] [2, 3])
                 .ret)
                .skip))
              (.reg [
                ⟨some 33, .mv (.t 2), none⟩,
                ⟨some 34, .bin .shl none (.t 33) (.c (.int .u64 6)), none⟩,
                ⟨some 35, .mv (.t 0), none⟩,
                ⟨some 36, .mv (.t 5), none⟩,
                ⟨some 37, .ixS (.t 35) (.t 36), none⟩,
                ⟨some 38, .bin .and none (.t 37) (.c (.int .u8 63)), none⟩,
                ⟨some 39, .cvI .i64 (.t 38), none⟩,
                ⟨some 40, .bin .or none (.t 34) (.t 39), none⟩,
                ⟨some 2, .mv (.t 40), none⟩] [0, 2, 3, 4, 5])))
            (.reg [
              ⟨some 26, .mv (.t 5), none⟩,
              ⟨some 27, .bin .add none (.t 26) (.c (.int .i64 1)), none⟩,
              ⟨some 5, .mv (.t 27), none⟩] [0, 2, 3, 4, 5])))
          (.trim [0, 2, 3, 4, 5]))))))
     (.seq
      (.seq
       (.reg [
         ⟨some 41, .mv (.t 2), none⟩,
         ⟨some 42, .mv (.t 4), none⟩,
         ⟨some 43, .bin .lss none (.t 41) (.t 42), none⟩,
         ⟨some 44, .mv (.t 43), none⟩,
         ⟨some 45, .mv (.t 2), some (44, false)⟩,
         ⟨some 46, .call 112 [(.t 45)], some (44, false)⟩,
         ⟨some 47, .un .not (.t 46), some (44, false)⟩,
         ⟨some 48, .pick (.t 44) (.c (.bool true)) (.t 47), none⟩] [2, 3, 48])
       (.cnd (.t 48)
        (.seq
         (.reg [
           ⟨some 2, .mv (.c (.int .i64 0)), none⟩,
           ⟨some 3, .mv (.c (.int .i64 0)), none⟩] [2, 3])
         .ret)
        .skip))
      (.seq
       (.reg [
         ⟨some 49, .mv (.t 2), none⟩,
         ⟨some 50, .mv (.t 3), none⟩,
         ⟨some 2, .mv (.t 49), none⟩,
         ⟨some 3, .mv (.t 50), none⟩] [2, 3])
       .ret))))))),
[.tmp 2, .tmp 3]⟩
theorem F92_ok : prepF Go.Proofs.Tryz.prog ⟨[], [(0, [0]), (1, [0, 7]), (2, [2, 3]), (3, [0, 2, 3, 4]), (4, [0, 2, 3, 4, 22]), (5, [2, 3]), (6, [0, 2, 3, 4, 5]), (7, [0, 2, 3, 4, 5, 25]), (8, [0, 2, 3, 4, 5]), (9, [0, 2, 3, 4, 5, 32]), (10, [2, 3]), (11, [0, 2, 3, 4, 5]), (12, [2, 3, 48]), (13, [2, 3]), (14, [2, 3]), (1000000, [0, 2, 3, 4, 5])], []⟩ Go.Proofs.Tryz.f92 = some F92 := by kernel_rfl
/-- emend/num.cut -/
def F96 : DF := ⟨1,
(.seq
 (.reg [
   ⟨some 2, .mv (.c (.bool false)), none⟩,
   ⟨some 3, .mv (.c (.str [])), none⟩,
   ⟨some 4, .mv (.c (.str [])), none⟩,
   ⟨some 5, .mv (.c (.str [])), none⟩,
   ⟨some 6, .mv (.c (.bool false)), none⟩] [0, 4])
 (.seq
  (.reg [
    ⟨some 10, .mv (.t 0), none⟩,
    ⟨some 7, .mv (.t 10), none⟩] [4, 7])
  (.seq
   (.seq
    (.reg [
      ⟨some 11, .mv (.t 7), none⟩,
      ⟨some 12, .call 119 [(.t 11), (.c (.str [45]))], none⟩,
      ⟨some 2, .mv (.t 12), none⟩] [2, 4, 7])
    (.seq
     (.reg [
       ⟨some 13, .mv (.t 2), none⟩] [2, 4, 7, 13])
     (.cnd (.t 13)
      (.reg [
        ⟨some 14, .mv (.t 7), none⟩,
        ⟨some 15, .slS (.t 14) (some (.c (.int .i64 1))) none, none⟩,
        ⟨some 7, .mv (.t 15), none⟩] [2, 4, 7])
      .skip)))
   (.seq
    (.reg [
      ⟨some 16, .mv (.t 7), none⟩,
      ⟨some 17, .call 100 [(.t 16)], none⟩,
      ⟨some 8, .mv (.t 17), none⟩] [2, 4, 7, 8])
    (.seq
     (.seq
      (.reg [
        ⟨some 18, .mv (.t 8), none⟩,
        ⟨some 19, .bin .eql (some .int) (.t 18) (.c (.int .i64 0)), none⟩,
        ⟨some 20, .mv (.t 19), none⟩,
        ⟨some 21, .mv (.t 8), some (20, false)⟩,
        ⟨some 22, .bin .gtr none (.t 21) (.c (.int .i64 1)), some (20, false)⟩,
        ⟨some 23, .mv (.t 22), some (20, false)⟩,
        ⟨some 24, .mv (.t 7), some (23, true)⟩,
        ⟨some 25, .ixS (.t 24) (.c (.int .i64 0)), some (23, true)⟩,
        ⟨some 26, .bin .eql (some .int) (.t 25) (.c (.int .u8 48)), some (23, true)⟩,
        ⟨some 27, .pick (.t 23) (.t 26) (.c (.bool false)), some (20, false)⟩,
        ⟨some 28, .pick (.t 20) (.c (.bool true)) (.t 27), none⟩] [2, 4, 7, 8, 28])
      (.cnd (.t 28)
       (.seq
        (.reg [
          ⟨some 2, .mv (.c (.bool false)), none⟩,
          ⟨some 3, .mv (.c (.str [])), none⟩,
          ⟨some 4, .mv (.c (.str [])), none⟩,
          ⟨some 5, .mv (.c (.str [])), none⟩,
          ⟨some 6, .mv (.c (.bool false)), none⟩] [2, 3, 4, 5, 6])
        .ret)
       .skip))
     (.seq
      (.drw [
        (⟨some 29, .mv (.t 7), none⟩, none),
        (⟨some 30, .mv (.t 8), none⟩, none),
        (⟨some 31, .slS (.t 29) none (some (.t 30)), none⟩, none),
        (⟨some 32, .mv (.t 7), none⟩, none),
        (⟨some 33, .mv (.t 8), none⟩, none),
        (⟨some 34, .slS (.t 32) (some (.t 33)) none, none⟩, none),
        (⟨some 3, .mv (.t 31), none⟩, none),
        (⟨some 7, .mv (.t 34), none⟩, none)] [2, 3, 4, 7])
      (.seq
       (.seq
        (.reg [
          ⟨some 35, .mv (.t 7), none⟩,
          ⟨some 36, .call 119 [(.t 35), (.c (.str [46]))], none⟩] [2, 3, 4, 7, 36])
        (.cnd (.t 36)
         (.seq
          (.seq
           (.reg [
             ⟨some 37, .mv (.t 7), none⟩,
             ⟨some 38, .slS (.t 37) (some (.c (.int .i64 1))) none, none⟩,
             ⟨some 39, .call 100 [(.t 38)], none⟩,
             ⟨some 8, .mv (.t 39), none⟩] [2, 3, 7, 8])
           (.seq
            (.reg [
              ⟨some 40, .mv (.t 8), none⟩,
              ⟨some 41, .bin .eql (some .int) (.t 40) (.c (.int .i64 0)), none⟩] [2, 3, 7, 8, 41])
            (.cnd (.t 41)
             (.seq
              (.reg [
                ⟨some 2, .mv (.c (.bool false)), none⟩,
                ⟨some 3, .mv (.c (.str [])), none⟩,
                ⟨some 4, .mv (.c (.str [])), none⟩,
                ⟨some 5, .mv (.c (.str [])), none⟩,
                ⟨some 6, .mv (.c (.bool false)), none⟩] [2, 3, 4, 5, 6])
              .ret)
             .skip)))
          (.drw [
            (⟨some 42, .mv (.t 7), none⟩, none),
            (⟨some 43, .mv (.t 8), none⟩, none),
            (⟨some 44, .bin .add none (.c (.int .i64 1)) (.t 43), none⟩, none),
            (⟨some 45, .slS (.t 42) (some (.c (.int .i64 1))) (some (.t 44)), none⟩, none),
            (⟨some 46, .mv (.t 7), none⟩, none),
            (⟨some 47, .mv (.t 8), none⟩, none),
            (⟨some 48, .bin .add none (.c (.int .i64 1)) (.t 47), none⟩, none),
            (⟨some 49, .slS (.t 46) (some (.t 48)) none, none⟩, none),
            (⟨some 4, .mv (.t 45), none⟩, none),
            (⟨some 7, .mv (.t 49), none⟩, none)] [2, 3, 4, 7]))
         .skip))
       (.seq
        (.seq
         (.reg [
           ⟨some 50, .mv (.t 7), none⟩,
           ⟨some 51, .bin .eql (some .str) (.t 50) (.c (.str [])), none⟩] [2, 3, 4, 7, 51])
         (.cnd (.t 51)
          (.seq
           (.reg [
             ⟨some 52, .mv (.t 2), none⟩,
             ⟨some 53, .mv (.t 3), none⟩,
             ⟨some 54, .mv (.t 4), none⟩,
             ⟨some 2, .mv (.t 52), none⟩,
             ⟨some 3, .mv (.t 53), none⟩,
             ⟨some 4, .mv (.t 54), none⟩,
             ⟨some 5, .mv (.c (.str [])), none⟩,
             ⟨some 6, .mv (.c (.bool true)), none⟩] [2, 3, 4, 5, 6])
           .ret)
          .skip))
        (.seq
         (.seq
          (.reg [
            ⟨some 55, .mv (.t 7), none⟩,
            ⟨some 56, .ixS (.t 55) (.c (.int .i64 0)), none⟩,
            ⟨some 57, .bin .neq (some .int) (.t 56) (.c (.int .u8 101)), none⟩,
            ⟨some 58, .mv (.t 57), none⟩,
            ⟨some 59, .mv (.t 7), some (58, true)⟩,
            ⟨some 60, .ixS (.t 59) (.c (.int .i64 0)), some (58, true)⟩,
            ⟨some 61, .bin .neq (some .int) (.t 60) (.c (.int .u8 69)), some (58, true)⟩,
            ⟨some 62, .pick (.t 58) (.t 61) (.c (.bool false)), none⟩] [2, 3, 4, 7, 62])
          (.cnd (.t 62)
           (.seq
            (.reg [
              ⟨some 2, .mv (.c (.bool false)), none⟩,
              ⟨some 3, .mv (.c (.str [])), none⟩,
              ⟨some 4, .mv (.c (.str [])), none⟩,
              ⟨some 5, .mv (.c (.str [])), none⟩,
              ⟨some 6, .mv (.c (.bool false)), none⟩] [2, 3, 4, 5, 6])
            .ret)
           .skip))
         (.seq
          (.reg [
            ⟨some 63, .mv (.t 7), none⟩,
            ⟨some 64, .slS (.t 63) (some (.c (.int .i64 1))) none, none⟩,
            ⟨some 5, .mv (.t 64), none⟩] [2, 3, 4, 5])
          (.seq
           (.reg [
             ⟨some 65, .mv (.t 5), none⟩,
             ⟨some 66, .call 120 [(.t 65), (.c (.str [45]))], none⟩,
             ⟨some 9, .mv (.t 66), none⟩] [2, 3, 4, 5, 9])
           (.seq
            (.seq
             (.reg [
               ⟨some 67, .mv (.t 9), none⟩,
               ⟨some 68, .mv (.t 5), none⟩,
               ⟨some 69, .bin .eql (some .str) (.t 67) (.t 68), none⟩] [2, 3, 4, 5, 9, 69])
             (.cnd (.t 69)
              (.reg [
                ⟨some 70, .mv (.t 5), none⟩,
                ⟨some 71, .call 120 [(.t 70), (.c (.str [43]))], none⟩,
                ⟨some 9, .mv (.t 71), none⟩] [2, 3, 4, 5, 9])
              .skip))
            (.seq
             (.seq
              (.reg [
                ⟨some 72, .mv (.t 9), none⟩,
                ⟨some 73, .bin .eql (some .str) (.t 72) (.c (.str [])), none⟩,
                ⟨some 74, .mv (.t 73), none⟩,
                ⟨some 75, .mv (.t 9), some (74, false)⟩,
                ⟨some 76, .call 100 [(.t 75)], some (74, false)⟩,
                ⟨some 77, .mv (.t 9), some (74, false)⟩,
                ⟨some 78, .lenS (.t 77), some (74, false)⟩,
                ⟨some 79, .bin .lss none (.t 76) (.t 78), some (74, false)⟩,
                ⟨some 80, .pick (.t 74) (.c (.bool true)) (.t 79), none⟩] [2, 3, 4, 5, 80])
              (.cnd (.t 80)
               (.seq
                (.reg [
                  ⟨some 2, .mv (.c (.bool false)), none⟩,
                  ⟨some 3, .mv (.c (.str [])), none⟩,
                  ⟨some 4, .mv (.c (.str [])), none⟩,
                  ⟨some 5, .mv (.c (.str [])), none⟩,
                  ⟨some 6, .mv (.c (.bool false)), none⟩] [2, 3, 4, 5, 6])
                .ret)
               .skip))
             (.seq
              (.reg [
                ⟨some 81, .mv (.t 2), none⟩,
                ⟨some 82, .mv (.t 3), none⟩,
                ⟨some 83, .mv (.t 4), none⟩,
                ⟨some 84, .mv (.t 5), none⟩,
                ⟨some 2, .mv (.t 81), none⟩,
                ⟨some 3, .mv (.t 82), none⟩,
                ⟨some 4, .mv (.t 83), none⟩,
                ⟨some 5, .mv (.t 84), none⟩,
                ⟨some 6, .mv (.c (.bool true)), none⟩] [2, 3, 4, 5, 6])
              .ret)))))))))))))),
[.tmp 2, .tmp 3, .tmp 4, .tmp 5, .tmp 6]⟩
theorem F96_ok : prepF Go.Proofs.Tryz.prog ⟨[], [(0, [0, 4]), (1, [4, 7]), (2, [2, 4, 7]), (3, [2, 4, 7, 13]), (4, [2, 4, 7]), (5, [2, 4, 7, 8]), (6, [2, 4, 7, 8, 28]), (7, [2, 3, 4, 5, 6]), (8, [2, 3, 4, 7]), (9, [2, 3, 4, 7, 36]), (10, [2, 3, 7, 8]), (11, [2, 3, 7, 8, 41]), (12, [2, 3, 4, 5, 6]), (13, [2, 3, 4, 7]), (14, [2, 3, 4, 7, 51]), (15, [2, 3, 4, 5, 6]), (16, [2, 3, 4, 7, 62]), (17, [2, 3, 4, 5, 6]), (18, [2, 3, 4, 5]), (19, [2, 3, 4, 5, 9]), (20, [2, 3, 4, 5, 9, 69]), (21, [2, 3, 4, 5, 9]), (22, [2, 3, 4, 5, 80]), (23, [2, 3, 4, 5, 6]), (24, [2, 3, 4, 5, 6])], []⟩ Go.Proofs.Tryz.f96 = some F96 := by kernel_rfl
/-- emend/num.exponent -/
def F97 : DF := ⟨1,
(.seq
 (.reg [
   ⟨some 2, .mv (.c (.int .i64 0)), none⟩,
   ⟨some 3, .mv (.c (.bool false)), none⟩] [0])
 (.seq
  (.reg [
    ⟨some 7, .mv (.t 0), none⟩,
    ⟨some 8, .call 119 [(.t 7), (.c (.str [45]))], none⟩,
    ⟨some 4, .mv (.t 8), none⟩] [0, 4])
  (.seq
   (.reg [
     ⟨some 9, .mv (.t 0), none⟩,
     ⟨some 10, .call 98 [(.t 9), (.c (.str [43, 45]))], none⟩,
     ⟨some 11, .call 98 [(.t 10), (.c (.str [48]))], none⟩,
     ⟨some 0, .mv (.t 11), none⟩] [0, 4])
   (.seq
    (.seq
     (.reg [
       ⟨some 12, .mv (.t 0), none⟩,
       ⟨some 13, .lenS (.t 12), none⟩,
       ⟨some 14, .bin .gtr none (.t 13) (.c (.int .i64 6)), none⟩] [0, 4, 14])
     (.cnd (.t 14)
      (.seq
       (.reg [
         ⟨some 2, .mv (.c (.int .i64 0)), none⟩,
         ⟨some 3, .mv (.c (.bool false)), none⟩] [2, 3])
       .ret)
      .skip))
    (.seq
     (.reg [
       ⟨some 16, .mv (.t 0), none⟩,
       ⟨some 17, .bin .add none (.c (.str [48])) (.t 16), none⟩,
       ⟨some 18, .call 121 [(.t 17)], none⟩,
       ⟨some 15, .mv (.t 18), none⟩,
       ⟨some 19, .ext (.t 15) 0, none⟩,
       ⟨some 20, .ext (.t 15) 1, none⟩,
       ⟨some 5, .mv (.t 19), none⟩,
       ⟨some 6, .mv (.t 20), none⟩] [4, 5])
     (.seq
      (.seq
       (.reg [
         ⟨some 21, .mv (.t 4), none⟩] [5, 21])
       (.cnd (.t 21)
        (.seq
         (.reg [
           ⟨some 22, .mv (.t 5), none⟩,
           ⟨some 23, .un .neg (.t 22), none⟩,
           ⟨some 2, .mv (.t 23), none⟩,
           ⟨some 3, .mv (.c (.bool true)), none⟩] [2, 3])
         .ret)
        .skip))
      (.seq
       (.reg [
         ⟨some 24, .mv (.t 5), none⟩,
         ⟨some 2, .mv (.t 24), none⟩,
         ⟨some 3, .mv (.c (.bool true)), none⟩] [2, 3])
       .ret))))))),
[.tmp 2, .tmp 3]⟩
theorem F97_ok : prepF Go.Proofs.Tryz.prog ⟨[], [(0, [0]), (1, [0, 4]), (2, [0, 4]), (3, [0, 4, 14]), (4, [2, 3]), (5, [4, 5]), (6, [5, 21]), (7, [2, 3]), (8, [2, 3])], []⟩ Go.Proofs.Tryz.f97 = some F97 := by kernel_rfl
/-- strings.TrimLeft -/
def F98 : DF := ⟨2,
(.seq
 (.reg [
   ⟨some 4, .mv (.c (.str [])), none⟩] [0, 1])
 (.seq
  (.seq
   (.reg [
     ⟨some 7, .mv (.t 0), none⟩,
     ⟨some 8, .bin .eql (some .str) (.t 7) (.c (.str [])), none⟩,
     ⟨some 9, .mv (.t 8), none⟩,
     ⟨some 10, .mv (.t 1), some (9, false)⟩,
     ⟨some 11, .bin .eql (some .str) (.t 10) (.c (.str [])), some (9, false)⟩,
     ⟨some 12, .pick (.t 9) (.c (.bool true)) (.t 11), none⟩] [0, 1, 12])
   (.cnd (.t 12)
    (.seq
     (.reg [
       ⟨some 13, .mv (.t 0), none⟩,
       ⟨some 4, .mv (.t 13), none⟩] [4])
     .ret)
    .skip))
  (.seq
   (.seq
    (.reg [
      ⟨some 14, .mv (.t 1), none⟩,
      ⟨some 15, .lenS (.t 14), none⟩,
      ⟨some 16, .bin .eql (some .int) (.t 15) (.c (.int .i64 1)), none⟩,
      ⟨some 17, .mv (.t 16), none⟩,
      ⟨some 18, .mv (.t 1), some (17, true)⟩,
      ⟨some 19, .ixS (.t 18) (.c (.int .i64 0)), some (17, true)⟩,
      ⟨some 20, .bin .lss none (.t 19) (.c (.int .u8 128)), some (17, true)⟩,
      ⟨some 21, .pick (.t 17) (.t 20) (.c (.bool false)), none⟩] [0, 1, 21])
    (.cnd (.t 21)
     (.seq
      (.reg [
        ⟨some 22, .mv (.t 0), none⟩,
        ⟨some 23, .mv (.t 1), none⟩,
        ⟨some 24, .ixS (.t 23) (.c (.int .i64 0)), none⟩,
        ⟨some 25, .call 122 [(.t 22), (.t 24)], none⟩,
        ⟨some 4, .mv (.t 25), none⟩] [4])
      .ret)
     .skip))
   (.seq
    (.seq
     (.reg [
       ⟨some 27, .mv (.t 1), none⟩,
       ⟨some 28, .call 123 [(.t 27)], none⟩,
       ⟨some 26, .mv (.t 28), none⟩,
       ⟨some 29, .ext (.t 26) 0, none⟩,
       ⟨some 30, .ext (.t 26) 1, none⟩,
       ⟨some 5, .alH 141 [(.bool false), (.bool false), (.bool false), (.bool false), (.bool false), (.bool false), (.bool false), (.bool false), (.bool false), (.bool false), (.bool false), (.bool false), (.bool false), (.bool false), (.bool false), (.bool false), (.bool false), (.bool false), (.bool false), (.bool false), (.bool false), (.bool false), (.bool false), (.bool false), (.bool false), (.bool false), (.bool false), (.bool false), (.bool false), (.bool false), (.bool false), (.bool false), (.bool false), (.bool false), (.bool false), (.bool false), (.bool false), (.bool false), (.bool false), (.bool false), (.bool false), (.bool false), (.bool false), (.bool false), (.bool false), (.bool false), (.bool false), (.bool false), (.bool false), (.bool false), (.bool false), (.bool false), (.bool false), (.bool false), (.bool false), (.bool false), (.bool false), (.bool false), (.bool false), (.bool false), (.bool false), (.bool false), (.bool false), (.bool false), (.bool false), (.bool false), (.bool false), (.bool false), (.bool false), (.bool false), (.bool false), (.bool false), (.bool false), (.bool false), (.bool false), (.bool false), (.bool false), (.bool false), (.bool false), (.bool false), (.bool false), (.bool false), (.bool false), (.bool false), (.bool false), (.bool false), (.bool false), (.bool false), (.bool false), (.bool false), (.bool false), (.bool false), (.bool false), (.bool false), (.bool false), (.bool false), (.bool false), (.bool false), (.bool false), (.bool false), (.bool false), (.bool false), (.bool false), (.bool false), (.bool false), (.bool false), (.bool false), (.bool false), (.bool false), (.bool false), (.bool false), (.bool false), (.bool false), (.bool false), (.bool false), (.bool false), (.bool false), (.bool false), (.bool false), (.bool false), (.bool false), (.bool false), (.bool false), (.bool false), (.bool false), (.bool false), (.bool false), (.bool false), (.bool false), (.bool false), (.bool false), (.bool false), (.bool false), (.bool false), (.bool false), (.bool false), (.bool false), (.bool false), (.bool false), (.bool false), (.bool false), (.bool false), (.bool false), (.bool false), (.bool false), (.bool false), (.bool false), (.bool false), (.bool false), (.bool false), (.bool false), (.bool false), (.bool false), (.bool false), (.bool false), (.bool false), (.bool false), (.bool false), (.bool false), (.bool false), (.bool false), (.bool false), (.bool false), (.bool false), (.bool false), (.bool false), (.bool false), (.bool false), (.bool false), (.bool false), (.bool false), (.bool false), (.bool false), (.bool false), (.bool false), (.bool false), (.bool false), (.bool false), (.bool false), (.bool false), (.bool false), (.bool false), (.bool false), (.bool false), (.bool false), (.bool false), (.bool false), (.bool false), (.bool false), (.bool false), (.bool false), (.bool false), (.bool false), (.bool false), (.bool false), (.bool false), (.bool false), (.bool false), (.bool false), (.bool false), (.bool false), (.bool false), (.bool false), (.bool false), (.bool false), (.bool false), (.bool false), (.bool false), (.bool false), (.bool false), (.bool false), (.bool false), (.bool false), (.bool false), (.bool false), (.bool false), (.bool false), (.bool false), (.bool false), (.bool false), (.bool false), (.bool false), (.bool false), (.bool false), (.bool false), (.bool false), (.bool false), (.bool false), (.bool false), (.bool false), (.bool false), (.bool false), (.bool false), (.bool false), (.bool false), (.bool false), (.bool false), (.bool false), (.bool false), (.bool false), (.bool false), (.bool false), (.bool false), (.bool false), (.bool false), (.bool false), (.bool false), (.bool false), (.bool false), (.bool false), (.bool false), (.bool false), (.bool false), (.bool false), (.bool false), (.bool false)], none⟩,
       ⟨none, .st 256 (.t 5) (.t 29), none⟩,
       ⟨some 6, .mv (.t 30), none⟩] [0, 1, 5, 6])
     (.seq
      (.reg [
        ⟨some 31, .mv (.t 6), none⟩] [0, 1, 5, 31])
      (.cnd (.t 31)
       (.seq
        (.reg [
          ⟨some 32, .mv (.t 0), none⟩,
          ⟨some 33, .call 124 [(.t 32), (.t 5)], none⟩,
          ⟨some 4, .mv (.t 33), none⟩] [4])
        .ret)
       .skip)))
    (.seq
     (.reg [
       ⟨some 34, .mv (.t 0), none⟩,
       ⟨some 35, .mv (.t 1), none⟩,
       ⟨some 36, .call 125 [(.t 34), (.t 35)], none⟩,
       ⟨some 4, .mv (.t 36), none⟩] [4])
     .ret))))),
[.tmp 4]⟩
theorem F98_ok : prepF Go.Proofs.Tryz.prog ⟨[], [(0, [0, 1]), (1, [0, 1, 12]), (2, [4]), (3, [0, 1, 21]), (4, [4]), (5, [0, 1, 5, 6]), (6, [0, 1, 5, 31]), (7, [4]), (8, [4])], []⟩ Go.Proofs.Tryz.f98 = some F98 := by kernel_rfl
/-- strings.TrimRight -/
def F99 : DF := ⟨2,
(.seq
 (.reg [
   ⟨some 4, .mv (.c (.str [])), none⟩] [0, 1])
 (.seq
  (.seq
   (.reg [
     ⟨some 7, .mv (.t 0), none⟩,
     ⟨some 8, .bin .eql (some .str) (.t 7) (.c (.str [])), none⟩,
     ⟨some 9, .mv (.t 8), none⟩,
     ⟨some 10, .mv (.t 1), some (9, false)⟩,
     ⟨some 11, .bin .eql (some .str) (.t 10) (.c (.str [])), some (9, false)⟩,
     ⟨some 12, .pick (.t 9) (.c (.bool true)) (.t 11), none⟩] [0, 1, 12])
   (.cnd (.t 12)
    (.seq
     (.reg [
       ⟨some 13, .mv (.t 0), none⟩,
       ⟨some 4, .mv (.t 13), none⟩] [4])
     .ret)
    .skip))
  (.seq
   (.seq
    (.reg [
      ⟨some 14, .mv (.t 1), none⟩,
      ⟨some 15, .lenS (.t 14), none⟩,
      ⟨some 16, .bin .eql (some .int) (.t 15) (.c (.int .i64 1)), none⟩,
      ⟨some 17, .mv (.t 16), none⟩,
      ⟨some 18, .mv (.t 1), some (17, true)⟩,
      ⟨some 19, .ixS (.t 18) (.c (.int .i64 0)), some (17, true)⟩,
      ⟨some 20, .bin .lss none (.t 19) (.c (.int .u8 128)), some (17, true)⟩,
      ⟨some 21, .pick (.t 17) (.t 20) (.c (.bool false)), none⟩] [0, 1, 21])
    (.cnd (.t 21)
     (.seq
      (.reg [
        ⟨some 22, .mv (.t 0), none⟩,
        ⟨some 23, .mv (.t 1), none⟩,
        ⟨some 24, .ixS (.t 23) (.c (.int .i64 0)), none⟩,
        ⟨some 25, .call 126 [(.t 22), (.t 24)], none⟩,
        ⟨some 4, .mv (.t 25), none⟩] [4])
      .ret)
     .skip))
   (.seq
    (.seq
     (.reg [
       ⟨some 27, .mv (.t 1), none⟩,
       ⟨some 28, .call 123 [(.t 27)], none⟩,
       ⟨some 26, .mv (.t 28), none⟩,
       ⟨some 29, .ext (.t 26) 0, none⟩,
       ⟨some 30, .ext (.t 26) 1, none⟩,
       ⟨some 5, .alH 141 [(.bool false), (.bool false), (.bool false), (.bool false), (.bool false), (.bool false), (.bool false), (.bool false), (.bool false), (.bool false), (.bool false), (.bool false), (.bool false), (.bool false), (.bool false), (.bool false), (.bool false), (.bool false), (.bool false), (.bool false), (.bool false), (.bool false), (.bool false), (.bool false), (.bool false), (.bool false), (.bool false), (.bool false), (.bool false), (.bool false), (.bool false), (.bool false), (.bool false), (.bool false), (.bool false), (.bool false), (.bool false), (.bool false), (.bool false), (.bool false), (.bool false), (.bool false), (.bool false), (.bool false), (.bool false), (.bool false), (.bool false), (.bool false), (.bool false), (.bool false), (.bool false), (.bool false), (.bool false), (.bool false), (.bool false), (.bool false), (.bool false), (.bool false), (.bool false), (.bool false), (.bool false), (.bool false), (.bool false), (.bool false), (.bool false), (.bool false), (.bool false), (.bool false), (.bool false), (.bool false), (.bool false), (.bool false), (.bool false), (.bool false), (.bool false), (.bool false), (.bool false), (.bool false), (.bool false), (.bool false), (.bool false), (.bool false), (.bool false), (.bool false), (.bool false), (.bool false), (.bool false), (.bool false), (.bool false), (.bool false), (.bool false), (.bool false), (.bool false), (.bool false), (.bool false), (.bool false), (.bool false), (.bool false), (.bool false), (.bool false), (.bool false), (.bool false), (.bool false), (.bool false), (.bool false), (.bool false), (.bool false), (.bool false), (.bool false), (.bool false), (.bool false), (.bool false), (.bool false), (.bool false), (.bool false), (.bool false), (.bool false), (.bool false), (.bool false), (.bool false), (.bool false), (.bool false), (.bool false), (.bool false), (.bool false), (.bool false), (.bool false), (.bool false), (.bool false), (.bool false), (.bool false), (.bool false), (.bool false), (.bool false), (.bool false), (.bool false), (.bool false), (.bool false), (.bool false), (.bool false), (.bool false), (.bool false), (.bool false), (.bool false), (.bool false), (.bool false), (.bool false), (.bool false), (.bool false), (.bool false), (.bool false), (.bool false), (.bool false), (.bool false), (.bool false), (.bool false), (.bool false), (.bool false), (.bool false), (.bool false), (.bool false), (.bool false), (.bool false), (.bool false), (.bool false), (.bool false), (.bool false), (.bool false), (.bool false), (.bool false), (.bool false), (.bool false), (.bool false), (.bool false), (.bool false), (.bool false), (.bool false), (.bool false), (.bool false), (.bool false), (.bool false), (.bool false), (.bool false), (.bool false), (.bool false), (.bool false), (.bool false), (.bool false), (.bool false), (.bool false), (.bool false), (.bool false), (.bool false), (.bool false), (.bool false), (.bool false), (.bool false), (.bool false), (.bool false), (.bool false), (.bool false), (.bool false), (.bool false), (.bool false), (.bool false), (.bool false), (.bool false), (.bool false), (.bool false), (.bool false), (.bool false), (.bool false), (.bool false), (.bool false), (.bool false), (.bool false), (.bool false), (.bool false), (.bool false), (.bool false), (.bool false), (.bool false), (.bool false), (.bool false), (.bool false), (.bool false), (.bool false), (.bool false), (.bool false), (.bool false), (.bool false), (.bool false), (.bool false), (.bool false), (.bool false), (.bool false), (.bool false), (.bool false), (.bool false), (.bool false), (.bool false), (.bool false), (.bool false), (.bool false), (.bool false), (.bool false), (.bool false), (.bool false), (.bool false), (.bool false), (.bool false), (.bool false), (.bool false), (.bool false), (.bool false), (.bool false)], none⟩,
       ⟨none, .st 256 (.t 5) (.t 29), none⟩,
       ⟨some 6, .mv (.t 30), none⟩] [0, 1, 5, 6])
     (.seq
      (.reg [
        ⟨some 31, .mv (.t 6), none⟩] [0, 1, 5, 31])
      (.cnd (.t 31)
       (.seq
        (.reg [
          ⟨some 32, .mv (.t 0), none⟩,
          ⟨some 33, .call 127 [(.t 32), (.t 5)], none⟩,
          ⟨some 4, .mv (.t 33), none⟩] [4])
        .ret)
       .skip)))
    (.seq
     (.reg [
       ⟨some 34, .mv (.t 0), none⟩,
       ⟨some 35, .mv (.t 1), none⟩,
       ⟨some 36, .call 128 [(.t 34), (.t 35)], none⟩,
       ⟨some 4, .mv (.t 36), none⟩] [4])
     .ret))))),
[.tmp 4]⟩
theorem F99_ok : prepF Go.Proofs.Tryz.prog ⟨[], [(0, [0, 1]), (1, [0, 1, 12]), (2, [4]), (3, [0, 1, 21]), (4, [4]), (5, [0, 1, 5, 6]), (6, [0, 1, 5, 31]), (7, [4]), (8, [4])], []⟩ Go.Proofs.Tryz.f99 = some F99 := by kernel_rfl
/-- emend/num.run -/
def F100 : DF := ⟨1,
(.seq
 (.reg [
   ⟨some 2, .mv (.c (.int .i64 0)), none⟩] [0])
 (.seq
  (.reg [
    ⟨some 3, .mv (.c (.int .i64 0)), none⟩] [0, 3])
  (.seq
   (.blk 0
    (.seq
     (.trim [0, 3])
     (.lop
      (.seq
       (.seq
        (.seq
         (.reg [
           ⟨some 4, .mv (.t 3), none⟩,
           ⟨some 5, .mv (.t 0), none⟩,
           ⟨some 6, .lenS (.t 5), none⟩,
           ⟨some 7, .bin .lss none (.t 4) (.t 6), none⟩,
           ⟨some 8, .mv (.t 7), none⟩,
           ⟨some 9, .mv (.t 0), some (8, true)⟩,
           ⟨some 10, .mv (.t 3), some (8, true)⟩,
           ⟨some 11, .ixS (.t 9) (.t 10), some (8, true)⟩,
           ⟨some 12, .call 129 [(.t 11)], some (8, true)⟩,
           ⟨some 13, .pick (.t 8) (.t 12) (.c (.bool false)), none⟩] [0, 3, 13])
         (.cnd (.t 13)
          .skip
          (.exit 0)))
        (.blk 1
         (.reg [
           ⟨some 14, .mv (.t 3), none⟩,
           ⟨some 15, .bin .add none (.t 14) (.c (.int .i64 1)), none⟩,
           ⟨some 3, .mv (.t 15), none⟩] [0, 3])))
       (.trim [0, 3])))))
   (.seq
    (.reg [
      ⟨some 16, .mv (.t 3), none⟩,
      ⟨some 2, .mv (.t 16), none⟩] [2])
    .ret)))),
[.tmp 2]⟩
theorem F100_ok : prepF Go.Proofs.Tryz.prog ⟨[], [(0, [0]), (1, [0, 3]), (2, [0, 3, 13]), (3, [0, 3]), (4, [2]), (1000000, [0, 3])], []⟩ Go.Proofs.Tryz.f100 = some F100 := by kernel_rfl
/-- strconv.Itoa -/
def F101 : DF := ⟨1,
(.seq
 (.reg [
   ⟨some 2, .mv (.c (.str [])), none⟩] [0])
 (.seq
  (.reg [
    ⟨some 3, .mv (.t 0), none⟩,
    ⟨some 4, .call 130 [(.t 3)], none⟩,
    ⟨some 2, .mv (.t 4), none⟩] [2])
  .ret)),
[.tmp 2]⟩
theorem F101_ok : prepF Go.Proofs.Tryz.prog ⟨[], [(0, [0]), (1, [2])], []⟩ Go.Proofs.Tryz.f101 = some F101 := by kernel_rfl
/-- emend/tree.two -/
def F102 : DF := ⟨1,
(.seq
 (.reg [
   ⟨some 2, .mv (.c (.int .i64 0)), none⟩] [0])
 (.seq
  (.seq
   (.reg [
     ⟨some 3, .mv (.t 0), none⟩,
     ⟨some 4, .lenS (.t 3), none⟩,
     ⟨some 5, .bin .neq (some .int) (.t 4) (.c (.int .i64 2)), none⟩,
     ⟨some 6, .mv (.t 5), none⟩,
     ⟨some 7, .mv (.t 0), some (6, false)⟩,
     ⟨some 8, .ixS (.t 7) (.c (.int .i64 0)), some (6, false)⟩,
     ⟨some 9, .bin .lss none (.t 8) (.c (.int .u8 48)), some (6, false)⟩,
     ⟨some 10, .pick (.t 6) (.c (.bool true)) (.t 9), none⟩,
     ⟨some 11, .mv (.t 10), none⟩,
     ⟨some 12, .mv (.t 0), some (11, false)⟩,
     ⟨some 13, .ixS (.t 12) (.c (.int .i64 0)), some (11, false)⟩,
     ⟨some 14, .bin .gtr none (.t 13) (.c (.int .u8 57)), some (11, false)⟩,
     ⟨some 15, .pick (.t 11) (.c (.bool true)) (.t 14), none⟩,
     ⟨some 16, .mv (.t 15), none⟩,
     ⟨some 17, .mv (.t 0), some (16, false)⟩,
     ⟨some 18, .ixS (.t 17) (.c (.int .i64 1)), some (16, false)⟩,
     ⟨some 19, .bin .lss none (.t 18) (.c (.int .u8 48)), some (16, false)⟩,
     ⟨some 20, .pick (.t 16) (.c (.bool true)) (.t 19), none⟩,
     ⟨some 21, .mv (.t 20), none⟩,
     ⟨some 22, .mv (.t 0), some (21, false)⟩,
     ⟨some 23, .ixS (.t 22) (.c (.int .i64 1)), some (21, false)⟩,
     ⟨some 24, .bin .gtr none (.t 23) (.c (.int .u8 57)), some (21, false)⟩,
     ⟨some 25, .pick (.t 21) (.c (.bool true)) (.t 24), none⟩] [0, 25])
   (.cnd (.t 25)
    (.seq
     (.reg [
       ⟨some 2, .mv (.c (.int .i64 (-1))), none⟩] [2])
     .ret)
    .skip))
  (.seq
   (.drw [
     (⟨some 26, .mv (.t 0), none⟩, none),
     (⟨some 27, .ixS (.t 26) (.c (.int .i64 0)), none⟩, none),
     (⟨some 28, .bin .sub none (.t 27) (.c (.int .u8 48)), none⟩, none),
     (⟨some 29, .cvI .i64 (.t 28), none⟩, none),
     (⟨some 30, .bin .mul none (.t 29) (.c (.int .i64 10)), none⟩, none),
     (⟨some 31, .mv (.t 0), none⟩, none),
     (⟨some 32, .ixS (.t 31) (.c (.int .i64 1)), none⟩, none),
     (⟨some 33, .bin .sub none (.t 32) (.c (.int .u8 48)), none⟩, none),
     (⟨some 34, .cvI .i64 (.t 33), none⟩, none),
     (⟨some 35, .bin .add none (.t 30) (.t 34), none⟩, none),
     (⟨some 2, .mv (.t 35), none⟩, none)] [2])
   .ret))),
[.tmp 2]⟩
theorem F102_ok : prepF Go.Proofs.Tryz.prog ⟨[], [(0, [0]), (1, [0, 25]), (2, [2]), (3, [2])], []⟩ Go.Proofs.Tryz.f102 = some F102 := by kernel_rfl
/-- emend/tree.within -/
def F103 : DF := ⟨3,
(.seq
 (.reg [
   ⟨some 6, .mv (.c (.bool false)), none⟩] [0, 1, 2])
 (.seq
  (.reg [
    ⟨some 7, .mv (.t 0), none⟩,
    ⟨some 8, .call 102 [(.t 7)], none⟩,
    ⟨some 9, .mv (.t 1), none⟩,
    ⟨some 10, .bin .geq none (.t 8) (.t 9), none⟩,
    ⟨some 11, .mv (.t 10), none⟩,
    ⟨some 12, .mv (.t 0), some (11, true)⟩,
    ⟨some 13, .call 102 [(.t 12)], some (11, true)⟩,
    ⟨some 14, .mv (.t 2), some (11, true)⟩,
    ⟨some 15, .bin .leq none (.t 13) (.t 14), some (11, true)⟩,
    ⟨some 16, .pick (.t 11) (.t 15) (.c (.bool false)), none⟩,
    ⟨some 6, .mv (.t 16), none⟩] [6])
  .ret)),
[.tmp 6]⟩
theorem F103_ok : prepF Go.Proofs.Tryz.prog ⟨[], [(0, [0, 1, 2]), (1, [6])], []⟩ Go.Proofs.Tryz.f103 = some F103 := by kernel_rfl
/-- emend/tree.days -/
def F104 : DF := ⟨2,
(.seq
 (.reg [
   ⟨some 4, .mv (.c (.int .i64 0)), none⟩] [0, 1])
 (.seq
  (.seq
   (.reg [
     ⟨some 5, .mv (.t 1), none⟩] [0, 5])
   (.blk 0
    (.seq
     (.seq
      (.reg [
        ⟨some 7, .bin .eql (some .int) (.t 5) (.c (.int .i64 4)), none⟩,
        ⟨some 6, .mv (.t 7), none⟩] [0, 5, 6])
      (.cnd (.t 6)
       .skip
       (.seq
        (.reg [
          ⟨some 8, .bin .eql (some .int) (.t 5) (.c (.int .i64 6)), none⟩,
          ⟨some 6, .mv (.t 8), none⟩] [0, 5, 6])
        (.cnd (.t 6)
         .skip
         (.seq
          (.reg [
            ⟨some 9, .bin .eql (some .int) (.t 5) (.c (.int .i64 9)), none⟩,
            ⟨some 6, .mv (.t 9), none⟩] [0, 5, 6])
          (.cnd (.t 6)
           .skip
           (.reg [
             ⟨some 10, .bin .eql (some .int) (.t 5) (.c (.int .i64 11)), none⟩,
             ⟨some 6, .mv (.t 10), none⟩] [0, 5, 6])))))))
     (.cnd (.t 6)
      (.seq
       (.reg [
         ⟨some 4, .mv (.c (.int .i64 30)), none⟩] [4])
       .ret)
      (.seq
       (.reg [
         ⟨some 12, .bin .eql (some .int) (.t 5) (.c (.int .i64 2)), none⟩,
         ⟨some 11, .mv (.t 12), none⟩] [0, 11])
       (.cnd (.t 11)
        (.seq
         (.seq
          (.reg [
            ⟨some 13, .mv (.t 0), none⟩,
            ⟨some 14, .bin .rem none (.t 13) (.c (.int .i64 4)), none⟩,
            ⟨some 15, .bin .eql (some .int) (.t 14) (.c (.int .i64 0)), none⟩,
            ⟨some 16, .mv (.t 15), none⟩,
            ⟨some 17, .mv (.t 0), some (16, true)⟩,
            ⟨some 18, .bin .rem none (.t 17) (.c (.int .i64 100)), some (16, true)⟩,
            ⟨some 19, .bin .neq (some .int) (.t 18) (.c (.int .i64 0)), some (16, true)⟩,
            ⟨some 20, .mv (.t 19), some (16, true)⟩,
            ⟨some 21, .mv (.t 0), some (20, false)⟩,
            ⟨some 22, .bin .rem none (.t 21) (.c (.int .i64 400)), some (20, false)⟩,
            ⟨some 23, .bin .eql (some .int) (.t 22) (.c (.int .i64 0)), some (20, false)⟩,
            ⟨some 24, .pick (.t 20) (.c (.bool true)) (.t 23), some (16, true)⟩,
            ⟨some 25, .pick (.t 16) (.t 24) (.c (.bool false)), none⟩] [25])
          (.cnd (.t 25)
           (.seq
            (.reg [
              ⟨some 4, .mv (.c (.int .i64 29)), none⟩] [4])
            .ret)
           .skip))
         (.seq
          (.reg [
            ⟨some 4, .mv (.c (.int .i64 28)), none⟩] [4])
          .ret))
        .skip))))))
  (.seq
   (.reg [
     ⟨some 4, .mv (.c (.int .i64 31)), none⟩] [4])
   .ret))),
[.tmp 4]⟩
theorem F104_ok : prepF Go.Proofs.Tryz.prog ⟨[], [(0, [0, 1]), (1, [0, 5]), (2, [0, 5, 6]), (3, [0, 5, 6]), (4, [0, 5, 6]), (5, [0, 5, 6]), (6, [4]), (7, [0, 11]), (8, [25]), (9, [4]), (10, [4]), (11, [4])], []⟩ Go.Proofs.Tryz.f104 = some F104 := by kernel_rfl
/-- strings.Trim -/
def F105 : DF := ⟨2,
(.seq
 (.reg [
   ⟨some 4, .mv (.c (.str [])), none⟩] [0, 1])
 (.seq
  (.seq
   (.reg [
     ⟨some 7, .mv (.t 0), none⟩,
     ⟨some 8, .bin .eql (some .str) (.t 7) (.c (.str [])), none⟩,
     ⟨some 9, .mv (.t 8), none⟩,
     ⟨some 10, .mv (.t 1), some (9, false)⟩,
     ⟨some 11, .bin .eql (some .str) (.t 10) (.c (.str [])), some (9, false)⟩,
     ⟨some 12, .pick (.t 9) (.c (.bool true)) (.t 11), none⟩] [0, 1, 12])
   (.cnd (.t 12)
    (.seq
     (.reg [
       ⟨some 13, .mv (.t 0), none⟩,
       ⟨some 4, .mv (.t 13), none⟩] [4])
     .ret)
    .skip))
  (.seq
   (.seq
    (.reg [
      ⟨some 14, .mv (.t 1), none⟩,
      ⟨some 15, .lenS (.t 14), none⟩,
      ⟨some 16, .bin .eql (some .int) (.t 15) (.c (.int .i64 1)), none⟩,
      ⟨some 17, .mv (.t 16), none⟩,
      ⟨some 18, .mv (.t 1), some (17, true)⟩,
      ⟨some 19, .ixS (.t 18) (.c (.int .i64 0)), some (17, true)⟩,
      ⟨some 20, .bin .lss none (.t 19) (.c (.int .u8 128)), some (17, true)⟩,
      ⟨some 21, .pick (.t 17) (.t 20) (.c (.bool false)), none⟩] [0, 1, 21])
    (.cnd (.t 21)
     (.seq
      (.drw [
        (⟨some 22, .mv (.t 0), none⟩, none),
        (⟨some 23, .mv (.t 1), none⟩, none),
        (⟨some 24, .ixS (.t 23) (.c (.int .i64 0)), none⟩, none),
        (⟨some 26, .mv (.t 1), none⟩, none),
        (⟨some 27, .ixS (.t 26) (.c (.int .i64 0)), none⟩, none),
        (⟨some 25, .call 126 [(.t 22), (.t 24)], none⟩, none),
        (⟨some 28, .call 122 [(.t 25), (.t 27)], none⟩, none),
        (⟨some 4, .mv (.t 28), none⟩, none)] [4])
      .ret)
     .skip))
   (.seq
    (.seq
     (.reg [
       ⟨some 30, .mv (.t 1), none⟩,
       ⟨some 31, .call 123 [(.t 30)], none⟩,
       ⟨some 29, .mv (.t 31), none⟩,
       ⟨some 32, .ext (.t 29) 0, none⟩,
       ⟨some 33, .ext (.t 29) 1, none⟩,
       ⟨some 5, .alH 141 [(.bool false), (.bool false), (.bool false), (.bool false), (.bool false), (.bool false), (.bool false), (.bool false), (.bool false), (.bool false), (.bool false), (.bool false), (.bool false), (.bool false), (.bool false), (.bool false), (.bool false), (.bool false), (.bool false), (.bool false), (.bool false), (.bool false), (.bool false), (.bool false), (.bool false), (.bool false), (.bool false), (.bool false), (.bool false), (.bool false), (.bool false), (.bool false), (.bool false), (.bool false), (.bool false), (.bool false), (.bool false), (.bool false), (.bool false), (.bool false), (.bool false), (.bool false), (.bool false), (.bool false), (.bool false), (.bool false), (.bool false), (.bool false), (.bool false), (.bool false), (.bool false), (.bool false), (.bool false), (.bool false), (.bool false), (.bool false), (.bool false), (.bool false), (.bool false), (.bool false), (.bool false), (.bool false), (.bool false), (.bool false), (.bool false), (.bool false), (.bool false), (.bool false), (.bool false), (.bool false), (.bool false), (.bool false), (.bool false), (.bool false), (.bool false), (.bool false), (.bool false), (.bool false), (.bool false), (.bool false), (.bool false), (.bool false), (.bool false), (.bool false), (.bool false), (.bool false), (.bool false), (.bool false), (.bool false), (.bool false), (.bool false), (.bool false), (.bool false), (.bool false), (.bool false), (.bool false), (.bool false), (.bool false), (.bool false), (.bool false), (.bool false), (.bool false), (.bool false), (.bool false), (.bool false), (.bool false), (.bool false), (.bool false), (.bool false), (.bool false), (.bool false), (.bool false), (.bool false), (.bool false), (.bool false), (.bool false), (.bool false), (.bool false), (.bool false), (.bool false), (.bool false), (.bool false), (.bool false), (.bool false), (.bool false), (.bool false), (.bool false), (.bool false), (.bool false), (.bool false), (.bool false), (.bool false), (.bool false), (.bool false), (.bool false), (.bool false), (.bool false), (.bool false), (.bool false), (.bool false), (.bool false), (.bool false), (.bool false), (.bool false), (.bool false), (.bool false), (.bool false), (.bool false), (.bool false), (.bool false), (.bool false), (.bool false), (.bool false), (.bool false), (.bool false), (.bool false), (.bool false), (.bool false), (.bool false), (.bool false), (.bool false), (.bool false), (.bool false), (.bool false), (.bool false), (.bool false), (.bool false), (.bool false), (.bool false), (.bool false), (.bool false), (.bool false), (.bool false), (.bool false), (.bool false), (.bool false), (.bool false), (.bool false), (.bool false), (.bool false), (.bool false), (.bool false), (.bool false), (.bool false), (.bool false), (.bool false), (.bool false), (.bool false), (.bool false), (.bool false), (.bool false), (.bool false), (.bool false), (.bool false), (.bool false), (.bool false), (.bool false), (.bool false), (.bool false), (.bool false), (.bool false), (.bool false), (.bool false), (.bool false), (.bool false), (.bool false), (.bool false), (.bool false), (.bool false), (.bool false), (.bool false), (.bool false), (.bool false), (.bool false), (.bool false), (.bool false), (.bool false), (.bool false), (.bool false), (.bool false), (.bool false), (.bool false), (.bool false), (.bool false), (.bool false), (.bool false), (.bool false), (.bool false), (.bool false), (.bool false), (.bool false), (.bool false), (.bool false), (.bool false), (.bool false), (.bool false), (.bool false), (.bool false), (.bool false), (.bool false), (.bool false), (.bool false), (.bool false), (.bool false), (.bool false), (.bool false), (.bool false), (.bool false), (.bool false), (.bool false), (.bool false), (.bool false), (.bool false), (.bool false), (.bool false), (.bool false)], none⟩,
       ⟨none, .st 256 (.t 5) (.t 32), none⟩,
       ⟨some 6, .mv (.t 33), none⟩] [0, 1, 5, 6])
     (.seq
      (.reg [
        ⟨some 34, .mv (.t 6), none⟩] [0, 1, 5, 34])
      (.cnd (.t 34)
       (.seq
        (.reg [
          ⟨some 35, .mv (.t 0), none⟩,
          ⟨some 36, .call 127 [(.t 35), (.t 5)], none⟩,
          ⟨some 37, .call 124 [(.t 36), (.t 5)], none⟩,
          ⟨some 4, .mv (.t 37), none⟩] [4])
        .ret)
       .skip)))
    (.seq
     (.reg [
       ⟨some 38, .mv (.t 0), none⟩,
       ⟨some 39, .mv (.t 1), none⟩,
       ⟨some 40, .call 128 [(.t 38), (.t 39)], none⟩,
       ⟨some 41, .mv (.t 1), none⟩,
       ⟨some 42, .call 125 [(.t 40), (.t 41)], none⟩,
       ⟨some 4, .mv (.t 42), none⟩] [4])
     .ret))))),
[.tmp 4]⟩
theorem F105_ok : prepF Go.Proofs.Tryz.prog ⟨[], [(0, [0, 1]), (1, [0, 1, 12]), (2, [4]), (3, [0, 1, 21]), (4, [4]), (5, [0, 1, 5, 6]), (6, [0, 1, 5, 34]), (7, [4]), (8, [4])], []⟩ Go.Proofs.Tryz.f105 = some F105 := by kernel_rfl
/-- strings.HasSuffix -/
def F106 : DF := ⟨2,
(.seq
 (.reg [
   ⟨some 4, .mv (.c (.bool false)), none⟩] [0, 1])
 (.seq
  (.reg [
    ⟨some 5, .mv (.t 0), none⟩,
    ⟨some 6, .mv (.t 1), none⟩,
    ⟨some 7, .call 131 [(.t 5), (.t 6)], none⟩,
    ⟨some 4, .mv (.t 7), none⟩] [4])
  .ret)),
[.tmp 4]⟩
theorem F106_ok : prepF Go.Proofs.Tryz.prog ⟨[], [(0, [0, 1]), (1, [4])], []⟩ Go.Proofs.Tryz.f106 = some F106 := by kernel_rfl
/-- internal/stringslite.Cut -/
def F107 : DF := ⟨2,
(.seq
 (.reg [
   ⟨some 4, .mv (.c (.str [])), none⟩,
   ⟨some 5, .mv (.c (.str [])), none⟩,
   ⟨some 6, .mv (.c (.bool false)), none⟩] [0, 1])
 (.seq
  (.seq
   (.reg [
     ⟨some 8, .mv (.t 0), none⟩,
     ⟨some 9, .mv (.t 1), none⟩,
     ⟨some 10, .call 132 [(.t 8), (.t 9)], none⟩,
     ⟨some 7, .mv (.t 10), none⟩] [0, 1, 7])
   (.seq
    (.reg [
      ⟨some 11, .mv (.t 7), none⟩,
      ⟨some 12, .bin .geq none (.t 11) (.c (.int .i64 0)), none⟩] [0, 1, 7, 12])
    (.cnd (.t 12)
     (.seq
      (.drw [
        (⟨some 13, .mv (.t 0), none⟩, none),
        (⟨some 14, .mv (.t 7), none⟩, none),
        (⟨some 15, .slS (.t 13) none (some (.t 14)), none⟩, none),
        (⟨some 16, .mv (.t 0), none⟩, none),
        (⟨some 17, .mv (.t 7), none⟩, none),
        (⟨some 18, .mv (.t 1), none⟩, none),
        (⟨some 19, .lenS (.t 18), none⟩, none),
        (⟨some 20, .bin .add none (.t 17) (.t 19), none⟩, none),
        (⟨some 21, .slS (.t 16) (some (.t 20)) none, none⟩, none),
        (⟨some 4, .mv (.t 15), none⟩, none),
        (⟨some 5, .mv (.t 21), none⟩, none),
        (⟨some 6, .mv (.c (.bool true)), none⟩, none)] [4, 5, 6])
      .ret)
     .skip)))
  (.seq
   (.reg [
     ⟨some 22, .mv (.t 0), none⟩,
     ⟨some 4, .mv (.t 22), none⟩,
     ⟨some 5, .mv (.c (.str [])), none⟩,
     ⟨some 6, .mv (.c (.bool false)), none⟩] [4, 5, 6])
   .ret))),
[.tmp 4, .tmp 5, .tmp 6]⟩
theorem F107_ok : prepF Go.Proofs.Tryz.prog ⟨[], [(0, [0, 1]), (1, [0, 1, 7]), (2, [0, 1, 7, 12]), (3, [4, 5, 6]), (4, [4, 5, 6])], []⟩ Go.Proofs.Tryz.f107 = some F107 := by kernel_rfl
/-- slices.insertionSortCmpFunc[int] -/
def F108 : DF := ⟨4,
(.seq
 (.reg [
   ⟨some 10, .mv (.t 1), none⟩,
   ⟨some 11, .bin .add none (.t 10) (.c (.int .i64 1)), none⟩,
   ⟨some 8, .mv (.t 11), none⟩] [0, 1, 2, 3, 8])
 (.blk 0
  (.seq
   (.trim [0, 1, 2, 3, 8])
   (.lop
    (.seq
     (.seq
      (.seq
       (.reg [
         ⟨some 12, .mv (.t 8), none⟩,
         ⟨some 13, .mv (.t 2), none⟩,
         ⟨some 14, .bin .lss none (.t 12) (.t 13), none⟩] [0, 1, 2, 3, 8, 14])
       (.cnd (.t 14)
        .skip
        (.exit 0)))
      (.seq
       (.blk 1
        (.seq
         (.reg [
           ⟨some 17, .mv (.t 8), none⟩,
           ⟨some 9, .mv (.t 17), none⟩] [0, 1, 2, 3, 8, 9])
         (.blk 2
          (.seq
           (.trim [0, 1, 2, 3, 8, 9])
           (.lop
            (.seq
             (.seq
              (.seq
               (.drw [
                 (⟨some 18, .mv (.t 9), none⟩, none),
                 (⟨some 19, .mv (.t 1), none⟩, none),
                 (⟨some 20, .bin .gtr none (.t 18) (.t 19), none⟩, none),
                 (⟨some 21, .mv (.t 20), none⟩, none),
                 (⟨some 22, .mv (.t 3), some (21, true)⟩, none),
                 (⟨some 23, .mv (.t 0), some (21, true)⟩, none),
                 (⟨some 24, .mv (.t 9), some (21, true)⟩, none),
                 (⟨some 25, .ia 1 (.t 23) (.t 24), some (21, true)⟩, none),
                 (⟨some 26, .ld false 1 (.t 25), some (21, true)⟩, none),
                 (⟨some 27, .mv (.t 0), some (21, true)⟩, none),
                 (⟨some 28, .mv (.t 9), some (21, true)⟩, none),
                 (⟨some 29, .bin .sub none (.t 28) (.c (.int .i64 1)), some (21, true)⟩, none),
                 (⟨some 30, .ia 1 (.t 27) (.t 29), some (21, true)⟩, none),
                 (⟨some 31, .ld false 1 (.t 30), some (21, true)⟩, none),
                 (⟨some 32, .callv (.t 22) [(.t 26), (.t 31)], some (21, true)⟩, none),
                 (⟨some 33, .bin .lss none (.t 32) (.c (.int .i64 0)), some (21, true)⟩, none),
                 (⟨some 34, .pick (.t 21) (.t 33) (.c (.bool false)), none⟩, none)] [0, 1, 2, 3, 8, 9, 34])
               (.cnd (.t 34)
                .skip
                (.exit 2)))
              (.seq
               (.blk 3
                (.drw [
                  (⟨some 37, .mv (.t 0), none⟩, none),
                  (⟨some 38, .mv (.t 9), none⟩, none),
                  (⟨some 39, .mv (.t 0), none⟩, none),
                  (⟨some 40, .mv (.t 9), none⟩, none),
                  (⟨some 41, .bin .sub none (.t 40) (.c (.int .i64 1)), none⟩, none),
                  (⟨some 42, .mv (.t 0), none⟩, none),
                  (⟨some 43, .mv (.t 9), none⟩, none),
                  (⟨some 44, .bin .sub none (.t 43) (.c (.int .i64 1)), none⟩, none),
                  (⟨some 45, .ia 1 (.t 42) (.t 44), none⟩, none),
                  (⟨some 46, .ld false 1 (.t 45), none⟩, none),
                  (⟨some 47, .mv (.t 0), none⟩, none),
                  (⟨some 48, .mv (.t 9), none⟩, none),
                  (⟨some 49, .ia 1 (.t 47) (.t 48), none⟩, none),
                  (⟨some 50, .ld false 1 (.t 49), none⟩, none),
                  (⟨some 51, .ia 1 (.t 37) (.t 38), none⟩, none),
                  (⟨none, .st 1 (.t 51) (.t 46), none⟩, none),
                  (⟨some 52, .ia 1 (.t 39) (.t 41), none⟩, none),
                  (⟨none, .st 1 (.t 52) (.t 50), none⟩, none)] [0, 1, 2, 3, 8, 9]))
               (.reg [
                 ⟨some 35, .mv (.t 9), none⟩,
                 ⟨some 36, .bin .sub none (.t 35) (.c (.int .i64 1)), none⟩,
                 ⟨some 9, .mv (.t 36), none⟩] [0, 1, 2, 3, 8, 9])))
             (.trim [0, 1, 2, 3, 8, 9])))))))
       (.reg [
         ⟨some 15, .mv (.t 8), none⟩,
         ⟨some 16, .bin .add none (.t 15) (.c (.int .i64 1)), none⟩,
         ⟨some 8, .mv (.t 16), none⟩] [0, 1, 2, 3, 8])))
     (.trim [0, 1, 2, 3, 8])))))),
[]⟩
theorem F108_ok : prepF Go.Proofs.Tryz.prog ⟨[], [(0, [0, 1, 2, 3, 8]), (1, [0, 1, 2, 3, 8, 14]), (2, [0, 1, 2, 3, 8]), (3, [0, 1, 2, 3, 8, 9]), (4, [0, 1, 2, 3, 8, 9, 34]), (5, [0, 1, 2, 3, 8, 9]), (6, [0, 1, 2, 3, 8, 9]), (1000000, [0, 1, 2, 3, 8]), (1000002, [0, 1, 2, 3, 8, 9])], []⟩ Go.Proofs.Tryz.f108 = some F108 := by kernel_rfl
/-- slices.symMergeCmpFunc[int] -/
def F109 : DF := ⟨5,
(.seq
 (.seq
  (.reg [
    ⟨some 25, .mv (.t 2), none⟩,
    ⟨some 26, .mv (.t 1), none⟩,
    ⟨some 27, .bin .sub none (.t 25) (.t 26), none⟩,
    ⟨some 28, .bin .eql (some .int) (.t 27) (.c (.int .i64 1)), none⟩] [0, 1, 2, 3, 4, 28])
  (.cnd (.t 28)
   (.seq
    (.reg [
      ⟨some 29, .mv (.t 2), none⟩,
      ⟨some 10, .mv (.t 29), none⟩] [0, 1, 3, 4, 10])
    (.seq
     (.reg [
       ⟨some 30, .mv (.t 3), none⟩,
       ⟨some 11, .mv (.t 30), none⟩] [0, 1, 4, 10, 11])
     (.seq
      (.blk 0
       (.seq
        (.trim [0, 1, 4, 10, 11])
        (.lop
         (.seq
          (.seq
           (.seq
            (.reg [
              ⟨some 31, .mv (.t 10), none⟩,
              ⟨some 32, .mv (.t 11), none⟩,
              ⟨some 33, .bin .lss none (.t 31) (.t 32), none⟩] [0, 1, 4, 10, 11, 33])
            (.cnd (.t 33)
             .skip
             (.exit 0)))
           (.blk 1
            (.seq
             (.reg [
               ⟨some 34, .mv (.t 10), none⟩,
               ⟨some 35, .mv (.t 11), none⟩,
               ⟨some 36, .bin .add none (.t 34) (.t 35), none⟩,
               ⟨some 37, .cvI .u64 (.t 36), none⟩,
               ⟨some 38, .bin .shr none (.t 37) (.c (.int .u64 1)), none⟩,
               ⟨some 39, .cvI .i64 (.t 38), none⟩,
               ⟨some 12, .mv (.t 39), none⟩] [0, 1, 4, 10, 11, 12])
             (.seq
              (.drw [
                (⟨some 40, .mv (.t 4), none⟩, none),
                (⟨some 41, .mv (.t 0), none⟩, none),
                (⟨some 42, .mv (.t 12), none⟩, none),
                (⟨some 43, .ia 1 (.t 41) (.t 42), none⟩, none),
                (⟨some 44, .ld false 1 (.t 43), none⟩, none),
                (⟨some 45, .mv (.t 0), none⟩, none),
                (⟨some 46, .mv (.t 1), none⟩, none),
                (⟨some 47, .ia 1 (.t 45) (.t 46), none⟩, none),
                (⟨some 48, .ld false 1 (.t 47), none⟩, none),
                (⟨some 49, .callv (.t 40) [(.t 44), (.t 48)], none⟩, none),
                (⟨some 50, .bin .lss none (.t 49) (.c (.int .i64 0)), none⟩, none)] [0, 1, 4, 10, 11, 12, 50])
              (.cnd (.t 50)
               (.reg [
                 ⟨some 51, .mv (.t 12), none⟩,
                 ⟨some 52, .bin .add none (.t 51) (.c (.int .i64 1)), none⟩,
                 ⟨some 10, .mv (.t 52), none⟩] [0, 1, 4, 10, 11])
               (.reg [
                 ⟨some 53, .mv (.t 12), none⟩,
                 ⟨some 11, .mv (.t 53), none⟩] [0, 1, 4, 10, 11]))))))
          (.trim [0, 1, 4, 10, 11])))))
      (.seq
       (.seq
        (.reg [
          ⟨some 54, .mv (.t 1), none⟩,
          ⟨some 13, .mv (.t 54), none⟩] [0, 10, 13])
        (.blk 2
         (.seq
          (.trim [0, 10, 13])
          (.lop
           (.seq
            (.seq
             (.seq
              (.reg [
                ⟨some 55, .mv (.t 13), none⟩,
                ⟨some 56, .mv (.t 10), none⟩,
                ⟨some 57, .bin .sub none (.t 56) (.c (.int .i64 1)), none⟩,
                ⟨some 58, .bin .lss none (.t 55) (.t 57), none⟩] [0, 10, 13, 58])
              (.cnd (.t 58)
               .skip
               (.exit 2)))
             (.seq
              (.blk 3
               (.drw [
                 (⟨some 61, .mv (.t 0), none⟩, none),
                 (⟨some 62, .mv (.t 13), none⟩, none),
                 (⟨some 63, .mv (.t 0), none⟩, none),
                 (⟨some 64, .mv (.t 13), none⟩, none),
                 (⟨some 65, .bin .add none (.t 64) (.c (.int .i64 1)), none⟩, none),
                 (⟨some 66, .mv (.t 0), none⟩, none),
                 (⟨some 67, .mv (.t 13), none⟩, none),
                 (⟨some 68, .bin .add none (.t 67) (.c (.int .i64 1)), none⟩, none),
                 (⟨some 69, .ia 1 (.t 66) (.t 68), none⟩, none),
                 (⟨some 70, .ld false 1 (.t 69), none⟩, none),
                 (⟨some 71, .mv (.t 0), none⟩, none),
                 (⟨some 72, .mv (.t 13), none⟩, none),
                 (⟨some 73, .ia 1 (.t 71) (.t 72), none⟩, none),
                 (⟨some 74, .ld false 1 (.t 73), none⟩, none),
                 (⟨some 75, .ia 1 (.t 61) (.t 62), none⟩, none),
                 (⟨none, .st 1 (.t 75) (.t 70), none⟩, none),
                 (⟨some 76, .ia 1 (.t 63) (.t 65), none⟩, none),
                 (⟨none, .st 1 (.t 76) (.t 74), none⟩, none)] [0, 10, 13]))
              (.reg [
                ⟨some 59, .mv (.t 13), none⟩,
                ⟨some 60, .bin .add none (.t 59) (.c (.int .i64 1)), none⟩,
                ⟨some 13, .mv (.t 60), none⟩] [0, 10, 13])))
            (.trim [0, 10, 13]))))))
       .ret))))
   .skip))
 (.seq
  (.seq
   (.reg [
     ⟨some 77, .mv (.t 3), none⟩,
     ⟨some 78, .mv (.t 2), none⟩,
     ⟨some 79, .bin .sub none (.t 77) (.t 78), none⟩,
     ⟨some 80, .bin .eql (some .int) (.t 79) (.c (.int .i64 1)), none⟩] [0, 1, 2, 3, 4, 80])
   (.cnd (.t 80)
    (.seq
     (.reg [
       ⟨some 81, .mv (.t 1), none⟩,
       ⟨some 14, .mv (.t 81), none⟩] [0, 2, 4, 14])
     (.seq
      (.reg [
        ⟨some 82, .mv (.t 2), none⟩,
        ⟨some 15, .mv (.t 82), none⟩] [0, 2, 4, 14, 15])
      (.seq
       (.blk 4
        (.seq
         (.trim [0, 2, 4, 14, 15])
         (.lop
          (.seq
           (.seq
            (.seq
             (.reg [
               ⟨some 83, .mv (.t 14), none⟩,
               ⟨some 84, .mv (.t 15), none⟩,
               ⟨some 85, .bin .lss none (.t 83) (.t 84), none⟩] [0, 2, 4, 14, 15, 85])
             (.cnd (.t 85)
              .skip
              (.exit 4)))
            (.blk 5
             (.seq
              (.reg [
                ⟨some 86, .mv (.t 14), none⟩,
                ⟨some 87, .mv (.t 15), none⟩,
                ⟨some 88, .bin .add none (.t 86) (.t 87), none⟩,
                ⟨some 89, .cvI .u64 (.t 88), none⟩,
                ⟨some 90, .bin .shr none (.t 89) (.c (.int .u64 1)), none⟩,
                ⟨some 91, .cvI .i64 (.t 90), none⟩,
                ⟨some 16, .mv (.t 91), none⟩] [0, 2, 4, 14, 15, 16])
              (.seq
               (.drw [
                 (⟨some 92, .mv (.t 4), none⟩, none),
                 (⟨some 93, .mv (.t 0), none⟩, none),
                 (⟨some 94, .mv (.t 2), none⟩, none),
                 (⟨some 95, .ia 1 (.t 93) (.t 94), none⟩, none),
                 (⟨some 96, .ld false 1 (.t 95), none⟩, none),
                 (⟨some 97, .mv (.t 0), none⟩, none),
                 (⟨some 98, .mv (.t 16), none⟩, none),
                 (⟨some 99, .ia 1 (.t 97) (.t 98), none⟩, none),
                 (⟨some 100, .ld false 1 (.t 99), none⟩, none),
                 (⟨some 101, .callv (.t 92) [(.t 96), (.t 100)], none⟩, none),
                 (⟨some 102, .bin .lss none (.t 101) (.c (.int .i64 0)), none⟩, none),
                 (⟨some 103, .un .not (.t 102), none⟩, none)] [0, 2, 4, 14, 15, 16, 103])
               (.cnd (.t 103)
                (.reg [
                  ⟨some 104, .mv (.t 16), none⟩,
                  ⟨some 105, .bin .add none (.t 104) (.c (.int .i64 1)), none⟩,
                  ⟨some 14, .mv (.t 105), none⟩] [0, 2, 4, 14, 15])
                (.reg [
                  ⟨some 106, .mv (.t 16), none⟩,
                  ⟨some 15, .mv (.t 106), none⟩] [0, 2, 4, 14, 15]))))))
           (.trim [0, 2, 4, 14, 15])))))
       (.seq
        (.seq
         (.reg [
           ⟨some 107, .mv (.t 2), none⟩,
           ⟨some 17, .mv (.t 107), none⟩] [0, 14, 17])
         (.blk 6
          (.seq
           (.trim [0, 14, 17])
           (.lop
            (.seq
             (.seq
              (.seq
               (.reg [
                 ⟨some 108, .mv (.t 17), none⟩,
                 ⟨some 109, .mv (.t 14), none⟩,
                 ⟨some 110, .bin .gtr none (.t 108) (.t 109), none⟩] [0, 14, 17, 110])
               (.cnd (.t 110)
                .skip
                (.exit 6)))
              (.seq
               (.blk 7
                (.drw [
                  (⟨some 113, .mv (.t 0), none⟩, none),
                  (⟨some 114, .mv (.t 17), none⟩, none),
                  (⟨some 115, .mv (.t 0), none⟩, none),
                  (⟨some 116, .mv (.t 17), none⟩, none),
                  (⟨some 117, .bin .sub none (.t 116) (.c (.int .i64 1)), none⟩, none),
                  (⟨some 118, .mv (.t 0), none⟩, none),
                  (⟨some 119, .mv (.t 17), none⟩, none),
                  (⟨some 120, .bin .sub none (.t 119) (.c (.int .i64 1)), none⟩, none),
                  (⟨some 121, .ia 1 (.t 118) (.t 120), none⟩, none),
                  (⟨some 122, .ld false 1 (.t 121), none⟩, none),
                  (⟨some 123, .mv (.t 0), none⟩, none),
                  (⟨some 124, .mv (.t 17), none⟩, none),
                  (⟨some 125, .ia 1 (.t 123) (.t 124), none⟩, none),
                  (⟨some 126, .ld false 1 (.t 125), none⟩, none),
                  (⟨some 127, .ia 1 (.t 113) (.t 114), none⟩, none),
                  (⟨none, .st 1 (.t 127) (.t 122), none⟩, none),
                  (⟨some 128, .ia 1 (.t 115) (.t 117), none⟩, none),
                  (⟨none, .st 1 (.t 128) (.t 126), none⟩, none)] [0, 14, 17]))
               (.reg [
                 ⟨some 111, .mv (.t 17), none⟩,
                 ⟨some 112, .bin .sub none (.t 111) (.c (.int .i64 1)), none⟩,
                 ⟨some 17, .mv (.t 112), none⟩] [0, 14, 17])))
             (.trim [0, 14, 17]))))))
        .ret))))
    .skip))
  (.seq
   (.reg [
     ⟨some 129, .mv (.t 1), none⟩,
     ⟨some 130, .mv (.t 3), none⟩,
     ⟨some 131, .bin .add none (.t 129) (.t 130), none⟩,
     ⟨some 132, .cvI .u64 (.t 131), none⟩,
     ⟨some 133, .bin .shr none (.t 132) (.c (.int .u64 1)), none⟩,
     ⟨some 134, .cvI .i64 (.t 133), none⟩,
     ⟨some 18, .mv (.t 134), none⟩] [0, 1, 2, 3, 4, 18])
   (.seq
    (.reg [
      ⟨some 135, .mv (.t 18), none⟩,
      ⟨some 136, .mv (.t 2), none⟩,
      ⟨some 137, .bin .add none (.t 135) (.t 136), none⟩,
      ⟨some 19, .mv (.t 137), none⟩] [0, 1, 2, 3, 4, 18, 19])
    (.seq
     (.reg [
       ⟨some 20, .mv (.c (.int .i64 0)), none⟩,
       ⟨some 21, .mv (.c (.int .i64 0)), none⟩] [0, 1, 2, 3, 4, 18, 19])
     (.seq
      (.seq
       (.reg [
         ⟨some 138, .mv (.t 2), none⟩,
         ⟨some 139, .mv (.t 18), none⟩,
         ⟨some 140, .bin .gtr none (.t 138) (.t 139), none⟩] [0, 1, 2, 3, 4, 18, 19, 140])
       (.cnd (.t 140)
        (.seq
         (.reg [
           ⟨some 141, .mv (.t 19), none⟩,
           ⟨some 142, .mv (.t 3), none⟩,
           ⟨some 143, .bin .sub none (.t 141) (.t 142), none⟩,
           ⟨some 20, .mv (.t 143), none⟩] [0, 1, 2, 3, 4, 18, 19, 20])
         (.reg [
           ⟨some 144, .mv (.t 18), none⟩,
           ⟨some 21, .mv (.t 144), none⟩] [0, 1, 2, 3, 4, 18, 19, 20, 21]))
        (.seq
         (.reg [
           ⟨some 145, .mv (.t 1), none⟩,
           ⟨some 20, .mv (.t 145), none⟩] [0, 1, 2, 3, 4, 18, 19, 20])
         (.reg [
           ⟨some 146, .mv (.t 2), none⟩,
           ⟨some 21, .mv (.t 146), none⟩] [0, 1, 2, 3, 4, 18, 19, 20, 21]))))
      (.seq
       (.reg [
         ⟨some 147, .mv (.t 19), none⟩,
         ⟨some 148, .bin .sub none (.t 147) (.c (.int .i64 1)), none⟩,
         ⟨some 22, .mv (.t 148), none⟩] [0, 1, 2, 3, 4, 18, 19, 20, 21, 22])
       (.seq
        (.blk 8
         (.seq
          (.trim [0, 1, 2, 3, 4, 18, 19, 20, 21, 22])
          (.lop
           (.seq
            (.seq
             (.seq
              (.reg [
                ⟨some 149, .mv (.t 20), none⟩,
                ⟨some 150, .mv (.t 21), none⟩,
                ⟨some 151, .bin .lss none (.t 149) (.t 150), none⟩] [0, 1, 2, 3, 4, 18, 19, 20, 21, 22, 151])
              (.cnd (.t 151)
               .skip
               (.exit 8)))
             (.blk 9
              (.seq
               (.reg [
                 ⟨some 152, .mv (.t 20), none⟩,
                 ⟨some 153, .mv (.t 21), none⟩,
                 ⟨some 154, .bin .add none (.t 152) (.t 153), none⟩,
                 ⟨some 155, .cvI .u64 (.t 154), none⟩,
                 ⟨some 156, .bin .shr none (.t 155) (.c (.int .u64 1)), none⟩,
                 ⟨some 157, .cvI .i64 (.t 156), none⟩,
                 ⟨some 23, .mv (.t 157), none⟩] [0, 1, 2, 3, 4, 18, 19, 20, 21, 22, 23])
               (.seq
                (.drw [
                  (⟨some 158, .mv (.t 4), none⟩, none),
                  (⟨some 159, .mv (.t 0), none⟩, none),
                  (⟨some 160, .mv (.t 22), none⟩, none),
                  (⟨some 161, .mv (.t 23), none⟩, none),
                  (⟨some 162, .bin .sub none (.t 160) (.t 161), none⟩, none),
                  (⟨some 163, .ia 1 (.t 159) (.t 162), none⟩, none),
                  (⟨some 164, .ld false 1 (.t 163), none⟩, none),
                  (⟨some 165, .mv (.t 0), none⟩, none),
                  (⟨some 166, .mv (.t 23), none⟩, none),
                  (⟨some 167, .ia 1 (.t 165) (.t 166), none⟩, none),
                  (⟨some 168, .ld false 1 (.t 167), none⟩, none),
                  (⟨some 169, .callv (.t 158) [(.t 164), (.t 168)], none⟩, none),
                  (⟨some 170, .bin .lss none (.t 169) (.c (.int .i64 0)), none⟩, none),
                  (⟨some 171, .un .not (.t 170), none⟩, none)] [0, 1, 2, 3, 4, 18, 19, 20, 21, 22, 23, 171])
                (.cnd (.t 171)
                 (.reg [
                   ⟨some 172, .mv (.t 23), none⟩,
                   ⟨some 173, .bin .add none (.t 172) (.c (.int .i64 1)), none⟩,
                   ⟨some 20, .mv (.t 173), none⟩] [0, 1, 2, 3, 4, 18, 19, 20, 21, 22])
                 (.reg [
                   ⟨some 174, .mv (.t 23), none⟩,
                   ⟨some 21, .mv (.t 174), none⟩] [0, 1, 2, 3, 4, 18, 19, 20, 21, 22]))))))
            (.trim [0, 1, 2, 3, 4, 18, 19, 20, 21, 22])))))
        (.seq
         (.reg [
           ⟨some 175, .mv (.t 19), none⟩,
           ⟨some 176, .mv (.t 20), none⟩,
           ⟨some 177, .bin .sub none (.t 175) (.t 176), none⟩,
           ⟨some 24, .mv (.t 177), none⟩] [0, 1, 2, 3, 4, 18, 20, 24])
         (.seq
          (.seq
           (.reg [
             ⟨some 178, .mv (.t 20), none⟩,
             ⟨some 179, .mv (.t 2), none⟩,
             ⟨some 180, .bin .lss none (.t 178) (.t 179), none⟩,
             ⟨some 181, .mv (.t 180), none⟩,
             ⟨some 182, .mv (.t 2), some (181, true)⟩,
             ⟨some 183, .mv (.t 24), some (181, true)⟩,
             ⟨some 184, .bin .lss none (.t 182) (.t 183), some (181, true)⟩,
             ⟨some 185, .pick (.t 181) (.t 184) (.c (.bool false)), none⟩] [0, 1, 2, 3, 4, 18, 20, 24, 185])
           (.cnd (.t 185)
            (.reg [
              ⟨some 186, .mv (.t 0), none⟩,
              ⟨some 187, .mv (.t 20), none⟩,
              ⟨some 188, .mv (.t 2), none⟩,
              ⟨some 189, .mv (.t 24), none⟩,
              ⟨some 190, .mv (.t 4), none⟩,
              ⟨some 191, .call 133 [(.t 186), (.t 187), (.t 188), (.t 189), (.t 190)], none⟩] [0, 1, 3, 4, 18, 20, 24])
            .skip))
          (.seq
           (.seq
            (.reg [
              ⟨some 192, .mv (.t 1), none⟩,
              ⟨some 193, .mv (.t 20), none⟩,
              ⟨some 194, .bin .lss none (.t 192) (.t 193), none⟩,
              ⟨some 195, .mv (.t 194), none⟩,
              ⟨some 196, .mv (.t 20), some (195, true)⟩,
              ⟨some 197, .mv (.t 18), some (195, true)⟩,
              ⟨some 198, .bin .lss none (.t 196) (.t 197), some (195, true)⟩,
              ⟨some 199, .pick (.t 195) (.t 198) (.c (.bool false)), none⟩] [0, 1, 3, 4, 18, 20, 24, 199])
            (.cnd (.t 199)
             (.reg [
               ⟨some 200, .mv (.t 0), none⟩,
               ⟨some 201, .mv (.t 1), none⟩,
               ⟨some 202, .mv (.t 20), none⟩,
               ⟨some 203, .mv (.t 18), none⟩,
               ⟨some 204, .mv (.t 4), none⟩,
               ⟨some 205, .call 109 [(.t 200), (.t 201), (.t 202), (.t 203), (.t 204)], none⟩] [0, 3, 4, 18, 24])
             .skip))
           (.seq
            (.reg [
              ⟨some 206, .mv (.t 18), none⟩,
              ⟨some 207, .mv (.t 24), none⟩,
              ⟨some 208, .bin .lss none (.t 206) (.t 207), none⟩,
              ⟨some 209, .mv (.t 208), none⟩,
              ⟨some 210, .mv (.t 24), some (209, true)⟩,
              ⟨some 211, .mv (.t 3), some (209, true)⟩,
              ⟨some 212, .bin .lss none (.t 210) (.t 211), some (209, true)⟩,
              ⟨some 213, .pick (.t 209) (.t 212) (.c (.bool false)), none⟩] [0, 3, 4, 18, 24, 213])
            (.cnd (.t 213)
             (.reg [
               ⟨some 214, .mv (.t 0), none⟩,
               ⟨some 215, .mv (.t 18), none⟩,
               ⟨some 216, .mv (.t 24), none⟩,
               ⟨some 217, .mv (.t 3), none⟩,
               ⟨some 218, .mv (.t 4), none⟩,
               ⟨some 219, .call 109 [(.t 214), (.t 215), (.t 216), (.t 217), (.t 218)], none⟩] [])
             .skip))))))))))))),
[]⟩
theorem F109_ok : prepF Go.Proofs.Tryz.prog ⟨[], [(0, [0, 1, 2, 3, 4, 28]), (1, [0, 1, 3, 4, 10]), (2, [0, 1, 4, 10, 11]), (3, [0, 1, 4, 10, 11, 33]), (4, [0, 1, 4, 10, 11, 12]), (5, [0, 1, 4, 10, 11, 12, 50]), (6, [0, 1, 4, 10, 11]), (7, [0, 1, 4, 10, 11]), (8, [0, 10, 13]), (9, [0, 10, 13, 58]), (10, [0, 10, 13]), (11, [0, 10, 13]), (12, [0, 1, 2, 3, 4, 80]), (13, [0, 2, 4, 14]), (14, [0, 2, 4, 14, 15]), (15, [0, 2, 4, 14, 15, 85]), (16, [0, 2, 4, 14, 15, 16]), (17, [0, 2, 4, 14, 15, 16, 103]), (18, [0, 2, 4, 14, 15]), (19, [0, 2, 4, 14, 15]), (20, [0, 14, 17]), (21, [0, 14, 17, 110]), (22, [0, 14, 17]), (23, [0, 14, 17]), (24, [0, 1, 2, 3, 4, 18]), (25, [0, 1, 2, 3, 4, 18, 19]), (26, [0, 1, 2, 3, 4, 18, 19]), (27, [0, 1, 2, 3, 4, 18, 19, 140]), (28, [0, 1, 2, 3, 4, 18, 19, 20]), (29, [0, 1, 2, 3, 4, 18, 19, 20, 21]), (30, [0, 1, 2, 3, 4, 18, 19, 20]), (31, [0, 1, 2, 3, 4, 18, 19, 20, 21]), (32, [0, 1, 2, 3, 4, 18, 19, 20, 21, 22]), (33, [0, 1, 2, 3, 4, 18, 19, 20, 21, 22, 151]), (34, [0, 1, 2, 3, 4, 18, 19, 20, 21, 22, 23]), (35, [0, 1, 2, 3, 4, 18, 19, 20, 21, 22, 23, 171]), (36, [0, 1, 2, 3, 4, 18, 19, 20, 21, 22]), (37, [0, 1, 2, 3, 4, 18, 19, 20, 21, 22]), (38, [0, 1, 2, 3, 4, 18, 20, 24]), (39, [0, 1, 2, 3, 4, 18, 20, 24, 185]), (40, [0, 1, 3, 4, 18, 20, 24]), (41, [0, 1, 3, 4, 18, 20, 24, 199]), (42, [0, 3, 4, 18, 24]), (43, [0, 3, 4, 18, 24, 213]), (44, []), (1000000, [0, 1, 4, 10, 11]), (1000002, [0, 10, 13]), (1000004, [0, 2, 4, 14, 15]), (1000006, [0, 14, 17]), (1000008, [0, 1, 2, 3, 4, 18, 19, 20, 21, 22])], []⟩ Go.Proofs.Tryz.f109 = some F109 := by kernel_rfl
/-- emend/text.row -/
def F111 : DF := ⟨1,
(.seq
 (.reg [
   ⟨some 2, .mv (.c (.int .i64 0)), none⟩,
   ⟨some 3, .mv (.c (.int .i64 0)), none⟩,
   ⟨some 4, .mv (.c (.int .i64 0)), none⟩] [0])
 (.seq
  (.blk 0
   (.seq
    (.reg [
      ⟨some 6, .mv (.t 0), none⟩,
      ⟨some 7, .bin .shr none (.t 6) (.c (.int .u64 7)), none⟩,
      ⟨some 8, .bin .eql (some .int) (.t 7) (.c (.int .u8 0)), none⟩,
      ⟨some 5, .mv (.t 8), none⟩] [0, 5])
    (.cnd (.t 5)
     (.seq
      (.reg [
        ⟨some 9, .mv (.t 0), none⟩,
        ⟨some 10, .cvI .i64 (.t 9), none⟩,
        ⟨some 2, .mv (.c (.int .i64 1)), none⟩,
        ⟨some 3, .mv (.t 10), none⟩,
        ⟨some 4, .mv (.c (.int .i64 0)), none⟩] [2, 3, 4])
      .ret)
     (.seq
      (.reg [
        ⟨some 12, .mv (.t 0), none⟩,
        ⟨some 13, .bin .shr none (.t 12) (.c (.int .u64 5)), none⟩,
        ⟨some 14, .bin .eql (some .int) (.t 13) (.c (.int .u8 6)), none⟩,
        ⟨some 11, .mv (.t 14), none⟩] [0, 11])
      (.cnd (.t 11)
       (.seq
        (.reg [
          ⟨some 15, .mv (.t 0), none⟩,
          ⟨some 16, .bin .and none (.t 15) (.c (.int .u8 31)), none⟩,
          ⟨some 17, .cvI .i64 (.t 16), none⟩,
          ⟨some 2, .mv (.c (.int .i64 2)), none⟩,
          ⟨some 3, .mv (.t 17), none⟩,
          ⟨some 4, .mv (.c (.int .i64 128)), none⟩] [2, 3, 4])
        .ret)
       (.seq
        (.reg [
          ⟨some 19, .mv (.t 0), none⟩,
          ⟨some 20, .bin .shr none (.t 19) (.c (.int .u64 4)), none⟩,
          ⟨some 21, .bin .eql (some .int) (.t 20) (.c (.int .u8 14)), none⟩,
          ⟨some 18, .mv (.t 21), none⟩] [0, 18])
        (.cnd (.t 18)
         (.seq
          (.reg [
            ⟨some 22, .mv (.t 0), none⟩,
            ⟨some 23, .bin .and none (.t 22) (.c (.int .u8 15)), none⟩,
            ⟨some 24, .cvI .i64 (.t 23), none⟩,
            ⟨some 2, .mv (.c (.int .i64 3)), none⟩,
            ⟨some 3, .mv (.t 24), none⟩,
            ⟨some 4, .mv (.c (.int .i64 2048)), none⟩] [2, 3, 4])
          .ret)
         (.seq
          (.reg [
            ⟨some 26, .mv (.t 0), none⟩,
            ⟨some 27, .bin .shr none (.t 26) (.c (.int .u64 3)), none⟩,
            ⟨some 28, .bin .eql (some .int) (.t 27) (.c (.int .u8 30)), none⟩,
            ⟨some 25, .mv (.t 28), none⟩] [0, 25])
          (.cnd (.t 25)
           (.seq
            (.reg [
              ⟨some 29, .mv (.t 0), none⟩,
              ⟨some 30, .bin .and none (.t 29) (.c (.int .u8 7)), none⟩,
              ⟨some 31, .cvI .i64 (.t 30), none⟩,
              ⟨some 2, .mv (.c (.int .i64 4)), none⟩,
              ⟨some 3, .mv (.t 31), none⟩,
              ⟨some 4, .mv (.c (.int .i64 65536)), none⟩] [2, 3, 4])
            .ret)
           .skip)))))))))
  (.seq
   (.reg [
     ⟨some 2, .mv (.c (.int .i64 0)), none⟩,
     ⟨some 3, .mv (.c (.int .i64 0)), none⟩,
     ⟨some 4, .mv (.c (.int .i64 0)), none⟩] [2, 3, 4])
   .ret))),
[.tmp 2, .tmp 3, .tmp 4]⟩
theorem F111_ok : prepF Go.Proofs.Tryz.prog ⟨[], [(0, [0]), (1, [0, 5]), (2, [2, 3, 4]), (3, [0, 11]), (4, [2, 3, 4]), (5, [0, 18]), (6, [2, 3, 4]), (7, [0, 25]), (8, [2, 3, 4]), (9, [2, 3, 4])], []⟩ Go.Proofs.Tryz.f111 = some F111 := by kernel_rfl
/-- emend/text.character -/
def F112 : DF := ⟨1,
(.seq
 (.reg [
   ⟨some 2, .mv (.c (.bool false)), none⟩] [0])
 (.seq
  (.reg [
    ⟨some 3, .mv (.t 0), none⟩,
    ⟨some 4, .bin .geq none (.t 3) (.c (.int .i64 0)), none⟩,
    ⟨some 5, .mv (.t 4), none⟩,
    ⟨some 6, .mv (.t 0), some (5, true)⟩,
    ⟨some 7, .bin .leq none (.t 6) (.c (.int .i64 1114111)), some (5, true)⟩,
    ⟨some 8, .pick (.t 5) (.t 7) (.c (.bool false)), none⟩,
    ⟨some 9, .mv (.t 8), none⟩,
    ⟨some 10, .mv (.t 0), some (9, true)⟩,
    ⟨some 11, .bin .lss none (.t 10) (.c (.int .i64 55296)), some (9, true)⟩,
    ⟨some 12, .mv (.t 11), some (9, true)⟩,
    ⟨some 13, .mv (.t 0), some (12, false)⟩,
    ⟨some 14, .bin .gtr none (.t 13) (.c (.int .i64 57343)), some (12, false)⟩,
    ⟨some 15, .pick (.t 12) (.c (.bool true)) (.t 14), some (9, true)⟩,
    ⟨some 16, .pick (.t 9) (.t 15) (.c (.bool false)), none⟩,
    ⟨some 2, .mv (.t 16), none⟩] [2])
  .ret)),
[.tmp 2]⟩
theorem F112_ok : prepF Go.Proofs.Tryz.prog ⟨[], [(0, [0]), (1, [2])], []⟩ Go.Proofs.Tryz.f112 = some F112 := by kernel_rfl
/-- strings.HasPrefix -/
def F119 : DF := ⟨2,
(.seq
 (.reg [
   ⟨some 4, .mv (.c (.bool false)), none⟩] [0, 1])
 (.seq
  (.reg [
    ⟨some 5, .mv (.t 0), none⟩,
    ⟨some 6, .mv (.t 1), none⟩,
    ⟨some 7, .call 137 [(.t 5), (.t 6)], none⟩,
    ⟨some 4, .mv (.t 7), none⟩] [4])
  .ret)),
[.tmp 4]⟩
theorem F119_ok : prepF Go.Proofs.Tryz.prog ⟨[], [(0, [0, 1]), (1, [4])], []⟩ Go.Proofs.Tryz.f119 = some F119 := by kernel_rfl
/-- strings.TrimPrefix -/
def F120 : DF := ⟨2,
(.seq
 (.reg [
   ⟨some 4, .mv (.c (.str [])), none⟩] [0, 1])
 (.seq
  (.reg [
    ⟨some 5, .mv (.t 0), none⟩,
    ⟨some 6, .mv (.t 1), none⟩,
    ⟨some 7, .call 138 [(.t 5), (.t 6)], none⟩,
    ⟨some 4, .mv (.t 7), none⟩] [4])
  .ret)),
[.tmp 4]⟩
theorem F120_ok : prepF Go.Proofs.Tryz.prog ⟨[], [(0, [0, 1]), (1, [4])], []⟩ Go.Proofs.Tryz.f120 = some F120 := by kernel_rfl
/-- strconv.Atoi -/
def F121 : DF := ⟨1,
(.seq
 (.reg [
   ⟨some 2, .mv (.c (.int .i64 0)), none⟩,
   ⟨some 3, .mv (.c .nilif), none⟩] [0])
 (.seq
  (.reg [
    ⟨some 7, .mv (.t 0), none⟩,
    ⟨some 8, .call 139 [(.t 7)], none⟩,
    ⟨some 6, .mv (.t 8), none⟩,
    ⟨some 9, .ext (.t 6) 0, none⟩,
    ⟨some 10, .ext (.t 6) 1, none⟩,
    ⟨some 4, .mv (.t 9), none⟩,
    ⟨some 5, .mv (.t 10), none⟩] [0, 4, 5])
  (.seq
   (.seq
    (.reg [
      ⟨some 11, .mv (.t 5), none⟩,
      ⟨some 12, .bin .neq (some .ifc) (.t 11) (.c .nilif), none⟩] [0, 4, 5, 12])
    (.cnd (.t 12)
     (.seq
      (.reg [
        ⟨some 13, .mv (.t 4), none⟩,
        ⟨some 14, .mv (.t 0), none⟩,
        ⟨some 15, .mv (.t 5), none⟩,
        ⟨some 16, .call 140 [(.c (.str [65, 116, 111, 105])), (.t 14), (.c (.int .i64 0)), (.c (.int .i64 0)), (.t 15)], none⟩,
        ⟨some 2, .mv (.t 13), none⟩,
        ⟨some 3, .mv (.t 16), none⟩] [2, 3])
      .ret)
     .skip))
   (.seq
    (.reg [
      ⟨some 17, .mv (.t 4), none⟩,
      ⟨some 2, .mv (.t 17), none⟩,
      ⟨some 3, .mv (.c .nilif), none⟩] [2, 3])
    .ret)))),
[.tmp 2, .tmp 3]⟩
theorem F121_ok : prepF Go.Proofs.Tryz.prog ⟨[], [(0, [0]), (1, [0, 4, 5]), (2, [0, 4, 5, 12]), (3, [2, 3]), (4, [2, 3])], []⟩ Go.Proofs.Tryz.f121 = some F121 := by kernel_rfl
/-- strings.trimLeftByte -/
def F122 : DF := ⟨2,
(.seq
 (.reg [
   ⟨some 4, .mv (.c (.str [])), none⟩] [0, 1])
 (.seq
  (.blk 0
   (.seq
    (.trim [0, 1])
    (.lop
     (.seq
      (.seq
       (.seq
        (.reg [
          ⟨some 5, .mv (.t 0), none⟩,
          ⟨some 6, .lenS (.t 5), none⟩,
          ⟨some 7, .bin .gtr none (.t 6) (.c (.int .i64 0)), none⟩,
          ⟨some 8, .mv (.t 7), none⟩,
          ⟨some 9, .mv (.t 0), some (8, true)⟩,
          ⟨some 10, .ixS (.t 9) (.c (.int .i64 0)), some (8, true)⟩,
          ⟨some 11, .mv (.t 1), some (8, true)⟩,
          ⟨some 12, .bin .eql (some .int) (.t 10) (.t 11), some (8, true)⟩,
          ⟨some 13, .pick (.t 8) (.t 12) (.c (.bool false)), none⟩] [0, 1, 13])
        (.cnd (.t 13)
         .skip
         (.exit 0)))
       (.blk 1
        (.reg [
          ⟨some 14, .mv (.t 0), none⟩,
          ⟨some 15, .slS (.t 14) (some (.c (.int .i64 1))) none, none⟩,
          ⟨some 0, .mv (.t 15), none⟩] [0, 1])))
      (.trim [0, 1])))))
  (.seq
   (.reg [
     ⟨some 16, .mv (.t 0), none⟩,
     ⟨some 4, .mv (.t 16), none⟩] [4])
   .ret))),
[.tmp 4]⟩
theorem F122_ok : prepF Go.Proofs.Tryz.prog ⟨[], [(0, [0, 1]), (1, [0, 1, 13]), (2, [0, 1]), (3, [4]), (1000000, [0, 1])], []⟩ Go.Proofs.Tryz.f122 = some F122 := by kernel_rfl
end Go.Proofs.YthjebaophnkpbaaGreatDoor.C1
