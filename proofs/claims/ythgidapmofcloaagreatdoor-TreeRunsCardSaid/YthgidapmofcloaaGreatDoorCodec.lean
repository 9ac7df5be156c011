/- The code of the functions that are reached, printed by a program (Gen). -/
import Derived.Test.YthgidapmofcloaaGreatDoorProg
import Derived.Test.YthgidapmofcloaaGreatDoorDnZ
namespace Go.Proofs.YthgidapmofcloaaGreatDoor.C1
open Go Go.Dn
set_option maxRecDepth 100000
/-- internal/strconv.underscoreOK -/
def F246 : DF := ⟨1,
(.seq
 (.reg [
   ⟨some 2, .mv (.c (.bool false)), none⟩] [0])
 (.seq
  (.reg [
    ⟨some 3, .mv (.c (.int .i32 94)), none⟩] [0, 3])
  (.seq
   (.reg [
     ⟨some 4, .mv (.c (.int .i64 0)), none⟩] [0, 3, 4])
   (.seq
    (.seq
     (.reg [
       ⟨some 6, .mv (.t 0), none⟩,
       ⟨some 7, .lenS (.t 6), none⟩,
       ⟨some 8, .bin .geq none (.t 7) (.c (.int .i64 1)), none⟩,
       ⟨some 9, .mv (.t 8), none⟩,
       ⟨some 10, .mv (.t 0), some (9, true)⟩,
       ⟨some 11, .ixS (.t 10) (.c (.int .i64 0)), some (9, true)⟩,
       ⟨some 12, .bin .eql (some .int) (.t 11) (.c (.int .u8 45)), some (9, true)⟩,
       ⟨some 13, .mv (.t 12), some (9, true)⟩,
       ⟨some 14, .mv (.t 0), some (13, false)⟩,
       ⟨some 15, .ixS (.t 14) (.c (.int .i64 0)), some (13, false)⟩,
       ⟨some 16, .bin .eql (some .int) (.t 15) (.c (.int .u8 43)), some (13, false)⟩,
       ⟨some 17, .pick (.t 13) (.c (.bool true)) (.t 16), some (9, true)⟩,
       ⟨some 18, .pick (.t 9) (.t 17) (.c (.bool false)), none⟩] [0, 3, 4, 18])
     (.cnd (.t 18)
      (.reg [
        ⟨some 19, .mv (.t 0), none⟩,
        ⟨some 20, .slS (.t 19) (some (.c (.int .i64 1))) none, none⟩,
        ⟨some 0, .mv (.t 20), none⟩] [0, 3, 4])
      .skip))
    (.seq
     (.reg [
       ⟨some 5, .mv (.c (.bool false)), none⟩] [0, 3, 4, 5])
     (.seq
      (.seq
       (.reg [
         ⟨some 21, .mv (.t 0), none⟩,
         ⟨some 22, .lenS (.t 21), none⟩,
         ⟨some 23, .bin .geq none (.t 22) (.c (.int .i64 2)), none⟩,
         ⟨some 24, .mv (.t 23), none⟩,
         ⟨some 25, .mv (.t 0), some (24, true)⟩,
         ⟨some 26, .ixS (.t 25) (.c (.int .i64 0)), some (24, true)⟩,
         ⟨some 27, .bin .eql (some .int) (.t 26) (.c (.int .u8 48)), some (24, true)⟩,
         ⟨some 28, .pick (.t 24) (.t 27) (.c (.bool false)), none⟩,
         ⟨some 29, .mv (.t 28), none⟩,
         ⟨some 30, .mv (.t 0), some (29, true)⟩,
         ⟨some 31, .ixS (.t 30) (.c (.int .i64 1)), some (29, true)⟩,
         ⟨some 32, .call 245 [(.t 31)], some (29, true)⟩,
         ⟨some 33, .bin .eql (some .int) (.t 32) (.c (.int .u8 98)), some (29, true)⟩,
         ⟨some 34, .mv (.t 33), some (29, true)⟩,
         ⟨some 35, .mv (.t 0), some (34, false)⟩,
         ⟨some 36, .ixS (.t 35) (.c (.int .i64 1)), some (34, false)⟩,
         ⟨some 37, .call 245 [(.t 36)], some (34, false)⟩,
         ⟨some 38, .bin .eql (some .int) (.t 37) (.c (.int .u8 111)), some (34, false)⟩,
         ⟨some 39, .pick (.t 34) (.c (.bool true)) (.t 38), some (29, true)⟩,
         ⟨some 40, .mv (.t 39), some (29, true)⟩,
         ⟨some 41, .mv (.t 0), some (40, false)⟩,
         ⟨some 42, .ixS (.t 41) (.c (.int .i64 1)), some (40, false)⟩,
         ⟨some 43, .call 245 [(.t 42)], some (40, false)⟩,
         ⟨some 44, .bin .eql (some .int) (.t 43) (.c (.int .u8 120)), some (40, false)⟩,
         ⟨some 45, .pick (.t 40) (.c (.bool true)) (.t 44), some (29, true)⟩,
         ⟨some 46, .pick (.t 29) (.t 45) (.c (.bool false)), none⟩] [0, 3, 4, 5, 46])
       (.cnd (.t 46)
        (.seq
         (.reg [
           ⟨some 4, .mv (.c (.int .i64 2)), none⟩] [0, 4])
         (.seq
          (.reg [
            ⟨some 3, .mv (.c (.int .i32 48)), none⟩] [0, 3, 4])
          (.reg [
            ⟨some 47, .mv (.t 0), none⟩,
            ⟨some 48, .ixS (.t 47) (.c (.int .i64 1)), none⟩,
            ⟨some 49, .call 245 [(.t 48)], none⟩,
            ⟨some 50, .bin .eql (some .int) (.t 49) (.c (.int .u8 120)), none⟩,
            ⟨some 5, .mv (.t 50), none⟩] [0, 3, 4, 5])))
        .skip))
      (.seq
       (.blk 0
        (.seq
         (.trim [0, 3, 4, 5])
         (.lop
          (.seq
           (.seq
            (.seq
             (.reg [
               ⟨some 51, .mv (.t 4), none⟩,
               ⟨some 52, .mv (.t 0), none⟩,
               ⟨some 53, .lenS (.t 52), none⟩,
               ⟨some 54, .bin .lss none (.t 51) (.t 53), none⟩] [0, 3, 4, 5, 54])
             (.cnd (.t 54)
              .skip
              (.exit 0)))
            (.seq
             (.blk 1
              (.seq
               (.seq
                (.reg [
                  ⟨some 57, .mv (.t 0), none⟩,
                  ⟨some 58, .mv (.t 4), none⟩,
                  ⟨some 59, .ixS (.t 57) (.t 58), none⟩,
                  ⟨some 60, .bin .leq none (.c (.int .u8 48)) (.t 59), none⟩,
                  ⟨some 61, .mv (.t 60), none⟩,
                  ⟨some 62, .mv (.t 0), some (61, true)⟩,
                  ⟨some 63, .mv (.t 4), some (61, true)⟩,
                  ⟨some 64, .ixS (.t 62) (.t 63), some (61, true)⟩,
                  ⟨some 65, .bin .leq none (.t 64) (.c (.int .u8 57)), some (61, true)⟩,
                  ⟨some 66, .pick (.t 61) (.t 65) (.c (.bool false)), none⟩,
                  ⟨some 67, .mv (.t 66), none⟩,
                  ⟨some 68, .mv (.t 5), some (67, false)⟩,
                  ⟨some 69, .mv (.t 68), some (67, false)⟩,
                  ⟨some 70, .mv (.t 0), some (69, true)⟩,
                  ⟨some 71, .mv (.t 4), some (69, true)⟩,
                  ⟨some 72, .ixS (.t 70) (.t 71), some (69, true)⟩,
                  ⟨some 73, .call 245 [(.t 72)], some (69, true)⟩,
                  ⟨some 74, .bin .leq none (.c (.int .u8 97)) (.t 73), some (69, true)⟩,
                  ⟨some 75, .pick (.t 69) (.t 74) (.c (.bool false)), some (67, false)⟩,
                  ⟨some 76, .mv (.t 75), some (67, false)⟩,
                  ⟨some 77, .mv (.t 0), some (76, true)⟩,
                  ⟨some 78, .mv (.t 4), some (76, true)⟩,
                  ⟨some 79, .ixS (.t 77) (.t 78), some (76, true)⟩,
                  ⟨some 80, .call 245 [(.t 79)], some (76, true)⟩,
                  ⟨some 81, .bin .leq none (.t 80) (.c (.int .u8 102)), some (76, true)⟩,
                  ⟨some 82, .pick (.t 76) (.t 81) (.c (.bool false)), some (67, false)⟩,
                  ⟨some 83, .pick (.t 67) (.c (.bool true)) (.t 82), none⟩] [0, 3, 4, 5, 83])
                (.cnd (.t 83)
                 (.seq
                  (.reg [
                    ⟨some 3, .mv (.c (.int .i32 48)), none⟩] [0, 3, 4, 5])
                  (.exit 1))
                 .skip))
               (.seq
                (.seq
                 (.reg [
                   ⟨some 84, .mv (.t 0), none⟩,
                   ⟨some 85, .mv (.t 4), none⟩,
                   ⟨some 86, .ixS (.t 84) (.t 85), none⟩,
                   ⟨some 87, .bin .eql (some .int) (.t 86) (.c (.int .u8 95)), none⟩] [0, 3, 4, 5, 87])
                 (.cnd (.t 87)
                  (.seq
                   (.seq
                    (.reg [
                      ⟨some 88, .mv (.t 3), none⟩,
                      ⟨some 89, .bin .neq (some .int) (.t 88) (.c (.int .i32 48)), none⟩] [0, 4, 5, 89])
                    (.cnd (.t 89)
                     (.seq
                      (.reg [
                        ⟨some 2, .mv (.c (.bool false)), none⟩] [2])
                      .ret)
                     .skip))
                   (.seq
                    (.reg [
                      ⟨some 3, .mv (.c (.int .i32 95)), none⟩] [0, 3, 4, 5])
                    (.exit 1)))
                  .skip))
                (.seq
                 (.seq
                  (.reg [
                    ⟨some 90, .mv (.t 3), none⟩,
                    ⟨some 91, .bin .eql (some .int) (.t 90) (.c (.int .i32 95)), none⟩] [0, 4, 5, 91])
                  (.cnd (.t 91)
                   (.seq
                    (.reg [
                      ⟨some 2, .mv (.c (.bool false)), none⟩] [2])
                    .ret)
                   .skip))
                 (.reg [
                   ⟨some 3, .mv (.c (.int .i32 33)), none⟩] [0, 3, 4, 5])))))
             (.reg [
               ⟨some 55, .mv (.t 4), none⟩,
               ⟨some 56, .bin .add none (.t 55) (.c (.int .i64 1)), none⟩,
               ⟨some 4, .mv (.t 56), none⟩] [0, 3, 4, 5])))
           (.trim [0, 3, 4, 5])))))
       (.seq
        (.reg [
          ⟨some 92, .mv (.t 3), none⟩,
          ⟨some 93, .bin .neq (some .int) (.t 92) (.c (.int .i32 95)), none⟩,
          ⟨some 2, .mv (.t 93), none⟩] [2])
        .ret)))))))),
[.tmp 2]⟩
theorem F246_ok : prepF Go.Proofs.Tryz.prog ⟨[], [(0, [0]), (1, [0, 3]), (2, [0, 3, 4]), (3, [0, 3, 4, 18]), (4, [0, 3, 4]), (5, [0, 3, 4, 5]), (6, [0, 3, 4, 5, 46]), (7, [0, 4]), (8, [0, 3, 4]), (9, [0, 3, 4, 5]), (10, [0, 3, 4, 5, 54]), (11, [0, 3, 4, 5]), (12, [0, 3, 4, 5, 83]), (13, [0, 3, 4, 5]), (14, [0, 3, 4, 5, 87]), (15, [0, 4, 5, 89]), (16, [2]), (17, [0, 3, 4, 5]), (18, [0, 4, 5, 91]), (19, [2]), (20, [0, 3, 4, 5]), (21, [2]), (1000000, [0, 3, 4, 5])], []⟩ Go.Proofs.Tryz.f246 = some F246 := by kernel_rfl
theorem F246_fn : FnOK2 Go.Proofs.Tryz.prog 246 (.pl F246) := .pl Go.Proofs.Tryz.func246 (by kernel_rfl) F246_ok
/-- math/bits.TrailingZeros32 -/
def F247 : DF := ⟨1,
(.seq
 (.reg [
   ⟨some 2, .mv (.c (.int .i64 0)), none⟩] [0])
 (.seq
  (.seq
   (.reg [
     ⟨some 3, .mv (.t 0), none⟩,
     ⟨some 4, .bin .eql (some .int) (.t 3) (.c (.int .u32 0)), none⟩] [0, 4])
   (.cnd (.t 4)
    (.seq
     (.reg [
       ⟨some 2, .mv (.c (.int .i64 32)), none⟩] [2])
     .ret)
    .skip))
  (.seq
   (.reg [
     ⟨some 5, .mv (.t 0), none⟩,
     ⟨some 6, .mv (.t 0), none⟩,
     ⟨some 7, .un .neg (.t 6), none⟩,
     ⟨some 8, .bin .and none (.t 5) (.t 7), none⟩,
     ⟨some 9, .bin .mul none (.t 8) (.c (.int .u32 125613361)), none⟩,
     ⟨some 10, .bin .shr none (.t 9) (.c (.int .u64 27)), none⟩,
     ⟨some 11, .iaA 1 32 (.g 7) (.t 10), none⟩,
     ⟨some 12, .ld false 1 (.t 11), none⟩,
     ⟨some 13, .cvI .i64 (.t 12), none⟩,
     ⟨some 2, .mv (.t 13), none⟩] [2])
   .ret))),
[.tmp 2]⟩
theorem F247_ok : prepF Go.Proofs.Tryz.prog ⟨[], [(0, [0]), (1, [0, 4]), (2, [2]), (3, [2])], []⟩ Go.Proofs.Tryz.f247 = some F247 := by kernel_rfl
theorem F247_fn : FnOK2 Go.Proofs.Tryz.prog 247 (.pl F247) := .pl Go.Proofs.Tryz.func247 (by kernel_rfl) F247_ok
/-- math/bits.TrailingZeros64 -/
def F248 : DF := ⟨1,
(.seq
 (.reg [
   ⟨some 2, .mv (.c (.int .i64 0)), none⟩] [0])
 (.seq
  (.seq
   (.reg [
     ⟨some 3, .mv (.t 0), none⟩,
     ⟨some 4, .bin .eql (some .int) (.t 3) (.c (.int .u64 0)), none⟩] [0, 4])
   (.cnd (.t 4)
    (.seq
     (.reg [
       ⟨some 2, .mv (.c (.int .i64 64)), none⟩] [2])
     .ret)
    .skip))
  (.seq
   (.reg [
     ⟨some 5, .mv (.t 0), none⟩,
     ⟨some 6, .mv (.t 0), none⟩,
     ⟨some 7, .un .neg (.t 6), none⟩,
     ⟨some 8, .bin .and none (.t 5) (.t 7), none⟩,
     ⟨some 9, .bin .mul none (.t 8) (.c (.int .u64 285870213051353865)), none⟩,
     ⟨some 10, .bin .shr none (.t 9) (.c (.int .u64 58)), none⟩,
     ⟨some 11, .iaA 1 64 (.g 8) (.t 10), none⟩,
     ⟨some 12, .ld false 1 (.t 11), none⟩,
     ⟨some 13, .cvI .i64 (.t 12), none⟩,
     ⟨some 2, .mv (.t 13), none⟩] [2])
   .ret))),
[.tmp 2]⟩
theorem F248_ok : prepF Go.Proofs.Tryz.prog ⟨[], [(0, [0]), (1, [0, 4]), (2, [2]), (3, [2])], []⟩ Go.Proofs.Tryz.f248 = some F248 := by kernel_rfl
theorem F248_fn : FnOK2 Go.Proofs.Tryz.prog 248 (.pl F248) := .pl Go.Proofs.Tryz.func248 (by kernel_rfl) F248_ok
end Go.Proofs.YthgidapmofcloaaGreatDoor.C1
