/- The code of the functions that are reached, printed by a program (Gen). -/
import Derived.Test.YtinhgnepnkbpcaaGreatDoorProg
import Derived.Test.YtinhgnepnkbpcaaGreatDoorDnZ
namespace Go.Proofs.YtinhgnepnkbpcaaGreatDoor.C1
open Go Go.Dn
set_option maxRecDepth 100000
/-- unicode/utf8.decodeRuneInStringSlow -/
def F234 : DF := ⟨1,
(.seq
 (.reg [
   ⟨some 2, .mv (.c (.int .i32 0)), none⟩,
   ⟨some 3, .mv (.c (.int .i64 0)), none⟩] [0])
 (.seq
  (.reg [
    ⟨some 13, .mv (.t 0), none⟩,
    ⟨some 14, .lenS (.t 13), none⟩,
    ⟨some 4, .mv (.t 14), none⟩] [0, 4])
  (.seq
   (.seq
    (.reg [
      ⟨some 15, .mv (.t 4), none⟩,
      ⟨some 16, .bin .lss none (.t 15) (.c (.int .i64 1)), none⟩] [0, 4, 16])
    (.cnd (.t 16)
     (.seq
      (.reg [
        ⟨some 2, .mv (.c (.int .i32 65533)), none⟩,
        ⟨some 3, .mv (.c (.int .i64 0)), none⟩] [2, 3])
      .ret)
     .skip))
   (.seq
    (.reg [
      ⟨some 17, .mv (.t 0), none⟩,
      ⟨some 18, .ixS (.t 17) (.c (.int .i64 0)), none⟩,
      ⟨some 5, .mv (.t 18), none⟩] [0, 4, 5])
    (.seq
     (.reg [
       ⟨some 19, .mv (.t 5), none⟩,
       ⟨some 20, .iaA 1 256 (.g 7) (.t 19), none⟩,
       ⟨some 21, .ld false 1 (.t 20), none⟩,
       ⟨some 6, .mv (.t 21), none⟩] [0, 4, 5, 6])
     (.seq
      (.seq
       (.reg [
         ⟨some 22, .mv (.t 6), none⟩,
         ⟨some 23, .bin .geq none (.t 22) (.c (.int .u8 240)), none⟩] [0, 4, 5, 6, 23])
       (.cnd (.t 23)
        (.seq
         (.reg [
           ⟨some 24, .mv (.t 6), none⟩,
           ⟨some 25, .cvI .i32 (.t 24), none⟩,
           ⟨some 26, .bin .shl none (.t 25) (.c (.int .u64 31)), none⟩,
           ⟨some 27, .bin .shr none (.t 26) (.c (.int .u64 31)), none⟩,
           ⟨some 7, .mv (.t 27), none⟩] [0, 7])
         (.seq
          (.reg [
            ⟨some 28, .mv (.t 0), none⟩,
            ⟨some 29, .ixS (.t 28) (.c (.int .i64 0)), none⟩,
            ⟨some 30, .cvI .i32 (.t 29), none⟩,
            ⟨some 31, .mv (.t 7), none⟩,
            ⟨some 32, .bin .andNot none (.t 30) (.t 31), none⟩,
            ⟨some 33, .mv (.t 7), none⟩,
            ⟨some 34, .bin .and none (.c (.int .i32 65533)) (.t 33), none⟩,
            ⟨some 35, .bin .or none (.t 32) (.t 34), none⟩,
            ⟨some 2, .mv (.t 35), none⟩,
            ⟨some 3, .mv (.c (.int .i64 1)), none⟩] [2, 3])
          .ret))
        .skip))
      (.seq
       (.reg [
         ⟨some 36, .mv (.t 6), none⟩,
         ⟨some 37, .bin .and none (.t 36) (.c (.int .u8 7)), none⟩,
         ⟨some 38, .cvI .i64 (.t 37), none⟩,
         ⟨some 8, .mv (.t 38), none⟩] [0, 4, 5, 6, 8])
       (.seq
        (.reg [
          ⟨some 39, .mv (.t 6), none⟩,
          ⟨some 40, .bin .shr none (.t 39) (.c (.int .u64 4)), none⟩,
          ⟨some 41, .iaA 2 16 (.g 8) (.t 40), none⟩,
          ⟨some 42, .ld true 2 (.t 41), none⟩,
          ⟨some 9, .alL [(.int .u8 0), (.int .u8 0)], none⟩,
          ⟨none, .st 2 (.t 9) (.t 42), none⟩] [0, 4, 5, 8, 9])
        (.seq
         (.seq
          (.reg [
            ⟨some 43, .mv (.t 4), none⟩,
            ⟨some 44, .mv (.t 8), none⟩,
            ⟨some 45, .bin .lss none (.t 43) (.t 44), none⟩] [0, 5, 8, 9, 45])
          (.cnd (.t 45)
           (.seq
            (.reg [
              ⟨some 2, .mv (.c (.int .i32 65533)), none⟩,
              ⟨some 3, .mv (.c (.int .i64 1)), none⟩] [2, 3])
            .ret)
           .skip))
         (.seq
          (.reg [
            ⟨some 46, .mv (.t 0), none⟩,
            ⟨some 47, .ixS (.t 46) (.c (.int .i64 1)), none⟩,
            ⟨some 10, .mv (.t 47), none⟩] [0, 5, 8, 9, 10])
          (.seq
           (.seq
            (.reg [
              ⟨some 48, .mv (.t 10), none⟩,
              ⟨some 49, .fa 0 (.t 9), none⟩,
              ⟨some 50, .ld false 1 (.t 49), none⟩,
              ⟨some 51, .bin .lss none (.t 48) (.t 50), none⟩,
              ⟨some 52, .mv (.t 51), none⟩,
              ⟨some 53, .fa 1 (.t 9), some (52, false)⟩,
              ⟨some 54, .ld false 1 (.t 53), some (52, false)⟩,
              ⟨some 55, .mv (.t 10), some (52, false)⟩,
              ⟨some 56, .bin .lss none (.t 54) (.t 55), some (52, false)⟩,
              ⟨some 57, .pick (.t 52) (.c (.bool true)) (.t 56), none⟩] [0, 5, 8, 10, 57])
            (.cnd (.t 57)
             (.seq
              (.reg [
                ⟨some 2, .mv (.c (.int .i32 65533)), none⟩,
                ⟨some 3, .mv (.c (.int .i64 1)), none⟩] [2, 3])
              .ret)
             .skip))
           (.seq
            (.seq
             (.reg [
               ⟨some 58, .mv (.t 8), none⟩,
               ⟨some 59, .bin .leq none (.t 58) (.c (.int .i64 2)), none⟩] [0, 5, 8, 10, 59])
             (.cnd (.t 59)
              (.seq
               (.reg [
                 ⟨some 60, .mv (.t 5), none⟩,
                 ⟨some 61, .bin .and none (.t 60) (.c (.int .u8 31)), none⟩,
                 ⟨some 62, .cvI .i32 (.t 61), none⟩,
                 ⟨some 63, .bin .shl none (.t 62) (.c (.int .u64 6)), none⟩,
                 ⟨some 64, .mv (.t 10), none⟩,
                 ⟨some 65, .bin .and none (.t 64) (.c (.int .u8 63)), none⟩,
                 ⟨some 66, .cvI .i32 (.t 65), none⟩,
                 ⟨some 67, .bin .or none (.t 63) (.t 66), none⟩,
                 ⟨some 2, .mv (.t 67), none⟩,
                 ⟨some 3, .mv (.c (.int .i64 2)), none⟩] [2, 3])
               .ret)
              .skip))
            (.seq
             (.reg [
               ⟨some 68, .mv (.t 0), none⟩,
               ⟨some 69, .ixS (.t 68) (.c (.int .i64 2)), none⟩,
               ⟨some 11, .mv (.t 69), none⟩] [0, 5, 8, 10, 11])
             (.seq
              (.seq
               (.reg [
                 ⟨some 70, .mv (.t 11), none⟩,
                 ⟨some 71, .bin .lss none (.t 70) (.c (.int .u8 128)), none⟩,
                 ⟨some 72, .mv (.t 71), none⟩,
                 ⟨some 73, .mv (.t 11), some (72, false)⟩,
                 ⟨some 74, .bin .lss none (.c (.int .u8 191)) (.t 73), some (72, false)⟩,
                 ⟨some 75, .pick (.t 72) (.c (.bool true)) (.t 74), none⟩] [0, 5, 8, 10, 11, 75])
               (.cnd (.t 75)
                (.seq
                 (.reg [
                   ⟨some 2, .mv (.c (.int .i32 65533)), none⟩,
                   ⟨some 3, .mv (.c (.int .i64 1)), none⟩] [2, 3])
                 .ret)
                .skip))
              (.seq
               (.seq
                (.reg [
                  ⟨some 76, .mv (.t 8), none⟩,
                  ⟨some 77, .bin .leq none (.t 76) (.c (.int .i64 3)), none⟩] [0, 5, 10, 11, 77])
                (.cnd (.t 77)
                 (.seq
                  (.reg [
                    ⟨some 78, .mv (.t 5), none⟩,
                    ⟨some 79, .bin .and none (.t 78) (.c (.int .u8 15)), none⟩,
                    ⟨some 80, .cvI .i32 (.t 79), none⟩,
                    ⟨some 81, .bin .shl none (.t 80) (.c (.int .u64 12)), none⟩,
                    ⟨some 82, .mv (.t 10), none⟩,
                    ⟨some 83, .bin .and none (.t 82) (.c (.int .u8 63)), none⟩,
                    ⟨some 84, .cvI .i32 (.t 83), none⟩,
                    ⟨some 85, .bin .shl none (.t 84) (.c (.int .u64 6)), none⟩,
                    ⟨some 86, .bin .or none (.t 81) (.t 85), none⟩,
                    ⟨some 87, .mv (.t 11), none⟩,
                    ⟨some 88, .bin .and none (.t 87) (.c (.int .u8 63)), none⟩,
                    ⟨some 89, .cvI .i32 (.t 88), none⟩,
                    ⟨some 90, .bin .or none (.t 86) (.t 89), none⟩,
                    ⟨some 2, .mv (.t 90), none⟩,
                    ⟨some 3, .mv (.c (.int .i64 3)), none⟩] [2, 3])
                  .ret)
                 .skip))
               (.seq
                (.reg [
                  ⟨some 91, .mv (.t 0), none⟩,
                  ⟨some 92, .ixS (.t 91) (.c (.int .i64 3)), none⟩,
                  ⟨some 12, .mv (.t 92), none⟩] [5, 10, 11, 12])
                (.seq
                 (.seq
                  (.reg [
                    ⟨some 93, .mv (.t 12), none⟩,
                    ⟨some 94, .bin .lss none (.t 93) (.c (.int .u8 128)), none⟩,
                    ⟨some 95, .mv (.t 94), none⟩,
                    ⟨some 96, .mv (.t 12), some (95, false)⟩,
                    ⟨some 97, .bin .lss none (.c (.int .u8 191)) (.t 96), some (95, false)⟩,
                    ⟨some 98, .pick (.t 95) (.c (.bool true)) (.t 97), none⟩] [5, 10, 11, 12, 98])
                  (.cnd (.t 98)
                   (.seq
                    (.reg [
                      ⟨some 2, .mv (.c (.int .i32 65533)), none⟩,
                      ⟨some 3, .mv (.c (.int .i64 1)), none⟩] [2, 3])
                    .ret)
                   .skip))
                 (.seq
                  (.reg [
                    ⟨some 99, .mv (.t 5), none⟩,
                    ⟨some 100, .bin .and none (.t 99) (.c (.int .u8 7)), none⟩,
                    ⟨some 101, .cvI .i32 (.t 100), none⟩,
                    ⟨some 102, .bin .shl none (.t 101) (.c (.int .u64 18)), none⟩,
                    ⟨some 103, .mv (.t 10), none⟩,
                    ⟨some 104, .bin .and none (.t 103) (.c (.int .u8 63)), none⟩,
                    ⟨some 105, .cvI .i32 (.t 104), none⟩,
                    ⟨some 106, .bin .shl none (.t 105) (.c (.int .u64 12)), none⟩,
                    ⟨some 107, .bin .or none (.t 102) (.t 106), none⟩,
                    ⟨some 108, .mv (.t 11), none⟩,
                    ⟨some 109, .bin .and none (.t 108) (.c (.int .u8 63)), none⟩,
                    ⟨some 110, .cvI .i32 (.t 109), none⟩,
                    ⟨some 111, .bin .shl none (.t 110) (.c (.int .u64 6)), none⟩,
                    ⟨some 112, .bin .or none (.t 107) (.t 111), none⟩,
                    ⟨some 113, .mv (.t 12), none⟩,
                    ⟨some 114, .bin .and none (.t 113) (.c (.int .u8 63)), none⟩,
                    ⟨some 115, .cvI .i32 (.t 114), none⟩,
                    ⟨some 116, .bin .or none (.t 112) (.t 115), none⟩,
                    ⟨some 2, .mv (.t 116), none⟩,
                    ⟨some 3, .mv (.c (.int .i64 4)), none⟩] [2, 3])
                  .ret)))))))))))))))))),
[.tmp 2, .tmp 3]⟩
theorem F234_ok : prepF Go.Proofs.Tryz.prog ⟨[9], [(0, [0]), (1, [0, 4]), (2, [0, 4, 16]), (3, [2, 3]), (4, [0, 4, 5]), (5, [0, 4, 5, 6]), (6, [0, 4, 5, 6, 23]), (7, [0, 7]), (8, [2, 3]), (9, [0, 4, 5, 6, 8]), (10, [0, 4, 5, 8, 9]), (11, [0, 5, 8, 9, 45]), (12, [2, 3]), (13, [0, 5, 8, 9, 10]), (14, [0, 5, 8, 10, 57]), (15, [2, 3]), (16, [0, 5, 8, 10, 59]), (17, [2, 3]), (18, [0, 5, 8, 10, 11]), (19, [0, 5, 8, 10, 11, 75]), (20, [2, 3]), (21, [0, 5, 10, 11, 77]), (22, [2, 3]), (23, [5, 10, 11, 12]), (24, [5, 10, 11, 12, 98]), (25, [2, 3]), (26, [2, 3])], []⟩ Go.Proofs.Tryz.f234 = some F234 := by kernel_rfl
theorem F234_fn : FnOK2 Go.Proofs.Tryz.prog 234 (.pl F234) := .pl Go.Proofs.Tryz.func234 (by kernel_rfl) F234_ok
/-- strings.IndexRune -/
def F235 : DF := ⟨2,
(.seq
 (.reg [
   ⟨some 4, .mv (.c (.int .i64 0)), none⟩] [0, 1])
 (.blk 0
  (.seq
   (.reg [
     ⟨some 161, .mv (.t 1), none⟩,
     ⟨some 162, .bin .leq none (.c (.int .i32 0)) (.t 161), none⟩,
     ⟨some 163, .mv (.t 162), none⟩,
     ⟨some 164, .mv (.t 1), some (163, true)⟩,
     ⟨some 165, .bin .lss none (.t 164) (.c (.int .i32 128)), some (163, true)⟩,
     ⟨some 166, .pick (.t 163) (.t 165) (.c (.bool false)), none⟩,
     ⟨some 160, .mv (.t 166), none⟩] [0, 1, 160])
   (.cnd (.t 160)
    (.seq
     (.reg [
       ⟨some 167, .mv (.t 0), none⟩,
       ⟨some 168, .mv (.t 1), none⟩,
       ⟨some 169, .cvI .u8 (.t 168), none⟩,
       ⟨some 170, .call 243 [(.t 167), (.t 169)], none⟩,
       ⟨some 4, .mv (.t 170), none⟩] [4])
     .ret)
    (.seq
     (.reg [
       ⟨some 172, .mv (.t 1), none⟩,
       ⟨some 173, .bin .eql (some .int) (.t 172) (.c (.int .i32 65533)), none⟩,
       ⟨some 171, .mv (.t 173), none⟩] [0, 1, 171])
     (.cnd (.t 171)
      (.seq
       (.seq
        .fail
        (.blk 9
         (.seq
          (.trim [175])
          (.lop
           (.seq
            (.seq
             .fail
             (.seq
              (.cnd (.t 177)
               .skip
               (.exit 9))
              (.blk 10
               (.seq
                (.reg [
                  ⟨some 178, .ext (.t 176) 1, none⟩,
                  ⟨some 179, .ext (.t 176) 2, none⟩,
                  ⟨some 5, .mv (.t 178), none⟩,
                  ⟨some 6, .mv (.t 179), none⟩] [5, 6, 175])
                (.seq
                 (.reg [
                   ⟨some 180, .mv (.t 6), none⟩,
                   ⟨some 181, .bin .eql (some .int) (.t 180) (.c (.int .i32 65533)), none⟩] [5, 175, 181])
                 (.cnd (.t 181)
                  (.seq
                   (.reg [
                     ⟨some 182, .mv (.t 5), none⟩,
                     ⟨some 4, .mv (.t 182), none⟩] [4])
                   .ret)
                  .skip))))))
            (.trim [175]))))))
       (.seq
        (.reg [
          ⟨some 4, .mv (.c (.int .i64 (-1))), none⟩] [4])
        .ret))
      (.seq
       (.reg [
         ⟨some 184, .mv (.t 1), none⟩,
         ⟨some 185, .call 244 [(.t 184)], none⟩,
         ⟨some 186, .un .not (.t 185), none⟩,
         ⟨some 183, .mv (.t 186), none⟩] [0, 1, 183])
       (.cnd (.t 183)
        (.seq
         (.reg [
           ⟨some 4, .mv (.c (.int .i64 (-1))), none⟩] [4])
         .ret)
        .fail)))))))),
[.tmp 4]⟩
theorem F235_ok : prepF Go.Proofs.Tryz.prog ⟨[], [(0, [0, 1]), (1, [0, 7]), (2, [0, 7, 8]), (3, [0, 7, 8, 9]), (4, [0, 7, 8, 9]), (5, [0, 7, 8, 9, 26]), (6, [0, 7, 8, 9, 33]), (7, [0, 7, 8, 9, 11]), (8, [0, 7, 8, 9, 11, 43]), (9, [4]), (10, [0, 7, 8, 9]), (11, [0, 7, 8, 9, 12]), (12, [0, 7, 8, 9, 12, 51]), (13, [0, 7, 8, 9, 12]), (14, [0, 7, 8, 9, 12, 64]), (15, [4]), (16, [0, 7, 8, 9, 10]), (17, [0, 7, 8, 9, 10]), (18, [0, 7, 8, 9, 98]), (19, [4]), (20, [8, 9, 13]), (21, [8, 9, 13, 108]), (22, [4]), (23, [0, 7, 8, 9, 14]), (24, [0, 7, 8, 9, 14, 15]), (25, [0, 7, 8, 9, 14, 15, 124]), (26, [0, 7, 8, 9, 14, 15]), (27, [0, 7, 8, 9, 14, 15, 139]), (28, [0, 7, 8, 9, 14, 15, 16]), (29, [0, 7, 8, 9, 14, 15, 16, 143]), (30, [0, 7, 8, 9, 14, 15, 16]), (31, [0, 7, 8, 9, 14, 15, 16, 156]), (32, [4]), (33, [4]), (34, [0, 1, 160]), (35, [4]), (36, [0, 1, 171]), (37, [175]), (38, [175, 176, 177]), (39, [5, 6, 175]), (40, [5, 175, 181]), (41, [4]), (42, [4]), (43, [0, 1, 183]), (44, [4]), (1000001, [0, 7, 8, 9]), (1000003, [0, 7, 8, 9, 12]), (1000005, [0, 7, 8, 9, 14, 15]), (1000007, [0, 7, 8, 9, 14, 15, 16]), (1000009, [175])], []⟩ Go.Proofs.Tryz.f235 = some F235 := by kernel_rfl
theorem F235_fn : FnOK2 Go.Proofs.Tryz.prog 235 (.pl F235) := .pl Go.Proofs.Tryz.func235 (by kernel_rfl) F235_ok
/-- unicode/utf8.RuneStart -/
def F236 : DF := ⟨1,
(.seq
 (.reg [
   ⟨some 2, .mv (.c (.bool false)), none⟩] [0])
 (.seq
  (.reg [
    ⟨some 3, .mv (.t 0), none⟩,
    ⟨some 4, .bin .and none (.t 3) (.c (.int .u8 192)), none⟩,
    ⟨some 5, .bin .neq (some .int) (.t 4) (.c (.int .u8 128)), none⟩,
    ⟨some 2, .mv (.t 5), none⟩] [2])
  .ret)),
[.tmp 2]⟩
theorem F236_ok : prepF Go.Proofs.Tryz.prog ⟨[], [(0, [0]), (1, [2])], []⟩ Go.Proofs.Tryz.f236 = some F236 := by kernel_rfl
theorem F236_fn : FnOK2 Go.Proofs.Tryz.prog 236 (.pl F236) := .pl Go.Proofs.Tryz.func236 (by kernel_rfl) F236_ok
/-- internal/bytealg.hashStr[string] -/
def F238 : DF := ⟨1,
(.seq
 (.reg [
   ⟨some 2, .mv (.c (.int .u32 0)), none⟩,
   ⟨some 3, .mv (.c (.int .u32 0)), none⟩] [0])
 (.seq
  (.reg [
    ⟨some 4, .mv (.c (.int .u32 0)), none⟩] [0, 4])
  (.seq
   (.seq
    (.reg [
      ⟨some 5, .mv (.c (.int .i64 0)), none⟩] [0, 4, 5])
    (.blk 0
     (.seq
      (.trim [0, 4, 5])
      (.lop
       (.seq
        (.seq
         (.seq
          (.reg [
            ⟨some 9, .mv (.t 5), none⟩,
            ⟨some 10, .mv (.t 0), none⟩,
            ⟨some 11, .lenS (.t 10), none⟩,
            ⟨some 12, .bin .lss none (.t 9) (.t 11), none⟩] [0, 4, 5, 12])
          (.cnd (.t 12)
           .skip
           (.exit 0)))
         (.seq
          (.blk 1
           (.reg [
             ⟨some 15, .mv (.t 4), none⟩,
             ⟨some 16, .bin .mul none (.t 15) (.c (.int .u32 16777619)), none⟩,
             ⟨some 17, .mv (.t 0), none⟩,
             ⟨some 18, .mv (.t 5), none⟩,
             ⟨some 19, .ixS (.t 17) (.t 18), none⟩,
             ⟨some 20, .cvI .u32 (.t 19), none⟩,
             ⟨some 21, .bin .add none (.t 16) (.t 20), none⟩,
             ⟨some 4, .mv (.t 21), none⟩] [0, 4, 5]))
          (.reg [
            ⟨some 13, .mv (.t 5), none⟩,
            ⟨some 14, .bin .add none (.t 13) (.c (.int .i64 1)), none⟩,
            ⟨some 5, .mv (.t 14), none⟩] [0, 4, 5])))
        (.trim [0, 4, 5]))))))
   (.seq
    (.reg [
      ⟨some 6, .mv (.c (.int .u32 1)), none⟩,
      ⟨some 7, .mv (.c (.int .u32 16777619)), none⟩] [0, 4, 6, 7])
    (.seq
     (.seq
      (.reg [
        ⟨some 22, .mv (.t 0), none⟩,
        ⟨some 23, .lenS (.t 22), none⟩,
        ⟨some 8, .mv (.t 23), none⟩] [4, 6, 7, 8])
      (.blk 2
       (.seq
        (.trim [4, 6, 7, 8])
        (.lop
         (.seq
          (.seq
           (.seq
            (.reg [
              ⟨some 24, .mv (.t 8), none⟩,
              ⟨some 25, .bin .gtr none (.t 24) (.c (.int .i64 0)), none⟩] [4, 6, 7, 8, 25])
            (.cnd (.t 25)
             .skip
             (.exit 2)))
           (.seq
            (.blk 3
             (.seq
              (.seq
               (.reg [
                 ⟨some 28, .mv (.t 8), none⟩,
                 ⟨some 29, .bin .and none (.t 28) (.c (.int .i64 1)), none⟩,
                 ⟨some 30, .bin .neq (some .int) (.t 29) (.c (.int .i64 0)), none⟩] [4, 6, 7, 8, 30])
               (.cnd (.t 30)
                (.reg [
                  ⟨some 31, .mv (.t 6), none⟩,
                  ⟨some 32, .mv (.t 7), none⟩,
                  ⟨some 33, .bin .mul none (.t 31) (.t 32), none⟩,
                  ⟨some 6, .mv (.t 33), none⟩] [4, 6, 7, 8])
                .skip))
              (.reg [
                ⟨some 34, .mv (.t 7), none⟩,
                ⟨some 35, .mv (.t 7), none⟩,
                ⟨some 36, .bin .mul none (.t 34) (.t 35), none⟩,
                ⟨some 7, .mv (.t 36), none⟩] [4, 6, 7, 8])))
            (.reg [
              ⟨some 26, .mv (.t 8), none⟩,
              ⟨some 27, .bin .shr none (.t 26) (.c (.int .u64 1)), none⟩,
              ⟨some 8, .mv (.t 27), none⟩] [4, 6, 7, 8])))
          (.trim [4, 6, 7, 8]))))))
     (.seq
      (.reg [
        ⟨some 37, .mv (.t 4), none⟩,
        ⟨some 38, .mv (.t 6), none⟩,
        ⟨some 2, .mv (.t 37), none⟩,
        ⟨some 3, .mv (.t 38), none⟩] [2, 3])
      .ret)))))),
[.tmp 2, .tmp 3]⟩
theorem F238_ok : prepF Go.Proofs.Tryz.prog ⟨[], [(0, [0]), (1, [0, 4]), (2, [0, 4, 5]), (3, [0, 4, 5, 12]), (4, [0, 4, 5]), (5, [0, 4, 5]), (6, [0, 4, 6, 7]), (7, [4, 6, 7, 8]), (8, [4, 6, 7, 8, 25]), (9, [4, 6, 7, 8]), (10, [4, 6, 7, 8, 30]), (11, [4, 6, 7, 8]), (12, [4, 6, 7, 8]), (13, [2, 3]), (1000000, [0, 4, 5]), (1000002, [4, 6, 7, 8])], []⟩ Go.Proofs.Tryz.f238 = some F238 := by kernel_rfl
theorem F238_fn : FnOK2 Go.Proofs.Tryz.prog 238 (.pl F238) := .pl Go.Proofs.Tryz.func238 (by kernel_rfl) F238_ok
/-- slices.swapRangeCmpFunc[int] -/
def F239 : DF := ⟨5,
(.seq
 (.reg [
   ⟨some 10, .mv (.c (.int .i64 0)), none⟩] [0, 1, 2, 3, 10])
 (.blk 0
  (.seq
   (.trim [0, 1, 2, 3, 10])
   (.lop
    (.seq
     (.seq
      (.seq
       (.reg [
         ⟨some 11, .mv (.t 10), none⟩,
         ⟨some 12, .mv (.t 3), none⟩,
         ⟨some 13, .bin .lss none (.t 11) (.t 12), none⟩] [0, 1, 2, 3, 10, 13])
       (.cnd (.t 13)
        .skip
        (.exit 0)))
      (.seq
       (.blk 1
        (.drw [
          ((⟨some 16, .mv (.t 0), none⟩, none), []),
          ((⟨some 17, .mv (.t 1), none⟩, none), []),
          ((⟨some 18, .mv (.t 10), none⟩, none), []),
          ((⟨some 19, .bin .add none (.t 17) (.t 18), none⟩, none), []),
          ((⟨some 20, .mv (.t 0), none⟩, none), []),
          ((⟨some 21, .mv (.t 2), none⟩, none), []),
          ((⟨some 22, .mv (.t 10), none⟩, none), []),
          ((⟨some 23, .bin .add none (.t 21) (.t 22), none⟩, none), []),
          ((⟨some 24, .mv (.t 0), none⟩, none), []),
          ((⟨some 25, .mv (.t 2), none⟩, none), []),
          ((⟨some 26, .mv (.t 10), none⟩, none), []),
          ((⟨some 27, .bin .add none (.t 25) (.t 26), none⟩, none), []),
          ((⟨some 28, .ia 1 (.t 24) (.t 27), none⟩, none), []),
          ((⟨some 29, .ld false 1 (.t 28), none⟩, none), []),
          ((⟨some 30, .mv (.t 0), none⟩, none), []),
          ((⟨some 31, .mv (.t 1), none⟩, none), []),
          ((⟨some 32, .mv (.t 10), none⟩, none), []),
          ((⟨some 33, .bin .add none (.t 31) (.t 32), none⟩, none), []),
          ((⟨some 34, .ia 1 (.t 30) (.t 33), none⟩, none), []),
          ((⟨some 35, .ld false 1 (.t 34), none⟩, none), []),
          ((⟨some 36, .ia 1 (.t 16) (.t 19), none⟩, none), []),
          ((⟨none, .st 1 (.t 36) (.t 29), none⟩, none), []),
          ((⟨some 37, .ia 1 (.t 20) (.t 23), none⟩, none), []),
          ((⟨none, .st 1 (.t 37) (.t 35), none⟩, none), [])] [0, 1, 2, 3, 10]))
       (.reg [
         ⟨some 14, .mv (.t 10), none⟩,
         ⟨some 15, .bin .add none (.t 14) (.c (.int .i64 1)), none⟩,
         ⟨some 10, .mv (.t 15), none⟩] [0, 1, 2, 3, 10])))
     (.trim [0, 1, 2, 3, 10])))))),
[]⟩
theorem F239_ok : prepF Go.Proofs.Tryz.prog ⟨[], [(0, [0, 1, 2, 3, 10]), (1, [0, 1, 2, 3, 10, 13]), (2, [0, 1, 2, 3, 10]), (3, [0, 1, 2, 3, 10]), (1000000, [0, 1, 2, 3, 10])], []⟩ Go.Proofs.Tryz.f239 = some F239 := by kernel_rfl
theorem F239_fn : FnOK2 Go.Proofs.Tryz.prog 239 (.pl F239) := .pl Go.Proofs.Tryz.func239 (by kernel_rfl) F239_ok
/-- internal/strconv.ParseUint -/
def F240 : DF := ⟨3,
(.seq
 (.reg [
   ⟨some 6, .mv (.c (.int .u64 0)), none⟩,
   ⟨some 7, .mv (.c .nilif), none⟩] [0, 1, 2])
 (.seq
  (.seq
   (.reg [
     ⟨some 18, .mv (.t 0), none⟩,
     ⟨some 19, .bin .eql (some .str) (.t 18) (.c (.str [])), none⟩] [0, 1, 2, 19])
   (.cnd (.t 19)
    (.seq
     (.reg [
       ⟨some 20, .mki 239 (.c (.int .i64 2)), none⟩,
       ⟨some 6, .mv (.c (.int .u64 0)), none⟩,
       ⟨some 7, .mv (.t 20), none⟩] [6, 7])
     .ret)
    .skip))
  (.seq
   (.reg [
     ⟨some 21, .mv (.t 1), none⟩,
     ⟨some 22, .bin .eql (some .int) (.t 21) (.c (.int .i64 0)), none⟩,
     ⟨some 8, .mv (.t 22), none⟩] [0, 1, 2, 8])
   (.seq
    (.reg [
      ⟨some 23, .mv (.t 0), none⟩,
      ⟨some 9, .mv (.t 23), none⟩] [0, 1, 2, 8, 9])
    (.seq
     (.blk 0
      (.seq
       (.reg [
         ⟨some 26, .mv (.t 1), none⟩,
         ⟨some 27, .bin .leq none (.c (.int .i64 2)) (.t 26), none⟩,
         ⟨some 28, .mv (.t 27), none⟩,
         ⟨some 29, .mv (.t 1), some (28, true)⟩,
         ⟨some 30, .bin .leq none (.t 29) (.c (.int .i64 36)), some (28, true)⟩,
         ⟨some 31, .pick (.t 28) (.t 30) (.c (.bool false)), none⟩,
         ⟨some 25, .mv (.t 31), none⟩] [0, 1, 2, 8, 9, 25])
       (.cnd (.t 25)
        .skip
        (.seq
         (.reg [
           ⟨some 33, .mv (.t 1), none⟩,
           ⟨some 34, .bin .eql (some .int) (.t 33) (.c (.int .i64 0)), none⟩,
           ⟨some 32, .mv (.t 34), none⟩] [0, 2, 8, 9, 32])
         (.cnd (.t 32)
          (.seq
           (.reg [
             ⟨some 1, .mv (.c (.int .i64 10)), none⟩] [0, 1, 2, 8, 9])
           (.seq
            (.reg [
              ⟨some 35, .mv (.t 0), none⟩,
              ⟨some 36, .ixS (.t 35) (.c (.int .i64 0)), none⟩,
              ⟨some 37, .bin .eql (some .int) (.t 36) (.c (.int .u8 48)), none⟩] [0, 1, 2, 8, 9, 37])
            (.cnd (.t 37)
             (.blk 1
              (.seq
               (.reg [
                 ⟨some 41, .mv (.t 0), none⟩,
                 ⟨some 42, .lenS (.t 41), none⟩,
                 ⟨some 43, .bin .geq none (.t 42) (.c (.int .i64 3)), none⟩,
                 ⟨some 44, .mv (.t 43), none⟩,
                 ⟨some 45, .mv (.t 0), some (44, true)⟩,
                 ⟨some 46, .ixS (.t 45) (.c (.int .i64 1)), some (44, true)⟩,
                 ⟨some 47, .call 245 [(.t 46)], some (44, true)⟩,
                 ⟨some 48, .bin .eql (some .int) (.t 47) (.c (.int .u8 98)), some (44, true)⟩,
                 ⟨some 49, .pick (.t 44) (.t 48) (.c (.bool false)), none⟩,
                 ⟨some 40, .mv (.t 49), none⟩] [0, 2, 8, 9, 40])
               (.cnd (.t 40)
                (.seq
                 (.reg [
                   ⟨some 1, .mv (.c (.int .i64 2)), none⟩] [0, 1, 2, 8, 9])
                 (.reg [
                   ⟨some 50, .mv (.t 0), none⟩,
                   ⟨some 51, .slS (.t 50) (some (.c (.int .i64 2))) none, none⟩,
                   ⟨some 0, .mv (.t 51), none⟩] [0, 1, 2, 8, 9]))
                (.seq
                 (.reg [
                   ⟨some 53, .mv (.t 0), none⟩,
                   ⟨some 54, .lenS (.t 53), none⟩,
                   ⟨some 55, .bin .geq none (.t 54) (.c (.int .i64 3)), none⟩,
                   ⟨some 56, .mv (.t 55), none⟩,
                   ⟨some 57, .mv (.t 0), some (56, true)⟩,
                   ⟨some 58, .ixS (.t 57) (.c (.int .i64 1)), some (56, true)⟩,
                   ⟨some 59, .call 245 [(.t 58)], some (56, true)⟩,
                   ⟨some 60, .bin .eql (some .int) (.t 59) (.c (.int .u8 111)), some (56, true)⟩,
                   ⟨some 61, .pick (.t 56) (.t 60) (.c (.bool false)), none⟩,
                   ⟨some 52, .mv (.t 61), none⟩] [0, 2, 8, 9, 52])
                 (.cnd (.t 52)
                  (.seq
                   (.reg [
                     ⟨some 1, .mv (.c (.int .i64 8)), none⟩] [0, 1, 2, 8, 9])
                   (.reg [
                     ⟨some 62, .mv (.t 0), none⟩,
                     ⟨some 63, .slS (.t 62) (some (.c (.int .i64 2))) none, none⟩,
                     ⟨some 0, .mv (.t 63), none⟩] [0, 1, 2, 8, 9]))
                  (.seq
                   (.reg [
                     ⟨some 65, .mv (.t 0), none⟩,
                     ⟨some 66, .lenS (.t 65), none⟩,
                     ⟨some 67, .bin .geq none (.t 66) (.c (.int .i64 3)), none⟩,
                     ⟨some 68, .mv (.t 67), none⟩,
                     ⟨some 69, .mv (.t 0), some (68, true)⟩,
                     ⟨some 70, .ixS (.t 69) (.c (.int .i64 1)), some (68, true)⟩,
                     ⟨some 71, .call 245 [(.t 70)], some (68, true)⟩,
                     ⟨some 72, .bin .eql (some .int) (.t 71) (.c (.int .u8 120)), some (68, true)⟩,
                     ⟨some 73, .pick (.t 68) (.t 72) (.c (.bool false)), none⟩,
                     ⟨some 64, .mv (.t 73), none⟩] [0, 2, 8, 9, 64])
                   (.cnd (.t 64)
                    (.seq
                     (.reg [
                       ⟨some 1, .mv (.c (.int .i64 16)), none⟩] [0, 1, 2, 8, 9])
                     (.reg [
                       ⟨some 74, .mv (.t 0), none⟩,
                       ⟨some 75, .slS (.t 74) (some (.c (.int .i64 2))) none, none⟩,
                       ⟨some 0, .mv (.t 75), none⟩] [0, 1, 2, 8, 9]))
                    (.seq
                     (.reg [
                       ⟨some 1, .mv (.c (.int .i64 8)), none⟩] [0, 1, 2, 8, 9])
                     (.reg [
                       ⟨some 38, .mv (.t 0), none⟩,
                       ⟨some 39, .slS (.t 38) (some (.c (.int .i64 1))) none, none⟩,
                       ⟨some 0, .mv (.t 39), none⟩] [0, 1, 2, 8, 9])))))))))
             .skip)))
          (.seq
           (.reg [
             ⟨some 24, .mki 239 (.c (.int .i64 3)), none⟩,
             ⟨some 6, .mv (.c (.int .u64 0)), none⟩,
             ⟨some 7, .mv (.t 24), none⟩] [6, 7])
           .ret))))))
     (.seq
      (.seq
       (.reg [
         ⟨some 76, .mv (.t 2), none⟩,
         ⟨some 77, .bin .eql (some .int) (.t 76) (.c (.int .i64 0)), none⟩] [0, 1, 2, 8, 9, 77])
       (.cnd (.t 77)
        (.reg [
          ⟨some 2, .mv (.c (.int .i64 64)), none⟩] [0, 1, 2, 8, 9])
        (.seq
         (.reg [
           ⟨some 78, .mv (.t 2), none⟩,
           ⟨some 79, .bin .lss none (.t 78) (.c (.int .i64 0)), none⟩,
           ⟨some 80, .mv (.t 79), none⟩,
           ⟨some 81, .mv (.t 2), some (80, false)⟩,
           ⟨some 82, .bin .gtr none (.t 81) (.c (.int .i64 64)), some (80, false)⟩,
           ⟨some 83, .pick (.t 80) (.c (.bool true)) (.t 82), none⟩] [0, 1, 2, 8, 9, 83])
         (.cnd (.t 83)
          (.seq
           (.reg [
             ⟨some 84, .mki 239 (.c (.int .i64 4)), none⟩,
             ⟨some 6, .mv (.c (.int .u64 0)), none⟩,
             ⟨some 7, .mv (.t 84), none⟩] [6, 7])
           .ret)
          .skip))))
      (.seq
       (.reg [
         ⟨some 10, .mv (.c (.int .u64 0)), none⟩] [0, 1, 2, 8, 9])
       (.seq
        (.seq
         (.reg [
           ⟨some 85, .mv (.t 1), none⟩] [0, 1, 2, 8, 9, 85])
         (.blk 2
          (.seq
           (.reg [
             ⟨some 91, .bin .eql (some .int) (.t 85) (.c (.int .i64 10)), none⟩,
             ⟨some 90, .mv (.t 91), none⟩] [0, 1, 2, 8, 9, 85, 90])
           (.cnd (.t 90)
            (.reg [
              ⟨some 10, .mv (.c (.int .u64 1844674407370955162)), none⟩] [0, 1, 2, 8, 9, 10])
            (.seq
             (.reg [
               ⟨some 93, .bin .eql (some .int) (.t 85) (.c (.int .i64 16)), none⟩,
               ⟨some 92, .mv (.t 93), none⟩] [0, 1, 2, 8, 9, 92])
             (.cnd (.t 92)
              (.reg [
                ⟨some 10, .mv (.c (.int .u64 1152921504606846976)), none⟩] [0, 1, 2, 8, 9, 10])
              (.reg [
                ⟨some 86, .mv (.t 1), none⟩,
                ⟨some 87, .cvI .u64 (.t 86), none⟩,
                ⟨some 88, .bin .quo none (.c (.int .u64 18446744073709551615)) (.t 87), none⟩,
                ⟨some 89, .bin .add none (.t 88) (.c (.int .u64 1)), none⟩,
                ⟨some 10, .mv (.t 89), none⟩] [0, 1, 2, 8, 9, 10])))))))
        (.seq
         (.reg [
           ⟨some 94, .mv (.t 2), none⟩,
           ⟨some 95, .cvI .u64 (.t 94), none⟩,
           ⟨some 96, .bin .shl none (.c (.int .u64 1)) (.t 95), none⟩,
           ⟨some 97, .bin .sub none (.t 96) (.c (.int .u64 1)), none⟩,
           ⟨some 11, .mv (.t 97), none⟩] [0, 1, 8, 9, 10, 11])
         (.seq
          (.reg [
            ⟨some 12, .mv (.c (.bool false)), none⟩] [0, 1, 8, 9, 10, 11, 12])
          (.seq
           (.reg [
             ⟨some 13, .mv (.c (.int .u64 0)), none⟩] [0, 1, 8, 9, 10, 11, 12, 13])
           (.seq
            (.seq
             (.reg [
               ⟨some 98, .mv (.t 0), none⟩,
               ⟨some 99, .cvSB 5 (.t 98), none⟩,
               ⟨some 100, .len (.t 99), none⟩,
               ⟨some 101, .mv (.c (.int .i64 0)), none⟩] [1, 8, 9, 10, 11, 12, 13, 99, 100, 101])
             (.blk 3
              (.seq
               (.trim [1, 8, 9, 10, 11, 12, 13, 99, 100, 101])
               (.lop
                (.seq
                 (.seq
                  (.reg [
                    ⟨some 102, .bin .lss none (.t 101) (.t 100), none⟩] [1, 8, 9, 10, 11, 12, 13, 99, 100, 101, 102])
                  (.seq
                   (.cnd (.t 102)
                    .skip
                    (.exit 3))
                   (.seq
                    (.blk 4
                     (.seq
                      (.reg [
                        ⟨some 103, .ia 1 (.t 99) (.t 101), none⟩,
                        ⟨some 104, .ld false 1 (.t 103), none⟩,
                        ⟨some 15, .mv (.t 104), none⟩] [1, 8, 9, 10, 11, 12, 13, 15, 99, 100, 101])
                      (.seq
                       (.reg [
                         ⟨some 16, .mv (.c (.int .u8 0)), none⟩] [1, 8, 9, 10, 11, 12, 13, 15, 99, 100, 101])
                       (.seq
                        (.blk 5
                         (.seq
                          (.reg [
                            ⟨some 107, .mv (.t 15), none⟩,
                            ⟨some 108, .bin .eql (some .int) (.t 107) (.c (.int .u8 95)), none⟩,
                            ⟨some 109, .mv (.t 108), none⟩,
                            ⟨some 110, .mv (.t 8), some (109, true)⟩,
                            ⟨some 111, .pick (.t 109) (.t 110) (.c (.bool false)), none⟩,
                            ⟨some 106, .mv (.t 111), none⟩] [1, 8, 9, 10, 11, 12, 13, 15, 99, 100, 101, 106])
                          (.cnd (.t 106)
                           (.seq
                            (.reg [
                              ⟨some 12, .mv (.c (.bool true)), none⟩] [1, 8, 9, 10, 11, 12, 13, 99, 100, 101])
                            (.exit 4))
                           (.seq
                            (.reg [
                              ⟨some 113, .mv (.t 15), none⟩,
                              ⟨some 114, .bin .leq none (.c (.int .u8 48)) (.t 113), none⟩,
                              ⟨some 115, .mv (.t 114), none⟩,
                              ⟨some 116, .mv (.t 15), some (115, true)⟩,
                              ⟨some 117, .bin .leq none (.t 116) (.c (.int .u8 57)), some (115, true)⟩,
                              ⟨some 118, .pick (.t 115) (.t 117) (.c (.bool false)), none⟩,
                              ⟨some 112, .mv (.t 118), none⟩] [1, 8, 9, 10, 11, 12, 13, 15, 99, 100, 101, 112])
                            (.cnd (.t 112)
                             (.reg [
                               ⟨some 119, .mv (.t 15), none⟩,
                               ⟨some 120, .bin .sub none (.t 119) (.c (.int .u8 48)), none⟩,
                               ⟨some 16, .mv (.t 120), none⟩] [1, 8, 9, 10, 11, 12, 13, 16, 99, 100, 101])
                             (.seq
                              (.reg [
                                ⟨some 122, .mv (.t 15), none⟩,
                                ⟨some 123, .call 245 [(.t 122)], none⟩,
                                ⟨some 124, .bin .leq none (.c (.int .u8 97)) (.t 123), none⟩,
                                ⟨some 125, .mv (.t 124), none⟩,
                                ⟨some 126, .mv (.t 15), some (125, true)⟩,
                                ⟨some 127, .call 245 [(.t 126)], some (125, true)⟩,
                                ⟨some 128, .bin .leq none (.t 127) (.c (.int .u8 122)), some (125, true)⟩,
                                ⟨some 129, .pick (.t 125) (.t 128) (.c (.bool false)), none⟩,
                                ⟨some 121, .mv (.t 129), none⟩] [1, 8, 9, 10, 11, 12, 13, 15, 99, 100, 101, 121])
                              (.cnd (.t 121)
                               (.reg [
                                 ⟨some 130, .mv (.t 15), none⟩,
                                 ⟨some 131, .call 245 [(.t 130)], none⟩,
                                 ⟨some 132, .bin .sub none (.t 131) (.c (.int .u8 97)), none⟩,
                                 ⟨some 133, .bin .add none (.t 132) (.c (.int .u8 10)), none⟩,
                                 ⟨some 16, .mv (.t 133), none⟩] [1, 8, 9, 10, 11, 12, 13, 16, 99, 100, 101])
                               (.seq
                                (.reg [
                                  ⟨some 105, .mki 239 (.c (.int .i64 2)), none⟩,
                                  ⟨some 6, .mv (.c (.int .u64 0)), none⟩,
                                  ⟨some 7, .mv (.t 105), none⟩] [6, 7])
                                .ret))))))))
                        (.seq
                         (.seq
                          (.reg [
                            ⟨some 134, .mv (.t 16), none⟩,
                            ⟨some 135, .mv (.t 1), none⟩,
                            ⟨some 136, .cvI .u8 (.t 135), none⟩,
                            ⟨some 137, .bin .geq none (.t 134) (.t 136), none⟩] [1, 8, 9, 10, 11, 12, 13, 16, 99, 100, 101, 137])
                          (.cnd (.t 137)
                           (.seq
                            (.reg [
                              ⟨some 138, .mki 239 (.c (.int .i64 2)), none⟩,
                              ⟨some 6, .mv (.c (.int .u64 0)), none⟩,
                              ⟨some 7, .mv (.t 138), none⟩] [6, 7])
                            .ret)
                           .skip))
                         (.seq
                          (.seq
                           (.reg [
                             ⟨some 139, .mv (.t 13), none⟩,
                             ⟨some 140, .mv (.t 10), none⟩,
                             ⟨some 141, .bin .geq none (.t 139) (.t 140), none⟩] [1, 8, 9, 10, 11, 12, 13, 16, 99, 100, 101, 141])
                           (.cnd (.t 141)
                            (.seq
                             (.reg [
                               ⟨some 142, .mv (.t 11), none⟩,
                               ⟨some 143, .mki 239 (.c (.int .i64 1)), none⟩,
                               ⟨some 6, .mv (.t 142), none⟩,
                               ⟨some 7, .mv (.t 143), none⟩] [6, 7])
                             .ret)
                            .skip))
                          (.seq
                           (.reg [
                             ⟨some 144, .mv (.t 13), none⟩,
                             ⟨some 145, .mv (.t 1), none⟩,
                             ⟨some 146, .cvI .u64 (.t 145), none⟩,
                             ⟨some 147, .bin .mul none (.t 144) (.t 146), none⟩,
                             ⟨some 13, .mv (.t 147), none⟩] [1, 8, 9, 10, 11, 12, 13, 16, 99, 100, 101])
                           (.seq
                            (.reg [
                              ⟨some 148, .mv (.t 13), none⟩,
                              ⟨some 149, .mv (.t 16), none⟩,
                              ⟨some 150, .cvI .u64 (.t 149), none⟩,
                              ⟨some 151, .bin .add none (.t 148) (.t 150), none⟩,
                              ⟨some 17, .mv (.t 151), none⟩] [1, 8, 9, 10, 11, 12, 13, 17, 99, 100, 101])
                            (.seq
                             (.seq
                              (.reg [
                                ⟨some 152, .mv (.t 17), none⟩,
                                ⟨some 153, .mv (.t 13), none⟩,
                                ⟨some 154, .bin .lss none (.t 152) (.t 153), none⟩,
                                ⟨some 155, .mv (.t 154), none⟩,
                                ⟨some 156, .mv (.t 17), some (155, false)⟩,
                                ⟨some 157, .mv (.t 11), some (155, false)⟩,
                                ⟨some 158, .bin .gtr none (.t 156) (.t 157), some (155, false)⟩,
                                ⟨some 159, .pick (.t 155) (.c (.bool true)) (.t 158), none⟩] [1, 8, 9, 10, 11, 12, 17, 99, 100, 101, 159])
                              (.cnd (.t 159)
                               (.seq
                                (.reg [
                                  ⟨some 160, .mv (.t 11), none⟩,
                                  ⟨some 161, .mki 239 (.c (.int .i64 1)), none⟩,
                                  ⟨some 6, .mv (.t 160), none⟩,
                                  ⟨some 7, .mv (.t 161), none⟩] [6, 7])
                                .ret)
                               .skip))
                             (.reg [
                               ⟨some 162, .mv (.t 17), none⟩,
                               ⟨some 13, .mv (.t 162), none⟩] [1, 8, 9, 10, 11, 12, 13, 99, 100, 101]))))))))))
                    (.reg [
                      ⟨some 163, .bin .add none (.t 101) (.c (.int .i64 1)), none⟩,
                      ⟨some 101, .mv (.t 163), none⟩] [1, 8, 9, 10, 11, 12, 13, 99, 100, 101]))))
                 (.trim [1, 8, 9, 10, 11, 12, 13, 99, 100, 101]))))))
            (.seq
             (.seq
              (.reg [
                ⟨some 164, .mv (.t 12), none⟩,
                ⟨some 165, .mv (.t 164), none⟩,
                ⟨some 166, .mv (.t 9), some (165, true)⟩,
                ⟨some 167, .call 246 [(.t 166)], some (165, true)⟩,
                ⟨some 168, .un .not (.t 167), some (165, true)⟩,
                ⟨some 169, .pick (.t 165) (.t 168) (.c (.bool false)), none⟩] [13, 169])
              (.cnd (.t 169)
               (.seq
                (.reg [
                  ⟨some 170, .mki 239 (.c (.int .i64 2)), none⟩,
                  ⟨some 6, .mv (.c (.int .u64 0)), none⟩,
                  ⟨some 7, .mv (.t 170), none⟩] [6, 7])
                .ret)
               .skip))
             (.seq
              (.reg [
                ⟨some 171, .mv (.t 13), none⟩,
                ⟨some 6, .mv (.t 171), none⟩,
                ⟨some 7, .mv (.c .nilif), none⟩] [6, 7])
              .ret)))))))))))))),
[.tmp 6, .tmp 7]⟩
theorem F240_ok : prepF Go.Proofs.Tryz.prog ⟨[], [(0, [0, 1, 2]), (1, [0, 1, 2, 19]), (2, [6, 7]), (3, [0, 1, 2, 8]), (4, [0, 1, 2, 8, 9]), (5, [6, 7]), (6, [0, 1, 2, 8, 9, 25]), (7, [0, 2, 8, 9, 32]), (8, [0, 1, 2, 8, 9]), (9, [0, 1, 2, 8, 9, 37]), (10, [0, 1, 2, 8, 9]), (11, [0, 1, 2, 8, 9]), (12, [0, 2, 8, 9, 40]), (13, [0, 1, 2, 8, 9]), (14, [0, 1, 2, 8, 9]), (15, [0, 2, 8, 9, 52]), (16, [0, 1, 2, 8, 9]), (17, [0, 1, 2, 8, 9]), (18, [0, 2, 8, 9, 64]), (19, [0, 1, 2, 8, 9]), (20, [0, 1, 2, 8, 9]), (21, [0, 1, 2, 8, 9, 77]), (22, [0, 1, 2, 8, 9]), (23, [0, 1, 2, 8, 9, 83]), (24, [6, 7]), (25, [0, 1, 2, 8, 9]), (26, [0, 1, 2, 8, 9, 85]), (27, [0, 1, 2, 8, 9, 10]), (28, [0, 1, 2, 8, 9, 85, 90]), (29, [0, 1, 2, 8, 9, 10]), (30, [0, 1, 2, 8, 9, 92]), (31, [0, 1, 2, 8, 9, 10]), (32, [0, 1, 8, 9, 10, 11]), (33, [0, 1, 8, 9, 10, 11, 12]), (34, [0, 1, 8, 9, 10, 11, 12, 13]), (35, [1, 8, 9, 10, 11, 12, 13, 99, 100, 101]), (36, [1, 8, 9, 10, 11, 12, 13, 99, 100, 101, 102]), (37, [1, 8, 9, 10, 11, 12, 13, 15, 99, 100, 101]), (38, [1, 8, 9, 10, 11, 12, 13, 15, 99, 100, 101]), (39, [6, 7]), (40, [1, 8, 9, 10, 11, 12, 13, 15, 99, 100, 101, 106]), (41, [1, 8, 9, 10, 11, 12, 13, 99, 100, 101]), (42, [1, 8, 9, 10, 11, 12, 13, 15, 99, 100, 101, 112]), (43, [1, 8, 9, 10, 11, 12, 13, 16, 99, 100, 101]), (44, [1, 8, 9, 10, 11, 12, 13, 15, 99, 100, 101, 121]), (45, [1, 8, 9, 10, 11, 12, 13, 16, 99, 100, 101]), (46, [1, 8, 9, 10, 11, 12, 13, 16, 99, 100, 101, 137]), (47, [6, 7]), (48, [1, 8, 9, 10, 11, 12, 13, 16, 99, 100, 101, 141]), (49, [6, 7]), (50, [1, 8, 9, 10, 11, 12, 13, 16, 99, 100, 101]), (51, [1, 8, 9, 10, 11, 12, 13, 17, 99, 100, 101]), (52, [1, 8, 9, 10, 11, 12, 17, 99, 100, 101, 159]), (53, [6, 7]), (54, [1, 8, 9, 10, 11, 12, 13, 99, 100, 101]), (55, [1, 8, 9, 10, 11, 12, 13, 99, 100, 101]), (56, [13, 169]), (57, [6, 7]), (58, [6, 7]), (1000003, [1, 8, 9, 10, 11, 12, 13, 99, 100, 101])], []⟩ Go.Proofs.Tryz.f240 = some F240 := by kernel_rfl
theorem F240_fn : FnOK2 Go.Proofs.Tryz.prog 240 (.pl F240) := .pl Go.Proofs.Tryz.func240 (by kernel_rfl) F240_ok
/-- internal/stringslite.Clone -/
def F241 : DF := ⟨1,
(.seq
 (.reg [
   ⟨some 2, .mv (.c (.str [])), none⟩] [0])
 (.seq
  (.seq
   (.reg [
     ⟨some 4, .mv (.t 0), none⟩,
     ⟨some 5, .lenS (.t 4), none⟩,
     ⟨some 6, .bin .eql (some .int) (.t 5) (.c (.int .i64 0)), none⟩] [0, 6])
   (.cnd (.t 6)
    (.seq
     (.reg [
       ⟨some 2, .mv (.c (.str [])), none⟩] [2])
     .ret)
    .skip))
  (.seq
   (.reg [
     ⟨some 7, .mv (.t 0), none⟩,
     ⟨some 8, .lenS (.t 7), none⟩,
     ⟨some 9, .mks 5 1 1 (.int .u8 0) (.t 8) (.t 8), none⟩,
     ⟨some 3, .mv (.t 9), none⟩] [0, 3])
   (.seq
    .fail
    (.seq
     (.reg [
       ⟨some 13, .mv (.t 3), none⟩,
       ⟨some 14, .ia 1 (.t 13) (.c (.int .i64 0)), none⟩,
       ⟨some 15, .mv (.t 3), none⟩,
       ⟨some 16, .len (.t 15), none⟩,
       ⟨some 17, .ustr 5 (.t 14) (.t 16), none⟩,
       ⟨some 2, .mv (.t 17), none⟩] [2])
     .ret))))),
[.tmp 2]⟩
theorem F241_ok : prepF Go.Proofs.Tryz.prog ⟨[], [(0, [0]), (1, [0, 6]), (2, [2]), (3, [0, 3]), (4, [3]), (5, [2])], []⟩ Go.Proofs.Tryz.f241 = some F241 := by kernel_rfl
theorem F241_fn : FnOK2 Go.Proofs.Tryz.prog 241 (.pl F241) := .pl Go.Proofs.Tryz.func241 (by kernel_rfl) F241_ok
/-- errors.New -/
def F242 : DF := ⟨1,
(.seq
 (.reg [
   ⟨some 2, .mv (.c .nilif), none⟩] [0])
 (.seq
  (.reg [
    ⟨some 3, .mv (.t 0), none⟩,
    ⟨some 4, .bld [(.str [])] [(0, 1, (.t 3))], none⟩,
    ⟨some 5, .bxH 262 (.t 4), none⟩,
    ⟨some 6, .mki 260 (.t 5), none⟩,
    ⟨some 2, .mv (.t 6), none⟩] [2])
  .ret)),
[.tmp 2]⟩
theorem F242_ok : prepF Go.Proofs.Tryz.prog ⟨[], [(0, [0]), (1, [2])], []⟩ Go.Proofs.Tryz.f242 = some F242 := by kernel_rfl
theorem F242_fn : FnOK2 Go.Proofs.Tryz.prog 242 (.pl F242) := .pl Go.Proofs.Tryz.func242 (by kernel_rfl) F242_ok
/-- strings.IndexByte -/
def F243 : DF := ⟨2,
(.seq
 (.reg [
   ⟨some 4, .mv (.c (.int .i64 0)), none⟩] [0, 1])
 (.seq
  (.reg [
    ⟨some 5, .mv (.t 0), none⟩,
    ⟨some 6, .mv (.t 1), none⟩,
    ⟨some 7, .call 220 [(.t 5), (.t 6)], none⟩,
    ⟨some 4, .mv (.t 7), none⟩] [4])
  .ret)),
[.tmp 4]⟩
theorem F243_ok : prepF Go.Proofs.Tryz.prog ⟨[], [(0, [0, 1]), (1, [4])], []⟩ Go.Proofs.Tryz.f243 = some F243 := by kernel_rfl
theorem F243_fn : FnOK2 Go.Proofs.Tryz.prog 243 (.pl F243) := .pl Go.Proofs.Tryz.func243 (by kernel_rfl) F243_ok
/-- unicode/utf8.ValidRune -/
def F244 : DF := ⟨1,
(.seq
 (.reg [
   ⟨some 2, .mv (.c (.bool false)), none⟩] [0])
 (.seq
  (.blk 0
   (.seq
    (.reg [
      ⟨some 4, .mv (.t 0), none⟩,
      ⟨some 5, .bin .leq none (.c (.int .i32 0)) (.t 4), none⟩,
      ⟨some 6, .mv (.t 5), none⟩,
      ⟨some 7, .mv (.t 0), some (6, true)⟩,
      ⟨some 8, .bin .lss none (.t 7) (.c (.int .i32 55296)), some (6, true)⟩,
      ⟨some 9, .pick (.t 6) (.t 8) (.c (.bool false)), none⟩,
      ⟨some 3, .mv (.t 9), none⟩] [0, 3])
    (.cnd (.t 3)
     (.seq
      (.reg [
        ⟨some 2, .mv (.c (.bool true)), none⟩] [2])
      .ret)
     (.seq
      (.reg [
        ⟨some 11, .mv (.t 0), none⟩,
        ⟨some 12, .bin .lss none (.c (.int .i32 57343)) (.t 11), none⟩,
        ⟨some 13, .mv (.t 12), none⟩,
        ⟨some 14, .mv (.t 0), some (13, true)⟩,
        ⟨some 15, .bin .leq none (.t 14) (.c (.int .i32 1114111)), some (13, true)⟩,
        ⟨some 16, .pick (.t 13) (.t 15) (.c (.bool false)), none⟩,
        ⟨some 10, .mv (.t 16), none⟩] [10])
      (.cnd (.t 10)
       (.seq
        (.reg [
          ⟨some 2, .mv (.c (.bool true)), none⟩] [2])
        .ret)
       .skip)))))
  (.seq
   (.reg [
     ⟨some 2, .mv (.c (.bool false)), none⟩] [2])
   .ret))),
[.tmp 2]⟩
theorem F244_ok : prepF Go.Proofs.Tryz.prog ⟨[], [(0, [0]), (1, [0, 3]), (2, [2]), (3, [10]), (4, [2]), (5, [2])], []⟩ Go.Proofs.Tryz.f244 = some F244 := by kernel_rfl
theorem F244_fn : FnOK2 Go.Proofs.Tryz.prog 244 (.pl F244) := .pl Go.Proofs.Tryz.func244 (by kernel_rfl) F244_ok
/-- internal/strconv.lower -/
def F245 : DF := ⟨1,
(.seq
 (.reg [
   ⟨some 2, .mv (.c (.int .u8 0)), none⟩] [0])
 (.seq
  (.reg [
    ⟨some 3, .mv (.t 0), none⟩,
    ⟨some 4, .bin .or none (.t 3) (.c (.int .u8 32)), none⟩,
    ⟨some 2, .mv (.t 4), none⟩] [2])
  .ret)),
[.tmp 2]⟩
theorem F245_ok : prepF Go.Proofs.Tryz.prog ⟨[], [(0, [0]), (1, [2])], []⟩ Go.Proofs.Tryz.f245 = some F245 := by kernel_rfl
theorem F245_fn : FnOK2 Go.Proofs.Tryz.prog 245 (.pl F245) := .pl Go.Proofs.Tryz.func245 (by kernel_rfl) F245_ok
/-- internal/strconv.underscoreOK -/
def F246 : DF := ⟨1,
(.seq
 (.reg [
   ⟨some 2, .mv (.c (.bool false)), none⟩] [0])
 (.seq
  (.reg [
    ⟨some 3, .mv (.c (.int .i32 94)), none⟩] [0, 3])
  (.seq
   (.reg [
     ⟨some 4, .mv (.c (.int .i64 0)), none⟩] [0, 3, 4])
   (.seq
    (.seq
     (.reg [
       ⟨some 6, .mv (.t 0), none⟩,
       ⟨some 7, .lenS (.t 6), none⟩,
       ⟨some 8, .bin .geq none (.t 7) (.c (.int .i64 1)), none⟩,
       ⟨some 9, .mv (.t 8), none⟩,
       ⟨some 10, .mv (.t 0), some (9, true)⟩,
       ⟨some 11, .ixS (.t 10) (.c (.int .i64 0)), some (9, true)⟩,
       ⟨some 12, .bin .eql (some .int) (.t 11) (.c (.int .u8 45)), some (9, true)⟩,
       ⟨some 13, .mv (.t 12), some (9, true)⟩,
       ⟨some 14, .mv (.t 0), some (13, false)⟩,
       ⟨some 15, .ixS (.t 14) (.c (.int .i64 0)), some (13, false)⟩,
       ⟨some 16, .bin .eql (some .int) (.t 15) (.c (.int .u8 43)), some (13, false)⟩,
       ⟨some 17, .pick (.t 13) (.c (.bool true)) (.t 16), some (9, true)⟩,
       ⟨some 18, .pick (.t 9) (.t 17) (.c (.bool false)), none⟩] [0, 3, 4, 18])
     (.cnd (.t 18)
      (.reg [
        ⟨some 19, .mv (.t 0), none⟩,
        ⟨some 20, .slS (.t 19) (some (.c (.int .i64 1))) none, none⟩,
        ⟨some 0, .mv (.t 20), none⟩] [0, 3, 4])
      .skip))
    (.seq
     (.reg [
       ⟨some 5, .mv (.c (.bool false)), none⟩] [0, 3, 4, 5])
     (.seq
      (.seq
       (.reg [
         ⟨some 21, .mv (.t 0), none⟩,
         ⟨some 22, .lenS (.t 21), none⟩,
         ⟨some 23, .bin .geq none (.t 22) (.c (.int .i64 2)), none⟩,
         ⟨some 24, .mv (.t 23), none⟩,
         ⟨some 25, .mv (.t 0), some (24, true)⟩,
         ⟨some 26, .ixS (.t 25) (.c (.int .i64 0)), some (24, true)⟩,
         ⟨some 27, .bin .eql (some .int) (.t 26) (.c (.int .u8 48)), some (24, true)⟩,
         ⟨some 28, .pick (.t 24) (.t 27) (.c (.bool false)), none⟩,
         ⟨some 29, .mv (.t 28), none⟩,
         ⟨some 30, .mv (.t 0), some (29, true)⟩,
         ⟨some 31, .ixS (.t 30) (.c (.int .i64 1)), some (29, true)⟩,
         ⟨some 32, .call 245 [(.t 31)], some (29, true)⟩,
         ⟨some 33, .bin .eql (some .int) (.t 32) (.c (.int .u8 98)), some (29, true)⟩,
         ⟨some 34, .mv (.t 33), some (29, true)⟩,
         ⟨some 35, .mv (.t 0), some (34, false)⟩,
         ⟨some 36, .ixS (.t 35) (.c (.int .i64 1)), some (34, false)⟩,
         ⟨some 37, .call 245 [(.t 36)], some (34, false)⟩,
         ⟨some 38, .bin .eql (some .int) (.t 37) (.c (.int .u8 111)), some (34, false)⟩,
         ⟨some 39, .pick (.t 34) (.c (.bool true)) (.t 38), some (29, true)⟩,
         ⟨some 40, .mv (.t 39), some (29, true)⟩,
         ⟨some 41, .mv (.t 0), some (40, false)⟩,
         ⟨some 42, .ixS (.t 41) (.c (.int .i64 1)), some (40, false)⟩,
         ⟨some 43, .call 245 [(.t 42)], some (40, false)⟩,
         ⟨some 44, .bin .eql (some .int) (.t 43) (.c (.int .u8 120)), some (40, false)⟩,
         ⟨some 45, .pick (.t 40) (.c (.bool true)) (.t 44), some (29, true)⟩,
         ⟨some 46, .pick (.t 29) (.t 45) (.c (.bool false)), none⟩] [0, 3, 4, 5, 46])
       (.cnd (.t 46)
        (.seq
         (.reg [
           ⟨some 4, .mv (.c (.int .i64 2)), none⟩] [0, 4])
         (.seq
          (.reg [
            ⟨some 3, .mv (.c (.int .i32 48)), none⟩] [0, 3, 4])
          (.reg [
            ⟨some 47, .mv (.t 0), none⟩,
            ⟨some 48, .ixS (.t 47) (.c (.int .i64 1)), none⟩,
            ⟨some 49, .call 245 [(.t 48)], none⟩,
            ⟨some 50, .bin .eql (some .int) (.t 49) (.c (.int .u8 120)), none⟩,
            ⟨some 5, .mv (.t 50), none⟩] [0, 3, 4, 5])))
        .skip))
      (.seq
       (.blk 0
        (.seq
         (.trim [0, 3, 4, 5])
         (.lop
          (.seq
           (.seq
            (.seq
             (.reg [
               ⟨some 51, .mv (.t 4), none⟩,
               ⟨some 52, .mv (.t 0), none⟩,
               ⟨some 53, .lenS (.t 52), none⟩,
               ⟨some 54, .bin .lss none (.t 51) (.t 53), none⟩] [0, 3, 4, 5, 54])
             (.cnd (.t 54)
              .skip
              (.exit 0)))
            (.seq
             (.blk 1
              (.seq
               (.seq
                (.reg [
                  ⟨some 57, .mv (.t 0), none⟩,
                  ⟨some 58, .mv (.t 4), none⟩,
                  ⟨some 59, .ixS (.t 57) (.t 58), none⟩,
                  ⟨some 60, .bin .leq none (.c (.int .u8 48)) (.t 59), none⟩,
                  ⟨some 61, .mv (.t 60), none⟩,
                  ⟨some 62, .mv (.t 0), some (61, true)⟩,
                  ⟨some 63, .mv (.t 4), some (61, true)⟩,
                  ⟨some 64, .ixS (.t 62) (.t 63), some (61, true)⟩,
                  ⟨some 65, .bin .leq none (.t 64) (.c (.int .u8 57)), some (61, true)⟩,
                  ⟨some 66, .pick (.t 61) (.t 65) (.c (.bool false)), none⟩,
                  ⟨some 67, .mv (.t 66), none⟩,
                  ⟨some 68, .mv (.t 5), some (67, false)⟩,
                  ⟨some 69, .mv (.t 68), some (67, false)⟩,
                  ⟨some 70, .mv (.t 0), some (69, true)⟩,
                  ⟨some 71, .mv (.t 4), some (69, true)⟩,
                  ⟨some 72, .ixS (.t 70) (.t 71), some (69, true)⟩,
                  ⟨some 73, .call 245 [(.t 72)], some (69, true)⟩,
                  ⟨some 74, .bin .leq none (.c (.int .u8 97)) (.t 73), some (69, true)⟩,
                  ⟨some 75, .pick (.t 69) (.t 74) (.c (.bool false)), some (67, false)⟩,
                  ⟨some 76, .mv (.t 75), some (67, false)⟩,
                  ⟨some 77, .mv (.t 0), some (76, true)⟩,
                  ⟨some 78, .mv (.t 4), some (76, true)⟩,
                  ⟨some 79, .ixS (.t 77) (.t 78), some (76, true)⟩,
                  ⟨some 80, .call 245 [(.t 79)], some (76, true)⟩,
                  ⟨some 81, .bin .leq none (.t 80) (.c (.int .u8 102)), some (76, true)⟩,
                  ⟨some 82, .pick (.t 76) (.t 81) (.c (.bool false)), some (67, false)⟩,
                  ⟨some 83, .pick (.t 67) (.c (.bool true)) (.t 82), none⟩] [0, 3, 4, 5, 83])
                (.cnd (.t 83)
                 (.seq
                  (.reg [
                    ⟨some 3, .mv (.c (.int .i32 48)), none⟩] [0, 3, 4, 5])
                  (.exit 1))
                 .skip))
               (.seq
                (.seq
                 (.reg [
                   ⟨some 84, .mv (.t 0), none⟩,
                   ⟨some 85, .mv (.t 4), none⟩,
                   ⟨some 86, .ixS (.t 84) (.t 85), none⟩,
                   ⟨some 87, .bin .eql (some .int) (.t 86) (.c (.int .u8 95)), none⟩] [0, 3, 4, 5, 87])
                 (.cnd (.t 87)
                  (.seq
                   (.seq
                    (.reg [
                      ⟨some 88, .mv (.t 3), none⟩,
                      ⟨some 89, .bin .neq (some .int) (.t 88) (.c (.int .i32 48)), none⟩] [0, 4, 5, 89])
                    (.cnd (.t 89)
                     (.seq
                      (.reg [
                        ⟨some 2, .mv (.c (.bool false)), none⟩] [2])
                      .ret)
                     .skip))
                   (.seq
                    (.reg [
                      ⟨some 3, .mv (.c (.int .i32 95)), none⟩] [0, 3, 4, 5])
                    (.exit 1)))
                  .skip))
                (.seq
                 (.seq
                  (.reg [
                    ⟨some 90, .mv (.t 3), none⟩,
                    ⟨some 91, .bin .eql (some .int) (.t 90) (.c (.int .i32 95)), none⟩] [0, 4, 5, 91])
                  (.cnd (.t 91)
                   (.seq
                    (.reg [
                      ⟨some 2, .mv (.c (.bool false)), none⟩] [2])
                    .ret)
                   .skip))
                 (.reg [
                   ⟨some 3, .mv (.c (.int .i32 33)), none⟩] [0, 3, 4, 5])))))
             (.reg [
               ⟨some 55, .mv (.t 4), none⟩,
               ⟨some 56, .bin .add none (.t 55) (.c (.int .i64 1)), none⟩,
               ⟨some 4, .mv (.t 56), none⟩] [0, 3, 4, 5])))
           (.trim [0, 3, 4, 5])))))
       (.seq
        (.reg [
          ⟨some 92, .mv (.t 3), none⟩,
          ⟨some 93, .bin .neq (some .int) (.t 92) (.c (.int .i32 95)), none⟩,
          ⟨some 2, .mv (.t 93), none⟩] [2])
        .ret)))))))),
[.tmp 2]⟩
theorem F246_ok : prepF Go.Proofs.Tryz.prog ⟨[], [(0, [0]), (1, [0, 3]), (2, [0, 3, 4]), (3, [0, 3, 4, 18]), (4, [0, 3, 4]), (5, [0, 3, 4, 5]), (6, [0, 3, 4, 5, 46]), (7, [0, 4]), (8, [0, 3, 4]), (9, [0, 3, 4, 5]), (10, [0, 3, 4, 5, 54]), (11, [0, 3, 4, 5]), (12, [0, 3, 4, 5, 83]), (13, [0, 3, 4, 5]), (14, [0, 3, 4, 5, 87]), (15, [0, 4, 5, 89]), (16, [2]), (17, [0, 3, 4, 5]), (18, [0, 4, 5, 91]), (19, [2]), (20, [0, 3, 4, 5]), (21, [2]), (1000000, [0, 3, 4, 5])], []⟩ Go.Proofs.Tryz.f246 = some F246 := by kernel_rfl
theorem F246_fn : FnOK2 Go.Proofs.Tryz.prog 246 (.pl F246) := .pl Go.Proofs.Tryz.func246 (by kernel_rfl) F246_ok
end Go.Proofs.YtinhgnepnkbpcaaGreatDoor.C1
