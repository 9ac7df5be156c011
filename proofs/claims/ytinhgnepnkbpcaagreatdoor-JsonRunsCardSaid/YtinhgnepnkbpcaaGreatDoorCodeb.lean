/- The code of the functions that are reached, printed by a program (Gen). -/
import Derived.Test.YtinhgnepnkbpcaaGreatDoorProg
import Derived.Test.YtinhgnepnkbpcaaGreatDoorDnZ
namespace Go.Proofs.YtinhgnepnkbpcaaGreatDoor.C1
open Go Go.Dn
set_option maxRecDepth 100000
/-- emend/tree.clock -/
def F139 : DF := ⟨1,
(.seq
 (.reg [
   ⟨some 2, .mv (.c (.bool false)), none⟩] [0])
 (.seq
  (.seq
   (.reg [
     ⟨some 4, .mv (.t 0), none⟩,
     ⟨some 5, .lenS (.t 4), none⟩,
     ⟨some 6, .bin .lss none (.t 5) (.c (.int .i64 8)), none⟩,
     ⟨some 7, .mv (.t 6), none⟩,
     ⟨some 8, .mv (.t 0), some (7, false)⟩,
     ⟨some 9, .ixS (.t 8) (.c (.int .i64 2)), some (7, false)⟩,
     ⟨some 10, .bin .neq (some .int) (.t 9) (.c (.int .u8 58)), some (7, false)⟩,
     ⟨some 11, .pick (.t 7) (.c (.bool true)) (.t 10), none⟩,
     ⟨some 12, .mv (.t 11), none⟩,
     ⟨some 13, .mv (.t 0), some (12, false)⟩,
     ⟨some 14, .ixS (.t 13) (.c (.int .i64 5)), some (12, false)⟩,
     ⟨some 15, .bin .neq (some .int) (.t 14) (.c (.int .u8 58)), some (12, false)⟩,
     ⟨some 16, .pick (.t 12) (.c (.bool true)) (.t 15), none⟩,
     ⟨some 17, .mv (.t 16), none⟩,
     ⟨some 18, .mv (.t 0), some (17, false)⟩,
     ⟨some 19, .slS (.t 18) none (some (.c (.int .i64 2))), some (17, false)⟩,
     ⟨some 20, .call 169 [(.t 19), (.c (.int .i64 0)), (.c (.int .i64 23))], some (17, false)⟩,
     ⟨some 21, .un .not (.t 20), some (17, false)⟩,
     ⟨some 22, .pick (.t 17) (.c (.bool true)) (.t 21), none⟩,
     ⟨some 23, .mv (.t 22), none⟩,
     ⟨some 24, .mv (.t 0), some (23, false)⟩,
     ⟨some 25, .slS (.t 24) (some (.c (.int .i64 3))) (some (.c (.int .i64 5))), some (23, false)⟩,
     ⟨some 26, .call 169 [(.t 25), (.c (.int .i64 0)), (.c (.int .i64 59))], some (23, false)⟩,
     ⟨some 27, .un .not (.t 26), some (23, false)⟩,
     ⟨some 28, .pick (.t 23) (.c (.bool true)) (.t 27), none⟩,
     ⟨some 29, .mv (.t 28), none⟩,
     ⟨some 30, .mv (.t 0), some (29, false)⟩,
     ⟨some 31, .slS (.t 30) (some (.c (.int .i64 6))) (some (.c (.int .i64 8))), some (29, false)⟩,
     ⟨some 32, .call 169 [(.t 31), (.c (.int .i64 0)), (.c (.int .i64 59))], some (29, false)⟩,
     ⟨some 33, .un .not (.t 32), some (29, false)⟩,
     ⟨some 34, .pick (.t 29) (.c (.bool true)) (.t 33), none⟩] [0, 34])
   (.cnd (.t 34)
    (.seq
     (.reg [
       ⟨some 2, .mv (.c (.bool false)), none⟩] [2])
     .ret)
    .skip))
  (.seq
   (.seq
    (.reg [
      ⟨some 35, .mv (.t 0), none⟩,
      ⟨some 36, .lenS (.t 35), none⟩,
      ⟨some 37, .bin .eql (some .int) (.t 36) (.c (.int .i64 8)), none⟩] [0, 37])
    (.cnd (.t 37)
     (.seq
      (.reg [
        ⟨some 2, .mv (.c (.bool true)), none⟩] [2])
      .ret)
     .skip))
   (.seq
    (.reg [
      ⟨some 38, .mv (.t 0), none⟩,
      ⟨some 39, .slS (.t 38) (some (.c (.int .i64 9))) none, none⟩,
      ⟨some 3, .mv (.t 39), none⟩] [0, 3])
    (.seq
     (.reg [
       ⟨some 40, .mv (.t 0), none⟩,
       ⟨some 41, .ixS (.t 40) (.c (.int .i64 8)), none⟩,
       ⟨some 42, .bin .eql (some .int) (.t 41) (.c (.int .u8 46)), none⟩,
       ⟨some 43, .mv (.t 42), none⟩,
       ⟨some 44, .mv (.t 3), some (43, true)⟩,
       ⟨some 45, .lenS (.t 44), some (43, true)⟩,
       ⟨some 46, .bin .geq none (.t 45) (.c (.int .i64 1)), some (43, true)⟩,
       ⟨some 47, .pick (.t 43) (.t 46) (.c (.bool false)), none⟩,
       ⟨some 48, .mv (.t 47), none⟩,
       ⟨some 49, .mv (.t 3), some (48, true)⟩,
       ⟨some 50, .lenS (.t 49), some (48, true)⟩,
       ⟨some 51, .bin .leq none (.t 50) (.c (.int .i64 9)), some (48, true)⟩,
       ⟨some 52, .pick (.t 48) (.t 51) (.c (.bool false)), none⟩,
       ⟨some 53, .mv (.t 52), none⟩,
       ⟨some 54, .mv (.t 3), some (53, true)⟩,
       ⟨some 55, .call 171 [(.t 54), (.c (.str [48, 49, 50, 51, 52, 53, 54, 55, 56, 57]))], some (53, true)⟩,
       ⟨some 56, .bin .eql (some .str) (.t 55) (.c (.str [])), some (53, true)⟩,
       ⟨some 57, .pick (.t 53) (.t 56) (.c (.bool false)), none⟩,
       ⟨some 2, .mv (.t 57), none⟩] [2])
     .ret))))),
[.tmp 2]⟩
theorem F139_ok : prepF Go.Proofs.Tryz.prog ⟨[], [(0, [0]), (1, [0, 34]), (2, [2]), (3, [0, 37]), (4, [2]), (5, [0, 3]), (6, [2])], []⟩ Go.Proofs.Tryz.f139 = some F139 := by kernel_rfl
theorem F139_fn : FnOK2 Go.Proofs.Tryz.prog 139 (.pl F139) := .pl Go.Proofs.Tryz.func139 (by kernel_rfl) F139_ok
/-- emend/tree.zone -/
def F140 : DF := ⟨1,
(.seq
 (.reg [
   ⟨some 2, .mv (.c (.str [])), none⟩,
   ⟨some 3, .mv (.c (.str [])), none⟩] [0])
 (.seq
  (.seq
   (.reg [
     ⟨some 5, .mv (.t 0), none⟩,
     ⟨some 6, .call 172 [(.t 5), (.c (.str [90]))], none⟩] [0, 6])
   (.cnd (.t 6)
    (.seq
     (.reg [
       ⟨some 7, .mv (.t 0), none⟩,
       ⟨some 8, .mv (.t 0), none⟩,
       ⟨some 9, .lenS (.t 8), none⟩,
       ⟨some 10, .bin .sub none (.t 9) (.c (.int .i64 1)), none⟩,
       ⟨some 11, .slS (.t 7) none (some (.t 10)), none⟩,
       ⟨some 2, .mv (.t 11), none⟩,
       ⟨some 3, .mv (.c (.str [90])), none⟩] [2, 3])
     .ret)
    .skip))
  (.seq
   (.seq
    (.reg [
      ⟨some 12, .mv (.t 0), none⟩,
      ⟨some 13, .lenS (.t 12), none⟩,
      ⟨some 14, .bin .lss none (.t 13) (.c (.int .i64 6)), none⟩,
      ⟨some 15, .mv (.t 14), none⟩,
      ⟨some 16, .mv (.t 0), some (15, false)⟩,
      ⟨some 17, .mv (.t 0), some (15, false)⟩,
      ⟨some 18, .lenS (.t 17), some (15, false)⟩,
      ⟨some 19, .bin .sub none (.t 18) (.c (.int .i64 6)), some (15, false)⟩,
      ⟨some 20, .ixS (.t 16) (.t 19), some (15, false)⟩,
      ⟨some 21, .bin .neq (some .int) (.t 20) (.c (.int .u8 43)), some (15, false)⟩,
      ⟨some 22, .mv (.t 21), some (15, false)⟩,
      ⟨some 23, .mv (.t 0), some (22, true)⟩,
      ⟨some 24, .mv (.t 0), some (22, true)⟩,
      ⟨some 25, .lenS (.t 24), some (22, true)⟩,
      ⟨some 26, .bin .sub none (.t 25) (.c (.int .i64 6)), some (22, true)⟩,
      ⟨some 27, .ixS (.t 23) (.t 26), some (22, true)⟩,
      ⟨some 28, .bin .neq (some .int) (.t 27) (.c (.int .u8 45)), some (22, true)⟩,
      ⟨some 29, .pick (.t 22) (.t 28) (.c (.bool false)), some (15, false)⟩,
      ⟨some 30, .pick (.t 15) (.c (.bool true)) (.t 29), none⟩] [0, 30])
    (.cnd (.t 30)
     (.seq
      (.reg [
        ⟨some 31, .mv (.t 0), none⟩,
        ⟨some 2, .mv (.t 31), none⟩,
        ⟨some 3, .mv (.c (.str [])), none⟩] [2, 3])
      .ret)
     .skip))
   (.seq
    (.reg [
      ⟨some 32, .mv (.t 0), none⟩,
      ⟨some 33, .mv (.t 0), none⟩,
      ⟨some 34, .lenS (.t 33), none⟩,
      ⟨some 35, .bin .sub none (.t 34) (.c (.int .i64 6)), none⟩,
      ⟨some 36, .slS (.t 32) (some (.t 35)) none, none⟩,
      ⟨some 4, .mv (.t 36), none⟩] [0, 4])
    (.seq
     (.seq
      (.reg [
        ⟨some 37, .mv (.t 4), none⟩,
        ⟨some 38, .ixS (.t 37) (.c (.int .i64 3)), none⟩,
        ⟨some 39, .bin .neq (some .int) (.t 38) (.c (.int .u8 58)), none⟩,
        ⟨some 40, .mv (.t 39), none⟩,
        ⟨some 41, .mv (.t 4), some (40, false)⟩,
        ⟨some 42, .slS (.t 41) (some (.c (.int .i64 1))) (some (.c (.int .i64 3))), some (40, false)⟩,
        ⟨some 43, .call 169 [(.t 42), (.c (.int .i64 0)), (.c (.int .i64 23))], some (40, false)⟩,
        ⟨some 44, .un .not (.t 43), some (40, false)⟩,
        ⟨some 45, .pick (.t 40) (.c (.bool true)) (.t 44), none⟩,
        ⟨some 46, .mv (.t 45), none⟩,
        ⟨some 47, .mv (.t 4), some (46, false)⟩,
        ⟨some 48, .slS (.t 47) (some (.c (.int .i64 4))) none, some (46, false)⟩,
        ⟨some 49, .call 169 [(.t 48), (.c (.int .i64 0)), (.c (.int .i64 59))], some (46, false)⟩,
        ⟨some 50, .un .not (.t 49), some (46, false)⟩,
        ⟨some 51, .pick (.t 46) (.c (.bool true)) (.t 50), none⟩] [0, 4, 51])
      (.cnd (.t 51)
       (.seq
        (.reg [
          ⟨some 52, .mv (.t 0), none⟩,
          ⟨some 2, .mv (.t 52), none⟩,
          ⟨some 3, .mv (.c (.str [])), none⟩] [2, 3])
        .ret)
       .skip))
     (.seq
      (.reg [
        ⟨some 53, .mv (.t 0), none⟩,
        ⟨some 54, .mv (.t 0), none⟩,
        ⟨some 55, .lenS (.t 54), none⟩,
        ⟨some 56, .bin .sub none (.t 55) (.c (.int .i64 6)), none⟩,
        ⟨some 57, .slS (.t 53) none (some (.t 56)), none⟩,
        ⟨some 58, .mv (.t 4), none⟩,
        ⟨some 2, .mv (.t 57), none⟩,
        ⟨some 3, .mv (.t 58), none⟩] [2, 3])
      .ret)))))),
[.tmp 2, .tmp 3]⟩
theorem F140_ok : prepF Go.Proofs.Tryz.prog ⟨[], [(0, [0]), (1, [0, 6]), (2, [2, 3]), (3, [0, 30]), (4, [2, 3]), (5, [0, 4]), (6, [0, 4, 51]), (7, [2, 3]), (8, [2, 3])], []⟩ Go.Proofs.Tryz.f140 = some F140 := by kernel_rfl
theorem F140_fn : FnOK2 Go.Proofs.Tryz.prog 140 (.pl F140) := .pl Go.Proofs.Tryz.func140 (by kernel_rfl) F140_ok
/-- strings.Cut -/
def F141 : DF := ⟨2,
(.seq
 (.reg [
   ⟨some 4, .mv (.c (.str [])), none⟩,
   ⟨some 5, .mv (.c (.str [])), none⟩,
   ⟨some 6, .mv (.c (.bool false)), none⟩] [0, 1])
 (.seq
  (.reg [
    ⟨some 7, .mv (.t 0), none⟩,
    ⟨some 8, .mv (.t 1), none⟩,
    ⟨some 9, .call 173 [(.t 7), (.t 8)], none⟩,
    ⟨some 10, .ext (.t 9) 0, none⟩,
    ⟨some 11, .ext (.t 9) 1, none⟩,
    ⟨some 12, .ext (.t 9) 2, none⟩,
    ⟨some 4, .mv (.t 10), none⟩,
    ⟨some 5, .mv (.t 11), none⟩,
    ⟨some 6, .mv (.t 12), none⟩] [4, 5, 6])
  .ret)),
[.tmp 4, .tmp 5, .tmp 6]⟩
theorem F141_ok : prepF Go.Proofs.Tryz.prog ⟨[], [(0, [0, 1]), (1, [4, 5, 6])], []⟩ Go.Proofs.Tryz.f141 = some F141 := by kernel_rfl
theorem F141_fn : FnOK2 Go.Proofs.Tryz.prog 141 (.pl F141) := .pl Go.Proofs.Tryz.func141 (by kernel_rfl) F141_ok
/-- slices.SortStableFunc[[]int,int] -/
def F142 : DF := ⟨2,
(.reg [
  ⟨some 4, .mv (.t 0), none⟩,
  ⟨some 5, .mv (.t 0), none⟩,
  ⟨some 6, .len (.t 5), none⟩,
  ⟨some 7, .mv (.t 1), none⟩,
  ⟨some 8, .call 174 [(.t 4), (.t 6), (.t 7)], none⟩] []),
[]⟩
theorem F142_ok : prepF Go.Proofs.Tryz.prog ⟨[], [(0, [])], []⟩ Go.Proofs.Tryz.f142 = some F142 := by kernel_rfl
theorem F142_fn : FnOK2 Go.Proofs.Tryz.prog 142 (.pl F142) := .pl Go.Proofs.Tryz.func142 (by kernel_rfl) F142_ok
/-- emend/tree.order$1 -/
def F143 : DF := ⟨3,
(.seq
 (.reg [
   ⟨some 5, .mv (.c (.int .i64 0)), none⟩] [0, 1, 2])
 (.seq
  (.drw [
    ((⟨some 6, .ld false 1 (.t 2), none⟩, none), []),
    ((⟨some 7, .mv (.t 0), none⟩, none), []),
    ((⟨some 8, .ia 1 (.t 6) (.t 7), none⟩, none), []),
    ((⟨some 9, .ld false 1 (.t 8), none⟩, none), []),
    ((⟨some 10, .ld false 1 (.t 2), none⟩, none), []),
    ((⟨some 11, .mv (.t 1), none⟩, none), []),
    ((⟨some 12, .ia 1 (.t 10) (.t 11), none⟩, none), []),
    ((⟨some 13, .ld false 1 (.t 12), none⟩, none), []),
    ((⟨some 14, .call 144 [(.t 9), (.t 13)], none⟩, none), []),
    ((⟨some 5, .mv (.t 14), none⟩, none), [])] [5])
  .ret)),
[.tmp 5]⟩
theorem F143_ok : prepF Go.Proofs.Tryz.prog ⟨[], [(0, [0, 1, 2]), (1, [5])], []⟩ Go.Proofs.Tryz.f143 = some F143 := by kernel_rfl
theorem F143_fn : FnOK2 Go.Proofs.Tryz.prog 143 (.pl F143) := .pl Go.Proofs.Tryz.func143 (by kernel_rfl) F143_ok
/-- strings.Compare -/
def F144 : DF := ⟨2,
(.seq
 (.reg [
   ⟨some 4, .mv (.c (.int .i64 0)), none⟩] [0, 1])
 (.seq
  (.reg [
    ⟨some 5, .mv (.t 0), none⟩,
    ⟨some 6, .mv (.t 1), none⟩,
    ⟨some 7, .call 175 [(.t 5), (.t 6)], none⟩,
    ⟨some 4, .mv (.t 7), none⟩] [4])
  .ret)),
[.tmp 4]⟩
theorem F144_ok : prepF Go.Proofs.Tryz.prog ⟨[], [(0, [0, 1]), (1, [4])], []⟩ Go.Proofs.Tryz.f144 = some F144 := by kernel_rfl
theorem F144_fn : FnOK2 Go.Proofs.Tryz.prog 144 (.pl F144) := .pl Go.Proofs.Tryz.func144 (by kernel_rfl) F144_ok
/-- emend/text.row -/
def F145 : DF := ⟨1,
(.seq
 (.reg [
   ⟨some 2, .mv (.c (.int .i64 0)), none⟩,
   ⟨some 3, .mv (.c (.int .i64 0)), none⟩,
   ⟨some 4, .mv (.c (.int .i64 0)), none⟩] [0])
 (.seq
  (.blk 0
   (.seq
    (.reg [
      ⟨some 6, .mv (.t 0), none⟩,
      ⟨some 7, .bin .shr none (.t 6) (.c (.int .u64 7)), none⟩,
      ⟨some 8, .bin .eql (some .int) (.t 7) (.c (.int .u8 0)), none⟩,
      ⟨some 5, .mv (.t 8), none⟩] [0, 5])
    (.cnd (.t 5)
     (.seq
      (.reg [
        ⟨some 9, .mv (.t 0), none⟩,
        ⟨some 10, .cvI .i64 (.t 9), none⟩,
        ⟨some 2, .mv (.c (.int .i64 1)), none⟩,
        ⟨some 3, .mv (.t 10), none⟩,
        ⟨some 4, .mv (.c (.int .i64 0)), none⟩] [2, 3, 4])
      .ret)
     (.seq
      (.reg [
        ⟨some 12, .mv (.t 0), none⟩,
        ⟨some 13, .bin .shr none (.t 12) (.c (.int .u64 5)), none⟩,
        ⟨some 14, .bin .eql (some .int) (.t 13) (.c (.int .u8 6)), none⟩,
        ⟨some 11, .mv (.t 14), none⟩] [0, 11])
      (.cnd (.t 11)
       (.seq
        (.reg [
          ⟨some 15, .mv (.t 0), none⟩,
          ⟨some 16, .bin .and none (.t 15) (.c (.int .u8 31)), none⟩,
          ⟨some 17, .cvI .i64 (.t 16), none⟩,
          ⟨some 2, .mv (.c (.int .i64 2)), none⟩,
          ⟨some 3, .mv (.t 17), none⟩,
          ⟨some 4, .mv (.c (.int .i64 128)), none⟩] [2, 3, 4])
        .ret)
       (.seq
        (.reg [
          ⟨some 19, .mv (.t 0), none⟩,
          ⟨some 20, .bin .shr none (.t 19) (.c (.int .u64 4)), none⟩,
          ⟨some 21, .bin .eql (some .int) (.t 20) (.c (.int .u8 14)), none⟩,
          ⟨some 18, .mv (.t 21), none⟩] [0, 18])
        (.cnd (.t 18)
         (.seq
          (.reg [
            ⟨some 22, .mv (.t 0), none⟩,
            ⟨some 23, .bin .and none (.t 22) (.c (.int .u8 15)), none⟩,
            ⟨some 24, .cvI .i64 (.t 23), none⟩,
            ⟨some 2, .mv (.c (.int .i64 3)), none⟩,
            ⟨some 3, .mv (.t 24), none⟩,
            ⟨some 4, .mv (.c (.int .i64 2048)), none⟩] [2, 3, 4])
          .ret)
         (.seq
          (.reg [
            ⟨some 26, .mv (.t 0), none⟩,
            ⟨some 27, .bin .shr none (.t 26) (.c (.int .u64 3)), none⟩,
            ⟨some 28, .bin .eql (some .int) (.t 27) (.c (.int .u8 30)), none⟩,
            ⟨some 25, .mv (.t 28), none⟩] [0, 25])
          (.cnd (.t 25)
           (.seq
            (.reg [
              ⟨some 29, .mv (.t 0), none⟩,
              ⟨some 30, .bin .and none (.t 29) (.c (.int .u8 7)), none⟩,
              ⟨some 31, .cvI .i64 (.t 30), none⟩,
              ⟨some 2, .mv (.c (.int .i64 4)), none⟩,
              ⟨some 3, .mv (.t 31), none⟩,
              ⟨some 4, .mv (.c (.int .i64 65536)), none⟩] [2, 3, 4])
            .ret)
           .skip)))))))))
  (.seq
   (.reg [
     ⟨some 2, .mv (.c (.int .i64 0)), none⟩,
     ⟨some 3, .mv (.c (.int .i64 0)), none⟩,
     ⟨some 4, .mv (.c (.int .i64 0)), none⟩] [2, 3, 4])
   .ret))),
[.tmp 2, .tmp 3, .tmp 4]⟩
theorem F145_ok : prepF Go.Proofs.Tryz.prog ⟨[], [(0, [0]), (1, [0, 5]), (2, [2, 3, 4]), (3, [0, 11]), (4, [2, 3, 4]), (5, [0, 18]), (6, [2, 3, 4]), (7, [0, 25]), (8, [2, 3, 4]), (9, [2, 3, 4])], []⟩ Go.Proofs.Tryz.f145 = some F145 := by kernel_rfl
theorem F145_fn : FnOK2 Go.Proofs.Tryz.prog 145 (.pl F145) := .pl Go.Proofs.Tryz.func145 (by kernel_rfl) F145_ok
/-- emend/text.character -/
def F146 : DF := ⟨1,
(.seq
 (.reg [
   ⟨some 2, .mv (.c (.bool false)), none⟩] [0])
 (.seq
  (.reg [
    ⟨some 3, .mv (.t 0), none⟩,
    ⟨some 4, .bin .geq none (.t 3) (.c (.int .i64 0)), none⟩,
    ⟨some 5, .mv (.t 4), none⟩,
    ⟨some 6, .mv (.t 0), some (5, true)⟩,
    ⟨some 7, .bin .leq none (.t 6) (.c (.int .i64 1114111)), some (5, true)⟩,
    ⟨some 8, .pick (.t 5) (.t 7) (.c (.bool false)), none⟩,
    ⟨some 9, .mv (.t 8), none⟩,
    ⟨some 10, .mv (.t 0), some (9, true)⟩,
    ⟨some 11, .bin .lss none (.t 10) (.c (.int .i64 55296)), some (9, true)⟩,
    ⟨some 12, .mv (.t 11), some (9, true)⟩,
    ⟨some 13, .mv (.t 0), some (12, false)⟩,
    ⟨some 14, .bin .gtr none (.t 13) (.c (.int .i64 57343)), some (12, false)⟩,
    ⟨some 15, .pick (.t 12) (.c (.bool true)) (.t 14), some (9, true)⟩,
    ⟨some 16, .pick (.t 9) (.t 15) (.c (.bool false)), none⟩,
    ⟨some 2, .mv (.t 16), none⟩] [2])
  .ret)),
[.tmp 2]⟩
theorem F146_ok : prepF Go.Proofs.Tryz.prog ⟨[], [(0, [0]), (1, [2])], []⟩ Go.Proofs.Tryz.f146 = some F146 := by kernel_rfl
theorem F146_fn : FnOK2 Go.Proofs.Tryz.prog 146 (.pl F146) := .pl Go.Proofs.Tryz.func146 (by kernel_rfl) F146_ok
/-- emend/text.Escaped -/
def F147 : DF := ⟨1,
(.seq
 (.reg [
   ⟨some 2, .mv (.c (.int .i64 0)), none⟩,
   ⟨some 3, .mv (.c (.int .i64 0)), none⟩] [0])
 (.seq
  (.seq
   (.reg [
     ⟨some 4, .mv (.t 0), none⟩,
     ⟨some 5, .bin .eql (some .str) (.t 4) (.c (.str [])), none⟩] [0, 5])
   (.cnd (.t 5)
    (.seq
     (.reg [
       ⟨some 2, .mv (.c (.int .i64 0)), none⟩,
       ⟨some 3, .mv (.c (.int .i64 0)), none⟩] [2, 3])
     .ret)
    .skip))
  (.seq
   (.seq
    (.reg [
      ⟨some 6, .mv (.t 0), none⟩,
      ⟨some 7, .ixS (.t 6) (.c (.int .i64 0)), none⟩] [0, 7])
    (.blk 0
     (.seq
      (.seq
       (.reg [
         ⟨some 9, .bin .eql (some .int) (.t 7) (.c (.int .u8 34)), none⟩,
         ⟨some 8, .mv (.t 9), none⟩] [0, 7, 8])
       (.cnd (.t 8)
        .skip
        (.seq
         (.reg [
           ⟨some 10, .bin .eql (some .int) (.t 7) (.c (.int .u8 92)), none⟩,
           ⟨some 8, .mv (.t 10), none⟩] [0, 7, 8])
         (.cnd (.t 8)
          .skip
          (.reg [
            ⟨some 11, .bin .eql (some .int) (.t 7) (.c (.int .u8 47)), none⟩,
            ⟨some 8, .mv (.t 11), none⟩] [0, 7, 8])))))
      (.cnd (.t 8)
       (.seq
        (.reg [
          ⟨some 12, .mv (.t 0), none⟩,
          ⟨some 13, .ixS (.t 12) (.c (.int .i64 0)), none⟩,
          ⟨some 14, .cvI .i64 (.t 13), none⟩,
          ⟨some 2, .mv (.t 14), none⟩,
          ⟨some 3, .mv (.c (.int .i64 1)), none⟩] [2, 3])
        .ret)
       (.seq
        (.reg [
          ⟨some 16, .bin .eql (some .int) (.t 7) (.c (.int .u8 98)), none⟩,
          ⟨some 15, .mv (.t 16), none⟩] [0, 7, 15])
        (.cnd (.t 15)
         (.seq
          (.reg [
            ⟨some 2, .mv (.c (.int .i64 8)), none⟩,
            ⟨some 3, .mv (.c (.int .i64 1)), none⟩] [2, 3])
          .ret)
         (.seq
          (.reg [
            ⟨some 18, .bin .eql (some .int) (.t 7) (.c (.int .u8 116)), none⟩,
            ⟨some 17, .mv (.t 18), none⟩] [0, 7, 17])
          (.cnd (.t 17)
           (.seq
            (.reg [
              ⟨some 2, .mv (.c (.int .i64 9)), none⟩,
              ⟨some 3, .mv (.c (.int .i64 1)), none⟩] [2, 3])
            .ret)
           (.seq
            (.reg [
              ⟨some 20, .bin .eql (some .int) (.t 7) (.c (.int .u8 110)), none⟩,
              ⟨some 19, .mv (.t 20), none⟩] [0, 7, 19])
            (.cnd (.t 19)
             (.seq
              (.reg [
                ⟨some 2, .mv (.c (.int .i64 10)), none⟩,
                ⟨some 3, .mv (.c (.int .i64 1)), none⟩] [2, 3])
              .ret)
             (.seq
              (.reg [
                ⟨some 22, .bin .eql (some .int) (.t 7) (.c (.int .u8 102)), none⟩,
                ⟨some 21, .mv (.t 22), none⟩] [0, 7, 21])
              (.cnd (.t 21)
               (.seq
                (.reg [
                  ⟨some 2, .mv (.c (.int .i64 12)), none⟩,
                  ⟨some 3, .mv (.c (.int .i64 1)), none⟩] [2, 3])
                .ret)
               (.seq
                (.reg [
                  ⟨some 24, .bin .eql (some .int) (.t 7) (.c (.int .u8 114)), none⟩,
                  ⟨some 23, .mv (.t 24), none⟩] [0, 7, 23])
                (.cnd (.t 23)
                 (.seq
                  (.reg [
                    ⟨some 2, .mv (.c (.int .i64 13)), none⟩,
                    ⟨some 3, .mv (.c (.int .i64 1)), none⟩] [2, 3])
                  .ret)
                 (.seq
                  (.reg [
                    ⟨some 26, .bin .eql (some .int) (.t 7) (.c (.int .u8 117)), none⟩,
                    ⟨some 25, .mv (.t 26), none⟩] [0, 25])
                  (.cnd (.t 25)
                   (.seq
                    (.reg [
                      ⟨some 27, .mv (.t 0), none⟩,
                      ⟨some 28, .call 176 [(.t 27)], none⟩,
                      ⟨some 29, .ext (.t 28) 0, none⟩,
                      ⟨some 30, .ext (.t 28) 1, none⟩,
                      ⟨some 2, .mv (.t 29), none⟩,
                      ⟨some 3, .mv (.t 30), none⟩] [2, 3])
                    .ret)
                   .skip))))))))))))))))
   (.seq
    (.reg [
      ⟨some 2, .mv (.c (.int .i64 0)), none⟩,
      ⟨some 3, .mv (.c (.int .i64 0)), none⟩] [2, 3])
    .ret)))),
[.tmp 2, .tmp 3]⟩
theorem F147_ok : prepF Go.Proofs.Tryz.prog ⟨[], [(0, [0]), (1, [0, 5]), (2, [2, 3]), (3, [0, 7]), (4, [0, 7, 8]), (5, [0, 7, 8]), (6, [0, 7, 8]), (7, [2, 3]), (8, [0, 7, 15]), (9, [2, 3]), (10, [0, 7, 17]), (11, [2, 3]), (12, [0, 7, 19]), (13, [2, 3]), (14, [0, 7, 21]), (15, [2, 3]), (16, [0, 7, 23]), (17, [2, 3]), (18, [0, 25]), (19, [2, 3]), (20, [2, 3])], []⟩ Go.Proofs.Tryz.f147 = some F147 := by kernel_rfl
theorem F147_fn : FnOK2 Go.Proofs.Tryz.prog 147 (.pl F147) := .pl Go.Proofs.Tryz.func147 (by kernel_rfl) F147_ok
/-- emend/text.put -/
def F148 : DF := ⟨2,
(.seq
 (.reg [
   ⟨some 3, .bxH 3 (.t 1), none⟩,
   ⟨some 4, .mv (.c (.sl 1 ⟨none, 0, (some 0), true⟩ [])), none⟩] [0, 3])
 (.seq
  (.reg [
    ⟨some 6, .mkf 177 [] [(.t 3)], none⟩,
    ⟨some 5, .mv (.t 6), none⟩] [0, 3, 5])
  (.seq
   (.blk 0
    (.seq
     (.reg [
       ⟨some 8, .ld false 1 (.t 3), none⟩,
       ⟨some 9, .bin .lss none (.t 8) (.c (.int .i64 128)), none⟩,
       ⟨some 7, .mv (.t 9), none⟩] [0, 3, 5, 7])
     (.cnd (.t 7)
      (.seq
       (.reg [
         ⟨some 10, .mv (.t 0), none⟩,
         ⟨some 11, .ld false 1 (.t 3), none⟩,
         ⟨some 12, .cvI .u8 (.t 11), none⟩,
         ⟨some 13, .bldT 5 1 1 (.int .u8 0) [(0, (.t 12))], none⟩,
         ⟨some 14, .app false 5 1 1 (.t 10) (.t 13), none⟩,
         ⟨some 4, .mv (.t 14), none⟩] [4])
       .ret)
      (.seq
       (.reg [
         ⟨some 16, .ld false 1 (.t 3), none⟩,
         ⟨some 17, .bin .lss none (.t 16) (.c (.int .i64 2048)), none⟩,
         ⟨some 15, .mv (.t 17), none⟩] [0, 3, 5, 15])
       (.cnd (.t 15)
        (.seq
         (.drw [
           ((⟨some 18, .mv (.t 0), none⟩, none), []),
           ((⟨some 19, .ld false 1 (.t 3), none⟩, none), []),
           ((⟨some 20, .bin .shr none (.t 19) (.c (.int .u64 6)), none⟩, none), []),
           ((⟨some 21, .bin .or none (.c (.int .i64 192)) (.t 20), none⟩, none), []),
           ((⟨some 22, .cvI .u8 (.t 21), none⟩, none), []),
           ((⟨some 23, .mv (.t 5), none⟩, none), []),
           ((⟨some 24, .callv (.t 23) [(.c (.int .i64 0))], none⟩, none), [(⟨some 19, .ld false 1 (.t 3), none⟩, none)]),
           ((⟨some 25, .bldS 1 2 (.int .u8 0) [(0, (.t 22)), (1, (.t 24))], none⟩, none), []),
           ((⟨some 26, .app false 5 1 1 (.t 18) (.t 25), none⟩, none), []),
           ((⟨some 4, .mv (.t 26), none⟩, none), [])] [4])
         .ret)
        (.seq
         (.reg [
           ⟨some 28, .ld false 1 (.t 3), none⟩,
           ⟨some 29, .bin .lss none (.t 28) (.c (.int .i64 65536)), none⟩,
           ⟨some 27, .mv (.t 29), none⟩] [0, 3, 5, 27])
         (.cnd (.t 27)
          (.seq
           (.drw [
             ((⟨some 30, .mv (.t 0), none⟩, none), []),
             ((⟨some 31, .ld false 1 (.t 3), none⟩, none), []),
             ((⟨some 32, .bin .shr none (.t 31) (.c (.int .u64 12)), none⟩, none), []),
             ((⟨some 33, .bin .or none (.c (.int .i64 224)) (.t 32), none⟩, none), []),
             ((⟨some 34, .cvI .u8 (.t 33), none⟩, none), []),
             ((⟨some 35, .mv (.t 5), none⟩, none), []),
             ((⟨some 37, .mv (.t 5), none⟩, none), []),
             ((⟨some 36, .callv (.t 35) [(.c (.int .i64 6))], none⟩, none), [(⟨some 31, .ld false 1 (.t 3), none⟩, none)]),
             ((⟨some 38, .callv (.t 37) [(.c (.int .i64 0))], none⟩, none), [(⟨some 31, .ld false 1 (.t 3), none⟩, none)]),
             ((⟨some 39, .bldS 1 3 (.int .u8 0) [(0, (.t 34)), (1, (.t 36)), (2, (.t 38))], none⟩, none), []),
             ((⟨some 40, .app false 5 1 1 (.t 30) (.t 39), none⟩, none), []),
             ((⟨some 4, .mv (.t 40), none⟩, none), [])] [4])
           .ret)
          .skip)))))))
   (.seq
    (.drw [
      ((⟨some 41, .mv (.t 0), none⟩, none), []),
      ((⟨some 42, .ld false 1 (.t 3), none⟩, none), []),
      ((⟨some 43, .bin .shr none (.t 42) (.c (.int .u64 18)), none⟩, none), []),
      ((⟨some 44, .bin .or none (.c (.int .i64 240)) (.t 43), none⟩, none), []),
      ((⟨some 45, .cvI .u8 (.t 44), none⟩, none), []),
      ((⟨some 46, .mv (.t 5), none⟩, none), []),
      ((⟨some 48, .mv (.t 5), none⟩, none), []),
      ((⟨some 50, .mv (.t 5), none⟩, none), []),
      ((⟨some 47, .callv (.t 46) [(.c (.int .i64 12))], none⟩, none), [(⟨some 42, .ld false 1 (.t 3), none⟩, none)]),
      ((⟨some 49, .callv (.t 48) [(.c (.int .i64 6))], none⟩, none), [(⟨some 42, .ld false 1 (.t 3), none⟩, none)]),
      ((⟨some 51, .callv (.t 50) [(.c (.int .i64 0))], none⟩, none), [(⟨some 42, .ld false 1 (.t 3), none⟩, none)]),
      ((⟨some 52, .bldS 1 4 (.int .u8 0) [(0, (.t 45)), (1, (.t 47)), (2, (.t 49)), (3, (.t 51))], none⟩, none), []),
      ((⟨some 53, .app false 5 1 1 (.t 41) (.t 52), none⟩, none), []),
      ((⟨some 4, .mv (.t 53), none⟩, none), [])] [4])
    .ret)))),
[.tmp 4]⟩
theorem F148_ok : prepF Go.Proofs.Tryz.prog ⟨[], [(0, [0, 3]), (1, [0, 3, 5]), (2, [0, 3, 5, 7]), (3, [4]), (4, [0, 3, 5, 15]), (5, [4]), (6, [0, 3, 5, 27]), (7, [4]), (8, [4])], []⟩ Go.Proofs.Tryz.f148 = some F148 := by kernel_rfl
theorem F148_fn : FnOK2 Go.Proofs.Tryz.prog 148 (.pl F148) := .pl Go.Proofs.Tryz.func148 (by kernel_rfl) F148_ok
/-- (*strings.Builder).WriteByte -/
def F149 : DF := ⟨2,
(.seq
 (.reg [
   ⟨some 4, .mv (.c .nilif), none⟩] [0, 1])
 (.seq
  (.reg [
    ⟨some 5, .mv (.t 0), none⟩,
    ⟨some 6, .call 98 [(.t 5)], none⟩] [0, 1])
  (.seq
   (.reg [
     ⟨some 7, .mv (.t 0), none⟩,
     ⟨some 8, .mv (.t 0), none⟩,
     ⟨some 9, .nilc (.t 8), none⟩,
     ⟨some 10, .fa 1 (.t 9), none⟩,
     ⟨some 11, .ld false 1 (.t 10), none⟩,
     ⟨some 12, .mv (.t 1), none⟩,
     ⟨some 13, .bldT 5 1 1 (.int .u8 0) [(0, (.t 12))], none⟩,
     ⟨some 14, .app false 5 1 1 (.t 11) (.t 13), none⟩,
     ⟨some 15, .nilc (.t 7), none⟩,
     ⟨some 16, .fa 1 (.t 15), none⟩,
     ⟨none, .st 1 (.t 16) (.t 14), none⟩] [])
   (.seq
    (.reg [
      ⟨some 4, .mv (.c .nilif), none⟩] [4])
    .ret)))),
[.tmp 4]⟩
theorem F149_ok : prepF Go.Proofs.Tryz.prog ⟨[], [(0, [0, 1]), (1, [0, 1]), (2, []), (3, [4])], []⟩ Go.Proofs.Tryz.f149 = some F149 := by kernel_rfl
theorem F149_fn : FnOK2 Go.Proofs.Tryz.prog 149 (.pl F149) := .pl Go.Proofs.Tryz.func149 (by kernel_rfl) F149_ok
/-- emend/text.short -/
def F150 : DF := ⟨1,
(.seq
 (.reg [
   ⟨some 2, .mv (.c (.int .u8 0)), none⟩] [0])
 (.seq
  (.seq
   (.reg [
     ⟨some 3, .mv (.t 0), none⟩] [0, 3])
   (.blk 0
    (.seq
     (.seq
      (.reg [
        ⟨some 5, .bin .eql (some .int) (.t 3) (.c (.int .u8 34)), none⟩,
        ⟨some 4, .mv (.t 5), none⟩] [0, 3, 4])
      (.cnd (.t 4)
       .skip
       (.reg [
         ⟨some 6, .bin .eql (some .int) (.t 3) (.c (.int .u8 92)), none⟩,
         ⟨some 4, .mv (.t 6), none⟩] [0, 3, 4])))
     (.cnd (.t 4)
      (.seq
       (.reg [
         ⟨some 7, .mv (.t 0), none⟩,
         ⟨some 2, .mv (.t 7), none⟩] [2])
       .ret)
      (.seq
       (.reg [
         ⟨some 9, .bin .eql (some .int) (.t 3) (.c (.int .u8 8)), none⟩,
         ⟨some 8, .mv (.t 9), none⟩] [3, 8])
       (.cnd (.t 8)
        (.seq
         (.reg [
           ⟨some 2, .mv (.c (.int .u8 98)), none⟩] [2])
         .ret)
        (.seq
         (.reg [
           ⟨some 11, .bin .eql (some .int) (.t 3) (.c (.int .u8 9)), none⟩,
           ⟨some 10, .mv (.t 11), none⟩] [3, 10])
         (.cnd (.t 10)
          (.seq
           (.reg [
             ⟨some 2, .mv (.c (.int .u8 116)), none⟩] [2])
           .ret)
          (.seq
           (.reg [
             ⟨some 13, .bin .eql (some .int) (.t 3) (.c (.int .u8 10)), none⟩,
             ⟨some 12, .mv (.t 13), none⟩] [3, 12])
           (.cnd (.t 12)
            (.seq
             (.reg [
               ⟨some 2, .mv (.c (.int .u8 110)), none⟩] [2])
             .ret)
            (.seq
             (.reg [
               ⟨some 15, .bin .eql (some .int) (.t 3) (.c (.int .u8 12)), none⟩,
               ⟨some 14, .mv (.t 15), none⟩] [3, 14])
             (.cnd (.t 14)
              (.seq
               (.reg [
                 ⟨some 2, .mv (.c (.int .u8 102)), none⟩] [2])
               .ret)
              (.seq
               (.reg [
                 ⟨some 17, .bin .eql (some .int) (.t 3) (.c (.int .u8 13)), none⟩,
                 ⟨some 16, .mv (.t 17), none⟩] [16])
               (.cnd (.t 16)
                (.seq
                 (.reg [
                   ⟨some 2, .mv (.c (.int .u8 114)), none⟩] [2])
                 .ret)
                .skip))))))))))))))
  (.seq
   (.reg [
     ⟨some 2, .mv (.c (.int .u8 0)), none⟩] [2])
   .ret))),
[.tmp 2]⟩
theorem F150_ok : prepF Go.Proofs.Tryz.prog ⟨[], [(0, [0]), (1, [0, 3]), (2, [0, 3, 4]), (3, [0, 3, 4]), (4, [2]), (5, [3, 8]), (6, [2]), (7, [3, 10]), (8, [2]), (9, [3, 12]), (10, [2]), (11, [3, 14]), (12, [2]), (13, [16]), (14, [2]), (15, [2])], []⟩ Go.Proofs.Tryz.f150 = some F150 := by kernel_rfl
theorem F150_fn : FnOK2 Go.Proofs.Tryz.prog 150 (.pl F150) := .pl Go.Proofs.Tryz.func150 (by kernel_rfl) F150_ok
/-- emend/text.digit -/
def F151 : DF := ⟨1,
(.seq
 (.reg [
   ⟨some 2, .mv (.c (.int .u8 0)), none⟩] [0])
 (.seq
  (.reg [
    ⟨some 3, .mv (.t 0), none⟩,
    ⟨some 4, .bin .and none (.t 3) (.c (.int .i64 15)), none⟩,
    ⟨some 5, .ixS (.c (.str [48, 49, 50, 51, 52, 53, 54, 55, 56, 57, 97, 98, 99, 100, 101, 102])) (.t 4), none⟩,
    ⟨some 2, .mv (.t 5), none⟩] [2])
  .ret)),
[.tmp 2]⟩
theorem F151_ok : prepF Go.Proofs.Tryz.prog ⟨[], [(0, [0]), (1, [2])], []⟩ Go.Proofs.Tryz.f151 = some F151 := by kernel_rfl
theorem F151_fn : FnOK2 Go.Proofs.Tryz.prog 151 (.pl F151) := .pl Go.Proofs.Tryz.func151 (by kernel_rfl) F151_ok
/-- internal/strconv.FormatInt -/
def F156 : DF := ⟨2,
(.seq
 (.reg [
   ⟨some 4, .mv (.c (.str [])), none⟩] [0, 1])
 (.seq
  (.seq
   (.reg [
     ⟨some 10, .mv (.t 1), none⟩,
     ⟨some 11, .bin .eql (some .int) (.t 10) (.c (.int .i64 10)), none⟩] [0, 1, 11])
   (.cnd (.t 11)
    (.seq
     (.seq
      (.reg [
        ⟨some 12, .mv (.t 0), none⟩,
        ⟨some 13, .bin .leq none (.c (.int .i64 0)) (.t 12), none⟩,
        ⟨some 14, .mv (.t 13), none⟩,
        ⟨some 15, .mv (.t 0), some (14, true)⟩,
        ⟨some 16, .bin .lss none (.t 15) (.c (.int .i64 100)), some (14, true)⟩,
        ⟨some 17, .pick (.t 14) (.t 16) (.c (.bool false)), none⟩] [0, 17])
      (.cnd (.t 17)
       (.seq
        (.reg [
          ⟨some 18, .mv (.t 0), none⟩,
          ⟨some 19, .call 180 [(.t 18)], none⟩,
          ⟨some 4, .mv (.t 19), none⟩] [4])
        .ret)
       .skip))
     (.seq
      (.reg [
        ⟨some 5, .alH 210 [(.int .u8 0), (.int .u8 0), (.int .u8 0), (.int .u8 0), (.int .u8 0), (.int .u8 0), (.int .u8 0), (.int .u8 0), (.int .u8 0), (.int .u8 0), (.int .u8 0), (.int .u8 0), (.int .u8 0), (.int .u8 0), (.int .u8 0), (.int .u8 0), (.int .u8 0), (.int .u8 0), (.int .u8 0), (.int .u8 0), (.int .u8 0), (.int .u8 0), (.int .u8 0), (.int .u8 0)], none⟩] [0, 5])
      (.seq
       (.reg [
         ⟨some 20, .mv (.t 0), none⟩,
         ⟨some 21, .cvI .u64 (.t 20), none⟩,
         ⟨some 6, .mv (.t 21), none⟩] [0, 5, 6])
       (.seq
        (.seq
         (.reg [
           ⟨some 22, .mv (.t 0), none⟩,
           ⟨some 23, .bin .lss none (.t 22) (.c (.int .i64 0)), none⟩] [0, 5, 6, 23])
         (.cnd (.t 23)
          (.reg [
            ⟨some 24, .mv (.t 6), none⟩,
            ⟨some 25, .un .neg (.t 24), none⟩,
            ⟨some 6, .mv (.t 25), none⟩] [0, 5, 6])
          .skip))
        (.seq
         (.reg [
           ⟨some 26, .mv (.t 6), none⟩,
           ⟨some 27, .call 181 [(.t 26)], none⟩,
           ⟨some 7, .mv (.t 27), none⟩] [0, 5, 6, 7])
         (.seq
          (.reg [
            ⟨some 28, .mv (.t 7), none⟩,
            ⟨some 29, .bin .add none (.c (.int .i64 1)) (.t 28), none⟩,
            ⟨some 30, .slP 1 24 (.t 5) (some (.c (.int .i64 1))) (some (.t 29)), none⟩,
            ⟨some 31, .mv (.t 6), none⟩,
            ⟨some 32, .call 182 [(.t 30), (.t 31)], none⟩] [0, 5, 7])
          (.seq
           (.seq
            (.reg [
              ⟨some 33, .mv (.t 0), none⟩,
              ⟨some 34, .bin .lss none (.t 33) (.c (.int .i64 0)), none⟩] [5, 7, 34])
            (.cnd (.t 34)
             (.seq
              (.reg [
                ⟨some 35, .iaA 1 24 (.t 5) (.c (.int .i64 0)), none⟩,
                ⟨none, .st 1 (.t 35) (.c (.int .u8 45)), none⟩] [5, 7])
              (.seq
               (.reg [
                 ⟨some 36, .mv (.t 7), none⟩,
                 ⟨some 37, .bin .add none (.c (.int .i64 1)) (.t 36), none⟩,
                 ⟨some 38, .slP 1 24 (.t 5) none (some (.t 37)), none⟩,
                 ⟨some 39, .cvBS (.t 38), none⟩,
                 ⟨some 4, .mv (.t 39), none⟩] [4])
               .ret))
             .skip))
           (.seq
            (.reg [
              ⟨some 40, .mv (.t 7), none⟩,
              ⟨some 41, .bin .add none (.c (.int .i64 1)) (.t 40), none⟩,
              ⟨some 42, .slP 1 24 (.t 5) (some (.c (.int .i64 1))) (some (.t 41)), none⟩,
              ⟨some 43, .cvBS (.t 42), none⟩,
              ⟨some 4, .mv (.t 43), none⟩] [4])
            .ret))))))))
    .skip))
  (.seq
   (.reg [
     ⟨some 45, .mv (.t 0), none⟩,
     ⟨some 46, .cvI .u64 (.t 45), none⟩,
     ⟨some 47, .mv (.t 1), none⟩,
     ⟨some 48, .mv (.t 0), none⟩,
     ⟨some 49, .bin .lss none (.t 48) (.c (.int .i64 0)), none⟩,
     ⟨some 50, .call 183 [(.c (.sl 1 ⟨none, 0, (some 0), true⟩ [])), (.t 46), (.t 47), (.t 49), (.c (.bool false))], none⟩,
     ⟨some 44, .mv (.t 50), none⟩,
     ⟨some 51, .ext (.t 44) 0, none⟩,
     ⟨some 52, .ext (.t 44) 1, none⟩,
     ⟨some 8, .mv (.t 51), none⟩,
     ⟨some 9, .mv (.t 52), none⟩] [9])
   (.seq
    (.reg [
      ⟨some 53, .mv (.t 9), none⟩,
      ⟨some 4, .mv (.t 53), none⟩] [4])
    .ret)))),
[.tmp 4]⟩
theorem F156_ok : prepF Go.Proofs.Tryz.prog ⟨[], [(0, [0, 1]), (1, [0, 1, 11]), (2, [0, 17]), (3, [4]), (4, [0, 5]), (5, [0, 5, 6]), (6, [0, 5, 6, 23]), (7, [0, 5, 6]), (8, [0, 5, 6, 7]), (9, [0, 5, 7]), (10, [5, 7, 34]), (11, [5, 7]), (12, [4]), (13, [4]), (14, [9]), (15, [4])], []⟩ Go.Proofs.Tryz.f156 = some F156 := by kernel_rfl
theorem F156_fn : FnOK2 Go.Proofs.Tryz.prog 156 (.pl F156) := .pl Go.Proofs.Tryz.func156 (by kernel_rfl) F156_ok
/-- emend/num.cut -/
def F163 : DF := ⟨1,
(.seq
 (.reg [
   ⟨some 2, .mv (.c (.bool false)), none⟩,
   ⟨some 3, .mv (.c (.str [])), none⟩,
   ⟨some 4, .mv (.c (.str [])), none⟩,
   ⟨some 5, .mv (.c (.str [])), none⟩,
   ⟨some 6, .mv (.c (.bool false)), none⟩] [0, 4])
 (.seq
  (.reg [
    ⟨some 10, .mv (.t 0), none⟩,
    ⟨some 7, .mv (.t 10), none⟩] [4, 7])
  (.seq
   (.seq
    (.reg [
      ⟨some 11, .mv (.t 7), none⟩,
      ⟨some 12, .call 187 [(.t 11), (.c (.str [45]))], none⟩,
      ⟨some 2, .mv (.t 12), none⟩] [2, 4, 7])
    (.seq
     (.reg [
       ⟨some 13, .mv (.t 2), none⟩] [2, 4, 7, 13])
     (.cnd (.t 13)
      (.reg [
        ⟨some 14, .mv (.t 7), none⟩,
        ⟨some 15, .slS (.t 14) (some (.c (.int .i64 1))) none, none⟩,
        ⟨some 7, .mv (.t 15), none⟩] [2, 4, 7])
      .skip)))
   (.seq
    (.reg [
      ⟨some 16, .mv (.t 7), none⟩,
      ⟨some 17, .call 167 [(.t 16)], none⟩,
      ⟨some 8, .mv (.t 17), none⟩] [2, 4, 7, 8])
    (.seq
     (.seq
      (.reg [
        ⟨some 18, .mv (.t 8), none⟩,
        ⟨some 19, .bin .eql (some .int) (.t 18) (.c (.int .i64 0)), none⟩,
        ⟨some 20, .mv (.t 19), none⟩,
        ⟨some 21, .mv (.t 8), some (20, false)⟩,
        ⟨some 22, .bin .gtr none (.t 21) (.c (.int .i64 1)), some (20, false)⟩,
        ⟨some 23, .mv (.t 22), some (20, false)⟩,
        ⟨some 24, .mv (.t 7), some (23, true)⟩,
        ⟨some 25, .ixS (.t 24) (.c (.int .i64 0)), some (23, true)⟩,
        ⟨some 26, .bin .eql (some .int) (.t 25) (.c (.int .u8 48)), some (23, true)⟩,
        ⟨some 27, .pick (.t 23) (.t 26) (.c (.bool false)), some (20, false)⟩,
        ⟨some 28, .pick (.t 20) (.c (.bool true)) (.t 27), none⟩] [2, 4, 7, 8, 28])
      (.cnd (.t 28)
       (.seq
        (.reg [
          ⟨some 2, .mv (.c (.bool false)), none⟩,
          ⟨some 3, .mv (.c (.str [])), none⟩,
          ⟨some 4, .mv (.c (.str [])), none⟩,
          ⟨some 5, .mv (.c (.str [])), none⟩,
          ⟨some 6, .mv (.c (.bool false)), none⟩] [2, 3, 4, 5, 6])
        .ret)
       .skip))
     (.seq
      (.drw [
        ((⟨some 29, .mv (.t 7), none⟩, none), []),
        ((⟨some 30, .mv (.t 8), none⟩, none), []),
        ((⟨some 31, .slS (.t 29) none (some (.t 30)), none⟩, none), []),
        ((⟨some 32, .mv (.t 7), none⟩, none), []),
        ((⟨some 33, .mv (.t 8), none⟩, none), []),
        ((⟨some 34, .slS (.t 32) (some (.t 33)) none, none⟩, none), []),
        ((⟨some 3, .mv (.t 31), none⟩, none), []),
        ((⟨some 7, .mv (.t 34), none⟩, none), [])] [2, 3, 4, 7])
      (.seq
       (.seq
        (.reg [
          ⟨some 35, .mv (.t 7), none⟩,
          ⟨some 36, .call 187 [(.t 35), (.c (.str [46]))], none⟩] [2, 3, 4, 7, 36])
        (.cnd (.t 36)
         (.seq
          (.seq
           (.reg [
             ⟨some 37, .mv (.t 7), none⟩,
             ⟨some 38, .slS (.t 37) (some (.c (.int .i64 1))) none, none⟩,
             ⟨some 39, .call 167 [(.t 38)], none⟩,
             ⟨some 8, .mv (.t 39), none⟩] [2, 3, 7, 8])
           (.seq
            (.reg [
              ⟨some 40, .mv (.t 8), none⟩,
              ⟨some 41, .bin .eql (some .int) (.t 40) (.c (.int .i64 0)), none⟩] [2, 3, 7, 8, 41])
            (.cnd (.t 41)
             (.seq
              (.reg [
                ⟨some 2, .mv (.c (.bool false)), none⟩,
                ⟨some 3, .mv (.c (.str [])), none⟩,
                ⟨some 4, .mv (.c (.str [])), none⟩,
                ⟨some 5, .mv (.c (.str [])), none⟩,
                ⟨some 6, .mv (.c (.bool false)), none⟩] [2, 3, 4, 5, 6])
              .ret)
             .skip)))
          (.drw [
            ((⟨some 42, .mv (.t 7), none⟩, none), []),
            ((⟨some 43, .mv (.t 8), none⟩, none), []),
            ((⟨some 44, .bin .add none (.c (.int .i64 1)) (.t 43), none⟩, none), []),
            ((⟨some 45, .slS (.t 42) (some (.c (.int .i64 1))) (some (.t 44)), none⟩, none), []),
            ((⟨some 46, .mv (.t 7), none⟩, none), []),
            ((⟨some 47, .mv (.t 8), none⟩, none), []),
            ((⟨some 48, .bin .add none (.c (.int .i64 1)) (.t 47), none⟩, none), []),
            ((⟨some 49, .slS (.t 46) (some (.t 48)) none, none⟩, none), []),
            ((⟨some 4, .mv (.t 45), none⟩, none), []),
            ((⟨some 7, .mv (.t 49), none⟩, none), [])] [2, 3, 4, 7]))
         .skip))
       (.seq
        (.seq
         (.reg [
           ⟨some 50, .mv (.t 7), none⟩,
           ⟨some 51, .bin .eql (some .str) (.t 50) (.c (.str [])), none⟩] [2, 3, 4, 7, 51])
         (.cnd (.t 51)
          (.seq
           (.reg [
             ⟨some 52, .mv (.t 2), none⟩,
             ⟨some 53, .mv (.t 3), none⟩,
             ⟨some 54, .mv (.t 4), none⟩,
             ⟨some 2, .mv (.t 52), none⟩,
             ⟨some 3, .mv (.t 53), none⟩,
             ⟨some 4, .mv (.t 54), none⟩,
             ⟨some 5, .mv (.c (.str [])), none⟩,
             ⟨some 6, .mv (.c (.bool true)), none⟩] [2, 3, 4, 5, 6])
           .ret)
          .skip))
        (.seq
         (.seq
          (.reg [
            ⟨some 55, .mv (.t 7), none⟩,
            ⟨some 56, .ixS (.t 55) (.c (.int .i64 0)), none⟩,
            ⟨some 57, .bin .neq (some .int) (.t 56) (.c (.int .u8 101)), none⟩,
            ⟨some 58, .mv (.t 57), none⟩,
            ⟨some 59, .mv (.t 7), some (58, true)⟩,
            ⟨some 60, .ixS (.t 59) (.c (.int .i64 0)), some (58, true)⟩,
            ⟨some 61, .bin .neq (some .int) (.t 60) (.c (.int .u8 69)), some (58, true)⟩,
            ⟨some 62, .pick (.t 58) (.t 61) (.c (.bool false)), none⟩] [2, 3, 4, 7, 62])
          (.cnd (.t 62)
           (.seq
            (.reg [
              ⟨some 2, .mv (.c (.bool false)), none⟩,
              ⟨some 3, .mv (.c (.str [])), none⟩,
              ⟨some 4, .mv (.c (.str [])), none⟩,
              ⟨some 5, .mv (.c (.str [])), none⟩,
              ⟨some 6, .mv (.c (.bool false)), none⟩] [2, 3, 4, 5, 6])
            .ret)
           .skip))
         (.seq
          (.reg [
            ⟨some 63, .mv (.t 7), none⟩,
            ⟨some 64, .slS (.t 63) (some (.c (.int .i64 1))) none, none⟩,
            ⟨some 5, .mv (.t 64), none⟩] [2, 3, 4, 5])
          (.seq
           (.reg [
             ⟨some 65, .mv (.t 5), none⟩,
             ⟨some 66, .call 188 [(.t 65), (.c (.str [45]))], none⟩,
             ⟨some 9, .mv (.t 66), none⟩] [2, 3, 4, 5, 9])
           (.seq
            (.seq
             (.reg [
               ⟨some 67, .mv (.t 9), none⟩,
               ⟨some 68, .mv (.t 5), none⟩,
               ⟨some 69, .bin .eql (some .str) (.t 67) (.t 68), none⟩] [2, 3, 4, 5, 9, 69])
             (.cnd (.t 69)
              (.reg [
                ⟨some 70, .mv (.t 5), none⟩,
                ⟨some 71, .call 188 [(.t 70), (.c (.str [43]))], none⟩,
                ⟨some 9, .mv (.t 71), none⟩] [2, 3, 4, 5, 9])
              .skip))
            (.seq
             (.seq
              (.reg [
                ⟨some 72, .mv (.t 9), none⟩,
                ⟨some 73, .bin .eql (some .str) (.t 72) (.c (.str [])), none⟩,
                ⟨some 74, .mv (.t 73), none⟩,
                ⟨some 75, .mv (.t 9), some (74, false)⟩,
                ⟨some 76, .call 167 [(.t 75)], some (74, false)⟩,
                ⟨some 77, .mv (.t 9), some (74, false)⟩,
                ⟨some 78, .lenS (.t 77), some (74, false)⟩,
                ⟨some 79, .bin .lss none (.t 76) (.t 78), some (74, false)⟩,
                ⟨some 80, .pick (.t 74) (.c (.bool true)) (.t 79), none⟩] [2, 3, 4, 5, 80])
              (.cnd (.t 80)
               (.seq
                (.reg [
                  ⟨some 2, .mv (.c (.bool false)), none⟩,
                  ⟨some 3, .mv (.c (.str [])), none⟩,
                  ⟨some 4, .mv (.c (.str [])), none⟩,
                  ⟨some 5, .mv (.c (.str [])), none⟩,
                  ⟨some 6, .mv (.c (.bool false)), none⟩] [2, 3, 4, 5, 6])
                .ret)
               .skip))
             (.seq
              (.reg [
                ⟨some 81, .mv (.t 2), none⟩,
                ⟨some 82, .mv (.t 3), none⟩,
                ⟨some 83, .mv (.t 4), none⟩,
                ⟨some 84, .mv (.t 5), none⟩,
                ⟨some 2, .mv (.t 81), none⟩,
                ⟨some 3, .mv (.t 82), none⟩,
                ⟨some 4, .mv (.t 83), none⟩,
                ⟨some 5, .mv (.t 84), none⟩,
                ⟨some 6, .mv (.c (.bool true)), none⟩] [2, 3, 4, 5, 6])
              .ret)))))))))))))),
[.tmp 2, .tmp 3, .tmp 4, .tmp 5, .tmp 6]⟩
theorem F163_ok : prepF Go.Proofs.Tryz.prog ⟨[], [(0, [0, 4]), (1, [4, 7]), (2, [2, 4, 7]), (3, [2, 4, 7, 13]), (4, [2, 4, 7]), (5, [2, 4, 7, 8]), (6, [2, 4, 7, 8, 28]), (7, [2, 3, 4, 5, 6]), (8, [2, 3, 4, 7]), (9, [2, 3, 4, 7, 36]), (10, [2, 3, 7, 8]), (11, [2, 3, 7, 8, 41]), (12, [2, 3, 4, 5, 6]), (13, [2, 3, 4, 7]), (14, [2, 3, 4, 7, 51]), (15, [2, 3, 4, 5, 6]), (16, [2, 3, 4, 7, 62]), (17, [2, 3, 4, 5, 6]), (18, [2, 3, 4, 5]), (19, [2, 3, 4, 5, 9]), (20, [2, 3, 4, 5, 9, 69]), (21, [2, 3, 4, 5, 9]), (22, [2, 3, 4, 5, 80]), (23, [2, 3, 4, 5, 6]), (24, [2, 3, 4, 5, 6])], []⟩ Go.Proofs.Tryz.f163 = some F163 := by kernel_rfl
theorem F163_fn : FnOK2 Go.Proofs.Tryz.prog 163 (.pl F163) := .pl Go.Proofs.Tryz.func163 (by kernel_rfl) F163_ok
/-- emend/num.exponent -/
def F164 : DF := ⟨1,
(.seq
 (.reg [
   ⟨some 2, .mv (.c (.int .i64 0)), none⟩,
   ⟨some 3, .mv (.c (.bool false)), none⟩] [0])
 (.seq
  (.reg [
    ⟨some 7, .mv (.t 0), none⟩,
    ⟨some 8, .call 187 [(.t 7), (.c (.str [45]))], none⟩,
    ⟨some 4, .mv (.t 8), none⟩] [0, 4])
  (.seq
   (.reg [
     ⟨some 9, .mv (.t 0), none⟩,
     ⟨some 10, .call 165 [(.t 9), (.c (.str [43, 45]))], none⟩,
     ⟨some 11, .call 165 [(.t 10), (.c (.str [48]))], none⟩,
     ⟨some 0, .mv (.t 11), none⟩] [0, 4])
   (.seq
    (.seq
     (.reg [
       ⟨some 12, .mv (.t 0), none⟩,
       ⟨some 13, .lenS (.t 12), none⟩,
       ⟨some 14, .bin .gtr none (.t 13) (.c (.int .i64 6)), none⟩] [0, 4, 14])
     (.cnd (.t 14)
      (.seq
       (.reg [
         ⟨some 2, .mv (.c (.int .i64 0)), none⟩,
         ⟨some 3, .mv (.c (.bool false)), none⟩] [2, 3])
       .ret)
      .skip))
    (.seq
     (.reg [
       ⟨some 16, .mv (.t 0), none⟩,
       ⟨some 17, .bin .add none (.c (.str [48])) (.t 16), none⟩,
       ⟨some 18, .call 189 [(.t 17)], none⟩,
       ⟨some 15, .mv (.t 18), none⟩,
       ⟨some 19, .ext (.t 15) 0, none⟩,
       ⟨some 20, .ext (.t 15) 1, none⟩,
       ⟨some 5, .mv (.t 19), none⟩,
       ⟨some 6, .mv (.t 20), none⟩] [4, 5])
     (.seq
      (.seq
       (.reg [
         ⟨some 21, .mv (.t 4), none⟩] [5, 21])
       (.cnd (.t 21)
        (.seq
         (.reg [
           ⟨some 22, .mv (.t 5), none⟩,
           ⟨some 23, .un .neg (.t 22), none⟩,
           ⟨some 2, .mv (.t 23), none⟩,
           ⟨some 3, .mv (.c (.bool true)), none⟩] [2, 3])
         .ret)
        .skip))
      (.seq
       (.reg [
         ⟨some 24, .mv (.t 5), none⟩,
         ⟨some 2, .mv (.t 24), none⟩,
         ⟨some 3, .mv (.c (.bool true)), none⟩] [2, 3])
       .ret))))))),
[.tmp 2, .tmp 3]⟩
theorem F164_ok : prepF Go.Proofs.Tryz.prog ⟨[], [(0, [0]), (1, [0, 4]), (2, [0, 4]), (3, [0, 4, 14]), (4, [2, 3]), (5, [4, 5]), (6, [5, 21]), (7, [2, 3]), (8, [2, 3])], []⟩ Go.Proofs.Tryz.f164 = some F164 := by kernel_rfl
theorem F164_fn : FnOK2 Go.Proofs.Tryz.prog 164 (.pl F164) := .pl Go.Proofs.Tryz.func164 (by kernel_rfl) F164_ok
/-- strings.TrimLeft -/
def F165 : DF := ⟨2,
(.seq
 (.reg [
   ⟨some 4, .mv (.c (.str [])), none⟩] [0, 1])
 (.seq
  (.seq
   (.reg [
     ⟨some 7, .mv (.t 0), none⟩,
     ⟨some 8, .bin .eql (some .str) (.t 7) (.c (.str [])), none⟩,
     ⟨some 9, .mv (.t 8), none⟩,
     ⟨some 10, .mv (.t 1), some (9, false)⟩,
     ⟨some 11, .bin .eql (some .str) (.t 10) (.c (.str [])), some (9, false)⟩,
     ⟨some 12, .pick (.t 9) (.c (.bool true)) (.t 11), none⟩] [0, 1, 12])
   (.cnd (.t 12)
    (.seq
     (.reg [
       ⟨some 13, .mv (.t 0), none⟩,
       ⟨some 4, .mv (.t 13), none⟩] [4])
     .ret)
    .skip))
  (.seq
   (.seq
    (.reg [
      ⟨some 14, .mv (.t 1), none⟩,
      ⟨some 15, .lenS (.t 14), none⟩,
      ⟨some 16, .bin .eql (some .int) (.t 15) (.c (.int .i64 1)), none⟩,
      ⟨some 17, .mv (.t 16), none⟩,
      ⟨some 18, .mv (.t 1), some (17, true)⟩,
      ⟨some 19, .ixS (.t 18) (.c (.int .i64 0)), some (17, true)⟩,
      ⟨some 20, .bin .lss none (.t 19) (.c (.int .u8 128)), some (17, true)⟩,
      ⟨some 21, .pick (.t 17) (.t 20) (.c (.bool false)), none⟩] [0, 1, 21])
    (.cnd (.t 21)
     (.seq
      (.reg [
        ⟨some 22, .mv (.t 0), none⟩,
        ⟨some 23, .mv (.t 1), none⟩,
        ⟨some 24, .ixS (.t 23) (.c (.int .i64 0)), none⟩,
        ⟨some 25, .call 190 [(.t 22), (.t 24)], none⟩,
        ⟨some 4, .mv (.t 25), none⟩] [4])
      .ret)
     .skip))
   (.seq
    (.seq
     (.reg [
       ⟨some 27, .mv (.t 1), none⟩,
       ⟨some 28, .call 191 [(.t 27)], none⟩,
       ⟨some 26, .mv (.t 28), none⟩,
       ⟨some 29, .ext (.t 26) 0, none⟩,
       ⟨some 30, .ext (.t 26) 1, none⟩,
       ⟨some 5, .alH 219 [(.bool false), (.bool false), (.bool false), (.bool false), (.bool false), (.bool false), (.bool false), (.bool false), (.bool false), (.bool false), (.bool false), (.bool false), (.bool false), (.bool false), (.bool false), (.bool false), (.bool false), (.bool false), (.bool false), (.bool false), (.bool false), (.bool false), (.bool false), (.bool false), (.bool false), (.bool false), (.bool false), (.bool false), (.bool false), (.bool false), (.bool false), (.bool false), (.bool false), (.bool false), (.bool false), (.bool false), (.bool false), (.bool false), (.bool false), (.bool false), (.bool false), (.bool false), (.bool false), (.bool false), (.bool false), (.bool false), (.bool false), (.bool false), (.bool false), (.bool false), (.bool false), (.bool false), (.bool false), (.bool false), (.bool false), (.bool false), (.bool false), (.bool false), (.bool false), (.bool false), (.bool false), (.bool false), (.bool false), (.bool false), (.bool false), (.bool false), (.bool false), (.bool false), (.bool false), (.bool false), (.bool false), (.bool false), (.bool false), (.bool false), (.bool false), (.bool false), (.bool false), (.bool false), (.bool false), (.bool false), (.bool false), (.bool false), (.bool false), (.bool false), (.bool false), (.bool false), (.bool false), (.bool false), (.bool false), (.bool false), (.bool false), (.bool false), (.bool false), (.bool false), (.bool false), (.bool false), (.bool false), (.bool false), (.bool false), (.bool false), (.bool false), (.bool false), (.bool false), (.bool false), (.bool false), (.bool false), (.bool false), (.bool false), (.bool false), (.bool false), (.bool false), (.bool false), (.bool false), (.bool false), (.bool false), (.bool false), (.bool false), (.bool false), (.bool false), (.bool false), (.bool false), (.bool false), (.bool false), (.bool false), (.bool false), (.bool false), (.bool false), (.bool false), (.bool false), (.bool false), (.bool false), (.bool false), (.bool false), (.bool false), (.bool false), (.bool false), (.bool false), (.bool false), (.bool false), (.bool false), (.bool false), (.bool false), (.bool false), (.bool false), (.bool false), (.bool false), (.bool false), (.bool false), (.bool false), (.bool false), (.bool false), (.bool false), (.bool false), (.bool false), (.bool false), (.bool false), (.bool false), (.bool false), (.bool false), (.bool false), (.bool false), (.bool false), (.bool false), (.bool false), (.bool false), (.bool false), (.bool false), (.bool false), (.bool false), (.bool false), (.bool false), (.bool false), (.bool false), (.bool false), (.bool false), (.bool false), (.bool false), (.bool false), (.bool false), (.bool false), (.bool false), (.bool false), (.bool false), (.bool false), (.bool false), (.bool false), (.bool false), (.bool false), (.bool false), (.bool false), (.bool false), (.bool false), (.bool false), (.bool false), (.bool false), (.bool false), (.bool false), (.bool false), (.bool false), (.bool false), (.bool false), (.bool false), (.bool false), (.bool false), (.bool false), (.bool false), (.bool false), (.bool false), (.bool false), (.bool false), (.bool false), (.bool false), (.bool false), (.bool false), (.bool false), (.bool false), (.bool false), (.bool false), (.bool false), (.bool false), (.bool false), (.bool false), (.bool false), (.bool false), (.bool false), (.bool false), (.bool false), (.bool false), (.bool false), (.bool false), (.bool false), (.bool false), (.bool false), (.bool false), (.bool false), (.bool false), (.bool false), (.bool false), (.bool false), (.bool false), (.bool false), (.bool false), (.bool false), (.bool false), (.bool false), (.bool false), (.bool false), (.bool false), (.bool false), (.bool false), (.bool false), (.bool false), (.bool false), (.bool false), (.bool false), (.bool false)], none⟩,
       ⟨none, .st 256 (.t 5) (.t 29), none⟩,
       ⟨some 6, .mv (.t 30), none⟩] [0, 1, 5, 6])
     (.seq
      (.reg [
        ⟨some 31, .mv (.t 6), none⟩] [0, 1, 5, 31])
      (.cnd (.t 31)
       (.seq
        (.reg [
          ⟨some 32, .mv (.t 0), none⟩,
          ⟨some 33, .call 192 [(.t 32), (.t 5)], none⟩,
          ⟨some 4, .mv (.t 33), none⟩] [4])
        .ret)
       .skip)))
    (.seq
     (.reg [
       ⟨some 34, .mv (.t 0), none⟩,
       ⟨some 35, .mv (.t 1), none⟩,
       ⟨some 36, .call 193 [(.t 34), (.t 35)], none⟩,
       ⟨some 4, .mv (.t 36), none⟩] [4])
     .ret))))),
[.tmp 4]⟩
theorem F165_ok : prepF Go.Proofs.Tryz.prog ⟨[], [(0, [0, 1]), (1, [0, 1, 12]), (2, [4]), (3, [0, 1, 21]), (4, [4]), (5, [0, 1, 5, 6]), (6, [0, 1, 5, 31]), (7, [4]), (8, [4])], []⟩ Go.Proofs.Tryz.f165 = some F165 := by kernel_rfl
theorem F165_fn : FnOK2 Go.Proofs.Tryz.prog 165 (.pl F165) := .pl Go.Proofs.Tryz.func165 (by kernel_rfl) F165_ok
/-- strings.TrimRight -/
def F166 : DF := ⟨2,
(.seq
 (.reg [
   ⟨some 4, .mv (.c (.str [])), none⟩] [0, 1])
 (.seq
  (.seq
   (.reg [
     ⟨some 7, .mv (.t 0), none⟩,
     ⟨some 8, .bin .eql (some .str) (.t 7) (.c (.str [])), none⟩,
     ⟨some 9, .mv (.t 8), none⟩,
     ⟨some 10, .mv (.t 1), some (9, false)⟩,
     ⟨some 11, .bin .eql (some .str) (.t 10) (.c (.str [])), some (9, false)⟩,
     ⟨some 12, .pick (.t 9) (.c (.bool true)) (.t 11), none⟩] [0, 1, 12])
   (.cnd (.t 12)
    (.seq
     (.reg [
       ⟨some 13, .mv (.t 0), none⟩,
       ⟨some 4, .mv (.t 13), none⟩] [4])
     .ret)
    .skip))
  (.seq
   (.seq
    (.reg [
      ⟨some 14, .mv (.t 1), none⟩,
      ⟨some 15, .lenS (.t 14), none⟩,
      ⟨some 16, .bin .eql (some .int) (.t 15) (.c (.int .i64 1)), none⟩,
      ⟨some 17, .mv (.t 16), none⟩,
      ⟨some 18, .mv (.t 1), some (17, true)⟩,
      ⟨some 19, .ixS (.t 18) (.c (.int .i64 0)), some (17, true)⟩,
      ⟨some 20, .bin .lss none (.t 19) (.c (.int .u8 128)), some (17, true)⟩,
      ⟨some 21, .pick (.t 17) (.t 20) (.c (.bool false)), none⟩] [0, 1, 21])
    (.cnd (.t 21)
     (.seq
      (.reg [
        ⟨some 22, .mv (.t 0), none⟩,
        ⟨some 23, .mv (.t 1), none⟩,
        ⟨some 24, .ixS (.t 23) (.c (.int .i64 0)), none⟩,
        ⟨some 25, .call 194 [(.t 22), (.t 24)], none⟩,
        ⟨some 4, .mv (.t 25), none⟩] [4])
      .ret)
     .skip))
   (.seq
    (.seq
     (.reg [
       ⟨some 27, .mv (.t 1), none⟩,
       ⟨some 28, .call 191 [(.t 27)], none⟩,
       ⟨some 26, .mv (.t 28), none⟩,
       ⟨some 29, .ext (.t 26) 0, none⟩,
       ⟨some 30, .ext (.t 26) 1, none⟩,
       ⟨some 5, .alH 219 [(.bool false), (.bool false), (.bool false), (.bool false), (.bool false), (.bool false), (.bool false), (.bool false), (.bool false), (.bool false), (.bool false), (.bool false), (.bool false), (.bool false), (.bool false), (.bool false), (.bool false), (.bool false), (.bool false), (.bool false), (.bool false), (.bool false), (.bool false), (.bool false), (.bool false), (.bool false), (.bool false), (.bool false), (.bool false), (.bool false), (.bool false), (.bool false), (.bool false), (.bool false), (.bool false), (.bool false), (.bool false), (.bool false), (.bool false), (.bool false), (.bool false), (.bool false), (.bool false), (.bool false), (.bool false), (.bool false), (.bool false), (.bool false), (.bool false), (.bool false), (.bool false), (.bool false), (.bool false), (.bool false), (.bool false), (.bool false), (.bool false), (.bool false), (.bool false), (.bool false), (.bool false), (.bool false), (.bool false), (.bool false), (.bool false), (.bool false), (.bool false), (.bool false), (.bool false), (.bool false), (.bool false), (.bool false), (.bool false), (.bool false), (.bool false), (.bool false), (.bool false), (.bool false), (.bool false), (.bool false), (.bool false), (.bool false), (.bool false), (.bool false), (.bool false), (.bool false), (.bool false), (.bool false), (.bool false), (.bool false), (.bool false), (.bool false), (.bool false), (.bool false), (.bool false), (.bool false), (.bool false), (.bool false), (.bool false), (.bool false), (.bool false), (.bool false), (.bool false), (.bool false), (.bool false), (.bool false), (.bool false), (.bool false), (.bool false), (.bool false), (.bool false), (.bool false), (.bool false), (.bool false), (.bool false), (.bool false), (.bool false), (.bool false), (.bool false), (.bool false), (.bool false), (.bool false), (.bool false), (.bool false), (.bool false), (.bool false), (.bool false), (.bool false), (.bool false), (.bool false), (.bool false), (.bool false), (.bool false), (.bool false), (.bool false), (.bool false), (.bool false), (.bool false), (.bool false), (.bool false), (.bool false), (.bool false), (.bool false), (.bool false), (.bool false), (.bool false), (.bool false), (.bool false), (.bool false), (.bool false), (.bool false), (.bool false), (.bool false), (.bool false), (.bool false), (.bool false), (.bool false), (.bool false), (.bool false), (.bool false), (.bool false), (.bool false), (.bool false), (.bool false), (.bool false), (.bool false), (.bool false), (.bool false), (.bool false), (.bool false), (.bool false), (.bool false), (.bool false), (.bool false), (.bool false), (.bool false), (.bool false), (.bool false), (.bool false), (.bool false), (.bool false), (.bool false), (.bool false), (.bool false), (.bool false), (.bool false), (.bool false), (.bool false), (.bool false), (.bool false), (.bool false), (.bool false), (.bool false), (.bool false), (.bool false), (.bool false), (.bool false), (.bool false), (.bool false), (.bool false), (.bool false), (.bool false), (.bool false), (.bool false), (.bool false), (.bool false), (.bool false), (.bool false), (.bool false), (.bool false), (.bool false), (.bool false), (.bool false), (.bool false), (.bool false), (.bool false), (.bool false), (.bool false), (.bool false), (.bool false), (.bool false), (.bool false), (.bool false), (.bool false), (.bool false), (.bool false), (.bool false), (.bool false), (.bool false), (.bool false), (.bool false), (.bool false), (.bool false), (.bool false), (.bool false), (.bool false), (.bool false), (.bool false), (.bool false), (.bool false), (.bool false), (.bool false), (.bool false), (.bool false), (.bool false), (.bool false), (.bool false), (.bool false), (.bool false), (.bool false), (.bool false), (.bool false), (.bool false), (.bool false), (.bool false), (.bool false)], none⟩,
       ⟨none, .st 256 (.t 5) (.t 29), none⟩,
       ⟨some 6, .mv (.t 30), none⟩] [0, 1, 5, 6])
     (.seq
      (.reg [
        ⟨some 31, .mv (.t 6), none⟩] [0, 1, 5, 31])
      (.cnd (.t 31)
       (.seq
        (.reg [
          ⟨some 32, .mv (.t 0), none⟩,
          ⟨some 33, .call 195 [(.t 32), (.t 5)], none⟩,
          ⟨some 4, .mv (.t 33), none⟩] [4])
        .ret)
       .skip)))
    (.seq
     (.reg [
       ⟨some 34, .mv (.t 0), none⟩,
       ⟨some 35, .mv (.t 1), none⟩,
       ⟨some 36, .call 196 [(.t 34), (.t 35)], none⟩,
       ⟨some 4, .mv (.t 36), none⟩] [4])
     .ret))))),
[.tmp 4]⟩
theorem F166_ok : prepF Go.Proofs.Tryz.prog ⟨[], [(0, [0, 1]), (1, [0, 1, 12]), (2, [4]), (3, [0, 1, 21]), (4, [4]), (5, [0, 1, 5, 6]), (6, [0, 1, 5, 31]), (7, [4]), (8, [4])], []⟩ Go.Proofs.Tryz.f166 = some F166 := by kernel_rfl
theorem F166_fn : FnOK2 Go.Proofs.Tryz.prog 166 (.pl F166) := .pl Go.Proofs.Tryz.func166 (by kernel_rfl) F166_ok
/-- emend/num.run -/
def F167 : DF := ⟨1,
(.seq
 (.reg [
   ⟨some 2, .mv (.c (.int .i64 0)), none⟩] [0])
 (.seq
  (.reg [
    ⟨some 3, .mv (.c (.int .i64 0)), none⟩] [0, 3])
  (.seq
   (.blk 0
    (.seq
     (.trim [0, 3])
     (.lop
      (.seq
       (.seq
        (.seq
         (.reg [
           ⟨some 4, .mv (.t 3), none⟩,
           ⟨some 5, .mv (.t 0), none⟩,
           ⟨some 6, .lenS (.t 5), none⟩,
           ⟨some 7, .bin .lss none (.t 4) (.t 6), none⟩,
           ⟨some 8, .mv (.t 7), none⟩,
           ⟨some 9, .mv (.t 0), some (8, true)⟩,
           ⟨some 10, .mv (.t 3), some (8, true)⟩,
           ⟨some 11, .ixS (.t 9) (.t 10), some (8, true)⟩,
           ⟨some 12, .call 197 [(.t 11)], some (8, true)⟩,
           ⟨some 13, .pick (.t 8) (.t 12) (.c (.bool false)), none⟩] [0, 3, 13])
         (.cnd (.t 13)
          .skip
          (.exit 0)))
        (.blk 1
         (.reg [
           ⟨some 14, .mv (.t 3), none⟩,
           ⟨some 15, .bin .add none (.t 14) (.c (.int .i64 1)), none⟩,
           ⟨some 3, .mv (.t 15), none⟩] [0, 3])))
       (.trim [0, 3])))))
   (.seq
    (.reg [
      ⟨some 16, .mv (.t 3), none⟩,
      ⟨some 2, .mv (.t 16), none⟩] [2])
    .ret)))),
[.tmp 2]⟩
theorem F167_ok : prepF Go.Proofs.Tryz.prog ⟨[], [(0, [0]), (1, [0, 3]), (2, [0, 3, 13]), (3, [0, 3]), (4, [2]), (1000000, [0, 3])], []⟩ Go.Proofs.Tryz.f167 = some F167 := by kernel_rfl
theorem F167_fn : FnOK2 Go.Proofs.Tryz.prog 167 (.pl F167) := .pl Go.Proofs.Tryz.func167 (by kernel_rfl) F167_ok
/-- emend/tree.two -/
def F168 : DF := ⟨1,
(.seq
 (.reg [
   ⟨some 2, .mv (.c (.int .i64 0)), none⟩] [0])
 (.seq
  (.seq
   (.reg [
     ⟨some 3, .mv (.t 0), none⟩,
     ⟨some 4, .lenS (.t 3), none⟩,
     ⟨some 5, .bin .neq (some .int) (.t 4) (.c (.int .i64 2)), none⟩,
     ⟨some 6, .mv (.t 5), none⟩,
     ⟨some 7, .mv (.t 0), some (6, false)⟩,
     ⟨some 8, .ixS (.t 7) (.c (.int .i64 0)), some (6, false)⟩,
     ⟨some 9, .bin .lss none (.t 8) (.c (.int .u8 48)), some (6, false)⟩,
     ⟨some 10, .pick (.t 6) (.c (.bool true)) (.t 9), none⟩,
     ⟨some 11, .mv (.t 10), none⟩,
     ⟨some 12, .mv (.t 0), some (11, false)⟩,
     ⟨some 13, .ixS (.t 12) (.c (.int .i64 0)), some (11, false)⟩,
     ⟨some 14, .bin .gtr none (.t 13) (.c (.int .u8 57)), some (11, false)⟩,
     ⟨some 15, .pick (.t 11) (.c (.bool true)) (.t 14), none⟩,
     ⟨some 16, .mv (.t 15), none⟩,
     ⟨some 17, .mv (.t 0), some (16, false)⟩,
     ⟨some 18, .ixS (.t 17) (.c (.int .i64 1)), some (16, false)⟩,
     ⟨some 19, .bin .lss none (.t 18) (.c (.int .u8 48)), some (16, false)⟩,
     ⟨some 20, .pick (.t 16) (.c (.bool true)) (.t 19), none⟩,
     ⟨some 21, .mv (.t 20), none⟩,
     ⟨some 22, .mv (.t 0), some (21, false)⟩,
     ⟨some 23, .ixS (.t 22) (.c (.int .i64 1)), some (21, false)⟩,
     ⟨some 24, .bin .gtr none (.t 23) (.c (.int .u8 57)), some (21, false)⟩,
     ⟨some 25, .pick (.t 21) (.c (.bool true)) (.t 24), none⟩] [0, 25])
   (.cnd (.t 25)
    (.seq
     (.reg [
       ⟨some 2, .mv (.c (.int .i64 (-1))), none⟩] [2])
     .ret)
    .skip))
  (.seq
   (.drw [
     ((⟨some 26, .mv (.t 0), none⟩, none), []),
     ((⟨some 27, .ixS (.t 26) (.c (.int .i64 0)), none⟩, none), []),
     ((⟨some 28, .bin .sub none (.t 27) (.c (.int .u8 48)), none⟩, none), []),
     ((⟨some 29, .cvI .i64 (.t 28), none⟩, none), []),
     ((⟨some 30, .bin .mul none (.t 29) (.c (.int .i64 10)), none⟩, none), []),
     ((⟨some 31, .mv (.t 0), none⟩, none), []),
     ((⟨some 32, .ixS (.t 31) (.c (.int .i64 1)), none⟩, none), []),
     ((⟨some 33, .bin .sub none (.t 32) (.c (.int .u8 48)), none⟩, none), []),
     ((⟨some 34, .cvI .i64 (.t 33), none⟩, none), []),
     ((⟨some 35, .bin .add none (.t 30) (.t 34), none⟩, none), []),
     ((⟨some 2, .mv (.t 35), none⟩, none), [])] [2])
   .ret))),
[.tmp 2]⟩
theorem F168_ok : prepF Go.Proofs.Tryz.prog ⟨[], [(0, [0]), (1, [0, 25]), (2, [2]), (3, [2])], []⟩ Go.Proofs.Tryz.f168 = some F168 := by kernel_rfl
theorem F168_fn : FnOK2 Go.Proofs.Tryz.prog 168 (.pl F168) := .pl Go.Proofs.Tryz.func168 (by kernel_rfl) F168_ok
/-- emend/tree.within -/
def F169 : DF := ⟨3,
(.seq
 (.reg [
   ⟨some 6, .mv (.c (.bool false)), none⟩] [0, 1, 2])
 (.seq
  (.reg [
    ⟨some 7, .mv (.t 0), none⟩,
    ⟨some 8, .call 168 [(.t 7)], none⟩,
    ⟨some 9, .mv (.t 1), none⟩,
    ⟨some 10, .bin .geq none (.t 8) (.t 9), none⟩,
    ⟨some 11, .mv (.t 10), none⟩,
    ⟨some 12, .mv (.t 0), some (11, true)⟩,
    ⟨some 13, .call 168 [(.t 12)], some (11, true)⟩,
    ⟨some 14, .mv (.t 2), some (11, true)⟩,
    ⟨some 15, .bin .leq none (.t 13) (.t 14), some (11, true)⟩,
    ⟨some 16, .pick (.t 11) (.t 15) (.c (.bool false)), none⟩,
    ⟨some 6, .mv (.t 16), none⟩] [6])
  .ret)),
[.tmp 6]⟩
theorem F169_ok : prepF Go.Proofs.Tryz.prog ⟨[], [(0, [0, 1, 2]), (1, [6])], []⟩ Go.Proofs.Tryz.f169 = some F169 := by kernel_rfl
theorem F169_fn : FnOK2 Go.Proofs.Tryz.prog 169 (.pl F169) := .pl Go.Proofs.Tryz.func169 (by kernel_rfl) F169_ok
/-- emend/tree.days -/
def F170 : DF := ⟨2,
(.seq
 (.reg [
   ⟨some 4, .mv (.c (.int .i64 0)), none⟩] [0, 1])
 (.seq
  (.seq
   (.reg [
     ⟨some 5, .mv (.t 1), none⟩] [0, 5])
   (.blk 0
    (.seq
     (.seq
      (.reg [
        ⟨some 7, .bin .eql (some .int) (.t 5) (.c (.int .i64 4)), none⟩,
        ⟨some 6, .mv (.t 7), none⟩] [0, 5, 6])
      (.cnd (.t 6)
       .skip
       (.seq
        (.reg [
          ⟨some 8, .bin .eql (some .int) (.t 5) (.c (.int .i64 6)), none⟩,
          ⟨some 6, .mv (.t 8), none⟩] [0, 5, 6])
        (.cnd (.t 6)
         .skip
         (.seq
          (.reg [
            ⟨some 9, .bin .eql (some .int) (.t 5) (.c (.int .i64 9)), none⟩,
            ⟨some 6, .mv (.t 9), none⟩] [0, 5, 6])
          (.cnd (.t 6)
           .skip
           (.reg [
             ⟨some 10, .bin .eql (some .int) (.t 5) (.c (.int .i64 11)), none⟩,
             ⟨some 6, .mv (.t 10), none⟩] [0, 5, 6])))))))
     (.cnd (.t 6)
      (.seq
       (.reg [
         ⟨some 4, .mv (.c (.int .i64 30)), none⟩] [4])
       .ret)
      (.seq
       (.reg [
         ⟨some 12, .bin .eql (some .int) (.t 5) (.c (.int .i64 2)), none⟩,
         ⟨some 11, .mv (.t 12), none⟩] [0, 11])
       (.cnd (.t 11)
        (.seq
         (.seq
          (.reg [
            ⟨some 13, .mv (.t 0), none⟩,
            ⟨some 14, .bin .rem none (.t 13) (.c (.int .i64 4)), none⟩,
            ⟨some 15, .bin .eql (some .int) (.t 14) (.c (.int .i64 0)), none⟩,
            ⟨some 16, .mv (.t 15), none⟩,
            ⟨some 17, .mv (.t 0), some (16, true)⟩,
            ⟨some 18, .bin .rem none (.t 17) (.c (.int .i64 100)), some (16, true)⟩,
            ⟨some 19, .bin .neq (some .int) (.t 18) (.c (.int .i64 0)), some (16, true)⟩,
            ⟨some 20, .mv (.t 19), some (16, true)⟩,
            ⟨some 21, .mv (.t 0), some (20, false)⟩,
            ⟨some 22, .bin .rem none (.t 21) (.c (.int .i64 400)), some (20, false)⟩,
            ⟨some 23, .bin .eql (some .int) (.t 22) (.c (.int .i64 0)), some (20, false)⟩,
            ⟨some 24, .pick (.t 20) (.c (.bool true)) (.t 23), some (16, true)⟩,
            ⟨some 25, .pick (.t 16) (.t 24) (.c (.bool false)), none⟩] [25])
          (.cnd (.t 25)
           (.seq
            (.reg [
              ⟨some 4, .mv (.c (.int .i64 29)), none⟩] [4])
            .ret)
           .skip))
         (.seq
          (.reg [
            ⟨some 4, .mv (.c (.int .i64 28)), none⟩] [4])
          .ret))
        .skip))))))
  (.seq
   (.reg [
     ⟨some 4, .mv (.c (.int .i64 31)), none⟩] [4])
   .ret))),
[.tmp 4]⟩
theorem F170_ok : prepF Go.Proofs.Tryz.prog ⟨[], [(0, [0, 1]), (1, [0, 5]), (2, [0, 5, 6]), (3, [0, 5, 6]), (4, [0, 5, 6]), (5, [0, 5, 6]), (6, [4]), (7, [0, 11]), (8, [25]), (9, [4]), (10, [4]), (11, [4])], []⟩ Go.Proofs.Tryz.f170 = some F170 := by kernel_rfl
theorem F170_fn : FnOK2 Go.Proofs.Tryz.prog 170 (.pl F170) := .pl Go.Proofs.Tryz.func170 (by kernel_rfl) F170_ok
/-- strings.Trim -/
def F171 : DF := ⟨2,
(.seq
 (.reg [
   ⟨some 4, .mv (.c (.str [])), none⟩] [0, 1])
 (.seq
  (.seq
   (.reg [
     ⟨some 7, .mv (.t 0), none⟩,
     ⟨some 8, .bin .eql (some .str) (.t 7) (.c (.str [])), none⟩,
     ⟨some 9, .mv (.t 8), none⟩,
     ⟨some 10, .mv (.t 1), some (9, false)⟩,
     ⟨some 11, .bin .eql (some .str) (.t 10) (.c (.str [])), some (9, false)⟩,
     ⟨some 12, .pick (.t 9) (.c (.bool true)) (.t 11), none⟩] [0, 1, 12])
   (.cnd (.t 12)
    (.seq
     (.reg [
       ⟨some 13, .mv (.t 0), none⟩,
       ⟨some 4, .mv (.t 13), none⟩] [4])
     .ret)
    .skip))
  (.seq
   (.seq
    (.reg [
      ⟨some 14, .mv (.t 1), none⟩,
      ⟨some 15, .lenS (.t 14), none⟩,
      ⟨some 16, .bin .eql (some .int) (.t 15) (.c (.int .i64 1)), none⟩,
      ⟨some 17, .mv (.t 16), none⟩,
      ⟨some 18, .mv (.t 1), some (17, true)⟩,
      ⟨some 19, .ixS (.t 18) (.c (.int .i64 0)), some (17, true)⟩,
      ⟨some 20, .bin .lss none (.t 19) (.c (.int .u8 128)), some (17, true)⟩,
      ⟨some 21, .pick (.t 17) (.t 20) (.c (.bool false)), none⟩] [0, 1, 21])
    (.cnd (.t 21)
     (.seq
      (.drw [
        ((⟨some 22, .mv (.t 0), none⟩, none), []),
        ((⟨some 23, .mv (.t 1), none⟩, none), []),
        ((⟨some 24, .ixS (.t 23) (.c (.int .i64 0)), none⟩, none), []),
        ((⟨some 26, .mv (.t 1), none⟩, none), []),
        ((⟨some 27, .ixS (.t 26) (.c (.int .i64 0)), none⟩, none), []),
        ((⟨some 25, .call 194 [(.t 22), (.t 24)], none⟩, none), []),
        ((⟨some 28, .call 190 [(.t 25), (.t 27)], none⟩, none), []),
        ((⟨some 4, .mv (.t 28), none⟩, none), [])] [4])
      .ret)
     .skip))
   (.seq
    (.seq
     (.reg [
       ⟨some 30, .mv (.t 1), none⟩,
       ⟨some 31, .call 191 [(.t 30)], none⟩,
       ⟨some 29, .mv (.t 31), none⟩,
       ⟨some 32, .ext (.t 29) 0, none⟩,
       ⟨some 33, .ext (.t 29) 1, none⟩,
       ⟨some 5, .alH 219 [(.bool false), (.bool false), (.bool false), (.bool false), (.bool false), (.bool false), (.bool false), (.bool false), (.bool false), (.bool false), (.bool false), (.bool false), (.bool false), (.bool false), (.bool false), (.bool false), (.bool false), (.bool false), (.bool false), (.bool false), (.bool false), (.bool false), (.bool false), (.bool false), (.bool false), (.bool false), (.bool false), (.bool false), (.bool false), (.bool false), (.bool false), (.bool false), (.bool false), (.bool false), (.bool false), (.bool false), (.bool false), (.bool false), (.bool false), (.bool false), (.bool false), (.bool false), (.bool false), (.bool false), (.bool false), (.bool false), (.bool false), (.bool false), (.bool false), (.bool false), (.bool false), (.bool false), (.bool false), (.bool false), (.bool false), (.bool false), (.bool false), (.bool false), (.bool false), (.bool false), (.bool false), (.bool false), (.bool false), (.bool false), (.bool false), (.bool false), (.bool false), (.bool false), (.bool false), (.bool false), (.bool false), (.bool false), (.bool false), (.bool false), (.bool false), (.bool false), (.bool false), (.bool false), (.bool false), (.bool false), (.bool false), (.bool false), (.bool false), (.bool false), (.bool false), (.bool false), (.bool false), (.bool false), (.bool false), (.bool false), (.bool false), (.bool false), (.bool false), (.bool false), (.bool false), (.bool false), (.bool false), (.bool false), (.bool false), (.bool false), (.bool false), (.bool false), (.bool false), (.bool false), (.bool false), (.bool false), (.bool false), (.bool false), (.bool false), (.bool false), (.bool false), (.bool false), (.bool false), (.bool false), (.bool false), (.bool false), (.bool false), (.bool false), (.bool false), (.bool false), (.bool false), (.bool false), (.bool false), (.bool false), (.bool false), (.bool false), (.bool false), (.bool false), (.bool false), (.bool false), (.bool false), (.bool false), (.bool false), (.bool false), (.bool false), (.bool false), (.bool false), (.bool false), (.bool false), (.bool false), (.bool false), (.bool false), (.bool false), (.bool false), (.bool false), (.bool false), (.bool false), (.bool false), (.bool false), (.bool false), (.bool false), (.bool false), (.bool false), (.bool false), (.bool false), (.bool false), (.bool false), (.bool false), (.bool false), (.bool false), (.bool false), (.bool false), (.bool false), (.bool false), (.bool false), (.bool false), (.bool false), (.bool false), (.bool false), (.bool false), (.bool false), (.bool false), (.bool false), (.bool false), (.bool false), (.bool false), (.bool false), (.bool false), (.bool false), (.bool false), (.bool false), (.bool false), (.bool false), (.bool false), (.bool false), (.bool false), (.bool false), (.bool false), (.bool false), (.bool false), (.bool false), (.bool false), (.bool false), (.bool false), (.bool false), (.bool false), (.bool false), (.bool false), (.bool false), (.bool false), (.bool false), (.bool false), (.bool false), (.bool false), (.bool false), (.bool false), (.bool false), (.bool false), (.bool false), (.bool false), (.bool false), (.bool false), (.bool false), (.bool false), (.bool false), (.bool false), (.bool false), (.bool false), (.bool false), (.bool false), (.bool false), (.bool false), (.bool false), (.bool false), (.bool false), (.bool false), (.bool false), (.bool false), (.bool false), (.bool false), (.bool false), (.bool false), (.bool false), (.bool false), (.bool false), (.bool false), (.bool false), (.bool false), (.bool false), (.bool false), (.bool false), (.bool false), (.bool false), (.bool false), (.bool false), (.bool false), (.bool false), (.bool false), (.bool false), (.bool false), (.bool false), (.bool false), (.bool false), (.bool false), (.bool false), (.bool false)], none⟩,
       ⟨none, .st 256 (.t 5) (.t 32), none⟩,
       ⟨some 6, .mv (.t 33), none⟩] [0, 1, 5, 6])
     (.seq
      (.reg [
        ⟨some 34, .mv (.t 6), none⟩] [0, 1, 5, 34])
      (.cnd (.t 34)
       (.seq
        (.reg [
          ⟨some 35, .mv (.t 0), none⟩,
          ⟨some 36, .call 195 [(.t 35), (.t 5)], none⟩,
          ⟨some 37, .call 192 [(.t 36), (.t 5)], none⟩,
          ⟨some 4, .mv (.t 37), none⟩] [4])
        .ret)
       .skip)))
    (.seq
     (.reg [
       ⟨some 38, .mv (.t 0), none⟩,
       ⟨some 39, .mv (.t 1), none⟩,
       ⟨some 40, .call 196 [(.t 38), (.t 39)], none⟩,
       ⟨some 41, .mv (.t 1), none⟩,
       ⟨some 42, .call 193 [(.t 40), (.t 41)], none⟩,
       ⟨some 4, .mv (.t 42), none⟩] [4])
     .ret))))),
[.tmp 4]⟩
theorem F171_ok : prepF Go.Proofs.Tryz.prog ⟨[], [(0, [0, 1]), (1, [0, 1, 12]), (2, [4]), (3, [0, 1, 21]), (4, [4]), (5, [0, 1, 5, 6]), (6, [0, 1, 5, 34]), (7, [4]), (8, [4])], []⟩ Go.Proofs.Tryz.f171 = some F171 := by kernel_rfl
theorem F171_fn : FnOK2 Go.Proofs.Tryz.prog 171 (.pl F171) := .pl Go.Proofs.Tryz.func171 (by kernel_rfl) F171_ok
/-- strings.HasSuffix -/
def F172 : DF := ⟨2,
(.seq
 (.reg [
   ⟨some 4, .mv (.c (.bool false)), none⟩] [0, 1])
 (.seq
  (.reg [
    ⟨some 5, .mv (.t 0), none⟩,
    ⟨some 6, .mv (.t 1), none⟩,
    ⟨some 7, .call 198 [(.t 5), (.t 6)], none⟩,
    ⟨some 4, .mv (.t 7), none⟩] [4])
  .ret)),
[.tmp 4]⟩
theorem F172_ok : prepF Go.Proofs.Tryz.prog ⟨[], [(0, [0, 1]), (1, [4])], []⟩ Go.Proofs.Tryz.f172 = some F172 := by kernel_rfl
theorem F172_fn : FnOK2 Go.Proofs.Tryz.prog 172 (.pl F172) := .pl Go.Proofs.Tryz.func172 (by kernel_rfl) F172_ok
/-- internal/stringslite.Cut -/
def F173 : DF := ⟨2,
(.seq
 (.reg [
   ⟨some 4, .mv (.c (.str [])), none⟩,
   ⟨some 5, .mv (.c (.str [])), none⟩,
   ⟨some 6, .mv (.c (.bool false)), none⟩] [0, 1])
 (.seq
  (.seq
   (.reg [
     ⟨some 8, .mv (.t 0), none⟩,
     ⟨some 9, .mv (.t 1), none⟩,
     ⟨some 10, .call 199 [(.t 8), (.t 9)], none⟩,
     ⟨some 7, .mv (.t 10), none⟩] [0, 1, 7])
   (.seq
    (.reg [
      ⟨some 11, .mv (.t 7), none⟩,
      ⟨some 12, .bin .geq none (.t 11) (.c (.int .i64 0)), none⟩] [0, 1, 7, 12])
    (.cnd (.t 12)
     (.seq
      (.drw [
        ((⟨some 13, .mv (.t 0), none⟩, none), []),
        ((⟨some 14, .mv (.t 7), none⟩, none), []),
        ((⟨some 15, .slS (.t 13) none (some (.t 14)), none⟩, none), []),
        ((⟨some 16, .mv (.t 0), none⟩, none), []),
        ((⟨some 17, .mv (.t 7), none⟩, none), []),
        ((⟨some 18, .mv (.t 1), none⟩, none), []),
        ((⟨some 19, .lenS (.t 18), none⟩, none), []),
        ((⟨some 20, .bin .add none (.t 17) (.t 19), none⟩, none), []),
        ((⟨some 21, .slS (.t 16) (some (.t 20)) none, none⟩, none), []),
        ((⟨some 4, .mv (.t 15), none⟩, none), []),
        ((⟨some 5, .mv (.t 21), none⟩, none), []),
        ((⟨some 6, .mv (.c (.bool true)), none⟩, none), [])] [4, 5, 6])
      .ret)
     .skip)))
  (.seq
   (.reg [
     ⟨some 22, .mv (.t 0), none⟩,
     ⟨some 4, .mv (.t 22), none⟩,
     ⟨some 5, .mv (.c (.str [])), none⟩,
     ⟨some 6, .mv (.c (.bool false)), none⟩] [4, 5, 6])
   .ret))),
[.tmp 4, .tmp 5, .tmp 6]⟩
theorem F173_ok : prepF Go.Proofs.Tryz.prog ⟨[], [(0, [0, 1]), (1, [0, 1, 7]), (2, [0, 1, 7, 12]), (3, [4, 5, 6]), (4, [4, 5, 6])], []⟩ Go.Proofs.Tryz.f173 = some F173 := by kernel_rfl
theorem F173_fn : FnOK2 Go.Proofs.Tryz.prog 173 (.pl F173) := .pl Go.Proofs.Tryz.func173 (by kernel_rfl) F173_ok
/-- slices.stableCmpFunc[int] -/
def F174 : DF := ⟨3,
(.seq
 (.reg [
   ⟨some 6, .mv (.c (.int .i64 20)), none⟩] [0, 1, 2, 6])
 (.seq
  (.reg [
    ⟨some 10, .mv (.t 6), none⟩,
    ⟨some 7, .mv (.c (.int .i64 0)), none⟩,
    ⟨some 8, .mv (.t 10), none⟩] [0, 1, 2, 6, 7, 8])
  (.seq
   (.blk 0
    (.seq
     (.trim [0, 1, 2, 6, 7, 8])
     (.lop
      (.seq
       (.seq
        (.seq
         (.reg [
           ⟨some 11, .mv (.t 8), none⟩,
           ⟨some 12, .mv (.t 1), none⟩,
           ⟨some 13, .bin .leq none (.t 11) (.t 12), none⟩] [0, 1, 2, 6, 7, 8, 13])
         (.cnd (.t 13)
          .skip
          (.exit 0)))
        (.blk 1
         (.seq
          (.reg [
            ⟨some 14, .mv (.t 0), none⟩,
            ⟨some 15, .mv (.t 7), none⟩,
            ⟨some 16, .mv (.t 8), none⟩,
            ⟨some 17, .mv (.t 2), none⟩,
            ⟨some 18, .call 200 [(.t 14), (.t 15), (.t 16), (.t 17)], none⟩] [0, 1, 2, 6, 8])
          (.seq
           (.reg [
             ⟨some 19, .mv (.t 8), none⟩,
             ⟨some 7, .mv (.t 19), none⟩] [0, 1, 2, 6, 7, 8])
           (.reg [
             ⟨some 20, .mv (.t 8), none⟩,
             ⟨some 21, .mv (.t 6), none⟩,
             ⟨some 22, .bin .add none (.t 20) (.t 21), none⟩,
             ⟨some 8, .mv (.t 22), none⟩] [0, 1, 2, 6, 7, 8])))))
       (.trim [0, 1, 2, 6, 7, 8])))))
   (.seq
    (.reg [
      ⟨some 23, .mv (.t 0), none⟩,
      ⟨some 24, .mv (.t 7), none⟩,
      ⟨some 25, .mv (.t 1), none⟩,
      ⟨some 26, .mv (.t 2), none⟩,
      ⟨some 27, .call 200 [(.t 23), (.t 24), (.t 25), (.t 26)], none⟩] [0, 1, 2, 6])
    (.blk 2
     (.seq
      (.trim [0, 1, 2, 6])
      (.lop
       (.seq
        (.seq
         (.seq
          (.reg [
            ⟨some 28, .mv (.t 6), none⟩,
            ⟨some 29, .mv (.t 1), none⟩,
            ⟨some 30, .bin .lss none (.t 28) (.t 29), none⟩] [0, 1, 2, 6, 30])
          (.cnd (.t 30)
           .skip
           (.exit 2)))
         (.blk 3
          (.seq
           (.reg [
             ⟨some 31, .mv (.t 6), none⟩,
             ⟨some 32, .bin .mul none (.c (.int .i64 2)) (.t 31), none⟩,
             ⟨some 7, .mv (.c (.int .i64 0)), none⟩,
             ⟨some 8, .mv (.t 32), none⟩] [0, 1, 2, 6, 7, 8])
           (.seq
            (.blk 4
             (.seq
              (.trim [0, 1, 2, 6, 7, 8])
              (.lop
               (.seq
                (.seq
                 (.seq
                  (.reg [
                    ⟨some 33, .mv (.t 8), none⟩,
                    ⟨some 34, .mv (.t 1), none⟩,
                    ⟨some 35, .bin .leq none (.t 33) (.t 34), none⟩] [0, 1, 2, 6, 7, 8, 35])
                  (.cnd (.t 35)
                   .skip
                   (.exit 4)))
                 (.blk 5
                  (.seq
                   (.reg [
                     ⟨some 36, .mv (.t 0), none⟩,
                     ⟨some 37, .mv (.t 7), none⟩,
                     ⟨some 38, .mv (.t 7), none⟩,
                     ⟨some 39, .mv (.t 6), none⟩,
                     ⟨some 40, .bin .add none (.t 38) (.t 39), none⟩,
                     ⟨some 41, .mv (.t 8), none⟩,
                     ⟨some 42, .mv (.t 2), none⟩,
                     ⟨some 43, .call 201 [(.t 36), (.t 37), (.t 40), (.t 41), (.t 42)], none⟩] [0, 1, 2, 6, 8])
                   (.seq
                    (.reg [
                      ⟨some 44, .mv (.t 8), none⟩,
                      ⟨some 7, .mv (.t 44), none⟩] [0, 1, 2, 6, 7, 8])
                    (.reg [
                      ⟨some 45, .mv (.t 8), none⟩,
                      ⟨some 46, .mv (.t 6), none⟩,
                      ⟨some 47, .bin .mul none (.c (.int .i64 2)) (.t 46), none⟩,
                      ⟨some 48, .bin .add none (.t 45) (.t 47), none⟩,
                      ⟨some 8, .mv (.t 48), none⟩] [0, 1, 2, 6, 7, 8])))))
                (.trim [0, 1, 2, 6, 7, 8])))))
            (.seq
             (.seq
              (.reg [
                ⟨some 49, .mv (.t 7), none⟩,
                ⟨some 50, .mv (.t 6), none⟩,
                ⟨some 51, .bin .add none (.t 49) (.t 50), none⟩,
                ⟨some 9, .mv (.t 51), none⟩] [0, 1, 2, 6, 7, 9])
              (.seq
               (.reg [
                 ⟨some 52, .mv (.t 9), none⟩,
                 ⟨some 53, .mv (.t 1), none⟩,
                 ⟨some 54, .bin .lss none (.t 52) (.t 53), none⟩] [0, 1, 2, 6, 7, 9, 54])
               (.cnd (.t 54)
                (.reg [
                  ⟨some 55, .mv (.t 0), none⟩,
                  ⟨some 56, .mv (.t 7), none⟩,
                  ⟨some 57, .mv (.t 9), none⟩,
                  ⟨some 58, .mv (.t 1), none⟩,
                  ⟨some 59, .mv (.t 2), none⟩,
                  ⟨some 60, .call 201 [(.t 55), (.t 56), (.t 57), (.t 58), (.t 59)], none⟩] [0, 1, 2, 6])
                .skip)))
             (.reg [
               ⟨some 61, .mv (.t 6), none⟩,
               ⟨some 62, .bin .mul none (.t 61) (.c (.int .i64 2)), none⟩,
               ⟨some 6, .mv (.t 62), none⟩] [0, 1, 2, 6]))))))
        (.trim [0, 1, 2, 6]))))))))),
[]⟩
theorem F174_ok : prepF Go.Proofs.Tryz.prog ⟨[], [(0, [0, 1, 2, 6]), (1, [0, 1, 2, 6, 7, 8]), (2, [0, 1, 2, 6, 7, 8, 13]), (3, [0, 1, 2, 6, 8]), (4, [0, 1, 2, 6, 7, 8]), (5, [0, 1, 2, 6, 7, 8]), (6, [0, 1, 2, 6]), (7, [0, 1, 2, 6, 30]), (8, [0, 1, 2, 6, 7, 8]), (9, [0, 1, 2, 6, 7, 8, 35]), (10, [0, 1, 2, 6, 8]), (11, [0, 1, 2, 6, 7, 8]), (12, [0, 1, 2, 6, 7, 8]), (13, [0, 1, 2, 6, 7, 9]), (14, [0, 1, 2, 6, 7, 9, 54]), (15, [0, 1, 2, 6]), (16, [0, 1, 2, 6]), (1000000, [0, 1, 2, 6, 7, 8]), (1000002, [0, 1, 2, 6]), (1000004, [0, 1, 2, 6, 7, 8])], []⟩ Go.Proofs.Tryz.f174 = some F174 := by kernel_rfl
theorem F174_fn : FnOK2 Go.Proofs.Tryz.prog 174 (.pl F174) := .pl Go.Proofs.Tryz.func174 (by kernel_rfl) F174_ok
/-- internal/bytealg.CompareString -/
def F175 : DF := ⟨2,
(.seq
 (.reg [
   ⟨some 4, .mv (.c (.int .i64 0)), none⟩] [0, 1])
 (.seq
  (.reg [
    ⟨some 5, .mv (.t 0), none⟩,
    ⟨some 6, .mv (.t 1), none⟩,
    ⟨some 7, .xtn .compare [(.t 5), (.t 6)], none⟩,
    ⟨some 4, .mv (.t 7), none⟩] [4])
  .ret)),
[.tmp 4]⟩
theorem F175_ok : prepF Go.Proofs.Tryz.prog ⟨[], [(0, [0, 1]), (1, [4])], []⟩ Go.Proofs.Tryz.f175 = some F175 := by kernel_rfl
theorem F175_fn : FnOK2 Go.Proofs.Tryz.prog 175 (.pl F175) := .pl Go.Proofs.Tryz.func175 (by kernel_rfl) F175_ok
/-- emend/text.pair -/
def F176 : DF := ⟨1,
(.seq
 (.reg [
   ⟨some 2, .mv (.c (.int .i64 0)), none⟩,
   ⟨some 3, .mv (.c (.int .i64 0)), none⟩] [0])
 (.seq
  (.reg [
    ⟨some 6, .mv (.t 0), none⟩,
    ⟨some 7, .slS (.t 6) (some (.c (.int .i64 1))) none, none⟩,
    ⟨some 8, .call 203 [(.t 7), (.c (.int .i64 4))], none⟩,
    ⟨some 4, .mv (.t 8), none⟩] [0, 4])
  (.seq
   (.seq
    (.reg [
      ⟨some 9, .mv (.t 4), none⟩,
      ⟨some 10, .bin .lss none (.t 9) (.c (.int .i64 55296)), none⟩,
      ⟨some 11, .mv (.t 10), none⟩,
      ⟨some 12, .mv (.t 4), some (11, false)⟩,
      ⟨some 13, .bin .gtr none (.t 12) (.c (.int .i64 57343)), some (11, false)⟩,
      ⟨some 14, .pick (.t 11) (.c (.bool true)) (.t 13), none⟩] [0, 4, 14])
    (.cnd (.t 14)
     (.seq
      (.seq
       (.reg [
         ⟨some 15, .mv (.t 4), none⟩,
         ⟨some 16, .bin .lss none (.t 15) (.c (.int .i64 0)), none⟩] [4, 16])
       (.cnd (.t 16)
        (.seq
         (.reg [
           ⟨some 2, .mv (.c (.int .i64 0)), none⟩,
           ⟨some 3, .mv (.c (.int .i64 0)), none⟩] [2, 3])
         .ret)
        .skip))
      (.seq
       (.reg [
         ⟨some 17, .mv (.t 4), none⟩,
         ⟨some 2, .mv (.t 17), none⟩,
         ⟨some 3, .mv (.c (.int .i64 5)), none⟩] [2, 3])
       .ret))
     .skip))
   (.seq
    (.seq
     (.reg [
       ⟨some 18, .mv (.t 4), none⟩,
       ⟨some 19, .bin .geq none (.t 18) (.c (.int .i64 56320)), none⟩,
       ⟨some 20, .mv (.t 19), none⟩,
       ⟨some 21, .mv (.t 0), some (20, false)⟩,
       ⟨some 22, .slS (.t 21) (some (.c (.int .i64 5))) none, some (20, false)⟩,
       ⟨some 23, .call 187 [(.t 22), (.c (.str [92, 117]))], some (20, false)⟩,
       ⟨some 24, .un .not (.t 23), some (20, false)⟩,
       ⟨some 25, .pick (.t 20) (.c (.bool true)) (.t 24), none⟩] [0, 4, 25])
     (.cnd (.t 25)
      (.seq
       (.reg [
         ⟨some 2, .mv (.c (.int .i64 0)), none⟩,
         ⟨some 3, .mv (.c (.int .i64 0)), none⟩] [2, 3])
       .ret)
      .skip))
    (.seq
     (.reg [
       ⟨some 26, .mv (.t 0), none⟩,
       ⟨some 27, .slS (.t 26) (some (.c (.int .i64 7))) none, none⟩,
       ⟨some 28, .call 203 [(.t 27), (.c (.int .i64 4))], none⟩,
       ⟨some 5, .mv (.t 28), none⟩] [4, 5])
     (.seq
      (.seq
       (.reg [
         ⟨some 29, .mv (.t 5), none⟩,
         ⟨some 30, .bin .lss none (.t 29) (.c (.int .i64 56320)), none⟩,
         ⟨some 31, .mv (.t 30), none⟩,
         ⟨some 32, .mv (.t 5), some (31, false)⟩,
         ⟨some 33, .bin .gtr none (.t 32) (.c (.int .i64 57343)), some (31, false)⟩,
         ⟨some 34, .pick (.t 31) (.c (.bool true)) (.t 33), none⟩] [4, 5, 34])
       (.cnd (.t 34)
        (.seq
         (.reg [
           ⟨some 2, .mv (.c (.int .i64 0)), none⟩,
           ⟨some 3, .mv (.c (.int .i64 0)), none⟩] [2, 3])
         .ret)
        .skip))
      (.seq
       (.reg [
         ⟨some 35, .mv (.t 4), none⟩,
         ⟨some 36, .bin .sub none (.t 35) (.c (.int .i64 55296)), none⟩,
         ⟨some 37, .bin .shl none (.t 36) (.c (.int .u64 10)), none⟩,
         ⟨some 38, .bin .add none (.c (.int .i64 65536)) (.t 37), none⟩,
         ⟨some 39, .mv (.t 5), none⟩,
         ⟨some 40, .bin .add none (.t 38) (.t 39), none⟩,
         ⟨some 41, .bin .sub none (.t 40) (.c (.int .i64 56320)), none⟩,
         ⟨some 2, .mv (.t 41), none⟩,
         ⟨some 3, .mv (.c (.int .i64 11)), none⟩] [2, 3])
       .ret))))))),
[.tmp 2, .tmp 3]⟩
theorem F176_ok : prepF Go.Proofs.Tryz.prog ⟨[], [(0, [0]), (1, [0, 4]), (2, [0, 4, 14]), (3, [4, 16]), (4, [2, 3]), (5, [2, 3]), (6, [0, 4, 25]), (7, [2, 3]), (8, [4, 5]), (9, [4, 5, 34]), (10, [2, 3]), (11, [2, 3])], []⟩ Go.Proofs.Tryz.f176 = some F176 := by kernel_rfl
theorem F176_fn : FnOK2 Go.Proofs.Tryz.prog 176 (.pl F176) := .pl Go.Proofs.Tryz.func176 (by kernel_rfl) F176_ok
/-- emend/text.put$1 -/
def F177 : DF := ⟨2,
(.seq
 (.reg [
   ⟨some 3, .mv (.c (.int .u8 0)), none⟩] [0, 1])
 (.seq
  (.reg [
    ⟨some 4, .ld false 1 (.t 1), none⟩,
    ⟨some 5, .mv (.t 0), none⟩,
    ⟨some 6, .bin .shr none (.t 4) (.t 5), none⟩,
    ⟨some 7, .bin .and none (.t 6) (.c (.int .i64 63)), none⟩,
    ⟨some 8, .bin .or none (.c (.int .i64 128)) (.t 7), none⟩,
    ⟨some 9, .cvI .u8 (.t 8), none⟩,
    ⟨some 3, .mv (.t 9), none⟩] [3])
  .ret)),
[.tmp 3]⟩
theorem F177_ok : prepF Go.Proofs.Tryz.prog ⟨[], [(0, [0, 1]), (1, [3])], []⟩ Go.Proofs.Tryz.f177 = some F177 := by kernel_rfl
theorem F177_fn : FnOK2 Go.Proofs.Tryz.prog 177 (.pl F177) := .pl Go.Proofs.Tryz.func177 (by kernel_rfl) F177_ok
/-- internal/strconv.small -/
def F180 : DF := ⟨1,
(.seq
 (.reg [
   ⟨some 2, .mv (.c (.str [])), none⟩] [0])
 (.seq
  (.seq
   (.reg [
     ⟨some 3, .mv (.t 0), none⟩,
     ⟨some 4, .bin .lss none (.t 3) (.c (.int .i64 10)), none⟩] [0, 4])
   (.cnd (.t 4)
    (.seq
     (.reg [
       ⟨some 5, .mv (.t 0), none⟩,
       ⟨some 6, .mv (.t 0), none⟩,
       ⟨some 7, .bin .add none (.t 6) (.c (.int .i64 1)), none⟩,
       ⟨some 8, .slS (.c (.str [48, 49, 50, 51, 52, 53, 54, 55, 56, 57, 97, 98, 99, 100, 101, 102, 103, 104, 105, 106, 107, 108, 109, 110, 111, 112, 113, 114, 115, 116, 117, 118, 119, 120, 121, 122])) (some (.t 5)) (some (.t 7)), none⟩,
       ⟨some 2, .mv (.t 8), none⟩] [2])
     .ret)
    .skip))
  (.seq
   (.reg [
     ⟨some 9, .mv (.t 0), none⟩,
     ⟨some 10, .bin .mul none (.t 9) (.c (.int .i64 2)), none⟩,
     ⟨some 11, .mv (.t 0), none⟩,
     ⟨some 12, .bin .mul none (.t 11) (.c (.int .i64 2)), none⟩,
     ⟨some 13, .bin .add none (.t 12) (.c (.int .i64 2)), none⟩,
     ⟨some 14, .slS (.c (.str [48, 48, 48, 49, 48, 50, 48, 51, 48, 52, 48, 53, 48, 54, 48, 55, 48, 56, 48, 57, 49, 48, 49, 49, 49, 50, 49, 51, 49, 52, 49, 53, 49, 54, 49, 55, 49, 56, 49, 57, 50, 48, 50, 49, 50, 50, 50, 51, 50, 52, 50, 53, 50, 54, 50, 55, 50, 56, 50, 57, 51, 48, 51, 49, 51, 50, 51, 51, 51, 52, 51, 53, 51, 54, 51, 55, 51, 56, 51, 57, 52, 48, 52, 49, 52, 50, 52, 51, 52, 52, 52, 53, 52, 54, 52, 55, 52, 56, 52, 57, 53, 48, 53, 49, 53, 50, 53, 51, 53, 52, 53, 53, 53, 54, 53, 55, 53, 56, 53, 57, 54, 48, 54, 49, 54, 50, 54, 51, 54, 52, 54, 53, 54, 54, 54, 55, 54, 56, 54, 57, 55, 48, 55, 49, 55, 50, 55, 51, 55, 52, 55, 53, 55, 54, 55, 55, 55, 56, 55, 57, 56, 48, 56, 49, 56, 50, 56, 51, 56, 52, 56, 53, 56, 54, 56, 55, 56, 56, 56, 57, 57, 48, 57, 49, 57, 50, 57, 51, 57, 52, 57, 53, 57, 54, 57, 55, 57, 56, 57, 57])) (some (.t 10)) (some (.t 13)), none⟩,
     ⟨some 2, .mv (.t 14), none⟩] [2])
   .ret))),
[.tmp 2]⟩
theorem F180_ok : prepF Go.Proofs.Tryz.prog ⟨[], [(0, [0]), (1, [0, 4]), (2, [2]), (3, [2])], []⟩ Go.Proofs.Tryz.f180 = some F180 := by kernel_rfl
theorem F180_fn : FnOK2 Go.Proofs.Tryz.prog 180 (.pl F180) := .pl Go.Proofs.Tryz.func180 (by kernel_rfl) F180_ok
/-- internal/strconv.numDigits -/
def F181 : DF := ⟨1,
(.seq
 (.reg [
   ⟨some 2, .mv (.c (.int .i64 0)), none⟩] [0])
 (.seq
  (.reg [
    ⟨some 4, .mv (.t 0), none⟩,
    ⟨some 5, .call 207 [(.t 4)], none⟩,
    ⟨some 6, .call 206 [(.t 5)], none⟩,
    ⟨some 3, .mv (.t 6), none⟩] [0, 3])
  (.seq
   (.reg [
     ⟨some 7, .mv (.t 3), none⟩,
     ⟨some 8, .mv (.t 0), none⟩,
     ⟨some 9, .mv (.t 3), none⟩,
     ⟨some 10, .iaA 1 20 (.g 2) (.t 9), none⟩,
     ⟨some 11, .ld false 1 (.t 10), none⟩,
     ⟨some 12, .bin .geq none (.t 8) (.t 11), none⟩,
     ⟨some 13, .call 208 [(.t 12)], none⟩,
     ⟨some 14, .bin .add none (.t 7) (.t 13), none⟩,
     ⟨some 2, .mv (.t 14), none⟩] [2])
   .ret))),
[.tmp 2]⟩
theorem F181_ok : prepF Go.Proofs.Tryz.prog ⟨[], [(0, [0]), (1, [0, 3]), (2, [2])], []⟩ Go.Proofs.Tryz.f181 = some F181 := by kernel_rfl
theorem F181_fn : FnOK2 Go.Proofs.Tryz.prog 181 (.pl F181) := .pl Go.Proofs.Tryz.func181 (by kernel_rfl) F181_ok
/-- internal/strconv.formatBase10 -/
def F182 : DF := ⟨2,
(.seq
 (.reg [
   ⟨some 17, .mv (.t 0), none⟩,
   ⟨some 18, .len (.t 17), none⟩,
   ⟨some 4, .mv (.t 18), none⟩] [0, 1, 4])
 (.seq
  (.blk 0
   (.seq
    (.trim [0, 1, 4])
    (.lop
     (.seq
      (.seq
       (.seq
        (.reg [
          ⟨some 19, .mv (.t 4), none⟩,
          ⟨some 20, .bin .geq none (.t 19) (.c (.int .i64 8)), none⟩] [0, 1, 4, 20])
        (.cnd (.t 20)
         .skip
         (.exit 0)))
       (.blk 1
        (.seq
         (.reg [
           ⟨some 21, .mv (.t 1), none⟩,
           ⟨some 22, .bin .rem none (.t 21) (.c (.int .u64 100000000)), none⟩,
           ⟨some 23, .cvI .u32 (.t 22), none⟩,
           ⟨some 5, .mv (.t 23), none⟩] [0, 1, 4, 5])
         (.seq
          (.reg [
            ⟨some 24, .mv (.t 1), none⟩,
            ⟨some 25, .bin .quo none (.t 24) (.c (.int .u64 100000000)), none⟩,
            ⟨some 1, .mv (.t 25), none⟩] [0, 1, 4, 5])
          (.seq
           (.reg [
             ⟨some 26, .mv (.t 5), none⟩,
             ⟨some 27, .bin .quo none (.t 26) (.c (.int .u32 10000)), none⟩,
             ⟨some 28, .mv (.t 5), none⟩,
             ⟨some 29, .bin .rem none (.t 28) (.c (.int .u32 10000)), none⟩,
             ⟨some 6, .mv (.t 27), none⟩,
             ⟨some 7, .mv (.t 29), none⟩] [0, 1, 4, 6, 7])
           (.seq
            (.reg [
              ⟨some 30, .mv (.t 7), none⟩,
              ⟨some 31, .bin .quo none (.t 30) (.c (.int .u32 100)), none⟩,
              ⟨some 32, .bin .mul none (.t 31) (.c (.int .u32 2)), none⟩,
              ⟨some 33, .mv (.t 7), none⟩,
              ⟨some 34, .bin .rem none (.t 33) (.c (.int .u32 100)), none⟩,
              ⟨some 35, .bin .mul none (.t 34) (.c (.int .u32 2)), none⟩,
              ⟨some 8, .mv (.t 32), none⟩,
              ⟨some 9, .mv (.t 35), none⟩] [0, 1, 4, 6, 8, 9])
            (.seq
             (.reg [
               ⟨some 36, .mv (.t 6), none⟩,
               ⟨some 37, .bin .quo none (.t 36) (.c (.int .u32 100)), none⟩,
               ⟨some 38, .bin .mul none (.t 37) (.c (.int .u32 2)), none⟩,
               ⟨some 39, .mv (.t 6), none⟩,
               ⟨some 40, .bin .rem none (.t 39) (.c (.int .u32 100)), none⟩,
               ⟨some 41, .bin .mul none (.t 40) (.c (.int .u32 2)), none⟩,
               ⟨some 10, .mv (.t 38), none⟩,
               ⟨some 11, .mv (.t 41), none⟩] [0, 1, 4, 8, 9, 10, 11])
             (.seq
              (.drw [
                ((⟨some 42, .mv (.t 0), none⟩, none), []),
                ((⟨some 43, .mv (.t 4), none⟩, none), []),
                ((⟨some 44, .bin .sub none (.t 43) (.c (.int .i64 1)), none⟩, none), []),
                ((⟨some 45, .mv (.t 0), none⟩, none), []),
                ((⟨some 46, .mv (.t 4), none⟩, none), []),
                ((⟨some 47, .bin .sub none (.t 46) (.c (.int .i64 2)), none⟩, none), []),
                ((⟨some 48, .mv (.t 9), none⟩, none), []),
                ((⟨some 49, .bin .add none (.t 48) (.c (.int .u32 1)), none⟩, none), []),
                ((⟨some 50, .ixS (.c (.str [48, 48, 48, 49, 48, 50, 48, 51, 48, 52, 48, 53, 48, 54, 48, 55, 48, 56, 48, 57, 49, 48, 49, 49, 49, 50, 49, 51, 49, 52, 49, 53, 49, 54, 49, 55, 49, 56, 49, 57, 50, 48, 50, 49, 50, 50, 50, 51, 50, 52, 50, 53, 50, 54, 50, 55, 50, 56, 50, 57, 51, 48, 51, 49, 51, 50, 51, 51, 51, 52, 51, 53, 51, 54, 51, 55, 51, 56, 51, 57, 52, 48, 52, 49, 52, 50, 52, 51, 52, 52, 52, 53, 52, 54, 52, 55, 52, 56, 52, 57, 53, 48, 53, 49, 53, 50, 53, 51, 53, 52, 53, 53, 53, 54, 53, 55, 53, 56, 53, 57, 54, 48, 54, 49, 54, 50, 54, 51, 54, 52, 54, 53, 54, 54, 54, 55, 54, 56, 54, 57, 55, 48, 55, 49, 55, 50, 55, 51, 55, 52, 55, 53, 55, 54, 55, 55, 55, 56, 55, 57, 56, 48, 56, 49, 56, 50, 56, 51, 56, 52, 56, 53, 56, 54, 56, 55, 56, 56, 56, 57, 57, 48, 57, 49, 57, 50, 57, 51, 57, 52, 57, 53, 57, 54, 57, 55, 57, 56, 57, 57])) (.t 49), none⟩, none), []),
                ((⟨some 51, .mv (.t 9), none⟩, none), []),
                ((⟨some 52, .ixS (.c (.str [48, 48, 48, 49, 48, 50, 48, 51, 48, 52, 48, 53, 48, 54, 48, 55, 48, 56, 48, 57, 49, 48, 49, 49, 49, 50, 49, 51, 49, 52, 49, 53, 49, 54, 49, 55, 49, 56, 49, 57, 50, 48, 50, 49, 50, 50, 50, 51, 50, 52, 50, 53, 50, 54, 50, 55, 50, 56, 50, 57, 51, 48, 51, 49, 51, 50, 51, 51, 51, 52, 51, 53, 51, 54, 51, 55, 51, 56, 51, 57, 52, 48, 52, 49, 52, 50, 52, 51, 52, 52, 52, 53, 52, 54, 52, 55, 52, 56, 52, 57, 53, 48, 53, 49, 53, 50, 53, 51, 53, 52, 53, 53, 53, 54, 53, 55, 53, 56, 53, 57, 54, 48, 54, 49, 54, 50, 54, 51, 54, 52, 54, 53, 54, 54, 54, 55, 54, 56, 54, 57, 55, 48, 55, 49, 55, 50, 55, 51, 55, 52, 55, 53, 55, 54, 55, 55, 55, 56, 55, 57, 56, 48, 56, 49, 56, 50, 56, 51, 56, 52, 56, 53, 56, 54, 56, 55, 56, 56, 56, 57, 57, 48, 57, 49, 57, 50, 57, 51, 57, 52, 57, 53, 57, 54, 57, 55, 57, 56, 57, 57])) (.t 51), none⟩, none), []),
                ((⟨some 53, .ia 1 (.t 42) (.t 44), none⟩, none), []),
                ((⟨none, .st 1 (.t 53) (.t 50), none⟩, none), []),
                ((⟨some 54, .ia 1 (.t 45) (.t 47), none⟩, none), []),
                ((⟨none, .st 1 (.t 54) (.t 52), none⟩, none), [])] [0, 1, 4, 8, 10, 11])
              (.seq
               (.drw [
                 ((⟨some 55, .mv (.t 0), none⟩, none), []),
                 ((⟨some 56, .mv (.t 4), none⟩, none), []),
                 ((⟨some 57, .bin .sub none (.t 56) (.c (.int .i64 3)), none⟩, none), []),
                 ((⟨some 58, .mv (.t 0), none⟩, none), []),
                 ((⟨some 59, .mv (.t 4), none⟩, none), []),
                 ((⟨some 60, .bin .sub none (.t 59) (.c (.int .i64 4)), none⟩, none), []),
                 ((⟨some 61, .mv (.t 8), none⟩, none), []),
                 ((⟨some 62, .bin .add none (.t 61) (.c (.int .u32 1)), none⟩, none), []),
                 ((⟨some 63, .ixS (.c (.str [48, 48, 48, 49, 48, 50, 48, 51, 48, 52, 48, 53, 48, 54, 48, 55, 48, 56, 48, 57, 49, 48, 49, 49, 49, 50, 49, 51, 49, 52, 49, 53, 49, 54, 49, 55, 49, 56, 49, 57, 50, 48, 50, 49, 50, 50, 50, 51, 50, 52, 50, 53, 50, 54, 50, 55, 50, 56, 50, 57, 51, 48, 51, 49, 51, 50, 51, 51, 51, 52, 51, 53, 51, 54, 51, 55, 51, 56, 51, 57, 52, 48, 52, 49, 52, 50, 52, 51, 52, 52, 52, 53, 52, 54, 52, 55, 52, 56, 52, 57, 53, 48, 53, 49, 53, 50, 53, 51, 53, 52, 53, 53, 53, 54, 53, 55, 53, 56, 53, 57, 54, 48, 54, 49, 54, 50, 54, 51, 54, 52, 54, 53, 54, 54, 54, 55, 54, 56, 54, 57, 55, 48, 55, 49, 55, 50, 55, 51, 55, 52, 55, 53, 55, 54, 55, 55, 55, 56, 55, 57, 56, 48, 56, 49, 56, 50, 56, 51, 56, 52, 56, 53, 56, 54, 56, 55, 56, 56, 56, 57, 57, 48, 57, 49, 57, 50, 57, 51, 57, 52, 57, 53, 57, 54, 57, 55, 57, 56, 57, 57])) (.t 62), none⟩, none), []),
                 ((⟨some 64, .mv (.t 8), none⟩, none), []),
                 ((⟨some 65, .ixS (.c (.str [48, 48, 48, 49, 48, 50, 48, 51, 48, 52, 48, 53, 48, 54, 48, 55, 48, 56, 48, 57, 49, 48, 49, 49, 49, 50, 49, 51, 49, 52, 49, 53, 49, 54, 49, 55, 49, 56, 49, 57, 50, 48, 50, 49, 50, 50, 50, 51, 50, 52, 50, 53, 50, 54, 50, 55, 50, 56, 50, 57, 51, 48, 51, 49, 51, 50, 51, 51, 51, 52, 51, 53, 51, 54, 51, 55, 51, 56, 51, 57, 52, 48, 52, 49, 52, 50, 52, 51, 52, 52, 52, 53, 52, 54, 52, 55, 52, 56, 52, 57, 53, 48, 53, 49, 53, 50, 53, 51, 53, 52, 53, 53, 53, 54, 53, 55, 53, 56, 53, 57, 54, 48, 54, 49, 54, 50, 54, 51, 54, 52, 54, 53, 54, 54, 54, 55, 54, 56, 54, 57, 55, 48, 55, 49, 55, 50, 55, 51, 55, 52, 55, 53, 55, 54, 55, 55, 55, 56, 55, 57, 56, 48, 56, 49, 56, 50, 56, 51, 56, 52, 56, 53, 56, 54, 56, 55, 56, 56, 56, 57, 57, 48, 57, 49, 57, 50, 57, 51, 57, 52, 57, 53, 57, 54, 57, 55, 57, 56, 57, 57])) (.t 64), none⟩, none), []),
                 ((⟨some 66, .ia 1 (.t 55) (.t 57), none⟩, none), []),
                 ((⟨none, .st 1 (.t 66) (.t 63), none⟩, none), []),
                 ((⟨some 67, .ia 1 (.t 58) (.t 60), none⟩, none), []),
                 ((⟨none, .st 1 (.t 67) (.t 65), none⟩, none), [])] [0, 1, 4, 10, 11])
               (.seq
                (.drw [
                  ((⟨some 68, .mv (.t 0), none⟩, none), []),
                  ((⟨some 69, .mv (.t 4), none⟩, none), []),
                  ((⟨some 70, .bin .sub none (.t 69) (.c (.int .i64 5)), none⟩, none), []),
                  ((⟨some 71, .mv (.t 0), none⟩, none), []),
                  ((⟨some 72, .mv (.t 4), none⟩, none), []),
                  ((⟨some 73, .bin .sub none (.t 72) (.c (.int .i64 6)), none⟩, none), []),
                  ((⟨some 74, .mv (.t 11), none⟩, none), []),
                  ((⟨some 75, .bin .add none (.t 74) (.c (.int .u32 1)), none⟩, none), []),
                  ((⟨some 76, .ixS (.c (.str [48, 48, 48, 49, 48, 50, 48, 51, 48, 52, 48, 53, 48, 54, 48, 55, 48, 56, 48, 57, 49, 48, 49, 49, 49, 50, 49, 51, 49, 52, 49, 53, 49, 54, 49, 55, 49, 56, 49, 57, 50, 48, 50, 49, 50, 50, 50, 51, 50, 52, 50, 53, 50, 54, 50, 55, 50, 56, 50, 57, 51, 48, 51, 49, 51, 50, 51, 51, 51, 52, 51, 53, 51, 54, 51, 55, 51, 56, 51, 57, 52, 48, 52, 49, 52, 50, 52, 51, 52, 52, 52, 53, 52, 54, 52, 55, 52, 56, 52, 57, 53, 48, 53, 49, 53, 50, 53, 51, 53, 52, 53, 53, 53, 54, 53, 55, 53, 56, 53, 57, 54, 48, 54, 49, 54, 50, 54, 51, 54, 52, 54, 53, 54, 54, 54, 55, 54, 56, 54, 57, 55, 48, 55, 49, 55, 50, 55, 51, 55, 52, 55, 53, 55, 54, 55, 55, 55, 56, 55, 57, 56, 48, 56, 49, 56, 50, 56, 51, 56, 52, 56, 53, 56, 54, 56, 55, 56, 56, 56, 57, 57, 48, 57, 49, 57, 50, 57, 51, 57, 52, 57, 53, 57, 54, 57, 55, 57, 56, 57, 57])) (.t 75), none⟩, none), []),
                  ((⟨some 77, .mv (.t 11), none⟩, none), []),
                  ((⟨some 78, .ixS (.c (.str [48, 48, 48, 49, 48, 50, 48, 51, 48, 52, 48, 53, 48, 54, 48, 55, 48, 56, 48, 57, 49, 48, 49, 49, 49, 50, 49, 51, 49, 52, 49, 53, 49, 54, 49, 55, 49, 56, 49, 57, 50, 48, 50, 49, 50, 50, 50, 51, 50, 52, 50, 53, 50, 54, 50, 55, 50, 56, 50, 57, 51, 48, 51, 49, 51, 50, 51, 51, 51, 52, 51, 53, 51, 54, 51, 55, 51, 56, 51, 57, 52, 48, 52, 49, 52, 50, 52, 51, 52, 52, 52, 53, 52, 54, 52, 55, 52, 56, 52, 57, 53, 48, 53, 49, 53, 50, 53, 51, 53, 52, 53, 53, 53, 54, 53, 55, 53, 56, 53, 57, 54, 48, 54, 49, 54, 50, 54, 51, 54, 52, 54, 53, 54, 54, 54, 55, 54, 56, 54, 57, 55, 48, 55, 49, 55, 50, 55, 51, 55, 52, 55, 53, 55, 54, 55, 55, 55, 56, 55, 57, 56, 48, 56, 49, 56, 50, 56, 51, 56, 52, 56, 53, 56, 54, 56, 55, 56, 56, 56, 57, 57, 48, 57, 49, 57, 50, 57, 51, 57, 52, 57, 53, 57, 54, 57, 55, 57, 56, 57, 57])) (.t 77), none⟩, none), []),
                  ((⟨some 79, .ia 1 (.t 68) (.t 70), none⟩, none), []),
                  ((⟨none, .st 1 (.t 79) (.t 76), none⟩, none), []),
                  ((⟨some 80, .ia 1 (.t 71) (.t 73), none⟩, none), []),
                  ((⟨none, .st 1 (.t 80) (.t 78), none⟩, none), [])] [0, 1, 4, 10])
                (.seq
                 (.drw [
                   ((⟨some 81, .mv (.t 0), none⟩, none), []),
                   ((⟨some 82, .mv (.t 4), none⟩, none), []),
                   ((⟨some 83, .bin .sub none (.t 82) (.c (.int .i64 7)), none⟩, none), []),
                   ((⟨some 84, .mv (.t 0), none⟩, none), []),
                   ((⟨some 85, .mv (.t 4), none⟩, none), []),
                   ((⟨some 86, .bin .sub none (.t 85) (.c (.int .i64 8)), none⟩, none), []),
                   ((⟨some 87, .mv (.t 10), none⟩, none), []),
                   ((⟨some 88, .bin .add none (.t 87) (.c (.int .u32 1)), none⟩, none), []),
                   ((⟨some 89, .ixS (.c (.str [48, 48, 48, 49, 48, 50, 48, 51, 48, 52, 48, 53, 48, 54, 48, 55, 48, 56, 48, 57, 49, 48, 49, 49, 49, 50, 49, 51, 49, 52, 49, 53, 49, 54, 49, 55, 49, 56, 49, 57, 50, 48, 50, 49, 50, 50, 50, 51, 50, 52, 50, 53, 50, 54, 50, 55, 50, 56, 50, 57, 51, 48, 51, 49, 51, 50, 51, 51, 51, 52, 51, 53, 51, 54, 51, 55, 51, 56, 51, 57, 52, 48, 52, 49, 52, 50, 52, 51, 52, 52, 52, 53, 52, 54, 52, 55, 52, 56, 52, 57, 53, 48, 53, 49, 53, 50, 53, 51, 53, 52, 53, 53, 53, 54, 53, 55, 53, 56, 53, 57, 54, 48, 54, 49, 54, 50, 54, 51, 54, 52, 54, 53, 54, 54, 54, 55, 54, 56, 54, 57, 55, 48, 55, 49, 55, 50, 55, 51, 55, 52, 55, 53, 55, 54, 55, 55, 55, 56, 55, 57, 56, 48, 56, 49, 56, 50, 56, 51, 56, 52, 56, 53, 56, 54, 56, 55, 56, 56, 56, 57, 57, 48, 57, 49, 57, 50, 57, 51, 57, 52, 57, 53, 57, 54, 57, 55, 57, 56, 57, 57])) (.t 88), none⟩, none), []),
                   ((⟨some 90, .mv (.t 10), none⟩, none), []),
                   ((⟨some 91, .ixS (.c (.str [48, 48, 48, 49, 48, 50, 48, 51, 48, 52, 48, 53, 48, 54, 48, 55, 48, 56, 48, 57, 49, 48, 49, 49, 49, 50, 49, 51, 49, 52, 49, 53, 49, 54, 49, 55, 49, 56, 49, 57, 50, 48, 50, 49, 50, 50, 50, 51, 50, 52, 50, 53, 50, 54, 50, 55, 50, 56, 50, 57, 51, 48, 51, 49, 51, 50, 51, 51, 51, 52, 51, 53, 51, 54, 51, 55, 51, 56, 51, 57, 52, 48, 52, 49, 52, 50, 52, 51, 52, 52, 52, 53, 52, 54, 52, 55, 52, 56, 52, 57, 53, 48, 53, 49, 53, 50, 53, 51, 53, 52, 53, 53, 53, 54, 53, 55, 53, 56, 53, 57, 54, 48, 54, 49, 54, 50, 54, 51, 54, 52, 54, 53, 54, 54, 54, 55, 54, 56, 54, 57, 55, 48, 55, 49, 55, 50, 55, 51, 55, 52, 55, 53, 55, 54, 55, 55, 55, 56, 55, 57, 56, 48, 56, 49, 56, 50, 56, 51, 56, 52, 56, 53, 56, 54, 56, 55, 56, 56, 56, 57, 57, 48, 57, 49, 57, 50, 57, 51, 57, 52, 57, 53, 57, 54, 57, 55, 57, 56, 57, 57])) (.t 90), none⟩, none), []),
                   ((⟨some 92, .ia 1 (.t 81) (.t 83), none⟩, none), []),
                   ((⟨none, .st 1 (.t 92) (.t 89), none⟩, none), []),
                   ((⟨some 93, .ia 1 (.t 84) (.t 86), none⟩, none), []),
                   ((⟨none, .st 1 (.t 93) (.t 91), none⟩, none), [])] [0, 1, 4])
                 (.reg [
                   ⟨some 94, .mv (.t 4), none⟩,
                   ⟨some 95, .bin .sub none (.t 94) (.c (.int .i64 8)), none⟩,
                   ⟨some 4, .mv (.t 95), none⟩] [0, 1, 4]))))))))))))
      (.trim [0, 1, 4])))))
  (.seq
   (.reg [
     ⟨some 96, .mv (.t 1), none⟩,
     ⟨some 97, .cvI .u32 (.t 96), none⟩,
     ⟨some 12, .mv (.t 97), none⟩] [0, 4, 12])
   (.seq
    (.seq
     (.reg [
       ⟨some 98, .mv (.t 4), none⟩,
       ⟨some 99, .bin .geq none (.t 98) (.c (.int .i64 4)), none⟩] [0, 4, 12, 99])
     (.cnd (.t 99)
      (.seq
       (.reg [
         ⟨some 100, .mv (.t 12), none⟩,
         ⟨some 101, .bin .rem none (.t 100) (.c (.int .u32 10000)), none⟩,
         ⟨some 13, .mv (.t 101), none⟩] [0, 4, 12, 13])
       (.seq
        (.reg [
          ⟨some 102, .mv (.t 12), none⟩,
          ⟨some 103, .bin .quo none (.t 102) (.c (.int .u32 10000)), none⟩,
          ⟨some 12, .mv (.t 103), none⟩] [0, 4, 12, 13])
        (.seq
         (.reg [
           ⟨some 104, .mv (.t 13), none⟩,
           ⟨some 105, .bin .quo none (.t 104) (.c (.int .u32 100)), none⟩,
           ⟨some 106, .bin .mul none (.t 105) (.c (.int .u32 2)), none⟩,
           ⟨some 107, .mv (.t 13), none⟩,
           ⟨some 108, .bin .rem none (.t 107) (.c (.int .u32 100)), none⟩,
           ⟨some 109, .bin .mul none (.t 108) (.c (.int .u32 2)), none⟩,
           ⟨some 14, .mv (.t 106), none⟩,
           ⟨some 15, .mv (.t 109), none⟩] [0, 4, 12, 14, 15])
         (.seq
          (.drw [
            ((⟨some 110, .mv (.t 0), none⟩, none), []),
            ((⟨some 111, .mv (.t 4), none⟩, none), []),
            ((⟨some 112, .bin .sub none (.t 111) (.c (.int .i64 1)), none⟩, none), []),
            ((⟨some 113, .mv (.t 0), none⟩, none), []),
            ((⟨some 114, .mv (.t 4), none⟩, none), []),
            ((⟨some 115, .bin .sub none (.t 114) (.c (.int .i64 2)), none⟩, none), []),
            ((⟨some 116, .mv (.t 15), none⟩, none), []),
            ((⟨some 117, .bin .add none (.t 116) (.c (.int .u32 1)), none⟩, none), []),
            ((⟨some 118, .ixS (.c (.str [48, 48, 48, 49, 48, 50, 48, 51, 48, 52, 48, 53, 48, 54, 48, 55, 48, 56, 48, 57, 49, 48, 49, 49, 49, 50, 49, 51, 49, 52, 49, 53, 49, 54, 49, 55, 49, 56, 49, 57, 50, 48, 50, 49, 50, 50, 50, 51, 50, 52, 50, 53, 50, 54, 50, 55, 50, 56, 50, 57, 51, 48, 51, 49, 51, 50, 51, 51, 51, 52, 51, 53, 51, 54, 51, 55, 51, 56, 51, 57, 52, 48, 52, 49, 52, 50, 52, 51, 52, 52, 52, 53, 52, 54, 52, 55, 52, 56, 52, 57, 53, 48, 53, 49, 53, 50, 53, 51, 53, 52, 53, 53, 53, 54, 53, 55, 53, 56, 53, 57, 54, 48, 54, 49, 54, 50, 54, 51, 54, 52, 54, 53, 54, 54, 54, 55, 54, 56, 54, 57, 55, 48, 55, 49, 55, 50, 55, 51, 55, 52, 55, 53, 55, 54, 55, 55, 55, 56, 55, 57, 56, 48, 56, 49, 56, 50, 56, 51, 56, 52, 56, 53, 56, 54, 56, 55, 56, 56, 56, 57, 57, 48, 57, 49, 57, 50, 57, 51, 57, 52, 57, 53, 57, 54, 57, 55, 57, 56, 57, 57])) (.t 117), none⟩, none), []),
            ((⟨some 119, .mv (.t 15), none⟩, none), []),
            ((⟨some 120, .ixS (.c (.str [48, 48, 48, 49, 48, 50, 48, 51, 48, 52, 48, 53, 48, 54, 48, 55, 48, 56, 48, 57, 49, 48, 49, 49, 49, 50, 49, 51, 49, 52, 49, 53, 49, 54, 49, 55, 49, 56, 49, 57, 50, 48, 50, 49, 50, 50, 50, 51, 50, 52, 50, 53, 50, 54, 50, 55, 50, 56, 50, 57, 51, 48, 51, 49, 51, 50, 51, 51, 51, 52, 51, 53, 51, 54, 51, 55, 51, 56, 51, 57, 52, 48, 52, 49, 52, 50, 52, 51, 52, 52, 52, 53, 52, 54, 52, 55, 52, 56, 52, 57, 53, 48, 53, 49, 53, 50, 53, 51, 53, 52, 53, 53, 53, 54, 53, 55, 53, 56, 53, 57, 54, 48, 54, 49, 54, 50, 54, 51, 54, 52, 54, 53, 54, 54, 54, 55, 54, 56, 54, 57, 55, 48, 55, 49, 55, 50, 55, 51, 55, 52, 55, 53, 55, 54, 55, 55, 55, 56, 55, 57, 56, 48, 56, 49, 56, 50, 56, 51, 56, 52, 56, 53, 56, 54, 56, 55, 56, 56, 56, 57, 57, 48, 57, 49, 57, 50, 57, 51, 57, 52, 57, 53, 57, 54, 57, 55, 57, 56, 57, 57])) (.t 119), none⟩, none), []),
            ((⟨some 121, .ia 1 (.t 110) (.t 112), none⟩, none), []),
            ((⟨none, .st 1 (.t 121) (.t 118), none⟩, none), []),
            ((⟨some 122, .ia 1 (.t 113) (.t 115), none⟩, none), []),
            ((⟨none, .st 1 (.t 122) (.t 120), none⟩, none), [])] [0, 4, 12, 14])
          (.seq
           (.drw [
             ((⟨some 123, .mv (.t 0), none⟩, none), []),
             ((⟨some 124, .mv (.t 4), none⟩, none), []),
             ((⟨some 125, .bin .sub none (.t 124) (.c (.int .i64 3)), none⟩, none), []),
             ((⟨some 126, .mv (.t 0), none⟩, none), []),
             ((⟨some 127, .mv (.t 4), none⟩, none), []),
             ((⟨some 128, .bin .sub none (.t 127) (.c (.int .i64 4)), none⟩, none), []),
             ((⟨some 129, .mv (.t 14), none⟩, none), []),
             ((⟨some 130, .bin .add none (.t 129) (.c (.int .u32 1)), none⟩, none), []),
             ((⟨some 131, .ixS (.c (.str [48, 48, 48, 49, 48, 50, 48, 51, 48, 52, 48, 53, 48, 54, 48, 55, 48, 56, 48, 57, 49, 48, 49, 49, 49, 50, 49, 51, 49, 52, 49, 53, 49, 54, 49, 55, 49, 56, 49, 57, 50, 48, 50, 49, 50, 50, 50, 51, 50, 52, 50, 53, 50, 54, 50, 55, 50, 56, 50, 57, 51, 48, 51, 49, 51, 50, 51, 51, 51, 52, 51, 53, 51, 54, 51, 55, 51, 56, 51, 57, 52, 48, 52, 49, 52, 50, 52, 51, 52, 52, 52, 53, 52, 54, 52, 55, 52, 56, 52, 57, 53, 48, 53, 49, 53, 50, 53, 51, 53, 52, 53, 53, 53, 54, 53, 55, 53, 56, 53, 57, 54, 48, 54, 49, 54, 50, 54, 51, 54, 52, 54, 53, 54, 54, 54, 55, 54, 56, 54, 57, 55, 48, 55, 49, 55, 50, 55, 51, 55, 52, 55, 53, 55, 54, 55, 55, 55, 56, 55, 57, 56, 48, 56, 49, 56, 50, 56, 51, 56, 52, 56, 53, 56, 54, 56, 55, 56, 56, 56, 57, 57, 48, 57, 49, 57, 50, 57, 51, 57, 52, 57, 53, 57, 54, 57, 55, 57, 56, 57, 57])) (.t 130), none⟩, none), []),
             ((⟨some 132, .mv (.t 14), none⟩, none), []),
             ((⟨some 133, .ixS (.c (.str [48, 48, 48, 49, 48, 50, 48, 51, 48, 52, 48, 53, 48, 54, 48, 55, 48, 56, 48, 57, 49, 48, 49, 49, 49, 50, 49, 51, 49, 52, 49, 53, 49, 54, 49, 55, 49, 56, 49, 57, 50, 48, 50, 49, 50, 50, 50, 51, 50, 52, 50, 53, 50, 54, 50, 55, 50, 56, 50, 57, 51, 48, 51, 49, 51, 50, 51, 51, 51, 52, 51, 53, 51, 54, 51, 55, 51, 56, 51, 57, 52, 48, 52, 49, 52, 50, 52, 51, 52, 52, 52, 53, 52, 54, 52, 55, 52, 56, 52, 57, 53, 48, 53, 49, 53, 50, 53, 51, 53, 52, 53, 53, 53, 54, 53, 55, 53, 56, 53, 57, 54, 48, 54, 49, 54, 50, 54, 51, 54, 52, 54, 53, 54, 54, 54, 55, 54, 56, 54, 57, 55, 48, 55, 49, 55, 50, 55, 51, 55, 52, 55, 53, 55, 54, 55, 55, 55, 56, 55, 57, 56, 48, 56, 49, 56, 50, 56, 51, 56, 52, 56, 53, 56, 54, 56, 55, 56, 56, 56, 57, 57, 48, 57, 49, 57, 50, 57, 51, 57, 52, 57, 53, 57, 54, 57, 55, 57, 56, 57, 57])) (.t 132), none⟩, none), []),
             ((⟨some 134, .ia 1 (.t 123) (.t 125), none⟩, none), []),
             ((⟨none, .st 1 (.t 134) (.t 131), none⟩, none), []),
             ((⟨some 135, .ia 1 (.t 126) (.t 128), none⟩, none), []),
             ((⟨none, .st 1 (.t 135) (.t 133), none⟩, none), [])] [0, 4, 12])
           (.reg [
             ⟨some 136, .mv (.t 4), none⟩,
             ⟨some 137, .bin .sub none (.t 136) (.c (.int .i64 4)), none⟩,
             ⟨some 4, .mv (.t 137), none⟩] [0, 4, 12]))))))
      .skip))
    (.seq
     (.seq
      (.reg [
        ⟨some 138, .mv (.t 4), none⟩,
        ⟨some 139, .bin .geq none (.t 138) (.c (.int .i64 2)), none⟩] [0, 4, 12, 139])
      (.cnd (.t 139)
       (.seq
        (.reg [
          ⟨some 140, .mv (.t 12), none⟩,
          ⟨some 141, .bin .rem none (.t 140) (.c (.int .u32 100)), none⟩,
          ⟨some 142, .bin .mul none (.t 141) (.c (.int .u32 2)), none⟩,
          ⟨some 16, .mv (.t 142), none⟩] [0, 4, 12, 16])
        (.seq
         (.reg [
           ⟨some 143, .mv (.t 12), none⟩,
           ⟨some 144, .bin .quo none (.t 143) (.c (.int .u32 100)), none⟩,
           ⟨some 12, .mv (.t 144), none⟩] [0, 4, 12, 16])
         (.seq
          (.drw [
            ((⟨some 145, .mv (.t 0), none⟩, none), []),
            ((⟨some 146, .mv (.t 4), none⟩, none), []),
            ((⟨some 147, .bin .sub none (.t 146) (.c (.int .i64 1)), none⟩, none), []),
            ((⟨some 148, .mv (.t 0), none⟩, none), []),
            ((⟨some 149, .mv (.t 4), none⟩, none), []),
            ((⟨some 150, .bin .sub none (.t 149) (.c (.int .i64 2)), none⟩, none), []),
            ((⟨some 151, .mv (.t 16), none⟩, none), []),
            ((⟨some 152, .bin .add none (.t 151) (.c (.int .u32 1)), none⟩, none), []),
            ((⟨some 153, .ixS (.c (.str [48, 48, 48, 49, 48, 50, 48, 51, 48, 52, 48, 53, 48, 54, 48, 55, 48, 56, 48, 57, 49, 48, 49, 49, 49, 50, 49, 51, 49, 52, 49, 53, 49, 54, 49, 55, 49, 56, 49, 57, 50, 48, 50, 49, 50, 50, 50, 51, 50, 52, 50, 53, 50, 54, 50, 55, 50, 56, 50, 57, 51, 48, 51, 49, 51, 50, 51, 51, 51, 52, 51, 53, 51, 54, 51, 55, 51, 56, 51, 57, 52, 48, 52, 49, 52, 50, 52, 51, 52, 52, 52, 53, 52, 54, 52, 55, 52, 56, 52, 57, 53, 48, 53, 49, 53, 50, 53, 51, 53, 52, 53, 53, 53, 54, 53, 55, 53, 56, 53, 57, 54, 48, 54, 49, 54, 50, 54, 51, 54, 52, 54, 53, 54, 54, 54, 55, 54, 56, 54, 57, 55, 48, 55, 49, 55, 50, 55, 51, 55, 52, 55, 53, 55, 54, 55, 55, 55, 56, 55, 57, 56, 48, 56, 49, 56, 50, 56, 51, 56, 52, 56, 53, 56, 54, 56, 55, 56, 56, 56, 57, 57, 48, 57, 49, 57, 50, 57, 51, 57, 52, 57, 53, 57, 54, 57, 55, 57, 56, 57, 57])) (.t 152), none⟩, none), []),
            ((⟨some 154, .mv (.t 16), none⟩, none), []),
            ((⟨some 155, .ixS (.c (.str [48, 48, 48, 49, 48, 50, 48, 51, 48, 52, 48, 53, 48, 54, 48, 55, 48, 56, 48, 57, 49, 48, 49, 49, 49, 50, 49, 51, 49, 52, 49, 53, 49, 54, 49, 55, 49, 56, 49, 57, 50, 48, 50, 49, 50, 50, 50, 51, 50, 52, 50, 53, 50, 54, 50, 55, 50, 56, 50, 57, 51, 48, 51, 49, 51, 50, 51, 51, 51, 52, 51, 53, 51, 54, 51, 55, 51, 56, 51, 57, 52, 48, 52, 49, 52, 50, 52, 51, 52, 52, 52, 53, 52, 54, 52, 55, 52, 56, 52, 57, 53, 48, 53, 49, 53, 50, 53, 51, 53, 52, 53, 53, 53, 54, 53, 55, 53, 56, 53, 57, 54, 48, 54, 49, 54, 50, 54, 51, 54, 52, 54, 53, 54, 54, 54, 55, 54, 56, 54, 57, 55, 48, 55, 49, 55, 50, 55, 51, 55, 52, 55, 53, 55, 54, 55, 55, 55, 56, 55, 57, 56, 48, 56, 49, 56, 50, 56, 51, 56, 52, 56, 53, 56, 54, 56, 55, 56, 56, 56, 57, 57, 48, 57, 49, 57, 50, 57, 51, 57, 52, 57, 53, 57, 54, 57, 55, 57, 56, 57, 57])) (.t 154), none⟩, none), []),
            ((⟨some 156, .ia 1 (.t 145) (.t 147), none⟩, none), []),
            ((⟨none, .st 1 (.t 156) (.t 153), none⟩, none), []),
            ((⟨some 157, .ia 1 (.t 148) (.t 150), none⟩, none), []),
            ((⟨none, .st 1 (.t 157) (.t 155), none⟩, none), [])] [0, 4, 12])
          (.reg [
            ⟨some 158, .mv (.t 4), none⟩,
            ⟨some 159, .bin .sub none (.t 158) (.c (.int .i64 2)), none⟩,
            ⟨some 4, .mv (.t 159), none⟩] [0, 4, 12]))))
       .skip))
     (.seq
      (.reg [
        ⟨some 160, .mv (.t 4), none⟩,
        ⟨some 161, .bin .gtr none (.t 160) (.c (.int .i64 0)), none⟩] [0, 12, 161])
      (.cnd (.t 161)
       (.reg [
         ⟨some 162, .mv (.t 0), none⟩,
         ⟨some 163, .mv (.t 12), none⟩,
         ⟨some 164, .bin .add none (.c (.int .u32 48)) (.t 163), none⟩,
         ⟨some 165, .cvI .u8 (.t 164), none⟩,
         ⟨some 166, .ia 1 (.t 162) (.c (.int .i64 0)), none⟩,
         ⟨none, .st 1 (.t 166) (.t 165), none⟩] [])
       .skip))))))),
[]⟩
theorem F182_ok : prepF Go.Proofs.Tryz.prog ⟨[], [(0, [0, 1, 4]), (1, [0, 1, 4, 20]), (2, [0, 1, 4, 5]), (3, [0, 1, 4, 5]), (4, [0, 1, 4, 6, 7]), (5, [0, 1, 4, 6, 8, 9]), (6, [0, 1, 4, 8, 9, 10, 11]), (7, [0, 1, 4, 8, 10, 11]), (8, [0, 1, 4, 10, 11]), (9, [0, 1, 4, 10]), (10, [0, 1, 4]), (11, [0, 1, 4]), (12, [0, 4, 12]), (13, [0, 4, 12, 99]), (14, [0, 4, 12, 13]), (15, [0, 4, 12, 13]), (16, [0, 4, 12, 14, 15]), (17, [0, 4, 12, 14]), (18, [0, 4, 12]), (19, [0, 4, 12]), (20, [0, 4, 12, 139]), (21, [0, 4, 12, 16]), (22, [0, 4, 12, 16]), (23, [0, 4, 12]), (24, [0, 4, 12]), (25, [0, 12, 161]), (26, []), (1000000, [0, 1, 4])], []⟩ Go.Proofs.Tryz.f182 = some F182 := by kernel_rfl
theorem F182_fn : FnOK2 Go.Proofs.Tryz.prog 182 (.pl F182) := .pl Go.Proofs.Tryz.func182 (by kernel_rfl) F182_ok
/-- internal/strconv.formatBits -/
def F183 : DF := ⟨5,
(.seq
 (.reg [
   ⟨some 10, .mv (.c (.sl 1 ⟨none, 0, (some 0), true⟩ [])), none⟩,
   ⟨some 11, .mv (.c (.str [])), none⟩] [0, 1, 2, 3, 4, 10, 11])
 (.seq
  (.seq
   (.reg [
     ⟨some 19, .mv (.t 2), none⟩,
     ⟨some 20, .bin .lss none (.t 19) (.c (.int .i64 2)), none⟩,
     ⟨some 21, .mv (.t 20), none⟩,
     ⟨some 22, .mv (.t 2), some (21, false)⟩,
     ⟨some 23, .bin .eql (some .int) (.t 22) (.c (.int .i64 10)), some (21, false)⟩,
     ⟨some 24, .pick (.t 21) (.c (.bool true)) (.t 23), none⟩,
     ⟨some 25, .mv (.t 24), none⟩,
     ⟨some 26, .mv (.t 2), some (25, false)⟩,
     ⟨some 27, .bin .gtr none (.t 26) (.c (.int .i64 36)), some (25, false)⟩,
     ⟨some 28, .pick (.t 25) (.c (.bool true)) (.t 27), none⟩] [0, 1, 2, 3, 4, 10, 11, 28])
   (.cnd (.t 28)
    (.reg [
      ⟨some 29, .mki 9 (.c (.str [115, 116, 114, 99, 111, 110, 118, 58, 32, 105, 108, 108, 101, 103, 97, 108, 32, 65, 112, 112, 101, 110, 100, 73, 110, 116, 47, 70, 111, 114, 109, 97, 116, 73, 110, 116, 32, 98, 97, 115, 101])), none⟩,
      ⟨none, .pnc (.t 29), none⟩] [0, 1, 2, 3, 4, 10, 11])
    .skip))
  (.seq
   (.reg [
     ⟨some 12, .alH 231 [(.int .u8 0), (.int .u8 0), (.int .u8 0), (.int .u8 0), (.int .u8 0), (.int .u8 0), (.int .u8 0), (.int .u8 0), (.int .u8 0), (.int .u8 0), (.int .u8 0), (.int .u8 0), (.int .u8 0), (.int .u8 0), (.int .u8 0), (.int .u8 0), (.int .u8 0), (.int .u8 0), (.int .u8 0), (.int .u8 0), (.int .u8 0), (.int .u8 0), (.int .u8 0), (.int .u8 0), (.int .u8 0), (.int .u8 0), (.int .u8 0), (.int .u8 0), (.int .u8 0), (.int .u8 0), (.int .u8 0), (.int .u8 0), (.int .u8 0), (.int .u8 0), (.int .u8 0), (.int .u8 0), (.int .u8 0), (.int .u8 0), (.int .u8 0), (.int .u8 0), (.int .u8 0), (.int .u8 0), (.int .u8 0), (.int .u8 0), (.int .u8 0), (.int .u8 0), (.int .u8 0), (.int .u8 0), (.int .u8 0), (.int .u8 0), (.int .u8 0), (.int .u8 0), (.int .u8 0), (.int .u8 0), (.int .u8 0), (.int .u8 0), (.int .u8 0), (.int .u8 0), (.int .u8 0), (.int .u8 0), (.int .u8 0), (.int .u8 0), (.int .u8 0), (.int .u8 0), (.int .u8 0)], none⟩] [0, 1, 2, 3, 4, 10, 11, 12])
   (.seq
    (.reg [
      ⟨some 13, .mv (.c (.int .i64 65)), none⟩] [0, 1, 2, 3, 4, 10, 11, 12, 13])
    (.seq
     (.seq
      (.reg [
        ⟨some 30, .mv (.t 3), none⟩] [0, 1, 2, 3, 4, 10, 11, 12, 13, 30])
      (.cnd (.t 30)
       (.reg [
         ⟨some 31, .mv (.t 1), none⟩,
         ⟨some 32, .un .neg (.t 31), none⟩,
         ⟨some 1, .mv (.t 32), none⟩] [0, 1, 2, 3, 4, 10, 11, 12, 13])
       .skip))
     (.seq
      (.seq
       (.reg [
         ⟨some 33, .mv (.t 2), none⟩,
         ⟨some 34, .call 209 [(.t 33)], none⟩] [0, 1, 2, 3, 4, 10, 11, 12, 13, 34])
       (.cnd (.t 34)
        (.seq
         (.reg [
           ⟨some 35, .mv (.t 2), none⟩,
           ⟨some 36, .cvI .u64 (.t 35), none⟩,
           ⟨some 37, .call 210 [(.t 36)], none⟩,
           ⟨some 38, .cvI .u64 (.t 37), none⟩,
           ⟨some 14, .mv (.t 38), none⟩] [0, 1, 2, 3, 4, 10, 11, 12, 13, 14])
         (.seq
          (.reg [
            ⟨some 39, .mv (.t 2), none⟩,
            ⟨some 40, .cvI .u64 (.t 39), none⟩,
            ⟨some 15, .mv (.t 40), none⟩] [0, 1, 2, 3, 4, 10, 11, 12, 13, 14, 15])
          (.seq
           (.reg [
             ⟨some 41, .mv (.t 2), none⟩,
             ⟨some 42, .cvI .u64 (.t 41), none⟩,
             ⟨some 43, .bin .sub none (.t 42) (.c (.int .u64 1)), none⟩,
             ⟨some 16, .mv (.t 43), none⟩] [0, 1, 3, 4, 10, 11, 12, 13, 14, 15, 16])
           (.seq
            (.blk 0
             (.seq
              (.trim [0, 1, 3, 4, 10, 11, 12, 13, 14, 15, 16])
              (.lop
               (.seq
                (.seq
                 (.seq
                  (.reg [
                    ⟨some 44, .mv (.t 1), none⟩,
                    ⟨some 45, .mv (.t 15), none⟩,
                    ⟨some 46, .bin .geq none (.t 44) (.t 45), none⟩] [0, 1, 3, 4, 10, 11, 12, 13, 14, 15, 16, 46])
                  (.cnd (.t 46)
                   .skip
                   (.exit 0)))
                 (.blk 1
                  (.seq
                   (.reg [
                     ⟨some 47, .mv (.t 13), none⟩,
                     ⟨some 48, .bin .sub none (.t 47) (.c (.int .i64 1)), none⟩,
                     ⟨some 13, .mv (.t 48), none⟩] [0, 1, 3, 4, 10, 11, 12, 13, 14, 15, 16])
                   (.seq
                    (.reg [
                      ⟨some 49, .mv (.t 13), none⟩,
                      ⟨some 50, .mv (.t 1), none⟩,
                      ⟨some 51, .mv (.t 16), none⟩,
                      ⟨some 52, .bin .and none (.t 50) (.t 51), none⟩,
                      ⟨some 53, .ixS (.c (.str [48, 49, 50, 51, 52, 53, 54, 55, 56, 57, 97, 98, 99, 100, 101, 102, 103, 104, 105, 106, 107, 108, 109, 110, 111, 112, 113, 114, 115, 116, 117, 118, 119, 120, 121, 122])) (.t 52), none⟩,
                      ⟨some 54, .iaA 1 65 (.t 12) (.t 49), none⟩,
                      ⟨none, .st 1 (.t 54) (.t 53), none⟩] [0, 1, 3, 4, 10, 11, 12, 13, 14, 15, 16])
                    (.reg [
                      ⟨some 55, .mv (.t 1), none⟩,
                      ⟨some 56, .mv (.t 14), none⟩,
                      ⟨some 57, .bin .shr none (.t 55) (.t 56), none⟩,
                      ⟨some 1, .mv (.t 57), none⟩] [0, 1, 3, 4, 10, 11, 12, 13, 14, 15, 16])))))
                (.trim [0, 1, 3, 4, 10, 11, 12, 13, 14, 15, 16])))))
            (.seq
             (.reg [
               ⟨some 58, .mv (.t 13), none⟩,
               ⟨some 59, .bin .sub none (.t 58) (.c (.int .i64 1)), none⟩,
               ⟨some 13, .mv (.t 59), none⟩] [0, 1, 3, 4, 10, 11, 12, 13])
             (.reg [
               ⟨some 60, .mv (.t 13), none⟩,
               ⟨some 61, .mv (.t 1), none⟩,
               ⟨some 62, .ixS (.c (.str [48, 49, 50, 51, 52, 53, 54, 55, 56, 57, 97, 98, 99, 100, 101, 102, 103, 104, 105, 106, 107, 108, 109, 110, 111, 112, 113, 114, 115, 116, 117, 118, 119, 120, 121, 122])) (.t 61), none⟩,
               ⟨some 63, .iaA 1 65 (.t 12) (.t 60), none⟩,
               ⟨none, .st 1 (.t 63) (.t 62), none⟩] [0, 3, 4, 10, 11, 12, 13]))))))
        (.seq
         (.reg [
           ⟨some 64, .mv (.t 2), none⟩,
           ⟨some 65, .cvI .u64 (.t 64), none⟩,
           ⟨some 17, .mv (.t 65), none⟩] [0, 1, 3, 4, 10, 11, 12, 13, 17])
         (.seq
          (.blk 2
           (.seq
            (.trim [0, 1, 3, 4, 10, 11, 12, 13, 17])
            (.lop
             (.seq
              (.seq
               (.seq
                (.reg [
                  ⟨some 66, .mv (.t 1), none⟩,
                  ⟨some 67, .mv (.t 17), none⟩,
                  ⟨some 68, .bin .geq none (.t 66) (.t 67), none⟩] [0, 1, 3, 4, 10, 11, 12, 13, 17, 68])
                (.cnd (.t 68)
                 .skip
                 (.exit 2)))
               (.blk 3
                (.seq
                 (.reg [
                   ⟨some 69, .mv (.t 13), none⟩,
                   ⟨some 70, .bin .sub none (.t 69) (.c (.int .i64 1)), none⟩,
                   ⟨some 13, .mv (.t 70), none⟩] [0, 1, 3, 4, 10, 11, 12, 13, 17])
                 (.seq
                  (.reg [
                    ⟨some 71, .mv (.t 1), none⟩,
                    ⟨some 72, .mv (.t 17), none⟩,
                    ⟨some 73, .bin .quo none (.t 71) (.t 72), none⟩,
                    ⟨some 18, .mv (.t 73), none⟩] [0, 1, 3, 4, 10, 11, 12, 13, 17, 18])
                  (.seq
                   (.reg [
                     ⟨some 74, .mv (.t 13), none⟩,
                     ⟨some 75, .mv (.t 1), none⟩,
                     ⟨some 76, .mv (.t 18), none⟩,
                     ⟨some 77, .mv (.t 17), none⟩,
                     ⟨some 78, .bin .mul none (.t 76) (.t 77), none⟩,
                     ⟨some 79, .bin .sub none (.t 75) (.t 78), none⟩,
                     ⟨some 80, .ixS (.c (.str [48, 49, 50, 51, 52, 53, 54, 55, 56, 57, 97, 98, 99, 100, 101, 102, 103, 104, 105, 106, 107, 108, 109, 110, 111, 112, 113, 114, 115, 116, 117, 118, 119, 120, 121, 122])) (.t 79), none⟩,
                     ⟨some 81, .iaA 1 65 (.t 12) (.t 74), none⟩,
                     ⟨none, .st 1 (.t 81) (.t 80), none⟩] [0, 3, 4, 10, 11, 12, 13, 17, 18])
                   (.reg [
                     ⟨some 82, .mv (.t 18), none⟩,
                     ⟨some 1, .mv (.t 82), none⟩] [0, 1, 3, 4, 10, 11, 12, 13, 17]))))))
              (.trim [0, 1, 3, 4, 10, 11, 12, 13, 17])))))
          (.seq
           (.reg [
             ⟨some 83, .mv (.t 13), none⟩,
             ⟨some 84, .bin .sub none (.t 83) (.c (.int .i64 1)), none⟩,
             ⟨some 13, .mv (.t 84), none⟩] [0, 1, 3, 4, 10, 11, 12, 13])
           (.reg [
             ⟨some 85, .mv (.t 13), none⟩,
             ⟨some 86, .mv (.t 1), none⟩,
             ⟨some 87, .ixS (.c (.str [48, 49, 50, 51, 52, 53, 54, 55, 56, 57, 97, 98, 99, 100, 101, 102, 103, 104, 105, 106, 107, 108, 109, 110, 111, 112, 113, 114, 115, 116, 117, 118, 119, 120, 121, 122])) (.t 86), none⟩,
             ⟨some 88, .iaA 1 65 (.t 12) (.t 85), none⟩,
             ⟨none, .st 1 (.t 88) (.t 87), none⟩] [0, 3, 4, 10, 11, 12, 13]))))))
      (.seq
       (.seq
        (.reg [
          ⟨some 89, .mv (.t 3), none⟩] [0, 4, 10, 11, 12, 13, 89])
        (.cnd (.t 89)
         (.seq
          (.reg [
            ⟨some 90, .mv (.t 13), none⟩,
            ⟨some 91, .bin .sub none (.t 90) (.c (.int .i64 1)), none⟩,
            ⟨some 13, .mv (.t 91), none⟩] [0, 4, 10, 11, 12, 13])
          (.reg [
            ⟨some 92, .mv (.t 13), none⟩,
            ⟨some 93, .iaA 1 65 (.t 12) (.t 92), none⟩,
            ⟨none, .st 1 (.t 93) (.c (.int .u8 45)), none⟩] [0, 4, 10, 11, 12, 13]))
         .skip))
       (.seq
        (.seq
         (.reg [
           ⟨some 94, .mv (.t 4), none⟩] [0, 10, 11, 12, 13, 94])
         (.cnd (.t 94)
          (.seq
           (.reg [
             ⟨some 95, .mv (.t 0), none⟩,
             ⟨some 96, .mv (.t 13), none⟩,
             ⟨some 97, .slP 1 65 (.t 12) (some (.t 96)) none, none⟩,
             ⟨some 98, .app false 5 1 1 (.t 95) (.t 97), none⟩,
             ⟨some 10, .mv (.t 98), none⟩] [10, 11])
           .ret)
          .skip))
        (.seq
         (.reg [
           ⟨some 99, .mv (.t 13), none⟩,
           ⟨some 100, .slP 1 65 (.t 12) (some (.t 99)) none, none⟩,
           ⟨some 101, .cvBS (.t 100), none⟩,
           ⟨some 11, .mv (.t 101), none⟩] [10, 11])
         .ret))))))))),
[.tmp 10, .tmp 11]⟩
theorem F183_ok : prepF Go.Proofs.Tryz.prog ⟨[], [(0, [0, 1, 2, 3, 4, 10, 11]), (1, [0, 1, 2, 3, 4, 10, 11, 28]), (2, [0, 1, 2, 3, 4, 10, 11]), (3, [0, 1, 2, 3, 4, 10, 11, 12]), (4, [0, 1, 2, 3, 4, 10, 11, 12, 13]), (5, [0, 1, 2, 3, 4, 10, 11, 12, 13, 30]), (6, [0, 1, 2, 3, 4, 10, 11, 12, 13]), (7, [0, 1, 2, 3, 4, 10, 11, 12, 13, 34]), (8, [0, 1, 2, 3, 4, 10, 11, 12, 13, 14]), (9, [0, 1, 2, 3, 4, 10, 11, 12, 13, 14, 15]), (10, [0, 1, 3, 4, 10, 11, 12, 13, 14, 15, 16]), (11, [0, 1, 3, 4, 10, 11, 12, 13, 14, 15, 16, 46]), (12, [0, 1, 3, 4, 10, 11, 12, 13, 14, 15, 16]), (13, [0, 1, 3, 4, 10, 11, 12, 13, 14, 15, 16]), (14, [0, 1, 3, 4, 10, 11, 12, 13, 14, 15, 16]), (15, [0, 1, 3, 4, 10, 11, 12, 13]), (16, [0, 3, 4, 10, 11, 12, 13]), (17, [0, 1, 3, 4, 10, 11, 12, 13, 17]), (18, [0, 1, 3, 4, 10, 11, 12, 13, 17, 68]), (19, [0, 1, 3, 4, 10, 11, 12, 13, 17]), (20, [0, 1, 3, 4, 10, 11, 12, 13, 17, 18]), (21, [0, 3, 4, 10, 11, 12, 13, 17, 18]), (22, [0, 1, 3, 4, 10, 11, 12, 13, 17]), (23, [0, 1, 3, 4, 10, 11, 12, 13]), (24, [0, 3, 4, 10, 11, 12, 13]), (25, [0, 4, 10, 11, 12, 13, 89]), (26, [0, 4, 10, 11, 12, 13]), (27, [0, 4, 10, 11, 12, 13]), (28, [0, 10, 11, 12, 13, 94]), (29, [10, 11]), (30, [10, 11]), (1000000, [0, 1, 3, 4, 10, 11, 12, 13, 14, 15, 16]), (1000002, [0, 1, 3, 4, 10, 11, 12, 13, 17])], []⟩ Go.Proofs.Tryz.f183 = some F183 := by kernel_rfl
theorem F183_fn : FnOK2 Go.Proofs.Tryz.prog 183 (.pl F183) := .pl Go.Proofs.Tryz.func183 (by kernel_rfl) F183_ok
/-- strings.HasPrefix -/
def F187 : DF := ⟨2,
(.seq
 (.reg [
   ⟨some 4, .mv (.c (.bool false)), none⟩] [0, 1])
 (.seq
  (.reg [
    ⟨some 5, .mv (.t 0), none⟩,
    ⟨some 6, .mv (.t 1), none⟩,
    ⟨some 7, .call 212 [(.t 5), (.t 6)], none⟩,
    ⟨some 4, .mv (.t 7), none⟩] [4])
  .ret)),
[.tmp 4]⟩
theorem F187_ok : prepF Go.Proofs.Tryz.prog ⟨[], [(0, [0, 1]), (1, [4])], []⟩ Go.Proofs.Tryz.f187 = some F187 := by kernel_rfl
theorem F187_fn : FnOK2 Go.Proofs.Tryz.prog 187 (.pl F187) := .pl Go.Proofs.Tryz.func187 (by kernel_rfl) F187_ok
/-- strings.TrimPrefix -/
def F188 : DF := ⟨2,
(.seq
 (.reg [
   ⟨some 4, .mv (.c (.str [])), none⟩] [0, 1])
 (.seq
  (.reg [
    ⟨some 5, .mv (.t 0), none⟩,
    ⟨some 6, .mv (.t 1), none⟩,
    ⟨some 7, .call 213 [(.t 5), (.t 6)], none⟩,
    ⟨some 4, .mv (.t 7), none⟩] [4])
  .ret)),
[.tmp 4]⟩
theorem F188_ok : prepF Go.Proofs.Tryz.prog ⟨[], [(0, [0, 1]), (1, [4])], []⟩ Go.Proofs.Tryz.f188 = some F188 := by kernel_rfl
theorem F188_fn : FnOK2 Go.Proofs.Tryz.prog 188 (.pl F188) := .pl Go.Proofs.Tryz.func188 (by kernel_rfl) F188_ok
/-- strconv.Atoi -/
def F189 : DF := ⟨1,
(.seq
 (.reg [
   ⟨some 2, .mv (.c (.int .i64 0)), none⟩,
   ⟨some 3, .mv (.c .nilif), none⟩] [0])
 (.seq
  (.reg [
    ⟨some 7, .mv (.t 0), none⟩,
    ⟨some 8, .call 214 [(.t 7)], none⟩,
    ⟨some 6, .mv (.t 8), none⟩,
    ⟨some 9, .ext (.t 6) 0, none⟩,
    ⟨some 10, .ext (.t 6) 1, none⟩,
    ⟨some 4, .mv (.t 9), none⟩,
    ⟨some 5, .mv (.t 10), none⟩] [0, 4, 5])
  (.seq
   (.seq
    (.reg [
      ⟨some 11, .mv (.t 5), none⟩,
      ⟨some 12, .bin .neq (some .ifc) (.t 11) (.c .nilif), none⟩] [0, 4, 5, 12])
    (.cnd (.t 12)
     (.seq
      (.reg [
        ⟨some 13, .mv (.t 4), none⟩,
        ⟨some 14, .mv (.t 0), none⟩,
        ⟨some 15, .mv (.t 5), none⟩,
        ⟨some 16, .call 215 [(.c (.str [65, 116, 111, 105])), (.t 14), (.c (.int .i64 0)), (.c (.int .i64 0)), (.t 15)], none⟩,
        ⟨some 2, .mv (.t 13), none⟩,
        ⟨some 3, .mv (.t 16), none⟩] [2, 3])
      .ret)
     .skip))
   (.seq
    (.reg [
      ⟨some 17, .mv (.t 4), none⟩,
      ⟨some 2, .mv (.t 17), none⟩,
      ⟨some 3, .mv (.c .nilif), none⟩] [2, 3])
    .ret)))),
[.tmp 2, .tmp 3]⟩
theorem F189_ok : prepF Go.Proofs.Tryz.prog ⟨[], [(0, [0]), (1, [0, 4, 5]), (2, [0, 4, 5, 12]), (3, [2, 3]), (4, [2, 3])], []⟩ Go.Proofs.Tryz.f189 = some F189 := by kernel_rfl
theorem F189_fn : FnOK2 Go.Proofs.Tryz.prog 189 (.pl F189) := .pl Go.Proofs.Tryz.func189 (by kernel_rfl) F189_ok
/-- strings.trimLeftByte -/
def F190 : DF := ⟨2,
(.seq
 (.reg [
   ⟨some 4, .mv (.c (.str [])), none⟩] [0, 1])
 (.seq
  (.blk 0
   (.seq
    (.trim [0, 1])
    (.lop
     (.seq
      (.seq
       (.seq
        (.reg [
          ⟨some 5, .mv (.t 0), none⟩,
          ⟨some 6, .lenS (.t 5), none⟩,
          ⟨some 7, .bin .gtr none (.t 6) (.c (.int .i64 0)), none⟩,
          ⟨some 8, .mv (.t 7), none⟩,
          ⟨some 9, .mv (.t 0), some (8, true)⟩,
          ⟨some 10, .ixS (.t 9) (.c (.int .i64 0)), some (8, true)⟩,
          ⟨some 11, .mv (.t 1), some (8, true)⟩,
          ⟨some 12, .bin .eql (some .int) (.t 10) (.t 11), some (8, true)⟩,
          ⟨some 13, .pick (.t 8) (.t 12) (.c (.bool false)), none⟩] [0, 1, 13])
        (.cnd (.t 13)
         .skip
         (.exit 0)))
       (.blk 1
        (.reg [
          ⟨some 14, .mv (.t 0), none⟩,
          ⟨some 15, .slS (.t 14) (some (.c (.int .i64 1))) none, none⟩,
          ⟨some 0, .mv (.t 15), none⟩] [0, 1])))
      (.trim [0, 1])))))
  (.seq
   (.reg [
     ⟨some 16, .mv (.t 0), none⟩,
     ⟨some 4, .mv (.t 16), none⟩] [4])
   .ret))),
[.tmp 4]⟩
theorem F190_ok : prepF Go.Proofs.Tryz.prog ⟨[], [(0, [0, 1]), (1, [0, 1, 13]), (2, [0, 1]), (3, [4]), (1000000, [0, 1])], []⟩ Go.Proofs.Tryz.f190 = some F190 := by kernel_rfl
theorem F190_fn : FnOK2 Go.Proofs.Tryz.prog 190 (.pl F190) := .pl Go.Proofs.Tryz.func190 (by kernel_rfl) F190_ok
/-- strings.makeASCIISet -/
def F191 : DF := ⟨1,
(.seq
 (.reg [
   ⟨some 2, .alL [(.bool false), (.bool false), (.bool false), (.bool false), (.bool false), (.bool false), (.bool false), (.bool false), (.bool false), (.bool false), (.bool false), (.bool false), (.bool false), (.bool false), (.bool false), (.bool false), (.bool false), (.bool false), (.bool false), (.bool false), (.bool false), (.bool false), (.bool false), (.bool false), (.bool false), (.bool false), (.bool false), (.bool false), (.bool false), (.bool false), (.bool false), (.bool false), (.bool false), (.bool false), (.bool false), (.bool false), (.bool false), (.bool false), (.bool false), (.bool false), (.bool false), (.bool false), (.bool false), (.bool false), (.bool false), (.bool false), (.bool false), (.bool false), (.bool false), (.bool false), (.bool false), (.bool false), (.bool false), (.bool false), (.bool false), (.bool false), (.bool false), (.bool false), (.bool false), (.bool false), (.bool false), (.bool false), (.bool false), (.bool false), (.bool false), (.bool false), (.bool false), (.bool false), (.bool false), (.bool false), (.bool false), (.bool false), (.bool false), (.bool false), (.bool false), (.bool false), (.bool false), (.bool false), (.bool false), (.bool false), (.bool false), (.bool false), (.bool false), (.bool false), (.bool false), (.bool false), (.bool false), (.bool false), (.bool false), (.bool false), (.bool false), (.bool false), (.bool false), (.bool false), (.bool false), (.bool false), (.bool false), (.bool false), (.bool false), (.bool false), (.bool false), (.bool false), (.bool false), (.bool false), (.bool false), (.bool false), (.bool false), (.bool false), (.bool false), (.bool false), (.bool false), (.bool false), (.bool false), (.bool false), (.bool false), (.bool false), (.bool false), (.bool false), (.bool false), (.bool false), (.bool false), (.bool false), (.bool false), (.bool false), (.bool false), (.bool false), (.bool false), (.bool false), (.bool false), (.bool false), (.bool false), (.bool false), (.bool false), (.bool false), (.bool false), (.bool false), (.bool false), (.bool false), (.bool false), (.bool false), (.bool false), (.bool false), (.bool false), (.bool false), (.bool false), (.bool false), (.bool false), (.bool false), (.bool false), (.bool false), (.bool false), (.bool false), (.bool false), (.bool false), (.bool false), (.bool false), (.bool false), (.bool false), (.bool false), (.bool false), (.bool false), (.bool false), (.bool false), (.bool false), (.bool false), (.bool false), (.bool false), (.bool false), (.bool false), (.bool false), (.bool false), (.bool false), (.bool false), (.bool false), (.bool false), (.bool false), (.bool false), (.bool false), (.bool false), (.bool false), (.bool false), (.bool false), (.bool false), (.bool false), (.bool false), (.bool false), (.bool false), (.bool false), (.bool false), (.bool false), (.bool false), (.bool false), (.bool false), (.bool false), (.bool false), (.bool false), (.bool false), (.bool false), (.bool false), (.bool false), (.bool false), (.bool false), (.bool false), (.bool false), (.bool false), (.bool false), (.bool false), (.bool false), (.bool false), (.bool false), (.bool false), (.bool false), (.bool false), (.bool false), (.bool false), (.bool false), (.bool false), (.bool false), (.bool false), (.bool false), (.bool false), (.bool false), (.bool false), (.bool false), (.bool false), (.bool false), (.bool false), (.bool false), (.bool false), (.bool false), (.bool false), (.bool false), (.bool false), (.bool false), (.bool false), (.bool false), (.bool false), (.bool false), (.bool false), (.bool false), (.bool false), (.bool false), (.bool false), (.bool false), (.bool false), (.bool false), (.bool false), (.bool false), (.bool false), (.bool false), (.bool false), (.bool false), (.bool false), (.bool false), (.bool false), (.bool false)], none⟩,
   ⟨some 3, .mv (.c (.bool false)), none⟩] [0, 2])
 (.seq
  (.seq
   (.reg [
     ⟨some 4, .mv (.c (.int .i64 0)), none⟩] [0, 2, 4])
   (.blk 0
    (.seq
     (.trim [0, 2, 4])
     (.lop
      (.seq
       (.seq
        (.seq
         (.reg [
           ⟨some 6, .mv (.t 4), none⟩,
           ⟨some 7, .mv (.t 0), none⟩,
           ⟨some 8, .lenS (.t 7), none⟩,
           ⟨some 9, .bin .lss none (.t 6) (.t 8), none⟩] [0, 2, 4, 9])
         (.cnd (.t 9)
          .skip
          (.exit 0)))
        (.seq
         (.blk 1
          (.seq
           (.reg [
             ⟨some 12, .mv (.t 0), none⟩,
             ⟨some 13, .mv (.t 4), none⟩,
             ⟨some 14, .ixS (.t 12) (.t 13), none⟩,
             ⟨some 5, .mv (.t 14), none⟩] [0, 2, 4, 5])
           (.seq
            (.seq
             (.reg [
               ⟨some 15, .mv (.t 5), none⟩,
               ⟨some 16, .bin .geq none (.t 15) (.c (.int .u8 128)), none⟩] [0, 2, 4, 5, 16])
             (.cnd (.t 16)
              (.seq
               (.reg [
                 ⟨some 17, .ld true 256 (.t 2), none⟩,
                 ⟨none, .st 256 (.t 2) (.t 17), none⟩,
                 ⟨some 3, .mv (.c (.bool false)), none⟩] [2, 3])
               .ret)
              .skip))
            (.reg [
              ⟨some 18, .mv (.t 5), none⟩,
              ⟨some 19, .iaA 1 256 (.t 2) (.t 18), none⟩,
              ⟨none, .st 1 (.t 19) (.c (.bool true)), none⟩] [0, 2, 4]))))
         (.reg [
           ⟨some 10, .mv (.t 4), none⟩,
           ⟨some 11, .bin .add none (.t 10) (.c (.int .i64 1)), none⟩,
           ⟨some 4, .mv (.t 11), none⟩] [0, 2, 4])))
       (.trim [0, 2, 4]))))))
  (.seq
   (.reg [
     ⟨some 20, .ld true 256 (.t 2), none⟩,
     ⟨none, .st 256 (.t 2) (.t 20), none⟩,
     ⟨some 3, .mv (.c (.bool true)), none⟩] [2, 3])
   .ret))),
[.cell 2 true 256, .tmp 3]⟩
theorem F191_ok : prepF Go.Proofs.Tryz.prog ⟨[2], [(0, [0, 2]), (1, [0, 2, 4]), (2, [0, 2, 4, 9]), (3, [0, 2, 4]), (4, [0, 2, 4, 5]), (5, [0, 2, 4, 5, 16]), (6, [2, 3]), (7, [0, 2, 4]), (8, [2, 3]), (1000000, [0, 2, 4])], []⟩ Go.Proofs.Tryz.f191 = some F191 := by kernel_rfl
theorem F191_fn : FnOK2 Go.Proofs.Tryz.prog 191 (.pl F191) := .pl Go.Proofs.Tryz.func191 (by kernel_rfl) F191_ok
/-- strings.trimLeftASCII -/
def F192 : DF := ⟨2,
(.seq
 (.reg [
   ⟨some 4, .mv (.c (.str [])), none⟩] [0, 1])
 (.seq
  (.blk 0
   (.seq
    (.trim [0, 1])
    (.lop
     (.seq
      (.seq
       (.seq
        (.reg [
          ⟨some 5, .mv (.t 0), none⟩,
          ⟨some 6, .lenS (.t 5), none⟩,
          ⟨some 7, .bin .gtr none (.t 6) (.c (.int .i64 0)), none⟩] [0, 1, 7])
        (.cnd (.t 7)
         .skip
         (.exit 0)))
       (.blk 1
        (.seq
         (.seq
          (.reg [
            ⟨some 8, .mv (.t 1), none⟩,
            ⟨some 9, .mv (.t 0), none⟩,
            ⟨some 10, .ixS (.t 9) (.c (.int .i64 0)), none⟩,
            ⟨some 11, .call 216 [(.t 8), (.t 10)], none⟩,
            ⟨some 12, .un .not (.t 11), none⟩] [0, 1, 12])
          (.cnd (.t 12)
           (.exit 0)
           .skip))
         (.reg [
           ⟨some 13, .mv (.t 0), none⟩,
           ⟨some 14, .slS (.t 13) (some (.c (.int .i64 1))) none, none⟩,
           ⟨some 0, .mv (.t 14), none⟩] [0, 1]))))
      (.trim [0, 1])))))
  (.seq
   (.reg [
     ⟨some 15, .mv (.t 0), none⟩,
     ⟨some 4, .mv (.t 15), none⟩] [4])
   .ret))),
[.tmp 4]⟩
theorem F192_ok : prepF Go.Proofs.Tryz.prog ⟨[], [(0, [0, 1]), (1, [0, 1, 7]), (2, [0, 1, 12]), (3, [0, 1]), (4, [4]), (1000000, [0, 1])], []⟩ Go.Proofs.Tryz.f192 = some F192 := by kernel_rfl
theorem F192_fn : FnOK2 Go.Proofs.Tryz.prog 192 (.pl F192) := .pl Go.Proofs.Tryz.func192 (by kernel_rfl) F192_ok
/-- strings.trimLeftUnicode -/
def F193 : DF := ⟨2,
(.seq
 (.reg [
   ⟨some 4, .mv (.c (.str [])), none⟩] [0, 1])
 (.seq
  (.blk 0
   (.seq
    (.trim [0, 1])
    (.lop
     (.seq
      (.seq
       (.seq
        (.reg [
          ⟨some 7, .mv (.t 0), none⟩,
          ⟨some 8, .lenS (.t 7), none⟩,
          ⟨some 9, .bin .gtr none (.t 8) (.c (.int .i64 0)), none⟩] [0, 1, 9])
        (.cnd (.t 9)
         .skip
         (.exit 0)))
       (.blk 1
        (.seq
         (.reg [
           ⟨some 11, .mv (.t 0), none⟩,
           ⟨some 12, .call 217 [(.t 11)], none⟩,
           ⟨some 10, .mv (.t 12), none⟩,
           ⟨some 13, .ext (.t 10) 0, none⟩,
           ⟨some 14, .ext (.t 10) 1, none⟩,
           ⟨some 5, .mv (.t 13), none⟩,
           ⟨some 6, .mv (.t 14), none⟩] [0, 1, 5, 6])
         (.seq
          (.seq
           (.reg [
             ⟨some 15, .mv (.t 1), none⟩,
             ⟨some 16, .mv (.t 5), none⟩,
             ⟨some 17, .call 218 [(.t 15), (.t 16)], none⟩,
             ⟨some 18, .un .not (.t 17), none⟩] [0, 1, 6, 18])
           (.cnd (.t 18)
            (.exit 0)
            .skip))
          (.reg [
            ⟨some 19, .mv (.t 0), none⟩,
            ⟨some 20, .mv (.t 6), none⟩,
            ⟨some 21, .slS (.t 19) (some (.t 20)) none, none⟩,
            ⟨some 0, .mv (.t 21), none⟩] [0, 1])))))
      (.trim [0, 1])))))
  (.seq
   (.reg [
     ⟨some 22, .mv (.t 0), none⟩,
     ⟨some 4, .mv (.t 22), none⟩] [4])
   .ret))),
[.tmp 4]⟩
theorem F193_ok : prepF Go.Proofs.Tryz.prog ⟨[], [(0, [0, 1]), (1, [0, 1, 9]), (2, [0, 1, 5, 6]), (3, [0, 1, 6, 18]), (4, [0, 1]), (5, [4]), (1000000, [0, 1])], []⟩ Go.Proofs.Tryz.f193 = some F193 := by kernel_rfl
theorem F193_fn : FnOK2 Go.Proofs.Tryz.prog 193 (.pl F193) := .pl Go.Proofs.Tryz.func193 (by kernel_rfl) F193_ok
/-- strings.trimRightByte -/
def F194 : DF := ⟨2,
(.seq
 (.reg [
   ⟨some 4, .mv (.c (.str [])), none⟩] [0, 1])
 (.seq
  (.blk 0
   (.seq
    (.trim [0, 1])
    (.lop
     (.seq
      (.seq
       (.seq
        (.reg [
          ⟨some 5, .mv (.t 0), none⟩,
          ⟨some 6, .lenS (.t 5), none⟩,
          ⟨some 7, .bin .gtr none (.t 6) (.c (.int .i64 0)), none⟩,
          ⟨some 8, .mv (.t 7), none⟩,
          ⟨some 9, .mv (.t 0), some (8, true)⟩,
          ⟨some 10, .mv (.t 0), some (8, true)⟩,
          ⟨some 11, .lenS (.t 10), some (8, true)⟩,
          ⟨some 12, .bin .sub none (.t 11) (.c (.int .i64 1)), some (8, true)⟩,
          ⟨some 13, .ixS (.t 9) (.t 12), some (8, true)⟩,
          ⟨some 14, .mv (.t 1), some (8, true)⟩,
          ⟨some 15, .bin .eql (some .int) (.t 13) (.t 14), some (8, true)⟩,
          ⟨some 16, .pick (.t 8) (.t 15) (.c (.bool false)), none⟩] [0, 1, 16])
        (.cnd (.t 16)
         .skip
         (.exit 0)))
       (.blk 1
        (.reg [
          ⟨some 17, .mv (.t 0), none⟩,
          ⟨some 18, .mv (.t 0), none⟩,
          ⟨some 19, .lenS (.t 18), none⟩,
          ⟨some 20, .bin .sub none (.t 19) (.c (.int .i64 1)), none⟩,
          ⟨some 21, .slS (.t 17) none (some (.t 20)), none⟩,
          ⟨some 0, .mv (.t 21), none⟩] [0, 1])))
      (.trim [0, 1])))))
  (.seq
   (.reg [
     ⟨some 22, .mv (.t 0), none⟩,
     ⟨some 4, .mv (.t 22), none⟩] [4])
   .ret))),
[.tmp 4]⟩
theorem F194_ok : prepF Go.Proofs.Tryz.prog ⟨[], [(0, [0, 1]), (1, [0, 1, 16]), (2, [0, 1]), (3, [4]), (1000000, [0, 1])], []⟩ Go.Proofs.Tryz.f194 = some F194 := by kernel_rfl
theorem F194_fn : FnOK2 Go.Proofs.Tryz.prog 194 (.pl F194) := .pl Go.Proofs.Tryz.func194 (by kernel_rfl) F194_ok
/-- strings.trimRightASCII -/
def F195 : DF := ⟨2,
(.seq
 (.reg [
   ⟨some 4, .mv (.c (.str [])), none⟩] [0, 1])
 (.seq
  (.blk 0
   (.seq
    (.trim [0, 1])
    (.lop
     (.seq
      (.seq
       (.seq
        (.reg [
          ⟨some 5, .mv (.t 0), none⟩,
          ⟨some 6, .lenS (.t 5), none⟩,
          ⟨some 7, .bin .gtr none (.t 6) (.c (.int .i64 0)), none⟩] [0, 1, 7])
        (.cnd (.t 7)
         .skip
         (.exit 0)))
       (.blk 1
        (.seq
         (.seq
          (.reg [
            ⟨some 8, .mv (.t 1), none⟩,
            ⟨some 9, .mv (.t 0), none⟩,
            ⟨some 10, .mv (.t 0), none⟩,
            ⟨some 11, .lenS (.t 10), none⟩,
            ⟨some 12, .bin .sub none (.t 11) (.c (.int .i64 1)), none⟩,
            ⟨some 13, .ixS (.t 9) (.t 12), none⟩,
            ⟨some 14, .call 216 [(.t 8), (.t 13)], none⟩,
            ⟨some 15, .un .not (.t 14), none⟩] [0, 1, 15])
          (.cnd (.t 15)
           (.exit 0)
           .skip))
         (.reg [
           ⟨some 16, .mv (.t 0), none⟩,
           ⟨some 17, .mv (.t 0), none⟩,
           ⟨some 18, .lenS (.t 17), none⟩,
           ⟨some 19, .bin .sub none (.t 18) (.c (.int .i64 1)), none⟩,
           ⟨some 20, .slS (.t 16) none (some (.t 19)), none⟩,
           ⟨some 0, .mv (.t 20), none⟩] [0, 1]))))
      (.trim [0, 1])))))
  (.seq
   (.reg [
     ⟨some 21, .mv (.t 0), none⟩,
     ⟨some 4, .mv (.t 21), none⟩] [4])
   .ret))),
[.tmp 4]⟩
theorem F195_ok : prepF Go.Proofs.Tryz.prog ⟨[], [(0, [0, 1]), (1, [0, 1, 7]), (2, [0, 1, 15]), (3, [0, 1]), (4, [4]), (1000000, [0, 1])], []⟩ Go.Proofs.Tryz.f195 = some F195 := by kernel_rfl
theorem F195_fn : FnOK2 Go.Proofs.Tryz.prog 195 (.pl F195) := .pl Go.Proofs.Tryz.func195 (by kernel_rfl) F195_ok
/-- strings.trimRightUnicode -/
def F196 : DF := ⟨2,
(.seq
 (.reg [
   ⟨some 4, .mv (.c (.str [])), none⟩] [0, 1])
 (.seq
  (.blk 0
   (.seq
    (.trim [0, 1])
    (.lop
     (.seq
      (.seq
       (.seq
        (.reg [
          ⟨some 7, .mv (.t 0), none⟩,
          ⟨some 8, .lenS (.t 7), none⟩,
          ⟨some 9, .bin .gtr none (.t 8) (.c (.int .i64 0)), none⟩] [0, 1, 9])
        (.cnd (.t 9)
         .skip
         (.exit 0)))
       (.blk 1
        (.seq
         (.reg [
           ⟨some 10, .mv (.t 0), none⟩,
           ⟨some 11, .mv (.t 0), none⟩,
           ⟨some 12, .lenS (.t 11), none⟩,
           ⟨some 13, .bin .sub none (.t 12) (.c (.int .i64 1)), none⟩,
           ⟨some 14, .ixS (.t 10) (.t 13), none⟩,
           ⟨some 15, .cvI .i32 (.t 14), none⟩,
           ⟨some 5, .mv (.t 15), none⟩,
           ⟨some 6, .mv (.c (.int .i64 1)), none⟩] [0, 1, 5, 6])
         (.seq
          (.seq
           (.reg [
             ⟨some 16, .mv (.t 5), none⟩,
             ⟨some 17, .bin .geq none (.t 16) (.c (.int .i32 128)), none⟩] [0, 1, 5, 6, 17])
           (.cnd (.t 17)
            (.reg [
              ⟨some 19, .mv (.t 0), none⟩,
              ⟨some 20, .call 219 [(.t 19)], none⟩,
              ⟨some 18, .mv (.t 20), none⟩,
              ⟨some 21, .ext (.t 18) 0, none⟩,
              ⟨some 22, .ext (.t 18) 1, none⟩,
              ⟨some 5, .mv (.t 21), none⟩,
              ⟨some 6, .mv (.t 22), none⟩] [0, 1, 5, 6])
            .skip))
          (.seq
           (.seq
            (.reg [
              ⟨some 23, .mv (.t 1), none⟩,
              ⟨some 24, .mv (.t 5), none⟩,
              ⟨some 25, .call 218 [(.t 23), (.t 24)], none⟩,
              ⟨some 26, .un .not (.t 25), none⟩] [0, 1, 6, 26])
            (.cnd (.t 26)
             (.exit 0)
             .skip))
           (.reg [
             ⟨some 27, .mv (.t 0), none⟩,
             ⟨some 28, .mv (.t 0), none⟩,
             ⟨some 29, .lenS (.t 28), none⟩,
             ⟨some 30, .mv (.t 6), none⟩,
             ⟨some 31, .bin .sub none (.t 29) (.t 30), none⟩,
             ⟨some 32, .slS (.t 27) none (some (.t 31)), none⟩,
             ⟨some 0, .mv (.t 32), none⟩] [0, 1]))))))
      (.trim [0, 1])))))
  (.seq
   (.reg [
     ⟨some 33, .mv (.t 0), none⟩,
     ⟨some 4, .mv (.t 33), none⟩] [4])
   .ret))),
[.tmp 4]⟩
theorem F196_ok : prepF Go.Proofs.Tryz.prog ⟨[], [(0, [0, 1]), (1, [0, 1, 9]), (2, [0, 1, 5, 6]), (3, [0, 1, 5, 6, 17]), (4, [0, 1, 5, 6]), (5, [0, 1, 6, 26]), (6, [0, 1]), (7, [4]), (1000000, [0, 1])], []⟩ Go.Proofs.Tryz.f196 = some F196 := by kernel_rfl
theorem F196_fn : FnOK2 Go.Proofs.Tryz.prog 196 (.pl F196) := .pl Go.Proofs.Tryz.func196 (by kernel_rfl) F196_ok
/-- emend/num.digit -/
def F197 : DF := ⟨1,
(.seq
 (.reg [
   ⟨some 2, .mv (.c (.bool false)), none⟩] [0])
 (.seq
  (.reg [
    ⟨some 3, .mv (.t 0), none⟩,
    ⟨some 4, .bin .geq none (.t 3) (.c (.int .u8 48)), none⟩,
    ⟨some 5, .mv (.t 4), none⟩,
    ⟨some 6, .mv (.t 0), some (5, true)⟩,
    ⟨some 7, .bin .leq none (.t 6) (.c (.int .u8 57)), some (5, true)⟩,
    ⟨some 8, .pick (.t 5) (.t 7) (.c (.bool false)), none⟩,
    ⟨some 2, .mv (.t 8), none⟩] [2])
  .ret)),
[.tmp 2]⟩
theorem F197_ok : prepF Go.Proofs.Tryz.prog ⟨[], [(0, [0]), (1, [2])], []⟩ Go.Proofs.Tryz.f197 = some F197 := by kernel_rfl
theorem F197_fn : FnOK2 Go.Proofs.Tryz.prog 197 (.pl F197) := .pl Go.Proofs.Tryz.func197 (by kernel_rfl) F197_ok
/-- internal/stringslite.HasSuffix -/
def F198 : DF := ⟨2,
(.seq
 (.reg [
   ⟨some 4, .mv (.c (.bool false)), none⟩] [0, 1])
 (.seq
  (.reg [
    ⟨some 5, .mv (.t 0), none⟩,
    ⟨some 6, .lenS (.t 5), none⟩,
    ⟨some 7, .mv (.t 1), none⟩,
    ⟨some 8, .lenS (.t 7), none⟩,
    ⟨some 9, .bin .geq none (.t 6) (.t 8), none⟩,
    ⟨some 10, .mv (.t 9), none⟩,
    ⟨some 11, .mv (.t 0), some (10, true)⟩,
    ⟨some 12, .mv (.t 0), some (10, true)⟩,
    ⟨some 13, .lenS (.t 12), some (10, true)⟩,
    ⟨some 14, .mv (.t 1), some (10, true)⟩,
    ⟨some 15, .lenS (.t 14), some (10, true)⟩,
    ⟨some 16, .bin .sub none (.t 13) (.t 15), some (10, true)⟩,
    ⟨some 17, .slS (.t 11) (some (.t 16)) none, some (10, true)⟩,
    ⟨some 18, .mv (.t 1), some (10, true)⟩,
    ⟨some 19, .bin .eql (some .str) (.t 17) (.t 18), some (10, true)⟩,
    ⟨some 20, .pick (.t 10) (.t 19) (.c (.bool false)), none⟩,
    ⟨some 4, .mv (.t 20), none⟩] [4])
  .ret)),
[.tmp 4]⟩
theorem F198_ok : prepF Go.Proofs.Tryz.prog ⟨[], [(0, [0, 1]), (1, [4])], []⟩ Go.Proofs.Tryz.f198 = some F198 := by kernel_rfl
theorem F198_fn : FnOK2 Go.Proofs.Tryz.prog 198 (.pl F198) := .pl Go.Proofs.Tryz.func198 (by kernel_rfl) F198_ok
/-- internal/stringslite.Index -/
def F199 : DF := ⟨2,
(.seq
 (.reg [
   ⟨some 4, .mv (.c (.int .i64 0)), none⟩] [0, 1])
 (.seq
  (.reg [
    ⟨some 14, .mv (.t 1), none⟩,
    ⟨some 15, .lenS (.t 14), none⟩,
    ⟨some 5, .mv (.t 15), none⟩] [0, 1, 5])
  (.seq
   (.blk 0
    (.seq
     (.reg [
       ⟨some 17, .mv (.t 5), none⟩,
       ⟨some 18, .bin .eql (some .int) (.t 17) (.c (.int .i64 0)), none⟩,
       ⟨some 19, .mv (.t 18), none⟩,
       ⟨some 20, .mv (.t 1), some (19, false)⟩,
       ⟨some 21, .mv (.t 0), some (19, false)⟩,
       ⟨some 22, .bin .eql (some .str) (.t 20) (.t 21), some (19, false)⟩,
       ⟨some 23, .pick (.t 19) (.c (.bool true)) (.t 22), none⟩,
       ⟨some 16, .mv (.t 23), none⟩] [0, 1, 5, 16])
     (.cnd (.t 16)
      (.seq
       (.reg [
         ⟨some 4, .mv (.c (.int .i64 0)), none⟩] [4])
       .ret)
      (.seq
       (.reg [
         ⟨some 25, .mv (.t 5), none⟩,
         ⟨some 26, .bin .eql (some .int) (.t 25) (.c (.int .i64 1)), none⟩,
         ⟨some 24, .mv (.t 26), none⟩] [0, 1, 5, 24])
       (.cnd (.t 24)
        (.seq
         (.reg [
           ⟨some 27, .mv (.t 0), none⟩,
           ⟨some 28, .mv (.t 1), none⟩,
           ⟨some 29, .ixS (.t 28) (.c (.int .i64 0)), none⟩,
           ⟨some 30, .call 220 [(.t 27), (.t 29)], none⟩,
           ⟨some 4, .mv (.t 30), none⟩] [4])
         .ret)
        (.seq
         (.reg [
           ⟨some 32, .mv (.t 5), none⟩,
           ⟨some 33, .mv (.t 0), none⟩,
           ⟨some 34, .lenS (.t 33), none⟩,
           ⟨some 35, .bin .geq none (.t 32) (.t 34), none⟩,
           ⟨some 31, .mv (.t 35), none⟩] [0, 1, 5, 31])
         (.cnd (.t 31)
          (.seq
           (.reg [
             ⟨some 4, .mv (.c (.int .i64 (-1))), none⟩] [4])
           .ret)
          (.seq
           (.reg [
             ⟨some 37, .mv (.t 5), none⟩,
             ⟨some 38, .ld false 1 (.g 1), none⟩,
             ⟨some 39, .bin .leq none (.t 37) (.t 38), none⟩,
             ⟨some 40, .mv (.t 39), none⟩,
             ⟨some 41, .mv (.t 0), some (40, true)⟩,
             ⟨some 42, .lenS (.t 41), some (40, true)⟩,
             ⟨some 43, .bin .leq none (.t 42) (.c (.int .i64 64)), some (40, true)⟩,
             ⟨some 44, .pick (.t 40) (.t 43) (.c (.bool false)), none⟩,
             ⟨some 36, .mv (.t 44), none⟩] [0, 1, 5, 36])
           (.cnd (.t 36)
            (.seq
             .fail
             .ret)
            .skip)))))))))
   (.seq
    (.reg [
      ⟨some 48, .mv (.t 1), none⟩,
      ⟨some 49, .ixS (.t 48) (.c (.int .i64 0)), none⟩,
      ⟨some 6, .mv (.t 49), none⟩] [0, 1, 5, 6])
    (.seq
     (.reg [
       ⟨some 50, .mv (.t 1), none⟩,
       ⟨some 51, .ixS (.t 50) (.c (.int .i64 1)), none⟩,
       ⟨some 7, .mv (.t 51), none⟩] [0, 1, 5, 6, 7])
     (.seq
      (.reg [
        ⟨some 8, .mv (.c (.int .i64 0)), none⟩] [0, 1, 5, 6, 7, 8])
      (.seq
       (.reg [
         ⟨some 52, .mv (.t 0), none⟩,
         ⟨some 53, .lenS (.t 52), none⟩,
         ⟨some 54, .mv (.t 5), none⟩,
         ⟨some 55, .bin .sub none (.t 53) (.t 54), none⟩,
         ⟨some 56, .bin .add none (.t 55) (.c (.int .i64 1)), none⟩,
         ⟨some 9, .mv (.t 56), none⟩] [0, 1, 5, 6, 7, 8, 9])
       (.seq
        (.reg [
          ⟨some 10, .mv (.c (.int .i64 0)), none⟩] [0, 1, 5, 6, 7, 8, 9, 10])
        (.seq
         (.blk 1
          (.seq
           (.trim [0, 1, 5, 6, 7, 8, 9, 10])
           (.lop
            (.seq
             (.seq
              (.seq
               (.reg [
                 ⟨some 57, .mv (.t 8), none⟩,
                 ⟨some 58, .mv (.t 9), none⟩,
                 ⟨some 59, .bin .lss none (.t 57) (.t 58), none⟩] [0, 1, 5, 6, 7, 8, 9, 10, 59])
               (.cnd (.t 59)
                .skip
                (.exit 1)))
              (.blk 2
               (.seq
                (.seq
                 (.reg [
                   ⟨some 60, .mv (.t 0), none⟩,
                   ⟨some 61, .mv (.t 8), none⟩,
                   ⟨some 62, .ixS (.t 60) (.t 61), none⟩,
                   ⟨some 63, .mv (.t 6), none⟩,
                   ⟨some 64, .bin .neq (some .int) (.t 62) (.t 63), none⟩] [0, 1, 5, 6, 7, 8, 9, 10, 64])
                 (.cnd (.t 64)
                  (.seq
                   (.reg [
                     ⟨some 65, .mv (.t 0), none⟩,
                     ⟨some 66, .mv (.t 8), none⟩,
                     ⟨some 67, .bin .add none (.t 66) (.c (.int .i64 1)), none⟩,
                     ⟨some 68, .mv (.t 9), none⟩,
                     ⟨some 69, .slS (.t 65) (some (.t 67)) (some (.t 68)), none⟩,
                     ⟨some 70, .mv (.t 6), none⟩,
                     ⟨some 71, .call 220 [(.t 69), (.t 70)], none⟩,
                     ⟨some 11, .mv (.t 71), none⟩] [0, 1, 5, 6, 7, 8, 9, 10, 11])
                   (.seq
                    (.seq
                     (.reg [
                       ⟨some 72, .mv (.t 11), none⟩,
                       ⟨some 73, .bin .lss none (.t 72) (.c (.int .i64 0)), none⟩] [0, 1, 5, 6, 7, 8, 9, 10, 11, 73])
                     (.cnd (.t 73)
                      (.seq
                       (.reg [
                         ⟨some 4, .mv (.c (.int .i64 (-1))), none⟩] [4])
                       .ret)
                      .skip))
                    (.reg [
                      ⟨some 74, .mv (.t 8), none⟩,
                      ⟨some 75, .mv (.t 11), none⟩,
                      ⟨some 76, .bin .add none (.t 75) (.c (.int .i64 1)), none⟩,
                      ⟨some 77, .bin .add none (.t 74) (.t 76), none⟩,
                      ⟨some 8, .mv (.t 77), none⟩] [0, 1, 5, 6, 7, 8, 9, 10])))
                  .skip))
                (.seq
                 (.seq
                  (.reg [
                    ⟨some 78, .mv (.t 0), none⟩,
                    ⟨some 79, .mv (.t 8), none⟩,
                    ⟨some 80, .bin .add none (.t 79) (.c (.int .i64 1)), none⟩,
                    ⟨some 81, .ixS (.t 78) (.t 80), none⟩,
                    ⟨some 82, .mv (.t 7), none⟩,
                    ⟨some 83, .bin .eql (some .int) (.t 81) (.t 82), none⟩,
                    ⟨some 84, .mv (.t 83), none⟩,
                    ⟨some 85, .mv (.t 0), some (84, true)⟩,
                    ⟨some 86, .mv (.t 8), some (84, true)⟩,
                    ⟨some 87, .mv (.t 8), some (84, true)⟩,
                    ⟨some 88, .mv (.t 5), some (84, true)⟩,
                    ⟨some 89, .bin .add none (.t 87) (.t 88), some (84, true)⟩,
                    ⟨some 90, .slS (.t 85) (some (.t 86)) (some (.t 89)), some (84, true)⟩,
                    ⟨some 91, .mv (.t 1), some (84, true)⟩,
                    ⟨some 92, .bin .eql (some .str) (.t 90) (.t 91), some (84, true)⟩,
                    ⟨some 93, .pick (.t 84) (.t 92) (.c (.bool false)), none⟩] [0, 1, 5, 6, 7, 8, 9, 10, 93])
                  (.cnd (.t 93)
                   (.seq
                    (.reg [
                      ⟨some 94, .mv (.t 8), none⟩,
                      ⟨some 4, .mv (.t 94), none⟩] [4])
                    .ret)
                   .skip))
                 (.seq
                  (.reg [
                    ⟨some 95, .mv (.t 8), none⟩,
                    ⟨some 96, .bin .add none (.t 95) (.c (.int .i64 1)), none⟩,
                    ⟨some 8, .mv (.t 96), none⟩] [0, 1, 5, 6, 7, 8, 9, 10])
                  (.seq
                   (.reg [
                     ⟨some 97, .mv (.t 10), none⟩,
                     ⟨some 98, .bin .add none (.t 97) (.c (.int .i64 1)), none⟩,
                     ⟨some 10, .mv (.t 98), none⟩] [0, 1, 5, 6, 7, 8, 9, 10])
                   (.seq
                    (.reg [
                      ⟨some 99, .mv (.t 5), none⟩,
                      ⟨some 100, .ld false 1 (.g 1), none⟩,
                      ⟨some 101, .bin .leq none (.t 99) (.t 100), none⟩,
                      ⟨some 102, .mv (.t 101), none⟩,
                      ⟨some 103, .mv (.t 10), some (102, true)⟩,
                      ⟨some 104, .mv (.t 8), some (102, true)⟩,
                      ⟨some 105, .call 222 [(.t 104)], some (102, true)⟩,
                      ⟨some 106, .bin .gtr none (.t 103) (.t 105), some (102, true)⟩,
                      ⟨some 107, .pick (.t 102) (.t 106) (.c (.bool false)), none⟩] [0, 1, 5, 6, 7, 8, 9, 10, 107])
                    (.cnd (.t 107)
                     (.seq
                      .fail
                      (.seq
                       (.seq
                        (.reg [
                          ⟨some 113, .mv (.t 12), none⟩,
                          ⟨some 114, .bin .geq none (.t 113) (.c (.int .i64 0)), none⟩] [8, 12, 114])
                        (.cnd (.t 114)
                         (.seq
                          (.reg [
                            ⟨some 115, .mv (.t 12), none⟩,
                            ⟨some 116, .mv (.t 8), none⟩,
                            ⟨some 117, .bin .add none (.t 115) (.t 116), none⟩,
                            ⟨some 4, .mv (.t 117), none⟩] [4])
                          .ret)
                         .skip))
                       (.seq
                        (.reg [
                          ⟨some 4, .mv (.c (.int .i64 (-1))), none⟩] [4])
                        .ret)))
                     (.seq
                      (.reg [
                        ⟨some 118, .mv (.t 5), none⟩,
                        ⟨some 119, .ld false 1 (.g 1), none⟩,
                        ⟨some 120, .bin .gtr none (.t 118) (.t 119), none⟩,
                        ⟨some 121, .mv (.t 120), none⟩,
                        ⟨some 122, .mv (.t 10), some (121, true)⟩,
                        ⟨some 123, .mv (.t 8), some (121, true)⟩,
                        ⟨some 124, .bin .shr none (.t 123) (.c (.int .u64 4)), some (121, true)⟩,
                        ⟨some 125, .bin .add none (.c (.int .i64 4)) (.t 124), some (121, true)⟩,
                        ⟨some 126, .bin .geq none (.t 122) (.t 125), some (121, true)⟩,
                        ⟨some 127, .pick (.t 121) (.t 126) (.c (.bool false)), none⟩,
                        ⟨some 128, .mv (.t 127), none⟩,
                        ⟨some 129, .mv (.t 8), some (128, true)⟩,
                        ⟨some 130, .mv (.t 9), some (128, true)⟩,
                        ⟨some 131, .bin .lss none (.t 129) (.t 130), some (128, true)⟩,
                        ⟨some 132, .pick (.t 128) (.t 131) (.c (.bool false)), none⟩] [0, 1, 5, 6, 7, 8, 9, 10, 132])
                      (.cnd (.t 132)
                       (.seq
                        (.reg [
                          ⟨some 133, .mv (.t 0), none⟩,
                          ⟨some 134, .mv (.t 8), none⟩,
                          ⟨some 135, .slS (.t 133) (some (.t 134)) none, none⟩,
                          ⟨some 136, .mv (.t 1), none⟩,
                          ⟨some 137, .call 223 [(.t 135), (.t 136)], none⟩,
                          ⟨some 13, .mv (.t 137), none⟩] [8, 13])
                        (.seq
                         (.seq
                          (.reg [
                            ⟨some 138, .mv (.t 13), none⟩,
                            ⟨some 139, .bin .lss none (.t 138) (.c (.int .i64 0)), none⟩] [8, 13, 139])
                          (.cnd (.t 139)
                           (.seq
                            (.reg [
                              ⟨some 4, .mv (.c (.int .i64 (-1))), none⟩] [4])
                            .ret)
                           .skip))
                         (.seq
                          (.reg [
                            ⟨some 140, .mv (.t 8), none⟩,
                            ⟨some 141, .mv (.t 13), none⟩,
                            ⟨some 142, .bin .add none (.t 140) (.t 141), none⟩,
                            ⟨some 4, .mv (.t 142), none⟩] [4])
                          .ret)))
                       .skip))))))))))
             (.trim [0, 1, 5, 6, 7, 8, 9, 10])))))
         (.seq
          (.reg [
            ⟨some 4, .mv (.c (.int .i64 (-1))), none⟩] [4])
          .ret)))))))))),
[.tmp 4]⟩
theorem F199_ok : prepF Go.Proofs.Tryz.prog ⟨[], [(0, [0, 1]), (1, [0, 1, 5]), (2, [0, 1, 5, 16]), (3, [4]), (4, [0, 1, 5, 24]), (5, [4]), (6, [0, 1, 5, 31]), (7, [4]), (8, [0, 1, 5, 36]), (9, [4]), (10, [0, 1, 5, 6]), (11, [0, 1, 5, 6, 7]), (12, [0, 1, 5, 6, 7, 8]), (13, [0, 1, 5, 6, 7, 8, 9]), (14, [0, 1, 5, 6, 7, 8, 9, 10]), (15, [0, 1, 5, 6, 7, 8, 9, 10, 59]), (16, [0, 1, 5, 6, 7, 8, 9, 10, 64]), (17, [0, 1, 5, 6, 7, 8, 9, 10, 11]), (18, [0, 1, 5, 6, 7, 8, 9, 10, 11, 73]), (19, [4]), (20, [0, 1, 5, 6, 7, 8, 9, 10]), (21, [0, 1, 5, 6, 7, 8, 9, 10, 93]), (22, [4]), (23, [0, 1, 5, 6, 7, 8, 9, 10]), (24, [0, 1, 5, 6, 7, 8, 9, 10]), (25, [0, 1, 5, 6, 7, 8, 9, 10, 107]), (26, [8, 12]), (27, [8, 12, 114]), (28, [4]), (29, [4]), (30, [0, 1, 5, 6, 7, 8, 9, 10, 132]), (31, [8, 13]), (32, [8, 13, 139]), (33, [4]), (34, [4]), (35, [4]), (1000001, [0, 1, 5, 6, 7, 8, 9, 10])], []⟩ Go.Proofs.Tryz.f199 = some F199 := by kernel_rfl
theorem F199_fn : FnOK2 Go.Proofs.Tryz.prog 199 (.pl F199) := .pl Go.Proofs.Tryz.func199 (by kernel_rfl) F199_ok
/-- slices.insertionSortCmpFunc[int] -/
def F200 : DF := ⟨4,
(.seq
 (.reg [
   ⟨some 10, .mv (.t 1), none⟩,
   ⟨some 11, .bin .add none (.t 10) (.c (.int .i64 1)), none⟩,
   ⟨some 8, .mv (.t 11), none⟩] [0, 1, 2, 3, 8])
 (.blk 0
  (.seq
   (.trim [0, 1, 2, 3, 8])
   (.lop
    (.seq
     (.seq
      (.seq
       (.reg [
         ⟨some 12, .mv (.t 8), none⟩,
         ⟨some 13, .mv (.t 2), none⟩,
         ⟨some 14, .bin .lss none (.t 12) (.t 13), none⟩] [0, 1, 2, 3, 8, 14])
       (.cnd (.t 14)
        .skip
        (.exit 0)))
      (.seq
       (.blk 1
        (.seq
         (.reg [
           ⟨some 17, .mv (.t 8), none⟩,
           ⟨some 9, .mv (.t 17), none⟩] [0, 1, 2, 3, 8, 9])
         (.blk 2
          (.seq
           (.trim [0, 1, 2, 3, 8, 9])
           (.lop
            (.seq
             (.seq
              (.seq
               (.drw [
                 ((⟨some 18, .mv (.t 9), none⟩, none), []),
                 ((⟨some 19, .mv (.t 1), none⟩, none), []),
                 ((⟨some 20, .bin .gtr none (.t 18) (.t 19), none⟩, none), []),
                 ((⟨some 21, .mv (.t 20), none⟩, none), []),
                 ((⟨some 22, .mv (.t 3), some (21, true)⟩, none), []),
                 ((⟨some 23, .mv (.t 0), some (21, true)⟩, none), []),
                 ((⟨some 24, .mv (.t 9), some (21, true)⟩, none), []),
                 ((⟨some 25, .ia 1 (.t 23) (.t 24), some (21, true)⟩, none), []),
                 ((⟨some 26, .ld false 1 (.t 25), some (21, true)⟩, none), []),
                 ((⟨some 27, .mv (.t 0), some (21, true)⟩, none), []),
                 ((⟨some 28, .mv (.t 9), some (21, true)⟩, none), []),
                 ((⟨some 29, .bin .sub none (.t 28) (.c (.int .i64 1)), some (21, true)⟩, none), []),
                 ((⟨some 30, .ia 1 (.t 27) (.t 29), some (21, true)⟩, none), []),
                 ((⟨some 31, .ld false 1 (.t 30), some (21, true)⟩, none), []),
                 ((⟨some 32, .callv (.t 22) [(.t 26), (.t 31)], some (21, true)⟩, none), []),
                 ((⟨some 33, .bin .lss none (.t 32) (.c (.int .i64 0)), some (21, true)⟩, none), []),
                 ((⟨some 34, .pick (.t 21) (.t 33) (.c (.bool false)), none⟩, none), [])] [0, 1, 2, 3, 8, 9, 34])
               (.cnd (.t 34)
                .skip
                (.exit 2)))
              (.seq
               (.blk 3
                (.drw [
                  ((⟨some 37, .mv (.t 0), none⟩, none), []),
                  ((⟨some 38, .mv (.t 9), none⟩, none), []),
                  ((⟨some 39, .mv (.t 0), none⟩, none), []),
                  ((⟨some 40, .mv (.t 9), none⟩, none), []),
                  ((⟨some 41, .bin .sub none (.t 40) (.c (.int .i64 1)), none⟩, none), []),
                  ((⟨some 42, .mv (.t 0), none⟩, none), []),
                  ((⟨some 43, .mv (.t 9), none⟩, none), []),
                  ((⟨some 44, .bin .sub none (.t 43) (.c (.int .i64 1)), none⟩, none), []),
                  ((⟨some 45, .ia 1 (.t 42) (.t 44), none⟩, none), []),
                  ((⟨some 46, .ld false 1 (.t 45), none⟩, none), []),
                  ((⟨some 47, .mv (.t 0), none⟩, none), []),
                  ((⟨some 48, .mv (.t 9), none⟩, none), []),
                  ((⟨some 49, .ia 1 (.t 47) (.t 48), none⟩, none), []),
                  ((⟨some 50, .ld false 1 (.t 49), none⟩, none), []),
                  ((⟨some 51, .ia 1 (.t 37) (.t 38), none⟩, none), []),
                  ((⟨none, .st 1 (.t 51) (.t 46), none⟩, none), []),
                  ((⟨some 52, .ia 1 (.t 39) (.t 41), none⟩, none), []),
                  ((⟨none, .st 1 (.t 52) (.t 50), none⟩, none), [])] [0, 1, 2, 3, 8, 9]))
               (.reg [
                 ⟨some 35, .mv (.t 9), none⟩,
                 ⟨some 36, .bin .sub none (.t 35) (.c (.int .i64 1)), none⟩,
                 ⟨some 9, .mv (.t 36), none⟩] [0, 1, 2, 3, 8, 9])))
             (.trim [0, 1, 2, 3, 8, 9])))))))
       (.reg [
         ⟨some 15, .mv (.t 8), none⟩,
         ⟨some 16, .bin .add none (.t 15) (.c (.int .i64 1)), none⟩,
         ⟨some 8, .mv (.t 16), none⟩] [0, 1, 2, 3, 8])))
     (.trim [0, 1, 2, 3, 8])))))),
[]⟩
theorem F200_ok : prepF Go.Proofs.Tryz.prog ⟨[], [(0, [0, 1, 2, 3, 8]), (1, [0, 1, 2, 3, 8, 14]), (2, [0, 1, 2, 3, 8]), (3, [0, 1, 2, 3, 8, 9]), (4, [0, 1, 2, 3, 8, 9, 34]), (5, [0, 1, 2, 3, 8, 9]), (6, [0, 1, 2, 3, 8, 9]), (1000000, [0, 1, 2, 3, 8]), (1000002, [0, 1, 2, 3, 8, 9])], []⟩ Go.Proofs.Tryz.f200 = some F200 := by kernel_rfl
theorem F200_fn : FnOK2 Go.Proofs.Tryz.prog 200 (.pl F200) := .pl Go.Proofs.Tryz.func200 (by kernel_rfl) F200_ok
/-- slices.symMergeCmpFunc[int] -/
def F201 : DF := ⟨5,
(.seq
 (.seq
  (.reg [
    ⟨some 25, .mv (.t 2), none⟩,
    ⟨some 26, .mv (.t 1), none⟩,
    ⟨some 27, .bin .sub none (.t 25) (.t 26), none⟩,
    ⟨some 28, .bin .eql (some .int) (.t 27) (.c (.int .i64 1)), none⟩] [0, 1, 2, 3, 4, 28])
  (.cnd (.t 28)
   (.seq
    (.reg [
      ⟨some 29, .mv (.t 2), none⟩,
      ⟨some 10, .mv (.t 29), none⟩] [0, 1, 3, 4, 10])
    (.seq
     (.reg [
       ⟨some 30, .mv (.t 3), none⟩,
       ⟨some 11, .mv (.t 30), none⟩] [0, 1, 4, 10, 11])
     (.seq
      (.blk 0
       (.seq
        (.trim [0, 1, 4, 10, 11])
        (.lop
         (.seq
          (.seq
           (.seq
            (.reg [
              ⟨some 31, .mv (.t 10), none⟩,
              ⟨some 32, .mv (.t 11), none⟩,
              ⟨some 33, .bin .lss none (.t 31) (.t 32), none⟩] [0, 1, 4, 10, 11, 33])
            (.cnd (.t 33)
             .skip
             (.exit 0)))
           (.blk 1
            (.seq
             (.reg [
               ⟨some 34, .mv (.t 10), none⟩,
               ⟨some 35, .mv (.t 11), none⟩,
               ⟨some 36, .bin .add none (.t 34) (.t 35), none⟩,
               ⟨some 37, .cvI .u64 (.t 36), none⟩,
               ⟨some 38, .bin .shr none (.t 37) (.c (.int .u64 1)), none⟩,
               ⟨some 39, .cvI .i64 (.t 38), none⟩,
               ⟨some 12, .mv (.t 39), none⟩] [0, 1, 4, 10, 11, 12])
             (.seq
              (.drw [
                ((⟨some 40, .mv (.t 4), none⟩, none), []),
                ((⟨some 41, .mv (.t 0), none⟩, none), []),
                ((⟨some 42, .mv (.t 12), none⟩, none), []),
                ((⟨some 43, .ia 1 (.t 41) (.t 42), none⟩, none), []),
                ((⟨some 44, .ld false 1 (.t 43), none⟩, none), []),
                ((⟨some 45, .mv (.t 0), none⟩, none), []),
                ((⟨some 46, .mv (.t 1), none⟩, none), []),
                ((⟨some 47, .ia 1 (.t 45) (.t 46), none⟩, none), []),
                ((⟨some 48, .ld false 1 (.t 47), none⟩, none), []),
                ((⟨some 49, .callv (.t 40) [(.t 44), (.t 48)], none⟩, none), []),
                ((⟨some 50, .bin .lss none (.t 49) (.c (.int .i64 0)), none⟩, none), [])] [0, 1, 4, 10, 11, 12, 50])
              (.cnd (.t 50)
               (.reg [
                 ⟨some 51, .mv (.t 12), none⟩,
                 ⟨some 52, .bin .add none (.t 51) (.c (.int .i64 1)), none⟩,
                 ⟨some 10, .mv (.t 52), none⟩] [0, 1, 4, 10, 11])
               (.reg [
                 ⟨some 53, .mv (.t 12), none⟩,
                 ⟨some 11, .mv (.t 53), none⟩] [0, 1, 4, 10, 11]))))))
          (.trim [0, 1, 4, 10, 11])))))
      (.seq
       (.seq
        (.reg [
          ⟨some 54, .mv (.t 1), none⟩,
          ⟨some 13, .mv (.t 54), none⟩] [0, 10, 13])
        (.blk 2
         (.seq
          (.trim [0, 10, 13])
          (.lop
           (.seq
            (.seq
             (.seq
              (.reg [
                ⟨some 55, .mv (.t 13), none⟩,
                ⟨some 56, .mv (.t 10), none⟩,
                ⟨some 57, .bin .sub none (.t 56) (.c (.int .i64 1)), none⟩,
                ⟨some 58, .bin .lss none (.t 55) (.t 57), none⟩] [0, 10, 13, 58])
              (.cnd (.t 58)
               .skip
               (.exit 2)))
             (.seq
              (.blk 3
               (.drw [
                 ((⟨some 61, .mv (.t 0), none⟩, none), []),
                 ((⟨some 62, .mv (.t 13), none⟩, none), []),
                 ((⟨some 63, .mv (.t 0), none⟩, none), []),
                 ((⟨some 64, .mv (.t 13), none⟩, none), []),
                 ((⟨some 65, .bin .add none (.t 64) (.c (.int .i64 1)), none⟩, none), []),
                 ((⟨some 66, .mv (.t 0), none⟩, none), []),
                 ((⟨some 67, .mv (.t 13), none⟩, none), []),
                 ((⟨some 68, .bin .add none (.t 67) (.c (.int .i64 1)), none⟩, none), []),
                 ((⟨some 69, .ia 1 (.t 66) (.t 68), none⟩, none), []),
                 ((⟨some 70, .ld false 1 (.t 69), none⟩, none), []),
                 ((⟨some 71, .mv (.t 0), none⟩, none), []),
                 ((⟨some 72, .mv (.t 13), none⟩, none), []),
                 ((⟨some 73, .ia 1 (.t 71) (.t 72), none⟩, none), []),
                 ((⟨some 74, .ld false 1 (.t 73), none⟩, none), []),
                 ((⟨some 75, .ia 1 (.t 61) (.t 62), none⟩, none), []),
                 ((⟨none, .st 1 (.t 75) (.t 70), none⟩, none), []),
                 ((⟨some 76, .ia 1 (.t 63) (.t 65), none⟩, none), []),
                 ((⟨none, .st 1 (.t 76) (.t 74), none⟩, none), [])] [0, 10, 13]))
              (.reg [
                ⟨some 59, .mv (.t 13), none⟩,
                ⟨some 60, .bin .add none (.t 59) (.c (.int .i64 1)), none⟩,
                ⟨some 13, .mv (.t 60), none⟩] [0, 10, 13])))
            (.trim [0, 10, 13]))))))
       .ret))))
   .skip))
 (.seq
  (.seq
   (.reg [
     ⟨some 77, .mv (.t 3), none⟩,
     ⟨some 78, .mv (.t 2), none⟩,
     ⟨some 79, .bin .sub none (.t 77) (.t 78), none⟩,
     ⟨some 80, .bin .eql (some .int) (.t 79) (.c (.int .i64 1)), none⟩] [0, 1, 2, 3, 4, 80])
   (.cnd (.t 80)
    (.seq
     (.reg [
       ⟨some 81, .mv (.t 1), none⟩,
       ⟨some 14, .mv (.t 81), none⟩] [0, 2, 4, 14])
     (.seq
      (.reg [
        ⟨some 82, .mv (.t 2), none⟩,
        ⟨some 15, .mv (.t 82), none⟩] [0, 2, 4, 14, 15])
      (.seq
       (.blk 4
        (.seq
         (.trim [0, 2, 4, 14, 15])
         (.lop
          (.seq
           (.seq
            (.seq
             (.reg [
               ⟨some 83, .mv (.t 14), none⟩,
               ⟨some 84, .mv (.t 15), none⟩,
               ⟨some 85, .bin .lss none (.t 83) (.t 84), none⟩] [0, 2, 4, 14, 15, 85])
             (.cnd (.t 85)
              .skip
              (.exit 4)))
            (.blk 5
             (.seq
              (.reg [
                ⟨some 86, .mv (.t 14), none⟩,
                ⟨some 87, .mv (.t 15), none⟩,
                ⟨some 88, .bin .add none (.t 86) (.t 87), none⟩,
                ⟨some 89, .cvI .u64 (.t 88), none⟩,
                ⟨some 90, .bin .shr none (.t 89) (.c (.int .u64 1)), none⟩,
                ⟨some 91, .cvI .i64 (.t 90), none⟩,
                ⟨some 16, .mv (.t 91), none⟩] [0, 2, 4, 14, 15, 16])
              (.seq
               (.drw [
                 ((⟨some 92, .mv (.t 4), none⟩, none), []),
                 ((⟨some 93, .mv (.t 0), none⟩, none), []),
                 ((⟨some 94, .mv (.t 2), none⟩, none), []),
                 ((⟨some 95, .ia 1 (.t 93) (.t 94), none⟩, none), []),
                 ((⟨some 96, .ld false 1 (.t 95), none⟩, none), []),
                 ((⟨some 97, .mv (.t 0), none⟩, none), []),
                 ((⟨some 98, .mv (.t 16), none⟩, none), []),
                 ((⟨some 99, .ia 1 (.t 97) (.t 98), none⟩, none), []),
                 ((⟨some 100, .ld false 1 (.t 99), none⟩, none), []),
                 ((⟨some 101, .callv (.t 92) [(.t 96), (.t 100)], none⟩, none), []),
                 ((⟨some 102, .bin .lss none (.t 101) (.c (.int .i64 0)), none⟩, none), []),
                 ((⟨some 103, .un .not (.t 102), none⟩, none), [])] [0, 2, 4, 14, 15, 16, 103])
               (.cnd (.t 103)
                (.reg [
                  ⟨some 104, .mv (.t 16), none⟩,
                  ⟨some 105, .bin .add none (.t 104) (.c (.int .i64 1)), none⟩,
                  ⟨some 14, .mv (.t 105), none⟩] [0, 2, 4, 14, 15])
                (.reg [
                  ⟨some 106, .mv (.t 16), none⟩,
                  ⟨some 15, .mv (.t 106), none⟩] [0, 2, 4, 14, 15]))))))
           (.trim [0, 2, 4, 14, 15])))))
       (.seq
        (.seq
         (.reg [
           ⟨some 107, .mv (.t 2), none⟩,
           ⟨some 17, .mv (.t 107), none⟩] [0, 14, 17])
         (.blk 6
          (.seq
           (.trim [0, 14, 17])
           (.lop
            (.seq
             (.seq
              (.seq
               (.reg [
                 ⟨some 108, .mv (.t 17), none⟩,
                 ⟨some 109, .mv (.t 14), none⟩,
                 ⟨some 110, .bin .gtr none (.t 108) (.t 109), none⟩] [0, 14, 17, 110])
               (.cnd (.t 110)
                .skip
                (.exit 6)))
              (.seq
               (.blk 7
                (.drw [
                  ((⟨some 113, .mv (.t 0), none⟩, none), []),
                  ((⟨some 114, .mv (.t 17), none⟩, none), []),
                  ((⟨some 115, .mv (.t 0), none⟩, none), []),
                  ((⟨some 116, .mv (.t 17), none⟩, none), []),
                  ((⟨some 117, .bin .sub none (.t 116) (.c (.int .i64 1)), none⟩, none), []),
                  ((⟨some 118, .mv (.t 0), none⟩, none), []),
                  ((⟨some 119, .mv (.t 17), none⟩, none), []),
                  ((⟨some 120, .bin .sub none (.t 119) (.c (.int .i64 1)), none⟩, none), []),
                  ((⟨some 121, .ia 1 (.t 118) (.t 120), none⟩, none), []),
                  ((⟨some 122, .ld false 1 (.t 121), none⟩, none), []),
                  ((⟨some 123, .mv (.t 0), none⟩, none), []),
                  ((⟨some 124, .mv (.t 17), none⟩, none), []),
                  ((⟨some 125, .ia 1 (.t 123) (.t 124), none⟩, none), []),
                  ((⟨some 126, .ld false 1 (.t 125), none⟩, none), []),
                  ((⟨some 127, .ia 1 (.t 113) (.t 114), none⟩, none), []),
                  ((⟨none, .st 1 (.t 127) (.t 122), none⟩, none), []),
                  ((⟨some 128, .ia 1 (.t 115) (.t 117), none⟩, none), []),
                  ((⟨none, .st 1 (.t 128) (.t 126), none⟩, none), [])] [0, 14, 17]))
               (.reg [
                 ⟨some 111, .mv (.t 17), none⟩,
                 ⟨some 112, .bin .sub none (.t 111) (.c (.int .i64 1)), none⟩,
                 ⟨some 17, .mv (.t 112), none⟩] [0, 14, 17])))
             (.trim [0, 14, 17]))))))
        .ret))))
    .skip))
  (.seq
   (.reg [
     ⟨some 129, .mv (.t 1), none⟩,
     ⟨some 130, .mv (.t 3), none⟩,
     ⟨some 131, .bin .add none (.t 129) (.t 130), none⟩,
     ⟨some 132, .cvI .u64 (.t 131), none⟩,
     ⟨some 133, .bin .shr none (.t 132) (.c (.int .u64 1)), none⟩,
     ⟨some 134, .cvI .i64 (.t 133), none⟩,
     ⟨some 18, .mv (.t 134), none⟩] [0, 1, 2, 3, 4, 18])
   (.seq
    (.reg [
      ⟨some 135, .mv (.t 18), none⟩,
      ⟨some 136, .mv (.t 2), none⟩,
      ⟨some 137, .bin .add none (.t 135) (.t 136), none⟩,
      ⟨some 19, .mv (.t 137), none⟩] [0, 1, 2, 3, 4, 18, 19])
    (.seq
     (.reg [
       ⟨some 20, .mv (.c (.int .i64 0)), none⟩,
       ⟨some 21, .mv (.c (.int .i64 0)), none⟩] [0, 1, 2, 3, 4, 18, 19])
     (.seq
      (.seq
       (.reg [
         ⟨some 138, .mv (.t 2), none⟩,
         ⟨some 139, .mv (.t 18), none⟩,
         ⟨some 140, .bin .gtr none (.t 138) (.t 139), none⟩] [0, 1, 2, 3, 4, 18, 19, 140])
       (.cnd (.t 140)
        (.seq
         (.reg [
           ⟨some 141, .mv (.t 19), none⟩,
           ⟨some 142, .mv (.t 3), none⟩,
           ⟨some 143, .bin .sub none (.t 141) (.t 142), none⟩,
           ⟨some 20, .mv (.t 143), none⟩] [0, 1, 2, 3, 4, 18, 19, 20])
         (.reg [
           ⟨some 144, .mv (.t 18), none⟩,
           ⟨some 21, .mv (.t 144), none⟩] [0, 1, 2, 3, 4, 18, 19, 20, 21]))
        (.seq
         (.reg [
           ⟨some 145, .mv (.t 1), none⟩,
           ⟨some 20, .mv (.t 145), none⟩] [0, 1, 2, 3, 4, 18, 19, 20])
         (.reg [
           ⟨some 146, .mv (.t 2), none⟩,
           ⟨some 21, .mv (.t 146), none⟩] [0, 1, 2, 3, 4, 18, 19, 20, 21]))))
      (.seq
       (.reg [
         ⟨some 147, .mv (.t 19), none⟩,
         ⟨some 148, .bin .sub none (.t 147) (.c (.int .i64 1)), none⟩,
         ⟨some 22, .mv (.t 148), none⟩] [0, 1, 2, 3, 4, 18, 19, 20, 21, 22])
       (.seq
        (.blk 8
         (.seq
          (.trim [0, 1, 2, 3, 4, 18, 19, 20, 21, 22])
          (.lop
           (.seq
            (.seq
             (.seq
              (.reg [
                ⟨some 149, .mv (.t 20), none⟩,
                ⟨some 150, .mv (.t 21), none⟩,
                ⟨some 151, .bin .lss none (.t 149) (.t 150), none⟩] [0, 1, 2, 3, 4, 18, 19, 20, 21, 22, 151])
              (.cnd (.t 151)
               .skip
               (.exit 8)))
             (.blk 9
              (.seq
               (.reg [
                 ⟨some 152, .mv (.t 20), none⟩,
                 ⟨some 153, .mv (.t 21), none⟩,
                 ⟨some 154, .bin .add none (.t 152) (.t 153), none⟩,
                 ⟨some 155, .cvI .u64 (.t 154), none⟩,
                 ⟨some 156, .bin .shr none (.t 155) (.c (.int .u64 1)), none⟩,
                 ⟨some 157, .cvI .i64 (.t 156), none⟩,
                 ⟨some 23, .mv (.t 157), none⟩] [0, 1, 2, 3, 4, 18, 19, 20, 21, 22, 23])
               (.seq
                (.drw [
                  ((⟨some 158, .mv (.t 4), none⟩, none), []),
                  ((⟨some 159, .mv (.t 0), none⟩, none), []),
                  ((⟨some 160, .mv (.t 22), none⟩, none), []),
                  ((⟨some 161, .mv (.t 23), none⟩, none), []),
                  ((⟨some 162, .bin .sub none (.t 160) (.t 161), none⟩, none), []),
                  ((⟨some 163, .ia 1 (.t 159) (.t 162), none⟩, none), []),
                  ((⟨some 164, .ld false 1 (.t 163), none⟩, none), []),
                  ((⟨some 165, .mv (.t 0), none⟩, none), []),
                  ((⟨some 166, .mv (.t 23), none⟩, none), []),
                  ((⟨some 167, .ia 1 (.t 165) (.t 166), none⟩, none), []),
                  ((⟨some 168, .ld false 1 (.t 167), none⟩, none), []),
                  ((⟨some 169, .callv (.t 158) [(.t 164), (.t 168)], none⟩, none), []),
                  ((⟨some 170, .bin .lss none (.t 169) (.c (.int .i64 0)), none⟩, none), []),
                  ((⟨some 171, .un .not (.t 170), none⟩, none), [])] [0, 1, 2, 3, 4, 18, 19, 20, 21, 22, 23, 171])
                (.cnd (.t 171)
                 (.reg [
                   ⟨some 172, .mv (.t 23), none⟩,
                   ⟨some 173, .bin .add none (.t 172) (.c (.int .i64 1)), none⟩,
                   ⟨some 20, .mv (.t 173), none⟩] [0, 1, 2, 3, 4, 18, 19, 20, 21, 22])
                 (.reg [
                   ⟨some 174, .mv (.t 23), none⟩,
                   ⟨some 21, .mv (.t 174), none⟩] [0, 1, 2, 3, 4, 18, 19, 20, 21, 22]))))))
            (.trim [0, 1, 2, 3, 4, 18, 19, 20, 21, 22])))))
        (.seq
         (.reg [
           ⟨some 175, .mv (.t 19), none⟩,
           ⟨some 176, .mv (.t 20), none⟩,
           ⟨some 177, .bin .sub none (.t 175) (.t 176), none⟩,
           ⟨some 24, .mv (.t 177), none⟩] [0, 1, 2, 3, 4, 18, 20, 24])
         (.seq
          (.seq
           (.reg [
             ⟨some 178, .mv (.t 20), none⟩,
             ⟨some 179, .mv (.t 2), none⟩,
             ⟨some 180, .bin .lss none (.t 178) (.t 179), none⟩,
             ⟨some 181, .mv (.t 180), none⟩,
             ⟨some 182, .mv (.t 2), some (181, true)⟩,
             ⟨some 183, .mv (.t 24), some (181, true)⟩,
             ⟨some 184, .bin .lss none (.t 182) (.t 183), some (181, true)⟩,
             ⟨some 185, .pick (.t 181) (.t 184) (.c (.bool false)), none⟩] [0, 1, 2, 3, 4, 18, 20, 24, 185])
           (.cnd (.t 185)
            (.reg [
              ⟨some 186, .mv (.t 0), none⟩,
              ⟨some 187, .mv (.t 20), none⟩,
              ⟨some 188, .mv (.t 2), none⟩,
              ⟨some 189, .mv (.t 24), none⟩,
              ⟨some 190, .mv (.t 4), none⟩,
              ⟨some 191, .call 224 [(.t 186), (.t 187), (.t 188), (.t 189), (.t 190)], none⟩] [0, 1, 3, 4, 18, 20, 24])
            .skip))
          (.seq
           (.seq
            (.reg [
              ⟨some 192, .mv (.t 1), none⟩,
              ⟨some 193, .mv (.t 20), none⟩,
              ⟨some 194, .bin .lss none (.t 192) (.t 193), none⟩,
              ⟨some 195, .mv (.t 194), none⟩,
              ⟨some 196, .mv (.t 20), some (195, true)⟩,
              ⟨some 197, .mv (.t 18), some (195, true)⟩,
              ⟨some 198, .bin .lss none (.t 196) (.t 197), some (195, true)⟩,
              ⟨some 199, .pick (.t 195) (.t 198) (.c (.bool false)), none⟩] [0, 1, 3, 4, 18, 20, 24, 199])
            (.cnd (.t 199)
             (.reg [
               ⟨some 200, .mv (.t 0), none⟩,
               ⟨some 201, .mv (.t 1), none⟩,
               ⟨some 202, .mv (.t 20), none⟩,
               ⟨some 203, .mv (.t 18), none⟩,
               ⟨some 204, .mv (.t 4), none⟩,
               ⟨some 205, .call 201 [(.t 200), (.t 201), (.t 202), (.t 203), (.t 204)], none⟩] [0, 3, 4, 18, 24])
             .skip))
           (.seq
            (.reg [
              ⟨some 206, .mv (.t 18), none⟩,
              ⟨some 207, .mv (.t 24), none⟩,
              ⟨some 208, .bin .lss none (.t 206) (.t 207), none⟩,
              ⟨some 209, .mv (.t 208), none⟩,
              ⟨some 210, .mv (.t 24), some (209, true)⟩,
              ⟨some 211, .mv (.t 3), some (209, true)⟩,
              ⟨some 212, .bin .lss none (.t 210) (.t 211), some (209, true)⟩,
              ⟨some 213, .pick (.t 209) (.t 212) (.c (.bool false)), none⟩] [0, 3, 4, 18, 24, 213])
            (.cnd (.t 213)
             (.reg [
               ⟨some 214, .mv (.t 0), none⟩,
               ⟨some 215, .mv (.t 18), none⟩,
               ⟨some 216, .mv (.t 24), none⟩,
               ⟨some 217, .mv (.t 3), none⟩,
               ⟨some 218, .mv (.t 4), none⟩,
               ⟨some 219, .call 201 [(.t 214), (.t 215), (.t 216), (.t 217), (.t 218)], none⟩] [])
             .skip))))))))))))),
[]⟩
theorem F201_ok : prepF Go.Proofs.Tryz.prog ⟨[], [(0, [0, 1, 2, 3, 4, 28]), (1, [0, 1, 3, 4, 10]), (2, [0, 1, 4, 10, 11]), (3, [0, 1, 4, 10, 11, 33]), (4, [0, 1, 4, 10, 11, 12]), (5, [0, 1, 4, 10, 11, 12, 50]), (6, [0, 1, 4, 10, 11]), (7, [0, 1, 4, 10, 11]), (8, [0, 10, 13]), (9, [0, 10, 13, 58]), (10, [0, 10, 13]), (11, [0, 10, 13]), (12, [0, 1, 2, 3, 4, 80]), (13, [0, 2, 4, 14]), (14, [0, 2, 4, 14, 15]), (15, [0, 2, 4, 14, 15, 85]), (16, [0, 2, 4, 14, 15, 16]), (17, [0, 2, 4, 14, 15, 16, 103]), (18, [0, 2, 4, 14, 15]), (19, [0, 2, 4, 14, 15]), (20, [0, 14, 17]), (21, [0, 14, 17, 110]), (22, [0, 14, 17]), (23, [0, 14, 17]), (24, [0, 1, 2, 3, 4, 18]), (25, [0, 1, 2, 3, 4, 18, 19]), (26, [0, 1, 2, 3, 4, 18, 19]), (27, [0, 1, 2, 3, 4, 18, 19, 140]), (28, [0, 1, 2, 3, 4, 18, 19, 20]), (29, [0, 1, 2, 3, 4, 18, 19, 20, 21]), (30, [0, 1, 2, 3, 4, 18, 19, 20]), (31, [0, 1, 2, 3, 4, 18, 19, 20, 21]), (32, [0, 1, 2, 3, 4, 18, 19, 20, 21, 22]), (33, [0, 1, 2, 3, 4, 18, 19, 20, 21, 22, 151]), (34, [0, 1, 2, 3, 4, 18, 19, 20, 21, 22, 23]), (35, [0, 1, 2, 3, 4, 18, 19, 20, 21, 22, 23, 171]), (36, [0, 1, 2, 3, 4, 18, 19, 20, 21, 22]), (37, [0, 1, 2, 3, 4, 18, 19, 20, 21, 22]), (38, [0, 1, 2, 3, 4, 18, 20, 24]), (39, [0, 1, 2, 3, 4, 18, 20, 24, 185]), (40, [0, 1, 3, 4, 18, 20, 24]), (41, [0, 1, 3, 4, 18, 20, 24, 199]), (42, [0, 3, 4, 18, 24]), (43, [0, 3, 4, 18, 24, 213]), (44, []), (1000000, [0, 1, 4, 10, 11]), (1000002, [0, 10, 13]), (1000004, [0, 2, 4, 14, 15]), (1000006, [0, 14, 17]), (1000008, [0, 1, 2, 3, 4, 18, 19, 20, 21, 22])], []⟩ Go.Proofs.Tryz.f201 = some F201 := by kernel_rfl
theorem F201_fn : FnOK2 Go.Proofs.Tryz.prog 201 (.pl F201) := .pl Go.Proofs.Tryz.func201 (by kernel_rfl) F201_ok
/-- emend/text.Hex -/
def F203 : DF := ⟨2,
(.seq
 (.reg [
   ⟨some 4, .mv (.c (.int .i64 0)), none⟩] [0, 1])
 (.seq
  (.seq
   (.reg [
     ⟨some 8, .mv (.t 0), none⟩,
     ⟨some 9, .lenS (.t 8), none⟩,
     ⟨some 10, .mv (.t 1), none⟩,
     ⟨some 11, .bin .lss none (.t 9) (.t 10), none⟩] [0, 1, 11])
   (.cnd (.t 11)
    (.seq
     (.reg [
       ⟨some 4, .mv (.c (.int .i64 (-1))), none⟩] [4])
     .ret)
    .skip))
  (.seq
   (.reg [
     ⟨some 5, .mv (.c (.int .i64 0)), none⟩] [0, 1, 5])
   (.seq
    (.seq
     (.reg [
       ⟨some 12, .mv (.t 1), none⟩,
       ⟨some 13, .mv (.c (.int .i64 0)), none⟩] [0, 5, 12, 13])
     (.blk 0
      (.seq
       (.trim [0, 5, 12, 13])
       (.lop
        (.seq
         (.seq
          (.reg [
            ⟨some 14, .bin .lss none (.t 13) (.t 12), none⟩] [0, 5, 12, 13, 14])
          (.seq
           (.cnd (.t 14)
            .skip
            (.exit 0))
           (.seq
            (.blk 1
             (.seq
              (.reg [
                ⟨some 15, .mv (.t 13), none⟩,
                ⟨some 6, .mv (.t 15), none⟩] [0, 5, 6, 12, 13])
              (.seq
               (.reg [
                 ⟨some 16, .mv (.t 0), none⟩,
                 ⟨some 17, .mv (.t 6), none⟩,
                 ⟨some 18, .ixS (.t 16) (.t 17), none⟩,
                 ⟨some 19, .call 225 [(.t 18)], none⟩,
                 ⟨some 7, .mv (.t 19), none⟩] [0, 5, 7, 12, 13])
               (.seq
                (.seq
                 (.reg [
                   ⟨some 20, .mv (.t 7), none⟩,
                   ⟨some 21, .bin .lss none (.t 20) (.c (.int .i64 0)), none⟩] [0, 5, 7, 12, 13, 21])
                 (.cnd (.t 21)
                  (.seq
                   (.reg [
                     ⟨some 4, .mv (.c (.int .i64 (-1))), none⟩] [4])
                   .ret)
                  .skip))
                (.reg [
                  ⟨some 22, .mv (.t 5), none⟩,
                  ⟨some 23, .bin .shl none (.t 22) (.c (.int .u64 4)), none⟩,
                  ⟨some 24, .mv (.t 7), none⟩,
                  ⟨some 25, .bin .or none (.t 23) (.t 24), none⟩,
                  ⟨some 5, .mv (.t 25), none⟩] [0, 5, 12, 13])))))
            (.reg [
              ⟨some 26, .bin .add none (.t 13) (.c (.int .i64 1)), none⟩,
              ⟨some 13, .mv (.t 26), none⟩] [0, 5, 12, 13]))))
         (.trim [0, 5, 12, 13]))))))
    (.seq
     (.reg [
       ⟨some 27, .mv (.t 5), none⟩,
       ⟨some 4, .mv (.t 27), none⟩] [4])
     .ret))))),
[.tmp 4]⟩
theorem F203_ok : prepF Go.Proofs.Tryz.prog ⟨[], [(0, [0, 1]), (1, [0, 1, 11]), (2, [4]), (3, [0, 1, 5]), (4, [0, 5, 12, 13]), (5, [0, 5, 12, 13, 14]), (6, [0, 5, 6, 12, 13]), (7, [0, 5, 7, 12, 13]), (8, [0, 5, 7, 12, 13, 21]), (9, [4]), (10, [0, 5, 12, 13]), (11, [0, 5, 12, 13]), (12, [4]), (1000000, [0, 5, 12, 13])], []⟩ Go.Proofs.Tryz.f203 = some F203 := by kernel_rfl
theorem F203_fn : FnOK2 Go.Proofs.Tryz.prog 203 (.pl F203) := .pl Go.Proofs.Tryz.func203 (by kernel_rfl) F203_ok
/-- internal/strconv.log10Pow2 -/
def F206 : DF := ⟨1,
(.seq
 (.reg [
   ⟨some 2, .mv (.c (.int .i64 0)), none⟩] [0])
 (.seq
  (.reg [
    ⟨some 3, .mv (.t 0), none⟩,
    ⟨some 4, .bin .mul none (.t 3) (.c (.int .i64 78913)), none⟩,
    ⟨some 5, .bin .shr none (.t 4) (.c (.int .u64 18)), none⟩,
    ⟨some 2, .mv (.t 5), none⟩] [2])
  .ret)),
[.tmp 2]⟩
theorem F206_ok : prepF Go.Proofs.Tryz.prog ⟨[], [(0, [0]), (1, [2])], []⟩ Go.Proofs.Tryz.f206 = some F206 := by kernel_rfl
theorem F206_fn : FnOK2 Go.Proofs.Tryz.prog 206 (.pl F206) := .pl Go.Proofs.Tryz.func206 (by kernel_rfl) F206_ok
/-- math/bits.Len64 -/
def F207 : DF := ⟨1,
(.seq
 (.reg [
   ⟨some 2, .mv (.c (.int .i64 0)), none⟩] [0, 2])
 (.seq
  (.seq
   (.reg [
     ⟨some 3, .mv (.t 0), none⟩,
     ⟨some 4, .bin .geq none (.t 3) (.c (.int .u64 4294967296)), none⟩] [0, 2, 4])
   (.cnd (.t 4)
    (.seq
     (.reg [
       ⟨some 5, .mv (.t 0), none⟩,
       ⟨some 6, .bin .shr none (.t 5) (.c (.int .u64 32)), none⟩,
       ⟨some 0, .mv (.t 6), none⟩] [0])
     (.reg [
       ⟨some 2, .mv (.c (.int .i64 32)), none⟩] [0, 2]))
    .skip))
  (.seq
   (.seq
    (.reg [
      ⟨some 7, .mv (.t 0), none⟩,
      ⟨some 8, .bin .geq none (.t 7) (.c (.int .u64 65536)), none⟩] [0, 2, 8])
    (.cnd (.t 8)
     (.seq
      (.reg [
        ⟨some 9, .mv (.t 0), none⟩,
        ⟨some 10, .bin .shr none (.t 9) (.c (.int .u64 16)), none⟩,
        ⟨some 0, .mv (.t 10), none⟩] [0, 2])
      (.reg [
        ⟨some 11, .mv (.t 2), none⟩,
        ⟨some 12, .bin .add none (.t 11) (.c (.int .i64 16)), none⟩,
        ⟨some 2, .mv (.t 12), none⟩] [0, 2]))
     .skip))
   (.seq
    (.seq
     (.reg [
       ⟨some 13, .mv (.t 0), none⟩,
       ⟨some 14, .bin .geq none (.t 13) (.c (.int .u64 256)), none⟩] [0, 2, 14])
     (.cnd (.t 14)
      (.seq
       (.reg [
         ⟨some 15, .mv (.t 0), none⟩,
         ⟨some 16, .bin .shr none (.t 15) (.c (.int .u64 8)), none⟩,
         ⟨some 0, .mv (.t 16), none⟩] [0, 2])
       (.reg [
         ⟨some 17, .mv (.t 2), none⟩,
         ⟨some 18, .bin .add none (.t 17) (.c (.int .i64 8)), none⟩,
         ⟨some 2, .mv (.t 18), none⟩] [0, 2]))
      .skip))
    (.seq
     (.reg [
       ⟨some 19, .mv (.t 2), none⟩,
       ⟨some 20, .mv (.t 0), none⟩,
       ⟨some 21, .cvI .u8 (.t 20), none⟩,
       ⟨some 22, .ixS (.c (.str [0, 1, 2, 2, 3, 3, 3, 3, 4, 4, 4, 4, 4, 4, 4, 4, 5, 5, 5, 5, 5, 5, 5, 5, 5, 5, 5, 5, 5, 5, 5, 5, 6, 6, 6, 6, 6, 6, 6, 6, 6, 6, 6, 6, 6, 6, 6, 6, 6, 6, 6, 6, 6, 6, 6, 6, 6, 6, 6, 6, 6, 6, 6, 6, 7, 7, 7, 7, 7, 7, 7, 7, 7, 7, 7, 7, 7, 7, 7, 7, 7, 7, 7, 7, 7, 7, 7, 7, 7, 7, 7, 7, 7, 7, 7, 7, 7, 7, 7, 7, 7, 7, 7, 7, 7, 7, 7, 7, 7, 7, 7, 7, 7, 7, 7, 7, 7, 7, 7, 7, 7, 7, 7, 7, 7, 7, 7, 7, 8, 8, 8, 8, 8, 8, 8, 8, 8, 8, 8, 8, 8, 8, 8, 8, 8, 8, 8, 8, 8, 8, 8, 8, 8, 8, 8, 8, 8, 8, 8, 8, 8, 8, 8, 8, 8, 8, 8, 8, 8, 8, 8, 8, 8, 8, 8, 8, 8, 8, 8, 8, 8, 8, 8, 8, 8, 8, 8, 8, 8, 8, 8, 8, 8, 8, 8, 8, 8, 8, 8, 8, 8, 8, 8, 8, 8, 8, 8, 8, 8, 8, 8, 8, 8, 8, 8, 8, 8, 8, 8, 8, 8, 8, 8, 8, 8, 8, 8, 8, 8, 8, 8, 8, 8, 8, 8, 8, 8, 8, 8, 8, 8, 8, 8, 8, 8, 8, 8, 8, 8, 8, 8, 8, 8, 8, 8, 8])) (.t 21), none⟩,
       ⟨some 23, .cvI .i64 (.t 22), none⟩,
       ⟨some 24, .bin .add none (.t 19) (.t 23), none⟩,
       ⟨some 2, .mv (.t 24), none⟩] [2])
     .ret))))),
[.tmp 2]⟩
theorem F207_ok : prepF Go.Proofs.Tryz.prog ⟨[], [(0, [0, 2]), (1, [0, 2, 4]), (2, [0]), (3, [0, 2]), (4, [0, 2, 8]), (5, [0, 2]), (6, [0, 2]), (7, [0, 2, 14]), (8, [0, 2]), (9, [0, 2]), (10, [2])], []⟩ Go.Proofs.Tryz.f207 = some F207 := by kernel_rfl
theorem F207_fn : FnOK2 Go.Proofs.Tryz.prog 207 (.pl F207) := .pl Go.Proofs.Tryz.func207 (by kernel_rfl) F207_ok
/-- internal/strconv.bool2[int] -/
def F208 : DF := ⟨1,
(.seq
 (.reg [
   ⟨some 2, .mv (.c (.int .i64 0)), none⟩] [0])
 (.seq
  (.seq
   (.reg [
     ⟨some 3, .mv (.t 0), none⟩] [3])
   (.cnd (.t 3)
    (.seq
     (.reg [
       ⟨some 2, .mv (.c (.int .i64 1)), none⟩] [2])
     .ret)
    .skip))
  (.seq
   (.reg [
     ⟨some 2, .mv (.c (.int .i64 0)), none⟩] [2])
   .ret))),
[.tmp 2]⟩
theorem F208_ok : prepF Go.Proofs.Tryz.prog ⟨[], [(0, [0]), (1, [3]), (2, [2]), (3, [2])], []⟩ Go.Proofs.Tryz.f208 = some F208 := by kernel_rfl
theorem F208_fn : FnOK2 Go.Proofs.Tryz.prog 208 (.pl F208) := .pl Go.Proofs.Tryz.func208 (by kernel_rfl) F208_ok
/-- internal/strconv.isPowerOfTwo -/
def F209 : DF := ⟨1,
(.seq
 (.reg [
   ⟨some 2, .mv (.c (.bool false)), none⟩] [0])
 (.seq
  (.reg [
    ⟨some 3, .mv (.t 0), none⟩,
    ⟨some 4, .mv (.t 0), none⟩,
    ⟨some 5, .bin .sub none (.t 4) (.c (.int .i64 1)), none⟩,
    ⟨some 6, .bin .and none (.t 3) (.t 5), none⟩,
    ⟨some 7, .bin .eql (some .int) (.t 6) (.c (.int .i64 0)), none⟩,
    ⟨some 2, .mv (.t 7), none⟩] [2])
  .ret)),
[.tmp 2]⟩
theorem F209_ok : prepF Go.Proofs.Tryz.prog ⟨[], [(0, [0]), (1, [2])], []⟩ Go.Proofs.Tryz.f209 = some F209 := by kernel_rfl
theorem F209_fn : FnOK2 Go.Proofs.Tryz.prog 209 (.pl F209) := .pl Go.Proofs.Tryz.func209 (by kernel_rfl) F209_ok
/-- math/bits.TrailingZeros -/
def F210 : DF := ⟨1,
(.seq
 (.reg [
   ⟨some 2, .mv (.c (.int .i64 0)), none⟩] [0])
 (.seq
  (.cnd (.c (.bool false))
   (.seq
    (.reg [
      ⟨some 3, .mv (.t 0), none⟩,
      ⟨some 4, .cvI .u32 (.t 3), none⟩,
      ⟨some 5, .call 227 [(.t 4)], none⟩,
      ⟨some 2, .mv (.t 5), none⟩] [2])
    .ret)
   .skip)
  (.seq
   (.reg [
     ⟨some 6, .mv (.t 0), none⟩,
     ⟨some 7, .call 228 [(.t 6)], none⟩,
     ⟨some 2, .mv (.t 7), none⟩] [2])
   .ret))),
[.tmp 2]⟩
theorem F210_ok : prepF Go.Proofs.Tryz.prog ⟨[], [(0, [0]), (1, [2]), (2, [2])], []⟩ Go.Proofs.Tryz.f210 = some F210 := by kernel_rfl
theorem F210_fn : FnOK2 Go.Proofs.Tryz.prog 210 (.pl F210) := .pl Go.Proofs.Tryz.func210 (by kernel_rfl) F210_ok
/-- internal/stringslite.HasPrefix -/
def F212 : DF := ⟨2,
(.seq
 (.reg [
   ⟨some 4, .mv (.c (.bool false)), none⟩] [0, 1])
 (.seq
  (.reg [
    ⟨some 5, .mv (.t 0), none⟩,
    ⟨some 6, .lenS (.t 5), none⟩,
    ⟨some 7, .mv (.t 1), none⟩,
    ⟨some 8, .lenS (.t 7), none⟩,
    ⟨some 9, .bin .geq none (.t 6) (.t 8), none⟩,
    ⟨some 10, .mv (.t 9), none⟩,
    ⟨some 11, .mv (.t 0), some (10, true)⟩,
    ⟨some 12, .mv (.t 1), some (10, true)⟩,
    ⟨some 13, .lenS (.t 12), some (10, true)⟩,
    ⟨some 14, .slS (.t 11) none (some (.t 13)), some (10, true)⟩,
    ⟨some 15, .mv (.t 1), some (10, true)⟩,
    ⟨some 16, .bin .eql (some .str) (.t 14) (.t 15), some (10, true)⟩,
    ⟨some 17, .pick (.t 10) (.t 16) (.c (.bool false)), none⟩,
    ⟨some 4, .mv (.t 17), none⟩] [4])
  .ret)),
[.tmp 4]⟩
theorem F212_ok : prepF Go.Proofs.Tryz.prog ⟨[], [(0, [0, 1]), (1, [4])], []⟩ Go.Proofs.Tryz.f212 = some F212 := by kernel_rfl
theorem F212_fn : FnOK2 Go.Proofs.Tryz.prog 212 (.pl F212) := .pl Go.Proofs.Tryz.func212 (by kernel_rfl) F212_ok
/-- internal/stringslite.TrimPrefix -/
def F213 : DF := ⟨2,
(.seq
 (.reg [
   ⟨some 4, .mv (.c (.str [])), none⟩] [0, 1])
 (.seq
  (.seq
   (.reg [
     ⟨some 5, .mv (.t 0), none⟩,
     ⟨some 6, .mv (.t 1), none⟩,
     ⟨some 7, .call 212 [(.t 5), (.t 6)], none⟩] [0, 1, 7])
   (.cnd (.t 7)
    (.seq
     (.reg [
       ⟨some 8, .mv (.t 0), none⟩,
       ⟨some 9, .mv (.t 1), none⟩,
       ⟨some 10, .lenS (.t 9), none⟩,
       ⟨some 11, .slS (.t 8) (some (.t 10)) none, none⟩,
       ⟨some 4, .mv (.t 11), none⟩] [4])
     .ret)
    .skip))
  (.seq
   (.reg [
     ⟨some 12, .mv (.t 0), none⟩,
     ⟨some 4, .mv (.t 12), none⟩] [4])
   .ret))),
[.tmp 4]⟩
theorem F213_ok : prepF Go.Proofs.Tryz.prog ⟨[], [(0, [0, 1]), (1, [0, 1, 7]), (2, [4]), (3, [4])], []⟩ Go.Proofs.Tryz.f213 = some F213 := by kernel_rfl
theorem F213_fn : FnOK2 Go.Proofs.Tryz.prog 213 (.pl F213) := .pl Go.Proofs.Tryz.func213 (by kernel_rfl) F213_ok
/-- internal/strconv.Atoi -/
def F214 : DF := ⟨1,
(.seq
 (.reg [
   ⟨some 2, .mv (.c (.int .i64 0)), none⟩,
   ⟨some 3, .mv (.c .nilif), none⟩] [0])
 (.seq
  (.reg [
    ⟨some 11, .mv (.t 0), none⟩,
    ⟨some 12, .lenS (.t 11), none⟩,
    ⟨some 4, .mv (.t 12), none⟩] [0, 4])
  (.seq
   (.seq
    (.reg [
      ⟨some 13, .mv (.c (.bool false)), none⟩,
      ⟨some 14, .mv (.t 4), some (13, true)⟩,
      ⟨some 15, .bin .lss none (.c (.int .i64 0)) (.t 14), some (13, true)⟩,
      ⟨some 16, .mv (.t 15), some (13, true)⟩,
      ⟨some 17, .mv (.t 4), some (16, true)⟩,
      ⟨some 18, .bin .lss none (.t 17) (.c (.int .i64 10)), some (16, true)⟩,
      ⟨some 19, .pick (.t 16) (.t 18) (.c (.bool false)), some (13, true)⟩,
      ⟨some 20, .pick (.t 13) (.t 19) (.c (.bool false)), none⟩,
      ⟨some 21, .mv (.t 20), none⟩,
      ⟨some 22, .mv (.c (.bool true)), some (21, false)⟩,
      ⟨some 23, .mv (.t 4), some (22, true)⟩,
      ⟨some 24, .bin .lss none (.c (.int .i64 0)) (.t 23), some (22, true)⟩,
      ⟨some 25, .mv (.t 24), some (22, true)⟩,
      ⟨some 26, .mv (.t 4), some (25, true)⟩,
      ⟨some 27, .bin .lss none (.t 26) (.c (.int .i64 19)), some (25, true)⟩,
      ⟨some 28, .pick (.t 25) (.t 27) (.c (.bool false)), some (22, true)⟩,
      ⟨some 29, .pick (.t 22) (.t 28) (.c (.bool false)), some (21, false)⟩,
      ⟨some 30, .pick (.t 21) (.c (.bool true)) (.t 29), none⟩] [0, 30])
    (.cnd (.t 30)
     (.seq
      (.reg [
        ⟨some 31, .mv (.t 0), none⟩,
        ⟨some 5, .mv (.t 31), none⟩] [0, 5])
      (.seq
       (.seq
        (.reg [
          ⟨some 32, .mv (.t 0), none⟩,
          ⟨some 33, .ixS (.t 32) (.c (.int .i64 0)), none⟩,
          ⟨some 34, .bin .eql (some .int) (.t 33) (.c (.int .u8 45)), none⟩,
          ⟨some 35, .mv (.t 34), none⟩,
          ⟨some 36, .mv (.t 0), some (35, false)⟩,
          ⟨some 37, .ixS (.t 36) (.c (.int .i64 0)), some (35, false)⟩,
          ⟨some 38, .bin .eql (some .int) (.t 37) (.c (.int .u8 43)), some (35, false)⟩,
          ⟨some 39, .pick (.t 35) (.c (.bool true)) (.t 38), none⟩] [0, 5, 39])
        (.cnd (.t 39)
         (.seq
          (.reg [
            ⟨some 40, .mv (.t 0), none⟩,
            ⟨some 41, .slS (.t 40) (some (.c (.int .i64 1))) none, none⟩,
            ⟨some 0, .mv (.t 41), none⟩] [0, 5])
          (.seq
           (.reg [
             ⟨some 42, .mv (.t 0), none⟩,
             ⟨some 43, .lenS (.t 42), none⟩,
             ⟨some 44, .bin .lss none (.t 43) (.c (.int .i64 1)), none⟩] [0, 5, 44])
           (.cnd (.t 44)
            (.seq
             (.reg [
               ⟨some 45, .mki 239 (.c (.int .i64 2)), none⟩,
               ⟨some 2, .mv (.c (.int .i64 0)), none⟩,
               ⟨some 3, .mv (.t 45), none⟩] [2, 3])
             .ret)
            .skip)))
         .skip))
       (.seq
        (.reg [
          ⟨some 6, .mv (.c (.int .i64 0)), none⟩] [0, 5, 6])
        (.seq
         (.seq
          (.reg [
            ⟨some 46, .mv (.t 0), none⟩,
            ⟨some 47, .cvSB 5 (.t 46), none⟩,
            ⟨some 48, .len (.t 47), none⟩,
            ⟨some 49, .mv (.c (.int .i64 0)), none⟩] [5, 6, 47, 48, 49])
          (.blk 0
           (.seq
            (.trim [5, 6, 47, 48, 49])
            (.lop
             (.seq
              (.seq
               (.reg [
                 ⟨some 50, .bin .lss none (.t 49) (.t 48), none⟩] [5, 6, 47, 48, 49, 50])
               (.seq
                (.cnd (.t 50)
                 .skip
                 (.exit 0))
                (.seq
                 (.blk 1
                  (.seq
                   (.reg [
                     ⟨some 51, .ia 1 (.t 47) (.t 49), none⟩,
                     ⟨some 52, .ld false 1 (.t 51), none⟩,
                     ⟨some 8, .mv (.t 52), none⟩] [5, 6, 8, 47, 48, 49])
                   (.seq
                    (.reg [
                      ⟨some 53, .mv (.t 8), none⟩,
                      ⟨some 54, .bin .sub none (.t 53) (.c (.int .u8 48)), none⟩,
                      ⟨some 8, .mv (.t 54), none⟩] [5, 6, 8, 47, 48, 49])
                    (.seq
                     (.seq
                      (.reg [
                        ⟨some 55, .mv (.t 8), none⟩,
                        ⟨some 56, .bin .gtr none (.t 55) (.c (.int .u8 9)), none⟩] [5, 6, 8, 47, 48, 49, 56])
                      (.cnd (.t 56)
                       (.seq
                        (.reg [
                          ⟨some 57, .mki 239 (.c (.int .i64 2)), none⟩,
                          ⟨some 2, .mv (.c (.int .i64 0)), none⟩,
                          ⟨some 3, .mv (.t 57), none⟩] [2, 3])
                        .ret)
                       .skip))
                     (.reg [
                       ⟨some 58, .mv (.t 6), none⟩,
                       ⟨some 59, .bin .mul none (.t 58) (.c (.int .i64 10)), none⟩,
                       ⟨some 60, .mv (.t 8), none⟩,
                       ⟨some 61, .cvI .i64 (.t 60), none⟩,
                       ⟨some 62, .bin .add none (.t 59) (.t 61), none⟩,
                       ⟨some 6, .mv (.t 62), none⟩] [5, 6, 47, 48, 49])))))
                 (.reg [
                   ⟨some 63, .bin .add none (.t 49) (.c (.int .i64 1)), none⟩,
                   ⟨some 49, .mv (.t 63), none⟩] [5, 6, 47, 48, 49]))))
              (.trim [5, 6, 47, 48, 49]))))))
         (.seq
          (.seq
           (.reg [
             ⟨some 64, .mv (.t 5), none⟩,
             ⟨some 65, .ixS (.t 64) (.c (.int .i64 0)), none⟩,
             ⟨some 66, .bin .eql (some .int) (.t 65) (.c (.int .u8 45)), none⟩] [6, 66])
           (.cnd (.t 66)
            (.reg [
              ⟨some 67, .mv (.t 6), none⟩,
              ⟨some 68, .un .neg (.t 67), none⟩,
              ⟨some 6, .mv (.t 68), none⟩] [6])
            .skip))
          (.seq
           (.reg [
             ⟨some 69, .mv (.t 6), none⟩,
             ⟨some 2, .mv (.t 69), none⟩,
             ⟨some 3, .mv (.c .nilif), none⟩] [2, 3])
           .ret))))))
     .skip))
   (.seq
    (.reg [
      ⟨some 71, .mv (.t 0), none⟩,
      ⟨some 72, .call 229 [(.t 71), (.c (.int .i64 10)), (.c (.int .i64 0))], none⟩,
      ⟨some 70, .mv (.t 72), none⟩,
      ⟨some 73, .ext (.t 70) 0, none⟩,
      ⟨some 74, .ext (.t 70) 1, none⟩,
      ⟨some 9, .mv (.t 73), none⟩,
      ⟨some 10, .mv (.t 74), none⟩] [9, 10])
    (.seq
     (.reg [
       ⟨some 75, .mv (.t 9), none⟩,
       ⟨some 76, .mv (.t 10), none⟩,
       ⟨some 2, .mv (.t 75), none⟩,
       ⟨some 3, .mv (.t 76), none⟩] [2, 3])
     .ret))))),
[.tmp 2, .tmp 3]⟩
theorem F214_ok : prepF Go.Proofs.Tryz.prog ⟨[], [(0, [0]), (1, [0, 4]), (2, [0, 30]), (3, [0, 5]), (4, [0, 5, 39]), (5, [0, 5]), (6, [0, 5, 44]), (7, [2, 3]), (8, [0, 5, 6]), (9, [5, 6, 47, 48, 49]), (10, [5, 6, 47, 48, 49, 50]), (11, [5, 6, 8, 47, 48, 49]), (12, [5, 6, 8, 47, 48, 49]), (13, [5, 6, 8, 47, 48, 49, 56]), (14, [2, 3]), (15, [5, 6, 47, 48, 49]), (16, [5, 6, 47, 48, 49]), (17, [6, 66]), (18, [6]), (19, [2, 3]), (20, [9, 10]), (21, [2, 3]), (1000000, [5, 6, 47, 48, 49])], []⟩ Go.Proofs.Tryz.f214 = some F214 := by kernel_rfl
theorem F214_fn : FnOK2 Go.Proofs.Tryz.prog 214 (.pl F214) := .pl Go.Proofs.Tryz.func214 (by kernel_rfl) F214_ok
/-- strconv.toError -/
def F215 : DF := ⟨5,
(.seq
 (.reg [
   ⟨some 10, .mv (.c .nilif), none⟩] [0, 1, 2, 3, 4])
 (.seq
  (.seq
   (.reg [
     ⟨some 11, .mv (.t 4), none⟩] [0, 1, 2, 3, 4, 11])
   (.blk 0
    (.seq
     (.reg [
       ⟨some 13, .mki 239 (.c (.int .i64 2)), none⟩,
       ⟨some 14, .bin .eql none (.t 11) (.t 13), none⟩,
       ⟨some 12, .mv (.t 14), none⟩] [0, 1, 2, 3, 4, 11, 12])
     (.cnd (.t 12)
      (.seq
       (.reg [
         ⟨some 15, .mv (.t 0), none⟩,
         ⟨some 16, .mv (.t 1), none⟩,
         ⟨some 17, .call 230 [(.t 15), (.t 16)], none⟩,
         ⟨some 18, .mki 242 (.t 17), none⟩,
         ⟨some 10, .mv (.t 18), none⟩] [10])
       .ret)
      (.seq
       (.reg [
         ⟨some 20, .mki 239 (.c (.int .i64 1)), none⟩,
         ⟨some 21, .bin .eql none (.t 11) (.t 20), none⟩,
         ⟨some 19, .mv (.t 21), none⟩] [0, 1, 2, 3, 4, 11, 19])
       (.cnd (.t 19)
        (.seq
         (.reg [
           ⟨some 22, .mv (.t 0), none⟩,
           ⟨some 23, .mv (.t 1), none⟩,
           ⟨some 24, .call 231 [(.t 22), (.t 23)], none⟩,
           ⟨some 25, .mki 242 (.t 24), none⟩,
           ⟨some 10, .mv (.t 25), none⟩] [10])
         .ret)
        (.seq
         (.reg [
           ⟨some 27, .mki 239 (.c (.int .i64 3)), none⟩,
           ⟨some 28, .bin .eql none (.t 11) (.t 27), none⟩,
           ⟨some 26, .mv (.t 28), none⟩] [0, 1, 2, 3, 4, 11, 26])
         (.cnd (.t 26)
          (.seq
           (.reg [
             ⟨some 29, .mv (.t 0), none⟩,
             ⟨some 30, .mv (.t 1), none⟩,
             ⟨some 31, .mv (.t 2), none⟩,
             ⟨some 32, .call 232 [(.t 29), (.t 30), (.t 31)], none⟩,
             ⟨some 33, .mki 242 (.t 32), none⟩,
             ⟨some 10, .mv (.t 33), none⟩] [10])
           .ret)
          (.seq
           (.reg [
             ⟨some 35, .mki 239 (.c (.int .i64 4)), none⟩,
             ⟨some 36, .bin .eql none (.t 11) (.t 35), none⟩,
             ⟨some 34, .mv (.t 36), none⟩] [0, 1, 3, 4, 34])
           (.cnd (.t 34)
            (.seq
             (.reg [
               ⟨some 37, .mv (.t 0), none⟩,
               ⟨some 38, .mv (.t 1), none⟩,
               ⟨some 39, .mv (.t 3), none⟩,
               ⟨some 40, .call 233 [(.t 37), (.t 38), (.t 39)], none⟩,
               ⟨some 41, .mki 242 (.t 40), none⟩,
               ⟨some 10, .mv (.t 41), none⟩] [10])
             .ret)
            .skip))))))))))
  (.seq
   (.reg [
     ⟨some 42, .mv (.t 4), none⟩,
     ⟨some 10, .mv (.t 42), none⟩] [10])
   .ret))),
[.tmp 10]⟩
theorem F215_ok : prepF Go.Proofs.Tryz.prog ⟨[], [(0, [0, 1, 2, 3, 4]), (1, [0, 1, 2, 3, 4, 11]), (2, [0, 1, 2, 3, 4, 11, 12]), (3, [10]), (4, [0, 1, 2, 3, 4, 11, 19]), (5, [10]), (6, [0, 1, 2, 3, 4, 11, 26]), (7, [10]), (8, [0, 1, 3, 4, 34]), (9, [10]), (10, [10])], []⟩ Go.Proofs.Tryz.f215 = some F215 := by kernel_rfl
theorem F215_fn : FnOK2 Go.Proofs.Tryz.prog 215 (.pl F215) := .pl Go.Proofs.Tryz.func215 (by kernel_rfl) F215_ok
/-- (*strings.asciiSet).contains -/
def F216 : DF := ⟨2,
(.seq
 (.reg [
   ⟨some 4, .mv (.c (.bool false)), none⟩] [0, 1])
 (.seq
  (.reg [
    ⟨some 5, .mv (.t 0), none⟩,
    ⟨some 6, .mv (.t 1), none⟩,
    ⟨some 7, .nilc (.t 5), none⟩,
    ⟨some 8, .iaA 1 256 (.t 7) (.t 6), none⟩,
    ⟨some 9, .ld false 1 (.t 8), none⟩,
    ⟨some 4, .mv (.t 9), none⟩] [4])
  .ret)),
[.tmp 4]⟩
theorem F216_ok : prepF Go.Proofs.Tryz.prog ⟨[], [(0, [0, 1]), (1, [4])], []⟩ Go.Proofs.Tryz.f216 = some F216 := by kernel_rfl
theorem F216_fn : FnOK2 Go.Proofs.Tryz.prog 216 (.pl F216) := .pl Go.Proofs.Tryz.func216 (by kernel_rfl) F216_ok
/-- unicode/utf8.DecodeRuneInString -/
def F217 : DF := ⟨1,
(.seq
 (.reg [
   ⟨some 2, .mv (.c (.int .i32 0)), none⟩,
   ⟨some 3, .mv (.c (.int .i64 0)), none⟩] [0])
 (.seq
  (.seq
   (.reg [
     ⟨some 4, .mv (.t 0), none⟩,
     ⟨some 5, .bin .neq (some .str) (.t 4) (.c (.str [])), none⟩,
     ⟨some 6, .mv (.t 5), none⟩,
     ⟨some 7, .mv (.t 0), some (6, true)⟩,
     ⟨some 8, .ixS (.t 7) (.c (.int .i64 0)), some (6, true)⟩,
     ⟨some 9, .bin .lss none (.t 8) (.c (.int .u8 128)), some (6, true)⟩,
     ⟨some 10, .pick (.t 6) (.t 9) (.c (.bool false)), none⟩] [0, 10])
   (.cnd (.t 10)
    (.seq
     (.reg [
       ⟨some 11, .mv (.t 0), none⟩,
       ⟨some 12, .ixS (.t 11) (.c (.int .i64 0)), none⟩,
       ⟨some 13, .cvI .i32 (.t 12), none⟩,
       ⟨some 2, .mv (.t 13), none⟩,
       ⟨some 3, .mv (.c (.int .i64 1)), none⟩] [2, 3])
     .ret)
    (.reg [
      ⟨some 15, .mv (.t 0), none⟩,
      ⟨some 16, .call 234 [(.t 15)], none⟩,
      ⟨some 14, .mv (.t 16), none⟩,
      ⟨some 17, .ext (.t 14) 0, none⟩,
      ⟨some 18, .ext (.t 14) 1, none⟩,
      ⟨some 2, .mv (.t 17), none⟩,
      ⟨some 3, .mv (.t 18), none⟩] [2, 3])))
  .ret)),
[.tmp 2, .tmp 3]⟩
theorem F217_ok : prepF Go.Proofs.Tryz.prog ⟨[], [(0, [0]), (1, [0, 10]), (2, [2, 3]), (3, [2, 3])], []⟩ Go.Proofs.Tryz.f217 = some F217 := by kernel_rfl
theorem F217_fn : FnOK2 Go.Proofs.Tryz.prog 217 (.pl F217) := .pl Go.Proofs.Tryz.func217 (by kernel_rfl) F217_ok
/-- strings.ContainsRune -/
def F218 : DF := ⟨2,
(.seq
 (.reg [
   ⟨some 4, .mv (.c (.bool false)), none⟩] [0, 1])
 (.seq
  (.reg [
    ⟨some 5, .mv (.t 0), none⟩,
    ⟨some 6, .mv (.t 1), none⟩,
    ⟨some 7, .call 235 [(.t 5), (.t 6)], none⟩,
    ⟨some 8, .bin .geq none (.t 7) (.c (.int .i64 0)), none⟩,
    ⟨some 4, .mv (.t 8), none⟩] [4])
  .ret)),
[.tmp 4]⟩
theorem F218_ok : prepF Go.Proofs.Tryz.prog ⟨[], [(0, [0, 1]), (1, [4])], []⟩ Go.Proofs.Tryz.f218 = some F218 := by kernel_rfl
theorem F218_fn : FnOK2 Go.Proofs.Tryz.prog 218 (.pl F218) := .pl Go.Proofs.Tryz.func218 (by kernel_rfl) F218_ok
/-- unicode/utf8.DecodeLastRuneInString -/
def F219 : DF := ⟨1,
(.seq
 (.reg [
   ⟨some 2, .mv (.c (.int .i32 0)), none⟩,
   ⟨some 3, .mv (.c (.int .i64 0)), none⟩] [0])
 (.seq
  (.reg [
    ⟨some 7, .mv (.t 0), none⟩,
    ⟨some 8, .lenS (.t 7), none⟩,
    ⟨some 4, .mv (.t 8), none⟩] [0, 4])
  (.seq
   (.seq
    (.reg [
      ⟨some 9, .mv (.t 4), none⟩,
      ⟨some 10, .bin .eql (some .int) (.t 9) (.c (.int .i64 0)), none⟩] [0, 4, 10])
    (.cnd (.t 10)
     (.seq
      (.reg [
        ⟨some 2, .mv (.c (.int .i32 65533)), none⟩,
        ⟨some 3, .mv (.c (.int .i64 0)), none⟩] [2, 3])
      .ret)
     .skip))
   (.seq
    (.reg [
      ⟨some 11, .mv (.t 4), none⟩,
      ⟨some 12, .bin .sub none (.t 11) (.c (.int .i64 1)), none⟩,
      ⟨some 5, .mv (.t 12), none⟩] [0, 4, 5])
    (.seq
     (.reg [
       ⟨some 13, .mv (.t 0), none⟩,
       ⟨some 14, .mv (.t 5), none⟩,
       ⟨some 15, .ixS (.t 13) (.t 14), none⟩,
       ⟨some 16, .cvI .i32 (.t 15), none⟩,
       ⟨some 2, .mv (.t 16), none⟩] [0, 2, 4, 5])
     (.seq
      (.seq
       (.reg [
         ⟨some 17, .mv (.t 2), none⟩,
         ⟨some 18, .bin .lss none (.t 17) (.c (.int .i32 128)), none⟩] [0, 2, 4, 5, 18])
       (.cnd (.t 18)
        (.seq
         (.reg [
           ⟨some 19, .mv (.t 2), none⟩,
           ⟨some 2, .mv (.t 19), none⟩,
           ⟨some 3, .mv (.c (.int .i64 1)), none⟩] [2, 3])
         .ret)
        .skip))
      (.seq
       (.reg [
         ⟨some 20, .mv (.t 4), none⟩,
         ⟨some 21, .bin .sub none (.t 20) (.c (.int .i64 4)), none⟩,
         ⟨some 22, .mx [(.t 21), (.c (.int .i64 0))], none⟩,
         ⟨some 6, .mv (.t 22), none⟩] [0, 4, 5, 6])
       (.seq
        (.seq
         (.reg [
           ⟨some 23, .mv (.t 5), none⟩,
           ⟨some 24, .bin .sub none (.t 23) (.c (.int .i64 1)), none⟩,
           ⟨some 5, .mv (.t 24), none⟩] [0, 4, 5, 6])
         (.blk 0
          (.seq
           (.trim [0, 4, 5, 6])
           (.lop
            (.seq
             (.seq
              (.seq
               (.reg [
                 ⟨some 25, .mv (.t 5), none⟩,
                 ⟨some 26, .mv (.t 6), none⟩,
                 ⟨some 27, .bin .geq none (.t 25) (.t 26), none⟩] [0, 4, 5, 6, 27])
               (.cnd (.t 27)
                .skip
                (.exit 0)))
              (.seq
               (.blk 1
                (.seq
                 (.reg [
                   ⟨some 30, .mv (.t 0), none⟩,
                   ⟨some 31, .mv (.t 5), none⟩,
                   ⟨some 32, .ixS (.t 30) (.t 31), none⟩,
                   ⟨some 33, .call 236 [(.t 32)], none⟩] [0, 4, 5, 6, 33])
                 (.cnd (.t 33)
                  (.exit 0)
                  .skip)))
               (.reg [
                 ⟨some 28, .mv (.t 5), none⟩,
                 ⟨some 29, .bin .sub none (.t 28) (.c (.int .i64 1)), none⟩,
                 ⟨some 5, .mv (.t 29), none⟩] [0, 4, 5, 6])))
             (.trim [0, 4, 5, 6]))))))
        (.seq
         (.seq
          (.reg [
            ⟨some 34, .mv (.t 5), none⟩,
            ⟨some 35, .bin .lss none (.t 34) (.c (.int .i64 0)), none⟩] [0, 4, 5, 35])
          (.cnd (.t 35)
           (.reg [
             ⟨some 5, .mv (.c (.int .i64 0)), none⟩] [0, 4, 5])
           .skip))
         (.seq
          (.reg [
            ⟨some 37, .mv (.t 0), none⟩,
            ⟨some 38, .mv (.t 5), none⟩,
            ⟨some 39, .mv (.t 4), none⟩,
            ⟨some 40, .slS (.t 37) (some (.t 38)) (some (.t 39)), none⟩,
            ⟨some 41, .call 217 [(.t 40)], none⟩,
            ⟨some 36, .mv (.t 41), none⟩,
            ⟨some 42, .ext (.t 36) 0, none⟩,
            ⟨some 43, .ext (.t 36) 1, none⟩,
            ⟨some 2, .mv (.t 42), none⟩,
            ⟨some 3, .mv (.t 43), none⟩] [2, 3, 4, 5])
          (.seq
           (.seq
            (.reg [
              ⟨some 44, .mv (.t 5), none⟩,
              ⟨some 45, .mv (.t 3), none⟩,
              ⟨some 46, .bin .add none (.t 44) (.t 45), none⟩,
              ⟨some 47, .mv (.t 4), none⟩,
              ⟨some 48, .bin .neq (some .int) (.t 46) (.t 47), none⟩] [2, 3, 48])
            (.cnd (.t 48)
             (.seq
              (.reg [
                ⟨some 2, .mv (.c (.int .i32 65533)), none⟩,
                ⟨some 3, .mv (.c (.int .i64 1)), none⟩] [2, 3])
              .ret)
             .skip))
           (.seq
            (.reg [
              ⟨some 49, .mv (.t 2), none⟩,
              ⟨some 50, .mv (.t 3), none⟩,
              ⟨some 2, .mv (.t 49), none⟩,
              ⟨some 3, .mv (.t 50), none⟩] [2, 3])
            .ret)))))))))))),
[.tmp 2, .tmp 3]⟩
theorem F219_ok : prepF Go.Proofs.Tryz.prog ⟨[], [(0, [0]), (1, [0, 4]), (2, [0, 4, 10]), (3, [2, 3]), (4, [0, 4, 5]), (5, [0, 2, 4, 5]), (6, [0, 2, 4, 5, 18]), (7, [2, 3]), (8, [0, 4, 5, 6]), (9, [0, 4, 5, 6]), (10, [0, 4, 5, 6, 27]), (11, [0, 4, 5, 6]), (12, [0, 4, 5, 6, 33]), (13, [0, 4, 5, 35]), (14, [0, 4, 5]), (15, [2, 3, 4, 5]), (16, [2, 3, 48]), (17, [2, 3]), (18, [2, 3]), (1000000, [0, 4, 5, 6])], []⟩ Go.Proofs.Tryz.f219 = some F219 := by kernel_rfl
theorem F219_fn : FnOK2 Go.Proofs.Tryz.prog 219 (.pl F219) := .pl Go.Proofs.Tryz.func219 (by kernel_rfl) F219_ok
/-- internal/stringslite.IndexByte -/
def F220 : DF := ⟨2,
(.seq
 (.reg [
   ⟨some 4, .mv (.c (.int .i64 0)), none⟩] [0, 1])
 (.seq
  (.reg [
    ⟨some 5, .mv (.t 0), none⟩,
    ⟨some 6, .mv (.t 1), none⟩,
    ⟨some 7, .xtn .indexByte [(.t 5), (.t 6)], none⟩,
    ⟨some 4, .mv (.t 7), none⟩] [4])
  .ret)),
[.tmp 4]⟩
theorem F220_ok : prepF Go.Proofs.Tryz.prog ⟨[], [(0, [0, 1]), (1, [4])], []⟩ Go.Proofs.Tryz.f220 = some F220 := by kernel_rfl
theorem F220_fn : FnOK2 Go.Proofs.Tryz.prog 220 (.pl F220) := .pl Go.Proofs.Tryz.func220 (by kernel_rfl) F220_ok
/-- internal/bytealg.Cutover -/
def F222 : DF := ⟨1,
(.seq
 (.reg [
   ⟨some 2, .mv (.c (.int .i64 0)), none⟩] [0])
 (.seq
  (.reg [
    ⟨some 3, .mv (.t 0), none⟩,
    ⟨some 4, .bin .add none (.t 3) (.c (.int .i64 16)), none⟩,
    ⟨some 5, .bin .quo none (.t 4) (.c (.int .i64 8)), none⟩,
    ⟨some 2, .mv (.t 5), none⟩] [2])
  .ret)),
[.tmp 2]⟩
theorem F222_ok : prepF Go.Proofs.Tryz.prog ⟨[], [(0, [0]), (1, [2])], []⟩ Go.Proofs.Tryz.f222 = some F222 := by kernel_rfl
theorem F222_fn : FnOK2 Go.Proofs.Tryz.prog 222 (.pl F222) := .pl Go.Proofs.Tryz.func222 (by kernel_rfl) F222_ok
/-- internal/bytealg.IndexRabinKarp[string] -/
def F223 : DF := ⟨2,
(.seq
 (.reg [
   ⟨some 4, .mv (.c (.int .i64 0)), none⟩] [0, 1])
 (.seq
  (.reg [
    ⟨some 12, .mv (.t 1), none⟩,
    ⟨some 13, .call 238 [(.t 12)], none⟩,
    ⟨some 11, .mv (.t 13), none⟩,
    ⟨some 14, .ext (.t 11) 0, none⟩,
    ⟨some 15, .ext (.t 11) 1, none⟩,
    ⟨some 5, .mv (.t 14), none⟩,
    ⟨some 6, .mv (.t 15), none⟩] [0, 1, 5, 6])
  (.seq
   (.reg [
     ⟨some 16, .mv (.t 1), none⟩,
     ⟨some 17, .lenS (.t 16), none⟩,
     ⟨some 7, .mv (.t 17), none⟩] [0, 1, 5, 6, 7])
   (.seq
    (.reg [
      ⟨some 8, .mv (.c (.int .u32 0)), none⟩] [0, 1, 5, 6, 7, 8])
    (.seq
     (.seq
      (.reg [
        ⟨some 9, .mv (.c (.int .i64 0)), none⟩] [0, 1, 5, 6, 7, 8, 9])
      (.blk 0
       (.seq
        (.trim [0, 1, 5, 6, 7, 8, 9])
        (.lop
         (.seq
          (.seq
           (.seq
            (.reg [
              ⟨some 18, .mv (.t 9), none⟩,
              ⟨some 19, .mv (.t 7), none⟩,
              ⟨some 20, .bin .lss none (.t 18) (.t 19), none⟩] [0, 1, 5, 6, 7, 8, 9, 20])
            (.cnd (.t 20)
             .skip
             (.exit 0)))
           (.seq
            (.blk 1
             (.reg [
               ⟨some 23, .mv (.t 8), none⟩,
               ⟨some 24, .bin .mul none (.t 23) (.c (.int .u32 16777619)), none⟩,
               ⟨some 25, .mv (.t 0), none⟩,
               ⟨some 26, .mv (.t 9), none⟩,
               ⟨some 27, .ixS (.t 25) (.t 26), none⟩,
               ⟨some 28, .cvI .u32 (.t 27), none⟩,
               ⟨some 29, .bin .add none (.t 24) (.t 28), none⟩,
               ⟨some 8, .mv (.t 29), none⟩] [0, 1, 5, 6, 7, 8, 9]))
            (.reg [
              ⟨some 21, .mv (.t 9), none⟩,
              ⟨some 22, .bin .add none (.t 21) (.c (.int .i64 1)), none⟩,
              ⟨some 9, .mv (.t 22), none⟩] [0, 1, 5, 6, 7, 8, 9])))
          (.trim [0, 1, 5, 6, 7, 8, 9]))))))
     (.seq
      (.seq
       (.reg [
         ⟨some 30, .mv (.t 8), none⟩,
         ⟨some 31, .mv (.t 5), none⟩,
         ⟨some 32, .bin .eql (some .int) (.t 30) (.t 31), none⟩,
         ⟨some 33, .mv (.t 32), none⟩,
         ⟨some 34, .mv (.t 0), some (33, true)⟩,
         ⟨some 35, .mv (.t 7), some (33, true)⟩,
         ⟨some 36, .slS (.t 34) none (some (.t 35)), some (33, true)⟩,
         ⟨some 37, .mv (.t 1), some (33, true)⟩,
         ⟨some 38, .bin .eql (some .str) (.t 36) (.t 37), some (33, true)⟩,
         ⟨some 39, .pick (.t 33) (.t 38) (.c (.bool false)), none⟩] [0, 1, 5, 6, 7, 8, 39])
       (.cnd (.t 39)
        (.seq
         (.reg [
           ⟨some 4, .mv (.c (.int .i64 0)), none⟩] [4])
         .ret)
        .skip))
      (.seq
       (.seq
        (.reg [
          ⟨some 40, .mv (.t 7), none⟩,
          ⟨some 10, .mv (.t 40), none⟩] [0, 1, 5, 6, 7, 8, 10])
        (.blk 2
         (.seq
          (.trim [0, 1, 5, 6, 7, 8, 10])
          (.lop
           (.seq
            (.seq
             (.seq
              (.reg [
                ⟨some 41, .mv (.t 10), none⟩,
                ⟨some 42, .mv (.t 0), none⟩,
                ⟨some 43, .lenS (.t 42), none⟩,
                ⟨some 44, .bin .lss none (.t 41) (.t 43), none⟩] [0, 1, 5, 6, 7, 8, 10, 44])
              (.cnd (.t 44)
               .skip
               (.exit 2)))
             (.blk 3
              (.seq
               (.reg [
                 ⟨some 45, .mv (.t 8), none⟩,
                 ⟨some 46, .bin .mul none (.t 45) (.c (.int .u32 16777619)), none⟩,
                 ⟨some 8, .mv (.t 46), none⟩] [0, 1, 5, 6, 7, 8, 10])
               (.seq
                (.reg [
                  ⟨some 47, .mv (.t 8), none⟩,
                  ⟨some 48, .mv (.t 0), none⟩,
                  ⟨some 49, .mv (.t 10), none⟩,
                  ⟨some 50, .ixS (.t 48) (.t 49), none⟩,
                  ⟨some 51, .cvI .u32 (.t 50), none⟩,
                  ⟨some 52, .bin .add none (.t 47) (.t 51), none⟩,
                  ⟨some 8, .mv (.t 52), none⟩] [0, 1, 5, 6, 7, 8, 10])
                (.seq
                 (.reg [
                   ⟨some 53, .mv (.t 8), none⟩,
                   ⟨some 54, .mv (.t 6), none⟩,
                   ⟨some 55, .mv (.t 0), none⟩,
                   ⟨some 56, .mv (.t 10), none⟩,
                   ⟨some 57, .mv (.t 7), none⟩,
                   ⟨some 58, .bin .sub none (.t 56) (.t 57), none⟩,
                   ⟨some 59, .ixS (.t 55) (.t 58), none⟩,
                   ⟨some 60, .cvI .u32 (.t 59), none⟩,
                   ⟨some 61, .bin .mul none (.t 54) (.t 60), none⟩,
                   ⟨some 62, .bin .sub none (.t 53) (.t 61), none⟩,
                   ⟨some 8, .mv (.t 62), none⟩] [0, 1, 5, 6, 7, 8, 10])
                 (.seq
                  (.reg [
                    ⟨some 63, .mv (.t 10), none⟩,
                    ⟨some 64, .bin .add none (.t 63) (.c (.int .i64 1)), none⟩,
                    ⟨some 10, .mv (.t 64), none⟩] [0, 1, 5, 6, 7, 8, 10])
                  (.seq
                   (.reg [
                     ⟨some 65, .mv (.t 8), none⟩,
                     ⟨some 66, .mv (.t 5), none⟩,
                     ⟨some 67, .bin .eql (some .int) (.t 65) (.t 66), none⟩,
                     ⟨some 68, .mv (.t 67), none⟩,
                     ⟨some 69, .mv (.t 0), some (68, true)⟩,
                     ⟨some 70, .mv (.t 10), some (68, true)⟩,
                     ⟨some 71, .mv (.t 7), some (68, true)⟩,
                     ⟨some 72, .bin .sub none (.t 70) (.t 71), some (68, true)⟩,
                     ⟨some 73, .mv (.t 10), some (68, true)⟩,
                     ⟨some 74, .slS (.t 69) (some (.t 72)) (some (.t 73)), some (68, true)⟩,
                     ⟨some 75, .mv (.t 1), some (68, true)⟩,
                     ⟨some 76, .bin .eql (some .str) (.t 74) (.t 75), some (68, true)⟩,
                     ⟨some 77, .pick (.t 68) (.t 76) (.c (.bool false)), none⟩] [0, 1, 5, 6, 7, 8, 10, 77])
                   (.cnd (.t 77)
                    (.seq
                     (.reg [
                       ⟨some 78, .mv (.t 10), none⟩,
                       ⟨some 79, .mv (.t 7), none⟩,
                       ⟨some 80, .bin .sub none (.t 78) (.t 79), none⟩,
                       ⟨some 4, .mv (.t 80), none⟩] [4])
                     .ret)
                    .skip))))))))
            (.trim [0, 1, 5, 6, 7, 8, 10]))))))
       (.seq
        (.reg [
          ⟨some 4, .mv (.c (.int .i64 (-1))), none⟩] [4])
        .ret)))))))),
[.tmp 4]⟩
theorem F223_ok : prepF Go.Proofs.Tryz.prog ⟨[], [(0, [0, 1]), (1, [0, 1, 5, 6]), (2, [0, 1, 5, 6, 7]), (3, [0, 1, 5, 6, 7, 8]), (4, [0, 1, 5, 6, 7, 8, 9]), (5, [0, 1, 5, 6, 7, 8, 9, 20]), (6, [0, 1, 5, 6, 7, 8, 9]), (7, [0, 1, 5, 6, 7, 8, 9]), (8, [0, 1, 5, 6, 7, 8, 39]), (9, [4]), (10, [0, 1, 5, 6, 7, 8, 10]), (11, [0, 1, 5, 6, 7, 8, 10, 44]), (12, [0, 1, 5, 6, 7, 8, 10]), (13, [0, 1, 5, 6, 7, 8, 10]), (14, [0, 1, 5, 6, 7, 8, 10]), (15, [0, 1, 5, 6, 7, 8, 10]), (16, [0, 1, 5, 6, 7, 8, 10, 77]), (17, [4]), (18, [4]), (1000000, [0, 1, 5, 6, 7, 8, 9]), (1000002, [0, 1, 5, 6, 7, 8, 10])], []⟩ Go.Proofs.Tryz.f223 = some F223 := by kernel_rfl
theorem F223_fn : FnOK2 Go.Proofs.Tryz.prog 223 (.pl F223) := .pl Go.Proofs.Tryz.func223 (by kernel_rfl) F223_ok
/-- slices.rotateCmpFunc[int] -/
def F224 : DF := ⟨5,
(.seq
 (.reg [
   ⟨some 12, .mv (.t 2), none⟩,
   ⟨some 13, .mv (.t 1), none⟩,
   ⟨some 14, .bin .sub none (.t 12) (.t 13), none⟩,
   ⟨some 10, .mv (.t 14), none⟩] [0, 2, 3, 4, 10])
 (.seq
  (.reg [
    ⟨some 15, .mv (.t 3), none⟩,
    ⟨some 16, .mv (.t 2), none⟩,
    ⟨some 17, .bin .sub none (.t 15) (.t 16), none⟩,
    ⟨some 11, .mv (.t 17), none⟩] [0, 2, 4, 10, 11])
  (.seq
   (.blk 0
    (.seq
     (.trim [0, 2, 4, 10, 11])
     (.lop
      (.seq
       (.seq
        (.seq
         (.reg [
           ⟨some 18, .mv (.t 10), none⟩,
           ⟨some 19, .mv (.t 11), none⟩,
           ⟨some 20, .bin .neq (some .int) (.t 18) (.t 19), none⟩] [0, 2, 4, 10, 11, 20])
         (.cnd (.t 20)
          .skip
          (.exit 0)))
        (.blk 1
         (.seq
          (.reg [
            ⟨some 21, .mv (.t 10), none⟩,
            ⟨some 22, .mv (.t 11), none⟩,
            ⟨some 23, .bin .gtr none (.t 21) (.t 22), none⟩] [0, 2, 4, 10, 11, 23])
          (.cnd (.t 23)
           (.seq
            (.reg [
              ⟨some 24, .mv (.t 0), none⟩,
              ⟨some 25, .mv (.t 2), none⟩,
              ⟨some 26, .mv (.t 10), none⟩,
              ⟨some 27, .bin .sub none (.t 25) (.t 26), none⟩,
              ⟨some 28, .mv (.t 2), none⟩,
              ⟨some 29, .mv (.t 11), none⟩,
              ⟨some 30, .mv (.t 4), none⟩,
              ⟨some 31, .call 239 [(.t 24), (.t 27), (.t 28), (.t 29), (.t 30)], none⟩] [0, 2, 4, 10, 11])
            (.reg [
              ⟨some 32, .mv (.t 10), none⟩,
              ⟨some 33, .mv (.t 11), none⟩,
              ⟨some 34, .bin .sub none (.t 32) (.t 33), none⟩,
              ⟨some 10, .mv (.t 34), none⟩] [0, 2, 4, 10, 11]))
           (.seq
            (.reg [
              ⟨some 35, .mv (.t 0), none⟩,
              ⟨some 36, .mv (.t 2), none⟩,
              ⟨some 37, .mv (.t 10), none⟩,
              ⟨some 38, .bin .sub none (.t 36) (.t 37), none⟩,
              ⟨some 39, .mv (.t 2), none⟩,
              ⟨some 40, .mv (.t 11), none⟩,
              ⟨some 41, .bin .add none (.t 39) (.t 40), none⟩,
              ⟨some 42, .mv (.t 10), none⟩,
              ⟨some 43, .bin .sub none (.t 41) (.t 42), none⟩,
              ⟨some 44, .mv (.t 10), none⟩,
              ⟨some 45, .mv (.t 4), none⟩,
              ⟨some 46, .call 239 [(.t 35), (.t 38), (.t 43), (.t 44), (.t 45)], none⟩] [0, 2, 4, 10, 11])
            (.reg [
              ⟨some 47, .mv (.t 11), none⟩,
              ⟨some 48, .mv (.t 10), none⟩,
              ⟨some 49, .bin .sub none (.t 47) (.t 48), none⟩,
              ⟨some 11, .mv (.t 49), none⟩] [0, 2, 4, 10, 11]))))))
       (.trim [0, 2, 4, 10, 11])))))
   (.reg [
     ⟨some 50, .mv (.t 0), none⟩,
     ⟨some 51, .mv (.t 2), none⟩,
     ⟨some 52, .mv (.t 10), none⟩,
     ⟨some 53, .bin .sub none (.t 51) (.t 52), none⟩,
     ⟨some 54, .mv (.t 2), none⟩,
     ⟨some 55, .mv (.t 10), none⟩,
     ⟨some 56, .mv (.t 4), none⟩,
     ⟨some 57, .call 239 [(.t 50), (.t 53), (.t 54), (.t 55), (.t 56)], none⟩] [])))),
[]⟩
theorem F224_ok : prepF Go.Proofs.Tryz.prog ⟨[], [(0, [0, 2, 3, 4, 10]), (1, [0, 2, 4, 10, 11]), (2, [0, 2, 4, 10, 11, 20]), (3, [0, 2, 4, 10, 11, 23]), (4, [0, 2, 4, 10, 11]), (5, [0, 2, 4, 10, 11]), (6, [0, 2, 4, 10, 11]), (7, [0, 2, 4, 10, 11]), (8, []), (1000000, [0, 2, 4, 10, 11])], []⟩ Go.Proofs.Tryz.f224 = some F224 := by kernel_rfl
theorem F224_fn : FnOK2 Go.Proofs.Tryz.prog 224 (.pl F224) := .pl Go.Proofs.Tryz.func224 (by kernel_rfl) F224_ok
/-- emend/text.value -/
def F225 : DF := ⟨1,
(.seq
 (.reg [
   ⟨some 2, .mv (.c (.int .i64 0)), none⟩] [0])
 (.seq
  (.blk 0
   (.seq
    (.reg [
      ⟨some 4, .mv (.t 0), none⟩,
      ⟨some 5, .bin .geq none (.t 4) (.c (.int .u8 48)), none⟩,
      ⟨some 6, .mv (.t 5), none⟩,
      ⟨some 7, .mv (.t 0), some (6, true)⟩,
      ⟨some 8, .bin .leq none (.t 7) (.c (.int .u8 57)), some (6, true)⟩,
      ⟨some 9, .pick (.t 6) (.t 8) (.c (.bool false)), none⟩,
      ⟨some 3, .mv (.t 9), none⟩] [0, 3])
    (.cnd (.t 3)
     (.seq
      (.reg [
        ⟨some 10, .mv (.t 0), none⟩,
        ⟨some 11, .bin .sub none (.t 10) (.c (.int .u8 48)), none⟩,
        ⟨some 12, .cvI .i64 (.t 11), none⟩,
        ⟨some 2, .mv (.t 12), none⟩] [2])
      .ret)
     (.seq
      (.reg [
        ⟨some 14, .mv (.t 0), none⟩,
        ⟨some 15, .bin .geq none (.t 14) (.c (.int .u8 97)), none⟩,
        ⟨some 16, .mv (.t 15), none⟩,
        ⟨some 17, .mv (.t 0), some (16, true)⟩,
        ⟨some 18, .bin .leq none (.t 17) (.c (.int .u8 102)), some (16, true)⟩,
        ⟨some 19, .pick (.t 16) (.t 18) (.c (.bool false)), none⟩,
        ⟨some 13, .mv (.t 19), none⟩] [0, 13])
      (.cnd (.t 13)
       (.seq
        (.reg [
          ⟨some 20, .mv (.t 0), none⟩,
          ⟨some 21, .bin .sub none (.t 20) (.c (.int .u8 97)), none⟩,
          ⟨some 22, .cvI .i64 (.t 21), none⟩,
          ⟨some 23, .bin .add none (.t 22) (.c (.int .i64 10)), none⟩,
          ⟨some 2, .mv (.t 23), none⟩] [2])
        .ret)
       (.seq
        (.reg [
          ⟨some 25, .mv (.t 0), none⟩,
          ⟨some 26, .bin .geq none (.t 25) (.c (.int .u8 65)), none⟩,
          ⟨some 27, .mv (.t 26), none⟩,
          ⟨some 28, .mv (.t 0), some (27, true)⟩,
          ⟨some 29, .bin .leq none (.t 28) (.c (.int .u8 70)), some (27, true)⟩,
          ⟨some 30, .pick (.t 27) (.t 29) (.c (.bool false)), none⟩,
          ⟨some 24, .mv (.t 30), none⟩] [0, 24])
        (.cnd (.t 24)
         (.seq
          (.reg [
            ⟨some 31, .mv (.t 0), none⟩,
            ⟨some 32, .bin .sub none (.t 31) (.c (.int .u8 65)), none⟩,
            ⟨some 33, .cvI .i64 (.t 32), none⟩,
            ⟨some 34, .bin .add none (.t 33) (.c (.int .i64 10)), none⟩,
            ⟨some 2, .mv (.t 34), none⟩] [2])
          .ret)
         .skip)))))))
  (.seq
   (.reg [
     ⟨some 2, .mv (.c (.int .i64 (-1))), none⟩] [2])
   .ret))),
[.tmp 2]⟩
theorem F225_ok : prepF Go.Proofs.Tryz.prog ⟨[], [(0, [0]), (1, [0, 3]), (2, [2]), (3, [0, 13]), (4, [2]), (5, [0, 24]), (6, [2]), (7, [2])], []⟩ Go.Proofs.Tryz.f225 = some F225 := by kernel_rfl
theorem F225_fn : FnOK2 Go.Proofs.Tryz.prog 225 (.pl F225) := .pl Go.Proofs.Tryz.func225 (by kernel_rfl) F225_ok
/-- math/bits.TrailingZeros32 -/
def F227 : DF := ⟨1,
(.seq
 (.reg [
   ⟨some 2, .mv (.c (.int .i64 0)), none⟩] [0])
 (.seq
  (.seq
   (.reg [
     ⟨some 3, .mv (.t 0), none⟩,
     ⟨some 4, .bin .eql (some .int) (.t 3) (.c (.int .u32 0)), none⟩] [0, 4])
   (.cnd (.t 4)
    (.seq
     (.reg [
       ⟨some 2, .mv (.c (.int .i64 32)), none⟩] [2])
     .ret)
    .skip))
  (.seq
   (.reg [
     ⟨some 5, .mv (.t 0), none⟩,
     ⟨some 6, .mv (.t 0), none⟩,
     ⟨some 7, .un .neg (.t 6), none⟩,
     ⟨some 8, .bin .and none (.t 5) (.t 7), none⟩,
     ⟨some 9, .bin .mul none (.t 8) (.c (.int .u32 125613361)), none⟩,
     ⟨some 10, .bin .shr none (.t 9) (.c (.int .u64 27)), none⟩,
     ⟨some 11, .iaA 1 32 (.g 3) (.t 10), none⟩,
     ⟨some 12, .ld false 1 (.t 11), none⟩,
     ⟨some 13, .cvI .i64 (.t 12), none⟩,
     ⟨some 2, .mv (.t 13), none⟩] [2])
   .ret))),
[.tmp 2]⟩
theorem F227_ok : prepF Go.Proofs.Tryz.prog ⟨[], [(0, [0]), (1, [0, 4]), (2, [2]), (3, [2])], []⟩ Go.Proofs.Tryz.f227 = some F227 := by kernel_rfl
theorem F227_fn : FnOK2 Go.Proofs.Tryz.prog 227 (.pl F227) := .pl Go.Proofs.Tryz.func227 (by kernel_rfl) F227_ok
/-- math/bits.TrailingZeros64 -/
def F228 : DF := ⟨1,
(.seq
 (.reg [
   ⟨some 2, .mv (.c (.int .i64 0)), none⟩] [0])
 (.seq
  (.seq
   (.reg [
     ⟨some 3, .mv (.t 0), none⟩,
     ⟨some 4, .bin .eql (some .int) (.t 3) (.c (.int .u64 0)), none⟩] [0, 4])
   (.cnd (.t 4)
    (.seq
     (.reg [
       ⟨some 2, .mv (.c (.int .i64 64)), none⟩] [2])
     .ret)
    .skip))
  (.seq
   (.reg [
     ⟨some 5, .mv (.t 0), none⟩,
     ⟨some 6, .mv (.t 0), none⟩,
     ⟨some 7, .un .neg (.t 6), none⟩,
     ⟨some 8, .bin .and none (.t 5) (.t 7), none⟩,
     ⟨some 9, .bin .mul none (.t 8) (.c (.int .u64 285870213051353865)), none⟩,
     ⟨some 10, .bin .shr none (.t 9) (.c (.int .u64 58)), none⟩,
     ⟨some 11, .iaA 1 64 (.g 4) (.t 10), none⟩,
     ⟨some 12, .ld false 1 (.t 11), none⟩,
     ⟨some 13, .cvI .i64 (.t 12), none⟩,
     ⟨some 2, .mv (.t 13), none⟩] [2])
   .ret))),
[.tmp 2]⟩
theorem F228_ok : prepF Go.Proofs.Tryz.prog ⟨[], [(0, [0]), (1, [0, 4]), (2, [2]), (3, [2])], []⟩ Go.Proofs.Tryz.f228 = some F228 := by kernel_rfl
theorem F228_fn : FnOK2 Go.Proofs.Tryz.prog 228 (.pl F228) := .pl Go.Proofs.Tryz.func228 (by kernel_rfl) F228_ok
/-- internal/strconv.ParseInt -/
def F229 : DF := ⟨3,
(.seq
 (.reg [
   ⟨some 6, .mv (.c (.int .i64 0)), none⟩,
   ⟨some 7, .mv (.c .nilif), none⟩] [0, 1, 2])
 (.seq
  (.seq
   (.reg [
     ⟨some 12, .mv (.t 0), none⟩,
     ⟨some 13, .bin .eql (some .str) (.t 12) (.c (.str [])), none⟩] [0, 1, 2, 13])
   (.cnd (.t 13)
    (.seq
     (.reg [
       ⟨some 14, .mki 239 (.c (.int .i64 2)), none⟩,
       ⟨some 6, .mv (.c (.int .i64 0)), none⟩,
       ⟨some 7, .mv (.t 14), none⟩] [6, 7])
     .ret)
    .skip))
  (.seq
   (.reg [
     ⟨some 8, .mv (.c (.bool false)), none⟩] [0, 1, 2, 8])
   (.seq
    (.seq
     (.reg [
       ⟨some 15, .mv (.t 0), none⟩,
       ⟨some 16, .ixS (.t 15) (.c (.int .i64 0)), none⟩] [0, 1, 2, 8, 16])
     (.blk 0
      (.seq
       (.reg [
         ⟨some 18, .bin .eql (some .int) (.t 16) (.c (.int .u8 43)), none⟩,
         ⟨some 17, .mv (.t 18), none⟩] [0, 1, 2, 8, 16, 17])
       (.cnd (.t 17)
        (.reg [
          ⟨some 19, .mv (.t 0), none⟩,
          ⟨some 20, .slS (.t 19) (some (.c (.int .i64 1))) none, none⟩,
          ⟨some 0, .mv (.t 20), none⟩] [0, 1, 2, 8])
        (.seq
         (.reg [
           ⟨some 22, .bin .eql (some .int) (.t 16) (.c (.int .u8 45)), none⟩,
           ⟨some 21, .mv (.t 22), none⟩] [0, 1, 2, 8, 21])
         (.cnd (.t 21)
          (.seq
           (.reg [
             ⟨some 23, .mv (.t 0), none⟩,
             ⟨some 24, .slS (.t 23) (some (.c (.int .i64 1))) none, none⟩,
             ⟨some 0, .mv (.t 24), none⟩] [0, 1, 2])
           (.reg [
             ⟨some 8, .mv (.c (.bool true)), none⟩] [0, 1, 2, 8]))
          .skip))))))
    (.seq
     (.reg [
       ⟨some 9, .mv (.c (.int .u64 0)), none⟩] [0, 1, 2, 8])
     (.seq
      (.reg [
        ⟨some 26, .mv (.t 0), none⟩,
        ⟨some 27, .mv (.t 1), none⟩,
        ⟨some 28, .mv (.t 2), none⟩,
        ⟨some 29, .call 240 [(.t 26), (.t 27), (.t 28)], none⟩,
        ⟨some 25, .mv (.t 29), none⟩,
        ⟨some 30, .ext (.t 25) 0, none⟩,
        ⟨some 31, .ext (.t 25) 1, none⟩,
        ⟨some 9, .mv (.t 30), none⟩,
        ⟨some 7, .mv (.t 31), none⟩] [2, 7, 8, 9])
      (.seq
       (.seq
        (.reg [
          ⟨some 32, .mv (.t 7), none⟩,
          ⟨some 33, .bin .neq (some .ifc) (.t 32) (.c .nilif), none⟩,
          ⟨some 34, .mv (.t 33), none⟩,
          ⟨some 35, .mv (.t 7), some (34, true)⟩,
          ⟨some 36, .mki 239 (.c (.int .i64 1)), some (34, true)⟩,
          ⟨some 37, .bin .neq none (.t 35) (.t 36), some (34, true)⟩,
          ⟨some 38, .pick (.t 34) (.t 37) (.c (.bool false)), none⟩] [2, 7, 8, 9, 38])
        (.cnd (.t 38)
         (.seq
          (.reg [
            ⟨some 39, .mv (.t 7), none⟩,
            ⟨some 6, .mv (.c (.int .i64 0)), none⟩,
            ⟨some 7, .mv (.t 39), none⟩] [6, 7])
          .ret)
         .skip))
       (.seq
        (.seq
         (.reg [
           ⟨some 40, .mv (.t 2), none⟩,
           ⟨some 41, .bin .eql (some .int) (.t 40) (.c (.int .i64 0)), none⟩] [2, 8, 9, 41])
         (.cnd (.t 41)
          (.reg [
            ⟨some 2, .mv (.c (.int .i64 64)), none⟩] [2, 8, 9])
          .skip))
        (.seq
         (.reg [
           ⟨some 42, .mv (.t 2), none⟩,
           ⟨some 43, .bin .sub none (.t 42) (.c (.int .i64 1)), none⟩,
           ⟨some 44, .cvI .u64 (.t 43), none⟩,
           ⟨some 45, .bin .shl none (.c (.int .u64 1)) (.t 44), none⟩,
           ⟨some 10, .mv (.t 45), none⟩] [8, 9, 10])
         (.seq
          (.seq
           (.reg [
             ⟨some 46, .mv (.t 8), none⟩,
             ⟨some 47, .un .not (.t 46), none⟩,
             ⟨some 48, .mv (.t 47), none⟩,
             ⟨some 49, .mv (.t 9), some (48, true)⟩,
             ⟨some 50, .mv (.t 10), some (48, true)⟩,
             ⟨some 51, .bin .geq none (.t 49) (.t 50), some (48, true)⟩,
             ⟨some 52, .pick (.t 48) (.t 51) (.c (.bool false)), none⟩] [8, 9, 10, 52])
           (.cnd (.t 52)
            (.seq
             (.reg [
               ⟨some 53, .mv (.t 10), none⟩,
               ⟨some 54, .bin .sub none (.t 53) (.c (.int .u64 1)), none⟩,
               ⟨some 55, .cvI .i64 (.t 54), none⟩,
               ⟨some 56, .mki 239 (.c (.int .i64 1)), none⟩,
               ⟨some 6, .mv (.t 55), none⟩,
               ⟨some 7, .mv (.t 56), none⟩] [6, 7])
             .ret)
            .skip))
          (.seq
           (.seq
            (.reg [
              ⟨some 57, .mv (.t 8), none⟩,
              ⟨some 58, .mv (.t 57), none⟩,
              ⟨some 59, .mv (.t 9), some (58, true)⟩,
              ⟨some 60, .mv (.t 10), some (58, true)⟩,
              ⟨some 61, .bin .gtr none (.t 59) (.t 60), some (58, true)⟩,
              ⟨some 62, .pick (.t 58) (.t 61) (.c (.bool false)), none⟩] [8, 9, 10, 62])
            (.cnd (.t 62)
             (.seq
              (.reg [
                ⟨some 63, .mv (.t 10), none⟩,
                ⟨some 64, .cvI .i64 (.t 63), none⟩,
                ⟨some 65, .un .neg (.t 64), none⟩,
                ⟨some 66, .mki 239 (.c (.int .i64 1)), none⟩,
                ⟨some 6, .mv (.t 65), none⟩,
                ⟨some 7, .mv (.t 66), none⟩] [6, 7])
              .ret)
             .skip))
           (.seq
            (.reg [
              ⟨some 67, .mv (.t 9), none⟩,
              ⟨some 68, .cvI .i64 (.t 67), none⟩,
              ⟨some 11, .mv (.t 68), none⟩] [8, 11])
            (.seq
             (.seq
              (.reg [
                ⟨some 69, .mv (.t 8), none⟩] [11, 69])
              (.cnd (.t 69)
               (.reg [
                 ⟨some 70, .mv (.t 11), none⟩,
                 ⟨some 71, .un .neg (.t 70), none⟩,
                 ⟨some 11, .mv (.t 71), none⟩] [11])
               .skip))
             (.seq
              (.reg [
                ⟨some 72, .mv (.t 11), none⟩,
                ⟨some 6, .mv (.t 72), none⟩,
                ⟨some 7, .mv (.c .nilif), none⟩] [6, 7])
              .ret)))))))))))))),
[.tmp 6, .tmp 7]⟩
theorem F229_ok : prepF Go.Proofs.Tryz.prog ⟨[], [(0, [0, 1, 2]), (1, [0, 1, 2, 13]), (2, [6, 7]), (3, [0, 1, 2, 8]), (4, [0, 1, 2, 8, 16]), (5, [0, 1, 2, 8, 16, 17]), (6, [0, 1, 2, 8]), (7, [0, 1, 2, 8, 21]), (8, [0, 1, 2]), (9, [0, 1, 2, 8]), (10, [0, 1, 2, 8]), (11, [2, 7, 8, 9]), (12, [2, 7, 8, 9, 38]), (13, [6, 7]), (14, [2, 8, 9, 41]), (15, [2, 8, 9]), (16, [8, 9, 10]), (17, [8, 9, 10, 52]), (18, [6, 7]), (19, [8, 9, 10, 62]), (20, [6, 7]), (21, [8, 11]), (22, [11, 69]), (23, [11]), (24, [6, 7])], []⟩ Go.Proofs.Tryz.f229 = some F229 := by kernel_rfl
theorem F229_fn : FnOK2 Go.Proofs.Tryz.prog 229 (.pl F229) := .pl Go.Proofs.Tryz.func229 (by kernel_rfl) F229_ok
/-- strconv.syntaxError -/
def F230 : DF := ⟨2,
(.seq
 (.reg [
   ⟨some 4, .mv (.c .nilp), none⟩] [0, 1])
 (.seq
  (.drw [
    ((⟨some 5, .mv (.t 0), none⟩, none), []),
    ((⟨some 6, .mv (.t 1), none⟩, none), []),
    ((⟨some 8, .ld false 1 (.g 5), none⟩, none), []),
    ((⟨some 7, .call 241 [(.t 6)], none⟩, none), []),
    ((⟨some 9, .bld [(.str []), (.str []), .nilif] [(0, 1, (.t 5)), (1, 1, (.t 7)), (2, 1, (.t 8))], none⟩, none), []),
    ((⟨some 10, .bxH 253 (.t 9), none⟩, none), []),
    ((⟨some 4, .mv (.t 10), none⟩, none), [])] [4])
  .ret)),
[.tmp 4]⟩
theorem F230_ok : prepF Go.Proofs.Tryz.prog ⟨[], [(0, [0, 1]), (1, [4])], []⟩ Go.Proofs.Tryz.f230 = some F230 := by kernel_rfl
theorem F230_fn : FnOK2 Go.Proofs.Tryz.prog 230 (.pl F230) := .pl Go.Proofs.Tryz.func230 (by kernel_rfl) F230_ok
/-- strconv.rangeError -/
def F231 : DF := ⟨2,
(.seq
 (.reg [
   ⟨some 4, .mv (.c .nilp), none⟩] [0, 1])
 (.seq
  (.drw [
    ((⟨some 5, .mv (.t 0), none⟩, none), []),
    ((⟨some 6, .mv (.t 1), none⟩, none), []),
    ((⟨some 8, .ld false 1 (.g 6), none⟩, none), []),
    ((⟨some 7, .call 241 [(.t 6)], none⟩, none), []),
    ((⟨some 9, .bld [(.str []), (.str []), .nilif] [(0, 1, (.t 5)), (1, 1, (.t 7)), (2, 1, (.t 8))], none⟩, none), []),
    ((⟨some 10, .bxH 253 (.t 9), none⟩, none), []),
    ((⟨some 4, .mv (.t 10), none⟩, none), [])] [4])
  .ret)),
[.tmp 4]⟩
theorem F231_ok : prepF Go.Proofs.Tryz.prog ⟨[], [(0, [0, 1]), (1, [4])], []⟩ Go.Proofs.Tryz.f231 = some F231 := by kernel_rfl
theorem F231_fn : FnOK2 Go.Proofs.Tryz.prog 231 (.pl F231) := .pl Go.Proofs.Tryz.func231 (by kernel_rfl) F231_ok
/-- strconv.baseError -/
def F232 : DF := ⟨3,
(.seq
 (.reg [
   ⟨some 6, .mv (.c .nilp), none⟩] [0, 1, 2])
 (.seq
  (.reg [
    ⟨some 7, .mv (.t 0), none⟩,
    ⟨some 8, .mv (.t 1), none⟩,
    ⟨some 9, .call 241 [(.t 8)], none⟩,
    ⟨some 10, .mv (.t 2), none⟩,
    ⟨some 11, .call 89 [(.t 10)], none⟩,
    ⟨some 12, .bin .add none (.c (.str [105, 110, 118, 97, 108, 105, 100, 32, 98, 97, 115, 101, 32])) (.t 11), none⟩,
    ⟨some 13, .call 242 [(.t 12)], none⟩,
    ⟨some 14, .bld [(.str []), (.str []), .nilif] [(0, 1, (.t 7)), (1, 1, (.t 9)), (2, 1, (.t 13))], none⟩,
    ⟨some 15, .bxH 253 (.t 14), none⟩,
    ⟨some 6, .mv (.t 15), none⟩] [6])
  .ret)),
[.tmp 6]⟩
theorem F232_ok : prepF Go.Proofs.Tryz.prog ⟨[], [(0, [0, 1, 2]), (1, [6])], []⟩ Go.Proofs.Tryz.f232 = some F232 := by kernel_rfl
theorem F232_fn : FnOK2 Go.Proofs.Tryz.prog 232 (.pl F232) := .pl Go.Proofs.Tryz.func232 (by kernel_rfl) F232_ok
/-- strconv.bitSizeError -/
def F233 : DF := ⟨3,
(.seq
 (.reg [
   ⟨some 6, .mv (.c .nilp), none⟩] [0, 1, 2])
 (.seq
  (.reg [
    ⟨some 7, .mv (.t 0), none⟩,
    ⟨some 8, .mv (.t 1), none⟩,
    ⟨some 9, .call 241 [(.t 8)], none⟩,
    ⟨some 10, .mv (.t 2), none⟩,
    ⟨some 11, .call 89 [(.t 10)], none⟩,
    ⟨some 12, .bin .add none (.c (.str [105, 110, 118, 97, 108, 105, 100, 32, 98, 105, 116, 32, 115, 105, 122, 101, 32])) (.t 11), none⟩,
    ⟨some 13, .call 242 [(.t 12)], none⟩,
    ⟨some 14, .bld [(.str []), (.str []), .nilif] [(0, 1, (.t 7)), (1, 1, (.t 9)), (2, 1, (.t 13))], none⟩,
    ⟨some 15, .bxH 253 (.t 14), none⟩,
    ⟨some 6, .mv (.t 15), none⟩] [6])
  .ret)),
[.tmp 6]⟩
theorem F233_ok : prepF Go.Proofs.Tryz.prog ⟨[], [(0, [0, 1, 2]), (1, [6])], []⟩ Go.Proofs.Tryz.f233 = some F233 := by kernel_rfl
theorem F233_fn : FnOK2 Go.Proofs.Tryz.prog 233 (.pl F233) := .pl Go.Proofs.Tryz.func233 (by kernel_rfl) F233_ok
end Go.Proofs.YtinhgnepnkbpcaaGreatDoor.C1
