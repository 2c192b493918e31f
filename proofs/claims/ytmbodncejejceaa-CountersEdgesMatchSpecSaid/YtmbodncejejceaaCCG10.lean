/- The compact code of functions. -/
import Derived.Test.YtmbodncejejceaaCFam
set_option linter.all false

set_option maxRecDepth 100000
namespace Go.Eng
open Go.Proofs

def h36 : Hint := ⟨140, fun n => lk [(0, [0, 1, 2, 3, 9]), (1, [0, 1, 2, 3, 9, 10]), (2, [0, 1, 2, 3, 9, 10, 28]), (3, [8, 9]), (4, [0, 2, 3, 9, 11]), (5, [0, 2, 3, 9, 11, 12]), (6, [0, 2, 3, 9, 11, 12, 13]), (7, [0, 2, 3, 9, 11, 12, 13, 39, 40, 41]), (8, [0, 2, 3, 9, 11, 12, 13, 39, 40, 41, 42]), (9, [0, 2, 3, 9, 11, 12, 13, 14, 15, 39, 40, 41]), (10, [0, 2, 3, 9, 11, 12, 13, 15, 39, 40, 41, 66]), (11, [8, 9]), (12, [0, 2, 3, 9, 11, 12, 13, 39, 40, 41]), (13, [0, 2, 3, 9, 11, 12, 13, 39, 40, 41]), (14, [0, 2, 3, 9, 11, 12, 13, 16]), (15, [0, 2, 3, 9, 11, 12, 13, 16, 78]), (16, [8, 9]), (17, [0, 2, 3, 9, 11, 12, 13, 17]), (18, [0, 2, 3, 9, 11, 12, 13, 17, 83, 84, 85]), (19, [0, 2, 3, 9, 11, 12, 13, 17, 83, 84, 85, 86]), (20, [0, 2, 3, 9, 11, 12, 13, 17, 18, 19, 83, 84, 85]), (21, [0, 2, 3, 9, 11, 12, 13, 17, 18, 83, 84, 85, 100]), (22, [8, 9]), (23, [0, 2, 3, 9, 11, 12, 13, 17, 83, 84, 85]), (24, [0, 3, 9, 11, 12, 13, 104, 105, 106]), (25, [0, 3, 9, 11, 12, 13, 104, 105, 106, 107]), (26, [0, 3, 9, 11, 12, 13, 20, 21, 104, 105, 106]), (27, [0, 3, 9, 11, 12, 13, 104, 105, 106]), (28, [0, 3, 9, 11, 12, 13, 104, 105, 106]), (29, [0, 9, 11, 13]), (30, [9, 13, 130]), (31, [8, 9]), (32, [9, 13, 22]), (33, [9, 13, 22, 135]), (34, [8, 9]), (35, [8, 9])] n, fun n => mem [] n, fun n => mem [] n, fun n => lkd [(3, [(1, .p), (0, .r), (2, .g)]), (16, [(1, .p), (0, .r), (2, .g)])] n⟩
def c36 : CC :=
  .seq (
    .reg [0, 1, 2, 3, 9] [
      ⟨none, (some 8), .mov (.c (Go.Value.slice none 0 0))⟩,
      ⟨none, (some 9), .alloc [.int .i64 0, .int .i64 0]⟩]) (
  .seq (
    .seq (
      .reg [0, 1, 2, 3, 9, 10] [
        ⟨none, (some 23), .mov (.t 0)⟩,
        ⟨none, (some 24), .mov (.t 1)⟩,
        ⟨none, (some 25), .call 62 [(.t 23), (.t 24)]⟩,
        ⟨none, (some 10), .alloc [.int .i64 0, .int .i64 0]⟩,
        ⟨none, none, .store 2 (.t 10) (.t 25)⟩]) (
    .seq (
      .reg [0, 1, 2, 3, 9, 10, 28] [
        ⟨none, (some 26), .load (some 2) (.t 10)⟩,
        ⟨none, (some 27), .build [.int .i64 0, .int .i64 0] []⟩,
        ⟨none, (some 28), .eqa true [(0, true), (1, true)] (.t 26) (.t 27)⟩]) (
    .cond (.t 28) (
      .seq (
        .reg [8, 9] [
          ⟨none, (some 8), .mov (.c (Go.Value.slice none 0 0))⟩,
          ⟨none, (some 29), .load (some 2) (.t 10)⟩,
          ⟨none, none, .store 2 (.t 9) (.t 29)⟩]) (
      .ret)) (
      .skip)))) (
  .seq (
    .reg [0, 2, 3, 9, 11] [
      ⟨none, (some 30), .mov (.t 0)⟩,
      ⟨none, (some 31), .mov (.t 1)⟩,
      ⟨none, (some 32), .call 63 [(.t 30), (.t 31)]⟩,
      ⟨none, (some 11), .mov (.t 32)⟩]) (
  .seq (
    .reg [0, 2, 3, 9, 11, 12] [
      ⟨none, (some 33), .mov (.t 11)⟩,
      ⟨none, (some 34), .len (.t 33)⟩,
      ⟨none, (some 35), .mks 4 1 1 [.bool false] (.t 34) (.t 34)⟩,
      ⟨none, (some 12), .mov (.t 35)⟩]) (
  .seq (
    .reg [0, 2, 3, 9, 11, 12, 13] [
      ⟨none, (some 36), .mov (.t 11)⟩,
      ⟨none, (some 37), .len (.t 36)⟩,
      ⟨none, (some 38), .mks 3 1 8 [.int .i64 0] (.t 37) (.t 37)⟩,
      ⟨none, (some 13), .mov (.t 38)⟩]) (
  .seq (
    .seq (
      .reg [0, 2, 3, 9, 11, 12, 13, 39, 40, 41] [
        ⟨none, (some 39), .mov (.t 2)⟩,
        ⟨none, (some 40), .len (.t 39)⟩,
        ⟨none, (some 41), .mov (.c (Go.Value.int Go.IntKind.i64 0))⟩]) (
    .block 0 (
      .loop (
        .seq (
          .reg [0, 2, 3, 9, 11, 12, 13, 39, 40, 41, 42] [
            ⟨none, (some 42), .bin .lss .i64 (.t 41) (.t 40)⟩]) (
        .seq (
          .cond (.t 42) (
            .skip) (
            .exit 0)) (
        .seq (
          .block 1 (
            .seq (
              .reg [0, 2, 3, 9, 11, 12, 13, 14, 15, 39, 40, 41] [
                ⟨none, (some 43), .mov (.t 41)⟩,
                ⟨none, (some 44), .iaddr 1 (.t 39) (.t 41)⟩,
                ⟨none, (some 45), .load none (.t 44)⟩,
                ⟨none, (some 14), .mov (.t 43)⟩,
                ⟨none, (some 15), .mov (.t 45)⟩]) (
            .seq (
              .seq (
                .reg [0, 2, 3, 9, 11, 12, 13, 15, 39, 40, 41, 66] [
                  ⟨none, (some 46), .mov (.t 15)⟩,
                  ⟨none, (some 47), .bin .lss .i64 (.t 46) (.c (Go.Value.int Go.IntKind.i64 0))⟩,
                  ⟨none, (some 48), .mov (.t 47)⟩,
                  ⟨(some (48, false)), (some 49), .mov (.t 15)⟩,
                  ⟨(some (48, false)), (some 50), .mov (.t 11)⟩,
                  ⟨(some (48, false)), (some 51), .len (.t 50)⟩,
                  ⟨(some (48, false)), (some 52), .bin .geq .i64 (.t 49) (.t 51)⟩,
                  ⟨none, (some 53), .pick (.t 48) (.c (Go.Value.bool true)) (.t 52)⟩,
                  ⟨none, (some 54), .mov (.t 53)⟩,
                  ⟨(some (54, false)), (some 55), .mov (.t 14)⟩,
                  ⟨(some (54, false)), (some 56), .bin .gtr .i64 (.t 55) (.c (Go.Value.int Go.IntKind.i64 0))⟩,
                  ⟨(some (54, false)), (some 57), .mov (.t 56)⟩,
                  ⟨(some (57, true)), (some 58), .mov (.t 15)⟩,
                  ⟨(some (57, true)), (some 59), .mov (.t 2)⟩,
                  ⟨(some (57, true)), (some 60), .mov (.t 14)⟩,
                  ⟨(some (57, true)), (some 61), .bin .sub .i64 (.t 60) (.c (Go.Value.int Go.IntKind.i64 1))⟩,
                  ⟨(some (57, true)), (some 62), .iaddr 1 (.t 59) (.t 61)⟩,
                  ⟨(some (57, true)), (some 63), .load none (.t 62)⟩,
                  ⟨(some (57, true)), (some 64), .bin .leq .i64 (.t 58) (.t 63)⟩,
                  ⟨(some (54, false)), (some 65), .pick (.t 57) (.t 64) (.c (Go.Value.bool false))⟩,
                  ⟨none, (some 66), .pick (.t 54) (.c (Go.Value.bool true)) (.t 65)⟩]) (
              .cond (.t 66) (
                .seq (
                  .reg [8, 9] [
                    ⟨none, (some 67), .build [.int .i64 0, .int .i64 0] [(0, 1, (.c (Go.Value.int Go.IntKind.i64 5))), (1, 1, (.c (Go.Value.int Go.IntKind.i64 (-3))))]⟩,
                    ⟨none, (some 8), .mov (.c (Go.Value.slice none 0 0))⟩,
                    ⟨none, none, .store 2 (.t 9) (.t 67)⟩]) (
                .ret)) (
                .skip))) (
            .reg [0, 2, 3, 9, 11, 12, 13, 39, 40, 41] [
              ⟨none, (some 68), .mov (.t 12)⟩,
              ⟨none, (some 69), .mov (.t 15)⟩,
              ⟨none, (some 70), .iaddr 1 (.t 68) (.t 69)⟩,
              ⟨none, none, .store 1 (.t 70) (.c (Go.Value.bool true))⟩])))) (
        .reg [0, 2, 3, 9, 11, 12, 13, 39, 40, 41] [
          ⟨none, (some 71), .bin .add .i64 (.t 41) (.c (Go.Value.int Go.IntKind.i64 1))⟩,
          ⟨none, (some 41), .mov (.t 71)⟩]))))))) (
  .seq (
    .seq (
      .reg [0, 2, 3, 9, 11, 12, 13, 16] [
        ⟨none, (some 72), .mov (.t 3)⟩,
        ⟨none, (some 73), .mov (.t 2)⟩,
        ⟨none, (some 74), .len (.t 73)⟩,
        ⟨none, (some 75), .call 64 [(.t 72), (.t 74)]⟩,
        ⟨none, (some 16), .alloc [.int .i64 0, .int .i64 0]⟩,
        ⟨none, none, .store 2 (.t 16) (.t 75)⟩]) (
    .seq (
      .reg [0, 2, 3, 9, 11, 12, 13, 16, 78] [
        ⟨none, (some 76), .load (some 2) (.t 16)⟩,
        ⟨none, (some 77), .build [.int .i64 0, .int .i64 0] []⟩,
        ⟨none, (some 78), .eqa true [(0, true), (1, true)] (.t 76) (.t 77)⟩]) (
    .cond (.t 78) (
      .seq (
        .reg [8, 9] [
          ⟨none, (some 8), .mov (.c (Go.Value.slice none 0 0))⟩,
          ⟨none, (some 79), .load (some 2) (.t 16)⟩,
          ⟨none, none, .store 2 (.t 9) (.t 79)⟩]) (
      .ret)) (
      .skip)))) (
  .seq (
    .reg [0, 2, 3, 9, 11, 12, 13, 17] [
      ⟨none, (some 80), .mov (.t 0)⟩,
      ⟨none, (some 81), .len (.t 80)⟩,
      ⟨none, (some 82), .call 67 [(.t 81)]⟩,
      ⟨none, (some 17), .mov (.t 82)⟩]) (
  .seq (
    .seq (
      .reg [0, 2, 3, 9, 11, 12, 13, 17, 83, 84, 85] [
        ⟨none, (some 83), .mov (.t 11)⟩,
        ⟨none, (some 84), .len (.t 83)⟩,
        ⟨none, (some 85), .mov (.c (Go.Value.int Go.IntKind.i64 0))⟩]) (
    .block 2 (
      .loop (
        .seq (
          .reg [0, 2, 3, 9, 11, 12, 13, 17, 83, 84, 85, 86] [
            ⟨none, (some 86), .bin .lss .i64 (.t 85) (.t 84)⟩]) (
        .seq (
          .cond (.t 86) (
            .skip) (
            .exit 2)) (
        .seq (
          .block 3 (
            .seq (
              .reg [0, 2, 3, 9, 11, 12, 13, 17, 18, 19, 83, 84, 85] [
                ⟨none, (some 87), .mov (.t 85)⟩,
                ⟨none, (some 88), .iaddr 2 (.t 83) (.t 85)⟩,
                ⟨none, (some 89), .load (some 2) (.t 88)⟩,
                ⟨none, (some 19), .alloc [.int .i64 0, .int .i64 0]⟩,
                ⟨none, (some 18), .mov (.t 87)⟩,
                ⟨none, none, .store 2 (.t 19) (.t 89)⟩]) (
            .seq (
              .reg [0, 2, 3, 9, 11, 12, 13, 17, 18, 83, 84, 85, 100] [
                ⟨none, (some 90), .mov (.t 12)⟩,
                ⟨none, (some 91), .mov (.t 18)⟩,
                ⟨none, (some 92), .iaddr 1 (.t 90) (.t 91)⟩,
                ⟨none, (some 93), .load none (.t 92)⟩,
                ⟨none, (some 94), .not (.t 93)⟩,
                ⟨none, (some 95), .mov (.t 94)⟩,
                ⟨(some (95, true)), (some 96), .mov (.t 17)⟩,
                ⟨(some (95, true)), (some 97), .load (some 2) (.t 19)⟩,
                ⟨(some (95, true)), (some 98), .call 68 [(.t 96), (.t 97)]⟩,
                ⟨(some (95, true)), (some 99), .not (.t 98)⟩,
                ⟨none, (some 100), .pick (.t 95) (.t 99) (.c (Go.Value.bool false))⟩]) (
            .cond (.t 100) (
              .seq (
                .reg [8, 9] [
                  ⟨none, (some 101), .mov (.t 18)⟩,
                  ⟨none, (some 102), .build [.int .i64 0, .int .i64 0] [(0, 1, (.c (Go.Value.int Go.IntKind.i64 15))), (1, 1, (.t 101))]⟩,
                  ⟨none, (some 8), .mov (.c (Go.Value.slice none 0 0))⟩,
                  ⟨none, none, .store 2 (.t 9) (.t 102)⟩]) (
              .ret)) (
              .skip))))) (
        .reg [0, 2, 3, 9, 11, 12, 13, 17, 83, 84, 85] [
          ⟨none, (some 103), .bin .add .i64 (.t 85) (.c (Go.Value.int Go.IntKind.i64 1))⟩,
          ⟨none, (some 85), .mov (.t 103)⟩]))))))) (
  .seq (
    .seq (
      .reg [0, 3, 9, 11, 12, 13, 104, 105, 106] [
        ⟨none, (some 104), .mov (.t 2)⟩,
        ⟨none, (some 105), .len (.t 104)⟩,
        ⟨none, (some 106), .mov (.c (Go.Value.int Go.IntKind.i64 0))⟩]) (
    .block 4 (
      .loop (
        .seq (
          .reg [0, 3, 9, 11, 12, 13, 104, 105, 106, 107] [
            ⟨none, (some 107), .bin .lss .i64 (.t 106) (.t 105)⟩]) (
        .seq (
          .cond (.t 107) (
            .skip) (
            .exit 4)) (
        .seq (
          .block 5 (
            .seq (
              .reg [0, 3, 9, 11, 12, 13, 20, 21, 104, 105, 106] [
                ⟨none, (some 108), .mov (.t 106)⟩,
                ⟨none, (some 109), .iaddr 1 (.t 104) (.t 106)⟩,
                ⟨none, (some 110), .load none (.t 109)⟩,
                ⟨none, (some 20), .mov (.t 108)⟩,
                ⟨none, (some 21), .mov (.t 110)⟩]) (
            .reg [0, 3, 9, 11, 12, 13, 104, 105, 106] [
              ⟨none, (some 111), .mov (.t 13)⟩,
              ⟨none, (some 112), .mov (.t 21)⟩,
              ⟨none, (some 113), .mov (.t 3)⟩,
              ⟨none, (some 114), .mov (.t 20)⟩,
              ⟨none, (some 115), .iaddr 1 (.t 113) (.t 114)⟩,
              ⟨none, (some 116), .load none (.t 115)⟩,
              ⟨none, (some 117), .iaddr 1 (.t 111) (.t 112)⟩,
              ⟨none, none, .store 1 (.t 117) (.t 116)⟩]))) (
        .reg [0, 3, 9, 11, 12, 13, 104, 105, 106] [
          ⟨none, (some 118), .bin .add .i64 (.t 106) (.c (Go.Value.int Go.IntKind.i64 1))⟩,
          ⟨none, (some 106), .mov (.t 118)⟩]))))))) (
  .seq (
    .reg [0, 9, 11, 13] [
      ⟨none, (some 119), .mov (.t 11)⟩,
      ⟨none, (some 120), .mov (.t 0)⟩,
      ⟨none, (some 121), .len (.t 120)⟩,
      ⟨none, (some 122), .mov (.t 12)⟩,
      ⟨none, (some 123), .mov (.t 13)⟩,
      ⟨none, (some 124), .call 73 [(.t 119), (.t 121), (.t 122), (.t 123)]⟩]) (
  .seq (
    .seq (
      .reg [9, 13, 130] [
        ⟨none, (some 125), .mov (.t 11)⟩,
        ⟨none, (some 126), .mov (.t 0)⟩,
        ⟨none, (some 127), .len (.t 126)⟩,
        ⟨none, (some 128), .mov (.t 13)⟩,
        ⟨none, (some 129), .call 74 [(.t 125), (.t 127), (.t 128)]⟩,
        ⟨none, (some 130), .not (.t 129)⟩]) (
    .cond (.t 130) (
      .seq (
        .reg [8, 9] [
          ⟨none, (some 131), .build [.int .i64 0, .int .i64 0] [(0, 1, (.c (Go.Value.int Go.IntKind.i64 13))), (1, 1, (.c (Go.Value.int Go.IntKind.i64 (-4))))]⟩,
          ⟨none, (some 8), .mov (.c (Go.Value.slice none 0 0))⟩,
          ⟨none, none, .store 2 (.t 9) (.t 131)⟩]) (
      .ret)) (
      .skip))) (
  .seq (
    .seq (
      .reg [9, 13, 22] [
        ⟨none, (some 132), .mov (.t 13)⟩,
        ⟨none, (some 133), .call 75 [(.t 132), (.f 76)]⟩,
        ⟨none, (some 22), .mov (.t 133)⟩]) (
    .seq (
      .reg [9, 13, 22, 135] [
        ⟨none, (some 134), .mov (.t 22)⟩,
        ⟨none, (some 135), .bin .geq .i64 (.t 134) (.c (Go.Value.int Go.IntKind.i64 0))⟩]) (
    .cond (.t 135) (
      .seq (
        .reg [8, 9] [
          ⟨none, (some 136), .mov (.t 22)⟩,
          ⟨none, (some 137), .build [.int .i64 0, .int .i64 0] [(0, 1, (.c (Go.Value.int Go.IntKind.i64 13))), (1, 1, (.t 136))]⟩,
          ⟨none, (some 8), .mov (.c (Go.Value.slice none 0 0))⟩,
          ⟨none, none, .store 2 (.t 9) (.t 137)⟩]) (
      .ret)) (
      .skip)))) (
  .seq (
    .reg [8, 9] [
      ⟨none, (some 138), .mov (.t 13)⟩,
      ⟨none, (some 139), .build [.int .i64 0, .int .i64 0] []⟩,
      ⟨none, (some 8), .mov (.t 138)⟩,
      ⟨none, none, .store 2 (.t 9) (.t 139)⟩]) (
  .ret))))))))))))))
theorem e36 : erase Try.prog h36 (codeOf Try.f36) = c36 := by kernel_rfl
theorem g36 {T : Tab} (hP : TabOK Try.prog T) {ag : List Arg} {R : Res} {xs : List Row} (hT : T.base = nrows ag) (hl : ag.length ≤ 140) (hnt : noTake ag = true)
    (h : vc T c36 ⟨env0 0 0 ag, rows0 0 ag⟩ (fin T [.tmp 8, .cell 9 (some 2)] ag R xs) (fun _ _ => False) (fin T [.tmp 8, .cell 9 (some 2)] ag R xs)) : GCall Try.prog 36 ag R xs :=
  gcall_of_vc (H := h36) Try.func36 (fn := Try.f36) (code := codeOf Try.f36) (by kernel_rfl) e36 (by kernel_rfl) (rvs := [.tmp 8, .cell 9 (some 2)]) (by kernel_rfl) (by kernel_rfl) hP hT (by rw [show Try.f36.ntmps = 140 by kernel_rfl]; exact hl) hnt h

end Go.Eng
