/- The compact code of functions. -/
import Derived.Test.YtmbodncejejceaaCFam
set_option linter.all false

set_option maxRecDepth 100000
namespace Go.Eng
open Go.Proofs

def h19 : Hint := ⟨117, fun n => lk [(0, [0, 1, 5]), (1, [0, 1, 5, 6]), (2, [0, 1, 5, 6, 25]), (3, [4, 5]), (4, [0, 5, 7]), (5, [5, 7, 8]), (6, [5, 7, 8, 35, 36]), (7, [5, 7, 8, 35, 36, 37]), (8, [5, 7, 8, 9, 35, 36]), (9, [5, 7, 8, 35, 36]), (10, [5, 7, 8, 35, 36]), (11, [5, 7, 8, 10, 11, 12]), (12, [5, 7, 8, 10, 11, 12, 46, 47]), (13, [5, 7, 8, 10, 11, 12, 46, 47, 48]), (14, [5, 7, 8, 10, 11, 12, 13, 46, 47]), (15, [5, 7, 8, 10, 11, 12, 13, 14, 46, 47]), (16, [5, 7, 8, 10, 11, 12, 13, 14, 46, 47, 55]), (17, [5, 7, 8, 10, 11, 12, 13, 14, 46, 47]), (18, [5, 7, 8, 10, 11, 12, 13, 14, 15, 46, 47]), (19, [5, 7, 8, 10, 11, 12, 13, 14, 15, 46, 47, 61, 62, 63]), (20, [5, 7, 8, 10, 11, 12, 13, 14, 15, 46, 47, 61, 62, 63, 64]), (21, [5, 7, 8, 10, 11, 12, 13, 14, 15, 17, 46, 47, 61, 62, 63]), (22, [5, 7, 8, 10, 11, 12, 13, 14, 15, 17, 46, 47, 61, 62, 63, 70, 71, 72]), (23, [5, 7, 8, 10, 11, 12, 13, 14, 15, 17, 46, 47, 61, 62, 63, 70, 71, 72, 73]), (24, [5, 7, 8, 10, 11, 12, 13, 14, 15, 17, 19, 46, 47, 61, 62, 63, 70, 71, 72]), (25, [5, 7, 8, 10, 11, 12, 13, 14, 15, 17, 46, 47, 61, 62, 63, 70, 71, 72]), (26, [5, 7, 8, 10, 11, 12, 13, 14, 15, 17, 46, 47, 61, 62, 63, 70, 71, 72]), (27, [5, 7, 8, 10, 11, 12, 13, 14, 15, 46, 47, 61, 62, 63]), (28, [5, 7, 8, 10, 11, 12, 13, 14, 15, 46, 47, 89]), (29, [5, 7, 8, 10, 11, 12, 13, 14, 46, 47]), (30, [5, 7, 8, 10, 11, 12, 46, 47]), (31, [5, 7, 8, 10, 11, 95]), (32, [4, 5]), (33, [5, 7, 8, 11]), (34, [5, 7, 8])] n, fun n => mem [] n, fun n => mem [] n, fun n => lkd [(3, [(1, .p), (0, .r), (2, .g)]), (33, [(0, .p), (1, .p), (2, .p), (3, .p), (4, .p), (6, .p), (7, .p), (8, .p), (10, .p), (5, .r), (9, .r), (11, .g), (12, .p), (13, .g)])] n⟩
def c19 : CC :=
  .seq (
    .reg [0, 1, 5] [
      ⟨none, (some 4), .mov (.c (Go.Value.slice none 0 0))⟩,
      ⟨none, (some 5), .alloc [.int .i64 0, .int .i64 0]⟩]) (
  .seq (
    .seq (
      .reg [0, 1, 5, 6] [
        ⟨none, (some 20), .mov (.t 0)⟩,
        ⟨none, (some 21), .mov (.t 1)⟩,
        ⟨none, (some 22), .call 52 [(.t 20), (.t 21)]⟩,
        ⟨none, (some 6), .alloc [.int .i64 0, .int .i64 0]⟩,
        ⟨none, none, .store 2 (.t 6) (.t 22)⟩]) (
    .seq (
      .reg [0, 1, 5, 6, 25] [
        ⟨none, (some 23), .load (some 2) (.t 6)⟩,
        ⟨none, (some 24), .build [.int .i64 0, .int .i64 0] []⟩,
        ⟨none, (some 25), .eqa true [(0, true), (1, true)] (.t 23) (.t 24)⟩]) (
    .cond (.t 25) (
      .seq (
        .reg [4, 5] [
          ⟨none, (some 4), .mov (.c (Go.Value.slice none 0 0))⟩,
          ⟨none, (some 26), .load (some 2) (.t 6)⟩,
          ⟨none, none, .store 2 (.t 5) (.t 26)⟩]) (
      .ret)) (
      .skip)))) (
  .seq (
    .reg [0, 5, 7] [
      ⟨none, (some 27), .mov (.t 0)⟩,
      ⟨none, (some 28), .len (.t 27)⟩,
      ⟨none, (some 29), .mov (.t 1)⟩,
      ⟨none, (some 30), .call 53 [(.t 28), (.t 29)]⟩,
      ⟨none, (some 7), .mov (.t 30)⟩]) (
  .seq (
    .reg [5, 7, 8] [
      ⟨none, (some 31), .mov (.t 0)⟩,
      ⟨none, (some 32), .len (.t 31)⟩,
      ⟨none, (some 33), .mks 22 1 24 [.slice none 0 0] (.t 32) (.t 32)⟩,
      ⟨none, (some 8), .mov (.t 33)⟩]) (
  .seq (
    .seq (
      .reg [5, 7, 8, 35, 36] [
        ⟨none, (some 34), .mov (.t 8)⟩,
        ⟨none, (some 35), .len (.t 34)⟩,
        ⟨none, (some 36), .mov (.c (Go.Value.int Go.IntKind.i64 0))⟩]) (
    .block 0 (
      .loop (
        .seq (
          .reg [5, 7, 8, 35, 36, 37] [
            ⟨none, (some 37), .bin .lss .i64 (.t 36) (.t 35)⟩]) (
        .seq (
          .cond (.t 37) (
            .skip) (
            .exit 0)) (
        .seq (
          .block 1 (
            .seq (
              .reg [5, 7, 8, 9, 35, 36] [
                ⟨none, (some 38), .mov (.t 36)⟩,
                ⟨none, (some 9), .mov (.t 38)⟩]) (
            .reg [5, 7, 8, 35, 36] [
              ⟨none, (some 39), .mov (.t 8)⟩,
              ⟨none, (some 40), .mov (.t 9)⟩,
              ⟨none, (some 41), .mov (.t 9)⟩,
              ⟨none, (some 42), .bsl 3 1 [(.t 41)]⟩,
              ⟨none, (some 43), .iaddr 1 (.t 39) (.t 40)⟩,
              ⟨none, none, .store 1 (.t 43) (.t 42)⟩]))) (
        .reg [5, 7, 8, 35, 36] [
          ⟨none, (some 44), .bin .add .i64 (.t 36) (.c (Go.Value.int Go.IntKind.i64 1))⟩,
          ⟨none, (some 36), .mov (.t 44)⟩]))))))) (
  .block 2 (
    .loop (
      .block 3 (
        .seq (
          .reg [5, 7, 8, 10, 11, 12] [
            ⟨none, (some 10), .mov (.c (Go.Value.int Go.IntKind.i64 (-1)))⟩,
            ⟨none, (some 11), .mov (.c (Go.Value.int Go.IntKind.i64 (-1)))⟩,
            ⟨none, (some 12), .mov (.c (Go.Value.int Go.IntKind.i64 0))⟩]) (
        .seq (
          .seq (
            .reg [5, 7, 8, 10, 11, 12, 46, 47] [
              ⟨none, (some 45), .mov (.t 8)⟩,
              ⟨none, (some 46), .len (.t 45)⟩,
              ⟨none, (some 47), .mov (.c (Go.Value.int Go.IntKind.i64 0))⟩]) (
          .block 4 (
            .loop (
              .seq (
                .reg [5, 7, 8, 10, 11, 12, 46, 47, 48] [
                  ⟨none, (some 48), .bin .lss .i64 (.t 47) (.t 46)⟩]) (
              .seq (
                .cond (.t 48) (
                  .skip) (
                  .exit 4)) (
              .seq (
                .block 5 (
                  .seq (
                    .reg [5, 7, 8, 10, 11, 12, 13, 46, 47] [
                      ⟨none, (some 49), .mov (.t 47)⟩,
                      ⟨none, (some 13), .mov (.t 49)⟩]) (
                  .seq (
                    .reg [5, 7, 8, 10, 11, 12, 13, 14, 46, 47] [
                      ⟨none, (some 50), .mov (.t 13)⟩,
                      ⟨none, (some 51), .bin .add .i64 (.t 50) (.c (Go.Value.int Go.IntKind.i64 1))⟩,
                      ⟨none, (some 14), .mov (.t 51)⟩]) (
                  .block 6 (
                    .loop (
                      .seq (
                        .seq (
                          .reg [5, 7, 8, 10, 11, 12, 13, 14, 46, 47, 55] [
                            ⟨none, (some 52), .mov (.t 14)⟩,
                            ⟨none, (some 53), .mov (.t 8)⟩,
                            ⟨none, (some 54), .len (.t 53)⟩,
                            ⟨none, (some 55), .bin .lss .i64 (.t 52) (.t 54)⟩]) (
                        .cond (.t 55) (
                          .skip) (
                          .exit 6))) (
                      .seq (
                        .block 7 (
                          .seq (
                            .reg [5, 7, 8, 10, 11, 12, 13, 14, 15, 46, 47] [
                              ⟨none, (some 15), .mov (.c (Go.Value.int Go.IntKind.i64 0))⟩]) (
                          .seq (
                            .seq (
                              .reg [5, 7, 8, 10, 11, 12, 13, 14, 15, 46, 47, 61, 62, 63] [
                                ⟨none, (some 58), .mov (.t 8)⟩,
                                ⟨none, (some 59), .mov (.t 13)⟩,
                                ⟨none, (some 60), .iaddr 1 (.t 58) (.t 59)⟩,
                                ⟨none, (some 61), .load none (.t 60)⟩,
                                ⟨none, (some 62), .len (.t 61)⟩,
                                ⟨none, (some 63), .mov (.c (Go.Value.int Go.IntKind.i64 0))⟩]) (
                            .block 8 (
                              .loop (
                                .seq (
                                  .reg [5, 7, 8, 10, 11, 12, 13, 14, 15, 46, 47, 61, 62, 63, 64] [
                                    ⟨none, (some 64), .bin .lss .i64 (.t 63) (.t 62)⟩]) (
                                .seq (
                                  .cond (.t 64) (
                                    .skip) (
                                    .exit 8)) (
                                .seq (
                                  .block 9 (
                                    .seq (
                                      .reg [5, 7, 8, 10, 11, 12, 13, 14, 15, 17, 46, 47, 61, 62, 63] [
                                        ⟨none, (some 65), .iaddr 1 (.t 61) (.t 63)⟩,
                                        ⟨none, (some 66), .load none (.t 65)⟩,
                                        ⟨none, (some 17), .mov (.t 66)⟩]) (
                                    .seq (
                                      .reg [5, 7, 8, 10, 11, 12, 13, 14, 15, 17, 46, 47, 61, 62, 63, 70, 71, 72] [
                                        ⟨none, (some 67), .mov (.t 8)⟩,
                                        ⟨none, (some 68), .mov (.t 14)⟩,
                                        ⟨none, (some 69), .iaddr 1 (.t 67) (.t 68)⟩,
                                        ⟨none, (some 70), .load none (.t 69)⟩,
                                        ⟨none, (some 71), .len (.t 70)⟩,
                                        ⟨none, (some 72), .mov (.c (Go.Value.int Go.IntKind.i64 0))⟩]) (
                                    .block 10 (
                                      .loop (
                                        .seq (
                                          .reg [5, 7, 8, 10, 11, 12, 13, 14, 15, 17, 46, 47, 61, 62, 63, 70, 71, 72, 73] [
                                            ⟨none, (some 73), .bin .lss .i64 (.t 72) (.t 71)⟩]) (
                                        .seq (
                                          .cond (.t 73) (
                                            .skip) (
                                            .exit 10)) (
                                        .seq (
                                          .block 11 (
                                            .seq (
                                              .reg [5, 7, 8, 10, 11, 12, 13, 14, 15, 17, 19, 46, 47, 61, 62, 63, 70, 71, 72] [
                                                ⟨none, (some 74), .iaddr 1 (.t 70) (.t 72)⟩,
                                                ⟨none, (some 75), .load none (.t 74)⟩,
                                                ⟨none, (some 19), .mov (.t 75)⟩]) (
                                            .reg [5, 7, 8, 10, 11, 12, 13, 14, 15, 17, 46, 47, 61, 62, 63, 70, 71, 72] [
                                              ⟨none, (some 76), .mov (.t 15)⟩,
                                              ⟨none, (some 77), .mov (.t 7)⟩,
                                              ⟨none, (some 78), .mov (.t 17)⟩,
                                              ⟨none, (some 79), .iaddr 1 (.t 77) (.t 78)⟩,
                                              ⟨none, (some 80), .load none (.t 79)⟩,
                                              ⟨none, (some 81), .mov (.t 19)⟩,
                                              ⟨none, (some 82), .iaddr 1 (.t 80) (.t 81)⟩,
                                              ⟨none, (some 83), .load none (.t 82)⟩,
                                              ⟨none, (some 84), .bin .add .i64 (.t 76) (.t 83)⟩,
                                              ⟨none, (some 15), .mov (.t 84)⟩]))) (
                                        .reg [5, 7, 8, 10, 11, 12, 13, 14, 15, 17, 46, 47, 61, 62, 63, 70, 71, 72] [
                                          ⟨none, (some 85), .bin .add .i64 (.t 72) (.c (Go.Value.int Go.IntKind.i64 1))⟩,
                                          ⟨none, (some 72), .mov (.t 85)⟩]))))))))) (
                                .reg [5, 7, 8, 10, 11, 12, 13, 14, 15, 46, 47, 61, 62, 63] [
                                  ⟨none, (some 86), .bin .add .i64 (.t 63) (.c (Go.Value.int Go.IntKind.i64 1))⟩,
                                  ⟨none, (some 63), .mov (.t 86)⟩]))))))) (
                          .seq (
                            .reg [5, 7, 8, 10, 11, 12, 13, 14, 15, 46, 47, 89] [
                              ⟨none, (some 87), .mov (.t 15)⟩,
                              ⟨none, (some 88), .mov (.t 12)⟩,
                              ⟨none, (some 89), .bin .gtr .i64 (.t 87) (.t 88)⟩]) (
                          .cond (.t 89) (
                            .reg [5, 7, 8, 10, 11, 12, 13, 14, 46, 47] [
                              ⟨none, (some 90), .mov (.t 13)⟩,
                              ⟨none, (some 91), .mov (.t 14)⟩,
                              ⟨none, (some 92), .mov (.t 15)⟩,
                              ⟨none, (some 10), .mov (.t 90)⟩,
                              ⟨none, (some 11), .mov (.t 91)⟩,
                              ⟨none, (some 12), .mov (.t 92)⟩]) (
                            .skip)))))) (
                      .reg [5, 7, 8, 10, 11, 12, 13, 14, 46, 47] [
                        ⟨none, (some 56), .mov (.t 14)⟩,
                        ⟨none, (some 57), .bin .add .i64 (.t 56) (.c (Go.Value.int Go.IntKind.i64 1))⟩,
                        ⟨none, (some 14), .mov (.t 57)⟩])))))))) (
              .reg [5, 7, 8, 10, 11, 12, 46, 47] [
                ⟨none, (some 93), .bin .add .i64 (.t 47) (.c (Go.Value.int Go.IntKind.i64 1))⟩,
                ⟨none, (some 47), .mov (.t 93)⟩]))))))) (
        .seq (
          .seq (
            .reg [5, 7, 8, 10, 11, 95] [
              ⟨none, (some 94), .mov (.t 10)⟩,
              ⟨none, (some 95), .bin .lss .i64 (.t 94) (.c (Go.Value.int Go.IntKind.i64 0))⟩]) (
          .cond (.t 95) (
            .seq (
              .reg [4, 5] [
                ⟨none, (some 96), .mov (.t 8)⟩,
                ⟨none, (some 97), .call 54 [(.t 96)]⟩,
                ⟨none, (some 98), .build [.int .i64 0, .int .i64 0] []⟩,
                ⟨none, (some 4), .mov (.t 97)⟩,
                ⟨none, none, .store 2 (.t 5) (.t 98)⟩]) (
            .ret)) (
            .skip))) (
        .seq (
          .reg [5, 7, 8, 11] [
            ⟨none, (some 99), .mov (.t 8)⟩,
            ⟨none, (some 100), .mov (.t 10)⟩,
            ⟨none, (some 101), .mov (.t 8)⟩,
            ⟨none, (some 102), .mov (.t 10)⟩,
            ⟨none, (some 103), .iaddr 1 (.t 101) (.t 102)⟩,
            ⟨none, (some 105), .mov (.t 8)⟩,
            ⟨none, (some 106), .mov (.t 11)⟩,
            ⟨none, (some 107), .iaddr 1 (.t 105) (.t 106)⟩,
            ⟨none, (some 109), .mov (.t 7)⟩,
            ⟨none, (some 104), .load none (.t 103)⟩,
            ⟨none, (some 108), .load none (.t 107)⟩,
            ⟨none, (some 110), .call 55 [(.t 104), (.t 108), (.t 109)]⟩,
            ⟨none, (some 111), .iaddr 1 (.t 99) (.t 100)⟩,
            ⟨none, none, .store 1 (.t 111) (.t 110)⟩]) (
        .reg [5, 7, 8] [
          ⟨none, (some 112), .mov (.t 8)⟩,
          ⟨none, (some 113), .mov (.t 11)⟩,
          ⟨none, (some 114), .mov (.t 11)⟩,
          ⟨none, (some 115), .bin .add .i64 (.t 114) (.c (Go.Value.int Go.IntKind.i64 1))⟩,
          ⟨none, (some 116), .call 56 [(.t 112), (.t 113), (.t 115)]⟩,
          ⟨none, (some 8), .mov (.t 116)⟩]))))))))))))
theorem e19 : erase Try.prog h19 (codeOf Try.f19) = c19 := by kernel_rfl
theorem g19 {T : Tab} (hP : TabOK Try.prog T) {ag : List Arg} {R : Res} {xs : List Row} (hT : T.base = nrows ag) (hl : ag.length ≤ 117) (hnt : noTake ag = true)
    (h : vc T c19 ⟨env0 0 0 ag, rows0 0 ag⟩ (fin T [.tmp 4, .cell 5 (some 2)] ag R xs) (fun _ _ => False) (fin T [.tmp 4, .cell 5 (some 2)] ag R xs)) : GCall Try.prog 19 ag R xs :=
  gcall_of_vc (H := h19) Try.func19 (fn := Try.f19) (code := codeOf Try.f19) (by kernel_rfl) e19 (by kernel_rfl) (rvs := [.tmp 4, .cell 5 (some 2)]) (by kernel_rfl) (by kernel_rfl) hP hT (by rw [show Try.f19.ntmps = 117 by kernel_rfl]; exact hl) hnt h

def h54 : Hint := ⟨36, fun n => lk [(0, [0]), (1, [0, 3]), (2, [0, 3, 9, 10, 11]), (3, [0, 3, 9, 10, 11, 12]), (4, [0, 3, 5, 9, 10, 11]), (5, [0, 3, 9, 10, 11]), (6, [0, 3, 9, 10, 11, 20]), (7, [0, 3, 9, 10, 11]), (8, [0, 3, 9, 10, 11]), (9, [0, 6]), (10, [6, 25, 26, 27]), (11, [6, 25, 26, 27, 28]), (12, [6, 8, 25, 26, 27]), (13, [6, 25, 26, 27]), (14, [6, 25, 26, 27]), (15, [2])] n, fun n => mem [] n, fun n => mem [] n, fun n => lkd [] n⟩
def c54 : CC :=
  .seq (
    .reg [0] [
      ⟨none, (some 2), .mov (.c (Go.Value.slice none 0 0))⟩]) (
  .seq (
    .reg [0, 3] [
      ⟨none, (some 3), .mov (.c (Go.Value.int Go.IntKind.i64 0))⟩]) (
  .seq (
    .seq (
      .reg [0, 3, 9, 10, 11] [
        ⟨none, (some 9), .mov (.t 0)⟩,
        ⟨none, (some 10), .len (.t 9)⟩,
        ⟨none, (some 11), .mov (.c (Go.Value.int Go.IntKind.i64 0))⟩]) (
    .block 0 (
      .loop (
        .seq (
          .reg [0, 3, 9, 10, 11, 12] [
            ⟨none, (some 12), .bin .lss .i64 (.t 11) (.t 10)⟩]) (
        .seq (
          .cond (.t 12) (
            .skip) (
            .exit 0)) (
        .seq (
          .block 1 (
            .seq (
              .reg [0, 3, 5, 9, 10, 11] [
                ⟨none, (some 13), .iaddr 1 (.t 9) (.t 11)⟩,
                ⟨none, (some 14), .load none (.t 13)⟩,
                ⟨none, (some 5), .mov (.t 14)⟩]) (
            .seq (
              .reg [0, 3, 9, 10, 11] [
                ⟨none, (some 15), .mov (.t 3)⟩,
                ⟨none, (some 16), .mov (.t 5)⟩,
                ⟨none, (some 17), .len (.t 16)⟩,
                ⟨none, (some 18), .bin .add .i64 (.t 15) (.t 17)⟩,
                ⟨none, (some 3), .mov (.t 18)⟩]) (
            .seq (
              .reg [0, 3, 9, 10, 11, 20] [
                ⟨none, (some 19), .mov (.t 3)⟩,
                ⟨none, (some 20), .bin .lss .i64 (.t 19) (.c (Go.Value.int Go.IntKind.i64 0))⟩]) (
            .cond (.t 20) (
              .reg [0, 3, 9, 10, 11] [
                ⟨none, (some 21), .mki⟩,
                ⟨none, none, .pan⟩]) (
              .skip)))))) (
        .reg [0, 3, 9, 10, 11] [
          ⟨none, (some 22), .bin .add .i64 (.t 11) (.c (Go.Value.int Go.IntKind.i64 1))⟩,
          ⟨none, (some 11), .mov (.t 22)⟩]))))))) (
  .seq (
    .reg [0, 6] [
      ⟨none, (some 23), .mov (.t 3)⟩,
      ⟨none, (some 24), .call 85 [(.c (Go.Value.slice none 0 0)), (.t 23)]⟩,
      ⟨none, (some 6), .mov (.t 24)⟩]) (
  .seq (
    .seq (
      .reg [6, 25, 26, 27] [
        ⟨none, (some 25), .mov (.t 0)⟩,
        ⟨none, (some 26), .len (.t 25)⟩,
        ⟨none, (some 27), .mov (.c (Go.Value.int Go.IntKind.i64 0))⟩]) (
    .block 2 (
      .loop (
        .seq (
          .reg [6, 25, 26, 27, 28] [
            ⟨none, (some 28), .bin .lss .i64 (.t 27) (.t 26)⟩]) (
        .seq (
          .cond (.t 28) (
            .skip) (
            .exit 2)) (
        .seq (
          .block 3 (
            .seq (
              .reg [6, 8, 25, 26, 27] [
                ⟨none, (some 29), .iaddr 1 (.t 25) (.t 27)⟩,
                ⟨none, (some 30), .load none (.t 29)⟩,
                ⟨none, (some 8), .mov (.t 30)⟩]) (
            .reg [6, 25, 26, 27] [
              ⟨none, (some 31), .mov (.t 6)⟩,
              ⟨none, (some 32), .mov (.t 8)⟩,
              ⟨none, (some 33), .apps 3 1 8 (.t 31) (.t 32)⟩,
              ⟨none, (some 6), .mov (.t 33)⟩]))) (
        .reg [6, 25, 26, 27] [
          ⟨none, (some 34), .bin .add .i64 (.t 27) (.c (Go.Value.int Go.IntKind.i64 1))⟩,
          ⟨none, (some 27), .mov (.t 34)⟩]))))))) (
  .seq (
    .reg [2] [
      ⟨none, (some 35), .mov (.t 6)⟩,
      ⟨none, (some 2), .mov (.t 35)⟩]) (
  .ret))))))
theorem e54 : erase Try.prog h54 (codeOf Try.f54) = c54 := by kernel_rfl
theorem g54 {T : Tab} (hP : TabOK Try.prog T) {ag : List Arg} {R : Res} {xs : List Row} (hT : T.base = nrows ag) (hl : ag.length ≤ 36) (hnt : noTake ag = true)
    (h : vc T c54 ⟨env0 0 0 ag, rows0 0 ag⟩ (fin T [.tmp 2] ag R xs) (fun _ _ => False) (fin T [.tmp 2] ag R xs)) : GCall Try.prog 54 ag R xs :=
  gcall_of_vc (H := h54) Try.func54 (fn := Try.f54) (code := codeOf Try.f54) (by kernel_rfl) e54 (by kernel_rfl) (rvs := [.tmp 2]) (by kernel_rfl) (by kernel_rfl) hP hT (by rw [show Try.f54.ntmps = 36 by kernel_rfl]; exact hl) hnt h

def h55 : Hint := ⟨69, fun n => lk [(0, [0, 1, 2]), (1, [0, 1, 2, 7, 8]), (2, [0, 1, 2, 7, 8]), (3, [0, 1, 2, 7, 8]), (4, [0, 1, 2, 7, 8, 9]), (5, [0, 1, 2, 7, 8, 9, 10]), (6, [2, 9, 10, 34, 35, 36]), (7, [2, 9, 10, 34, 35, 36, 37]), (8, [2, 9, 10, 12, 34, 35, 36]), (9, [2, 9, 10, 12, 13, 34, 35, 36]), (10, [2, 9, 10, 12, 13, 34, 35, 36, 59]), (11, [2, 10, 12, 34, 35, 36]), (12, [2, 9, 10, 34, 35, 36]), (13, [2, 9, 10, 34, 35, 36]), (14, [6])] n, fun n => mem [] n, fun n => mem [] n, fun n => lkd [(9, [(0, .p), (1, .p), (3, .p), (11, .p), (2, .r), (4, .r), (5, .p), (6, .p), (7, .p), (8, .r), (9, .p), (10, .r), (12, .r), (13, .p), (14, .r), (15, .p), (16, .r), (17, .p)])] n⟩
def c55 : CC :=
  .seq (
    .reg [0, 1, 2] [
      ⟨none, (some 6), .mov (.c (Go.Value.slice none 0 0))⟩]) (
  .seq (
    .reg [0, 1, 2, 7, 8] [
      ⟨none, (some 14), .mov (.t 0)⟩,
      ⟨none, (some 15), .call 86 [(.t 14)]⟩,
      ⟨none, (some 16), .mov (.t 1)⟩,
      ⟨none, (some 17), .call 86 [(.t 16)]⟩,
      ⟨none, (some 7), .mov (.t 15)⟩,
      ⟨none, (some 8), .mov (.t 17)⟩]) (
  .seq (
    .reg [0, 1, 2, 7, 8] [
      ⟨none, (some 18), .mov (.t 7)⟩,
      ⟨none, (some 19), .call 87 [(.t 18)]⟩]) (
  .seq (
    .reg [0, 1, 2, 7, 8] [
      ⟨none, (some 20), .mov (.t 8)⟩,
      ⟨none, (some 21), .call 87 [(.t 20)]⟩]) (
  .seq (
    .reg [0, 1, 2, 7, 8, 9] [
      ⟨none, (some 9), .mov (.c (Go.Value.slice none 0 0))⟩]) (
  .seq (
    .reg [0, 1, 2, 7, 8, 9, 10] [
      ⟨none, (some 10), .mov (.c (Go.Value.int Go.IntKind.i64 (-1)))⟩]) (
  .seq (
    .seq (
      .reg [2, 9, 10, 34, 35, 36] [
        ⟨none, (some 22), .mov (.t 0)⟩,
        ⟨none, (some 23), .mov (.t 1)⟩,
        ⟨none, (some 24), .build [.slice none 0 0, .slice none 0 0] [(0, 1, (.t 22)), (1, 1, (.t 23))]⟩,
        ⟨none, (some 25), .mov (.t 0)⟩,
        ⟨none, (some 26), .mov (.t 8)⟩,
        ⟨none, (some 27), .build [.slice none 0 0, .slice none 0 0] [(0, 1, (.t 25)), (1, 1, (.t 26))]⟩,
        ⟨none, (some 28), .mov (.t 7)⟩,
        ⟨none, (some 29), .mov (.t 1)⟩,
        ⟨none, (some 30), .build [.slice none 0 0, .slice none 0 0] [(0, 1, (.t 28)), (1, 1, (.t 29))]⟩,
        ⟨none, (some 31), .mov (.t 7)⟩,
        ⟨none, (some 32), .mov (.t 8)⟩,
        ⟨none, (some 33), .build [.slice none 0 0, .slice none 0 0] [(0, 1, (.t 31)), (1, 1, (.t 32))]⟩,
        ⟨none, (some 34), .bsl 109 2 [(.t 24), (.t 27), (.t 30), (.t 33)]⟩,
        ⟨none, (some 35), .len (.t 34)⟩,
        ⟨none, (some 36), .mov (.c (Go.Value.int Go.IntKind.i64 0))⟩]) (
    .block 0 (
      .loop (
        .seq (
          .reg [2, 9, 10, 34, 35, 36, 37] [
            ⟨none, (some 37), .bin .lss .i64 (.t 36) (.t 35)⟩]) (
        .seq (
          .cond (.t 37) (
            .skip) (
            .exit 0)) (
        .seq (
          .block 1 (
            .seq (
              .reg [2, 9, 10, 12, 34, 35, 36] [
                ⟨none, (some 38), .iaddr 2 (.t 34) (.t 36)⟩,
                ⟨none, (some 39), .load (some 2) (.t 38)⟩,
                ⟨none, (some 12), .alloc [.slice none 0 0, .slice none 0 0]⟩,
                ⟨none, none, .store 2 (.t 12) (.t 39)⟩]) (
            .seq (
              .reg [2, 9, 10, 12, 13, 34, 35, 36] [
                ⟨none, (some 40), .mov (.t 2)⟩,
                ⟨none, (some 41), .aaddr 2 1 (.t 12) (.c (Go.Value.int Go.IntKind.i64 0))⟩,
                ⟨none, (some 43), .aaddr 2 1 (.t 12) (.c (Go.Value.int Go.IntKind.i64 0))⟩,
                ⟨none, (some 51), .aaddr 2 1 (.t 12) (.c (Go.Value.int Go.IntKind.i64 1))⟩,
                ⟨none, (some 42), .load none (.t 41)⟩,
                ⟨none, (some 44), .load none (.t 43)⟩,
                ⟨none, (some 45), .len (.t 44)⟩,
                ⟨none, (some 46), .bin .sub .i64 (.t 45) (.c (Go.Value.int Go.IntKind.i64 1))⟩,
                ⟨none, (some 47), .iaddr 1 (.t 42) (.t 46)⟩,
                ⟨none, (some 48), .load none (.t 47)⟩,
                ⟨none, (some 49), .iaddr 1 (.t 40) (.t 48)⟩,
                ⟨none, (some 50), .load none (.t 49)⟩,
                ⟨none, (some 52), .load none (.t 51)⟩,
                ⟨none, (some 53), .iaddr 1 (.t 52) (.c (Go.Value.int Go.IntKind.i64 0))⟩,
                ⟨none, (some 54), .load none (.t 53)⟩,
                ⟨none, (some 55), .iaddr 1 (.t 50) (.t 54)⟩,
                ⟨none, (some 56), .load none (.t 55)⟩,
                ⟨none, (some 13), .mov (.t 56)⟩]) (
            .seq (
              .reg [2, 9, 10, 12, 13, 34, 35, 36, 59] [
                ⟨none, (some 57), .mov (.t 13)⟩,
                ⟨none, (some 58), .mov (.t 10)⟩,
                ⟨none, (some 59), .bin .gtr .i64 (.t 57) (.t 58)⟩]) (
            .cond (.t 59) (
              .seq (
                .reg [2, 10, 12, 34, 35, 36] [
                  ⟨none, (some 60), .mov (.t 13)⟩,
                  ⟨none, (some 10), .mov (.t 60)⟩]) (
              .reg [2, 9, 10, 34, 35, 36] [
                ⟨none, (some 61), .aaddr 2 1 (.t 12) (.c (Go.Value.int Go.IntKind.i64 0))⟩,
                ⟨none, (some 62), .load none (.t 61)⟩,
                ⟨none, (some 63), .aaddr 2 1 (.t 12) (.c (Go.Value.int Go.IntKind.i64 1))⟩,
                ⟨none, (some 64), .load none (.t 63)⟩,
                ⟨none, (some 65), .bsl 22 1 [(.t 62), (.t 64)]⟩,
                ⟨none, (some 66), .call 54 [(.t 65)]⟩,
                ⟨none, (some 9), .mov (.t 66)⟩])) (
              .skip)))))) (
        .reg [2, 9, 10, 34, 35, 36] [
          ⟨none, (some 67), .bin .add .i64 (.t 36) (.c (Go.Value.int Go.IntKind.i64 1))⟩,
          ⟨none, (some 36), .mov (.t 67)⟩]))))))) (
  .seq (
    .reg [6] [
      ⟨none, (some 68), .mov (.t 9)⟩,
      ⟨none, (some 6), .mov (.t 68)⟩]) (
  .ret))))))))
theorem e55 : erase Try.prog h55 (codeOf Try.f55) = c55 := by kernel_rfl
theorem g55 {T : Tab} (hP : TabOK Try.prog T) {ag : List Arg} {R : Res} {xs : List Row} (hT : T.base = nrows ag) (hl : ag.length ≤ 69) (hnt : noTake ag = true)
    (h : vc T c55 ⟨env0 0 0 ag, rows0 0 ag⟩ (fin T [.tmp 6] ag R xs) (fun _ _ => False) (fin T [.tmp 6] ag R xs)) : GCall Try.prog 55 ag R xs :=
  gcall_of_vc (H := h55) Try.func55 (fn := Try.f55) (code := codeOf Try.f55) (by kernel_rfl) e55 (by kernel_rfl) (rvs := [.tmp 6]) (by kernel_rfl) (by kernel_rfl) hP hT (by rw [show Try.f55.ntmps = 69 by kernel_rfl]; exact hl) hnt h

def h60 : Hint := ⟨26, fun n => lk [(0, [0, 1]), (1, [0, 1, 5]), (2, [0, 1, 11, 12, 13]), (3, [0, 1, 11, 12, 13, 14]), (4, [0, 1, 6, 7, 11, 12, 13]), (5, [0, 1, 11, 12, 13, 20]), (6, [4]), (7, [0, 1, 11, 12, 13]), (8, [4])] n, fun n => mem [] n, fun n => mem [] n, fun n => lkd [] n⟩
def c60 : CC :=
  .seq (
    .reg [0, 1] [
      ⟨none, (some 4), .mov (.c (Go.Value.bool false))⟩]) (
  .seq (
    .reg [0, 1, 5] [
      ⟨none, (some 8), .mov (.t 0)⟩,
      ⟨none, (some 9), .call 89 [(.t 8)]⟩,
      ⟨none, (some 10), .call 88 [(.t 9)]⟩,
      ⟨none, (some 5), .mov (.t 10)⟩]) (
  .seq (
    .seq (
      .reg [0, 1, 11, 12, 13] [
        ⟨none, (some 11), .mov (.t 5)⟩,
        ⟨none, (some 12), .len (.t 11)⟩,
        ⟨none, (some 13), .mov (.c (Go.Value.int Go.IntKind.i64 0))⟩]) (
    .block 0 (
      .loop (
        .seq (
          .reg [0, 1, 11, 12, 13, 14] [
            ⟨none, (some 14), .bin .lss .i64 (.t 13) (.t 12)⟩]) (
        .seq (
          .cond (.t 14) (
            .skip) (
            .exit 0)) (
        .seq (
          .block 1 (
            .seq (
              .reg [0, 1, 6, 7, 11, 12, 13] [
                ⟨none, (some 15), .mov (.t 13)⟩,
                ⟨none, (some 16), .iaddr 1 (.t 11) (.t 13)⟩,
                ⟨none, (some 17), .load none (.t 16)⟩,
                ⟨none, (some 6), .mov (.t 15)⟩,
                ⟨none, (some 7), .mov (.t 17)⟩]) (
            .seq (
              .reg [0, 1, 11, 12, 13, 20] [
                ⟨none, (some 18), .mov (.t 7)⟩,
                ⟨none, (some 19), .mov (.t 6)⟩,
                ⟨none, (some 20), .bin .neq .i64 (.t 18) (.t 19)⟩]) (
            .cond (.t 20) (
              .seq (
                .reg [4] [
                  ⟨none, (some 4), .mov (.c (Go.Value.bool false))⟩]) (
              .ret)) (
              .skip))))) (
        .reg [0, 1, 11, 12, 13] [
          ⟨none, (some 21), .bin .add .i64 (.t 13) (.c (Go.Value.int Go.IntKind.i64 1))⟩,
          ⟨none, (some 13), .mov (.t 21)⟩]))))))) (
  .seq (
    .reg [4] [
      ⟨none, (some 22), .mov (.t 0)⟩,
      ⟨none, (some 23), .len (.t 22)⟩,
      ⟨none, (some 24), .mov (.t 1)⟩,
      ⟨none, (some 25), .bin .eql .i64 (.t 23) (.t 24)⟩,
      ⟨none, (some 4), .mov (.t 25)⟩]) (
  .ret))))
theorem e60 : erase Try.prog h60 (codeOf Try.f60) = c60 := by kernel_rfl
theorem g60 {T : Tab} (hP : TabOK Try.prog T) {ag : List Arg} {R : Res} {xs : List Row} (hT : T.base = nrows ag) (hl : ag.length ≤ 26) (hnt : noTake ag = true)
    (h : vc T c60 ⟨env0 0 0 ag, rows0 0 ag⟩ (fin T [.tmp 4] ag R xs) (fun _ _ => False) (fin T [.tmp 4] ag R xs)) : GCall Try.prog 60 ag R xs :=
  gcall_of_vc (H := h60) Try.func60 (fn := Try.f60) (code := codeOf Try.f60) (by kernel_rfl) e60 (by kernel_rfl) (rvs := [.tmp 4]) (by kernel_rfl) (by kernel_rfl) hP hT (by rw [show Try.f60.ntmps = 26 by kernel_rfl]; exact hl) hnt h

def h86 : Hint := ⟨8, fun n => lk [(0, [0]), (1, [0, 4]), (2, [2]), (3, [2])] n, fun n => mem [] n, fun n => mem [] n, fun n => lkd [] n⟩
def c86 : CC :=
  .seq (
    .reg [0] [
      ⟨none, (some 2), .mov (.c (Go.Value.slice none 0 0))⟩]) (
  .seq (
    .seq (
      .reg [0, 4] [
        ⟨none, (some 3), .mov (.t 0)⟩,
        ⟨none, (some 4), .eqn false (.t 3)⟩]) (
    .cond (.t 4) (
      .seq (
        .reg [2] [
          ⟨none, (some 2), .mov (.c (Go.Value.slice none 0 0))⟩]) (
      .ret)) (
      .skip))) (
  .seq (
    .reg [2] [
      ⟨none, (some 5), .bsl 3 1 []⟩,
      ⟨none, (some 6), .mov (.t 0)⟩,
      ⟨none, (some 7), .apps 3 1 8 (.t 5) (.t 6)⟩,
      ⟨none, (some 2), .mov (.t 7)⟩]) (
  .ret)))
theorem e86 : erase Try.prog h86 (codeOf Try.f86) = c86 := by kernel_rfl
theorem g86 {T : Tab} (hP : TabOK Try.prog T) {ag : List Arg} {R : Res} {xs : List Row} (hT : T.base = nrows ag) (hl : ag.length ≤ 8) (hnt : noTake ag = true)
    (h : vc T c86 ⟨env0 0 0 ag, rows0 0 ag⟩ (fin T [.tmp 2] ag R xs) (fun _ _ => False) (fin T [.tmp 2] ag R xs)) : GCall Try.prog 86 ag R xs :=
  gcall_of_vc (H := h86) Try.func86 (fn := Try.f86) (code := codeOf Try.f86) (by kernel_rfl) e86 (by kernel_rfl) (rvs := [.tmp 2]) (by kernel_rfl) (by kernel_rfl) hP hT (by rw [show Try.f86.ntmps = 8 by kernel_rfl]; exact hl) hnt h

def h87 : Hint := ⟨28, fun n => lk [(0, [0, 2, 3]), (1, [0, 2, 3, 9]), (2, [0, 2, 3]), (3, [0, 2, 3])] n, fun n => mem [] n, fun n => mem [] n, fun n => lkd [(3, [(0, .p), (1, .p), (2, .p), (3, .p), (4, .p), (5, .p), (6, .p), (8, .p), (9, .p), (10, .p), (7, .r), (11, .r), (12, .p), (13, .g), (14, .p), (15, .g)])] n⟩
def c87 : CC :=
  .seq (
    .reg [0, 2, 3] [
      ⟨none, (some 4), .mov (.t 0)⟩,
      ⟨none, (some 5), .len (.t 4)⟩,
      ⟨none, (some 6), .bin .sub .i64 (.t 5) (.c (Go.Value.int Go.IntKind.i64 1))⟩,
      ⟨none, (some 2), .mov (.c (Go.Value.int Go.IntKind.i64 0))⟩,
      ⟨none, (some 3), .mov (.t 6)⟩]) (
  .block 0 (
    .loop (
      .seq (
        .seq (
          .reg [0, 2, 3, 9] [
            ⟨none, (some 7), .mov (.t 2)⟩,
            ⟨none, (some 8), .mov (.t 3)⟩,
            ⟨none, (some 9), .bin .lss .i64 (.t 7) (.t 8)⟩]) (
        .cond (.t 9) (
          .skip) (
          .exit 0))) (
      .seq (
        .block 1 (
          .reg [0, 2, 3] [
            ⟨none, (some 14), .mov (.t 0)⟩,
            ⟨none, (some 15), .mov (.t 2)⟩,
            ⟨none, (some 16), .mov (.t 0)⟩,
            ⟨none, (some 17), .mov (.t 3)⟩,
            ⟨none, (some 18), .mov (.t 0)⟩,
            ⟨none, (some 19), .mov (.t 3)⟩,
            ⟨none, (some 20), .iaddr 1 (.t 18) (.t 19)⟩,
            ⟨none, (some 22), .mov (.t 0)⟩,
            ⟨none, (some 23), .mov (.t 2)⟩,
            ⟨none, (some 24), .iaddr 1 (.t 22) (.t 23)⟩,
            ⟨none, (some 21), .load none (.t 20)⟩,
            ⟨none, (some 25), .load none (.t 24)⟩,
            ⟨none, (some 26), .iaddr 1 (.t 14) (.t 15)⟩,
            ⟨none, none, .store 1 (.t 26) (.t 21)⟩,
            ⟨none, (some 27), .iaddr 1 (.t 16) (.t 17)⟩,
            ⟨none, none, .store 1 (.t 27) (.t 25)⟩])) (
      .reg [0, 2, 3] [
        ⟨none, (some 10), .mov (.t 2)⟩,
        ⟨none, (some 11), .bin .add .i64 (.t 10) (.c (Go.Value.int Go.IntKind.i64 1))⟩,
        ⟨none, (some 12), .mov (.t 3)⟩,
        ⟨none, (some 13), .bin .sub .i64 (.t 12) (.c (Go.Value.int Go.IntKind.i64 1))⟩,
        ⟨none, (some 2), .mov (.t 11)⟩,
        ⟨none, (some 3), .mov (.t 13)⟩])))))
theorem e87 : erase Try.prog h87 (codeOf Try.f87) = c87 := by kernel_rfl
theorem g87 {T : Tab} (hP : TabOK Try.prog T) {ag : List Arg} {R : Res} {xs : List Row} (hT : T.base = nrows ag) (hl : ag.length ≤ 28) (hnt : noTake ag = true)
    (h : vc T c87 ⟨env0 0 0 ag, rows0 0 ag⟩ (fin T [] ag R xs) (fun _ _ => False) (fin T [] ag R xs)) : GCall Try.prog 87 ag R xs :=
  gcall_of_vc (H := h87) Try.func87 (fn := Try.f87) (code := codeOf Try.f87) (by kernel_rfl) e87 (by kernel_rfl) (rvs := []) (by kernel_rfl) (by kernel_rfl) hP hT (by rw [show Try.f87.ntmps = 28 by kernel_rfl]; exact hl) hnt h

def h3 : Hint := ⟨50, fun n => lk [(0, [0, 1]), (1, [0, 1, 5, 6]), (2, [0, 1, 5, 6, 7]), (3, [0, 1, 5, 6, 7, 19]), (4, [4]), (5, [4])] n, fun n => mem [] n, fun n => mem [] n, fun n => lkd [] n⟩
def c3 : CC :=
  .seq (
    .reg [0, 1] [
      ⟨none, (some 4), .mov (.c (Go.Value.bool false))⟩]) (
  .seq (
    .reg [0, 1, 5, 6] [
      ⟨none, (some 9), .mov (.t 0)⟩,
      ⟨none, (some 10), .mov (.t 1)⟩,
      ⟨none, (some 11), .call 19 [(.t 9), (.t 10)]⟩,
      ⟨none, (some 8), .mov (.t 11)⟩,
      ⟨none, (some 12), .ext (.t 8) 0⟩,
      ⟨none, (some 13), .ext (.t 8) 1⟩,
      ⟨none, (some 6), .alloc [.int .i64 0, .int .i64 0]⟩,
      ⟨none, (some 5), .mov (.t 12)⟩,
      ⟨none, none, .store 2 (.t 6) (.t 13)⟩]) (
  .seq (
    .reg [0, 1, 5, 6, 7] [
      ⟨none, (some 14), .mov (.t 0)⟩,
      ⟨none, (some 15), .mov (.t 1)⟩,
      ⟨none, (some 16), .call 20 [(.t 14), (.t 15)]⟩,
      ⟨none, (some 7), .alloc [.int .i64 0, .int .i64 0]⟩,
      ⟨none, none, .store 2 (.t 7) (.t 16)⟩]) (
  .seq (
    .seq (
      .reg [0, 1, 5, 6, 7, 19] [
        ⟨none, (some 17), .faddr 0 (.t 7)⟩,
        ⟨none, (some 18), .load none (.t 17)⟩,
        ⟨none, (some 19), .bin .neq .i64 (.t 18) (.c (Go.Value.int Go.IntKind.i64 0))⟩]) (
    .cond (.t 19) (
      .seq (
        .reg [4] [
          ⟨none, (some 20), .load (some 2) (.t 6)⟩,
          ⟨none, (some 21), .load (some 2) (.t 7)⟩,
          ⟨none, (some 22), .eqa false [(0, true), (1, true)] (.t 20) (.t 21)⟩,
          ⟨none, (some 23), .mov (.t 22)⟩,
          ⟨(some (23, true)), (some 24), .mov (.t 5)⟩,
          ⟨(some (23, true)), (some 25), .len (.t 24)⟩,
          ⟨(some (23, true)), (some 26), .bin .eql .i64 (.t 25) (.c (Go.Value.int Go.IntKind.i64 0))⟩,
          ⟨none, (some 27), .pick (.t 23) (.t 26) (.c (Go.Value.bool false))⟩,
          ⟨none, (some 28), .mov (.t 27)⟩,
          ⟨(some (28, true)), (some 29), .call 21 []⟩,
          ⟨none, (some 30), .pick (.t 28) (.t 29) (.c (Go.Value.bool false))⟩,
          ⟨none, (some 4), .mov (.t 30)⟩]) (
      .ret)) (
      .skip))) (
  .seq (
    .reg [4] [
      ⟨none, (some 31), .faddr 0 (.t 6)⟩,
      ⟨none, (some 32), .load none (.t 31)⟩,
      ⟨none, (some 33), .bin .eql .i64 (.t 32) (.c (Go.Value.int Go.IntKind.i64 0))⟩,
      ⟨none, (some 34), .mov (.t 33)⟩,
      ⟨(some (34, true)), (some 35), .mov (.t 0)⟩,
      ⟨(some (34, true)), (some 36), .len (.t 35)⟩,
      ⟨(some (34, true)), (some 37), .bin .gtr .i64 (.t 36) (.c (Go.Value.int Go.IntKind.i64 12))⟩,
      ⟨(some (34, true)), (some 38), .mov (.t 37)⟩,
      ⟨(some (38, false)), (some 39), .mov (.t 5)⟩,
      ⟨(some (38, false)), (some 40), .mov (.t 0)⟩,
      ⟨(some (38, false)), (some 41), .len (.t 40)⟩,
      ⟨(some (38, false)), (some 42), .mov (.t 1)⟩,
      ⟨(some (38, false)), (some 43), .call 23 [(.t 41), (.t 42)]⟩,
      ⟨(some (38, false)), (some 44), .call 22 [(.t 39), (.t 43)]⟩,
      ⟨(some (34, true)), (some 45), .pick (.t 38) (.c (Go.Value.bool true)) (.t 44)⟩,
      ⟨none, (some 46), .pick (.t 34) (.t 45) (.c (Go.Value.bool false))⟩,
      ⟨none, (some 47), .mov (.t 46)⟩,
      ⟨(some (47, true)), (some 48), .call 21 []⟩,
      ⟨none, (some 49), .pick (.t 47) (.t 48) (.c (Go.Value.bool false))⟩,
      ⟨none, (some 4), .mov (.t 49)⟩]) (
  .ret)))))
theorem e3 : erase Try.prog h3 (codeOf Try.f3) = c3 := by kernel_rfl
theorem g3 {T : Tab} (hP : TabOK Try.prog T) {ag : List Arg} {R : Res} {xs : List Row} (hT : T.base = nrows ag) (hl : ag.length ≤ 50) (hnt : noTake ag = true)
    (h : vc T c3 ⟨env0 0 0 ag, rows0 0 ag⟩ (fin T [.tmp 4] ag R xs) (fun _ _ => False) (fin T [.tmp 4] ag R xs)) : GCall Try.prog 3 ag R xs :=
  gcall_of_vc (H := h3) Try.func3 (fn := Try.f3) (code := codeOf Try.f3) (by kernel_rfl) e3 (by kernel_rfl) (rvs := [.tmp 4]) (by kernel_rfl) (by kernel_rfl) hP hT (by rw [show Try.f3.ntmps = 50 by kernel_rfl]; exact hl) hnt h

def h4 : Hint := ⟨58, fun n => lk [(0, [0, 1, 2]), (1, [0, 1, 2, 7, 8]), (2, [0, 1, 2, 7, 8, 9]), (3, [0, 1, 2, 7, 8, 9, 29]), (4, [0, 1, 2, 7, 8, 9]), (5, [0, 1, 2, 7, 8, 9, 33]), (6, [6]), (7, [6])] n, fun n => mem [] n, fun n => mem [] n, fun n => lkd [] n⟩
def c4 : CC :=
  .seq (
    .reg [0, 1, 2] [
      ⟨none, (some 6), .mov (.c (Go.Value.bool false))⟩]) (
  .seq (
    .reg [0, 1, 2, 7, 8] [
      ⟨none, (some 11), .mov (.t 0)⟩,
      ⟨none, (some 12), .mov (.t 1)⟩,
      ⟨none, (some 13), .mov (.t 2)⟩,
      ⟨none, (some 14), .call 24 [(.t 11), (.t 12), (.t 13)]⟩,
      ⟨none, (some 10), .mov (.t 14)⟩,
      ⟨none, (some 15), .ext (.t 10) 0⟩,
      ⟨none, (some 16), .ext (.t 10) 1⟩,
      ⟨none, (some 8), .alloc [.int .i64 0, .int .i64 0]⟩,
      ⟨none, (some 7), .mov (.t 15)⟩,
      ⟨none, none, .store 2 (.t 8) (.t 16)⟩]) (
  .seq (
    .reg [0, 1, 2, 7, 8, 9] [
      ⟨none, (some 17), .mov (.t 0)⟩,
      ⟨none, (some 18), .mov (.t 1)⟩,
      ⟨none, (some 19), .call 20 [(.t 17), (.t 18)]⟩,
      ⟨none, (some 9), .alloc [.int .i64 0, .int .i64 0]⟩,
      ⟨none, none, .store 2 (.t 9) (.t 19)⟩]) (
  .seq (
    .seq (
      .reg [0, 1, 2, 7, 8, 9, 29] [
        ⟨none, (some 20), .faddr 0 (.t 9)⟩,
        ⟨none, (some 21), .load none (.t 20)⟩,
        ⟨none, (some 22), .bin .eql .i64 (.t 21) (.c (Go.Value.int Go.IntKind.i64 0))⟩,
        ⟨none, (some 23), .mov (.t 22)⟩,
        ⟨(some (23, true)), (some 24), .mov (.t 2)⟩,
        ⟨(some (23, true)), (some 25), .mov (.t 0)⟩,
        ⟨(some (23, true)), (some 26), .len (.t 25)⟩,
        ⟨(some (23, true)), (some 27), .call 25 [(.t 24), (.t 26)]⟩,
        ⟨(some (23, true)), (some 28), .not (.t 27)⟩,
        ⟨none, (some 29), .pick (.t 23) (.t 28) (.c (Go.Value.bool false))⟩]) (
    .cond (.t 29) (
      .reg [0, 1, 2, 7, 8, 9] [
        ⟨none, (some 30), .call 26 [(.c (Go.Value.int Go.IntKind.i64 5)), (.c (Go.Value.int Go.IntKind.i64 (-3)))]⟩,
        ⟨none, none, .store 2 (.t 9) (.t 30)⟩]) (
      .skip))) (
  .seq (
    .seq (
      .reg [0, 1, 2, 7, 8, 9, 33] [
        ⟨none, (some 31), .faddr 0 (.t 9)⟩,
        ⟨none, (some 32), .load none (.t 31)⟩,
        ⟨none, (some 33), .bin .neq .i64 (.t 32) (.c (Go.Value.int Go.IntKind.i64 0))⟩]) (
    .cond (.t 33) (
      .seq (
        .reg [6] [
          ⟨none, (some 34), .load (some 2) (.t 8)⟩,
          ⟨none, (some 35), .load (some 2) (.t 9)⟩,
          ⟨none, (some 36), .eqa false [(0, true), (1, true)] (.t 34) (.t 35)⟩,
          ⟨none, (some 37), .mov (.t 36)⟩,
          ⟨(some (37, true)), (some 38), .mov (.t 7)⟩,
          ⟨(some (37, true)), (some 39), .bin .eql .i64 (.t 38) (.c (Go.Value.int Go.IntKind.i64 0))⟩,
          ⟨none, (some 40), .pick (.t 37) (.t 39) (.c (Go.Value.bool false))⟩,
          ⟨none, (some 41), .mov (.t 40)⟩,
          ⟨(some (41, true)), (some 42), .call 21 []⟩,
          ⟨none, (some 43), .pick (.t 41) (.t 42) (.c (Go.Value.bool false))⟩,
          ⟨none, (some 6), .mov (.t 43)⟩]) (
      .ret)) (
      .skip))) (
  .seq (
    .reg [6] [
      ⟨none, (some 44), .faddr 0 (.t 8)⟩,
      ⟨none, (some 45), .load none (.t 44)⟩,
      ⟨none, (some 46), .bin .eql .i64 (.t 45) (.c (Go.Value.int Go.IntKind.i64 0))⟩,
      ⟨none, (some 47), .mov (.t 46)⟩,
      ⟨(some (47, true)), (some 48), .mov (.t 7)⟩,
      ⟨(some (47, true)), (some 49), .mov (.t 0)⟩,
      ⟨(some (47, true)), (some 50), .mov (.t 1)⟩,
      ⟨(some (47, true)), (some 51), .mov (.t 2)⟩,
      ⟨(some (47, true)), (some 52), .call 27 [(.t 49), (.t 50), (.t 51)]⟩,
      ⟨(some (47, true)), (some 53), .bin .eql .i64 (.t 48) (.t 52)⟩,
      ⟨none, (some 54), .pick (.t 47) (.t 53) (.c (Go.Value.bool false))⟩,
      ⟨none, (some 55), .mov (.t 54)⟩,
      ⟨(some (55, true)), (some 56), .call 21 []⟩,
      ⟨none, (some 57), .pick (.t 55) (.t 56) (.c (Go.Value.bool false))⟩,
      ⟨none, (some 6), .mov (.t 57)⟩]) (
  .ret))))))
theorem e4 : erase Try.prog h4 (codeOf Try.f4) = c4 := by kernel_rfl
theorem g4 {T : Tab} (hP : TabOK Try.prog T) {ag : List Arg} {R : Res} {xs : List Row} (hT : T.base = nrows ag) (hl : ag.length ≤ 58) (hnt : noTake ag = true)
    (h : vc T c4 ⟨env0 0 0 ag, rows0 0 ag⟩ (fin T [.tmp 6] ag R xs) (fun _ _ => False) (fin T [.tmp 6] ag R xs)) : GCall Try.prog 4 ag R xs :=
  gcall_of_vc (H := h4) Try.func4 (fn := Try.f4) (code := codeOf Try.f4) (by kernel_rfl) e4 (by kernel_rfl) (rvs := [.tmp 6]) (by kernel_rfl) (by kernel_rfl) hP hT (by rw [show Try.f4.ntmps = 58 by kernel_rfl]; exact hl) hnt h

def h5 : Hint := ⟨25, fun n => lk [(0, [0, 1]), (1, [0, 5, 6]), (2, [4])] n, fun n => mem [] n, fun n => mem [] n, fun n => lkd [] n⟩
def c5 : CC :=
  .seq (
    .reg [0, 1] [
      ⟨none, (some 4), .mov (.c (Go.Value.bool false))⟩]) (
  .seq (
    .reg [0, 5, 6] [
      ⟨none, (some 8), .mov (.t 0)⟩,
      ⟨none, (some 9), .mov (.t 1)⟩,
      ⟨none, (some 10), .call 19 [(.t 8), (.t 9)]⟩,
      ⟨none, (some 7), .mov (.t 10)⟩,
      ⟨none, (some 11), .ext (.t 7) 0⟩,
      ⟨none, (some 12), .ext (.t 7) 1⟩,
      ⟨none, (some 6), .alloc [.int .i64 0, .int .i64 0]⟩,
      ⟨none, (some 5), .mov (.t 11)⟩,
      ⟨none, none, .store 2 (.t 6) (.t 12)⟩]) (
  .seq (
    .reg [4] [
      ⟨none, (some 13), .faddr 0 (.t 6)⟩,
      ⟨none, (some 14), .load none (.t 13)⟩,
      ⟨none, (some 15), .bin .neq .i64 (.t 14) (.c (Go.Value.int Go.IntKind.i64 0))⟩,
      ⟨none, (some 16), .mov (.t 15)⟩,
      ⟨(some (16, false)), (some 17), .mov (.t 5)⟩,
      ⟨(some (16, false)), (some 18), .mov (.t 0)⟩,
      ⟨(some (16, false)), (some 19), .len (.t 18)⟩,
      ⟨(some (16, false)), (some 20), .call 25 [(.t 17), (.t 19)]⟩,
      ⟨none, (some 21), .pick (.t 16) (.c (Go.Value.bool true)) (.t 20)⟩,
      ⟨none, (some 22), .mov (.t 21)⟩,
      ⟨(some (22, true)), (some 23), .call 21 []⟩,
      ⟨none, (some 24), .pick (.t 22) (.t 23) (.c (Go.Value.bool false))⟩,
      ⟨none, (some 4), .mov (.t 24)⟩]) (
  .ret)))
theorem e5 : erase Try.prog h5 (codeOf Try.f5) = c5 := by kernel_rfl
theorem g5 {T : Tab} (hP : TabOK Try.prog T) {ag : List Arg} {R : Res} {xs : List Row} (hT : T.base = nrows ag) (hl : ag.length ≤ 25) (hnt : noTake ag = true)
    (h : vc T c5 ⟨env0 0 0 ag, rows0 0 ag⟩ (fin T [.tmp 4] ag R xs) (fun _ _ => False) (fin T [.tmp 4] ag R xs)) : GCall Try.prog 5 ag R xs :=
  gcall_of_vc (H := h5) Try.func5 (fn := Try.f5) (code := codeOf Try.f5) (by kernel_rfl) e5 (by kernel_rfl) (rvs := [.tmp 4]) (by kernel_rfl) (by kernel_rfl) hP hT (by rw [show Try.f5.ntmps = 25 by kernel_rfl]; exact hl) hnt h

def h6 : Hint := ⟨97, fun n => lk [(0, [0, 1]), (1, [0, 1, 5, 6]), (2, [0, 1, 5, 23]), (3, [4]), (4, [0, 1, 5, 7]), (5, [0, 1, 5, 7, 8]), (6, [0, 1, 5, 7, 8, 29]), (7, [0, 1, 5, 7, 8]), (8, [0, 1, 5, 7, 8]), (9, [0, 1, 5, 7, 9, 10]), (10, [0, 5, 7, 9, 10, 11, 12]), (11, [5, 9, 10, 11, 12, 13, 14]), (12, [4])] n, fun n => mem [50] n, fun n => mem [] n, fun n => lkd [(8, [(0, .p), (1, .p), (2, .p), (3, .p), (4, .p), (6, .p), (7, .p), (8, .p), (9, .p), (11, .p), (12, .p), (13, .p), (14, .p), (5, .r), (10, .r), (15, .r), (16, .p), (17, .g), (18, .g), (19, .p)])] n⟩
def c6 : CC :=
  .seq (
    .reg [0, 1] [
      ⟨none, (some 4), .mov (.c (Go.Value.bool false))⟩]) (
  .seq (
    .reg [0, 1, 5, 6] [
      ⟨none, (some 16), .mov (.t 0)⟩,
      ⟨none, (some 17), .mov (.t 1)⟩,
      ⟨none, (some 18), .call 19 [(.t 16), (.t 17)]⟩,
      ⟨none, (some 15), .mov (.t 18)⟩,
      ⟨none, (some 19), .ext (.t 15) 0⟩,
      ⟨none, (some 20), .ext (.t 15) 1⟩,
      ⟨none, (some 6), .alloc [.int .i64 0, .int .i64 0]⟩,
      ⟨none, (some 5), .mov (.t 19)⟩,
      ⟨none, none, .store 2 (.t 6) (.t 20)⟩]) (
  .seq (
    .seq (
      .reg [0, 1, 5, 23] [
        ⟨none, (some 21), .faddr 0 (.t 6)⟩,
        ⟨none, (some 22), .load none (.t 21)⟩,
        ⟨none, (some 23), .bin .neq .i64 (.t 22) (.c (Go.Value.int Go.IntKind.i64 0))⟩]) (
    .cond (.t 23) (
      .seq (
        .reg [4] [
          ⟨none, (some 24), .call 21 []⟩,
          ⟨none, (some 4), .mov (.t 24)⟩]) (
      .ret)) (
      .skip))) (
  .seq (
    .reg [0, 1, 5, 7] [
      ⟨none, (some 7), .mov (.c (Go.Value.slice none 0 0))⟩]) (
  .seq (
    .seq (
      .reg [0, 1, 5, 7, 8] [
        ⟨none, (some 25), .mov (.t 1)⟩,
        ⟨none, (some 26), .len (.t 25)⟩,
        ⟨none, (some 27), .bin .sub .i64 (.t 26) (.c (Go.Value.int Go.IntKind.i64 1))⟩,
        ⟨none, (some 8), .mov (.t 27)⟩]) (
    .block 0 (
      .loop (
        .seq (
          .seq (
            .reg [0, 1, 5, 7, 8, 29] [
              ⟨none, (some 28), .mov (.t 8)⟩,
              ⟨none, (some 29), .bin .geq .i64 (.t 28) (.c (Go.Value.int Go.IntKind.i64 0))⟩]) (
          .cond (.t 29) (
            .skip) (
            .exit 0))) (
        .seq (
          .block 1 (
            .reg [0, 1, 5, 7, 8] [
              ⟨none, (some 32), .mov (.t 7)⟩,
              ⟨none, (some 33), .mov (.t 1)⟩,
              ⟨none, (some 34), .mov (.t 8)⟩,
              ⟨none, (some 35), .iaddr 3 (.t 33) (.t 34)⟩,
              ⟨none, (some 36), .faddr 1 (.t 35)⟩,
              ⟨none, (some 38), .mov (.t 1)⟩,
              ⟨none, (some 39), .mov (.t 8)⟩,
              ⟨none, (some 40), .iaddr 3 (.t 38) (.t 39)⟩,
              ⟨none, (some 41), .faddr 0 (.t 40)⟩,
              ⟨none, (some 43), .mov (.t 1)⟩,
              ⟨none, (some 44), .mov (.t 8)⟩,
              ⟨none, (some 45), .iaddr 3 (.t 43) (.t 44)⟩,
              ⟨none, (some 46), .faddr 2 (.t 45)⟩,
              ⟨none, (some 37), .load none (.t 36)⟩,
              ⟨none, (some 42), .load none (.t 41)⟩,
              ⟨none, (some 47), .load none (.t 46)⟩,
              ⟨none, (some 48), .build [.int .i64 0, .int .i64 0, .int .i64 0] [(0, 1, (.t 37)), (1, 1, (.t 42)), (2, 1, (.t 47))]⟩,
              ⟨none, (some 49), .bsl 40 3 [(.t 48)]⟩,
              ⟨none, (some 50), .app1 40 3 24 (.t 32) (.t 49)⟩,
              ⟨none, (some 7), .mov (.t 50)⟩])) (
        .reg [0, 1, 5, 7, 8] [
          ⟨none, (some 30), .mov (.t 8)⟩,
          ⟨none, (some 31), .bin .sub .i64 (.t 30) (.c (Go.Value.int Go.IntKind.i64 1))⟩,
          ⟨none, (some 8), .mov (.t 31)⟩])))))) (
  .seq (
    .reg [0, 1, 5, 7, 9, 10] [
      ⟨none, (some 52), .mov (.t 0)⟩,
      ⟨none, (some 53), .mov (.t 7)⟩,
      ⟨none, (some 54), .call 19 [(.t 52), (.t 53)]⟩,
      ⟨none, (some 51), .mov (.t 54)⟩,
      ⟨none, (some 55), .ext (.t 51) 0⟩,
      ⟨none, (some 56), .ext (.t 51) 1⟩,
      ⟨none, (some 10), .alloc [.int .i64 0, .int .i64 0]⟩,
      ⟨none, (some 9), .mov (.t 55)⟩,
      ⟨none, none, .store 2 (.t 10) (.t 56)⟩]) (
  .seq (
    .reg [0, 5, 7, 9, 10, 11, 12] [
      ⟨none, (some 58), .mov (.t 0)⟩,
      ⟨none, (some 59), .mov (.t 1)⟩,
      ⟨none, (some 60), .mov (.t 5)⟩,
      ⟨none, (some 61), .call 24 [(.t 58), (.t 59), (.t 60)]⟩,
      ⟨none, (some 57), .mov (.t 61)⟩,
      ⟨none, (some 62), .ext (.t 57) 0⟩,
      ⟨none, (some 63), .ext (.t 57) 1⟩,
      ⟨none, (some 12), .alloc [.int .i64 0, .int .i64 0]⟩,
      ⟨none, (some 11), .mov (.t 62)⟩,
      ⟨none, none, .store 2 (.t 12) (.t 63)⟩]) (
  .seq (
    .reg [5, 9, 10, 11, 12, 13, 14] [
      ⟨none, (some 65), .mov (.t 0)⟩,
      ⟨none, (some 66), .mov (.t 7)⟩,
      ⟨none, (some 67), .mov (.t 5)⟩,
      ⟨none, (some 68), .call 24 [(.t 65), (.t 66), (.t 67)]⟩,
      ⟨none, (some 64), .mov (.t 68)⟩,
      ⟨none, (some 69), .ext (.t 64) 0⟩,
      ⟨none, (some 70), .ext (.t 64) 1⟩,
      ⟨none, (some 14), .alloc [.int .i64 0, .int .i64 0]⟩,
      ⟨none, (some 13), .mov (.t 69)⟩,
      ⟨none, none, .store 2 (.t 14) (.t 70)⟩]) (
  .seq (
    .reg [4] [
      ⟨none, (some 71), .faddr 0 (.t 10)⟩,
      ⟨none, (some 72), .load none (.t 71)⟩,
      ⟨none, (some 73), .bin .eql .i64 (.t 72) (.c (Go.Value.int Go.IntKind.i64 0))⟩,
      ⟨none, (some 74), .mov (.t 73)⟩,
      ⟨(some (74, true)), (some 75), .faddr 0 (.t 12)⟩,
      ⟨(some (74, true)), (some 76), .load none (.t 75)⟩,
      ⟨(some (74, true)), (some 77), .bin .eql .i64 (.t 76) (.c (Go.Value.int Go.IntKind.i64 0))⟩,
      ⟨none, (some 78), .pick (.t 74) (.t 77) (.c (Go.Value.bool false))⟩,
      ⟨none, (some 79), .mov (.t 78)⟩,
      ⟨(some (79, true)), (some 80), .faddr 0 (.t 14)⟩,
      ⟨(some (79, true)), (some 81), .load none (.t 80)⟩,
      ⟨(some (79, true)), (some 82), .bin .eql .i64 (.t 81) (.c (Go.Value.int Go.IntKind.i64 0))⟩,
      ⟨none, (some 83), .pick (.t 79) (.t 82) (.c (Go.Value.bool false))⟩,
      ⟨none, (some 84), .mov (.t 83)⟩,
      ⟨(some (84, true)), (some 85), .mov (.t 5)⟩,
      ⟨(some (84, true)), (some 86), .mov (.t 9)⟩,
      ⟨(some (84, true)), (some 87), .call 22 [(.t 85), (.t 86)]⟩,
      ⟨none, (some 88), .pick (.t 84) (.t 87) (.c (Go.Value.bool false))⟩,
      ⟨none, (some 89), .mov (.t 88)⟩,
      ⟨(some (89, true)), (some 90), .mov (.t 11)⟩,
      ⟨(some (89, true)), (some 91), .mov (.t 13)⟩,
      ⟨(some (89, true)), (some 92), .bin .eql .i64 (.t 90) (.t 91)⟩,
      ⟨none, (some 93), .pick (.t 89) (.t 92) (.c (Go.Value.bool false))⟩,
      ⟨none, (some 94), .mov (.t 93)⟩,
      ⟨(some (94, true)), (some 95), .call 21 []⟩,
      ⟨none, (some 96), .pick (.t 94) (.t 95) (.c (Go.Value.bool false))⟩,
      ⟨none, (some 4), .mov (.t 96)⟩]) (
  .ret)))))))))
theorem e6 : erase Try.prog h6 (codeOf Try.f6) = c6 := by kernel_rfl
theorem g6 {T : Tab} (hP : TabOK Try.prog T) {ag : List Arg} {R : Res} {xs : List Row} (hT : T.base = nrows ag) (hl : ag.length ≤ 97) (hnt : noTake ag = true)
    (h : vc T c6 ⟨env0 0 0 ag, rows0 0 ag⟩ (fin T [.tmp 4] ag R xs) (fun _ _ => False) (fin T [.tmp 4] ag R xs)) : GCall Try.prog 6 ag R xs :=
  gcall_of_vc (H := h6) Try.func6 (fn := Try.f6) (code := codeOf Try.f6) (by kernel_rfl) e6 (by kernel_rfl) (rvs := [.tmp 4]) (by kernel_rfl) (by kernel_rfl) hP hT (by rw [show Try.f6.ntmps = 97 by kernel_rfl]; exact hl) hnt h

def h7 : Hint := ⟨134, fun n => lk [(0, [0, 1, 2, 3]), (1, [0, 1, 2, 3, 9, 10]), (2, [1, 2, 3, 9, 10, 11]), (3, [1, 2, 3, 9, 11, 51]), (4, [8]), (5, [1, 2, 3, 9, 11, 12]), (6, [1, 2, 3, 9, 11, 12, 55]), (7, [1, 2, 3, 9, 11, 12]), (8, [1, 2, 3, 9, 11, 12, 13]), (9, [1, 2, 3, 9, 11, 12, 13, 60]), (10, [1, 2, 3, 9, 11, 12, 13]), (11, [1, 2, 3, 9, 11, 12, 13, 92]), (12, [8]), (13, [2, 3, 9, 14]), (14, [2, 3, 9, 14, 98]), (15, [2, 3, 9, 14]), (16, [2, 3, 9, 14, 132]), (17, [8]), (18, [8])] n, fun n => mem [] n, fun n => mem [] n, fun n => lkd [] n⟩
def c7 : CC :=
  .seq (
    .reg [0, 1, 2, 3] [
      ⟨none, (some 8), .mov (.c (Go.Value.bool false))⟩]) (
  .seq (
    .reg [0, 1, 2, 3, 9, 10] [
      ⟨none, (some 16), .mov (.t 0)⟩,
      ⟨none, (some 17), .mov (.t 1)⟩,
      ⟨none, (some 18), .call 19 [(.t 16), (.t 17)]⟩,
      ⟨none, (some 15), .mov (.t 18)⟩,
      ⟨none, (some 19), .ext (.t 15) 0⟩,
      ⟨none, (some 20), .ext (.t 15) 1⟩,
      ⟨none, (some 10), .alloc [.int .i64 0, .int .i64 0]⟩,
      ⟨none, (some 9), .mov (.t 19)⟩,
      ⟨none, none, .store 2 (.t 10) (.t 20)⟩]) (
  .seq (
    .reg [1, 2, 3, 9, 10, 11] [
      ⟨none, (some 21), .mov (.t 0)⟩,
      ⟨none, (some 22), .len (.t 21)⟩,
      ⟨none, (some 11), .mov (.t 22)⟩]) (
  .seq (
    .seq (
      .reg [1, 2, 3, 9, 11, 51] [
        ⟨none, (some 23), .faddr 0 (.t 10)⟩,
        ⟨none, (some 24), .load none (.t 23)⟩,
        ⟨none, (some 25), .bin .neq .i64 (.t 24) (.c (Go.Value.int Go.IntKind.i64 0))⟩,
        ⟨none, (some 26), .mov (.t 25)⟩,
        ⟨(some (26, false)), (some 27), .mov (.t 2)⟩,
        ⟨(some (26, false)), (some 28), .mov (.t 11)⟩,
        ⟨(some (26, false)), (some 29), .bin .sub .i64 (.t 28) (.c (Go.Value.int Go.IntKind.i64 1))⟩,
        ⟨(some (26, false)), (some 30), .call 28 [(.t 27), (.c (Go.Value.int Go.IntKind.i64 0)), (.t 29)]⟩,
        ⟨(some (26, false)), (some 31), .not (.t 30)⟩,
        ⟨none, (some 32), .pick (.t 26) (.c (Go.Value.bool true)) (.t 31)⟩,
        ⟨none, (some 33), .mov (.t 32)⟩,
        ⟨(some (33, false)), (some 34), .mov (.t 3)⟩,
        ⟨(some (33, false)), (some 35), .mov (.t 11)⟩,
        ⟨(some (33, false)), (some 36), .bin .sub .i64 (.t 35) (.c (Go.Value.int Go.IntKind.i64 1))⟩,
        ⟨(some (33, false)), (some 37), .call 28 [(.t 34), (.c (Go.Value.int Go.IntKind.i64 0)), (.t 36)]⟩,
        ⟨(some (33, false)), (some 38), .not (.t 37)⟩,
        ⟨none, (some 39), .pick (.t 33) (.c (Go.Value.bool true)) (.t 38)⟩,
        ⟨none, (some 40), .mov (.t 39)⟩,
        ⟨(some (40, false)), (some 41), .mov (.t 2)⟩,
        ⟨(some (40, false)), (some 42), .mov (.t 3)⟩,
        ⟨(some (40, false)), (some 43), .bin .eql .i64 (.t 41) (.t 42)⟩,
        ⟨none, (some 44), .pick (.t 40) (.c (Go.Value.bool true)) (.t 43)⟩,
        ⟨none, (some 45), .mov (.t 44)⟩,
        ⟨(some (45, false)), (some 46), .mov (.t 1)⟩,
        ⟨(some (45, false)), (some 47), .mov (.t 2)⟩,
        ⟨(some (45, false)), (some 48), .mov (.t 3)⟩,
        ⟨(some (45, false)), (some 49), .call 29 [(.t 46), (.t 47), (.t 48)]⟩,
        ⟨(some (45, false)), (some 50), .bin .eql .i64 (.t 49) (.c (Go.Value.int Go.IntKind.i64 0))⟩,
        ⟨none, (some 51), .pick (.t 45) (.c (Go.Value.bool true)) (.t 50)⟩]) (
    .cond (.t 51) (
      .seq (
        .reg [8] [
          ⟨none, (some 52), .call 21 []⟩,
          ⟨none, (some 8), .mov (.t 52)⟩]) (
      .ret)) (
      .skip))) (
  .seq (
    .seq (
      .reg [1, 2, 3, 9, 11, 12] [
        ⟨none, (some 12), .mov (.c (Go.Value.int Go.IntKind.i64 0))⟩]) (
    .block 0 (
      .loop (
        .seq (
          .seq (
            .reg [1, 2, 3, 9, 11, 12, 55] [
              ⟨none, (some 53), .mov (.t 12)⟩,
              ⟨none, (some 54), .mov (.t 11)⟩,
              ⟨none, (some 55), .bin .lss .i64 (.t 53) (.t 54)⟩]) (
          .cond (.t 55) (
            .skip) (
            .exit 0))) (
        .seq (
          .block 1 (
            .seq (
              .reg [1, 2, 3, 9, 11, 12, 13] [
                ⟨none, (some 13), .mov (.c (Go.Value.int Go.IntKind.i64 0))⟩]) (
            .block 2 (
              .loop (
                .seq (
                  .seq (
                    .reg [1, 2, 3, 9, 11, 12, 13, 60] [
                      ⟨none, (some 58), .mov (.t 13)⟩,
                      ⟨none, (some 59), .mov (.t 12)⟩,
                      ⟨none, (some 60), .bin .lss .i64 (.t 58) (.t 59)⟩]) (
                  .cond (.t 60) (
                    .skip) (
                    .exit 2))) (
                .seq (
                  .block 3 (
                    .seq (
                      .reg [1, 2, 3, 9, 11, 12, 13, 92] [
                        ⟨none, (some 63), .mov (.t 12)⟩,
                        ⟨none, (some 64), .mov (.t 2)⟩,
                        ⟨none, (some 65), .bin .eql .i64 (.t 63) (.t 64)⟩,
                        ⟨none, (some 66), .mov (.t 65)⟩,
                        ⟨(some (66, true)), (some 67), .mov (.t 13)⟩,
                        ⟨(some (66, true)), (some 68), .mov (.t 3)⟩,
                        ⟨(some (66, true)), (some 69), .bin .eql .i64 (.t 67) (.t 68)⟩,
                        ⟨none, (some 70), .pick (.t 66) (.t 69) (.c (Go.Value.bool false))⟩,
                        ⟨none, (some 71), .mov (.t 70)⟩,
                        ⟨(some (71, false)), (some 72), .mov (.t 12)⟩,
                        ⟨(some (71, false)), (some 73), .mov (.t 3)⟩,
                        ⟨(some (71, false)), (some 74), .bin .eql .i64 (.t 72) (.t 73)⟩,
                        ⟨(some (71, false)), (some 75), .mov (.t 74)⟩,
                        ⟨(some (75, true)), (some 76), .mov (.t 13)⟩,
                        ⟨(some (75, true)), (some 77), .mov (.t 2)⟩,
                        ⟨(some (75, true)), (some 78), .bin .eql .i64 (.t 76) (.t 77)⟩,
                        ⟨(some (71, false)), (some 79), .pick (.t 75) (.t 78) (.c (Go.Value.bool false))⟩,
                        ⟨none, (some 80), .pick (.t 71) (.c (Go.Value.bool true)) (.t 79)⟩,
                        ⟨none, (some 81), .not (.t 80)⟩,
                        ⟨none, (some 82), .mov (.t 81)⟩,
                        ⟨(some (82, true)), (some 83), .mov (.t 1)⟩,
                        ⟨(some (82, true)), (some 84), .mov (.t 12)⟩,
                        ⟨(some (82, true)), (some 85), .mov (.t 13)⟩,
                        ⟨(some (82, true)), (some 86), .call 29 [(.t 83), (.t 84), (.t 85)]⟩,
                        ⟨(some (82, true)), (some 87), .mov (.t 1)⟩,
                        ⟨(some (82, true)), (some 88), .mov (.t 2)⟩,
                        ⟨(some (82, true)), (some 89), .mov (.t 3)⟩,
                        ⟨(some (82, true)), (some 90), .call 29 [(.t 87), (.t 88), (.t 89)]⟩,
                        ⟨(some (82, true)), (some 91), .bin .geq .i64 (.t 86) (.t 90)⟩,
                        ⟨none, (some 92), .pick (.t 82) (.t 91) (.c (Go.Value.bool false))⟩]) (
                    .cond (.t 92) (
                      .seq (
                        .reg [8] [
                          ⟨none, (some 93), .call 21 []⟩,
                          ⟨none, (some 8), .mov (.t 93)⟩]) (
                      .ret)) (
                      .skip)))) (
                .reg [1, 2, 3, 9, 11, 12, 13] [
                  ⟨none, (some 61), .mov (.t 13)⟩,
                  ⟨none, (some 62), .bin .add .i64 (.t 61) (.c (Go.Value.int Go.IntKind.i64 1))⟩,
                  ⟨none, (some 13), .mov (.t 62)⟩]))))))) (
        .reg [1, 2, 3, 9, 11, 12] [
          ⟨none, (some 56), .mov (.t 12)⟩,
          ⟨none, (some 57), .bin .add .i64 (.t 56) (.c (Go.Value.int Go.IntKind.i64 1))⟩,
          ⟨none, (some 12), .mov (.t 57)⟩])))))) (
  .seq (
    .seq (
      .reg [2, 3, 9, 14] [
        ⟨none, (some 14), .mov (.c (Go.Value.int Go.IntKind.i64 0))⟩]) (
    .block 4 (
      .loop (
        .seq (
          .seq (
            .reg [2, 3, 9, 14, 98] [
              ⟨none, (some 94), .mov (.t 14)⟩,
              ⟨none, (some 95), .bin .add .i64 (.t 94) (.c (Go.Value.int Go.IntKind.i64 1))⟩,
              ⟨none, (some 96), .mov (.t 9)⟩,
              ⟨none, (some 97), .len (.t 96)⟩,
              ⟨none, (some 98), .bin .lss .i64 (.t 95) (.t 97)⟩]) (
          .cond (.t 98) (
            .skip) (
            .exit 4))) (
        .seq (
          .block 5 (
            .seq (
              .reg [2, 3, 9, 14, 132] [
                ⟨none, (some 101), .mov (.t 9)⟩,
                ⟨none, (some 102), .mov (.t 14)⟩,
                ⟨none, (some 103), .iaddr 1 (.t 101) (.t 102)⟩,
                ⟨none, (some 104), .load none (.t 103)⟩,
                ⟨none, (some 105), .mov (.t 2)⟩,
                ⟨none, (some 106), .bin .eql .i64 (.t 104) (.t 105)⟩,
                ⟨none, (some 107), .mov (.t 106)⟩,
                ⟨(some (107, true)), (some 108), .mov (.t 9)⟩,
                ⟨(some (107, true)), (some 109), .mov (.t 14)⟩,
                ⟨(some (107, true)), (some 110), .bin .add .i64 (.t 109) (.c (Go.Value.int Go.IntKind.i64 1))⟩,
                ⟨(some (107, true)), (some 111), .iaddr 1 (.t 108) (.t 110)⟩,
                ⟨(some (107, true)), (some 112), .load none (.t 111)⟩,
                ⟨(some (107, true)), (some 113), .mov (.t 3)⟩,
                ⟨(some (107, true)), (some 114), .bin .eql .i64 (.t 112) (.t 113)⟩,
                ⟨none, (some 115), .pick (.t 107) (.t 114) (.c (Go.Value.bool false))⟩,
                ⟨none, (some 116), .mov (.t 115)⟩,
                ⟨(some (116, false)), (some 117), .mov (.t 9)⟩,
                ⟨(some (116, false)), (some 118), .mov (.t 14)⟩,
                ⟨(some (116, false)), (some 119), .iaddr 1 (.t 117) (.t 118)⟩,
                ⟨(some (116, false)), (some 120), .load none (.t 119)⟩,
                ⟨(some (116, false)), (some 121), .mov (.t 3)⟩,
                ⟨(some (116, false)), (some 122), .bin .eql .i64 (.t 120) (.t 121)⟩,
                ⟨(some (116, false)), (some 123), .mov (.t 122)⟩,
                ⟨(some (123, true)), (some 124), .mov (.t 9)⟩,
                ⟨(some (123, true)), (some 125), .mov (.t 14)⟩,
                ⟨(some (123, true)), (some 126), .bin .add .i64 (.t 125) (.c (Go.Value.int Go.IntKind.i64 1))⟩,
                ⟨(some (123, true)), (some 127), .iaddr 1 (.t 124) (.t 126)⟩,
                ⟨(some (123, true)), (some 128), .load none (.t 127)⟩,
                ⟨(some (123, true)), (some 129), .mov (.t 2)⟩,
                ⟨(some (123, true)), (some 130), .bin .eql .i64 (.t 128) (.t 129)⟩,
                ⟨(some (116, false)), (some 131), .pick (.t 123) (.t 130) (.c (Go.Value.bool false))⟩,
                ⟨none, (some 132), .pick (.t 116) (.c (Go.Value.bool true)) (.t 131)⟩]) (
            .cond (.t 132) (
              .seq (
                .reg [8] [
                  ⟨none, (some 133), .call 21 []⟩,
                  ⟨none, (some 8), .mov (.t 133)⟩]) (
              .ret)) (
              .skip)))) (
        .reg [2, 3, 9, 14] [
          ⟨none, (some 99), .mov (.t 14)⟩,
          ⟨none, (some 100), .bin .add .i64 (.t 99) (.c (Go.Value.int Go.IntKind.i64 1))⟩,
          ⟨none, (some 14), .mov (.t 100)⟩])))))) (
  .seq (
    .reg [8] [
      ⟨none, (some 8), .mov (.c (Go.Value.bool false))⟩]) (
  .ret)))))))
theorem e7 : erase Try.prog h7 (codeOf Try.f7) = c7 := by kernel_rfl
theorem g7 {T : Tab} (hP : TabOK Try.prog T) {ag : List Arg} {R : Res} {xs : List Row} (hT : T.base = nrows ag) (hl : ag.length ≤ 134) (hnt : noTake ag = true)
    (h : vc T c7 ⟨env0 0 0 ag, rows0 0 ag⟩ (fin T [.tmp 8] ag R xs) (fun _ _ => False) (fin T [.tmp 8] ag R xs)) : GCall Try.prog 7 ag R xs :=
  gcall_of_vc (H := h7) Try.func7 (fn := Try.f7) (code := codeOf Try.f7) (by kernel_rfl) e7 (by kernel_rfl) (rvs := [.tmp 8]) (by kernel_rfl) (by kernel_rfl) hP hT (by rw [show Try.f7.ntmps = 134 by kernel_rfl]; exact hl) hnt h

end Go.Eng
