/- The compact code of functions. -/
import Derived.Test.YtmbodncejejceaaBFam
set_option linter.all false

set_option maxRecDepth 100000
namespace Go.Eng
open Go.Proofs

def h23 : Hint := ⟨190, fun n => lk [(0, [0, 1]), (1, [0, 1, 5]), (2, [0, 1, 5, 6]), (3, [0, 1, 5, 6, 22]), (4, [0, 1, 5, 6]), (5, [0, 1, 5, 6]), (6, [1, 5, 7, 8]), (7, [1, 5, 7, 8, 9]), (8, [1, 5, 7, 8, 9, 33]), (9, [1, 5, 7, 8, 9]), (10, [1, 5, 7, 8, 9, 10]), (11, [1, 5, 7, 8, 9, 10, 41]), (12, [1, 5, 7, 8, 9, 10]), (13, [1, 5, 7, 8, 9, 10, 11]), (14, [1, 5, 7, 8, 9, 10, 73]), (15, [1, 5, 7, 8, 9, 10]), (16, [1, 5, 7, 8, 77]), (17, [5, 12]), (18, [5, 12, 13]), (19, [5, 12, 13, 81]), (20, [5, 12, 13]), (21, [5, 12, 13]), (22, [4]), (23, [1, 5, 7, 8, 14]), (24, [1, 5, 7, 8, 14, 15]), (25, [1, 5, 7, 8, 14, 15, 16]), (26, [1, 5, 7, 8, 14, 15, 16, 133]), (27, [1, 5, 7, 8, 14, 15, 16]), (28, [1, 5, 7, 8, 14, 15, 16, 148]), (29, [1, 5, 7, 8, 14, 15, 16]), (30, [1, 5, 7, 8, 14, 15, 17]), (31, [1, 5, 7, 8, 14, 15, 17, 18]), (32, [1, 5, 7, 8, 14, 15, 17, 18, 153]), (33, [1, 5, 7, 8, 14, 15, 17, 18]), (34, [1, 5, 7, 8, 14, 15, 17, 18, 158]), (35, [1, 5, 7, 8, 14, 15, 17, 18, 19]), (36, [1, 5, 7, 8, 14, 15, 17, 18, 19]), (37, [1, 5, 7, 8, 14, 15, 17, 18, 19]), (38, [1, 5, 7, 8, 14, 15, 17, 18]), (39, [1, 5, 7, 8, 14, 15, 17, 18, 181]), (40, [1, 5, 7, 8, 14, 15, 17, 18]), (41, [1, 5])] n, fun n => mem [29, 178, 188] n, fun n => mem [] n, fun n => lkd [(13, [(0, .p), (1, .p), (2, .p), (3, .p), (5, .p), (6, .p), (7, .p), (4, .r), (8, .r), (9, .g), (10, .p)]), (14, [(0, .p), (1, .p), (2, .p), (3, .p), (4, .p), (5, .p), (6, .p), (7, .p), (8, .p), (9, .p), (10, .p), (12, .p), (13, .p), (14, .p), (11, .r), (15, .r), (16, .g), (17, .p), (18, .p), (19, .p)]), (23, [(42, .g), (0, .g), (1, .g), (2, .g), (3, .g), (4, .g), (5, .g), (6, .g), (7, .g), (8, .g), (9, .g), (10, .g), (11, .g), (12, .g), (13, .g), (14, .g), (15, .g), (16, .g), (17, .g), (18, .g), (19, .g), (20, .g), (21, .g), (22, .g), (23, .g), (24, .g), (25, .g), (26, .g), (27, .g), (28, .g), (29, .g), (30, .g), (31, .g), (32, .g), (33, .g), (34, .g), (35, .g), (36, .g), (37, .g), (38, .g), (39, .g), (40, .g), (41, .g)]), (28, [(13, .g), (0, .g), (1, .g), (2, .g), (3, .g), (4, .g), (5, .g), (6, .g), (7, .g), (8, .g), (9, .g), (10, .g), (11, .g), (12, .g)])] n⟩
def c23 : CC :=
  .seq (
    .reg [0, 1] [
      ⟨none, (some 4), .mov (.c (Go.Value.slice none 0 0))⟩]) (
  .seq (
    .reg [0, 1, 5] [
      ⟨none, (some 5), .mov (.c (Go.Value.slice none 0 0))⟩]) (
  .seq (
    .seq (
      .reg [0, 1, 5, 6] [
        ⟨none, (some 6), .mov (.c (Go.Value.int Go.IntKind.i64 0))⟩]) (
    .block 0 (
      .loop (
        .seq (
          .seq (
            .reg [0, 1, 5, 6, 22] [
              ⟨none, (some 20), .mov (.t 6)⟩,
              ⟨none, (some 21), .mov (.t 0)⟩,
              ⟨none, (some 22), .bin .lss .i64 (.t 20) (.t 21)⟩]) (
          .cond (.t 22) (
            .skip) (
            .exit 0))) (
        .seq (
          .block 1 (
            .reg [0, 1, 5, 6] [
              ⟨none, (some 25), .mov (.t 5)⟩,
              ⟨none, (some 26), .mov (.t 6)⟩,
              ⟨none, (some 27), .bsl 3 1 [(.t 26)]⟩,
              ⟨none, (some 28), .bsl 22 1 [(.t 27)]⟩,
              ⟨none, (some 29), .app1 22 1 24 (.t 25) (.t 28)⟩,
              ⟨none, (some 5), .mov (.t 29)⟩])) (
        .reg [0, 1, 5, 6] [
          ⟨none, (some 23), .mov (.t 6)⟩,
          ⟨none, (some 24), .bin .add .i64 (.t 23) (.c (Go.Value.int Go.IntKind.i64 1))⟩,
          ⟨none, (some 6), .mov (.t 24)⟩])))))) (
  .block 2 (
    .loop (
      .block 3 (
        .seq (
          .reg [1, 5, 7, 8] [
            ⟨none, (some 7), .mov (.c (Go.Value.int Go.IntKind.i64 (-1)))⟩,
            ⟨none, (some 8), .mov (.c (Go.Value.int Go.IntKind.i64 (-1)))⟩]) (
        .seq (
          .seq (
            .reg [1, 5, 7, 8, 9] [
              ⟨none, (some 9), .mov (.c (Go.Value.int Go.IntKind.i64 0))⟩]) (
          .block 4 (
            .loop (
              .seq (
                .seq (
                  .reg [1, 5, 7, 8, 9, 33] [
                    ⟨none, (some 30), .mov (.t 9)⟩,
                    ⟨none, (some 31), .mov (.t 5)⟩,
                    ⟨none, (some 32), .len (.t 31)⟩,
                    ⟨none, (some 33), .bin .lss .i64 (.t 30) (.t 32)⟩]) (
                .cond (.t 33) (
                  .skip) (
                  .exit 4))) (
              .seq (
                .block 5 (
                  .seq (
                    .reg [1, 5, 7, 8, 9, 10] [
                      ⟨none, (some 36), .mov (.t 9)⟩,
                      ⟨none, (some 37), .bin .add .i64 (.t 36) (.c (Go.Value.int Go.IntKind.i64 1))⟩,
                      ⟨none, (some 10), .mov (.t 37)⟩]) (
                  .block 6 (
                    .loop (
                      .seq (
                        .seq (
                          .reg [1, 5, 7, 8, 9, 10, 41] [
                            ⟨none, (some 38), .mov (.t 10)⟩,
                            ⟨none, (some 39), .mov (.t 5)⟩,
                            ⟨none, (some 40), .len (.t 39)⟩,
                            ⟨none, (some 41), .bin .lss .i64 (.t 38) (.t 40)⟩]) (
                        .cond (.t 41) (
                          .skip) (
                          .exit 6))) (
                      .seq (
                        .block 7 (
                          .seq (
                            .reg [1, 5, 7, 8, 9, 10, 11] [
                              ⟨none, (some 44), .mov (.t 1)⟩,
                              ⟨none, (some 45), .mov (.t 5)⟩,
                              ⟨none, (some 46), .mov (.t 9)⟩,
                              ⟨none, (some 47), .iaddr 1 (.t 45) (.t 46)⟩,
                              ⟨none, (some 49), .mov (.t 5)⟩,
                              ⟨none, (some 50), .mov (.t 10)⟩,
                              ⟨none, (some 51), .iaddr 1 (.t 49) (.t 50)⟩,
                              ⟨none, (some 48), .load none (.t 47)⟩,
                              ⟨none, (some 52), .load none (.t 51)⟩,
                              ⟨none, (some 53), .call 57 [(.t 44), (.t 48), (.t 52)]⟩,
                              ⟨none, (some 11), .mov (.t 53)⟩]) (
                          .seq (
                            .reg [1, 5, 7, 8, 9, 10, 73] [
                              ⟨none, (some 54), .mov (.t 11)⟩,
                              ⟨none, (some 55), .bin .gtr .i64 (.t 54) (.c (Go.Value.int Go.IntKind.i64 0))⟩,
                              ⟨none, (some 56), .mov (.t 55)⟩,
                              ⟨(some (56, true)), (some 57), .mov (.t 7)⟩,
                              ⟨(some (56, true)), (some 58), .bin .lss .i64 (.t 57) (.c (Go.Value.int Go.IntKind.i64 0))⟩,
                              ⟨(some (56, true)), (some 59), .mov (.t 58)⟩,
                              ⟨(some (59, false)), (some 60), .mov (.t 11)⟩,
                              ⟨(some (59, false)), (some 61), .mov (.t 1)⟩,
                              ⟨(some (59, false)), (some 62), .mov (.t 5)⟩,
                              ⟨(some (59, false)), (some 63), .mov (.t 7)⟩,
                              ⟨(some (59, false)), (some 64), .iaddr 1 (.t 62) (.t 63)⟩,
                              ⟨(some (59, false)), (some 66), .mov (.t 5)⟩,
                              ⟨(some (59, false)), (some 67), .mov (.t 8)⟩,
                              ⟨(some (59, false)), (some 68), .iaddr 1 (.t 66) (.t 67)⟩,
                              ⟨(some (59, false)), (some 65), .load none (.t 64)⟩,
                              ⟨(some (59, false)), (some 69), .load none (.t 68)⟩,
                              ⟨(some (59, false)), (some 70), .call 57 [(.t 61), (.t 65), (.t 69)]⟩,
                              ⟨(some (59, false)), (some 71), .bin .gtr .i64 (.t 60) (.t 70)⟩,
                              ⟨(some (56, true)), (some 72), .pick (.t 59) (.c (Go.Value.bool true)) (.t 71)⟩,
                              ⟨none, (some 73), .pick (.t 56) (.t 72) (.c (Go.Value.bool false))⟩]) (
                          .cond (.t 73) (
                            .reg [1, 5, 7, 8, 9, 10] [
                              ⟨none, (some 74), .mov (.t 9)⟩,
                              ⟨none, (some 75), .mov (.t 10)⟩,
                              ⟨none, (some 7), .mov (.t 74)⟩,
                              ⟨none, (some 8), .mov (.t 75)⟩]) (
                            .skip))))) (
                      .reg [1, 5, 7, 8, 9, 10] [
                        ⟨none, (some 42), .mov (.t 10)⟩,
                        ⟨none, (some 43), .bin .add .i64 (.t 42) (.c (Go.Value.int Go.IntKind.i64 1))⟩,
                        ⟨none, (some 10), .mov (.t 43)⟩]))))))) (
              .reg [1, 5, 7, 8, 9] [
                ⟨none, (some 34), .mov (.t 9)⟩,
                ⟨none, (some 35), .bin .add .i64 (.t 34) (.c (Go.Value.int Go.IntKind.i64 1))⟩,
                ⟨none, (some 9), .mov (.t 35)⟩])))))) (
        .seq (
          .seq (
            .reg [1, 5, 7, 8, 77] [
              ⟨none, (some 76), .mov (.t 7)⟩,
              ⟨none, (some 77), .bin .lss .i64 (.t 76) (.c (Go.Value.int Go.IntKind.i64 0))⟩]) (
          .cond (.t 77) (
            .seq (
              .reg [5, 12] [
                ⟨none, (some 12), .mov (.c (Go.Value.slice none 0 0))⟩]) (
            .seq (
              .seq (
                .reg [5, 12, 13] [
                  ⟨none, (some 13), .mov (.c (Go.Value.int Go.IntKind.i64 0))⟩]) (
              .block 8 (
                .loop (
                  .seq (
                    .seq (
                      .reg [5, 12, 13, 81] [
                        ⟨none, (some 78), .mov (.t 13)⟩,
                        ⟨none, (some 79), .mov (.t 5)⟩,
                        ⟨none, (some 80), .len (.t 79)⟩,
                        ⟨none, (some 81), .bin .lss .i64 (.t 78) (.t 80)⟩]) (
                    .cond (.t 81) (
                      .skip) (
                      .exit 8))) (
                  .seq (
                    .block 9 (
                      .reg [5, 12, 13] [
                        ⟨none, (some 84), .mov (.t 12)⟩,
                        ⟨none, (some 85), .mov (.t 5)⟩,
                        ⟨none, (some 86), .mov (.t 13)⟩,
                        ⟨none, (some 87), .iaddr 1 (.t 85) (.t 86)⟩,
                        ⟨none, (some 88), .load none (.t 87)⟩,
                        ⟨none, (some 89), .apps 3 1 8 (.t 84) (.t 88)⟩,
                        ⟨none, (some 12), .mov (.t 89)⟩])) (
                  .reg [5, 12, 13] [
                    ⟨none, (some 82), .mov (.t 13)⟩,
                    ⟨none, (some 83), .bin .add .i64 (.t 82) (.c (Go.Value.int Go.IntKind.i64 1))⟩,
                    ⟨none, (some 13), .mov (.t 83)⟩])))))) (
            .seq (
              .reg [4] [
                ⟨none, (some 90), .mov (.t 12)⟩,
                ⟨none, (some 4), .mov (.t 90)⟩]) (
            .ret)))) (
            .skip))) (
        .seq (
          .dreg [1, 5, 7, 8, 14] [] [
            (.g, ⟨none, (some 91), .mov (.t 5)⟩),
            (.g, ⟨none, (some 92), .mov (.t 7)⟩),
            (.g, ⟨none, (some 93), .iaddr 1 (.t 91) (.t 92)⟩),
            (.g, ⟨none, (some 94), .load none (.t 93)⟩),
            (.g, ⟨none, (some 95), .mov (.t 5)⟩),
            (.g, ⟨none, (some 96), .mov (.t 8)⟩),
            (.g, ⟨none, (some 97), .iaddr 1 (.t 95) (.t 96)⟩),
            (.g, ⟨none, (some 98), .load none (.t 97)⟩),
            (.g, ⟨none, (some 99), .bsl 22 1 [(.t 94), (.t 98)]⟩),
            (.g, ⟨none, (some 100), .mov (.t 5)⟩),
            (.g, ⟨none, (some 101), .mov (.t 7)⟩),
            (.g, ⟨none, (some 102), .iaddr 1 (.t 100) (.t 101)⟩),
            (.g, ⟨none, (some 103), .load none (.t 102)⟩),
            (.g, ⟨none, (some 104), .mov (.t 5)⟩),
            (.g, ⟨none, (some 105), .mov (.t 8)⟩),
            (.g, ⟨none, (some 106), .iaddr 1 (.t 104) (.t 105)⟩),
            (.g, ⟨none, (some 107), .load none (.t 106)⟩),
            (.g, ⟨none, (some 108), .call 58 [(.t 107)]⟩),
            (.g, ⟨none, (some 109), .bsl 22 1 [(.t 103), (.t 108)]⟩),
            (.g, ⟨none, (some 110), .mov (.t 5)⟩),
            (.g, ⟨none, (some 111), .mov (.t 7)⟩),
            (.g, ⟨none, (some 112), .iaddr 1 (.t 110) (.t 111)⟩),
            (.g, ⟨none, (some 113), .load none (.t 112)⟩),
            (.g, ⟨none, (some 114), .call 58 [(.t 113)]⟩),
            (.g, ⟨none, (some 115), .mov (.t 5)⟩),
            (.g, ⟨none, (some 116), .mov (.t 8)⟩),
            (.g, ⟨none, (some 117), .iaddr 1 (.t 115) (.t 116)⟩),
            (.g, ⟨none, (some 118), .load none (.t 117)⟩),
            (.g, ⟨none, (some 119), .bsl 22 1 [(.t 114), (.t 118)]⟩),
            (.g, ⟨none, (some 120), .mov (.t 5)⟩),
            (.g, ⟨none, (some 121), .mov (.t 7)⟩),
            (.g, ⟨none, (some 122), .iaddr 1 (.t 120) (.t 121)⟩),
            (.g, ⟨none, (some 123), .load none (.t 122)⟩),
            (.g, ⟨none, (some 124), .call 58 [(.t 123)]⟩),
            (.g, ⟨none, (some 125), .mov (.t 5)⟩),
            (.g, ⟨none, (some 126), .mov (.t 8)⟩),
            (.g, ⟨none, (some 127), .iaddr 1 (.t 125) (.t 126)⟩),
            (.g, ⟨none, (some 128), .load none (.t 127)⟩),
            (.g, ⟨none, (some 129), .call 58 [(.t 128)]⟩),
            (.g, ⟨none, (some 130), .bsl 22 1 [(.t 124), (.t 129)]⟩),
            (.g, ⟨none, (some 131), .bsl 63 1 [(.t 99), (.t 109), (.t 119), (.t 130)]⟩),
            (.g, ⟨none, (some 14), .mov (.t 131)⟩)]) (
        .seq (
          .reg [1, 5, 7, 8, 14, 15] [
            ⟨none, (some 15), .mov (.c (Go.Value.int Go.IntKind.i64 0))⟩]) (
        .seq (
          .seq (
            .reg [1, 5, 7, 8, 14, 15, 16] [
              ⟨none, (some 16), .mov (.c (Go.Value.int Go.IntKind.i64 1))⟩]) (
          .block 10 (
            .loop (
              .seq (
                .seq (
                  .reg [1, 5, 7, 8, 14, 15, 16, 133] [
                    ⟨none, (some 132), .mov (.t 16)⟩,
                    ⟨none, (some 133), .bin .lss .i64 (.t 132) (.c (Go.Value.int Go.IntKind.i64 4))⟩]) (
                .cond (.t 133) (
                  .skip) (
                  .exit 10))) (
              .seq (
                .block 11 (
                  .seq (
                    .dreg [1, 5, 7, 8, 14, 15, 16, 148] [] [
                      (.g, ⟨none, (some 136), .mov (.t 1)⟩),
                      (.g, ⟨none, (some 137), .mov (.t 14)⟩),
                      (.g, ⟨none, (some 138), .mov (.t 16)⟩),
                      (.g, ⟨none, (some 139), .iaddr 1 (.t 137) (.t 138)⟩),
                      (.g, ⟨none, (some 140), .load none (.t 139)⟩),
                      (.g, ⟨none, (some 141), .call 59 [(.t 136), (.t 140)]⟩),
                      (.g, ⟨none, (some 142), .mov (.t 1)⟩),
                      (.g, ⟨none, (some 143), .mov (.t 14)⟩),
                      (.g, ⟨none, (some 144), .mov (.t 15)⟩),
                      (.g, ⟨none, (some 145), .iaddr 1 (.t 143) (.t 144)⟩),
                      (.g, ⟨none, (some 146), .load none (.t 145)⟩),
                      (.g, ⟨none, (some 147), .call 59 [(.t 142), (.t 146)]⟩),
                      (.g, ⟨none, (some 148), .bin .gtr .i64 (.t 141) (.t 147)⟩)]) (
                  .cond (.t 148) (
                    .reg [1, 5, 7, 8, 14, 15, 16] [
                      ⟨none, (some 149), .mov (.t 16)⟩,
                      ⟨none, (some 15), .mov (.t 149)⟩]) (
                    .skip)))) (
              .reg [1, 5, 7, 8, 14, 15, 16] [
                ⟨none, (some 134), .mov (.t 16)⟩,
                ⟨none, (some 135), .bin .add .i64 (.t 134) (.c (Go.Value.int Go.IntKind.i64 1))⟩,
                ⟨none, (some 16), .mov (.t 135)⟩])))))) (
        .seq (
          .reg [1, 5, 7, 8, 14, 15, 17] [
            ⟨none, (some 17), .mov (.c (Go.Value.slice none 0 0))⟩]) (
        .seq (
          .seq (
            .reg [1, 5, 7, 8, 14, 15, 17, 18] [
              ⟨none, (some 18), .mov (.c (Go.Value.int Go.IntKind.i64 0))⟩]) (
          .block 12 (
            .loop (
              .seq (
                .seq (
                  .reg [1, 5, 7, 8, 14, 15, 17, 18, 153] [
                    ⟨none, (some 150), .mov (.t 18)⟩,
                    ⟨none, (some 151), .mov (.t 5)⟩,
                    ⟨none, (some 152), .len (.t 151)⟩,
                    ⟨none, (some 153), .bin .lss .i64 (.t 150) (.t 152)⟩]) (
                .cond (.t 153) (
                  .skip) (
                  .exit 12))) (
              .seq (
                .block 13 (
                  .seq (
                    .reg [1, 5, 7, 8, 14, 15, 17, 18, 158] [
                      ⟨none, (some 156), .mov (.t 18)⟩,
                      ⟨none, (some 157), .mov (.t 7)⟩,
                      ⟨none, (some 158), .bin .eql .i64 (.t 156) (.t 157)⟩]) (
                  .cond (.t 158) (
                    .seq (
                      .reg [1, 5, 7, 8, 14, 15, 17, 18, 19] [
                        ⟨none, (some 19), .mov (.c (Go.Value.slice none 0 0))⟩]) (
                    .seq (
                      .reg [1, 5, 7, 8, 14, 15, 17, 18, 19] [
                        ⟨none, (some 159), .mov (.t 19)⟩,
                        ⟨none, (some 160), .mov (.t 14)⟩,
                        ⟨none, (some 161), .mov (.t 15)⟩,
                        ⟨none, (some 162), .iaddr 1 (.t 160) (.t 161)⟩,
                        ⟨none, (some 163), .load none (.t 162)⟩,
                        ⟨none, (some 164), .iaddr 1 (.t 163) (.c (Go.Value.int Go.IntKind.i64 0))⟩,
                        ⟨none, (some 165), .load none (.t 164)⟩,
                        ⟨none, (some 166), .apps 3 1 8 (.t 159) (.t 165)⟩,
                        ⟨none, (some 19), .mov (.t 166)⟩]) (
                    .seq (
                      .reg [1, 5, 7, 8, 14, 15, 17, 18, 19] [
                        ⟨none, (some 167), .mov (.t 19)⟩,
                        ⟨none, (some 168), .mov (.t 14)⟩,
                        ⟨none, (some 169), .mov (.t 15)⟩,
                        ⟨none, (some 170), .iaddr 1 (.t 168) (.t 169)⟩,
                        ⟨none, (some 171), .load none (.t 170)⟩,
                        ⟨none, (some 172), .iaddr 1 (.t 171) (.c (Go.Value.int Go.IntKind.i64 1))⟩,
                        ⟨none, (some 173), .load none (.t 172)⟩,
                        ⟨none, (some 174), .apps 3 1 8 (.t 167) (.t 173)⟩,
                        ⟨none, (some 19), .mov (.t 174)⟩]) (
                    .reg [1, 5, 7, 8, 14, 15, 17, 18] [
                      ⟨none, (some 175), .mov (.t 17)⟩,
                      ⟨none, (some 176), .mov (.t 19)⟩,
                      ⟨none, (some 177), .bsl 22 1 [(.t 176)]⟩,
                      ⟨none, (some 178), .app1 22 1 24 (.t 175) (.t 177)⟩,
                      ⟨none, (some 17), .mov (.t 178)⟩])))) (
                    .seq (
                      .reg [1, 5, 7, 8, 14, 15, 17, 18, 181] [
                        ⟨none, (some 179), .mov (.t 18)⟩,
                        ⟨none, (some 180), .mov (.t 8)⟩,
                        ⟨none, (some 181), .bin .neq .i64 (.t 179) (.t 180)⟩]) (
                    .cond (.t 181) (
                      .reg [1, 5, 7, 8, 14, 15, 17, 18] [
                        ⟨none, (some 182), .mov (.t 17)⟩,
                        ⟨none, (some 183), .mov (.t 5)⟩,
                        ⟨none, (some 184), .mov (.t 18)⟩,
                        ⟨none, (some 185), .iaddr 1 (.t 183) (.t 184)⟩,
                        ⟨none, (some 186), .load none (.t 185)⟩,
                        ⟨none, (some 187), .bsl 22 1 [(.t 186)]⟩,
                        ⟨none, (some 188), .app1 22 1 24 (.t 182) (.t 187)⟩,
                        ⟨none, (some 17), .mov (.t 188)⟩]) (
                      .skip)))))) (
              .reg [1, 5, 7, 8, 14, 15, 17, 18] [
                ⟨none, (some 154), .mov (.t 18)⟩,
                ⟨none, (some 155), .bin .add .i64 (.t 154) (.c (Go.Value.int Go.IntKind.i64 1))⟩,
                ⟨none, (some 18), .mov (.t 155)⟩])))))) (
        .reg [1, 5] [
          ⟨none, (some 189), .mov (.t 17)⟩,
          ⟨none, (some 5), .mov (.t 189)⟩]))))))))))))))
theorem e23 : erase Try.prog h23 (codeOf Try.f23) = c23 := by kernel_rfl
theorem g23 {T : Tab} (hP : TabOK Try.prog T) {ag : List Arg} {R : Res} {xs : List Row} (hT : T.base = nrows ag) (hl : ag.length ≤ 190) (hnt : noTake ag = true)
    (h : vc T c23 ⟨env0 0 0 ag, rows0 0 ag⟩ (fin T [.tmp 4] ag R xs) (fun _ _ => False) (fin T [.tmp 4] ag R xs)) : GCall Try.prog 23 ag R xs :=
  gcall_of_vc (H := h23) Try.func23 (fn := Try.f23) (code := codeOf Try.f23) (by kernel_rfl) e23 (by kernel_rfl) (rvs := [.tmp 4]) (by kernel_rfl) (by kernel_rfl) hP hT (by rw [show Try.f23.ntmps = 190 by kernel_rfl]; exact hl) hnt h

end Go.Eng
