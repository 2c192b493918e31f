/- The compact code of functions. -/
import Derived.Test.YtmbodncejejceaaCFam
set_option linter.all false

set_option maxRecDepth 100000
namespace Go.Eng
open Go.Proofs

def h73 : Hint := ⟨105, fun n => lk [(0, [0, 1, 2, 3, 8]), (1, [0, 1, 2, 3, 14]), (2, [0, 1, 2, 3, 8]), (3, [0, 1, 2, 3, 8, 9]), (4, [0, 1, 2, 3, 8, 9, 17]), (5, [0, 1, 2, 3, 8, 9]), (6, [0, 1, 2, 3, 8, 9, 10, 11]), (7, [0, 1, 2, 3, 8, 9, 10, 11, 20, 21, 22]), (8, [0, 1, 2, 3, 8, 9, 10, 11, 20, 21, 22, 23]), (9, [0, 1, 2, 3, 8, 9, 10, 11, 12, 13, 20, 21, 22]), (10, [0, 1, 2, 3, 8, 9, 10, 11, 12, 13, 20, 21, 22, 43]), (11, [0, 1, 2, 3, 8, 9, 10, 11, 20, 21, 22]), (12, [0, 1, 2, 3, 8, 9, 10, 11, 12, 13, 20, 21, 22, 50]), (13, [0, 1, 2, 3, 8, 9, 10, 11, 20, 21, 22]), (14, [0, 1, 2, 3, 8, 9, 10, 11, 12, 13, 20, 21, 22, 62]), (15, [0, 1, 2, 3, 8, 9, 10, 11, 20, 21, 22]), (16, [0, 1, 2, 3, 8, 9, 10, 11, 12, 20, 21, 22, 69]), (17, [0, 1, 2, 3, 8, 9, 10, 11, 20, 21, 22]), (18, [0, 1, 2, 3, 8, 9, 10, 11, 20, 21, 22]), (19, [0, 1, 2, 3, 8, 9, 10, 11, 88]), (20, [0, 1, 2, 3, 9, 10, 11, 95]), (21, [0, 1, 2, 3, 9, 10, 11]), (22, [0, 1, 2, 3, 9, 10]), (23, [0, 1, 2, 3, 9]), (24, [0, 1, 2, 3, 8, 9])] n, fun n => mem [] n, fun n => mem [] n, fun n => lkd [] n⟩
def c73 : CC :=
  .seq (
    .reg [0, 1, 2, 3, 8] [
      ⟨none, (some 8), .mov (.c (Go.Value.bool true))⟩]) (
  .block 0 (
    .loop (
      .seq (
        .seq (
          .reg [0, 1, 2, 3, 14] [
            ⟨none, (some 14), .mov (.t 8)⟩]) (
        .cond (.t 14) (
          .skip) (
          .exit 0))) (
      .block 1 (
        .seq (
          .reg [0, 1, 2, 3, 8] [
            ⟨none, (some 8), .mov (.c (Go.Value.bool false))⟩]) (
        .seq (
          .reg [0, 1, 2, 3, 8, 9] [
            ⟨none, (some 9), .mov (.c (Go.Value.int Go.IntKind.i64 (-1)))⟩]) (
        .block 2 (
          .loop (
            .seq (
              .seq (
                .reg [0, 1, 2, 3, 8, 9, 17] [
                  ⟨none, (some 15), .mov (.t 9)⟩,
                  ⟨none, (some 16), .mov (.t 1)⟩,
                  ⟨none, (some 17), .bin .lss .i64 (.t 15) (.t 16)⟩]) (
              .cond (.t 17) (
                .skip) (
                .exit 2))) (
            .seq (
              .block 3 (
                .seq (
                  .reg [0, 1, 2, 3, 8, 9, 10, 11] [
                    ⟨none, (some 10), .mov (.c (Go.Value.int Go.IntKind.i64 (-1)))⟩,
                    ⟨none, (some 11), .mov (.c (Go.Value.int Go.IntKind.i64 0))⟩]) (
                .seq (
                  .seq (
                    .reg [0, 1, 2, 3, 8, 9, 10, 11, 20, 21, 22] [
                      ⟨none, (some 20), .mov (.t 0)⟩,
                      ⟨none, (some 21), .len (.t 20)⟩,
                      ⟨none, (some 22), .mov (.c (Go.Value.int Go.IntKind.i64 0))⟩]) (
                  .block 4 (
                    .loop (
                      .seq (
                        .reg [0, 1, 2, 3, 8, 9, 10, 11, 20, 21, 22, 23] [
                          ⟨none, (some 23), .bin .lss .i64 (.t 22) (.t 21)⟩]) (
                      .seq (
                        .cond (.t 23) (
                          .skip) (
                          .exit 4)) (
                      .seq (
                        .block 5 (
                          .seq (
                            .reg [0, 1, 2, 3, 8, 9, 10, 11, 12, 13, 20, 21, 22] [
                              ⟨none, (some 24), .mov (.t 22)⟩,
                              ⟨none, (some 25), .iaddr 2 (.t 20) (.t 22)⟩,
                              ⟨none, (some 26), .load (some 2) (.t 25)⟩,
                              ⟨none, (some 13), .alloc [.int .i64 0, .int .i64 0]⟩,
                              ⟨none, (some 12), .mov (.t 24)⟩,
                              ⟨none, none, .store 2 (.t 13) (.t 26)⟩]) (
                          .seq (
                            .seq (
                              .reg [0, 1, 2, 3, 8, 9, 10, 11, 12, 13, 20, 21, 22, 43] [
                                ⟨none, (some 27), .aaddr 2 1 (.t 13) (.c (Go.Value.int Go.IntKind.i64 0))⟩,
                                ⟨none, (some 28), .load none (.t 27)⟩,
                                ⟨none, (some 29), .aaddr 2 1 (.t 13) (.c (Go.Value.int Go.IntKind.i64 1))⟩,
                                ⟨none, (some 30), .load none (.t 29)⟩,
                                ⟨none, (some 31), .bin .eql .i64 (.t 28) (.t 30)⟩,
                                ⟨none, (some 32), .mov (.t 31)⟩,
                                ⟨(some (32, false)), (some 33), .aaddr 2 1 (.t 13) (.c (Go.Value.int Go.IntKind.i64 0))⟩,
                                ⟨(some (32, false)), (some 34), .load none (.t 33)⟩,
                                ⟨(some (32, false)), (some 35), .mov (.t 9)⟩,
                                ⟨(some (32, false)), (some 36), .bin .neq .i64 (.t 34) (.t 35)⟩,
                                ⟨(some (32, false)), (some 37), .mov (.t 36)⟩,
                                ⟨(some (37, true)), (some 38), .aaddr 2 1 (.t 13) (.c (Go.Value.int Go.IntKind.i64 1))⟩,
                                ⟨(some (37, true)), (some 39), .load none (.t 38)⟩,
                                ⟨(some (37, true)), (some 40), .mov (.t 9)⟩,
                                ⟨(some (37, true)), (some 41), .bin .neq .i64 (.t 39) (.t 40)⟩,
                                ⟨(some (32, false)), (some 42), .pick (.t 37) (.t 41) (.c (Go.Value.bool false))⟩,
                                ⟨none, (some 43), .pick (.t 32) (.c (Go.Value.bool true)) (.t 42)⟩]) (
                            .cond (.t 43) (
                              .exit 5) (
                              .skip))) (
                          .block 6 (
                            .seq (
                              .reg [0, 1, 2, 3, 8, 9, 10, 11, 12, 13, 20, 21, 22, 50] [
                                ⟨none, (some 51), .mov (.t 2)⟩,
                                ⟨none, (some 52), .mov (.t 12)⟩,
                                ⟨none, (some 53), .iaddr 1 (.t 51) (.t 52)⟩,
                                ⟨none, (some 54), .load none (.t 53)⟩,
                                ⟨none, (some 55), .not (.t 54)⟩,
                                ⟨none, (some 56), .mov (.t 55)⟩,
                                ⟨(some (56, true)), (some 57), .mov (.t 10)⟩,
                                ⟨(some (56, true)), (some 58), .bin .geq .i64 (.t 57) (.c (Go.Value.int Go.IntKind.i64 0))⟩,
                                ⟨none, (some 59), .pick (.t 56) (.t 58) (.c (Go.Value.bool false))⟩,
                                ⟨none, (some 50), .mov (.t 59)⟩]) (
                            .cond (.t 50) (
                              .reg [0, 1, 2, 3, 8, 9, 10, 11, 20, 21, 22] [
                                ⟨none, (some 60), .mov (.t 0)⟩,
                                ⟨none, (some 61), .len (.t 60)⟩,
                                ⟨none, (some 10), .mov (.t 61)⟩]) (
                              .seq (
                                .reg [0, 1, 2, 3, 8, 9, 10, 11, 12, 13, 20, 21, 22, 62] [
                                  ⟨none, (some 63), .mov (.t 2)⟩,
                                  ⟨none, (some 64), .mov (.t 12)⟩,
                                  ⟨none, (some 65), .iaddr 1 (.t 63) (.t 64)⟩,
                                  ⟨none, (some 66), .load none (.t 65)⟩,
                                  ⟨none, (some 67), .not (.t 66)⟩,
                                  ⟨none, (some 62), .mov (.t 67)⟩]) (
                              .cond (.t 62) (
                                .reg [0, 1, 2, 3, 8, 9, 10, 11, 20, 21, 22] [
                                  ⟨none, (some 68), .mov (.t 12)⟩,
                                  ⟨none, (some 10), .mov (.t 68)⟩]) (
                                .seq (
                                  .reg [0, 1, 2, 3, 8, 9, 10, 11, 12, 20, 21, 22, 69] [
                                    ⟨none, (some 70), .aaddr 2 1 (.t 13) (.c (Go.Value.int Go.IntKind.i64 0))⟩,
                                    ⟨none, (some 71), .load none (.t 70)⟩,
                                    ⟨none, (some 72), .mov (.t 9)⟩,
                                    ⟨none, (some 73), .bin .eql .i64 (.t 71) (.t 72)⟩,
                                    ⟨none, (some 69), .mov (.t 73)⟩]) (
                                .cond (.t 69) (
                                  .reg [0, 1, 2, 3, 8, 9, 10, 11, 20, 21, 22] [
                                    ⟨none, (some 74), .mov (.t 11)⟩,
                                    ⟨none, (some 75), .mov (.t 3)⟩,
                                    ⟨none, (some 76), .mov (.t 12)⟩,
                                    ⟨none, (some 77), .iaddr 1 (.t 75) (.t 76)⟩,
                                    ⟨none, (some 78), .load none (.t 77)⟩,
                                    ⟨none, (some 79), .bin .add .i64 (.t 74) (.t 78)⟩,
                                    ⟨none, (some 11), .mov (.t 79)⟩]) (
                                  .reg [0, 1, 2, 3, 8, 9, 10, 11, 20, 21, 22] [
                                    ⟨none, (some 44), .mov (.t 11)⟩,
                                    ⟨none, (some 45), .mov (.t 3)⟩,
                                    ⟨none, (some 46), .mov (.t 12)⟩,
                                    ⟨none, (some 47), .iaddr 1 (.t 45) (.t 46)⟩,
                                    ⟨none, (some 48), .load none (.t 47)⟩,
                                    ⟨none, (some 49), .bin .sub .i64 (.t 44) (.t 48)⟩,
                                    ⟨none, (some 11), .mov (.t 49)⟩]))))))))))) (
                      .reg [0, 1, 2, 3, 8, 9, 10, 11, 20, 21, 22] [
                        ⟨none, (some 80), .bin .add .i64 (.t 22) (.c (Go.Value.int Go.IntKind.i64 1))⟩,
                        ⟨none, (some 22), .mov (.t 80)⟩]))))))) (
                .seq (
                  .seq (
                    .reg [0, 1, 2, 3, 8, 9, 10, 11, 88] [
                      ⟨none, (some 81), .mov (.t 10)⟩,
                      ⟨none, (some 82), .bin .lss .i64 (.t 81) (.c (Go.Value.int Go.IntKind.i64 0))⟩,
                      ⟨none, (some 83), .mov (.t 82)⟩,
                      ⟨(some (83, false)), (some 84), .mov (.t 10)⟩,
                      ⟨(some (83, false)), (some 85), .mov (.t 0)⟩,
                      ⟨(some (83, false)), (some 86), .len (.t 85)⟩,
                      ⟨(some (83, false)), (some 87), .bin .eql .i64 (.t 84) (.t 86)⟩,
                      ⟨none, (some 88), .pick (.t 83) (.c (Go.Value.bool true)) (.t 87)⟩]) (
                  .cond (.t 88) (
                    .exit 3) (
                    .skip))) (
                .seq (
                  .seq (
                    .reg [0, 1, 2, 3, 9, 10, 11, 95] [
                      ⟨none, (some 89), .mov (.t 0)⟩,
                      ⟨none, (some 90), .mov (.t 10)⟩,
                      ⟨none, (some 91), .iaddr 2 (.t 89) (.t 90)⟩,
                      ⟨none, (some 92), .aaddr 2 1 (.t 91) (.c (Go.Value.int Go.IntKind.i64 0))⟩,
                      ⟨none, (some 93), .load none (.t 92)⟩,
                      ⟨none, (some 94), .mov (.t 9)⟩,
                      ⟨none, (some 95), .bin .eql .i64 (.t 93) (.t 94)⟩]) (
                  .cond (.t 95) (
                    .reg [0, 1, 2, 3, 9, 10, 11] [
                      ⟨none, (some 96), .mov (.t 11)⟩,
                      ⟨none, (some 97), .neg .i64 (.t 96)⟩,
                      ⟨none, (some 11), .mov (.t 97)⟩]) (
                    .skip))) (
                .seq (
                  .reg [0, 1, 2, 3, 9, 10] [
                    ⟨none, (some 98), .mov (.t 3)⟩,
                    ⟨none, (some 99), .mov (.t 10)⟩,
                    ⟨none, (some 100), .mov (.t 11)⟩,
                    ⟨none, (some 101), .iaddr 1 (.t 98) (.t 99)⟩,
                    ⟨none, none, .store 1 (.t 101) (.t 100)⟩]) (
                .seq (
                  .reg [0, 1, 2, 3, 9] [
                    ⟨none, (some 102), .mov (.t 2)⟩,
                    ⟨none, (some 103), .mov (.t 10)⟩,
                    ⟨none, (some 104), .iaddr 1 (.t 102) (.t 103)⟩,
                    ⟨none, none, .store 1 (.t 104) (.c (Go.Value.bool true))⟩]) (
                .reg [0, 1, 2, 3, 8, 9] [
                  ⟨none, (some 8), .mov (.c (Go.Value.bool true))⟩])))))))) (
            .reg [0, 1, 2, 3, 8, 9] [
              ⟨none, (some 18), .mov (.t 9)⟩,
              ⟨none, (some 19), .bin .add .i64 (.t 18) (.c (Go.Value.int Go.IntKind.i64 1))⟩,
              ⟨none, (some 9), .mov (.t 19)⟩])))))))))))
theorem e73 : erase Try.prog h73 (codeOf Try.f73) = c73 := by kernel_rfl
theorem g73 {T : Tab} (hP : TabOK Try.prog T) {ag : List Arg} {R : Res} {xs : List Row} (hT : T.base = nrows ag) (hl : ag.length ≤ 105) (hnt : noTake ag = true)
    (h : vc T c73 ⟨env0 0 0 ag, rows0 0 ag⟩ (fin T [] ag R xs) (fun _ _ => False) (fin T [] ag R xs)) : GCall Try.prog 73 ag R xs :=
  gcall_of_vc (H := h73) Try.func73 (fn := Try.f73) (code := codeOf Try.f73) (by kernel_rfl) e73 (by kernel_rfl) (rvs := []) (by kernel_rfl) (by kernel_rfl) hP hT (by rw [show Try.f73.ntmps = 105 by kernel_rfl]; exact hl) hnt h

def h74 : Hint := ⟨48, fun n => lk [(0, [0, 1, 2]), (1, [0, 2, 7]), (2, [2, 7, 13, 14, 15]), (3, [2, 7, 13, 14, 15, 16]), (4, [2, 7, 8, 9, 13, 14, 15]), (5, [2, 7, 8, 9, 13, 14, 15]), (6, [2, 7, 13, 14, 15]), (7, [2, 7, 13, 14, 15]), (8, [6])] n, fun n => mem [] n, fun n => mem [] n, fun n => lkd [(5, [(0, .p), (1, .p), (6, .p), (7, .p), (8, .p), (2, .r), (3, .p), (4, .p), (5, .r), (9, .r), (10, .p), (11, .p), (12, .g)]), (6, [(0, .p), (1, .p), (6, .p), (7, .p), (8, .p), (2, .r), (3, .p), (4, .p), (5, .r), (9, .r), (10, .p), (11, .p), (12, .g)])] n⟩
def c74 : CC :=
  .seq (
    .reg [0, 1, 2] [
      ⟨none, (some 6), .mov (.c (Go.Value.bool false))⟩]) (
  .seq (
    .reg [0, 2, 7] [
      ⟨none, (some 10), .mov (.t 1)⟩,
      ⟨none, (some 11), .bin .add .i64 (.t 10) (.c (Go.Value.int Go.IntKind.i64 1))⟩,
      ⟨none, (some 12), .mks 3 1 8 [.int .i64 0] (.t 11) (.t 11)⟩,
      ⟨none, (some 7), .mov (.t 12)⟩]) (
  .seq (
    .seq (
      .reg [2, 7, 13, 14, 15] [
        ⟨none, (some 13), .mov (.t 0)⟩,
        ⟨none, (some 14), .len (.t 13)⟩,
        ⟨none, (some 15), .mov (.c (Go.Value.int Go.IntKind.i64 0))⟩]) (
    .block 0 (
      .loop (
        .seq (
          .reg [2, 7, 13, 14, 15, 16] [
            ⟨none, (some 16), .bin .lss .i64 (.t 15) (.t 14)⟩]) (
        .seq (
          .cond (.t 16) (
            .skip) (
            .exit 0)) (
        .seq (
          .block 1 (
            .seq (
              .reg [2, 7, 8, 9, 13, 14, 15] [
                ⟨none, (some 17), .mov (.t 15)⟩,
                ⟨none, (some 18), .iaddr 2 (.t 13) (.t 15)⟩,
                ⟨none, (some 19), .load (some 2) (.t 18)⟩,
                ⟨none, (some 9), .alloc [.int .i64 0, .int .i64 0]⟩,
                ⟨none, (some 8), .mov (.t 17)⟩,
                ⟨none, none, .store 2 (.t 9) (.t 19)⟩]) (
            .seq (
              .reg [2, 7, 8, 9, 13, 14, 15] [
                ⟨none, (some 20), .mov (.t 7)⟩,
                ⟨none, (some 21), .aaddr 2 1 (.t 9) (.c (Go.Value.int Go.IntKind.i64 0))⟩,
                ⟨none, (some 26), .mov (.t 2)⟩,
                ⟨none, (some 27), .mov (.t 8)⟩,
                ⟨none, (some 28), .iaddr 1 (.t 26) (.t 27)⟩,
                ⟨none, (some 22), .load none (.t 21)⟩,
                ⟨none, (some 23), .bin .add .i64 (.t 22) (.c (Go.Value.int Go.IntKind.i64 1))⟩,
                ⟨none, (some 24), .iaddr 1 (.t 20) (.t 23)⟩,
                ⟨none, (some 25), .load none (.t 24)⟩,
                ⟨none, (some 29), .load none (.t 28)⟩,
                ⟨none, (some 30), .bin .sub .i64 (.t 25) (.t 29)⟩,
                ⟨none, (some 31), .iaddr 1 (.t 20) (.t 23)⟩,
                ⟨none, none, .store 1 (.t 31) (.t 30)⟩]) (
            .reg [2, 7, 13, 14, 15] [
              ⟨none, (some 32), .mov (.t 7)⟩,
              ⟨none, (some 33), .aaddr 2 1 (.t 9) (.c (Go.Value.int Go.IntKind.i64 1))⟩,
              ⟨none, (some 38), .mov (.t 2)⟩,
              ⟨none, (some 39), .mov (.t 8)⟩,
              ⟨none, (some 40), .iaddr 1 (.t 38) (.t 39)⟩,
              ⟨none, (some 34), .load none (.t 33)⟩,
              ⟨none, (some 35), .bin .add .i64 (.t 34) (.c (Go.Value.int Go.IntKind.i64 1))⟩,
              ⟨none, (some 36), .iaddr 1 (.t 32) (.t 35)⟩,
              ⟨none, (some 37), .load none (.t 36)⟩,
              ⟨none, (some 41), .load none (.t 40)⟩,
              ⟨none, (some 42), .bin .add .i64 (.t 37) (.t 41)⟩,
              ⟨none, (some 43), .iaddr 1 (.t 32) (.t 35)⟩,
              ⟨none, none, .store 1 (.t 43) (.t 42)⟩])))) (
        .reg [2, 7, 13, 14, 15] [
          ⟨none, (some 44), .bin .add .i64 (.t 15) (.c (Go.Value.int Go.IntKind.i64 1))⟩,
          ⟨none, (some 15), .mov (.t 44)⟩]))))))) (
  .seq (
    .reg [6] [
      ⟨none, (some 45), .mov (.t 7)⟩,
      ⟨none, (some 46), .call 95 [(.t 45), (.f 96)]⟩,
      ⟨none, (some 47), .not (.t 46)⟩,
      ⟨none, (some 6), .mov (.t 47)⟩]) (
  .ret))))
theorem e74 : erase Try.prog h74 (codeOf Try.f74) = c74 := by kernel_rfl
theorem g74 {T : Tab} (hP : TabOK Try.prog T) {ag : List Arg} {R : Res} {xs : List Row} (hT : T.base = nrows ag) (hl : ag.length ≤ 48) (hnt : noTake ag = true)
    (h : vc T c74 ⟨env0 0 0 ag, rows0 0 ag⟩ (fin T [.tmp 6] ag R xs) (fun _ _ => False) (fin T [.tmp 6] ag R xs)) : GCall Try.prog 74 ag R xs :=
  gcall_of_vc (H := h74) Try.func74 (fn := Try.f74) (code := codeOf Try.f74) (by kernel_rfl) e74 (by kernel_rfl) (rvs := [.tmp 6]) (by kernel_rfl) (by kernel_rfl) hP hT (by rw [show Try.f74.ntmps = 48 by kernel_rfl]; exact hl) hnt h

def h76 : Hint := ⟨5, fun n => lk [(0, [0]), (1, [2])] n, fun n => mem [] n, fun n => mem [] n, fun n => lkd [] n⟩
def c76 : CC :=
  .seq (
    .reg [0] [
      ⟨none, (some 2), .mov (.c (Go.Value.bool false))⟩]) (
  .seq (
    .reg [2] [
      ⟨none, (some 3), .mov (.t 0)⟩,
      ⟨none, (some 4), .bin .lss .i64 (.t 3) (.c (Go.Value.int Go.IntKind.i64 0))⟩,
      ⟨none, (some 2), .mov (.t 4)⟩]) (
  .ret))
theorem e76 : erase Try.prog h76 (codeOf Try.f76) = c76 := by kernel_rfl
theorem g76 {T : Tab} (hP : TabOK Try.prog T) {ag : List Arg} {R : Res} {xs : List Row} (hT : T.base = nrows ag) (hl : ag.length ≤ 5) (hnt : noTake ag = true)
    (h : vc T c76 ⟨env0 0 0 ag, rows0 0 ag⟩ (fin T [.tmp 2] ag R xs) (fun _ _ => False) (fin T [.tmp 2] ag R xs)) : GCall Try.prog 76 ag R xs :=
  gcall_of_vc (H := h76) Try.func76 (fn := Try.f76) (code := codeOf Try.f76) (by kernel_rfl) e76 (by kernel_rfl) (rvs := [.tmp 2]) (by kernel_rfl) (by kernel_rfl) hP hT (by rw [show Try.f76.ntmps = 5 by kernel_rfl]; exact hl) hnt h

def h96 : Hint := ⟨5, fun n => lk [(0, [0]), (1, [2])] n, fun n => mem [] n, fun n => mem [] n, fun n => lkd [] n⟩
def c96 : CC :=
  .seq (
    .reg [0] [
      ⟨none, (some 2), .mov (.c (Go.Value.bool false))⟩]) (
  .seq (
    .reg [2] [
      ⟨none, (some 3), .mov (.t 0)⟩,
      ⟨none, (some 4), .bin .neq .i64 (.t 3) (.c (Go.Value.int Go.IntKind.i64 0))⟩,
      ⟨none, (some 2), .mov (.t 4)⟩]) (
  .ret))
theorem e96 : erase Try.prog h96 (codeOf Try.f96) = c96 := by kernel_rfl
theorem g96 {T : Tab} (hP : TabOK Try.prog T) {ag : List Arg} {R : Res} {xs : List Row} (hT : T.base = nrows ag) (hl : ag.length ≤ 5) (hnt : noTake ag = true)
    (h : vc T c96 ⟨env0 0 0 ag, rows0 0 ag⟩ (fin T [.tmp 2] ag R xs) (fun _ _ => False) (fin T [.tmp 2] ag R xs)) : GCall Try.prog 96 ag R xs :=
  gcall_of_vc (H := h96) Try.func96 (fn := Try.f96) (code := codeOf Try.f96) (by kernel_rfl) e96 (by kernel_rfl) (rvs := [.tmp 2]) (by kernel_rfl) (by kernel_rfl) hP hT (by rw [show Try.f96.ntmps = 5 by kernel_rfl]; exact hl) hnt h

end Go.Eng
