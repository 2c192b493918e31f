/- The compact code of functions. -/
import Derived.Test.YtmbodncejejceaaCFam
set_option linter.all false

set_option maxRecDepth 100000
namespace Go.Eng
open Go.Proofs

def h90 : Hint := ⟨62, fun n => lk [(0, [0, 2]), (1, [0, 2, 10]), (2, [2]), (3, [0, 2, 3]), (4, [0, 2, 3, 12, 13, 14]), (5, [0, 2, 3, 12, 13, 14, 15]), (6, [0, 2, 3, 4, 5, 12, 13, 14]), (7, [0, 2, 3, 4, 5, 12, 13, 14]), (8, [0, 2, 3, 4, 5, 12, 13, 14, 25]), (9, [2]), (10, [0, 2, 3, 4, 12, 13, 14, 29, 30, 31]), (11, [0, 2, 3, 4, 12, 13, 14, 29, 30, 31, 32]), (12, [0, 2, 3, 4, 7, 12, 13, 14, 29, 30, 31]), (13, [0, 2, 3, 4, 7, 12, 13, 14, 29, 30, 31, 35]), (14, [2]), (15, [0, 2, 3, 4, 12, 13, 14, 29, 30, 31, 46]), (16, [2]), (17, [0, 2, 3, 4, 12, 13, 14, 29, 30, 31]), (18, [0, 2, 3, 12, 13, 14]), (19, [2])] n, fun n => mem [] n, fun n => mem [] n, fun n => lkd [] n⟩
def c90 : CC :=
  .seq (
    .reg [0, 2] [
      ⟨none, (some 2), .alloc [.int .i64 0, .int .i64 0]⟩]) (
  .seq (
    .seq (
      .reg [0, 2, 10] [
        ⟨none, (some 8), .mov (.t 0)⟩,
        ⟨none, (some 9), .len (.t 8)⟩,
        ⟨none, (some 10), .bin .gtr .i64 (.t 9) (.c (Go.Value.int Go.IntKind.i64 100))⟩]) (
    .cond (.t 10) (
      .seq (
        .reg [2] [
          ⟨none, (some 11), .build [.int .i64 0, .int .i64 0] [(0, 1, (.c (Go.Value.int Go.IntKind.i64 2))), (1, 1, (.c (Go.Value.int Go.IntKind.i64 (-1))))]⟩,
          ⟨none, none, .store 2 (.t 2) (.t 11)⟩]) (
      .ret)) (
      .skip))) (
  .seq (
    .reg [0, 2, 3] [
      ⟨none, (some 3), .mov (.c (Go.Value.int Go.IntKind.i64 0))⟩]) (
  .seq (
    .seq (
      .reg [0, 2, 3, 12, 13, 14] [
        ⟨none, (some 12), .mov (.t 0)⟩,
        ⟨none, (some 13), .len (.t 12)⟩,
        ⟨none, (some 14), .mov (.c (Go.Value.int Go.IntKind.i64 0))⟩]) (
    .block 0 (
      .loop (
        .seq (
          .reg [0, 2, 3, 12, 13, 14, 15] [
            ⟨none, (some 15), .bin .lss .i64 (.t 14) (.t 13)⟩]) (
        .seq (
          .cond (.t 15) (
            .skip) (
            .exit 0)) (
        .seq (
          .block 1 (
            .seq (
              .reg [0, 2, 3, 4, 5, 12, 13, 14] [
                ⟨none, (some 16), .mov (.t 14)⟩,
                ⟨none, (some 17), .iaddr 4 (.t 12) (.t 14)⟩,
                ⟨none, (some 18), .load (some 4) (.t 17)⟩,
                ⟨none, (some 5), .alloc [.int .i64 0, .int .i64 0, .int .i64 0, .slice none 0 0]⟩,
                ⟨none, (some 4), .mov (.t 16)⟩,
                ⟨none, none, .store 4 (.t 5) (.t 18)⟩]) (
            .seq (
              .reg [0, 2, 3, 4, 5, 12, 13, 14] [
                ⟨none, (some 19), .mov (.t 3)⟩,
                ⟨none, (some 20), .faddr 3 (.t 5)⟩,
                ⟨none, (some 21), .load none (.t 20)⟩,
                ⟨none, (some 22), .len (.t 21)⟩,
                ⟨none, (some 23), .bin .add .i64 (.t 19) (.t 22)⟩,
                ⟨none, (some 3), .mov (.t 23)⟩]) (
            .seq (
              .seq (
                .reg [0, 2, 3, 4, 5, 12, 13, 14, 25] [
                  ⟨none, (some 24), .mov (.t 3)⟩,
                  ⟨none, (some 25), .bin .gtr .i64 (.t 24) (.c (Go.Value.int Go.IntKind.i64 300))⟩]) (
              .cond (.t 25) (
                .seq (
                  .reg [2] [
                    ⟨none, (some 26), .mov (.t 4)⟩,
                    ⟨none, (some 27), .build [.int .i64 0, .int .i64 0] [(0, 1, (.c (Go.Value.int Go.IntKind.i64 2))), (1, 1, (.t 26))]⟩,
                    ⟨none, none, .store 2 (.t 2) (.t 27)⟩]) (
                .ret)) (
                .skip))) (
            .seq (
              .reg [0, 2, 3, 4, 12, 13, 14, 29, 30, 31] [
                ⟨none, (some 28), .faddr 3 (.t 5)⟩,
                ⟨none, (some 29), .load none (.t 28)⟩,
                ⟨none, (some 30), .len (.t 29)⟩,
                ⟨none, (some 31), .mov (.c (Go.Value.int Go.IntKind.i64 0))⟩]) (
            .block 2 (
              .loop (
                .seq (
                  .reg [0, 2, 3, 4, 12, 13, 14, 29, 30, 31, 32] [
                    ⟨none, (some 32), .bin .lss .i64 (.t 31) (.t 30)⟩]) (
                .seq (
                  .cond (.t 32) (
                    .skip) (
                    .exit 2)) (
                .seq (
                  .block 3 (
                    .seq (
                      .reg [0, 2, 3, 4, 7, 12, 13, 14, 29, 30, 31] [
                        ⟨none, (some 33), .iaddr 2 (.t 29) (.t 31)⟩,
                        ⟨none, (some 34), .load (some 2) (.t 33)⟩,
                        ⟨none, (some 7), .alloc [.int .i64 0, .int .i64 0]⟩,
                        ⟨none, none, .store 2 (.t 7) (.t 34)⟩]) (
                    .block 4 (
                      .seq (
                        .reg [0, 2, 3, 4, 7, 12, 13, 14, 29, 30, 31, 35] [
                          ⟨none, (some 36), .faddr 0 (.t 7)⟩,
                          ⟨none, (some 37), .load none (.t 36)⟩,
                          ⟨none, (some 38), .bin .lss .i64 (.t 37) (.c (Go.Value.int Go.IntKind.i64 1))⟩,
                          ⟨none, (some 39), .mov (.t 38)⟩,
                          ⟨(some (39, false)), (some 40), .faddr 0 (.t 7)⟩,
                          ⟨(some (39, false)), (some 41), .load none (.t 40)⟩,
                          ⟨(some (39, false)), (some 42), .bin .gtr .i64 (.t 41) (.c (Go.Value.int Go.IntKind.i64 3))⟩,
                          ⟨none, (some 43), .pick (.t 39) (.c (Go.Value.bool true)) (.t 42)⟩,
                          ⟨none, (some 35), .mov (.t 43)⟩]) (
                      .cond (.t 35) (
                        .seq (
                          .reg [2] [
                            ⟨none, (some 44), .mov (.t 4)⟩,
                            ⟨none, (some 45), .build [.int .i64 0, .int .i64 0] [(0, 1, (.c (Go.Value.int Go.IntKind.i64 4))), (1, 1, (.t 44))]⟩,
                            ⟨none, none, .store 2 (.t 2) (.t 45)⟩]) (
                        .ret)) (
                        .seq (
                          .reg [0, 2, 3, 4, 12, 13, 14, 29, 30, 31, 46] [
                            ⟨none, (some 47), .faddr 1 (.t 7)⟩,
                            ⟨none, (some 48), .load none (.t 47)⟩,
                            ⟨none, (some 49), .bin .lss .i64 (.t 48) (.c (Go.Value.int Go.IntKind.i64 (-1)))⟩,
                            ⟨none, (some 50), .mov (.t 49)⟩,
                            ⟨(some (50, false)), (some 51), .faddr 1 (.t 7)⟩,
                            ⟨(some (50, false)), (some 52), .load none (.t 51)⟩,
                            ⟨(some (50, false)), (some 53), .mov (.t 0)⟩,
                            ⟨(some (50, false)), (some 54), .len (.t 53)⟩,
                            ⟨(some (50, false)), (some 55), .bin .geq .i64 (.t 52) (.t 54)⟩,
                            ⟨none, (some 56), .pick (.t 50) (.c (Go.Value.bool true)) (.t 55)⟩,
                            ⟨none, (some 46), .mov (.t 56)⟩]) (
                        .cond (.t 46) (
                          .seq (
                            .reg [2] [
                              ⟨none, (some 57), .mov (.t 4)⟩,
                              ⟨none, (some 58), .build [.int .i64 0, .int .i64 0] [(0, 1, (.c (Go.Value.int Go.IntKind.i64 3))), (1, 1, (.t 57))]⟩,
                              ⟨none, none, .store 2 (.t 2) (.t 58)⟩]) (
                          .ret)) (
                          .skip)))))))) (
                .reg [0, 2, 3, 4, 12, 13, 14, 29, 30, 31] [
                  ⟨none, (some 59), .bin .add .i64 (.t 31) (.c (Go.Value.int Go.IntKind.i64 1))⟩,
                  ⟨none, (some 31), .mov (.t 59)⟩]))))))))))) (
        .reg [0, 2, 3, 12, 13, 14] [
          ⟨none, (some 60), .bin .add .i64 (.t 14) (.c (Go.Value.int Go.IntKind.i64 1))⟩,
          ⟨none, (some 14), .mov (.t 60)⟩]))))))) (
  .seq (
    .reg [2] [
      ⟨none, (some 61), .build [.int .i64 0, .int .i64 0] []⟩,
      ⟨none, none, .store 2 (.t 2) (.t 61)⟩]) (
  .ret)))))
theorem e90 : erase Try.prog h90 (codeOf Try.f90) = c90 := by kernel_rfl
theorem g90 {T : Tab} (hP : TabOK Try.prog T) {ag : List Arg} {R : Res} {xs : List Row} (hT : T.base = nrows ag) (hl : ag.length ≤ 62) (hnt : noTake ag = true)
    (h : vc T c90 ⟨env0 0 0 ag, rows0 0 ag⟩ (fin T [.cell 2 (some 2)] ag R xs) (fun _ _ => False) (fin T [.cell 2 (some 2)] ag R xs)) : GCall Try.prog 90 ag R xs :=
  gcall_of_vc (H := h90) Try.func90 (fn := Try.f90) (code := codeOf Try.f90) (by kernel_rfl) e90 (by kernel_rfl) (rvs := [.cell 2 (some 2)]) (by kernel_rfl) (by kernel_rfl) hP hT (by rw [show Try.f90.ntmps = 62 by kernel_rfl]; exact hl) hnt h

def h70 : Hint := ⟨68, fun n => lk [(0, [0, 2]), (1, [0, 2, 8]), (2, [2]), (3, [0, 2, 3]), (4, [0, 2, 3, 4]), (5, [0, 2, 3, 4, 13]), (6, [0, 2, 3, 4]), (7, [0, 2, 3, 4]), (8, [0, 2, 3, 4, 25]), (9, [2]), (10, [0, 2, 3, 4, 5]), (11, [0, 2, 3, 4, 5, 35]), (12, [0, 2, 3, 4, 5]), (13, [0, 2, 3, 4, 5, 48]), (14, [2]), (15, [0, 2, 3, 4, 5, 64]), (16, [2]), (17, [2])] n, fun n => mem [] n, fun n => mem [] n, fun n => lkd [] n⟩
def c70 : CC :=
  .seq (
    .reg [0, 2] [
      ⟨none, (some 2), .alloc [.int .i64 0, .int .i64 0]⟩]) (
  .seq (
    .seq (
      .reg [0, 2, 8] [
        ⟨none, (some 6), .mov (.t 0)⟩,
        ⟨none, (some 7), .len (.t 6)⟩,
        ⟨none, (some 8), .bin .gtr .i64 (.t 7) (.c (Go.Value.int Go.IntKind.i64 100))⟩]) (
    .cond (.t 8) (
      .seq (
        .reg [2] [
          ⟨none, (some 9), .call 26 [(.c (Go.Value.int Go.IntKind.i64 2)), (.c (Go.Value.int Go.IntKind.i64 (-1)))]⟩,
          ⟨none, none, .store 2 (.t 2) (.t 9)⟩]) (
      .ret)) (
      .skip))) (
  .seq (
    .reg [0, 2, 3] [
      ⟨none, (some 3), .mov (.c (Go.Value.int Go.IntKind.i64 0))⟩]) (
  .seq (
    .seq (
      .reg [0, 2, 3, 4] [
        ⟨none, (some 4), .mov (.c (Go.Value.int Go.IntKind.i64 0))⟩]) (
    .block 0 (
      .loop (
        .seq (
          .seq (
            .reg [0, 2, 3, 4, 13] [
              ⟨none, (some 10), .mov (.t 4)⟩,
              ⟨none, (some 11), .mov (.t 0)⟩,
              ⟨none, (some 12), .len (.t 11)⟩,
              ⟨none, (some 13), .bin .lss .i64 (.t 10) (.t 12)⟩]) (
          .cond (.t 13) (
            .skip) (
            .exit 0))) (
        .seq (
          .block 1 (
            .seq (
              .reg [0, 2, 3, 4] [
                ⟨none, (some 16), .mov (.t 3)⟩,
                ⟨none, (some 17), .mov (.t 0)⟩,
                ⟨none, (some 18), .mov (.t 4)⟩,
                ⟨none, (some 19), .iaddr 4 (.t 17) (.t 18)⟩,
                ⟨none, (some 20), .faddr 3 (.t 19)⟩,
                ⟨none, (some 21), .load none (.t 20)⟩,
                ⟨none, (some 22), .len (.t 21)⟩,
                ⟨none, (some 23), .bin .add .i64 (.t 16) (.t 22)⟩,
                ⟨none, (some 3), .mov (.t 23)⟩]) (
            .seq (
              .seq (
                .reg [0, 2, 3, 4, 25] [
                  ⟨none, (some 24), .mov (.t 3)⟩,
                  ⟨none, (some 25), .bin .gtr .i64 (.t 24) (.c (Go.Value.int Go.IntKind.i64 300))⟩]) (
              .cond (.t 25) (
                .seq (
                  .reg [2] [
                    ⟨none, (some 26), .mov (.t 4)⟩,
                    ⟨none, (some 27), .call 26 [(.c (Go.Value.int Go.IntKind.i64 2)), (.t 26)]⟩,
                    ⟨none, none, .store 2 (.t 2) (.t 27)⟩]) (
                .ret)) (
                .skip))) (
            .seq (
              .reg [0, 2, 3, 4, 5] [
                ⟨none, (some 5), .mov (.c (Go.Value.int Go.IntKind.i64 0))⟩]) (
            .block 2 (
              .loop (
                .seq (
                  .seq (
                    .reg [0, 2, 3, 4, 5, 35] [
                      ⟨none, (some 28), .mov (.t 5)⟩,
                      ⟨none, (some 29), .mov (.t 0)⟩,
                      ⟨none, (some 30), .mov (.t 4)⟩,
                      ⟨none, (some 31), .iaddr 4 (.t 29) (.t 30)⟩,
                      ⟨none, (some 32), .faddr 3 (.t 31)⟩,
                      ⟨none, (some 33), .load none (.t 32)⟩,
                      ⟨none, (some 34), .len (.t 33)⟩,
                      ⟨none, (some 35), .bin .lss .i64 (.t 28) (.t 34)⟩]) (
                  .cond (.t 35) (
                    .skip) (
                    .exit 2))) (
                .seq (
                  .block 3 (
                    .seq (
                      .seq (
                        .reg [0, 2, 3, 4, 5, 48] [
                          ⟨none, (some 38), .mov (.t 0)⟩,
                          ⟨none, (some 39), .mov (.t 4)⟩,
                          ⟨none, (some 40), .iaddr 4 (.t 38) (.t 39)⟩,
                          ⟨none, (some 41), .faddr 3 (.t 40)⟩,
                          ⟨none, (some 42), .load none (.t 41)⟩,
                          ⟨none, (some 43), .mov (.t 5)⟩,
                          ⟨none, (some 44), .iaddr 2 (.t 42) (.t 43)⟩,
                          ⟨none, (some 45), .faddr 0 (.t 44)⟩,
                          ⟨none, (some 46), .load none (.t 45)⟩,
                          ⟨none, (some 47), .call 28 [(.t 46), (.c (Go.Value.int Go.IntKind.i64 1)), (.c (Go.Value.int Go.IntKind.i64 3))]⟩,
                          ⟨none, (some 48), .not (.t 47)⟩]) (
                      .cond (.t 48) (
                        .seq (
                          .reg [2] [
                            ⟨none, (some 49), .mov (.t 4)⟩,
                            ⟨none, (some 50), .call 26 [(.c (Go.Value.int Go.IntKind.i64 4)), (.t 49)]⟩,
                            ⟨none, none, .store 2 (.t 2) (.t 50)⟩]) (
                        .ret)) (
                        .skip))) (
                    .seq (
                      .reg [0, 2, 3, 4, 5, 64] [
                        ⟨none, (some 51), .mov (.t 0)⟩,
                        ⟨none, (some 52), .mov (.t 4)⟩,
                        ⟨none, (some 53), .iaddr 4 (.t 51) (.t 52)⟩,
                        ⟨none, (some 54), .faddr 3 (.t 53)⟩,
                        ⟨none, (some 55), .load none (.t 54)⟩,
                        ⟨none, (some 56), .mov (.t 5)⟩,
                        ⟨none, (some 57), .iaddr 2 (.t 55) (.t 56)⟩,
                        ⟨none, (some 58), .faddr 1 (.t 57)⟩,
                        ⟨none, (some 59), .load none (.t 58)⟩,
                        ⟨none, (some 60), .mov (.t 0)⟩,
                        ⟨none, (some 61), .len (.t 60)⟩,
                        ⟨none, (some 62), .bin .sub .i64 (.t 61) (.c (Go.Value.int Go.IntKind.i64 1))⟩,
                        ⟨none, (some 63), .call 28 [(.t 59), (.c (Go.Value.int Go.IntKind.i64 (-1))), (.t 62)]⟩,
                        ⟨none, (some 64), .not (.t 63)⟩]) (
                    .cond (.t 64) (
                      .seq (
                        .reg [2] [
                          ⟨none, (some 65), .mov (.t 4)⟩,
                          ⟨none, (some 66), .call 26 [(.c (Go.Value.int Go.IntKind.i64 3)), (.t 65)]⟩,
                          ⟨none, none, .store 2 (.t 2) (.t 66)⟩]) (
                      .ret)) (
                      .skip))))) (
                .reg [0, 2, 3, 4, 5] [
                  ⟨none, (some 36), .mov (.t 5)⟩,
                  ⟨none, (some 37), .bin .add .i64 (.t 36) (.c (Go.Value.int Go.IntKind.i64 1))⟩,
                  ⟨none, (some 5), .mov (.t 37)⟩]))))))))) (
        .reg [0, 2, 3, 4] [
          ⟨none, (some 14), .mov (.t 4)⟩,
          ⟨none, (some 15), .bin .add .i64 (.t 14) (.c (Go.Value.int Go.IntKind.i64 1))⟩,
          ⟨none, (some 4), .mov (.t 15)⟩])))))) (
  .seq (
    .reg [2] [
      ⟨none, (some 67), .build [.int .i64 0, .int .i64 0] []⟩,
      ⟨none, none, .store 2 (.t 2) (.t 67)⟩]) (
  .ret)))))
theorem e70 : erase Try.prog h70 (codeOf Try.f70) = c70 := by kernel_rfl
theorem g70 {T : Tab} (hP : TabOK Try.prog T) {ag : List Arg} {R : Res} {xs : List Row} (hT : T.base = nrows ag) (hl : ag.length ≤ 68) (hnt : noTake ag = true)
    (h : vc T c70 ⟨env0 0 0 ag, rows0 0 ag⟩ (fin T [.cell 2 (some 2)] ag R xs) (fun _ _ => False) (fin T [.cell 2 (some 2)] ag R xs)) : GCall Try.prog 70 ag R xs :=
  gcall_of_vc (H := h70) Try.func70 (fn := Try.f70) (code := codeOf Try.f70) (by kernel_rfl) e70 (by kernel_rfl) (rvs := [.cell 2 (some 2)]) (by kernel_rfl) (by kernel_rfl) hP hT (by rw [show Try.f70.ntmps = 68 by kernel_rfl]; exact hl) hnt h

def h62 : Hint := ⟨50, fun n => lk [(0, [0, 1, 4]), (1, [0, 1, 4, 5]), (2, [0, 1, 4, 5, 12]), (3, [4]), (4, [0, 1, 4, 14, 15, 16]), (5, [0, 1, 4, 14, 15, 16, 17]), (6, [0, 1, 4, 6, 7, 14, 15, 16]), (7, [0, 1, 4, 6, 7, 14, 15, 16, 21]), (8, [4]), (9, [0, 1, 4, 6, 14, 15, 16, 33]), (10, [4]), (11, [0, 1, 4, 14, 15, 16]), (12, [4])] n, fun n => mem [] n, fun n => mem [] n, fun n => lkd [] n⟩
def c62 : CC :=
  .seq (
    .reg [0, 1, 4] [
      ⟨none, (some 4), .alloc [.int .i64 0, .int .i64 0]⟩]) (
  .seq (
    .seq (
      .reg [0, 1, 4, 5] [
        ⟨none, (some 8), .mov (.t 0)⟩,
        ⟨none, (some 9), .call 90 [(.t 8)]⟩,
        ⟨none, (some 5), .alloc [.int .i64 0, .int .i64 0]⟩,
        ⟨none, none, .store 2 (.t 5) (.t 9)⟩]) (
    .seq (
      .reg [0, 1, 4, 5, 12] [
        ⟨none, (some 10), .load (some 2) (.t 5)⟩,
        ⟨none, (some 11), .build [.int .i64 0, .int .i64 0] []⟩,
        ⟨none, (some 12), .eqa true [(0, true), (1, true)] (.t 10) (.t 11)⟩]) (
    .cond (.t 12) (
      .seq (
        .reg [4] [
          ⟨none, (some 13), .load (some 2) (.t 5)⟩,
          ⟨none, none, .store 2 (.t 4) (.t 13)⟩]) (
      .ret)) (
      .skip)))) (
  .seq (
    .seq (
      .reg [0, 1, 4, 14, 15, 16] [
        ⟨none, (some 14), .mov (.t 1)⟩,
        ⟨none, (some 15), .len (.t 14)⟩,
        ⟨none, (some 16), .mov (.c (Go.Value.int Go.IntKind.i64 0))⟩]) (
    .block 0 (
      .loop (
        .seq (
          .reg [0, 1, 4, 14, 15, 16, 17] [
            ⟨none, (some 17), .bin .lss .i64 (.t 16) (.t 15)⟩]) (
        .seq (
          .cond (.t 17) (
            .skip) (
            .exit 0)) (
        .seq (
          .block 1 (
            .seq (
              .reg [0, 1, 4, 6, 7, 14, 15, 16] [
                ⟨none, (some 18), .mov (.t 16)⟩,
                ⟨none, (some 19), .iaddr 1 (.t 14) (.t 16)⟩,
                ⟨none, (some 20), .load none (.t 19)⟩,
                ⟨none, (some 6), .mov (.t 18)⟩,
                ⟨none, (some 7), .mov (.t 20)⟩]) (
            .block 2 (
              .seq (
                .reg [0, 1, 4, 6, 7, 14, 15, 16, 21] [
                  ⟨none, (some 22), .mov (.t 7)⟩,
                  ⟨none, (some 23), .bin .lss .i64 (.t 22) (.c (Go.Value.int Go.IntKind.i64 0))⟩,
                  ⟨none, (some 24), .mov (.t 23)⟩,
                  ⟨(some (24, false)), (some 25), .mov (.t 7)⟩,
                  ⟨(some (24, false)), (some 26), .mov (.t 0)⟩,
                  ⟨(some (24, false)), (some 27), .len (.t 26)⟩,
                  ⟨(some (24, false)), (some 28), .bin .geq .i64 (.t 25) (.t 27)⟩,
                  ⟨none, (some 29), .pick (.t 24) (.c (Go.Value.bool true)) (.t 28)⟩,
                  ⟨none, (some 21), .mov (.t 29)⟩]) (
              .cond (.t 21) (
                .seq (
                  .reg [4] [
                    ⟨none, (some 30), .mov (.t 6)⟩,
                    ⟨none, (some 31), .bin .sub .i64 (.c (Go.Value.int Go.IntKind.i64 (-10))) (.t 30)⟩,
                    ⟨none, (some 32), .build [.int .i64 0, .int .i64 0] [(0, 1, (.c (Go.Value.int Go.IntKind.i64 3))), (1, 1, (.t 31))]⟩,
                    ⟨none, none, .store 2 (.t 4) (.t 32)⟩]) (
                .ret)) (
                .seq (
                  .reg [0, 1, 4, 6, 14, 15, 16, 33] [
                    ⟨none, (some 34), .mov (.t 6)⟩,
                    ⟨none, (some 35), .bin .gtr .i64 (.t 34) (.c (Go.Value.int Go.IntKind.i64 0))⟩,
                    ⟨none, (some 36), .mov (.t 35)⟩,
                    ⟨(some (36, true)), (some 37), .mov (.t 7)⟩,
                    ⟨(some (36, true)), (some 38), .mov (.t 1)⟩,
                    ⟨(some (36, true)), (some 39), .mov (.t 6)⟩,
                    ⟨(some (36, true)), (some 40), .bin .sub .i64 (.t 39) (.c (Go.Value.int Go.IntKind.i64 1))⟩,
                    ⟨(some (36, true)), (some 41), .iaddr 1 (.t 38) (.t 40)⟩,
                    ⟨(some (36, true)), (some 42), .load none (.t 41)⟩,
                    ⟨(some (36, true)), (some 43), .bin .leq .i64 (.t 37) (.t 42)⟩,
                    ⟨none, (some 44), .pick (.t 36) (.t 43) (.c (Go.Value.bool false))⟩,
                    ⟨none, (some 33), .mov (.t 44)⟩]) (
                .cond (.t 33) (
                  .seq (
                    .reg [4] [
                      ⟨none, (some 45), .mov (.t 6)⟩,
                      ⟨none, (some 46), .bin .sub .i64 (.c (Go.Value.int Go.IntKind.i64 (-10))) (.t 45)⟩,
                      ⟨none, (some 47), .build [.int .i64 0, .int .i64 0] [(0, 1, (.c (Go.Value.int Go.IntKind.i64 5))), (1, 1, (.t 46))]⟩,
                      ⟨none, none, .store 2 (.t 4) (.t 47)⟩]) (
                  .ret)) (
                  .skip)))))))) (
        .reg [0, 1, 4, 14, 15, 16] [
          ⟨none, (some 48), .bin .add .i64 (.t 16) (.c (Go.Value.int Go.IntKind.i64 1))⟩,
          ⟨none, (some 16), .mov (.t 48)⟩]))))))) (
  .seq (
    .reg [4] [
      ⟨none, (some 49), .build [.int .i64 0, .int .i64 0] []⟩,
      ⟨none, none, .store 2 (.t 4) (.t 49)⟩]) (
  .ret))))
theorem e62 : erase Try.prog h62 (codeOf Try.f62) = c62 := by kernel_rfl
theorem g62 {T : Tab} (hP : TabOK Try.prog T) {ag : List Arg} {R : Res} {xs : List Row} (hT : T.base = nrows ag) (hl : ag.length ≤ 50) (hnt : noTake ag = true)
    (h : vc T c62 ⟨env0 0 0 ag, rows0 0 ag⟩ (fin T [.cell 4 (some 2)] ag R xs) (fun _ _ => False) (fin T [.cell 4 (some 2)] ag R xs)) : GCall Try.prog 62 ag R xs :=
  gcall_of_vc (H := h62) Try.func62 (fn := Try.f62) (code := codeOf Try.f62) (by kernel_rfl) e62 (by kernel_rfl) (rvs := [.cell 4 (some 2)]) (by kernel_rfl) (by kernel_rfl) hP hT (by rw [show Try.f62.ntmps = 50 by kernel_rfl]; exact hl) hnt h

def h31 : Hint := ⟨49, fun n => lk [(0, [0, 1, 4]), (1, [0, 1, 4, 5]), (2, [0, 1, 4, 5, 11]), (3, [4]), (4, [0, 1, 4, 6]), (5, [0, 1, 4, 6, 16]), (6, [0, 1, 4, 6]), (7, [0, 1, 4, 6, 27]), (8, [4]), (9, [0, 1, 4, 6, 44]), (10, [4]), (11, [4])] n, fun n => mem [] n, fun n => mem [] n, fun n => lkd [(9, [(0, .p), (1, .p), (2, .p), (3, .p), (4, .p), (5, .p), (7, .p), (8, .p), (9, .p), (10, .p), (6, .r), (11, .r), (12, .p), (13, .p)])] n⟩
def c31 : CC :=
  .seq (
    .reg [0, 1, 4] [
      ⟨none, (some 4), .alloc [.int .i64 0, .int .i64 0]⟩]) (
  .seq (
    .seq (
      .reg [0, 1, 4, 5] [
        ⟨none, (some 7), .mov (.t 0)⟩,
        ⟨none, (some 8), .call 70 [(.t 7)]⟩,
        ⟨none, (some 5), .alloc [.int .i64 0, .int .i64 0]⟩,
        ⟨none, none, .store 2 (.t 5) (.t 8)⟩]) (
    .seq (
      .reg [0, 1, 4, 5, 11] [
        ⟨none, (some 9), .faddr 0 (.t 5)⟩,
        ⟨none, (some 10), .load none (.t 9)⟩,
        ⟨none, (some 11), .bin .neq .i64 (.t 10) (.c (Go.Value.int Go.IntKind.i64 0))⟩]) (
    .cond (.t 11) (
      .seq (
        .reg [4] [
          ⟨none, (some 12), .load (some 2) (.t 5)⟩,
          ⟨none, none, .store 2 (.t 4) (.t 12)⟩]) (
      .ret)) (
      .skip)))) (
  .seq (
    .seq (
      .reg [0, 1, 4, 6] [
        ⟨none, (some 6), .mov (.c (Go.Value.int Go.IntKind.i64 0))⟩]) (
    .block 0 (
      .loop (
        .seq (
          .seq (
            .reg [0, 1, 4, 6, 16] [
              ⟨none, (some 13), .mov (.t 6)⟩,
              ⟨none, (some 14), .mov (.t 1)⟩,
              ⟨none, (some 15), .len (.t 14)⟩,
              ⟨none, (some 16), .bin .lss .i64 (.t 13) (.t 15)⟩]) (
          .cond (.t 16) (
            .skip) (
            .exit 0))) (
        .seq (
          .block 1 (
            .seq (
              .seq (
                .reg [0, 1, 4, 6, 27] [
                  ⟨none, (some 19), .mov (.t 1)⟩,
                  ⟨none, (some 20), .mov (.t 6)⟩,
                  ⟨none, (some 21), .iaddr 1 (.t 19) (.t 20)⟩,
                  ⟨none, (some 22), .load none (.t 21)⟩,
                  ⟨none, (some 23), .mov (.t 0)⟩,
                  ⟨none, (some 24), .len (.t 23)⟩,
                  ⟨none, (some 25), .bin .sub .i64 (.t 24) (.c (Go.Value.int Go.IntKind.i64 1))⟩,
                  ⟨none, (some 26), .call 28 [(.t 22), (.c (Go.Value.int Go.IntKind.i64 0)), (.t 25)]⟩,
                  ⟨none, (some 27), .not (.t 26)⟩]) (
              .cond (.t 27) (
                .seq (
                  .reg [4] [
                    ⟨none, (some 28), .mov (.t 6)⟩,
                    ⟨none, (some 29), .bin .sub .i64 (.c (Go.Value.int Go.IntKind.i64 (-10))) (.t 28)⟩,
                    ⟨none, (some 30), .call 26 [(.c (Go.Value.int Go.IntKind.i64 3)), (.t 29)]⟩,
                    ⟨none, none, .store 2 (.t 4) (.t 30)⟩]) (
                .ret)) (
                .skip))) (
            .seq (
              .reg [0, 1, 4, 6, 44] [
                ⟨none, (some 31), .mov (.t 6)⟩,
                ⟨none, (some 32), .bin .gtr .i64 (.t 31) (.c (Go.Value.int Go.IntKind.i64 0))⟩,
                ⟨none, (some 33), .mov (.t 32)⟩,
                ⟨(some (33, true)), (some 34), .mov (.t 1)⟩,
                ⟨(some (33, true)), (some 35), .mov (.t 6)⟩,
                ⟨(some (33, true)), (some 36), .iaddr 1 (.t 34) (.t 35)⟩,
                ⟨(some (33, true)), (some 38), .mov (.t 1)⟩,
                ⟨(some (33, true)), (some 39), .mov (.t 6)⟩,
                ⟨(some (33, true)), (some 40), .bin .sub .i64 (.t 39) (.c (Go.Value.int Go.IntKind.i64 1))⟩,
                ⟨(some (33, true)), (some 41), .iaddr 1 (.t 38) (.t 40)⟩,
                ⟨(some (33, true)), (some 37), .load none (.t 36)⟩,
                ⟨(some (33, true)), (some 42), .load none (.t 41)⟩,
                ⟨(some (33, true)), (some 43), .bin .leq .i64 (.t 37) (.t 42)⟩,
                ⟨none, (some 44), .pick (.t 33) (.t 43) (.c (Go.Value.bool false))⟩]) (
            .cond (.t 44) (
              .seq (
                .reg [4] [
                  ⟨none, (some 45), .mov (.t 6)⟩,
                  ⟨none, (some 46), .bin .sub .i64 (.c (Go.Value.int Go.IntKind.i64 (-10))) (.t 45)⟩,
                  ⟨none, (some 47), .call 26 [(.c (Go.Value.int Go.IntKind.i64 5)), (.t 46)]⟩,
                  ⟨none, none, .store 2 (.t 4) (.t 47)⟩]) (
              .ret)) (
              .skip))))) (
        .reg [0, 1, 4, 6] [
          ⟨none, (some 17), .mov (.t 6)⟩,
          ⟨none, (some 18), .bin .add .i64 (.t 17) (.c (Go.Value.int Go.IntKind.i64 1))⟩,
          ⟨none, (some 6), .mov (.t 18)⟩])))))) (
  .seq (
    .reg [4] [
      ⟨none, (some 48), .build [.int .i64 0, .int .i64 0] []⟩,
      ⟨none, none, .store 2 (.t 4) (.t 48)⟩]) (
  .ret))))
theorem e31 : erase Try.prog h31 (codeOf Try.f31) = c31 := by kernel_rfl
theorem g31 {T : Tab} (hP : TabOK Try.prog T) {ag : List Arg} {R : Res} {xs : List Row} (hT : T.base = nrows ag) (hl : ag.length ≤ 49) (hnt : noTake ag = true)
    (h : vc T c31 ⟨env0 0 0 ag, rows0 0 ag⟩ (fin T [.cell 4 (some 2)] ag R xs) (fun _ _ => False) (fin T [.cell 4 (some 2)] ag R xs)) : GCall Try.prog 31 ag R xs :=
  gcall_of_vc (H := h31) Try.func31 (fn := Try.f31) (code := codeOf Try.f31) (by kernel_rfl) e31 (by kernel_rfl) (rvs := [.cell 4 (some 2)]) (by kernel_rfl) (by kernel_rfl) hP hT (by rw [show Try.f31.ntmps = 49 by kernel_rfl]; exact hl) hnt h

def h63 : Hint := ⟨63, fun n => lk [(0, [0, 1]), (1, [0, 1, 5]), (2, [0, 5, 13, 14, 15]), (3, [0, 5, 13, 14, 15, 16]), (4, [0, 5, 7, 13, 14, 15]), (5, [0, 5, 13, 14, 15]), (6, [0, 5, 13, 14, 15]), (7, [5, 25, 26, 27]), (8, [5, 25, 26, 27, 28]), (9, [5, 8, 9, 25, 26, 27]), (10, [5, 8, 9, 10, 25, 26, 27]), (11, [5, 8, 10, 25, 26, 27, 35, 36, 37]), (12, [5, 8, 10, 25, 26, 27, 35, 36, 37, 38]), (13, [5, 8, 10, 12, 25, 26, 27, 35, 36, 37]), (14, [5, 8, 10, 12, 25, 26, 27, 35, 36, 37, 43]), (15, [5, 8, 10, 25, 26, 27, 35, 36, 37]), (16, [5, 8, 10, 25, 26, 27, 35, 36, 37]), (17, [5, 8, 25, 26, 27, 55]), (18, [5, 25, 26, 27]), (19, [5, 25, 26, 27]), (20, [4])] n, fun n => mem [23, 50, 60] n, fun n => mem [] n, fun n => lkd [] n⟩
def c63 : CC :=
  .seq (
    .reg [0, 1] [
      ⟨none, (some 4), .mov (.c (Go.Value.slice none 0 0))⟩]) (
  .seq (
    .reg [0, 1, 5] [
      ⟨none, (some 5), .mov (.c (Go.Value.slice none 0 0))⟩]) (
  .seq (
    .seq (
      .reg [0, 5, 13, 14, 15] [
        ⟨none, (some 13), .mov (.t 1)⟩,
        ⟨none, (some 14), .len (.t 13)⟩,
        ⟨none, (some 15), .mov (.c (Go.Value.int Go.IntKind.i64 0))⟩]) (
    .block 0 (
      .loop (
        .seq (
          .reg [0, 5, 13, 14, 15, 16] [
            ⟨none, (some 16), .bin .lss .i64 (.t 15) (.t 14)⟩]) (
        .seq (
          .cond (.t 16) (
            .skip) (
            .exit 0)) (
        .seq (
          .block 1 (
            .seq (
              .reg [0, 5, 7, 13, 14, 15] [
                ⟨none, (some 17), .iaddr 1 (.t 13) (.t 15)⟩,
                ⟨none, (some 18), .load none (.t 17)⟩,
                ⟨none, (some 7), .mov (.t 18)⟩]) (
            .reg [0, 5, 13, 14, 15] [
              ⟨none, (some 19), .mov (.t 5)⟩,
              ⟨none, (some 20), .mov (.t 7)⟩,
              ⟨none, (some 21), .build [.int .i64 0, .int .i64 0] [(0, 1, (.c (Go.Value.int Go.IntKind.i64 (-1)))), (1, 1, (.t 20))]⟩,
              ⟨none, (some 22), .bsl 62 2 [(.t 21)]⟩,
              ⟨none, (some 23), .app1 62 2 16 (.t 19) (.t 22)⟩,
              ⟨none, (some 5), .mov (.t 23)⟩]))) (
        .reg [0, 5, 13, 14, 15] [
          ⟨none, (some 24), .bin .add .i64 (.t 15) (.c (Go.Value.int Go.IntKind.i64 1))⟩,
          ⟨none, (some 15), .mov (.t 24)⟩]))))))) (
  .seq (
    .seq (
      .reg [5, 25, 26, 27] [
        ⟨none, (some 25), .mov (.t 0)⟩,
        ⟨none, (some 26), .len (.t 25)⟩,
        ⟨none, (some 27), .mov (.c (Go.Value.int Go.IntKind.i64 0))⟩]) (
    .block 2 (
      .loop (
        .seq (
          .reg [5, 25, 26, 27, 28] [
            ⟨none, (some 28), .bin .lss .i64 (.t 27) (.t 26)⟩]) (
        .seq (
          .cond (.t 28) (
            .skip) (
            .exit 2)) (
        .seq (
          .block 3 (
            .seq (
              .reg [5, 8, 9, 25, 26, 27] [
                ⟨none, (some 29), .mov (.t 27)⟩,
                ⟨none, (some 30), .iaddr 4 (.t 25) (.t 27)⟩,
                ⟨none, (some 31), .load (some 4) (.t 30)⟩,
                ⟨none, (some 9), .alloc [.int .i64 0, .int .i64 0, .int .i64 0, .slice none 0 0]⟩,
                ⟨none, (some 8), .mov (.t 29)⟩,
                ⟨none, none, .store 4 (.t 9) (.t 31)⟩]) (
            .seq (
              .reg [5, 8, 9, 10, 25, 26, 27] [
                ⟨none, (some 32), .mov (.t 5)⟩,
                ⟨none, (some 33), .len (.t 32)⟩,
                ⟨none, (some 10), .mov (.t 33)⟩]) (
            .seq (
              .seq (
                .reg [5, 8, 10, 25, 26, 27, 35, 36, 37] [
                  ⟨none, (some 34), .faddr 3 (.t 9)⟩,
                  ⟨none, (some 35), .load none (.t 34)⟩,
                  ⟨none, (some 36), .len (.t 35)⟩,
                  ⟨none, (some 37), .mov (.c (Go.Value.int Go.IntKind.i64 0))⟩]) (
              .block 4 (
                .loop (
                  .seq (
                    .reg [5, 8, 10, 25, 26, 27, 35, 36, 37, 38] [
                      ⟨none, (some 38), .bin .lss .i64 (.t 37) (.t 36)⟩]) (
                  .seq (
                    .cond (.t 38) (
                      .skip) (
                      .exit 4)) (
                  .seq (
                    .block 5 (
                      .seq (
                        .reg [5, 8, 10, 12, 25, 26, 27, 35, 36, 37] [
                          ⟨none, (some 39), .iaddr 2 (.t 35) (.t 37)⟩,
                          ⟨none, (some 40), .load (some 2) (.t 39)⟩,
                          ⟨none, (some 12), .alloc [.int .i64 0, .int .i64 0]⟩,
                          ⟨none, none, .store 2 (.t 12) (.t 40)⟩]) (
                      .seq (
                        .reg [5, 8, 10, 12, 25, 26, 27, 35, 36, 37, 43] [
                          ⟨none, (some 41), .faddr 0 (.t 12)⟩,
                          ⟨none, (some 42), .load none (.t 41)⟩,
                          ⟨none, (some 43), .bin .neq .i64 (.t 42) (.c (Go.Value.int Go.IntKind.i64 3))⟩]) (
                      .cond (.t 43) (
                        .reg [5, 8, 10, 25, 26, 27, 35, 36, 37] [
                          ⟨none, (some 44), .mov (.t 5)⟩,
                          ⟨none, (some 45), .mov (.t 8)⟩,
                          ⟨none, (some 46), .faddr 1 (.t 12)⟩,
                          ⟨none, (some 47), .load none (.t 46)⟩,
                          ⟨none, (some 48), .build [.int .i64 0, .int .i64 0] [(0, 1, (.t 45)), (1, 1, (.t 47))]⟩,
                          ⟨none, (some 49), .bsl 62 2 [(.t 48)]⟩,
                          ⟨none, (some 50), .app1 62 2 16 (.t 44) (.t 49)⟩,
                          ⟨none, (some 5), .mov (.t 50)⟩]) (
                        .skip))))) (
                  .reg [5, 8, 10, 25, 26, 27, 35, 36, 37] [
                    ⟨none, (some 51), .bin .add .i64 (.t 37) (.c (Go.Value.int Go.IntKind.i64 1))⟩,
                    ⟨none, (some 37), .mov (.t 51)⟩]))))))) (
            .seq (
              .reg [5, 8, 25, 26, 27, 55] [
                ⟨none, (some 52), .mov (.t 5)⟩,
                ⟨none, (some 53), .len (.t 52)⟩,
                ⟨none, (some 54), .mov (.t 10)⟩,
                ⟨none, (some 55), .bin .eql .i64 (.t 53) (.t 54)⟩]) (
            .cond (.t 55) (
              .reg [5, 25, 26, 27] [
                ⟨none, (some 56), .mov (.t 5)⟩,
                ⟨none, (some 57), .mov (.t 8)⟩,
                ⟨none, (some 58), .build [.int .i64 0, .int .i64 0] [(0, 1, (.t 57)), (1, 1, (.c (Go.Value.int Go.IntKind.i64 (-1))))]⟩,
                ⟨none, (some 59), .bsl 62 2 [(.t 58)]⟩,
                ⟨none, (some 60), .app1 62 2 16 (.t 56) (.t 59)⟩,
                ⟨none, (some 5), .mov (.t 60)⟩]) (
              .skip))))))) (
        .reg [5, 25, 26, 27] [
          ⟨none, (some 61), .bin .add .i64 (.t 27) (.c (Go.Value.int Go.IntKind.i64 1))⟩,
          ⟨none, (some 27), .mov (.t 61)⟩]))))))) (
  .seq (
    .reg [4] [
      ⟨none, (some 62), .mov (.t 5)⟩,
      ⟨none, (some 4), .mov (.t 62)⟩]) (
  .ret)))))
theorem e63 : erase Try.prog h63 (codeOf Try.f63) = c63 := by kernel_rfl
theorem g63 {T : Tab} (hP : TabOK Try.prog T) {ag : List Arg} {R : Res} {xs : List Row} (hT : T.base = nrows ag) (hl : ag.length ≤ 63) (hnt : noTake ag = true)
    (h : vc T c63 ⟨env0 0 0 ag, rows0 0 ag⟩ (fin T [.tmp 4] ag R xs) (fun _ _ => False) (fin T [.tmp 4] ag R xs)) : GCall Try.prog 63 ag R xs :=
  gcall_of_vc (H := h63) Try.func63 (fn := Try.f63) (code := codeOf Try.f63) (by kernel_rfl) e63 (by kernel_rfl) (rvs := [.tmp 4]) (by kernel_rfl) (by kernel_rfl) hP hT (by rw [show Try.f63.ntmps = 63 by kernel_rfl]; exact hl) hnt h

def h33 : Hint := ⟨72, fun n => lk [(0, [0, 1]), (1, [0, 1, 5]), (2, [0, 1, 5, 6]), (3, [0, 1, 5, 6, 13]), (4, [0, 1, 5, 6]), (5, [0, 1, 5, 6]), (6, [0, 5, 7]), (7, [0, 5, 7, 27]), (8, [0, 5, 7]), (9, [0, 5, 7, 8]), (10, [0, 5, 7, 8, 9]), (11, [0, 5, 7, 8, 9, 37]), (12, [0, 5, 7, 8, 9]), (13, [0, 5, 7, 8, 9, 49]), (14, [0, 5, 7, 9]), (15, [0, 5, 7, 8, 9]), (16, [0, 5, 7, 65]), (17, [0, 5, 7]), (18, [4])] n, fun n => mem [23, 63, 70] n, fun n => mem [] n, fun n => lkd [] n⟩
def c33 : CC :=
  .seq (
    .reg [0, 1] [
      ⟨none, (some 4), .mov (.c (Go.Value.slice none 0 0))⟩]) (
  .seq (
    .reg [0, 1, 5] [
      ⟨none, (some 5), .mov (.c (Go.Value.slice none 0 0))⟩]) (
  .seq (
    .seq (
      .reg [0, 1, 5, 6] [
        ⟨none, (some 6), .mov (.c (Go.Value.int Go.IntKind.i64 0))⟩]) (
    .block 0 (
      .loop (
        .seq (
          .seq (
            .reg [0, 1, 5, 6, 13] [
              ⟨none, (some 10), .mov (.t 6)⟩,
              ⟨none, (some 11), .mov (.t 1)⟩,
              ⟨none, (some 12), .len (.t 11)⟩,
              ⟨none, (some 13), .bin .lss .i64 (.t 10) (.t 12)⟩]) (
          .cond (.t 13) (
            .skip) (
            .exit 0))) (
        .seq (
          .block 1 (
            .reg [0, 1, 5, 6] [
              ⟨none, (some 16), .mov (.t 5)⟩,
              ⟨none, (some 17), .mov (.t 1)⟩,
              ⟨none, (some 18), .mov (.t 6)⟩,
              ⟨none, (some 19), .iaddr 1 (.t 17) (.t 18)⟩,
              ⟨none, (some 20), .load none (.t 19)⟩,
              ⟨none, (some 21), .build [.int .i64 0, .int .i64 0] [(0, 1, (.c (Go.Value.int Go.IntKind.i64 (-1)))), (1, 1, (.t 20))]⟩,
              ⟨none, (some 22), .bsl 62 2 [(.t 21)]⟩,
              ⟨none, (some 23), .app1 62 2 16 (.t 16) (.t 22)⟩,
              ⟨none, (some 5), .mov (.t 23)⟩])) (
        .reg [0, 1, 5, 6] [
          ⟨none, (some 14), .mov (.t 6)⟩,
          ⟨none, (some 15), .bin .add .i64 (.t 14) (.c (Go.Value.int Go.IntKind.i64 1))⟩,
          ⟨none, (some 6), .mov (.t 15)⟩])))))) (
  .seq (
    .seq (
      .reg [0, 5, 7] [
        ⟨none, (some 7), .mov (.c (Go.Value.int Go.IntKind.i64 0))⟩]) (
    .block 2 (
      .loop (
        .seq (
          .seq (
            .reg [0, 5, 7, 27] [
              ⟨none, (some 24), .mov (.t 7)⟩,
              ⟨none, (some 25), .mov (.t 0)⟩,
              ⟨none, (some 26), .len (.t 25)⟩,
              ⟨none, (some 27), .bin .lss .i64 (.t 24) (.t 26)⟩]) (
          .cond (.t 27) (
            .skip) (
            .exit 2))) (
        .seq (
          .block 3 (
            .seq (
              .reg [0, 5, 7, 8] [
                ⟨none, (some 8), .mov (.c (Go.Value.bool false))⟩]) (
            .seq (
              .seq (
                .reg [0, 5, 7, 8, 9] [
                  ⟨none, (some 9), .mov (.c (Go.Value.int Go.IntKind.i64 0))⟩]) (
              .block 4 (
                .loop (
                  .seq (
                    .seq (
                      .reg [0, 5, 7, 8, 9, 37] [
                        ⟨none, (some 30), .mov (.t 9)⟩,
                        ⟨none, (some 31), .mov (.t 0)⟩,
                        ⟨none, (some 32), .mov (.t 7)⟩,
                        ⟨none, (some 33), .iaddr 4 (.t 31) (.t 32)⟩,
                        ⟨none, (some 34), .faddr 3 (.t 33)⟩,
                        ⟨none, (some 35), .load none (.t 34)⟩,
                        ⟨none, (some 36), .len (.t 35)⟩,
                        ⟨none, (some 37), .bin .lss .i64 (.t 30) (.t 36)⟩]) (
                    .cond (.t 37) (
                      .skip) (
                      .exit 4))) (
                  .seq (
                    .block 5 (
                      .seq (
                        .reg [0, 5, 7, 8, 9, 49] [
                          ⟨none, (some 40), .mov (.t 0)⟩,
                          ⟨none, (some 41), .mov (.t 7)⟩,
                          ⟨none, (some 42), .iaddr 4 (.t 40) (.t 41)⟩,
                          ⟨none, (some 43), .faddr 3 (.t 42)⟩,
                          ⟨none, (some 44), .load none (.t 43)⟩,
                          ⟨none, (some 45), .mov (.t 9)⟩,
                          ⟨none, (some 46), .iaddr 2 (.t 44) (.t 45)⟩,
                          ⟨none, (some 47), .faddr 0 (.t 46)⟩,
                          ⟨none, (some 48), .load none (.t 47)⟩,
                          ⟨none, (some 49), .bin .neq .i64 (.t 48) (.c (Go.Value.int Go.IntKind.i64 3))⟩]) (
                      .cond (.t 49) (
                        .seq (
                          .reg [0, 5, 7, 9] [
                            ⟨none, (some 50), .mov (.t 5)⟩,
                            ⟨none, (some 51), .mov (.t 7)⟩,
                            ⟨none, (some 52), .mov (.t 0)⟩,
                            ⟨none, (some 53), .mov (.t 7)⟩,
                            ⟨none, (some 54), .iaddr 4 (.t 52) (.t 53)⟩,
                            ⟨none, (some 55), .faddr 3 (.t 54)⟩,
                            ⟨none, (some 56), .load none (.t 55)⟩,
                            ⟨none, (some 57), .mov (.t 9)⟩,
                            ⟨none, (some 58), .iaddr 2 (.t 56) (.t 57)⟩,
                            ⟨none, (some 59), .faddr 1 (.t 58)⟩,
                            ⟨none, (some 60), .load none (.t 59)⟩,
                            ⟨none, (some 61), .build [.int .i64 0, .int .i64 0] [(0, 1, (.t 51)), (1, 1, (.t 60))]⟩,
                            ⟨none, (some 62), .bsl 62 2 [(.t 61)]⟩,
                            ⟨none, (some 63), .app1 62 2 16 (.t 50) (.t 62)⟩,
                            ⟨none, (some 5), .mov (.t 63)⟩]) (
                        .reg [0, 5, 7, 8, 9] [
                          ⟨none, (some 8), .mov (.c (Go.Value.bool true))⟩])) (
                        .skip)))) (
                  .reg [0, 5, 7, 8, 9] [
                    ⟨none, (some 38), .mov (.t 9)⟩,
                    ⟨none, (some 39), .bin .add .i64 (.t 38) (.c (Go.Value.int Go.IntKind.i64 1))⟩,
                    ⟨none, (some 9), .mov (.t 39)⟩])))))) (
            .seq (
              .reg [0, 5, 7, 65] [
                ⟨none, (some 64), .mov (.t 8)⟩,
                ⟨none, (some 65), .not (.t 64)⟩]) (
            .cond (.t 65) (
              .reg [0, 5, 7] [
                ⟨none, (some 66), .mov (.t 5)⟩,
                ⟨none, (some 67), .mov (.t 7)⟩,
                ⟨none, (some 68), .build [.int .i64 0, .int .i64 0] [(0, 1, (.t 67)), (1, 1, (.c (Go.Value.int Go.IntKind.i64 (-1))))]⟩,
                ⟨none, (some 69), .bsl 62 2 [(.t 68)]⟩,
                ⟨none, (some 70), .app1 62 2 16 (.t 66) (.t 69)⟩,
                ⟨none, (some 5), .mov (.t 70)⟩]) (
              .skip)))))) (
        .reg [0, 5, 7] [
          ⟨none, (some 28), .mov (.t 7)⟩,
          ⟨none, (some 29), .bin .add .i64 (.t 28) (.c (Go.Value.int Go.IntKind.i64 1))⟩,
          ⟨none, (some 7), .mov (.t 29)⟩])))))) (
  .seq (
    .reg [4] [
      ⟨none, (some 71), .mov (.t 5)⟩,
      ⟨none, (some 4), .mov (.t 71)⟩]) (
  .ret)))))
theorem e33 : erase Try.prog h33 (codeOf Try.f33) = c33 := by kernel_rfl
theorem g33 {T : Tab} (hP : TabOK Try.prog T) {ag : List Arg} {R : Res} {xs : List Row} (hT : T.base = nrows ag) (hl : ag.length ≤ 72) (hnt : noTake ag = true)
    (h : vc T c33 ⟨env0 0 0 ag, rows0 0 ag⟩ (fin T [.tmp 4] ag R xs) (fun _ _ => False) (fin T [.tmp 4] ag R xs)) : GCall Try.prog 33 ag R xs :=
  gcall_of_vc (H := h33) Try.func33 (fn := Try.f33) (code := codeOf Try.f33) (by kernel_rfl) e33 (by kernel_rfl) (rvs := [.tmp 4]) (by kernel_rfl) (by kernel_rfl) hP hT (by rw [show Try.f33.ntmps = 72 by kernel_rfl]; exact hl) hnt h

def h64 : Hint := ⟨30, fun n => lk [(0, [0, 1, 4]), (1, [0, 4, 10]), (2, [4]), (3, [4, 12, 13, 14]), (4, [4, 12, 13, 14, 15]), (5, [4, 5, 6, 12, 13, 14]), (6, [4, 5, 12, 13, 14, 24]), (7, [4]), (8, [4, 12, 13, 14]), (9, [4])] n, fun n => mem [] n, fun n => mem [] n, fun n => lkd [] n⟩
def c64 : CC :=
  .seq (
    .reg [0, 1, 4] [
      ⟨none, (some 4), .alloc [.int .i64 0, .int .i64 0]⟩]) (
  .seq (
    .seq (
      .reg [0, 4, 10] [
        ⟨none, (some 7), .mov (.t 0)⟩,
        ⟨none, (some 8), .len (.t 7)⟩,
        ⟨none, (some 9), .mov (.t 1)⟩,
        ⟨none, (some 10), .bin .neq .i64 (.t 8) (.t 9)⟩]) (
    .cond (.t 10) (
      .seq (
        .reg [4] [
          ⟨none, (some 11), .build [.int .i64 0, .int .i64 0] [(0, 1, (.c (Go.Value.int Go.IntKind.i64 9))), (1, 1, (.c (Go.Value.int Go.IntKind.i64 (-2))))]⟩,
          ⟨none, none, .store 2 (.t 4) (.t 11)⟩]) (
      .ret)) (
      .skip))) (
  .seq (
    .seq (
      .reg [4, 12, 13, 14] [
        ⟨none, (some 12), .mov (.t 0)⟩,
        ⟨none, (some 13), .len (.t 12)⟩,
        ⟨none, (some 14), .mov (.c (Go.Value.int Go.IntKind.i64 0))⟩]) (
    .block 0 (
      .loop (
        .seq (
          .reg [4, 12, 13, 14, 15] [
            ⟨none, (some 15), .bin .lss .i64 (.t 14) (.t 13)⟩]) (
        .seq (
          .cond (.t 15) (
            .skip) (
            .exit 0)) (
        .seq (
          .block 1 (
            .seq (
              .reg [4, 5, 6, 12, 13, 14] [
                ⟨none, (some 16), .mov (.t 14)⟩,
                ⟨none, (some 17), .iaddr 1 (.t 12) (.t 14)⟩,
                ⟨none, (some 18), .load none (.t 17)⟩,
                ⟨none, (some 5), .mov (.t 16)⟩,
                ⟨none, (some 6), .mov (.t 18)⟩]) (
            .seq (
              .reg [4, 5, 12, 13, 14, 24] [
                ⟨none, (some 19), .mov (.t 6)⟩,
                ⟨none, (some 20), .bin .lss .i64 (.t 19) (.c (Go.Value.int Go.IntKind.i64 0))⟩,
                ⟨none, (some 21), .mov (.t 20)⟩,
                ⟨(some (21, false)), (some 22), .mov (.t 6)⟩,
                ⟨(some (21, false)), (some 23), .bin .gtr .i64 (.t 22) (.c (Go.Value.int Go.IntKind.i64 1000000))⟩,
                ⟨none, (some 24), .pick (.t 21) (.c (Go.Value.bool true)) (.t 23)⟩]) (
            .cond (.t 24) (
              .seq (
                .reg [4] [
                  ⟨none, (some 25), .mov (.t 5)⟩,
                  ⟨none, (some 26), .bin .sub .i64 (.c (Go.Value.int Go.IntKind.i64 (-200))) (.t 25)⟩,
                  ⟨none, (some 27), .build [.int .i64 0, .int .i64 0] [(0, 1, (.c (Go.Value.int Go.IntKind.i64 3))), (1, 1, (.t 26))]⟩,
                  ⟨none, none, .store 2 (.t 4) (.t 27)⟩]) (
              .ret)) (
              .skip))))) (
        .reg [4, 12, 13, 14] [
          ⟨none, (some 28), .bin .add .i64 (.t 14) (.c (Go.Value.int Go.IntKind.i64 1))⟩,
          ⟨none, (some 14), .mov (.t 28)⟩]))))))) (
  .seq (
    .reg [4] [
      ⟨none, (some 29), .build [.int .i64 0, .int .i64 0] []⟩,
      ⟨none, none, .store 2 (.t 4) (.t 29)⟩]) (
  .ret))))
theorem e64 : erase Try.prog h64 (codeOf Try.f64) = c64 := by kernel_rfl
theorem g64 {T : Tab} (hP : TabOK Try.prog T) {ag : List Arg} {R : Res} {xs : List Row} (hT : T.base = nrows ag) (hl : ag.length ≤ 30) (hnt : noTake ag = true)
    (h : vc T c64 ⟨env0 0 0 ag, rows0 0 ag⟩ (fin T [.cell 4 (some 2)] ag R xs) (fun _ _ => False) (fin T [.cell 4 (some 2)] ag R xs)) : GCall Try.prog 64 ag R xs :=
  gcall_of_vc (H := h64) Try.func64 (fn := Try.f64) (code := codeOf Try.f64) (by kernel_rfl) e64 (by kernel_rfl) (rvs := [.cell 4 (some 2)]) (by kernel_rfl) (by kernel_rfl) hP hT (by rw [show Try.f64.ntmps = 30 by kernel_rfl]; exact hl) hnt h

def h32 : Hint := ⟨26, fun n => lk [(0, [0, 1, 4]), (1, [0, 1, 4, 9]), (2, [4]), (3, [0, 1, 4, 5]), (4, [0, 1, 4, 5, 13]), (5, [0, 1, 4, 5]), (6, [0, 1, 4, 5, 21]), (7, [4]), (8, [4])] n, fun n => mem [] n, fun n => mem [] n, fun n => lkd [] n⟩
def c32 : CC :=
  .seq (
    .reg [0, 1, 4] [
      ⟨none, (some 4), .alloc [.int .i64 0, .int .i64 0]⟩]) (
  .seq (
    .seq (
      .reg [0, 1, 4, 9] [
        ⟨none, (some 6), .mov (.t 0)⟩,
        ⟨none, (some 7), .len (.t 6)⟩,
        ⟨none, (some 8), .mov (.t 1)⟩,
        ⟨none, (some 9), .bin .neq .i64 (.t 7) (.t 8)⟩]) (
    .cond (.t 9) (
      .seq (
        .reg [4] [
          ⟨none, (some 10), .call 26 [(.c (Go.Value.int Go.IntKind.i64 9)), (.c (Go.Value.int Go.IntKind.i64 (-2)))]⟩,
          ⟨none, none, .store 2 (.t 4) (.t 10)⟩]) (
      .ret)) (
      .skip))) (
  .seq (
    .seq (
      .reg [0, 1, 4, 5] [
        ⟨none, (some 5), .mov (.c (Go.Value.int Go.IntKind.i64 0))⟩]) (
    .block 0 (
      .loop (
        .seq (
          .seq (
            .reg [0, 1, 4, 5, 13] [
              ⟨none, (some 11), .mov (.t 5)⟩,
              ⟨none, (some 12), .mov (.t 1)⟩,
              ⟨none, (some 13), .bin .lss .i64 (.t 11) (.t 12)⟩]) (
          .cond (.t 13) (
            .skip) (
            .exit 0))) (
        .seq (
          .block 1 (
            .seq (
              .reg [0, 1, 4, 5, 21] [
                ⟨none, (some 16), .mov (.t 0)⟩,
                ⟨none, (some 17), .mov (.t 5)⟩,
                ⟨none, (some 18), .iaddr 1 (.t 16) (.t 17)⟩,
                ⟨none, (some 19), .load none (.t 18)⟩,
                ⟨none, (some 20), .call 28 [(.t 19), (.c (Go.Value.int Go.IntKind.i64 0)), (.c (Go.Value.int Go.IntKind.i64 1000000))]⟩,
                ⟨none, (some 21), .not (.t 20)⟩]) (
            .cond (.t 21) (
              .seq (
                .reg [4] [
                  ⟨none, (some 22), .mov (.t 5)⟩,
                  ⟨none, (some 23), .bin .sub .i64 (.c (Go.Value.int Go.IntKind.i64 (-200))) (.t 22)⟩,
                  ⟨none, (some 24), .call 26 [(.c (Go.Value.int Go.IntKind.i64 3)), (.t 23)]⟩,
                  ⟨none, none, .store 2 (.t 4) (.t 24)⟩]) (
              .ret)) (
              .skip)))) (
        .reg [0, 1, 4, 5] [
          ⟨none, (some 14), .mov (.t 5)⟩,
          ⟨none, (some 15), .bin .add .i64 (.t 14) (.c (Go.Value.int Go.IntKind.i64 1))⟩,
          ⟨none, (some 5), .mov (.t 15)⟩])))))) (
  .seq (
    .reg [4] [
      ⟨none, (some 25), .build [.int .i64 0, .int .i64 0] []⟩,
      ⟨none, none, .store 2 (.t 4) (.t 25)⟩]) (
  .ret))))
theorem e32 : erase Try.prog h32 (codeOf Try.f32) = c32 := by kernel_rfl
theorem g32 {T : Tab} (hP : TabOK Try.prog T) {ag : List Arg} {R : Res} {xs : List Row} (hT : T.base = nrows ag) (hl : ag.length ≤ 26) (hnt : noTake ag = true)
    (h : vc T c32 ⟨env0 0 0 ag, rows0 0 ag⟩ (fin T [.cell 4 (some 2)] ag R xs) (fun _ _ => False) (fin T [.cell 4 (some 2)] ag R xs)) : GCall Try.prog 32 ag R xs :=
  gcall_of_vc (H := h32) Try.func32 (fn := Try.f32) (code := codeOf Try.f32) (by kernel_rfl) e32 (by kernel_rfl) (rvs := [.cell 4 (some 2)]) (by kernel_rfl) (by kernel_rfl) hP hT (by rw [show Try.f32.ntmps = 26 by kernel_rfl]; exact hl) hnt h

end Go.Eng
