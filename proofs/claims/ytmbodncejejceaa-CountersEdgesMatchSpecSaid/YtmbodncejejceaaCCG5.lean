/- The compact code of functions. -/
import Derived.Test.YtmbodncejejceaaCFam
set_option linter.all false

set_option maxRecDepth 100000
namespace Go.Eng
open Go.Proofs

def h71 : Hint := ⟨93, fun n => lk [(0, [0, 1, 2, 3]), (1, [0, 1, 2, 3, 14]), (2, [8]), (3, [0, 1, 3, 9]), (4, [0, 1, 3, 9, 10]), (5, [0, 1, 3, 9, 10, 20]), (6, [0, 1, 3, 9, 10]), (7, [0, 1, 3, 9, 10, 11]), (8, [0, 1, 3, 9, 10, 11, 26]), (9, [0, 1, 3, 9, 10, 11]), (10, [0, 1, 3, 9, 10, 11, 33]), (11, [0, 1, 3, 9, 10, 11, 53]), (12, [0, 1, 3, 9, 10, 11]), (13, [0, 1, 3, 9, 10, 11, 81]), (14, [0, 1, 3, 9, 10, 11]), (15, [8])] n, fun n => mem [61, 89] n, fun n => mem [] n, fun n => lkd [(11, [(0, .p), (1, .p), (2, .p), (3, .p), (5, .p), (6, .p), (7, .p), (4, .r), (8, .r), (9, .p), (10, .p), (11, .p), (12, .p), (13, .p), (14, .p), (15, .p), (16, .r), (17, .g), (18, .p), (19, .p)]), (13, [(0, .p), (1, .p), (2, .p), (3, .p), (5, .p), (6, .p), (7, .p), (4, .r), (8, .r), (9, .p), (10, .p), (11, .p), (12, .p), (13, .p), (14, .p), (15, .p), (16, .r), (17, .g), (18, .p), (19, .p)])] n⟩
def c71 : CC :=
  .seq (
    .reg [0, 1, 2, 3] [
      ⟨none, (some 8), .mov (.c (Go.Value.bool false))⟩]) (
  .seq (
    .seq (
      .reg [0, 1, 2, 3, 14] [
        ⟨none, (some 12), .mov (.t 2)⟩,
        ⟨none, (some 13), .mov (.t 3)⟩,
        ⟨none, (some 14), .bin .eql .i64 (.t 12) (.t 13)⟩]) (
    .cond (.t 14) (
      .seq (
        .reg [8] [
          ⟨none, (some 8), .mov (.c (Go.Value.bool true))⟩]) (
      .ret)) (
      .skip))) (
  .seq (
    .reg [0, 1, 3, 9] [
      ⟨none, (some 15), .mov (.t 2)⟩,
      ⟨none, (some 16), .bsl 3 1 [(.t 15)]⟩,
      ⟨none, (some 9), .mov (.t 16)⟩]) (
  .seq (
    .seq (
      .reg [0, 1, 3, 9, 10] [
        ⟨none, (some 10), .mov (.c (Go.Value.int Go.IntKind.i64 0))⟩]) (
    .block 0 (
      .loop (
        .seq (
          .seq (
            .reg [0, 1, 3, 9, 10, 20] [
              ⟨none, (some 17), .mov (.t 10)⟩,
              ⟨none, (some 18), .mov (.t 9)⟩,
              ⟨none, (some 19), .len (.t 18)⟩,
              ⟨none, (some 20), .bin .lss .i64 (.t 17) (.t 19)⟩]) (
          .cond (.t 20) (
            .skip) (
            .exit 0))) (
        .seq (
          .block 1 (
            .seq (
              .reg [0, 1, 3, 9, 10, 11] [
                ⟨none, (some 11), .mov (.c (Go.Value.int Go.IntKind.i64 0))⟩]) (
            .block 2 (
              .loop (
                .seq (
                  .seq (
                    .reg [0, 1, 3, 9, 10, 11, 26] [
                      ⟨none, (some 23), .mov (.t 11)⟩,
                      ⟨none, (some 24), .mov (.t 0)⟩,
                      ⟨none, (some 25), .len (.t 24)⟩,
                      ⟨none, (some 26), .bin .lss .i64 (.t 23) (.t 25)⟩]) (
                  .cond (.t 26) (
                    .skip) (
                    .exit 2))) (
                .seq (
                  .block 3 (
                    .seq (
                      .seq (
                        .reg [0, 1, 3, 9, 10, 11, 33] [
                          ⟨none, (some 29), .mov (.t 1)⟩,
                          ⟨none, (some 30), .mov (.t 11)⟩,
                          ⟨none, (some 31), .iaddr 1 (.t 29) (.t 30)⟩,
                          ⟨none, (some 32), .load none (.t 31)⟩,
                          ⟨none, (some 33), .not (.t 32)⟩]) (
                      .cond (.t 33) (
                        .exit 3) (
                        .skip))) (
                    .seq (
                      .seq (
                        .reg [0, 1, 3, 9, 10, 11, 53] [
                          ⟨none, (some 34), .mov (.t 0)⟩,
                          ⟨none, (some 35), .mov (.t 11)⟩,
                          ⟨none, (some 36), .iaddr 2 (.t 34) (.t 35)⟩,
                          ⟨none, (some 37), .aaddr 2 1 (.t 36) (.c (Go.Value.int Go.IntKind.i64 0))⟩,
                          ⟨none, (some 39), .mov (.t 9)⟩,
                          ⟨none, (some 40), .mov (.t 10)⟩,
                          ⟨none, (some 41), .iaddr 1 (.t 39) (.t 40)⟩,
                          ⟨none, (some 38), .load none (.t 37)⟩,
                          ⟨none, (some 42), .load none (.t 41)⟩,
                          ⟨none, (some 43), .bin .eql .i64 (.t 38) (.t 42)⟩,
                          ⟨none, (some 44), .mov (.t 43)⟩,
                          ⟨(some (44, true)), (some 45), .mov (.t 9)⟩,
                          ⟨(some (44, true)), (some 46), .mov (.t 0)⟩,
                          ⟨(some (44, true)), (some 47), .mov (.t 11)⟩,
                          ⟨(some (44, true)), (some 48), .iaddr 2 (.t 46) (.t 47)⟩,
                          ⟨(some (44, true)), (some 49), .aaddr 2 1 (.t 48) (.c (Go.Value.int Go.IntKind.i64 1))⟩,
                          ⟨(some (44, true)), (some 50), .load none (.t 49)⟩,
                          ⟨(some (44, true)), (some 51), .call 38 [(.t 45), (.t 50)]⟩,
                          ⟨(some (44, true)), (some 52), .not (.t 51)⟩,
                          ⟨none, (some 53), .pick (.t 44) (.t 52) (.c (Go.Value.bool false))⟩]) (
                      .cond (.t 53) (
                        .reg [0, 1, 3, 9, 10, 11] [
                          ⟨none, (some 54), .mov (.t 9)⟩,
                          ⟨none, (some 55), .mov (.t 0)⟩,
                          ⟨none, (some 56), .mov (.t 11)⟩,
                          ⟨none, (some 57), .iaddr 2 (.t 55) (.t 56)⟩,
                          ⟨none, (some 58), .aaddr 2 1 (.t 57) (.c (Go.Value.int Go.IntKind.i64 1))⟩,
                          ⟨none, (some 59), .load none (.t 58)⟩,
                          ⟨none, (some 60), .bsl 3 1 [(.t 59)]⟩,
                          ⟨none, (some 61), .app1 3 1 8 (.t 54) (.t 60)⟩,
                          ⟨none, (some 9), .mov (.t 61)⟩]) (
                        .skip))) (
                    .seq (
                      .reg [0, 1, 3, 9, 10, 11, 81] [
                        ⟨none, (some 62), .mov (.t 0)⟩,
                        ⟨none, (some 63), .mov (.t 11)⟩,
                        ⟨none, (some 64), .iaddr 2 (.t 62) (.t 63)⟩,
                        ⟨none, (some 65), .aaddr 2 1 (.t 64) (.c (Go.Value.int Go.IntKind.i64 1))⟩,
                        ⟨none, (some 67), .mov (.t 9)⟩,
                        ⟨none, (some 68), .mov (.t 10)⟩,
                        ⟨none, (some 69), .iaddr 1 (.t 67) (.t 68)⟩,
                        ⟨none, (some 66), .load none (.t 65)⟩,
                        ⟨none, (some 70), .load none (.t 69)⟩,
                        ⟨none, (some 71), .bin .eql .i64 (.t 66) (.t 70)⟩,
                        ⟨none, (some 72), .mov (.t 71)⟩,
                        ⟨(some (72, true)), (some 73), .mov (.t 9)⟩,
                        ⟨(some (72, true)), (some 74), .mov (.t 0)⟩,
                        ⟨(some (72, true)), (some 75), .mov (.t 11)⟩,
                        ⟨(some (72, true)), (some 76), .iaddr 2 (.t 74) (.t 75)⟩,
                        ⟨(some (72, true)), (some 77), .aaddr 2 1 (.t 76) (.c (Go.Value.int Go.IntKind.i64 0))⟩,
                        ⟨(some (72, true)), (some 78), .load none (.t 77)⟩,
                        ⟨(some (72, true)), (some 79), .call 38 [(.t 73), (.t 78)]⟩,
                        ⟨(some (72, true)), (some 80), .not (.t 79)⟩,
                        ⟨none, (some 81), .pick (.t 72) (.t 80) (.c (Go.Value.bool false))⟩]) (
                    .cond (.t 81) (
                      .reg [0, 1, 3, 9, 10, 11] [
                        ⟨none, (some 82), .mov (.t 9)⟩,
                        ⟨none, (some 83), .mov (.t 0)⟩,
                        ⟨none, (some 84), .mov (.t 11)⟩,
                        ⟨none, (some 85), .iaddr 2 (.t 83) (.t 84)⟩,
                        ⟨none, (some 86), .aaddr 2 1 (.t 85) (.c (Go.Value.int Go.IntKind.i64 0))⟩,
                        ⟨none, (some 87), .load none (.t 86)⟩,
                        ⟨none, (some 88), .bsl 3 1 [(.t 87)]⟩,
                        ⟨none, (some 89), .app1 3 1 8 (.t 82) (.t 88)⟩,
                        ⟨none, (some 9), .mov (.t 89)⟩]) (
                      .skip)))))) (
                .reg [0, 1, 3, 9, 10, 11] [
                  ⟨none, (some 27), .mov (.t 11)⟩,
                  ⟨none, (some 28), .bin .add .i64 (.t 27) (.c (Go.Value.int Go.IntKind.i64 1))⟩,
                  ⟨none, (some 11), .mov (.t 28)⟩]))))))) (
        .reg [0, 1, 3, 9, 10] [
          ⟨none, (some 21), .mov (.t 10)⟩,
          ⟨none, (some 22), .bin .add .i64 (.t 21) (.c (Go.Value.int Go.IntKind.i64 1))⟩,
          ⟨none, (some 10), .mov (.t 22)⟩])))))) (
  .seq (
    .reg [8] [
      ⟨none, (some 90), .mov (.t 9)⟩,
      ⟨none, (some 91), .mov (.t 3)⟩,
      ⟨none, (some 92), .call 38 [(.t 90), (.t 91)]⟩,
      ⟨none, (some 8), .mov (.t 92)⟩]) (
  .ret)))))
theorem e71 : erase Try.prog h71 (codeOf Try.f71) = c71 := by kernel_rfl
theorem g71 {T : Tab} (hP : TabOK Try.prog T) {ag : List Arg} {R : Res} {xs : List Row} (hT : T.base = nrows ag) (hl : ag.length ≤ 93) (hnt : noTake ag = true)
    (h : vc T c71 ⟨env0 0 0 ag, rows0 0 ag⟩ (fin T [.tmp 8] ag R xs) (fun _ _ => False) (fin T [.tmp 8] ag R xs)) : GCall Try.prog 71 ag R xs :=
  gcall_of_vc (H := h71) Try.func71 (fn := Try.f71) (code := codeOf Try.f71) (by kernel_rfl) e71 (by kernel_rfl) (rvs := [.tmp 8]) (by kernel_rfl) (by kernel_rfl) hP hT (by rw [show Try.f71.ntmps = 93 by kernel_rfl]; exact hl) hnt h

def h72 : Hint := ⟨48, fun n => lk [(0, [0, 1]), (1, [0, 1, 5]), (2, [0, 1, 5, 6]), (3, [0, 1, 5, 6, 7]), (4, [0, 1, 5, 6, 7, 11]), (5, [0, 1, 5, 6, 7]), (6, [0, 1, 5, 6, 7, 23]), (7, [0, 1, 5, 7]), (8, [0, 1, 5, 6, 7]), (9, [0, 1, 5, 6, 7, 33]), (10, [0, 1, 5, 6, 7]), (11, [1, 5, 42]), (12, [5]), (13, [4])] n, fun n => mem [27, 40, 46] n, fun n => mem [] n, fun n => lkd [] n⟩
def c72 : CC :=
  .seq (
    .reg [0, 1] [
      ⟨none, (some 4), .mov (.c (Go.Value.slice none 0 0))⟩]) (
  .seq (
    .reg [0, 1, 5] [
      ⟨none, (some 5), .mov (.c (Go.Value.slice none 0 0))⟩]) (
  .seq (
    .reg [0, 1, 5, 6] [
      ⟨none, (some 6), .mov (.c (Go.Value.bool false))⟩]) (
  .seq (
    .seq (
      .reg [0, 1, 5, 6, 7] [
        ⟨none, (some 7), .mov (.c (Go.Value.int Go.IntKind.i64 0))⟩]) (
    .block 0 (
      .loop (
        .seq (
          .seq (
            .reg [0, 1, 5, 6, 7, 11] [
              ⟨none, (some 8), .mov (.t 7)⟩,
              ⟨none, (some 9), .mov (.t 0)⟩,
              ⟨none, (some 10), .len (.t 9)⟩,
              ⟨none, (some 11), .bin .lss .i64 (.t 8) (.t 10)⟩]) (
          .cond (.t 11) (
            .skip) (
            .exit 0))) (
        .seq (
          .block 1 (
            .seq (
              .seq (
                .reg [0, 1, 5, 6, 7, 23] [
                  ⟨none, (some 14), .mov (.t 6)⟩,
                  ⟨none, (some 15), .not (.t 14)⟩,
                  ⟨none, (some 16), .mov (.t 15)⟩,
                  ⟨(some (16, true)), (some 17), .mov (.t 0)⟩,
                  ⟨(some (16, true)), (some 18), .mov (.t 7)⟩,
                  ⟨(some (16, true)), (some 19), .iaddr 1 (.t 17) (.t 18)⟩,
                  ⟨(some (16, true)), (some 20), .load none (.t 19)⟩,
                  ⟨(some (16, true)), (some 21), .mov (.t 1)⟩,
                  ⟨(some (16, true)), (some 22), .bin .geq .i64 (.t 20) (.t 21)⟩,
                  ⟨none, (some 23), .pick (.t 16) (.t 22) (.c (Go.Value.bool false))⟩]) (
              .cond (.t 23) (
                .seq (
                  .reg [0, 1, 5, 7] [
                    ⟨none, (some 24), .mov (.t 5)⟩,
                    ⟨none, (some 25), .mov (.t 1)⟩,
                    ⟨none, (some 26), .bsl 3 1 [(.t 25)]⟩,
                    ⟨none, (some 27), .app1 3 1 8 (.t 24) (.t 26)⟩,
                    ⟨none, (some 5), .mov (.t 27)⟩]) (
                .reg [0, 1, 5, 6, 7] [
                  ⟨none, (some 6), .mov (.c (Go.Value.bool true))⟩])) (
                .skip))) (
            .seq (
              .reg [0, 1, 5, 6, 7, 33] [
                ⟨none, (some 28), .mov (.t 0)⟩,
                ⟨none, (some 29), .mov (.t 7)⟩,
                ⟨none, (some 30), .iaddr 1 (.t 28) (.t 29)⟩,
                ⟨none, (some 31), .load none (.t 30)⟩,
                ⟨none, (some 32), .mov (.t 1)⟩,
                ⟨none, (some 33), .bin .neq .i64 (.t 31) (.t 32)⟩]) (
            .cond (.t 33) (
              .reg [0, 1, 5, 6, 7] [
                ⟨none, (some 34), .mov (.t 5)⟩,
                ⟨none, (some 35), .mov (.t 0)⟩,
                ⟨none, (some 36), .mov (.t 7)⟩,
                ⟨none, (some 37), .iaddr 1 (.t 35) (.t 36)⟩,
                ⟨none, (some 38), .load none (.t 37)⟩,
                ⟨none, (some 39), .bsl 3 1 [(.t 38)]⟩,
                ⟨none, (some 40), .app1 3 1 8 (.t 34) (.t 39)⟩,
                ⟨none, (some 5), .mov (.t 40)⟩]) (
              .skip))))) (
        .reg [0, 1, 5, 6, 7] [
          ⟨none, (some 12), .mov (.t 7)⟩,
          ⟨none, (some 13), .bin .add .i64 (.t 12) (.c (Go.Value.int Go.IntKind.i64 1))⟩,
          ⟨none, (some 7), .mov (.t 13)⟩])))))) (
  .seq (
    .seq (
      .reg [1, 5, 42] [
        ⟨none, (some 41), .mov (.t 6)⟩,
        ⟨none, (some 42), .not (.t 41)⟩]) (
    .cond (.t 42) (
      .reg [5] [
        ⟨none, (some 43), .mov (.t 5)⟩,
        ⟨none, (some 44), .mov (.t 1)⟩,
        ⟨none, (some 45), .bsl 3 1 [(.t 44)]⟩,
        ⟨none, (some 46), .app1 3 1 8 (.t 43) (.t 45)⟩,
        ⟨none, (some 5), .mov (.t 46)⟩]) (
      .skip))) (
  .seq (
    .reg [4] [
      ⟨none, (some 47), .mov (.t 5)⟩,
      ⟨none, (some 4), .mov (.t 47)⟩]) (
  .ret))))))
theorem e72 : erase Try.prog h72 (codeOf Try.f72) = c72 := by kernel_rfl
theorem g72 {T : Tab} (hP : TabOK Try.prog T) {ag : List Arg} {R : Res} {xs : List Row} (hT : T.base = nrows ag) (hl : ag.length ≤ 48) (hnt : noTake ag = true)
    (h : vc T c72 ⟨env0 0 0 ag, rows0 0 ag⟩ (fin T [.tmp 4] ag R xs) (fun _ _ => False) (fin T [.tmp 4] ag R xs)) : GCall Try.prog 72 ag R xs :=
  gcall_of_vc (H := h72) Try.func72 (fn := Try.f72) (code := codeOf Try.f72) (by kernel_rfl) e72 (by kernel_rfl) (rvs := [.tmp 4]) (by kernel_rfl) (by kernel_rfl) hP hT (by rw [show Try.f72.ntmps = 48 by kernel_rfl]; exact hl) hnt h

def h35 : Hint := ⟨73, fun n => lk [(0, [0, 1]), (1, [0, 1, 5]), (2, [0, 1, 5, 6]), (3, [0, 1, 5, 6, 7]), (4, [0, 1, 5, 6, 7, 8]), (5, [0, 1, 5, 6, 7, 8, 20]), (6, [0, 1, 5, 6, 7, 8]), (7, [0, 1, 5, 6, 7, 8, 9]), (8, [0, 1, 5, 6, 7, 8, 9, 10]), (9, [0, 1, 5, 6, 7, 8, 9, 10, 26]), (10, [0, 1, 5, 6, 7, 8, 9, 10]), (11, [0, 1, 5, 6, 7, 8, 9, 10, 48]), (12, [0, 1, 5, 6, 7, 8, 9, 10]), (13, [0, 1, 5, 6, 7, 8, 9]), (14, [0, 1, 5, 6, 7, 8, 9, 65]), (15, [0, 1, 5, 6, 7, 8]), (16, [0, 1, 5, 6, 7, 8]), (17, [4])] n, fun n => mem [] n, fun n => mem [] n, fun n => lkd [(11, [(0, .p), (1, .p), (2, .p), (3, .r), (4, .p), (5, .p), (6, .p), (7, .p), (8, .p), (9, .p), (10, .p), (11, .p), (13, .p), (14, .p), (15, .p), (12, .r), (16, .r), (17, .p), (18, .p), (19, .p)]), (14, [(0, .p), (1, .p), (2, .p), (3, .p), (4, .p), (5, .p), (7, .p), (8, .p), (9, .p), (10, .p), (6, .r), (11, .r), (12, .g)])] n⟩
def c35 : CC :=
  .seq (
    .reg [0, 1] [
      ⟨none, (some 4), .mov (.c (Go.Value.slice none 0 0))⟩]) (
  .seq (
    .reg [0, 1, 5] [
      ⟨none, (some 11), .mov (.t 0)⟩,
      ⟨none, (some 12), .len (.t 11)⟩,
      ⟨none, (some 13), .mks 4 1 1 [.bool false] (.t 12) (.t 12)⟩,
      ⟨none, (some 5), .mov (.t 13)⟩]) (
  .seq (
    .reg [0, 1, 5, 6] [
      ⟨none, (some 14), .mov (.t 0)⟩,
      ⟨none, (some 15), .len (.t 14)⟩,
      ⟨none, (some 16), .mks 4 1 1 [.bool false] (.t 15) (.t 15)⟩,
      ⟨none, (some 6), .mov (.t 16)⟩]) (
  .seq (
    .reg [0, 1, 5, 6, 7] [
      ⟨none, (some 7), .mov (.c (Go.Value.slice none 0 0))⟩]) (
  .seq (
    .seq (
      .reg [0, 1, 5, 6, 7, 8] [
        ⟨none, (some 8), .mov (.c (Go.Value.int Go.IntKind.i64 0))⟩]) (
    .block 0 (
      .loop (
        .seq (
          .seq (
            .reg [0, 1, 5, 6, 7, 8, 20] [
              ⟨none, (some 17), .mov (.t 8)⟩,
              ⟨none, (some 18), .mov (.t 0)⟩,
              ⟨none, (some 19), .len (.t 18)⟩,
              ⟨none, (some 20), .bin .lss .i64 (.t 17) (.t 19)⟩]) (
          .cond (.t 20) (
            .skip) (
            .exit 0))) (
        .seq (
          .block 1 (
            .seq (
              .reg [0, 1, 5, 6, 7, 8, 9] [
                ⟨none, (some 9), .mov (.c (Go.Value.int Go.IntKind.i64 (-1)))⟩]) (
            .seq (
              .seq (
                .reg [0, 1, 5, 6, 7, 8, 9, 10] [
                  ⟨none, (some 10), .mov (.c (Go.Value.int Go.IntKind.i64 0))⟩]) (
              .block 2 (
                .loop (
                  .seq (
                    .seq (
                      .reg [0, 1, 5, 6, 7, 8, 9, 10, 26] [
                        ⟨none, (some 23), .mov (.t 10)⟩,
                        ⟨none, (some 24), .mov (.t 0)⟩,
                        ⟨none, (some 25), .len (.t 24)⟩,
                        ⟨none, (some 26), .bin .lss .i64 (.t 23) (.t 25)⟩]) (
                    .cond (.t 26) (
                      .skip) (
                      .exit 2))) (
                  .seq (
                    .block 3 (
                      .seq (
                        .reg [0, 1, 5, 6, 7, 8, 9, 10, 48] [
                          ⟨none, (some 29), .mov (.t 6)⟩,
                          ⟨none, (some 30), .mov (.t 10)⟩,
                          ⟨none, (some 31), .iaddr 1 (.t 29) (.t 30)⟩,
                          ⟨none, (some 32), .load none (.t 31)⟩,
                          ⟨none, (some 33), .not (.t 32)⟩,
                          ⟨none, (some 34), .mov (.t 33)⟩,
                          ⟨(some (34, true)), (some 35), .mov (.t 9)⟩,
                          ⟨(some (34, true)), (some 36), .bin .lss .i64 (.t 35) (.c (Go.Value.int Go.IntKind.i64 0))⟩,
                          ⟨(some (34, true)), (some 37), .mov (.t 36)⟩,
                          ⟨(some (37, false)), (some 38), .mov (.t 1)⟩,
                          ⟨(some (37, false)), (some 39), .mov (.t 10)⟩,
                          ⟨(some (37, false)), (some 40), .iaddr 1 (.t 38) (.t 39)⟩,
                          ⟨(some (37, false)), (some 42), .mov (.t 1)⟩,
                          ⟨(some (37, false)), (some 43), .mov (.t 9)⟩,
                          ⟨(some (37, false)), (some 44), .iaddr 1 (.t 42) (.t 43)⟩,
                          ⟨(some (37, false)), (some 41), .load none (.t 40)⟩,
                          ⟨(some (37, false)), (some 45), .load none (.t 44)⟩,
                          ⟨(some (37, false)), (some 46), .bin .gtr .i64 (.t 41) (.t 45)⟩,
                          ⟨(some (34, true)), (some 47), .pick (.t 37) (.c (Go.Value.bool true)) (.t 46)⟩,
                          ⟨none, (some 48), .pick (.t 34) (.t 47) (.c (Go.Value.bool false))⟩]) (
                      .cond (.t 48) (
                        .reg [0, 1, 5, 6, 7, 8, 9, 10] [
                          ⟨none, (some 49), .mov (.t 10)⟩,
                          ⟨none, (some 9), .mov (.t 49)⟩]) (
                        .skip)))) (
                  .reg [0, 1, 5, 6, 7, 8, 9, 10] [
                    ⟨none, (some 27), .mov (.t 10)⟩,
                    ⟨none, (some 28), .bin .add .i64 (.t 27) (.c (Go.Value.int Go.IntKind.i64 1))⟩,
                    ⟨none, (some 10), .mov (.t 28)⟩])))))) (
            .seq (
              .reg [0, 1, 5, 6, 7, 8, 9] [
                ⟨none, (some 50), .mov (.t 6)⟩,
                ⟨none, (some 51), .mov (.t 9)⟩,
                ⟨none, (some 52), .iaddr 1 (.t 50) (.t 51)⟩,
                ⟨none, none, .store 1 (.t 52) (.c (Go.Value.bool true))⟩]) (
            .seq (
              .reg [0, 1, 5, 6, 7, 8, 9, 65] [
                ⟨none, (some 53), .mov (.t 0)⟩,
                ⟨none, (some 54), .mov (.t 5)⟩,
                ⟨none, (some 55), .mov (.t 0)⟩,
                ⟨none, (some 56), .mov (.t 9)⟩,
                ⟨none, (some 57), .iaddr 2 (.t 55) (.t 56)⟩,
                ⟨none, (some 58), .aaddr 2 1 (.t 57) (.c (Go.Value.int Go.IntKind.i64 0))⟩,
                ⟨none, (some 60), .mov (.t 0)⟩,
                ⟨none, (some 61), .mov (.t 9)⟩,
                ⟨none, (some 62), .iaddr 2 (.t 60) (.t 61)⟩,
                ⟨none, (some 63), .aaddr 2 1 (.t 62) (.c (Go.Value.int Go.IntKind.i64 1))⟩,
                ⟨none, (some 59), .load none (.t 58)⟩,
                ⟨none, (some 64), .load none (.t 63)⟩,
                ⟨none, (some 65), .call 71 [(.t 53), (.t 54), (.t 59), (.t 64)]⟩]) (
            .cond (.t 65) (
              .reg [0, 1, 5, 6, 7, 8] [
                ⟨none, (some 66), .mov (.t 7)⟩,
                ⟨none, (some 67), .mov (.t 9)⟩,
                ⟨none, (some 68), .call 72 [(.t 66), (.t 67)]⟩,
                ⟨none, (some 7), .mov (.t 68)⟩]) (
              .reg [0, 1, 5, 6, 7, 8] [
                ⟨none, (some 69), .mov (.t 5)⟩,
                ⟨none, (some 70), .mov (.t 9)⟩,
                ⟨none, (some 71), .iaddr 1 (.t 69) (.t 70)⟩,
                ⟨none, none, .store 1 (.t 71) (.c (Go.Value.bool true))⟩]))))))) (
        .reg [0, 1, 5, 6, 7, 8] [
          ⟨none, (some 21), .mov (.t 8)⟩,
          ⟨none, (some 22), .bin .add .i64 (.t 21) (.c (Go.Value.int Go.IntKind.i64 1))⟩,
          ⟨none, (some 8), .mov (.t 22)⟩])))))) (
  .seq (
    .reg [4] [
      ⟨none, (some 72), .mov (.t 7)⟩,
      ⟨none, (some 4), .mov (.t 72)⟩]) (
  .ret))))))
theorem e35 : erase Try.prog h35 (codeOf Try.f35) = c35 := by kernel_rfl
theorem g35 {T : Tab} (hP : TabOK Try.prog T) {ag : List Arg} {R : Res} {xs : List Row} (hT : T.base = nrows ag) (hl : ag.length ≤ 73) (hnt : noTake ag = true)
    (h : vc T c35 ⟨env0 0 0 ag, rows0 0 ag⟩ (fin T [.tmp 4] ag R xs) (fun _ _ => False) (fin T [.tmp 4] ag R xs)) : GCall Try.prog 35 ag R xs :=
  gcall_of_vc (H := h35) Try.func35 (fn := Try.f35) (code := codeOf Try.f35) (by kernel_rfl) e35 (by kernel_rfl) (rvs := [.tmp 4]) (by kernel_rfl) (by kernel_rfl) hP hT (by rw [show Try.f35.ntmps = 73 by kernel_rfl]; exact hl) hnt h

end Go.Eng
