/- The compact code of functions. -/
import Derived.Test.YtmbodncejejceaaCFam
set_option linter.all false

set_option maxRecDepth 100000
namespace Go.Eng
open Go.Proofs

def h20 : Hint := ⟨70, fun n => lk [(0, [0, 1, 4]), (1, [0, 1, 4, 9]), (2, [4]), (3, [0, 1, 4, 13]), (4, [4]), (5, [0, 1, 4, 5]), (6, [0, 1, 4, 5, 18]), (7, [0, 1, 4, 5]), (8, [0, 1, 4, 5, 26]), (9, [4]), (10, [0, 1, 4, 6]), (11, [0, 1, 4, 6, 33]), (12, [0, 1, 4, 6]), (13, [0, 1, 4, 6, 66]), (14, [4]), (15, [4])] n, fun n => mem [] n, fun n => mem [] n, fun n => lkd [] n⟩
def c20 : CC :=
  .seq (
    .reg [0, 1, 4] [
      ⟨none, (some 4), .alloc [.int .i64 0, .int .i64 0]⟩]) (
  .seq (
    .seq (
      .reg [0, 1, 4, 9] [
        ⟨none, (some 7), .mov (.t 0)⟩,
        ⟨none, (some 8), .len (.t 7)⟩,
        ⟨none, (some 9), .bin .gtr .i64 (.t 8) (.c (Go.Value.int Go.IntKind.i64 60))⟩]) (
    .cond (.t 9) (
      .seq (
        .reg [4] [
          ⟨none, (some 10), .call 26 [(.c (Go.Value.int Go.IntKind.i64 2)), (.c (Go.Value.int Go.IntKind.i64 (-1)))]⟩,
          ⟨none, none, .store 2 (.t 4) (.t 10)⟩]) (
      .ret)) (
      .skip))) (
  .seq (
    .seq (
      .reg [0, 1, 4, 13] [
        ⟨none, (some 11), .mov (.t 1)⟩,
        ⟨none, (some 12), .len (.t 11)⟩,
        ⟨none, (some 13), .bin .gtr .i64 (.t 12) (.c (Go.Value.int Go.IntKind.i64 200))⟩]) (
    .cond (.t 13) (
      .seq (
        .reg [4] [
          ⟨none, (some 14), .call 26 [(.c (Go.Value.int Go.IntKind.i64 2)), (.c (Go.Value.int Go.IntKind.i64 (-2)))]⟩,
          ⟨none, none, .store 2 (.t 4) (.t 14)⟩]) (
      .ret)) (
      .skip))) (
  .seq (
    .seq (
      .reg [0, 1, 4, 5] [
        ⟨none, (some 5), .mov (.c (Go.Value.int Go.IntKind.i64 0))⟩]) (
    .block 0 (
      .loop (
        .seq (
          .seq (
            .reg [0, 1, 4, 5, 18] [
              ⟨none, (some 15), .mov (.t 5)⟩,
              ⟨none, (some 16), .mov (.t 0)⟩,
              ⟨none, (some 17), .len (.t 16)⟩,
              ⟨none, (some 18), .bin .lss .i64 (.t 15) (.t 17)⟩]) (
          .cond (.t 18) (
            .skip) (
            .exit 0))) (
        .seq (
          .block 1 (
            .seq (
              .reg [0, 1, 4, 5, 26] [
                ⟨none, (some 21), .mov (.t 0)⟩,
                ⟨none, (some 22), .mov (.t 5)⟩,
                ⟨none, (some 23), .iaddr 1 (.t 21) (.t 22)⟩,
                ⟨none, (some 24), .load none (.t 23)⟩,
                ⟨none, (some 25), .call 28 [(.t 24), (.c (Go.Value.int Go.IntKind.i64 0)), (.c (Go.Value.int Go.IntKind.i64 1500))]⟩,
                ⟨none, (some 26), .not (.t 25)⟩]) (
            .cond (.t 26) (
              .seq (
                .reg [4] [
                  ⟨none, (some 27), .mov (.t 5)⟩,
                  ⟨none, (some 28), .bin .sub .i64 (.c (Go.Value.int Go.IntKind.i64 (-10))) (.t 27)⟩,
                  ⟨none, (some 29), .call 26 [(.c (Go.Value.int Go.IntKind.i64 3)), (.t 28)]⟩,
                  ⟨none, none, .store 2 (.t 4) (.t 29)⟩]) (
              .ret)) (
              .skip)))) (
        .reg [0, 1, 4, 5] [
          ⟨none, (some 19), .mov (.t 5)⟩,
          ⟨none, (some 20), .bin .add .i64 (.t 19) (.c (Go.Value.int Go.IntKind.i64 1))⟩,
          ⟨none, (some 5), .mov (.t 20)⟩])))))) (
  .seq (
    .seq (
      .reg [0, 1, 4, 6] [
        ⟨none, (some 6), .mov (.c (Go.Value.int Go.IntKind.i64 0))⟩]) (
    .block 2 (
      .loop (
        .seq (
          .seq (
            .reg [0, 1, 4, 6, 33] [
              ⟨none, (some 30), .mov (.t 6)⟩,
              ⟨none, (some 31), .mov (.t 1)⟩,
              ⟨none, (some 32), .len (.t 31)⟩,
              ⟨none, (some 33), .bin .lss .i64 (.t 30) (.t 32)⟩]) (
          .cond (.t 33) (
            .skip) (
            .exit 2))) (
        .seq (
          .block 3 (
            .seq (
              .reg [0, 1, 4, 6, 66] [
                ⟨none, (some 36), .mov (.t 1)⟩,
                ⟨none, (some 37), .mov (.t 6)⟩,
                ⟨none, (some 38), .iaddr 3 (.t 36) (.t 37)⟩,
                ⟨none, (some 39), .faddr 0 (.t 38)⟩,
                ⟨none, (some 40), .load none (.t 39)⟩,
                ⟨none, (some 41), .mov (.t 0)⟩,
                ⟨none, (some 42), .len (.t 41)⟩,
                ⟨none, (some 43), .bin .sub .i64 (.t 42) (.c (Go.Value.int Go.IntKind.i64 1))⟩,
                ⟨none, (some 44), .call 28 [(.t 40), (.c (Go.Value.int Go.IntKind.i64 0)), (.t 43)]⟩,
                ⟨none, (some 45), .not (.t 44)⟩,
                ⟨none, (some 46), .mov (.t 45)⟩,
                ⟨(some (46, false)), (some 47), .mov (.t 1)⟩,
                ⟨(some (46, false)), (some 48), .mov (.t 6)⟩,
                ⟨(some (46, false)), (some 49), .iaddr 3 (.t 47) (.t 48)⟩,
                ⟨(some (46, false)), (some 50), .faddr 1 (.t 49)⟩,
                ⟨(some (46, false)), (some 51), .load none (.t 50)⟩,
                ⟨(some (46, false)), (some 52), .mov (.t 0)⟩,
                ⟨(some (46, false)), (some 53), .len (.t 52)⟩,
                ⟨(some (46, false)), (some 54), .bin .sub .i64 (.t 53) (.c (Go.Value.int Go.IntKind.i64 1))⟩,
                ⟨(some (46, false)), (some 55), .call 28 [(.t 51), (.c (Go.Value.int Go.IntKind.i64 0)), (.t 54)]⟩,
                ⟨(some (46, false)), (some 56), .not (.t 55)⟩,
                ⟨none, (some 57), .pick (.t 46) (.c (Go.Value.bool true)) (.t 56)⟩,
                ⟨none, (some 58), .mov (.t 57)⟩,
                ⟨(some (58, false)), (some 59), .mov (.t 1)⟩,
                ⟨(some (58, false)), (some 60), .mov (.t 6)⟩,
                ⟨(some (58, false)), (some 61), .iaddr 3 (.t 59) (.t 60)⟩,
                ⟨(some (58, false)), (some 62), .faddr 2 (.t 61)⟩,
                ⟨(some (58, false)), (some 63), .load none (.t 62)⟩,
                ⟨(some (58, false)), (some 64), .call 28 [(.t 63), (.c (Go.Value.int Go.IntKind.i64 0)), (.c (Go.Value.int Go.IntKind.i64 1000000))]⟩,
                ⟨(some (58, false)), (some 65), .not (.t 64)⟩,
                ⟨none, (some 66), .pick (.t 58) (.c (Go.Value.bool true)) (.t 65)⟩]) (
            .cond (.t 66) (
              .seq (
                .reg [4] [
                  ⟨none, (some 67), .mov (.t 6)⟩,
                  ⟨none, (some 68), .call 26 [(.c (Go.Value.int Go.IntKind.i64 3)), (.t 67)]⟩,
                  ⟨none, none, .store 2 (.t 4) (.t 68)⟩]) (
              .ret)) (
              .skip)))) (
        .reg [0, 1, 4, 6] [
          ⟨none, (some 34), .mov (.t 6)⟩,
          ⟨none, (some 35), .bin .add .i64 (.t 34) (.c (Go.Value.int Go.IntKind.i64 1))⟩,
          ⟨none, (some 6), .mov (.t 35)⟩])))))) (
  .seq (
    .reg [4] [
      ⟨none, (some 69), .build [.int .i64 0, .int .i64 0] []⟩,
      ⟨none, none, .store 2 (.t 4) (.t 69)⟩]) (
  .ret))))))
theorem e20 : erase Try.prog h20 (codeOf Try.f20) = c20 := by kernel_rfl
theorem g20 {T : Tab} (hP : TabOK Try.prog T) {ag : List Arg} {R : Res} {xs : List Row} (hT : T.base = nrows ag) (hl : ag.length ≤ 70) (hnt : noTake ag = true)
    (h : vc T c20 ⟨env0 0 0 ag, rows0 0 ag⟩ (fin T [.cell 4 (some 2)] ag R xs) (fun _ _ => False) (fin T [.cell 4 (some 2)] ag R xs)) : GCall Try.prog 20 ag R xs :=
  gcall_of_vc (H := h20) Try.func20 (fn := Try.f20) (code := codeOf Try.f20) (by kernel_rfl) e20 (by kernel_rfl) (rvs := [.cell 4 (some 2)]) (by kernel_rfl) (by kernel_rfl) hP hT (by rw [show Try.f20.ntmps = 70 by kernel_rfl]; exact hl) hnt h

def h21 : Hint := ⟨37, fun n => lk [(0, []), (1, [1, 2]), (2, [1, 2, 3, 4]), (3, [0])] n, fun n => mem [] n, fun n => mem [] n, fun n => lkd [] n⟩
def c21 : CC :=
  .seq (
    .reg [] [
      ⟨none, (some 0), .mov (.c (Go.Value.bool false))⟩]) (
  .seq (
    .reg [1, 2] [
      ⟨none, (some 6), .bsl 3 1 [(.c (Go.Value.int Go.IntKind.i64 4)), (.c (Go.Value.int Go.IntKind.i64 8)), (.c (Go.Value.int Go.IntKind.i64 2))]⟩,
      ⟨none, (some 7), .build [.int .i64 0, .int .i64 0, .int .i64 0] [(0, 1, (.c (Go.Value.int Go.IntKind.i64 0))), (1, 1, (.c (Go.Value.int Go.IntKind.i64 2))), (2, 1, (.c (Go.Value.int Go.IntKind.i64 5)))]⟩,
      ⟨none, (some 8), .bsl 40 3 [(.t 7)]⟩,
      ⟨none, (some 9), .call 19 [(.t 6), (.t 8)]⟩,
      ⟨none, (some 5), .mov (.t 9)⟩,
      ⟨none, (some 10), .ext (.t 5) 0⟩,
      ⟨none, (some 11), .ext (.t 5) 1⟩,
      ⟨none, (some 2), .alloc [.int .i64 0, .int .i64 0]⟩,
      ⟨none, (some 1), .mov (.t 10)⟩,
      ⟨none, none, .store 2 (.t 2) (.t 11)⟩]) (
  .seq (
    .reg [1, 2, 3, 4] [
      ⟨none, (some 13), .bsl 3 1 [(.c (Go.Value.int Go.IntKind.i64 4)), (.c (Go.Value.int Go.IntKind.i64 8)), (.c (Go.Value.int Go.IntKind.i64 2))]⟩,
      ⟨none, (some 14), .build [.int .i64 0, .int .i64 0, .int .i64 0] [(0, 1, (.c (Go.Value.int Go.IntKind.i64 0))), (1, 1, (.c (Go.Value.int Go.IntKind.i64 2))), (2, 1, (.c (Go.Value.int Go.IntKind.i64 1)))]⟩,
      ⟨none, (some 15), .bsl 40 3 [(.t 14)]⟩,
      ⟨none, (some 16), .bsl 3 1 [(.c (Go.Value.int Go.IntKind.i64 0)), (.c (Go.Value.int Go.IntKind.i64 1)), (.c (Go.Value.int Go.IntKind.i64 2))]⟩,
      ⟨none, (some 17), .call 24 [(.t 13), (.t 15), (.t 16)]⟩,
      ⟨none, (some 12), .mov (.t 17)⟩,
      ⟨none, (some 18), .ext (.t 12) 0⟩,
      ⟨none, (some 19), .ext (.t 12) 1⟩,
      ⟨none, (some 4), .alloc [.int .i64 0, .int .i64 0]⟩,
      ⟨none, (some 3), .mov (.t 18)⟩,
      ⟨none, none, .store 2 (.t 4) (.t 19)⟩]) (
  .seq (
    .reg [0] [
      ⟨none, (some 20), .faddr 0 (.t 2)⟩,
      ⟨none, (some 21), .load none (.t 20)⟩,
      ⟨none, (some 22), .bin .eql .i64 (.t 21) (.c (Go.Value.int Go.IntKind.i64 0))⟩,
      ⟨none, (some 23), .mov (.t 22)⟩,
      ⟨(some (23, true)), (some 24), .faddr 0 (.t 4)⟩,
      ⟨(some (23, true)), (some 25), .load none (.t 24)⟩,
      ⟨(some (23, true)), (some 26), .bin .eql .i64 (.t 25) (.c (Go.Value.int Go.IntKind.i64 0))⟩,
      ⟨none, (some 27), .pick (.t 23) (.t 26) (.c (Go.Value.bool false))⟩,
      ⟨none, (some 28), .mov (.t 27)⟩,
      ⟨(some (28, true)), (some 29), .mov (.t 3)⟩,
      ⟨(some (28, true)), (some 30), .bin .eql .i64 (.t 29) (.c (Go.Value.int Go.IntKind.i64 12))⟩,
      ⟨none, (some 31), .pick (.t 28) (.t 30) (.c (Go.Value.bool false))⟩,
      ⟨none, (some 32), .mov (.t 31)⟩,
      ⟨(some (32, true)), (some 33), .mov (.t 1)⟩,
      ⟨(some (32, true)), (some 34), .bsl 3 1 [(.c (Go.Value.int Go.IntKind.i64 0)), (.c (Go.Value.int Go.IntKind.i64 2)), (.c (Go.Value.int Go.IntKind.i64 1))]⟩,
      ⟨(some (32, true)), (some 35), .call 22 [(.t 33), (.t 34)]⟩,
      ⟨none, (some 36), .pick (.t 32) (.t 35) (.c (Go.Value.bool false))⟩,
      ⟨none, (some 0), .mov (.t 36)⟩]) (
  .ret))))
theorem e21 : erase Try.prog h21 (codeOf Try.f21) = c21 := by kernel_rfl
theorem g21 {T : Tab} (hP : TabOK Try.prog T) {ag : List Arg} {R : Res} {xs : List Row} (hT : T.base = nrows ag) (hl : ag.length ≤ 37) (hnt : noTake ag = true)
    (h : vc T c21 ⟨env0 0 0 ag, rows0 0 ag⟩ (fin T [.tmp 0] ag R xs) (fun _ _ => False) (fin T [.tmp 0] ag R xs)) : GCall Try.prog 21 ag R xs :=
  gcall_of_vc (H := h21) Try.func21 (fn := Try.f21) (code := codeOf Try.f21) (by kernel_rfl) e21 (by kernel_rfl) (rvs := [.tmp 0]) (by kernel_rfl) (by kernel_rfl) hP hT (by rw [show Try.f21.ntmps = 37 by kernel_rfl]; exact hl) hnt h

def h22 : Hint := ⟨26, fun n => lk [(0, [0, 1]), (1, [0, 1, 10]), (2, [4]), (3, [0, 1, 5]), (4, [0, 1, 5, 14]), (5, [0, 1, 5]), (6, [0, 1, 5, 25]), (7, [4]), (8, [4])] n, fun n => mem [] n, fun n => mem [] n, fun n => lkd [(6, [(0, .p), (1, .p), (2, .p), (4, .p), (5, .p), (6, .p), (3, .r), (7, .r), (8, .p)])] n⟩
def c22 : CC :=
  .seq (
    .reg [0, 1] [
      ⟨none, (some 4), .mov (.c (Go.Value.bool false))⟩]) (
  .seq (
    .seq (
      .reg [0, 1, 10] [
        ⟨none, (some 6), .mov (.t 0)⟩,
        ⟨none, (some 7), .len (.t 6)⟩,
        ⟨none, (some 8), .mov (.t 1)⟩,
        ⟨none, (some 9), .len (.t 8)⟩,
        ⟨none, (some 10), .bin .neq .i64 (.t 7) (.t 9)⟩]) (
    .cond (.t 10) (
      .seq (
        .reg [4] [
          ⟨none, (some 4), .mov (.c (Go.Value.bool false))⟩]) (
      .ret)) (
      .skip))) (
  .seq (
    .seq (
      .reg [0, 1, 5] [
        ⟨none, (some 5), .mov (.c (Go.Value.int Go.IntKind.i64 0))⟩]) (
    .block 0 (
      .loop (
        .seq (
          .seq (
            .reg [0, 1, 5, 14] [
              ⟨none, (some 11), .mov (.t 5)⟩,
              ⟨none, (some 12), .mov (.t 0)⟩,
              ⟨none, (some 13), .len (.t 12)⟩,
              ⟨none, (some 14), .bin .lss .i64 (.t 11) (.t 13)⟩]) (
          .cond (.t 14) (
            .skip) (
            .exit 0))) (
        .seq (
          .block 1 (
            .seq (
              .reg [0, 1, 5, 25] [
                ⟨none, (some 17), .mov (.t 0)⟩,
                ⟨none, (some 18), .mov (.t 5)⟩,
                ⟨none, (some 19), .iaddr 1 (.t 17) (.t 18)⟩,
                ⟨none, (some 21), .mov (.t 1)⟩,
                ⟨none, (some 22), .mov (.t 5)⟩,
                ⟨none, (some 23), .iaddr 1 (.t 21) (.t 22)⟩,
                ⟨none, (some 20), .load none (.t 19)⟩,
                ⟨none, (some 24), .load none (.t 23)⟩,
                ⟨none, (some 25), .bin .neq .i64 (.t 20) (.t 24)⟩]) (
            .cond (.t 25) (
              .seq (
                .reg [4] [
                  ⟨none, (some 4), .mov (.c (Go.Value.bool false))⟩]) (
              .ret)) (
              .skip)))) (
        .reg [0, 1, 5] [
          ⟨none, (some 15), .mov (.t 5)⟩,
          ⟨none, (some 16), .bin .add .i64 (.t 15) (.c (Go.Value.int Go.IntKind.i64 1))⟩,
          ⟨none, (some 5), .mov (.t 16)⟩])))))) (
  .seq (
    .reg [4] [
      ⟨none, (some 4), .mov (.c (Go.Value.bool true))⟩]) (
  .ret))))
theorem e22 : erase Try.prog h22 (codeOf Try.f22) = c22 := by kernel_rfl
theorem g22 {T : Tab} (hP : TabOK Try.prog T) {ag : List Arg} {R : Res} {xs : List Row} (hT : T.base = nrows ag) (hl : ag.length ≤ 26) (hnt : noTake ag = true)
    (h : vc T c22 ⟨env0 0 0 ag, rows0 0 ag⟩ (fin T [.tmp 4] ag R xs) (fun _ _ => False) (fin T [.tmp 4] ag R xs)) : GCall Try.prog 22 ag R xs :=
  gcall_of_vc (H := h22) Try.func22 (fn := Try.f22) (code := codeOf Try.f22) (by kernel_rfl) e22 (by kernel_rfl) (rvs := [.tmp 4]) (by kernel_rfl) (by kernel_rfl) hP hT (by rw [show Try.f22.ntmps = 26 by kernel_rfl]; exact hl) hnt h

def h24 : Hint := ⟨79, fun n => lk [(0, [0, 1, 2, 7]), (1, [0, 1, 2, 7, 8]), (2, [0, 1, 2, 7, 8, 22]), (3, [6, 7]), (4, [0, 1, 2, 7, 28]), (5, [6, 7]), (6, [0, 1, 2, 7, 9]), (7, [0, 1, 2, 7, 9, 10]), (8, [0, 1, 7, 9, 10, 33, 34, 35]), (9, [0, 1, 7, 9, 10, 33, 34, 35, 36]), (10, [0, 1, 7, 9, 10, 12, 33, 34, 35]), (11, [0, 1, 7, 9, 10, 12, 33, 34, 35]), (12, [0, 1, 7, 9, 10, 33, 34, 35]), (13, [0, 1, 7, 9, 10, 33, 34, 35]), (14, [1, 7, 9, 13]), (15, [7, 9, 13, 50, 51, 52]), (16, [7, 9, 13, 50, 51, 52, 53]), (17, [7, 9, 13, 15, 50, 51, 52]), (18, [7, 9, 13, 15, 16, 50, 51, 52]), (19, [7, 9, 13, 50, 51, 52]), (20, [7, 9, 13, 50, 51, 52]), (21, [6, 7])] n, fun n => mem [] n, fun n => mem [] n, fun n => lkd [(3, [(1, .p), (0, .r), (2, .g)]), (18, [(0, .p), (1, .p), (5, .p), (6, .p), (2, .r), (3, .p), (4, .r), (7, .r), (8, .p), (9, .r), (10, .p), (11, .p)])] n⟩
def c24 : CC :=
  .seq (
    .reg [0, 1, 2, 7] [
      ⟨none, (some 6), .mov (.c (Go.Value.int Go.IntKind.i64 0))⟩,
      ⟨none, (some 7), .alloc [.int .i64 0, .int .i64 0]⟩]) (
  .seq (
    .seq (
      .reg [0, 1, 2, 7, 8] [
        ⟨none, (some 17), .mov (.t 0)⟩,
        ⟨none, (some 18), .mov (.t 1)⟩,
        ⟨none, (some 19), .call 52 [(.t 17), (.t 18)]⟩,
        ⟨none, (some 8), .alloc [.int .i64 0, .int .i64 0]⟩,
        ⟨none, none, .store 2 (.t 8) (.t 19)⟩]) (
    .seq (
      .reg [0, 1, 2, 7, 8, 22] [
        ⟨none, (some 20), .load (some 2) (.t 8)⟩,
        ⟨none, (some 21), .build [.int .i64 0, .int .i64 0] []⟩,
        ⟨none, (some 22), .eqa true [(0, true), (1, true)] (.t 20) (.t 21)⟩]) (
    .cond (.t 22) (
      .seq (
        .reg [6, 7] [
          ⟨none, (some 6), .mov (.c (Go.Value.int Go.IntKind.i64 0))⟩,
          ⟨none, (some 23), .load (some 2) (.t 8)⟩,
          ⟨none, none, .store 2 (.t 7) (.t 23)⟩]) (
      .ret)) (
      .skip)))) (
  .seq (
    .seq (
      .reg [0, 1, 2, 7, 28] [
        ⟨none, (some 24), .mov (.t 2)⟩,
        ⟨none, (some 25), .mov (.t 0)⟩,
        ⟨none, (some 26), .len (.t 25)⟩,
        ⟨none, (some 27), .call 60 [(.t 24), (.t 26)]⟩,
        ⟨none, (some 28), .not (.t 27)⟩]) (
    .cond (.t 28) (
      .seq (
        .reg [6, 7] [
          ⟨none, (some 29), .build [.int .i64 0, .int .i64 0] [(0, 1, (.c (Go.Value.int Go.IntKind.i64 5))), (1, 1, (.c (Go.Value.int Go.IntKind.i64 (-3))))]⟩,
          ⟨none, (some 6), .mov (.c (Go.Value.int Go.IntKind.i64 0))⟩,
          ⟨none, none, .store 2 (.t 7) (.t 29)⟩]) (
      .ret)) (
      .skip))) (
  .seq (
    .reg [0, 1, 2, 7, 9] [
      ⟨none, (some 30), .mov (.t 0)⟩,
      ⟨none, (some 31), .len (.t 30)⟩,
      ⟨none, (some 32), .mks 3 1 8 [.int .i64 0] (.t 31) (.t 31)⟩,
      ⟨none, (some 9), .mov (.t 32)⟩]) (
  .seq (
    .reg [0, 1, 2, 7, 9, 10] [
      ⟨none, (some 10), .mov (.c (Go.Value.int Go.IntKind.i64 0))⟩]) (
  .seq (
    .seq (
      .reg [0, 1, 7, 9, 10, 33, 34, 35] [
        ⟨none, (some 33), .mov (.t 2)⟩,
        ⟨none, (some 34), .len (.t 33)⟩,
        ⟨none, (some 35), .mov (.c (Go.Value.int Go.IntKind.i64 0))⟩]) (
    .block 0 (
      .loop (
        .seq (
          .reg [0, 1, 7, 9, 10, 33, 34, 35, 36] [
            ⟨none, (some 36), .bin .lss .i64 (.t 35) (.t 34)⟩]) (
        .seq (
          .cond (.t 36) (
            .skip) (
            .exit 0)) (
        .seq (
          .block 1 (
            .seq (
              .reg [0, 1, 7, 9, 10, 12, 33, 34, 35] [
                ⟨none, (some 37), .iaddr 1 (.t 33) (.t 35)⟩,
                ⟨none, (some 38), .load none (.t 37)⟩,
                ⟨none, (some 12), .mov (.t 38)⟩]) (
            .seq (
              .reg [0, 1, 7, 9, 10, 12, 33, 34, 35] [
                ⟨none, (some 39), .mov (.t 9)⟩,
                ⟨none, (some 40), .mov (.t 12)⟩,
                ⟨none, (some 41), .mov (.t 10)⟩,
                ⟨none, (some 42), .iaddr 1 (.t 39) (.t 40)⟩,
                ⟨none, none, .store 1 (.t 42) (.t 41)⟩]) (
            .reg [0, 1, 7, 9, 10, 33, 34, 35] [
              ⟨none, (some 43), .mov (.t 10)⟩,
              ⟨none, (some 44), .mov (.t 0)⟩,
              ⟨none, (some 45), .mov (.t 12)⟩,
              ⟨none, (some 46), .iaddr 1 (.t 44) (.t 45)⟩,
              ⟨none, (some 47), .load none (.t 46)⟩,
              ⟨none, (some 48), .bin .add .i64 (.t 43) (.t 47)⟩,
              ⟨none, (some 10), .mov (.t 48)⟩])))) (
        .reg [0, 1, 7, 9, 10, 33, 34, 35] [
          ⟨none, (some 49), .bin .add .i64 (.t 35) (.c (Go.Value.int Go.IntKind.i64 1))⟩,
          ⟨none, (some 35), .mov (.t 49)⟩]))))))) (
  .seq (
    .reg [1, 7, 9, 13] [
      ⟨none, (some 13), .mov (.c (Go.Value.int Go.IntKind.i64 0))⟩]) (
  .seq (
    .seq (
      .reg [7, 9, 13, 50, 51, 52] [
        ⟨none, (some 50), .mov (.t 1)⟩,
        ⟨none, (some 51), .len (.t 50)⟩,
        ⟨none, (some 52), .mov (.c (Go.Value.int Go.IntKind.i64 0))⟩]) (
    .block 2 (
      .loop (
        .seq (
          .reg [7, 9, 13, 50, 51, 52, 53] [
            ⟨none, (some 53), .bin .lss .i64 (.t 52) (.t 51)⟩]) (
        .seq (
          .cond (.t 53) (
            .skip) (
            .exit 2)) (
        .seq (
          .block 3 (
            .seq (
              .reg [7, 9, 13, 15, 50, 51, 52] [
                ⟨none, (some 54), .iaddr 3 (.t 50) (.t 52)⟩,
                ⟨none, (some 55), .load (some 3) (.t 54)⟩,
                ⟨none, (some 15), .alloc [.int .i64 0, .int .i64 0, .int .i64 0]⟩,
                ⟨none, none, .store 3 (.t 15) (.t 55)⟩]) (
            .seq (
              .reg [7, 9, 13, 15, 16, 50, 51, 52] [
                ⟨none, (some 56), .mov (.t 9)⟩,
                ⟨none, (some 57), .faddr 0 (.t 15)⟩,
                ⟨none, (some 61), .mov (.t 9)⟩,
                ⟨none, (some 62), .faddr 1 (.t 15)⟩,
                ⟨none, (some 58), .load none (.t 57)⟩,
                ⟨none, (some 59), .iaddr 1 (.t 56) (.t 58)⟩,
                ⟨none, (some 60), .load none (.t 59)⟩,
                ⟨none, (some 63), .load none (.t 62)⟩,
                ⟨none, (some 64), .iaddr 1 (.t 61) (.t 63)⟩,
                ⟨none, (some 65), .load none (.t 64)⟩,
                ⟨none, (some 66), .bin .sub .i64 (.t 60) (.t 65)⟩,
                ⟨none, (some 16), .mov (.t 66)⟩]) (
            .reg [7, 9, 13, 50, 51, 52] [
              ⟨none, (some 67), .mov (.t 13)⟩,
              ⟨none, (some 68), .faddr 2 (.t 15)⟩,
              ⟨none, (some 69), .load none (.t 68)⟩,
              ⟨none, (some 70), .mov (.t 16)⟩,
              ⟨none, (some 71), .mov (.t 16)⟩,
              ⟨none, (some 72), .neg .i64 (.t 71)⟩,
              ⟨none, (some 73), .mm true (.t 70) (.t 72)⟩,
              ⟨none, (some 74), .bin .mul .i64 (.t 69) (.t 73)⟩,
              ⟨none, (some 75), .bin .add .i64 (.t 67) (.t 74)⟩,
              ⟨none, (some 13), .mov (.t 75)⟩])))) (
        .reg [7, 9, 13, 50, 51, 52] [
          ⟨none, (some 76), .bin .add .i64 (.t 52) (.c (Go.Value.int Go.IntKind.i64 1))⟩,
          ⟨none, (some 52), .mov (.t 76)⟩]))))))) (
  .seq (
    .reg [6, 7] [
      ⟨none, (some 77), .mov (.t 13)⟩,
      ⟨none, (some 78), .build [.int .i64 0, .int .i64 0] []⟩,
      ⟨none, (some 6), .mov (.t 77)⟩,
      ⟨none, none, .store 2 (.t 7) (.t 78)⟩]) (
  .ret)))))))))
theorem e24 : erase Try.prog h24 (codeOf Try.f24) = c24 := by kernel_rfl
theorem g24 {T : Tab} (hP : TabOK Try.prog T) {ag : List Arg} {R : Res} {xs : List Row} (hT : T.base = nrows ag) (hl : ag.length ≤ 79) (hnt : noTake ag = true)
    (h : vc T c24 ⟨env0 0 0 ag, rows0 0 ag⟩ (fin T [.tmp 6, .cell 7 (some 2)] ag R xs) (fun _ _ => False) (fin T [.tmp 6, .cell 7 (some 2)] ag R xs)) : GCall Try.prog 24 ag R xs :=
  gcall_of_vc (H := h24) Try.func24 (fn := Try.f24) (code := codeOf Try.f24) (by kernel_rfl) e24 (by kernel_rfl) (rvs := [.tmp 6, .cell 7 (some 2)]) (by kernel_rfl) (by kernel_rfl) hP hT (by rw [show Try.f24.ntmps = 79 by kernel_rfl]; exact hl) hnt h

def h25 : Hint := ⟨19, fun n => lk [(0, [0, 1]), (1, [0, 1, 5]), (2, [0, 1, 5, 8]), (3, [0, 1, 5]), (4, [0, 1, 5, 14]), (5, [4]), (6, [4])] n, fun n => mem [] n, fun n => mem [] n, fun n => lkd [] n⟩
def c25 : CC :=
  .seq (
    .reg [0, 1] [
      ⟨none, (some 4), .mov (.c (Go.Value.bool false))⟩]) (
  .seq (
    .seq (
      .reg [0, 1, 5] [
        ⟨none, (some 5), .mov (.c (Go.Value.int Go.IntKind.i64 0))⟩]) (
    .block 0 (
      .loop (
        .seq (
          .seq (
            .reg [0, 1, 5, 8] [
              ⟨none, (some 6), .mov (.t 5)⟩,
              ⟨none, (some 7), .mov (.t 1)⟩,
              ⟨none, (some 8), .bin .lss .i64 (.t 6) (.t 7)⟩]) (
          .cond (.t 8) (
            .skip) (
            .exit 0))) (
        .seq (
          .block 1 (
            .seq (
              .reg [0, 1, 5, 14] [
                ⟨none, (some 11), .mov (.t 0)⟩,
                ⟨none, (some 12), .mov (.t 5)⟩,
                ⟨none, (some 13), .call 38 [(.t 11), (.t 12)]⟩,
                ⟨none, (some 14), .not (.t 13)⟩]) (
            .cond (.t 14) (
              .seq (
                .reg [4] [
                  ⟨none, (some 4), .mov (.c (Go.Value.bool false))⟩]) (
              .ret)) (
              .skip)))) (
        .reg [0, 1, 5] [
          ⟨none, (some 9), .mov (.t 5)⟩,
          ⟨none, (some 10), .bin .add .i64 (.t 9) (.c (Go.Value.int Go.IntKind.i64 1))⟩,
          ⟨none, (some 5), .mov (.t 10)⟩])))))) (
  .seq (
    .reg [4] [
      ⟨none, (some 15), .mov (.t 0)⟩,
      ⟨none, (some 16), .len (.t 15)⟩,
      ⟨none, (some 17), .mov (.t 1)⟩,
      ⟨none, (some 18), .bin .eql .i64 (.t 16) (.t 17)⟩,
      ⟨none, (some 4), .mov (.t 18)⟩]) (
  .ret)))
theorem e25 : erase Try.prog h25 (codeOf Try.f25) = c25 := by kernel_rfl
theorem g25 {T : Tab} (hP : TabOK Try.prog T) {ag : List Arg} {R : Res} {xs : List Row} (hT : T.base = nrows ag) (hl : ag.length ≤ 19) (hnt : noTake ag = true)
    (h : vc T c25 ⟨env0 0 0 ag, rows0 0 ag⟩ (fin T [.tmp 4] ag R xs) (fun _ _ => False) (fin T [.tmp 4] ag R xs)) : GCall Try.prog 25 ag R xs :=
  gcall_of_vc (H := h25) Try.func25 (fn := Try.f25) (code := codeOf Try.f25) (by kernel_rfl) e25 (by kernel_rfl) (rvs := [.tmp 4]) (by kernel_rfl) (by kernel_rfl) hP hT (by rw [show Try.f25.ntmps = 19 by kernel_rfl]; exact hl) hnt h

def h26 : Hint := ⟨8, fun n => lk [(0, [0, 1, 4]), (1, [4])] n, fun n => mem [] n, fun n => mem [] n, fun n => lkd [] n⟩
def c26 : CC :=
  .seq (
    .reg [0, 1, 4] [
      ⟨none, (some 4), .alloc [.int .i64 0, .int .i64 0]⟩]) (
  .seq (
    .reg [4] [
      ⟨none, (some 5), .mov (.t 0)⟩,
      ⟨none, (some 6), .mov (.t 1)⟩,
      ⟨none, (some 7), .build [.int .i64 0, .int .i64 0] [(0, 1, (.t 5)), (1, 1, (.t 6))]⟩,
      ⟨none, none, .store 2 (.t 4) (.t 7)⟩]) (
  .ret))
theorem e26 : erase Try.prog h26 (codeOf Try.f26) = c26 := by kernel_rfl
theorem g26 {T : Tab} (hP : TabOK Try.prog T) {ag : List Arg} {R : Res} {xs : List Row} (hT : T.base = nrows ag) (hl : ag.length ≤ 8) (hnt : noTake ag = true)
    (h : vc T c26 ⟨env0 0 0 ag, rows0 0 ag⟩ (fin T [.cell 4 (some 2)] ag R xs) (fun _ _ => False) (fin T [.cell 4 (some 2)] ag R xs)) : GCall Try.prog 26 ag R xs :=
  gcall_of_vc (H := h26) Try.func26 (fn := Try.f26) (code := codeOf Try.f26) (by kernel_rfl) e26 (by kernel_rfl) (rvs := [.cell 4 (some 2)]) (by kernel_rfl) (by kernel_rfl) hP hT (by rw [show Try.f26.ntmps = 8 by kernel_rfl]; exact hl) hnt h

def h27 : Hint := ⟨62, fun n => lk [(0, [0, 1, 2]), (1, [0, 1, 2, 7]), (2, [0, 1, 2, 7, 8]), (3, [0, 1, 2, 7, 8, 16]), (4, [0, 1, 2, 7, 8]), (5, [0, 1, 2, 7, 8, 9]), (6, [0, 1, 2, 7, 8, 9, 10]), (7, [0, 1, 2, 7, 8, 9, 10, 11]), (8, [0, 1, 2, 7, 8, 9, 10, 11, 12]), (9, [0, 1, 2, 7, 8, 9, 10, 11, 12, 40]), (10, [0, 1, 2, 7, 8, 9, 10, 11, 12]), (11, [0, 1, 2, 7, 8, 9, 10, 11, 12]), (12, [0, 1, 2, 7, 8]), (13, [6])] n, fun n => mem [] n, fun n => mem [] n, fun n => lkd [] n⟩
def c27 : CC :=
  .seq (
    .reg [0, 1, 2] [
      ⟨none, (some 6), .mov (.c (Go.Value.int Go.IntKind.i64 0))⟩]) (
  .seq (
    .reg [0, 1, 2, 7] [
      ⟨none, (some 7), .mov (.c (Go.Value.int Go.IntKind.i64 0))⟩]) (
  .seq (
    .seq (
      .reg [0, 1, 2, 7, 8] [
        ⟨none, (some 8), .mov (.c (Go.Value.int Go.IntKind.i64 0))⟩]) (
    .block 0 (
      .loop (
        .seq (
          .seq (
            .reg [0, 1, 2, 7, 8, 16] [
              ⟨none, (some 13), .mov (.t 8)⟩,
              ⟨none, (some 14), .mov (.t 1)⟩,
              ⟨none, (some 15), .len (.t 14)⟩,
              ⟨none, (some 16), .bin .lss .i64 (.t 13) (.t 15)⟩]) (
          .cond (.t 16) (
            .skip) (
            .exit 0))) (
        .seq (
          .block 1 (
            .seq (
              .reg [0, 1, 2, 7, 8, 9] [
                ⟨none, (some 19), .mov (.t 2)⟩,
                ⟨none, (some 20), .mov (.t 1)⟩,
                ⟨none, (some 21), .mov (.t 8)⟩,
                ⟨none, (some 22), .iaddr 3 (.t 20) (.t 21)⟩,
                ⟨none, (some 23), .faddr 0 (.t 22)⟩,
                ⟨none, (some 24), .load none (.t 23)⟩,
                ⟨none, (some 25), .call 61 [(.t 19), (.t 24)]⟩,
                ⟨none, (some 9), .mov (.t 25)⟩]) (
            .seq (
              .reg [0, 1, 2, 7, 8, 9, 10] [
                ⟨none, (some 26), .mov (.t 2)⟩,
                ⟨none, (some 27), .mov (.t 1)⟩,
                ⟨none, (some 28), .mov (.t 8)⟩,
                ⟨none, (some 29), .iaddr 3 (.t 27) (.t 28)⟩,
                ⟨none, (some 30), .faddr 1 (.t 29)⟩,
                ⟨none, (some 31), .load none (.t 30)⟩,
                ⟨none, (some 32), .call 61 [(.t 26), (.t 31)]⟩,
                ⟨none, (some 10), .mov (.t 32)⟩]) (
            .seq (
              .reg [0, 1, 2, 7, 8, 9, 10, 11] [
                ⟨none, (some 11), .mov (.c (Go.Value.int Go.IntKind.i64 0))⟩]) (
            .seq (
              .seq (
                .reg [0, 1, 2, 7, 8, 9, 10, 11, 12] [
                  ⟨none, (some 33), .mov (.t 9)⟩,
                  ⟨none, (some 34), .mov (.t 10)⟩,
                  ⟨none, (some 35), .mm false (.t 33) (.t 34)⟩,
                  ⟨none, (some 12), .mov (.t 35)⟩]) (
              .block 2 (
                .loop (
                  .seq (
                    .seq (
                      .reg [0, 1, 2, 7, 8, 9, 10, 11, 12, 40] [
                        ⟨none, (some 36), .mov (.t 12)⟩,
                        ⟨none, (some 37), .mov (.t 9)⟩,
                        ⟨none, (some 38), .mov (.t 10)⟩,
                        ⟨none, (some 39), .mm true (.t 37) (.t 38)⟩,
                        ⟨none, (some 40), .bin .lss .i64 (.t 36) (.t 39)⟩]) (
                    .cond (.t 40) (
                      .skip) (
                      .exit 2))) (
                  .seq (
                    .block 3 (
                      .reg [0, 1, 2, 7, 8, 9, 10, 11, 12] [
                        ⟨none, (some 43), .mov (.t 11)⟩,
                        ⟨none, (some 44), .mov (.t 0)⟩,
                        ⟨none, (some 45), .mov (.t 2)⟩,
                        ⟨none, (some 46), .mov (.t 12)⟩,
                        ⟨none, (some 47), .iaddr 1 (.t 45) (.t 46)⟩,
                        ⟨none, (some 48), .load none (.t 47)⟩,
                        ⟨none, (some 49), .iaddr 1 (.t 44) (.t 48)⟩,
                        ⟨none, (some 50), .load none (.t 49)⟩,
                        ⟨none, (some 51), .bin .add .i64 (.t 43) (.t 50)⟩,
                        ⟨none, (some 11), .mov (.t 51)⟩])) (
                  .reg [0, 1, 2, 7, 8, 9, 10, 11, 12] [
                    ⟨none, (some 41), .mov (.t 12)⟩,
                    ⟨none, (some 42), .bin .add .i64 (.t 41) (.c (Go.Value.int Go.IntKind.i64 1))⟩,
                    ⟨none, (some 12), .mov (.t 42)⟩])))))) (
            .reg [0, 1, 2, 7, 8] [
              ⟨none, (some 52), .mov (.t 7)⟩,
              ⟨none, (some 53), .mov (.t 1)⟩,
              ⟨none, (some 54), .mov (.t 8)⟩,
              ⟨none, (some 55), .iaddr 3 (.t 53) (.t 54)⟩,
              ⟨none, (some 56), .faddr 2 (.t 55)⟩,
              ⟨none, (some 57), .load none (.t 56)⟩,
              ⟨none, (some 58), .mov (.t 11)⟩,
              ⟨none, (some 59), .bin .mul .i64 (.t 57) (.t 58)⟩,
              ⟨none, (some 60), .bin .add .i64 (.t 52) (.t 59)⟩,
              ⟨none, (some 7), .mov (.t 60)⟩])))))) (
        .reg [0, 1, 2, 7, 8] [
          ⟨none, (some 17), .mov (.t 8)⟩,
          ⟨none, (some 18), .bin .add .i64 (.t 17) (.c (Go.Value.int Go.IntKind.i64 1))⟩,
          ⟨none, (some 8), .mov (.t 18)⟩])))))) (
  .seq (
    .reg [6] [
      ⟨none, (some 61), .mov (.t 7)⟩,
      ⟨none, (some 6), .mov (.t 61)⟩]) (
  .ret))))
theorem e27 : erase Try.prog h27 (codeOf Try.f27) = c27 := by kernel_rfl
theorem g27 {T : Tab} (hP : TabOK Try.prog T) {ag : List Arg} {R : Res} {xs : List Row} (hT : T.base = nrows ag) (hl : ag.length ≤ 62) (hnt : noTake ag = true)
    (h : vc T c27 ⟨env0 0 0 ag, rows0 0 ag⟩ (fin T [.tmp 6] ag R xs) (fun _ _ => False) (fin T [.tmp 6] ag R xs)) : GCall Try.prog 27 ag R xs :=
  gcall_of_vc (H := h27) Try.func27 (fn := Try.f27) (code := codeOf Try.f27) (by kernel_rfl) e27 (by kernel_rfl) (rvs := [.tmp 6]) (by kernel_rfl) (by kernel_rfl) hP hT (by rw [show Try.f27.ntmps = 62 by kernel_rfl]; exact hl) hnt h

def h28 : Hint := ⟨15, fun n => lk [(0, [0, 1, 2]), (1, [6])] n, fun n => mem [] n, fun n => mem [] n, fun n => lkd [] n⟩
def c28 : CC :=
  .seq (
    .reg [0, 1, 2] [
      ⟨none, (some 6), .mov (.c (Go.Value.bool false))⟩]) (
  .seq (
    .reg [6] [
      ⟨none, (some 7), .mov (.t 1)⟩,
      ⟨none, (some 8), .mov (.t 0)⟩,
      ⟨none, (some 9), .bin .leq .i64 (.t 7) (.t 8)⟩,
      ⟨none, (some 10), .mov (.t 9)⟩,
      ⟨(some (10, true)), (some 11), .mov (.t 0)⟩,
      ⟨(some (10, true)), (some 12), .mov (.t 2)⟩,
      ⟨(some (10, true)), (some 13), .bin .leq .i64 (.t 11) (.t 12)⟩,
      ⟨none, (some 14), .pick (.t 10) (.t 13) (.c (Go.Value.bool false))⟩,
      ⟨none, (some 6), .mov (.t 14)⟩]) (
  .ret))
theorem e28 : erase Try.prog h28 (codeOf Try.f28) = c28 := by kernel_rfl
theorem g28 {T : Tab} (hP : TabOK Try.prog T) {ag : List Arg} {R : Res} {xs : List Row} (hT : T.base = nrows ag) (hl : ag.length ≤ 15) (hnt : noTake ag = true)
    (h : vc T c28 ⟨env0 0 0 ag, rows0 0 ag⟩ (fin T [.tmp 6] ag R xs) (fun _ _ => False) (fin T [.tmp 6] ag R xs)) : GCall Try.prog 28 ag R xs :=
  gcall_of_vc (H := h28) Try.func28 (fn := Try.f28) (code := codeOf Try.f28) (by kernel_rfl) e28 (by kernel_rfl) (rvs := [.tmp 6]) (by kernel_rfl) (by kernel_rfl) hP hT (by rw [show Try.f28.ntmps = 15 by kernel_rfl]; exact hl) hnt h

def h29 : Hint := ⟨62, fun n => lk [(0, [0, 1, 2]), (1, [0, 1, 2, 7]), (2, [0, 1, 2, 7, 8]), (3, [0, 1, 2, 7, 8, 17]), (4, [0, 1, 2, 7, 8]), (5, [0, 1, 2, 7, 8, 53]), (6, [0, 1, 2, 7, 8]), (7, [6])] n, fun n => mem [] n, fun n => mem [] n, fun n => lkd [] n⟩
def c29 : CC :=
  .seq (
    .reg [0, 1, 2] [
      ⟨none, (some 6), .mov (.c (Go.Value.int Go.IntKind.i64 0))⟩]) (
  .seq (
    .reg [0, 1, 2, 7] [
      ⟨none, (some 7), .mov (.c (Go.Value.int Go.IntKind.i64 0))⟩]) (
  .seq (
    .seq (
      .reg [0, 1, 2, 7, 8] [
        ⟨none, (some 8), .mov (.c (Go.Value.int Go.IntKind.i64 0))⟩]) (
    .block 0 (
      .loop (
        .seq (
          .seq (
            .reg [0, 1, 2, 7, 8, 17] [
              ⟨none, (some 9), .mov (.t 8)⟩,
              ⟨none, (some 10), .mov (.t 0)⟩,
              ⟨none, (some 11), .len (.t 10)⟩,
              ⟨none, (some 12), .bin .lss .i64 (.t 9) (.t 11)⟩,
              ⟨none, (some 13), .mov (.t 12)⟩,
              ⟨(some (13, true)), (some 14), .mov (.t 1)⟩,
              ⟨(some (13, true)), (some 15), .mov (.t 2)⟩,
              ⟨(some (13, true)), (some 16), .bin .neq .i64 (.t 14) (.t 15)⟩,
              ⟨none, (some 17), .pick (.t 13) (.t 16) (.c (Go.Value.bool false))⟩]) (
          .cond (.t 17) (
            .skip) (
            .exit 0))) (
        .seq (
          .block 1 (
            .seq (
              .reg [0, 1, 2, 7, 8, 53] [
                ⟨none, (some 20), .mov (.t 0)⟩,
                ⟨none, (some 21), .mov (.t 8)⟩,
                ⟨none, (some 22), .iaddr 3 (.t 20) (.t 21)⟩,
                ⟨none, (some 23), .faddr 0 (.t 22)⟩,
                ⟨none, (some 24), .load none (.t 23)⟩,
                ⟨none, (some 25), .mov (.t 1)⟩,
                ⟨none, (some 26), .bin .eql .i64 (.t 24) (.t 25)⟩,
                ⟨none, (some 27), .mov (.t 26)⟩,
                ⟨(some (27, true)), (some 28), .mov (.t 0)⟩,
                ⟨(some (27, true)), (some 29), .mov (.t 8)⟩,
                ⟨(some (27, true)), (some 30), .iaddr 3 (.t 28) (.t 29)⟩,
                ⟨(some (27, true)), (some 31), .faddr 1 (.t 30)⟩,
                ⟨(some (27, true)), (some 32), .load none (.t 31)⟩,
                ⟨(some (27, true)), (some 33), .mov (.t 2)⟩,
                ⟨(some (27, true)), (some 34), .bin .eql .i64 (.t 32) (.t 33)⟩,
                ⟨none, (some 35), .pick (.t 27) (.t 34) (.c (Go.Value.bool false))⟩,
                ⟨none, (some 36), .mov (.t 35)⟩,
                ⟨(some (36, false)), (some 37), .mov (.t 0)⟩,
                ⟨(some (36, false)), (some 38), .mov (.t 8)⟩,
                ⟨(some (36, false)), (some 39), .iaddr 3 (.t 37) (.t 38)⟩,
                ⟨(some (36, false)), (some 40), .faddr 0 (.t 39)⟩,
                ⟨(some (36, false)), (some 41), .load none (.t 40)⟩,
                ⟨(some (36, false)), (some 42), .mov (.t 2)⟩,
                ⟨(some (36, false)), (some 43), .bin .eql .i64 (.t 41) (.t 42)⟩,
                ⟨(some (36, false)), (some 44), .mov (.t 43)⟩,
                ⟨(some (44, true)), (some 45), .mov (.t 0)⟩,
                ⟨(some (44, true)), (some 46), .mov (.t 8)⟩,
                ⟨(some (44, true)), (some 47), .iaddr 3 (.t 45) (.t 46)⟩,
                ⟨(some (44, true)), (some 48), .faddr 1 (.t 47)⟩,
                ⟨(some (44, true)), (some 49), .load none (.t 48)⟩,
                ⟨(some (44, true)), (some 50), .mov (.t 1)⟩,
                ⟨(some (44, true)), (some 51), .bin .eql .i64 (.t 49) (.t 50)⟩,
                ⟨(some (36, false)), (some 52), .pick (.t 44) (.t 51) (.c (Go.Value.bool false))⟩,
                ⟨none, (some 53), .pick (.t 36) (.c (Go.Value.bool true)) (.t 52)⟩]) (
            .cond (.t 53) (
              .reg [0, 1, 2, 7, 8] [
                ⟨none, (some 54), .mov (.t 7)⟩,
                ⟨none, (some 55), .mov (.t 0)⟩,
                ⟨none, (some 56), .mov (.t 8)⟩,
                ⟨none, (some 57), .iaddr 3 (.t 55) (.t 56)⟩,
                ⟨none, (some 58), .faddr 2 (.t 57)⟩,
                ⟨none, (some 59), .load none (.t 58)⟩,
                ⟨none, (some 60), .bin .add .i64 (.t 54) (.t 59)⟩,
                ⟨none, (some 7), .mov (.t 60)⟩]) (
              .skip)))) (
        .reg [0, 1, 2, 7, 8] [
          ⟨none, (some 18), .mov (.t 8)⟩,
          ⟨none, (some 19), .bin .add .i64 (.t 18) (.c (Go.Value.int Go.IntKind.i64 1))⟩,
          ⟨none, (some 8), .mov (.t 19)⟩])))))) (
  .seq (
    .reg [6] [
      ⟨none, (some 61), .mov (.t 7)⟩,
      ⟨none, (some 6), .mov (.t 61)⟩]) (
  .ret))))
theorem e29 : erase Try.prog h29 (codeOf Try.f29) = c29 := by kernel_rfl
theorem g29 {T : Tab} (hP : TabOK Try.prog T) {ag : List Arg} {R : Res} {xs : List Row} (hT : T.base = nrows ag) (hl : ag.length ≤ 62) (hnt : noTake ag = true)
    (h : vc T c29 ⟨env0 0 0 ag, rows0 0 ag⟩ (fin T [.tmp 6] ag R xs) (fun _ _ => False) (fin T [.tmp 6] ag R xs)) : GCall Try.prog 29 ag R xs :=
  gcall_of_vc (H := h29) Try.func29 (fn := Try.f29) (code := codeOf Try.f29) (by kernel_rfl) e29 (by kernel_rfl) (rvs := [.tmp 6]) (by kernel_rfl) (by kernel_rfl) hP hT (by rw [show Try.f29.ntmps = 62 by kernel_rfl]; exact hl) hnt h

def h38 : Hint := ⟨18, fun n => lk [(0, [0, 1]), (1, [0, 1, 5]), (2, [0, 1, 5, 9]), (3, [0, 1, 5]), (4, [0, 1, 5, 17]), (5, [4]), (6, [4])] n, fun n => mem [] n, fun n => mem [] n, fun n => lkd [] n⟩
def c38 : CC :=
  .seq (
    .reg [0, 1] [
      ⟨none, (some 4), .mov (.c (Go.Value.bool false))⟩]) (
  .seq (
    .seq (
      .reg [0, 1, 5] [
        ⟨none, (some 5), .mov (.c (Go.Value.int Go.IntKind.i64 0))⟩]) (
    .block 0 (
      .loop (
        .seq (
          .seq (
            .reg [0, 1, 5, 9] [
              ⟨none, (some 6), .mov (.t 5)⟩,
              ⟨none, (some 7), .mov (.t 0)⟩,
              ⟨none, (some 8), .len (.t 7)⟩,
              ⟨none, (some 9), .bin .lss .i64 (.t 6) (.t 8)⟩]) (
          .cond (.t 9) (
            .skip) (
            .exit 0))) (
        .seq (
          .block 1 (
            .seq (
              .reg [0, 1, 5, 17] [
                ⟨none, (some 12), .mov (.t 0)⟩,
                ⟨none, (some 13), .mov (.t 5)⟩,
                ⟨none, (some 14), .iaddr 1 (.t 12) (.t 13)⟩,
                ⟨none, (some 15), .load none (.t 14)⟩,
                ⟨none, (some 16), .mov (.t 1)⟩,
                ⟨none, (some 17), .bin .eql .i64 (.t 15) (.t 16)⟩]) (
            .cond (.t 17) (
              .seq (
                .reg [4] [
                  ⟨none, (some 4), .mov (.c (Go.Value.bool true))⟩]) (
              .ret)) (
              .skip)))) (
        .reg [0, 1, 5] [
          ⟨none, (some 10), .mov (.t 5)⟩,
          ⟨none, (some 11), .bin .add .i64 (.t 10) (.c (Go.Value.int Go.IntKind.i64 1))⟩,
          ⟨none, (some 5), .mov (.t 11)⟩])))))) (
  .seq (
    .reg [4] [
      ⟨none, (some 4), .mov (.c (Go.Value.bool false))⟩]) (
  .ret)))
theorem e38 : erase Try.prog h38 (codeOf Try.f38) = c38 := by kernel_rfl
theorem g38 {T : Tab} (hP : TabOK Try.prog T) {ag : List Arg} {R : Res} {xs : List Row} (hT : T.base = nrows ag) (hl : ag.length ≤ 18) (hnt : noTake ag = true)
    (h : vc T c38 ⟨env0 0 0 ag, rows0 0 ag⟩ (fin T [.tmp 4] ag R xs) (fun _ _ => False) (fin T [.tmp 4] ag R xs)) : GCall Try.prog 38 ag R xs :=
  gcall_of_vc (H := h38) Try.func38 (fn := Try.f38) (code := codeOf Try.f38) (by kernel_rfl) e38 (by kernel_rfl) (rvs := [.tmp 4]) (by kernel_rfl) (by kernel_rfl) hP hT (by rw [show Try.f38.ntmps = 18 by kernel_rfl]; exact hl) hnt h

def h57 : Hint := ⟨53, fun n => lk [(0, [0, 1, 2]), (1, [0, 1, 2, 7]), (2, [0, 1, 2, 7, 8]), (3, [0, 1, 2, 7, 8, 14]), (4, [0, 1, 2, 7, 8]), (5, [0, 1, 2, 7, 8, 9, 10]), (6, [0, 1, 2, 7, 8, 44]), (7, [0, 1, 2, 7, 8]), (8, [6])] n, fun n => mem [] n, fun n => mem [] n, fun n => lkd [(5, [(0, .p), (1, .p), (2, .p), (3, .p), (5, .p), (6, .p), (7, .p), (8, .p), (4, .r), (10, .p), (9, .r), (11, .p)])] n⟩
def c57 : CC :=
  .seq (
    .reg [0, 1, 2] [
      ⟨none, (some 6), .mov (.c (Go.Value.int Go.IntKind.i64 0))⟩]) (
  .seq (
    .reg [0, 1, 2, 7] [
      ⟨none, (some 7), .mov (.c (Go.Value.int Go.IntKind.i64 0))⟩]) (
  .seq (
    .seq (
      .reg [0, 1, 2, 7, 8] [
        ⟨none, (some 8), .mov (.c (Go.Value.int Go.IntKind.i64 0))⟩]) (
    .block 0 (
      .loop (
        .seq (
          .seq (
            .reg [0, 1, 2, 7, 8, 14] [
              ⟨none, (some 11), .mov (.t 8)⟩,
              ⟨none, (some 12), .mov (.t 0)⟩,
              ⟨none, (some 13), .len (.t 12)⟩,
              ⟨none, (some 14), .bin .lss .i64 (.t 11) (.t 13)⟩]) (
          .cond (.t 14) (
            .skip) (
            .exit 0))) (
        .seq (
          .block 1 (
            .seq (
              .reg [0, 1, 2, 7, 8, 9, 10] [
                ⟨none, (some 17), .mov (.t 0)⟩,
                ⟨none, (some 18), .mov (.t 8)⟩,
                ⟨none, (some 19), .iaddr 3 (.t 17) (.t 18)⟩,
                ⟨none, (some 20), .faddr 0 (.t 19)⟩,
                ⟨none, (some 22), .mov (.t 0)⟩,
                ⟨none, (some 23), .mov (.t 8)⟩,
                ⟨none, (some 24), .iaddr 3 (.t 22) (.t 23)⟩,
                ⟨none, (some 25), .faddr 1 (.t 24)⟩,
                ⟨none, (some 21), .load none (.t 20)⟩,
                ⟨none, (some 9), .mov (.t 21)⟩,
                ⟨none, (some 26), .load none (.t 25)⟩,
                ⟨none, (some 10), .mov (.t 26)⟩]) (
            .seq (
              .reg [0, 1, 2, 7, 8, 44] [
                ⟨none, (some 27), .mov (.t 1)⟩,
                ⟨none, (some 28), .mov (.t 9)⟩,
                ⟨none, (some 29), .call 38 [(.t 27), (.t 28)]⟩,
                ⟨none, (some 30), .mov (.t 29)⟩,
                ⟨(some (30, true)), (some 31), .mov (.t 2)⟩,
                ⟨(some (30, true)), (some 32), .mov (.t 10)⟩,
                ⟨(some (30, true)), (some 33), .call 38 [(.t 31), (.t 32)]⟩,
                ⟨none, (some 34), .pick (.t 30) (.t 33) (.c (Go.Value.bool false))⟩,
                ⟨none, (some 35), .mov (.t 34)⟩,
                ⟨(some (35, false)), (some 36), .mov (.t 2)⟩,
                ⟨(some (35, false)), (some 37), .mov (.t 9)⟩,
                ⟨(some (35, false)), (some 38), .call 38 [(.t 36), (.t 37)]⟩,
                ⟨(some (35, false)), (some 39), .mov (.t 38)⟩,
                ⟨(some (39, true)), (some 40), .mov (.t 1)⟩,
                ⟨(some (39, true)), (some 41), .mov (.t 10)⟩,
                ⟨(some (39, true)), (some 42), .call 38 [(.t 40), (.t 41)]⟩,
                ⟨(some (35, false)), (some 43), .pick (.t 39) (.t 42) (.c (Go.Value.bool false))⟩,
                ⟨none, (some 44), .pick (.t 35) (.c (Go.Value.bool true)) (.t 43)⟩]) (
            .cond (.t 44) (
              .reg [0, 1, 2, 7, 8] [
                ⟨none, (some 45), .mov (.t 7)⟩,
                ⟨none, (some 46), .mov (.t 0)⟩,
                ⟨none, (some 47), .mov (.t 8)⟩,
                ⟨none, (some 48), .iaddr 3 (.t 46) (.t 47)⟩,
                ⟨none, (some 49), .faddr 2 (.t 48)⟩,
                ⟨none, (some 50), .load none (.t 49)⟩,
                ⟨none, (some 51), .bin .add .i64 (.t 45) (.t 50)⟩,
                ⟨none, (some 7), .mov (.t 51)⟩]) (
              .skip))))) (
        .reg [0, 1, 2, 7, 8] [
          ⟨none, (some 15), .mov (.t 8)⟩,
          ⟨none, (some 16), .bin .add .i64 (.t 15) (.c (Go.Value.int Go.IntKind.i64 1))⟩,
          ⟨none, (some 8), .mov (.t 16)⟩])))))) (
  .seq (
    .reg [6] [
      ⟨none, (some 52), .mov (.t 7)⟩,
      ⟨none, (some 6), .mov (.t 52)⟩]) (
  .ret))))
theorem e57 : erase Try.prog h57 (codeOf Try.f57) = c57 := by kernel_rfl
theorem g57 {T : Tab} (hP : TabOK Try.prog T) {ag : List Arg} {R : Res} {xs : List Row} (hT : T.base = nrows ag) (hl : ag.length ≤ 53) (hnt : noTake ag = true)
    (h : vc T c57 ⟨env0 0 0 ag, rows0 0 ag⟩ (fin T [.tmp 6] ag R xs) (fun _ _ => False) (fin T [.tmp 6] ag R xs)) : GCall Try.prog 57 ag R xs :=
  gcall_of_vc (H := h57) Try.func57 (fn := Try.f57) (code := codeOf Try.f57) (by kernel_rfl) e57 (by kernel_rfl) (rvs := [.tmp 6]) (by kernel_rfl) (by kernel_rfl) hP hT (by rw [show Try.f57.ntmps = 53 by kernel_rfl]; exact hl) hnt h

def h58 : Hint := ⟨20, fun n => lk [(0, [0]), (1, [0, 3]), (2, [0, 3, 4]), (3, [0, 3, 4, 9]), (4, [0, 3, 4]), (5, [0, 3, 4]), (6, [2])] n, fun n => mem [18] n, fun n => mem [] n, fun n => lkd [] n⟩
def c58 : CC :=
  .seq (
    .reg [0] [
      ⟨none, (some 2), .mov (.c (Go.Value.slice none 0 0))⟩]) (
  .seq (
    .reg [0, 3] [
      ⟨none, (some 3), .mov (.c (Go.Value.slice none 0 0))⟩]) (
  .seq (
    .seq (
      .reg [0, 3, 4] [
        ⟨none, (some 5), .mov (.t 0)⟩,
        ⟨none, (some 6), .len (.t 5)⟩,
        ⟨none, (some 7), .bin .sub .i64 (.t 6) (.c (Go.Value.int Go.IntKind.i64 1))⟩,
        ⟨none, (some 4), .mov (.t 7)⟩]) (
    .block 0 (
      .loop (
        .seq (
          .seq (
            .reg [0, 3, 4, 9] [
              ⟨none, (some 8), .mov (.t 4)⟩,
              ⟨none, (some 9), .bin .geq .i64 (.t 8) (.c (Go.Value.int Go.IntKind.i64 0))⟩]) (
          .cond (.t 9) (
            .skip) (
            .exit 0))) (
        .seq (
          .block 1 (
            .reg [0, 3, 4] [
              ⟨none, (some 12), .mov (.t 3)⟩,
              ⟨none, (some 13), .mov (.t 0)⟩,
              ⟨none, (some 14), .mov (.t 4)⟩,
              ⟨none, (some 15), .iaddr 1 (.t 13) (.t 14)⟩,
              ⟨none, (some 16), .load none (.t 15)⟩,
              ⟨none, (some 17), .bsl 3 1 [(.t 16)]⟩,
              ⟨none, (some 18), .app1 3 1 8 (.t 12) (.t 17)⟩,
              ⟨none, (some 3), .mov (.t 18)⟩])) (
        .reg [0, 3, 4] [
          ⟨none, (some 10), .mov (.t 4)⟩,
          ⟨none, (some 11), .bin .sub .i64 (.t 10) (.c (Go.Value.int Go.IntKind.i64 1))⟩,
          ⟨none, (some 4), .mov (.t 11)⟩])))))) (
  .seq (
    .reg [2] [
      ⟨none, (some 19), .mov (.t 3)⟩,
      ⟨none, (some 2), .mov (.t 19)⟩]) (
  .ret))))
theorem e58 : erase Try.prog h58 (codeOf Try.f58) = c58 := by kernel_rfl
theorem g58 {T : Tab} (hP : TabOK Try.prog T) {ag : List Arg} {R : Res} {xs : List Row} (hT : T.base = nrows ag) (hl : ag.length ≤ 20) (hnt : noTake ag = true)
    (h : vc T c58 ⟨env0 0 0 ag, rows0 0 ag⟩ (fin T [.tmp 2] ag R xs) (fun _ _ => False) (fin T [.tmp 2] ag R xs)) : GCall Try.prog 58 ag R xs :=
  gcall_of_vc (H := h58) Try.func58 (fn := Try.f58) (code := codeOf Try.f58) (by kernel_rfl) e58 (by kernel_rfl) (rvs := [.tmp 2]) (by kernel_rfl) (by kernel_rfl) hP hT (by rw [show Try.f58.ntmps = 20 by kernel_rfl]; exact hl) hnt h

def h59 : Hint := ⟨22, fun n => lk [(0, [0, 1]), (1, [4])] n, fun n => mem [] n, fun n => mem [] n, fun n => lkd [(1, [(0, .p), (1, .p), (2, .p), (4, .p), (5, .p), (11, .p), (12, .p), (3, .r), (6, .r), (7, .p), (8, .p), (9, .p), (10, .r), (13, .r), (14, .p), (15, .r), (16, .g), (17, .p)])] n⟩
def c59 : CC :=
  .seq (
    .reg [0, 1] [
      ⟨none, (some 4), .mov (.c (Go.Value.int Go.IntKind.i64 0))⟩]) (
  .seq (
    .reg [4] [
      ⟨none, (some 5), .mov (.t 0)⟩,
      ⟨none, (some 6), .mov (.t 1)⟩,
      ⟨none, (some 7), .iaddr 1 (.t 6) (.c (Go.Value.int Go.IntKind.i64 0))⟩,
      ⟨none, (some 9), .mov (.t 1)⟩,
      ⟨none, (some 10), .iaddr 1 (.t 9) (.c (Go.Value.int Go.IntKind.i64 0))⟩,
      ⟨none, (some 16), .mov (.t 1)⟩,
      ⟨none, (some 17), .iaddr 1 (.t 16) (.c (Go.Value.int Go.IntKind.i64 1))⟩,
      ⟨none, (some 8), .load none (.t 7)⟩,
      ⟨none, (some 11), .load none (.t 10)⟩,
      ⟨none, (some 12), .len (.t 11)⟩,
      ⟨none, (some 13), .bin .sub .i64 (.t 12) (.c (Go.Value.int Go.IntKind.i64 1))⟩,
      ⟨none, (some 14), .iaddr 1 (.t 8) (.t 13)⟩,
      ⟨none, (some 15), .load none (.t 14)⟩,
      ⟨none, (some 18), .load none (.t 17)⟩,
      ⟨none, (some 19), .iaddr 1 (.t 18) (.c (Go.Value.int Go.IntKind.i64 0))⟩,
      ⟨none, (some 20), .load none (.t 19)⟩,
      ⟨none, (some 21), .call 29 [(.t 5), (.t 15), (.t 20)]⟩,
      ⟨none, (some 4), .mov (.t 21)⟩]) (
  .ret))
theorem e59 : erase Try.prog h59 (codeOf Try.f59) = c59 := by kernel_rfl
theorem g59 {T : Tab} (hP : TabOK Try.prog T) {ag : List Arg} {R : Res} {xs : List Row} (hT : T.base = nrows ag) (hl : ag.length ≤ 22) (hnt : noTake ag = true)
    (h : vc T c59 ⟨env0 0 0 ag, rows0 0 ag⟩ (fin T [.tmp 4] ag R xs) (fun _ _ => False) (fin T [.tmp 4] ag R xs)) : GCall Try.prog 59 ag R xs :=
  gcall_of_vc (H := h59) Try.func59 (fn := Try.f59) (code := codeOf Try.f59) (by kernel_rfl) e59 (by kernel_rfl) (rvs := [.tmp 4]) (by kernel_rfl) (by kernel_rfl) hP hT (by rw [show Try.f59.ntmps = 22 by kernel_rfl]; exact hl) hnt h

def h61 : Hint := ⟨19, fun n => lk [(0, [0, 1]), (1, [0, 1, 5]), (2, [0, 1, 5, 9]), (3, [0, 1, 5]), (4, [0, 1, 5, 17]), (5, [4]), (6, [4])] n, fun n => mem [] n, fun n => mem [] n, fun n => lkd [] n⟩
def c61 : CC :=
  .seq (
    .reg [0, 1] [
      ⟨none, (some 4), .mov (.c (Go.Value.int Go.IntKind.i64 0))⟩]) (
  .seq (
    .seq (
      .reg [0, 1, 5] [
        ⟨none, (some 5), .mov (.c (Go.Value.int Go.IntKind.i64 0))⟩]) (
    .block 0 (
      .loop (
        .seq (
          .seq (
            .reg [0, 1, 5, 9] [
              ⟨none, (some 6), .mov (.t 5)⟩,
              ⟨none, (some 7), .mov (.t 0)⟩,
              ⟨none, (some 8), .len (.t 7)⟩,
              ⟨none, (some 9), .bin .lss .i64 (.t 6) (.t 8)⟩]) (
          .cond (.t 9) (
            .skip) (
            .exit 0))) (
        .seq (
          .block 1 (
            .seq (
              .reg [0, 1, 5, 17] [
                ⟨none, (some 12), .mov (.t 0)⟩,
                ⟨none, (some 13), .mov (.t 5)⟩,
                ⟨none, (some 14), .iaddr 1 (.t 12) (.t 13)⟩,
                ⟨none, (some 15), .load none (.t 14)⟩,
                ⟨none, (some 16), .mov (.t 1)⟩,
                ⟨none, (some 17), .bin .eql .i64 (.t 15) (.t 16)⟩]) (
            .cond (.t 17) (
              .seq (
                .reg [4] [
                  ⟨none, (some 18), .mov (.t 5)⟩,
                  ⟨none, (some 4), .mov (.t 18)⟩]) (
              .ret)) (
              .skip)))) (
        .reg [0, 1, 5] [
          ⟨none, (some 10), .mov (.t 5)⟩,
          ⟨none, (some 11), .bin .add .i64 (.t 10) (.c (Go.Value.int Go.IntKind.i64 1))⟩,
          ⟨none, (some 5), .mov (.t 11)⟩])))))) (
  .seq (
    .reg [4] [
      ⟨none, (some 4), .mov (.c (Go.Value.int Go.IntKind.i64 (-1)))⟩]) (
  .ret)))
theorem e61 : erase Try.prog h61 (codeOf Try.f61) = c61 := by kernel_rfl
theorem g61 {T : Tab} (hP : TabOK Try.prog T) {ag : List Arg} {R : Res} {xs : List Row} (hT : T.base = nrows ag) (hl : ag.length ≤ 19) (hnt : noTake ag = true)
    (h : vc T c61 ⟨env0 0 0 ag, rows0 0 ag⟩ (fin T [.tmp 4] ag R xs) (fun _ _ => False) (fin T [.tmp 4] ag R xs)) : GCall Try.prog 61 ag R xs :=
  gcall_of_vc (H := h61) Try.func61 (fn := Try.f61) (code := codeOf Try.f61) (by kernel_rfl) e61 (by kernel_rfl) (rvs := [.tmp 4]) (by kernel_rfl) (by kernel_rfl) hP hT (by rw [show Try.f61.ntmps = 19 by kernel_rfl]; exact hl) hnt h

def h52 : Hint := ⟨73, fun n => lk [(0, [0, 1, 4]), (1, [0, 1, 4, 9]), (2, [4]), (3, [0, 1, 4, 14]), (4, [4]), (5, [0, 1, 4, 19, 20, 21]), (6, [0, 1, 4, 19, 20, 21, 22]), (7, [0, 1, 4, 5, 6, 19, 20, 21]), (8, [0, 1, 4, 5, 19, 20, 21, 31]), (9, [4]), (10, [0, 1, 4, 19, 20, 21]), (11, [0, 4, 36, 37, 38]), (12, [0, 4, 36, 37, 38, 39]), (13, [0, 4, 7, 8, 36, 37, 38]), (14, [0, 4, 7, 36, 37, 38, 68]), (15, [4]), (16, [0, 4, 36, 37, 38]), (17, [4])] n, fun n => mem [] n, fun n => mem [] n, fun n => lkd [] n⟩
def c52 : CC :=
  .seq (
    .reg [0, 1, 4] [
      ⟨none, (some 4), .alloc [.int .i64 0, .int .i64 0]⟩]) (
  .seq (
    .block 0 (
      .seq (
        .reg [0, 1, 4, 9] [
          ⟨none, (some 10), .mov (.t 0)⟩,
          ⟨none, (some 11), .len (.t 10)⟩,
          ⟨none, (some 12), .bin .gtr .i64 (.t 11) (.c (Go.Value.int Go.IntKind.i64 60))⟩,
          ⟨none, (some 9), .mov (.t 12)⟩]) (
      .cond (.t 9) (
        .seq (
          .reg [4] [
            ⟨none, (some 13), .build [.int .i64 0, .int .i64 0] [(0, 1, (.c (Go.Value.int Go.IntKind.i64 2))), (1, 1, (.c (Go.Value.int Go.IntKind.i64 (-1))))]⟩,
            ⟨none, none, .store 2 (.t 4) (.t 13)⟩]) (
        .ret)) (
        .seq (
          .reg [0, 1, 4, 14] [
            ⟨none, (some 15), .mov (.t 1)⟩,
            ⟨none, (some 16), .len (.t 15)⟩,
            ⟨none, (some 17), .bin .gtr .i64 (.t 16) (.c (Go.Value.int Go.IntKind.i64 200))⟩,
            ⟨none, (some 14), .mov (.t 17)⟩]) (
        .cond (.t 14) (
          .seq (
            .reg [4] [
              ⟨none, (some 18), .build [.int .i64 0, .int .i64 0] [(0, 1, (.c (Go.Value.int Go.IntKind.i64 2))), (1, 1, (.c (Go.Value.int Go.IntKind.i64 (-2))))]⟩,
              ⟨none, none, .store 2 (.t 4) (.t 18)⟩]) (
          .ret)) (
          .skip)))))) (
  .seq (
    .seq (
      .reg [0, 1, 4, 19, 20, 21] [
        ⟨none, (some 19), .mov (.t 0)⟩,
        ⟨none, (some 20), .len (.t 19)⟩,
        ⟨none, (some 21), .mov (.c (Go.Value.int Go.IntKind.i64 0))⟩]) (
    .block 1 (
      .loop (
        .seq (
          .reg [0, 1, 4, 19, 20, 21, 22] [
            ⟨none, (some 22), .bin .lss .i64 (.t 21) (.t 20)⟩]) (
        .seq (
          .cond (.t 22) (
            .skip) (
            .exit 1)) (
        .seq (
          .block 2 (
            .seq (
              .reg [0, 1, 4, 5, 6, 19, 20, 21] [
                ⟨none, (some 23), .mov (.t 21)⟩,
                ⟨none, (some 24), .iaddr 1 (.t 19) (.t 21)⟩,
                ⟨none, (some 25), .load none (.t 24)⟩,
                ⟨none, (some 5), .mov (.t 23)⟩,
                ⟨none, (some 6), .mov (.t 25)⟩]) (
            .seq (
              .reg [0, 1, 4, 5, 19, 20, 21, 31] [
                ⟨none, (some 26), .mov (.t 6)⟩,
                ⟨none, (some 27), .bin .lss .i64 (.t 26) (.c (Go.Value.int Go.IntKind.i64 0))⟩,
                ⟨none, (some 28), .mov (.t 27)⟩,
                ⟨(some (28, false)), (some 29), .mov (.t 6)⟩,
                ⟨(some (28, false)), (some 30), .bin .gtr .i64 (.t 29) (.c (Go.Value.int Go.IntKind.i64 1500))⟩,
                ⟨none, (some 31), .pick (.t 28) (.c (Go.Value.bool true)) (.t 30)⟩]) (
            .cond (.t 31) (
              .seq (
                .reg [4] [
                  ⟨none, (some 32), .mov (.t 5)⟩,
                  ⟨none, (some 33), .bin .sub .i64 (.c (Go.Value.int Go.IntKind.i64 (-10))) (.t 32)⟩,
                  ⟨none, (some 34), .build [.int .i64 0, .int .i64 0] [(0, 1, (.c (Go.Value.int Go.IntKind.i64 3))), (1, 1, (.t 33))]⟩,
                  ⟨none, none, .store 2 (.t 4) (.t 34)⟩]) (
              .ret)) (
              .skip))))) (
        .reg [0, 1, 4, 19, 20, 21] [
          ⟨none, (some 35), .bin .add .i64 (.t 21) (.c (Go.Value.int Go.IntKind.i64 1))⟩,
          ⟨none, (some 21), .mov (.t 35)⟩]))))))) (
  .seq (
    .seq (
      .reg [0, 4, 36, 37, 38] [
        ⟨none, (some 36), .mov (.t 1)⟩,
        ⟨none, (some 37), .len (.t 36)⟩,
        ⟨none, (some 38), .mov (.c (Go.Value.int Go.IntKind.i64 0))⟩]) (
    .block 3 (
      .loop (
        .seq (
          .reg [0, 4, 36, 37, 38, 39] [
            ⟨none, (some 39), .bin .lss .i64 (.t 38) (.t 37)⟩]) (
        .seq (
          .cond (.t 39) (
            .skip) (
            .exit 3)) (
        .seq (
          .block 4 (
            .seq (
              .reg [0, 4, 7, 8, 36, 37, 38] [
                ⟨none, (some 40), .mov (.t 38)⟩,
                ⟨none, (some 41), .iaddr 3 (.t 36) (.t 38)⟩,
                ⟨none, (some 42), .load (some 3) (.t 41)⟩,
                ⟨none, (some 8), .alloc [.int .i64 0, .int .i64 0, .int .i64 0]⟩,
                ⟨none, (some 7), .mov (.t 40)⟩,
                ⟨none, none, .store 3 (.t 8) (.t 42)⟩]) (
            .seq (
              .reg [0, 4, 7, 36, 37, 38, 68] [
                ⟨none, (some 43), .faddr 0 (.t 8)⟩,
                ⟨none, (some 44), .load none (.t 43)⟩,
                ⟨none, (some 45), .faddr 1 (.t 8)⟩,
                ⟨none, (some 46), .load none (.t 45)⟩,
                ⟨none, (some 47), .mm false (.t 44) (.t 46)⟩,
                ⟨none, (some 48), .bin .lss .i64 (.t 47) (.c (Go.Value.int Go.IntKind.i64 0))⟩,
                ⟨none, (some 49), .mov (.t 48)⟩,
                ⟨(some (49, false)), (some 50), .faddr 0 (.t 8)⟩,
                ⟨(some (49, false)), (some 51), .load none (.t 50)⟩,
                ⟨(some (49, false)), (some 52), .faddr 1 (.t 8)⟩,
                ⟨(some (49, false)), (some 53), .load none (.t 52)⟩,
                ⟨(some (49, false)), (some 54), .mm true (.t 51) (.t 53)⟩,
                ⟨(some (49, false)), (some 55), .mov (.t 0)⟩,
                ⟨(some (49, false)), (some 56), .len (.t 55)⟩,
                ⟨(some (49, false)), (some 57), .bin .geq .i64 (.t 54) (.t 56)⟩,
                ⟨none, (some 58), .pick (.t 49) (.c (Go.Value.bool true)) (.t 57)⟩,
                ⟨none, (some 59), .mov (.t 58)⟩,
                ⟨(some (59, false)), (some 60), .faddr 2 (.t 8)⟩,
                ⟨(some (59, false)), (some 61), .load none (.t 60)⟩,
                ⟨(some (59, false)), (some 62), .bin .lss .i64 (.t 61) (.c (Go.Value.int Go.IntKind.i64 0))⟩,
                ⟨none, (some 63), .pick (.t 59) (.c (Go.Value.bool true)) (.t 62)⟩,
                ⟨none, (some 64), .mov (.t 63)⟩,
                ⟨(some (64, false)), (some 65), .faddr 2 (.t 8)⟩,
                ⟨(some (64, false)), (some 66), .load none (.t 65)⟩,
                ⟨(some (64, false)), (some 67), .bin .gtr .i64 (.t 66) (.c (Go.Value.int Go.IntKind.i64 1000000))⟩,
                ⟨none, (some 68), .pick (.t 64) (.c (Go.Value.bool true)) (.t 67)⟩]) (
            .cond (.t 68) (
              .seq (
                .reg [4] [
                  ⟨none, (some 69), .mov (.t 7)⟩,
                  ⟨none, (some 70), .build [.int .i64 0, .int .i64 0] [(0, 1, (.c (Go.Value.int Go.IntKind.i64 3))), (1, 1, (.t 69))]⟩,
                  ⟨none, none, .store 2 (.t 4) (.t 70)⟩]) (
              .ret)) (
              .skip))))) (
        .reg [0, 4, 36, 37, 38] [
          ⟨none, (some 71), .bin .add .i64 (.t 38) (.c (Go.Value.int Go.IntKind.i64 1))⟩,
          ⟨none, (some 38), .mov (.t 71)⟩]))))))) (
  .seq (
    .reg [4] [
      ⟨none, (some 72), .build [.int .i64 0, .int .i64 0] []⟩,
      ⟨none, none, .store 2 (.t 4) (.t 72)⟩]) (
  .ret)))))
theorem e52 : erase Try.prog h52 (codeOf Try.f52) = c52 := by kernel_rfl
theorem g52 {T : Tab} (hP : TabOK Try.prog T) {ag : List Arg} {R : Res} {xs : List Row} (hT : T.base = nrows ag) (hl : ag.length ≤ 73) (hnt : noTake ag = true)
    (h : vc T c52 ⟨env0 0 0 ag, rows0 0 ag⟩ (fin T [.cell 4 (some 2)] ag R xs) (fun _ _ => False) (fin T [.cell 4 (some 2)] ag R xs)) : GCall Try.prog 52 ag R xs :=
  gcall_of_vc (H := h52) Try.func52 (fn := Try.f52) (code := codeOf Try.f52) (by kernel_rfl) e52 (by kernel_rfl) (rvs := [.cell 4 (some 2)]) (by kernel_rfl) (by kernel_rfl) hP hT (by rw [show Try.f52.ntmps = 73 by kernel_rfl]; exact hl) hnt h

end Go.Eng
