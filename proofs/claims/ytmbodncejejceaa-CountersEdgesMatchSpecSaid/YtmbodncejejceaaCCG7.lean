/- The compact code of functions. -/
import Derived.Test.YtmbodncejejceaaCFam
set_option linter.all false

set_option maxRecDepth 100000
namespace Go.Eng
open Go.Proofs

def h30 : Hint := ⟨76, fun n => lk [(0, [0, 1, 5, 7]), (1, [0, 1, 5, 7, 8]), (2, [0, 1, 5, 7, 8, 22]), (3, [6, 7]), (4, [0, 5, 7, 9]), (5, [0, 5, 7, 9, 10]), (6, [0, 5, 7, 9, 10, 33]), (7, [6, 7]), (8, [0, 5, 7, 9, 11]), (9, [0, 5, 7, 9, 11, 39, 40]), (10, [0, 5, 7, 9, 11, 39, 40, 41]), (11, [0, 5, 7, 9, 11, 12, 39, 40]), (12, [0, 5, 7, 9, 11, 39, 40]), (13, [0, 5, 7, 9, 11, 39, 40]), (14, [0, 7, 9, 11]), (15, [7, 9, 11, 13]), (16, [7, 9, 11, 13, 14]), (17, [7, 9, 13, 14, 54, 55, 56]), (18, [7, 9, 13, 14, 54, 55, 56, 57]), (19, [7, 9, 13, 14, 16, 54, 55, 56]), (20, [7, 9, 13, 14, 16, 54, 55, 56, 66]), (21, [7, 9, 13, 14, 54, 55, 56]), (22, [7, 9, 13, 14, 54, 55, 56]), (23, [7, 14]), (24, [6, 7])] n, fun n => mem [70] n, fun n => mem [] n, fun n => lkd [(3, [(1, .p), (0, .r), (2, .g)]), (7, [(1, .p), (0, .r), (2, .g)])] n⟩
def c30 : CC :=
  .seq (
    .reg [0, 1, 5, 7] [
      ⟨none, (some 5), .box (.t 2)⟩,
      ⟨none, (some 6), .mov (.c (Go.Value.slice none 0 0))⟩,
      ⟨none, (some 7), .alloc [.int .i64 0, .int .i64 0]⟩]) (
  .seq (
    .seq (
      .reg [0, 1, 5, 7, 8] [
        ⟨none, (some 17), .mov (.t 0)⟩,
        ⟨none, (some 18), .mov (.t 1)⟩,
        ⟨none, (some 19), .call 62 [(.t 17), (.t 18)]⟩,
        ⟨none, (some 8), .alloc [.int .i64 0, .int .i64 0]⟩,
        ⟨none, none, .store 2 (.t 8) (.t 19)⟩]) (
    .seq (
      .reg [0, 1, 5, 7, 8, 22] [
        ⟨none, (some 20), .load (some 2) (.t 8)⟩,
        ⟨none, (some 21), .build [.int .i64 0, .int .i64 0] []⟩,
        ⟨none, (some 22), .eqa true [(0, true), (1, true)] (.t 20) (.t 21)⟩]) (
    .cond (.t 22) (
      .seq (
        .reg [6, 7] [
          ⟨none, (some 6), .mov (.c (Go.Value.slice none 0 0))⟩,
          ⟨none, (some 23), .load (some 2) (.t 8)⟩,
          ⟨none, none, .store 2 (.t 7) (.t 23)⟩]) (
      .ret)) (
      .skip)))) (
  .seq (
    .reg [0, 5, 7, 9] [
      ⟨none, (some 24), .mov (.t 0)⟩,
      ⟨none, (some 25), .mov (.t 1)⟩,
      ⟨none, (some 26), .call 63 [(.t 24), (.t 25)]⟩,
      ⟨none, (some 9), .mov (.t 26)⟩]) (
  .seq (
    .seq (
      .reg [0, 5, 7, 9, 10] [
        ⟨none, (some 27), .load none (.t 5)⟩,
        ⟨none, (some 28), .mov (.t 9)⟩,
        ⟨none, (some 29), .len (.t 28)⟩,
        ⟨none, (some 30), .call 64 [(.t 27), (.t 29)]⟩,
        ⟨none, (some 10), .alloc [.int .i64 0, .int .i64 0]⟩,
        ⟨none, none, .store 2 (.t 10) (.t 30)⟩]) (
    .seq (
      .reg [0, 5, 7, 9, 10, 33] [
        ⟨none, (some 31), .load (some 2) (.t 10)⟩,
        ⟨none, (some 32), .build [.int .i64 0, .int .i64 0] []⟩,
        ⟨none, (some 33), .eqa true [(0, true), (1, true)] (.t 31) (.t 32)⟩]) (
    .cond (.t 33) (
      .seq (
        .reg [6, 7] [
          ⟨none, (some 6), .mov (.c (Go.Value.slice none 0 0))⟩,
          ⟨none, (some 34), .load (some 2) (.t 10)⟩,
          ⟨none, none, .store 2 (.t 7) (.t 34)⟩]) (
      .ret)) (
      .skip)))) (
  .seq (
    .reg [0, 5, 7, 9, 11] [
      ⟨none, (some 35), .mov (.t 9)⟩,
      ⟨none, (some 36), .len (.t 35)⟩,
      ⟨none, (some 37), .mks 3 1 8 [.int .i64 0] (.t 36) (.t 36)⟩,
      ⟨none, (some 11), .mov (.t 37)⟩]) (
  .seq (
    .seq (
      .reg [0, 5, 7, 9, 11, 39, 40] [
        ⟨none, (some 38), .mov (.t 11)⟩,
        ⟨none, (some 39), .len (.t 38)⟩,
        ⟨none, (some 40), .mov (.c (Go.Value.int Go.IntKind.i64 0))⟩]) (
    .block 0 (
      .loop (
        .seq (
          .reg [0, 5, 7, 9, 11, 39, 40, 41] [
            ⟨none, (some 41), .bin .lss .i64 (.t 40) (.t 39)⟩]) (
        .seq (
          .cond (.t 41) (
            .skip) (
            .exit 0)) (
        .seq (
          .block 1 (
            .seq (
              .reg [0, 5, 7, 9, 11, 12, 39, 40] [
                ⟨none, (some 42), .mov (.t 40)⟩,
                ⟨none, (some 12), .mov (.t 42)⟩]) (
            .reg [0, 5, 7, 9, 11, 39, 40] [
              ⟨none, (some 43), .mov (.t 11)⟩,
              ⟨none, (some 44), .mov (.t 12)⟩,
              ⟨none, (some 45), .mov (.t 12)⟩,
              ⟨none, (some 46), .iaddr 1 (.t 43) (.t 44)⟩,
              ⟨none, none, .store 1 (.t 46) (.t 45)⟩]))) (
        .reg [0, 5, 7, 9, 11, 39, 40] [
          ⟨none, (some 47), .bin .add .i64 (.t 40) (.c (Go.Value.int Go.IntKind.i64 1))⟩,
          ⟨none, (some 40), .mov (.t 47)⟩]))))))) (
  .seq (
    .reg [0, 7, 9, 11] [
      ⟨none, (some 48), .mov (.t 11)⟩,
      ⟨none, (some 49), .mkf 66 [(.t 5)]⟩,
      ⟨none, (some 50), .call 65 [(.t 48), (.t 49)]⟩]) (
  .seq (
    .reg [7, 9, 11, 13] [
      ⟨none, (some 51), .mov (.t 0)⟩,
      ⟨none, (some 52), .len (.t 51)⟩,
      ⟨none, (some 53), .call 67 [(.t 52)]⟩,
      ⟨none, (some 13), .mov (.t 53)⟩]) (
  .seq (
    .reg [7, 9, 11, 13, 14] [
      ⟨none, (some 14), .mov (.c (Go.Value.slice none 0 0))⟩]) (
  .seq (
    .seq (
      .reg [7, 9, 13, 14, 54, 55, 56] [
        ⟨none, (some 54), .mov (.t 11)⟩,
        ⟨none, (some 55), .len (.t 54)⟩,
        ⟨none, (some 56), .mov (.c (Go.Value.int Go.IntKind.i64 0))⟩]) (
    .block 2 (
      .loop (
        .seq (
          .reg [7, 9, 13, 14, 54, 55, 56, 57] [
            ⟨none, (some 57), .bin .lss .i64 (.t 56) (.t 55)⟩]) (
        .seq (
          .cond (.t 57) (
            .skip) (
            .exit 2)) (
        .seq (
          .block 3 (
            .seq (
              .reg [7, 9, 13, 14, 16, 54, 55, 56] [
                ⟨none, (some 58), .iaddr 1 (.t 54) (.t 56)⟩,
                ⟨none, (some 59), .load none (.t 58)⟩,
                ⟨none, (some 16), .mov (.t 59)⟩]) (
            .seq (
              .reg [7, 9, 13, 14, 16, 54, 55, 56, 66] [
                ⟨none, (some 60), .mov (.t 13)⟩,
                ⟨none, (some 61), .mov (.t 9)⟩,
                ⟨none, (some 62), .mov (.t 16)⟩,
                ⟨none, (some 63), .iaddr 2 (.t 61) (.t 62)⟩,
                ⟨none, (some 64), .load (some 2) (.t 63)⟩,
                ⟨none, (some 65), .call 68 [(.t 60), (.t 64)]⟩,
                ⟨none, (some 66), .not (.t 65)⟩]) (
            .cond (.t 66) (
              .reg [7, 9, 13, 14, 54, 55, 56] [
                ⟨none, (some 67), .mov (.t 14)⟩,
                ⟨none, (some 68), .mov (.t 16)⟩,
                ⟨none, (some 69), .bsl 3 1 [(.t 68)]⟩,
                ⟨none, (some 70), .app1 3 1 8 (.t 67) (.t 69)⟩,
                ⟨none, (some 14), .mov (.t 70)⟩]) (
              .skip))))) (
        .reg [7, 9, 13, 14, 54, 55, 56] [
          ⟨none, (some 71), .bin .add .i64 (.t 56) (.c (Go.Value.int Go.IntKind.i64 1))⟩,
          ⟨none, (some 56), .mov (.t 71)⟩]))))))) (
  .seq (
    .reg [7, 14] [
      ⟨none, (some 72), .mov (.t 14)⟩,
      ⟨none, (some 73), .call 69 [(.t 72)]⟩]) (
  .seq (
    .reg [6, 7] [
      ⟨none, (some 74), .mov (.t 14)⟩,
      ⟨none, (some 75), .build [.int .i64 0, .int .i64 0] []⟩,
      ⟨none, (some 6), .mov (.t 74)⟩,
      ⟨none, none, .store 2 (.t 7) (.t 75)⟩]) (
  .ret))))))))))))
theorem e30 : erase Try.prog h30 (codeOf Try.f30) = c30 := by kernel_rfl
theorem g30 {T : Tab} (hP : TabOK Try.prog T) {ag : List Arg} {R : Res} {xs : List Row} (hT : T.base = nrows ag) (hl : ag.length ≤ 76) (hnt : noTake ag = true)
    (h : vc T c30 ⟨env0 0 0 ag, rows0 0 ag⟩ (fin T [.tmp 6, .cell 7 (some 2)] ag R xs) (fun _ _ => False) (fin T [.tmp 6, .cell 7 (some 2)] ag R xs)) : GCall Try.prog 30 ag R xs :=
  gcall_of_vc (H := h30) Try.func30 (fn := Try.f30) (code := codeOf Try.f30) (by kernel_rfl) e30 (by kernel_rfl) (rvs := [.tmp 6, .cell 7 (some 2)]) (by kernel_rfl) (by kernel_rfl) hP hT (by rw [show Try.f30.ntmps = 76 by kernel_rfl]; exact hl) hnt h

end Go.Eng
