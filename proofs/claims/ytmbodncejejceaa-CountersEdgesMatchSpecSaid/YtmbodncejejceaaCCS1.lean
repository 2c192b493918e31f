/- The compact code of functions. -/
import Derived.Test.YtmbodncejejceaaCFam
set_option linter.all false

set_option maxRecDepth 100000
namespace Go.Eng
open Go.Proofs

def h132 : Hint := ⟨38, fun n => lk [(0, [0, 1, 2, 3, 10]), (1, [0, 1, 2, 3, 10, 13]), (2, [0, 1, 2, 3, 10]), (3, [0, 1, 2, 3, 10])] n, fun n => mem [] n, fun n => mem [] n, fun n => lkd [(3, [(0, .p), (1, .p), (2, .p), (3, .p), (4, .p), (5, .p), (6, .p), (7, .p), (8, .p), (9, .p), (10, .p), (11, .p), (12, .p), (14, .p), (15, .p), (16, .p), (17, .p), (18, .p), (13, .r), (19, .r), (20, .p), (21, .g), (22, .p), (23, .g)])] n⟩
def c132 : CC :=
  .seq (
    .reg [0, 1, 2, 3, 10] [
      ⟨none, (some 10), .mov (.c (Go.Value.int Go.IntKind.i64 0))⟩]) (
  .block 0 (
    .loop (
      .seq (
        .seq (
          .reg [0, 1, 2, 3, 10, 13] [
            ⟨none, (some 11), .mov (.t 10)⟩,
            ⟨none, (some 12), .mov (.t 3)⟩,
            ⟨none, (some 13), .bin .lss .i64 (.t 11) (.t 12)⟩]) (
        .cond (.t 13) (
          .skip) (
          .exit 0))) (
      .seq (
        .block 1 (
          .reg [0, 1, 2, 3, 10] [
            ⟨none, (some 16), .mov (.t 0)⟩,
            ⟨none, (some 17), .mov (.t 1)⟩,
            ⟨none, (some 18), .mov (.t 10)⟩,
            ⟨none, (some 19), .bin .add .i64 (.t 17) (.t 18)⟩,
            ⟨none, (some 20), .mov (.t 0)⟩,
            ⟨none, (some 21), .mov (.t 2)⟩,
            ⟨none, (some 22), .mov (.t 10)⟩,
            ⟨none, (some 23), .bin .add .i64 (.t 21) (.t 22)⟩,
            ⟨none, (some 24), .mov (.t 0)⟩,
            ⟨none, (some 25), .mov (.t 2)⟩,
            ⟨none, (some 26), .mov (.t 10)⟩,
            ⟨none, (some 27), .bin .add .i64 (.t 25) (.t 26)⟩,
            ⟨none, (some 28), .iaddr 1 (.t 24) (.t 27)⟩,
            ⟨none, (some 30), .mov (.t 0)⟩,
            ⟨none, (some 31), .mov (.t 1)⟩,
            ⟨none, (some 32), .mov (.t 10)⟩,
            ⟨none, (some 33), .bin .add .i64 (.t 31) (.t 32)⟩,
            ⟨none, (some 34), .iaddr 1 (.t 30) (.t 33)⟩,
            ⟨none, (some 29), .load none (.t 28)⟩,
            ⟨none, (some 35), .load none (.t 34)⟩,
            ⟨none, (some 36), .iaddr 1 (.t 16) (.t 19)⟩,
            ⟨none, none, .store 1 (.t 36) (.t 29)⟩,
            ⟨none, (some 37), .iaddr 1 (.t 20) (.t 23)⟩,
            ⟨none, none, .store 1 (.t 37) (.t 35)⟩])) (
      .reg [0, 1, 2, 3, 10] [
        ⟨none, (some 14), .mov (.t 10)⟩,
        ⟨none, (some 15), .bin .add .i64 (.t 14) (.c (Go.Value.int Go.IntKind.i64 1))⟩,
        ⟨none, (some 10), .mov (.t 15)⟩])))))
theorem e132 : erase Try.prog h132 (codeOf Try.f132) = c132 := by kernel_rfl
theorem g132 {T : Tab} (hP : TabOK Try.prog T) {ag : List Arg} {R : Res} {xs : List Row} (hT : T.base = nrows ag) (hl : ag.length ≤ 38) (hnt : noTake ag = true)
    (h : vc T c132 ⟨env0 0 0 ag, rows0 0 ag⟩ (fin T [] ag R xs) (fun _ _ => False) (fin T [] ag R xs)) : GCall Try.prog 132 ag R xs :=
  gcall_of_vc (H := h132) Try.func132 (fn := Try.f132) (code := codeOf Try.f132) (by kernel_rfl) e132 (by kernel_rfl) (rvs := []) (by kernel_rfl) (by kernel_rfl) hP hT (by rw [show Try.f132.ntmps = 38 by kernel_rfl]; exact hl) hnt h

def h123 : Hint := ⟨58, fun n => lk [(0, [0, 2, 3, 4, 10]), (1, [0, 2, 4, 10, 11]), (2, [0, 2, 4, 10, 11, 20]), (3, [0, 2, 4, 10, 11, 23]), (4, [0, 2, 4, 10, 11]), (5, [0, 2, 4, 10, 11]), (6, [0, 2, 4, 10, 11]), (7, [0, 2, 4, 10, 11]), (8, [])] n, fun n => mem [] n, fun n => mem [] n, fun n => lkd [] n⟩
def c123 : CC :=
  .seq (
    .reg [0, 2, 3, 4, 10] [
      ⟨none, (some 12), .mov (.t 2)⟩,
      ⟨none, (some 13), .mov (.t 1)⟩,
      ⟨none, (some 14), .bin .sub .i64 (.t 12) (.t 13)⟩,
      ⟨none, (some 10), .mov (.t 14)⟩]) (
  .seq (
    .reg [0, 2, 4, 10, 11] [
      ⟨none, (some 15), .mov (.t 3)⟩,
      ⟨none, (some 16), .mov (.t 2)⟩,
      ⟨none, (some 17), .bin .sub .i64 (.t 15) (.t 16)⟩,
      ⟨none, (some 11), .mov (.t 17)⟩]) (
  .seq (
    .block 0 (
      .loop (
        .seq (
          .seq (
            .reg [0, 2, 4, 10, 11, 20] [
              ⟨none, (some 18), .mov (.t 10)⟩,
              ⟨none, (some 19), .mov (.t 11)⟩,
              ⟨none, (some 20), .bin .neq .i64 (.t 18) (.t 19)⟩]) (
          .cond (.t 20) (
            .skip) (
            .exit 0))) (
        .block 1 (
          .seq (
            .reg [0, 2, 4, 10, 11, 23] [
              ⟨none, (some 21), .mov (.t 10)⟩,
              ⟨none, (some 22), .mov (.t 11)⟩,
              ⟨none, (some 23), .bin .gtr .i64 (.t 21) (.t 22)⟩]) (
          .cond (.t 23) (
            .seq (
              .reg [0, 2, 4, 10, 11] [
                ⟨none, (some 24), .mov (.t 0)⟩,
                ⟨none, (some 25), .mov (.t 2)⟩,
                ⟨none, (some 26), .mov (.t 10)⟩,
                ⟨none, (some 27), .bin .sub .i64 (.t 25) (.t 26)⟩,
                ⟨none, (some 28), .mov (.t 2)⟩,
                ⟨none, (some 29), .mov (.t 11)⟩,
                ⟨none, (some 30), .mov (.t 4)⟩,
                ⟨none, (some 31), .call 132 [(.t 24), (.t 27), (.t 28), (.t 29), (.t 30)]⟩]) (
            .reg [0, 2, 4, 10, 11] [
              ⟨none, (some 32), .mov (.t 10)⟩,
              ⟨none, (some 33), .mov (.t 11)⟩,
              ⟨none, (some 34), .bin .sub .i64 (.t 32) (.t 33)⟩,
              ⟨none, (some 10), .mov (.t 34)⟩])) (
            .seq (
              .reg [0, 2, 4, 10, 11] [
                ⟨none, (some 35), .mov (.t 0)⟩,
                ⟨none, (some 36), .mov (.t 2)⟩,
                ⟨none, (some 37), .mov (.t 10)⟩,
                ⟨none, (some 38), .bin .sub .i64 (.t 36) (.t 37)⟩,
                ⟨none, (some 39), .mov (.t 2)⟩,
                ⟨none, (some 40), .mov (.t 11)⟩,
                ⟨none, (some 41), .bin .add .i64 (.t 39) (.t 40)⟩,
                ⟨none, (some 42), .mov (.t 10)⟩,
                ⟨none, (some 43), .bin .sub .i64 (.t 41) (.t 42)⟩,
                ⟨none, (some 44), .mov (.t 10)⟩,
                ⟨none, (some 45), .mov (.t 4)⟩,
                ⟨none, (some 46), .call 132 [(.t 35), (.t 38), (.t 43), (.t 44), (.t 45)]⟩]) (
            .reg [0, 2, 4, 10, 11] [
              ⟨none, (some 47), .mov (.t 11)⟩,
              ⟨none, (some 48), .mov (.t 10)⟩,
              ⟨none, (some 49), .bin .sub .i64 (.t 47) (.t 48)⟩,
              ⟨none, (some 11), .mov (.t 49)⟩])))))))) (
  .reg [] [
    ⟨none, (some 50), .mov (.t 0)⟩,
    ⟨none, (some 51), .mov (.t 2)⟩,
    ⟨none, (some 52), .mov (.t 10)⟩,
    ⟨none, (some 53), .bin .sub .i64 (.t 51) (.t 52)⟩,
    ⟨none, (some 54), .mov (.t 2)⟩,
    ⟨none, (some 55), .mov (.t 10)⟩,
    ⟨none, (some 56), .mov (.t 4)⟩,
    ⟨none, (some 57), .call 132 [(.t 50), (.t 53), (.t 54), (.t 55), (.t 56)]⟩])))
theorem e123 : erase Try.prog h123 (codeOf Try.f123) = c123 := by kernel_rfl
theorem g123 {T : Tab} (hP : TabOK Try.prog T) {ag : List Arg} {R : Res} {xs : List Row} (hT : T.base = nrows ag) (hl : ag.length ≤ 58) (hnt : noTake ag = true)
    (h : vc T c123 ⟨env0 0 0 ag, rows0 0 ag⟩ (fin T [] ag R xs) (fun _ _ => False) (fin T [] ag R xs)) : GCall Try.prog 123 ag R xs :=
  gcall_of_vc (H := h123) Try.func123 (fn := Try.f123) (code := codeOf Try.f123) (by kernel_rfl) e123 (by kernel_rfl) (rvs := []) (by kernel_rfl) (by kernel_rfl) hP hT (by rw [show Try.f123.ntmps = 58 by kernel_rfl]; exact hl) hnt h

def h104 : Hint := ⟨53, fun n => lk [(0, [0, 1, 2, 3, 8]), (1, [0, 1, 2, 3, 8, 14]), (2, [0, 1, 2, 3, 8]), (3, [0, 1, 2, 3, 8, 9]), (4, [0, 1, 2, 3, 8, 9, 34]), (5, [0, 1, 2, 3, 8, 9]), (6, [0, 1, 2, 3, 8, 9])] n, fun n => mem [] n, fun n => mem [] n, fun n => lkd [(4, [(0, .p), (1, .p), (2, .p), (3, .p), (4, .p), (5, .p), (6, .p), (7, .p), (9, .p), (10, .p), (11, .p), (12, .p), (8, .r), (13, .r), (14, .g), (15, .p), (16, .p)]), (6, [(0, .p), (1, .p), (2, .p), (3, .p), (4, .p), (5, .p), (6, .p), (7, .p), (8, .p), (10, .p), (11, .p), (12, .p), (9, .r), (13, .r), (14, .p), (15, .g), (16, .p), (17, .g)])] n⟩
def c104 : CC :=
  .seq (
    .reg [0, 1, 2, 3, 8] [
      ⟨none, (some 10), .mov (.t 1)⟩,
      ⟨none, (some 11), .bin .add .i64 (.t 10) (.c (Go.Value.int Go.IntKind.i64 1))⟩,
      ⟨none, (some 8), .mov (.t 11)⟩]) (
  .block 0 (
    .loop (
      .seq (
        .seq (
          .reg [0, 1, 2, 3, 8, 14] [
            ⟨none, (some 12), .mov (.t 8)⟩,
            ⟨none, (some 13), .mov (.t 2)⟩,
            ⟨none, (some 14), .bin .lss .i64 (.t 12) (.t 13)⟩]) (
        .cond (.t 14) (
          .skip) (
          .exit 0))) (
      .seq (
        .block 1 (
          .seq (
            .reg [0, 1, 2, 3, 8, 9] [
              ⟨none, (some 17), .mov (.t 8)⟩,
              ⟨none, (some 9), .mov (.t 17)⟩]) (
          .block 2 (
            .loop (
              .seq (
                .seq (
                  .reg [0, 1, 2, 3, 8, 9, 34] [
                    ⟨none, (some 18), .mov (.t 9)⟩,
                    ⟨none, (some 19), .mov (.t 1)⟩,
                    ⟨none, (some 20), .bin .gtr .i64 (.t 18) (.t 19)⟩,
                    ⟨none, (some 21), .mov (.t 20)⟩,
                    ⟨(some (21, true)), (some 22), .mov (.t 3)⟩,
                    ⟨(some (21, true)), (some 23), .mov (.t 0)⟩,
                    ⟨(some (21, true)), (some 24), .mov (.t 9)⟩,
                    ⟨(some (21, true)), (some 25), .iaddr 1 (.t 23) (.t 24)⟩,
                    ⟨(some (21, true)), (some 27), .mov (.t 0)⟩,
                    ⟨(some (21, true)), (some 28), .mov (.t 9)⟩,
                    ⟨(some (21, true)), (some 29), .bin .sub .i64 (.t 28) (.c (Go.Value.int Go.IntKind.i64 1))⟩,
                    ⟨(some (21, true)), (some 30), .iaddr 1 (.t 27) (.t 29)⟩,
                    ⟨(some (21, true)), (some 26), .load none (.t 25)⟩,
                    ⟨(some (21, true)), (some 31), .load none (.t 30)⟩,
                    ⟨(some (21, true)), (some 32), .callv (.t 22) [(.t 26), (.t 31)]⟩,
                    ⟨(some (21, true)), (some 33), .bin .lss .i64 (.t 32) (.c (Go.Value.int Go.IntKind.i64 0))⟩,
                    ⟨none, (some 34), .pick (.t 21) (.t 33) (.c (Go.Value.bool false))⟩]) (
                .cond (.t 34) (
                  .skip) (
                  .exit 2))) (
              .seq (
                .block 3 (
                  .reg [0, 1, 2, 3, 8, 9] [
                    ⟨none, (some 37), .mov (.t 0)⟩,
                    ⟨none, (some 38), .mov (.t 9)⟩,
                    ⟨none, (some 39), .mov (.t 0)⟩,
                    ⟨none, (some 40), .mov (.t 9)⟩,
                    ⟨none, (some 41), .bin .sub .i64 (.t 40) (.c (Go.Value.int Go.IntKind.i64 1))⟩,
                    ⟨none, (some 42), .mov (.t 0)⟩,
                    ⟨none, (some 43), .mov (.t 9)⟩,
                    ⟨none, (some 44), .bin .sub .i64 (.t 43) (.c (Go.Value.int Go.IntKind.i64 1))⟩,
                    ⟨none, (some 45), .iaddr 1 (.t 42) (.t 44)⟩,
                    ⟨none, (some 47), .mov (.t 0)⟩,
                    ⟨none, (some 48), .mov (.t 9)⟩,
                    ⟨none, (some 49), .iaddr 1 (.t 47) (.t 48)⟩,
                    ⟨none, (some 46), .load none (.t 45)⟩,
                    ⟨none, (some 50), .load none (.t 49)⟩,
                    ⟨none, (some 51), .iaddr 1 (.t 37) (.t 38)⟩,
                    ⟨none, none, .store 1 (.t 51) (.t 46)⟩,
                    ⟨none, (some 52), .iaddr 1 (.t 39) (.t 41)⟩,
                    ⟨none, none, .store 1 (.t 52) (.t 50)⟩])) (
              .reg [0, 1, 2, 3, 8, 9] [
                ⟨none, (some 35), .mov (.t 9)⟩,
                ⟨none, (some 36), .bin .sub .i64 (.t 35) (.c (Go.Value.int Go.IntKind.i64 1))⟩,
                ⟨none, (some 9), .mov (.t 36)⟩]))))))) (
      .reg [0, 1, 2, 3, 8] [
        ⟨none, (some 15), .mov (.t 8)⟩,
        ⟨none, (some 16), .bin .add .i64 (.t 15) (.c (Go.Value.int Go.IntKind.i64 1))⟩,
        ⟨none, (some 8), .mov (.t 16)⟩])))))
theorem e104 : erase Try.prog h104 (codeOf Try.f104) = c104 := by kernel_rfl
theorem g104 {T : Tab} (hP : TabOK Try.prog T) {ag : List Arg} {R : Res} {xs : List Row} (hT : T.base = nrows ag) (hl : ag.length ≤ 53) (hnt : noTake ag = true)
    (h : vc T c104 ⟨env0 0 0 ag, rows0 0 ag⟩ (fin T [] ag R xs) (fun _ _ => False) (fin T [] ag R xs)) : GCall Try.prog 104 ag R xs :=
  gcall_of_vc (H := h104) Try.func104 (fn := Try.f104) (code := codeOf Try.f104) (by kernel_rfl) e104 (by kernel_rfl) (rvs := []) (by kernel_rfl) (by kernel_rfl) hP hT (by rw [show Try.f104.ntmps = 53 by kernel_rfl]; exact hl) hnt h

def h105 : Hint := ⟨220, fun n => lk [(0, [0, 1, 2, 3, 4, 28]), (1, [0, 1, 3, 4, 10]), (2, [0, 1, 4, 10, 11]), (3, [0, 1, 4, 10, 11, 33]), (4, [0, 1, 4, 10, 11, 12]), (5, [0, 1, 4, 10, 11, 12, 50]), (6, [0, 1, 4, 10, 11]), (7, [0, 1, 4, 10, 11]), (8, [0, 10, 13]), (9, [0, 10, 13, 58]), (10, [0, 10, 13]), (11, [0, 10, 13]), (12, [0, 1, 2, 3, 4, 80]), (13, [0, 2, 4, 14]), (14, [0, 2, 4, 14, 15]), (15, [0, 2, 4, 14, 15, 85]), (16, [0, 2, 4, 14, 15, 16]), (17, [0, 2, 4, 14, 15, 16, 103]), (18, [0, 2, 4, 14, 15]), (19, [0, 2, 4, 14, 15]), (20, [0, 14, 17]), (21, [0, 14, 17, 110]), (22, [0, 14, 17]), (23, [0, 14, 17]), (24, [0, 1, 2, 3, 4, 18]), (25, [0, 1, 2, 3, 4, 18, 19]), (26, [0, 1, 2, 3, 4, 18, 19]), (27, [0, 1, 2, 3, 4, 18, 19, 140]), (28, [0, 1, 2, 3, 4, 18, 19, 20]), (29, [0, 1, 2, 3, 4, 18, 19, 20, 21]), (30, [0, 1, 2, 3, 4, 18, 19, 20]), (31, [0, 1, 2, 3, 4, 18, 19, 20, 21]), (32, [0, 1, 2, 3, 4, 18, 19, 20, 21, 22]), (33, [0, 1, 2, 3, 4, 18, 19, 20, 21, 22, 151]), (34, [0, 1, 2, 3, 4, 18, 19, 20, 21, 22, 23]), (35, [0, 1, 2, 3, 4, 18, 19, 20, 21, 22, 23, 171]), (36, [0, 1, 2, 3, 4, 18, 19, 20, 21, 22]), (37, [0, 1, 2, 3, 4, 18, 19, 20, 21, 22]), (38, [0, 1, 2, 3, 4, 18, 20, 24]), (39, [0, 1, 2, 3, 4, 18, 20, 24, 185]), (40, [0, 1, 3, 4, 18, 20, 24]), (41, [0, 1, 3, 4, 18, 20, 24, 199]), (42, [0, 3, 4, 18, 24]), (43, [0, 3, 4, 18, 24, 213]), (44, [])] n, fun n => mem [] n, fun n => mem [32, 41, 43] n, fun n => lkd [(5, [(0, .p), (1, .p), (2, .p), (3, .p), (5, .p), (6, .p), (7, .p), (4, .r), (8, .r), (9, .g), (10, .p)]), (11, [(0, .p), (1, .p), (2, .p), (3, .p), (4, .p), (5, .p), (6, .p), (7, .p), (8, .p), (10, .p), (11, .p), (12, .p), (9, .r), (13, .r), (14, .p), (15, .g), (16, .p), (17, .g)]), (17, [(0, .p), (1, .p), (2, .p), (3, .p), (5, .p), (6, .p), (7, .p), (4, .r), (8, .r), (9, .g), (10, .p), (11, .p)]), (23, [(0, .p), (1, .p), (2, .p), (3, .p), (4, .p), (5, .p), (6, .p), (7, .p), (8, .p), (10, .p), (11, .p), (12, .p), (9, .r), (13, .r), (14, .p), (15, .g), (16, .p), (17, .g)]), (35, [(0, .p), (1, .p), (2, .p), (3, .p), (4, .p), (5, .p), (7, .p), (8, .p), (9, .p), (6, .r), (10, .r), (11, .g), (12, .p), (13, .p)])] n⟩
def c105 : CC :=
  .seq (
    .seq (
      .reg [0, 1, 2, 3, 4, 28] [
        ⟨none, (some 25), .mov (.t 2)⟩,
        ⟨none, (some 26), .mov (.t 1)⟩,
        ⟨none, (some 27), .bin .sub .i64 (.t 25) (.t 26)⟩,
        ⟨none, (some 28), .bin .eql .i64 (.t 27) (.c (Go.Value.int Go.IntKind.i64 1))⟩]) (
    .cond (.t 28) (
      .seq (
        .reg [0, 1, 3, 4, 10] [
          ⟨none, (some 29), .mov (.t 2)⟩,
          ⟨none, (some 10), .mov (.t 29)⟩]) (
      .seq (
        .reg [0, 1, 4, 10, 11] [
          ⟨none, (some 30), .mov (.t 3)⟩,
          ⟨none, (some 11), .mov (.t 30)⟩]) (
      .seq (
        .block 0 (
          .loop (
            .seq (
              .seq (
                .reg [0, 1, 4, 10, 11, 33] [
                  ⟨none, (some 31), .mov (.t 10)⟩,
                  ⟨none, (some 32), .mov (.t 11)⟩,
                  ⟨none, (some 33), .bin .lss .i64 (.t 31) (.t 32)⟩]) (
              .cond (.t 33) (
                .skip) (
                .exit 0))) (
            .block 1 (
              .seq (
                .reg [0, 1, 4, 10, 11, 12] [
                  ⟨none, (some 34), .mov (.t 10)⟩,
                  ⟨none, (some 35), .mov (.t 11)⟩,
                  ⟨none, (some 36), .bin .add .i64 (.t 34) (.t 35)⟩,
                  ⟨none, (some 37), .conv .u64 (.t 36)⟩,
                  ⟨none, (some 38), .bin .shr .u64 (.t 37) (.c (Go.Value.int Go.IntKind.u64 1))⟩,
                  ⟨none, (some 39), .conv .i64 (.t 38)⟩,
                  ⟨none, (some 12), .mov (.t 39)⟩]) (
              .seq (
                .reg [0, 1, 4, 10, 11, 12, 50] [
                  ⟨none, (some 40), .mov (.t 4)⟩,
                  ⟨none, (some 41), .mov (.t 0)⟩,
                  ⟨none, (some 42), .mov (.t 12)⟩,
                  ⟨none, (some 43), .iaddr 1 (.t 41) (.t 42)⟩,
                  ⟨none, (some 45), .mov (.t 0)⟩,
                  ⟨none, (some 46), .mov (.t 1)⟩,
                  ⟨none, (some 47), .iaddr 1 (.t 45) (.t 46)⟩,
                  ⟨none, (some 44), .load none (.t 43)⟩,
                  ⟨none, (some 48), .load none (.t 47)⟩,
                  ⟨none, (some 49), .callv (.t 40) [(.t 44), (.t 48)]⟩,
                  ⟨none, (some 50), .bin .lss .i64 (.t 49) (.c (Go.Value.int Go.IntKind.i64 0))⟩]) (
              .cond (.t 50) (
                .reg [0, 1, 4, 10, 11] [
                  ⟨none, (some 51), .mov (.t 12)⟩,
                  ⟨none, (some 52), .bin .add .i64 (.t 51) (.c (Go.Value.int Go.IntKind.i64 1))⟩,
                  ⟨none, (some 10), .mov (.t 52)⟩]) (
                .reg [0, 1, 4, 10, 11] [
                  ⟨none, (some 53), .mov (.t 12)⟩,
                  ⟨none, (some 11), .mov (.t 53)⟩])))))))) (
      .seq (
        .seq (
          .reg [0, 10, 13] [
            ⟨none, (some 54), .mov (.t 1)⟩,
            ⟨none, (some 13), .mov (.t 54)⟩]) (
        .block 2 (
          .loop (
            .seq (
              .seq (
                .reg [0, 10, 13, 58] [
                  ⟨none, (some 55), .mov (.t 13)⟩,
                  ⟨none, (some 56), .mov (.t 10)⟩,
                  ⟨none, (some 57), .bin .sub .i64 (.t 56) (.c (Go.Value.int Go.IntKind.i64 1))⟩,
                  ⟨none, (some 58), .bin .lss .i64 (.t 55) (.t 57)⟩]) (
              .cond (.t 58) (
                .skip) (
                .exit 2))) (
            .seq (
              .block 3 (
                .reg [0, 10, 13] [
                  ⟨none, (some 61), .mov (.t 0)⟩,
                  ⟨none, (some 62), .mov (.t 13)⟩,
                  ⟨none, (some 63), .mov (.t 0)⟩,
                  ⟨none, (some 64), .mov (.t 13)⟩,
                  ⟨none, (some 65), .bin .add .i64 (.t 64) (.c (Go.Value.int Go.IntKind.i64 1))⟩,
                  ⟨none, (some 66), .mov (.t 0)⟩,
                  ⟨none, (some 67), .mov (.t 13)⟩,
                  ⟨none, (some 68), .bin .add .i64 (.t 67) (.c (Go.Value.int Go.IntKind.i64 1))⟩,
                  ⟨none, (some 69), .iaddr 1 (.t 66) (.t 68)⟩,
                  ⟨none, (some 71), .mov (.t 0)⟩,
                  ⟨none, (some 72), .mov (.t 13)⟩,
                  ⟨none, (some 73), .iaddr 1 (.t 71) (.t 72)⟩,
                  ⟨none, (some 70), .load none (.t 69)⟩,
                  ⟨none, (some 74), .load none (.t 73)⟩,
                  ⟨none, (some 75), .iaddr 1 (.t 61) (.t 62)⟩,
                  ⟨none, none, .store 1 (.t 75) (.t 70)⟩,
                  ⟨none, (some 76), .iaddr 1 (.t 63) (.t 65)⟩,
                  ⟨none, none, .store 1 (.t 76) (.t 74)⟩])) (
            .reg [0, 10, 13] [
              ⟨none, (some 59), .mov (.t 13)⟩,
              ⟨none, (some 60), .bin .add .i64 (.t 59) (.c (Go.Value.int Go.IntKind.i64 1))⟩,
              ⟨none, (some 13), .mov (.t 60)⟩])))))) (
      .ret))))) (
      .skip))) (
  .seq (
    .seq (
      .reg [0, 1, 2, 3, 4, 80] [
        ⟨none, (some 77), .mov (.t 3)⟩,
        ⟨none, (some 78), .mov (.t 2)⟩,
        ⟨none, (some 79), .bin .sub .i64 (.t 77) (.t 78)⟩,
        ⟨none, (some 80), .bin .eql .i64 (.t 79) (.c (Go.Value.int Go.IntKind.i64 1))⟩]) (
    .cond (.t 80) (
      .seq (
        .reg [0, 2, 4, 14] [
          ⟨none, (some 81), .mov (.t 1)⟩,
          ⟨none, (some 14), .mov (.t 81)⟩]) (
      .seq (
        .reg [0, 2, 4, 14, 15] [
          ⟨none, (some 82), .mov (.t 2)⟩,
          ⟨none, (some 15), .mov (.t 82)⟩]) (
      .seq (
        .block 4 (
          .loop (
            .seq (
              .seq (
                .reg [0, 2, 4, 14, 15, 85] [
                  ⟨none, (some 83), .mov (.t 14)⟩,
                  ⟨none, (some 84), .mov (.t 15)⟩,
                  ⟨none, (some 85), .bin .lss .i64 (.t 83) (.t 84)⟩]) (
              .cond (.t 85) (
                .skip) (
                .exit 4))) (
            .block 5 (
              .seq (
                .reg [0, 2, 4, 14, 15, 16] [
                  ⟨none, (some 86), .mov (.t 14)⟩,
                  ⟨none, (some 87), .mov (.t 15)⟩,
                  ⟨none, (some 88), .bin .add .i64 (.t 86) (.t 87)⟩,
                  ⟨none, (some 89), .conv .u64 (.t 88)⟩,
                  ⟨none, (some 90), .bin .shr .u64 (.t 89) (.c (Go.Value.int Go.IntKind.u64 1))⟩,
                  ⟨none, (some 91), .conv .i64 (.t 90)⟩,
                  ⟨none, (some 16), .mov (.t 91)⟩]) (
              .seq (
                .reg [0, 2, 4, 14, 15, 16, 103] [
                  ⟨none, (some 92), .mov (.t 4)⟩,
                  ⟨none, (some 93), .mov (.t 0)⟩,
                  ⟨none, (some 94), .mov (.t 2)⟩,
                  ⟨none, (some 95), .iaddr 1 (.t 93) (.t 94)⟩,
                  ⟨none, (some 97), .mov (.t 0)⟩,
                  ⟨none, (some 98), .mov (.t 16)⟩,
                  ⟨none, (some 99), .iaddr 1 (.t 97) (.t 98)⟩,
                  ⟨none, (some 96), .load none (.t 95)⟩,
                  ⟨none, (some 100), .load none (.t 99)⟩,
                  ⟨none, (some 101), .callv (.t 92) [(.t 96), (.t 100)]⟩,
                  ⟨none, (some 102), .bin .lss .i64 (.t 101) (.c (Go.Value.int Go.IntKind.i64 0))⟩,
                  ⟨none, (some 103), .not (.t 102)⟩]) (
              .cond (.t 103) (
                .reg [0, 2, 4, 14, 15] [
                  ⟨none, (some 104), .mov (.t 16)⟩,
                  ⟨none, (some 105), .bin .add .i64 (.t 104) (.c (Go.Value.int Go.IntKind.i64 1))⟩,
                  ⟨none, (some 14), .mov (.t 105)⟩]) (
                .reg [0, 2, 4, 14, 15] [
                  ⟨none, (some 106), .mov (.t 16)⟩,
                  ⟨none, (some 15), .mov (.t 106)⟩])))))))) (
      .seq (
        .seq (
          .reg [0, 14, 17] [
            ⟨none, (some 107), .mov (.t 2)⟩,
            ⟨none, (some 17), .mov (.t 107)⟩]) (
        .block 6 (
          .loop (
            .seq (
              .seq (
                .reg [0, 14, 17, 110] [
                  ⟨none, (some 108), .mov (.t 17)⟩,
                  ⟨none, (some 109), .mov (.t 14)⟩,
                  ⟨none, (some 110), .bin .gtr .i64 (.t 108) (.t 109)⟩]) (
              .cond (.t 110) (
                .skip) (
                .exit 6))) (
            .seq (
              .block 7 (
                .reg [0, 14, 17] [
                  ⟨none, (some 113), .mov (.t 0)⟩,
                  ⟨none, (some 114), .mov (.t 17)⟩,
                  ⟨none, (some 115), .mov (.t 0)⟩,
                  ⟨none, (some 116), .mov (.t 17)⟩,
                  ⟨none, (some 117), .bin .sub .i64 (.t 116) (.c (Go.Value.int Go.IntKind.i64 1))⟩,
                  ⟨none, (some 118), .mov (.t 0)⟩,
                  ⟨none, (some 119), .mov (.t 17)⟩,
                  ⟨none, (some 120), .bin .sub .i64 (.t 119) (.c (Go.Value.int Go.IntKind.i64 1))⟩,
                  ⟨none, (some 121), .iaddr 1 (.t 118) (.t 120)⟩,
                  ⟨none, (some 123), .mov (.t 0)⟩,
                  ⟨none, (some 124), .mov (.t 17)⟩,
                  ⟨none, (some 125), .iaddr 1 (.t 123) (.t 124)⟩,
                  ⟨none, (some 122), .load none (.t 121)⟩,
                  ⟨none, (some 126), .load none (.t 125)⟩,
                  ⟨none, (some 127), .iaddr 1 (.t 113) (.t 114)⟩,
                  ⟨none, none, .store 1 (.t 127) (.t 122)⟩,
                  ⟨none, (some 128), .iaddr 1 (.t 115) (.t 117)⟩,
                  ⟨none, none, .store 1 (.t 128) (.t 126)⟩])) (
            .reg [0, 14, 17] [
              ⟨none, (some 111), .mov (.t 17)⟩,
              ⟨none, (some 112), .bin .sub .i64 (.t 111) (.c (Go.Value.int Go.IntKind.i64 1))⟩,
              ⟨none, (some 17), .mov (.t 112)⟩])))))) (
      .ret))))) (
      .skip))) (
  .seq (
    .reg [0, 1, 2, 3, 4, 18] [
      ⟨none, (some 129), .mov (.t 1)⟩,
      ⟨none, (some 130), .mov (.t 3)⟩,
      ⟨none, (some 131), .bin .add .i64 (.t 129) (.t 130)⟩,
      ⟨none, (some 132), .conv .u64 (.t 131)⟩,
      ⟨none, (some 133), .bin .shr .u64 (.t 132) (.c (Go.Value.int Go.IntKind.u64 1))⟩,
      ⟨none, (some 134), .conv .i64 (.t 133)⟩,
      ⟨none, (some 18), .mov (.t 134)⟩]) (
  .seq (
    .reg [0, 1, 2, 3, 4, 18, 19] [
      ⟨none, (some 135), .mov (.t 18)⟩,
      ⟨none, (some 136), .mov (.t 2)⟩,
      ⟨none, (some 137), .bin .add .i64 (.t 135) (.t 136)⟩,
      ⟨none, (some 19), .mov (.t 137)⟩]) (
  .seq (
    .reg [0, 1, 2, 3, 4, 18, 19] [
      ⟨none, (some 20), .mov (.c (Go.Value.int Go.IntKind.i64 0))⟩,
      ⟨none, (some 21), .mov (.c (Go.Value.int Go.IntKind.i64 0))⟩]) (
  .cut (
    .seq (
      .reg [0, 1, 2, 3, 4, 18, 19, 140] [
        ⟨none, (some 138), .mov (.t 2)⟩,
        ⟨none, (some 139), .mov (.t 18)⟩,
        ⟨none, (some 140), .bin .gtr .i64 (.t 138) (.t 139)⟩]) (
    .cond (.t 140) (
      .seq (
        .reg [0, 1, 2, 3, 4, 18, 19, 20] [
          ⟨none, (some 141), .mov (.t 19)⟩,
          ⟨none, (some 142), .mov (.t 3)⟩,
          ⟨none, (some 143), .bin .sub .i64 (.t 141) (.t 142)⟩,
          ⟨none, (some 20), .mov (.t 143)⟩]) (
      .reg [0, 1, 2, 3, 4, 18, 19, 20, 21] [
        ⟨none, (some 144), .mov (.t 18)⟩,
        ⟨none, (some 21), .mov (.t 144)⟩])) (
      .seq (
        .reg [0, 1, 2, 3, 4, 18, 19, 20] [
          ⟨none, (some 145), .mov (.t 1)⟩,
          ⟨none, (some 20), .mov (.t 145)⟩]) (
      .reg [0, 1, 2, 3, 4, 18, 19, 20, 21] [
        ⟨none, (some 146), .mov (.t 2)⟩,
        ⟨none, (some 21), .mov (.t 146)⟩])))) (
  .seq (
    .reg [0, 1, 2, 3, 4, 18, 19, 20, 21, 22] [
      ⟨none, (some 147), .mov (.t 19)⟩,
      ⟨none, (some 148), .bin .sub .i64 (.t 147) (.c (Go.Value.int Go.IntKind.i64 1))⟩,
      ⟨none, (some 22), .mov (.t 148)⟩]) (
  .seq (
    .block 8 (
      .loop (
        .seq (
          .seq (
            .reg [0, 1, 2, 3, 4, 18, 19, 20, 21, 22, 151] [
              ⟨none, (some 149), .mov (.t 20)⟩,
              ⟨none, (some 150), .mov (.t 21)⟩,
              ⟨none, (some 151), .bin .lss .i64 (.t 149) (.t 150)⟩]) (
          .cond (.t 151) (
            .skip) (
            .exit 8))) (
        .block 9 (
          .seq (
            .reg [0, 1, 2, 3, 4, 18, 19, 20, 21, 22, 23] [
              ⟨none, (some 152), .mov (.t 20)⟩,
              ⟨none, (some 153), .mov (.t 21)⟩,
              ⟨none, (some 154), .bin .add .i64 (.t 152) (.t 153)⟩,
              ⟨none, (some 155), .conv .u64 (.t 154)⟩,
              ⟨none, (some 156), .bin .shr .u64 (.t 155) (.c (Go.Value.int Go.IntKind.u64 1))⟩,
              ⟨none, (some 157), .conv .i64 (.t 156)⟩,
              ⟨none, (some 23), .mov (.t 157)⟩]) (
          .seq (
            .reg [0, 1, 2, 3, 4, 18, 19, 20, 21, 22, 23, 171] [
              ⟨none, (some 158), .mov (.t 4)⟩,
              ⟨none, (some 159), .mov (.t 0)⟩,
              ⟨none, (some 160), .mov (.t 22)⟩,
              ⟨none, (some 161), .mov (.t 23)⟩,
              ⟨none, (some 162), .bin .sub .i64 (.t 160) (.t 161)⟩,
              ⟨none, (some 163), .iaddr 1 (.t 159) (.t 162)⟩,
              ⟨none, (some 165), .mov (.t 0)⟩,
              ⟨none, (some 166), .mov (.t 23)⟩,
              ⟨none, (some 167), .iaddr 1 (.t 165) (.t 166)⟩,
              ⟨none, (some 164), .load none (.t 163)⟩,
              ⟨none, (some 168), .load none (.t 167)⟩,
              ⟨none, (some 169), .callv (.t 158) [(.t 164), (.t 168)]⟩,
              ⟨none, (some 170), .bin .lss .i64 (.t 169) (.c (Go.Value.int Go.IntKind.i64 0))⟩,
              ⟨none, (some 171), .not (.t 170)⟩]) (
          .cond (.t 171) (
            .reg [0, 1, 2, 3, 4, 18, 19, 20, 21, 22] [
              ⟨none, (some 172), .mov (.t 23)⟩,
              ⟨none, (some 173), .bin .add .i64 (.t 172) (.c (Go.Value.int Go.IntKind.i64 1))⟩,
              ⟨none, (some 20), .mov (.t 173)⟩]) (
            .reg [0, 1, 2, 3, 4, 18, 19, 20, 21, 22] [
              ⟨none, (some 174), .mov (.t 23)⟩,
              ⟨none, (some 21), .mov (.t 174)⟩])))))))) (
  .seq (
    .reg [0, 1, 2, 3, 4, 18, 20, 24] [
      ⟨none, (some 175), .mov (.t 19)⟩,
      ⟨none, (some 176), .mov (.t 20)⟩,
      ⟨none, (some 177), .bin .sub .i64 (.t 175) (.t 176)⟩,
      ⟨none, (some 24), .mov (.t 177)⟩]) (
  .cut (
    .seq (
      .reg [0, 1, 2, 3, 4, 18, 20, 24, 185] [
        ⟨none, (some 178), .mov (.t 20)⟩,
        ⟨none, (some 179), .mov (.t 2)⟩,
        ⟨none, (some 180), .bin .lss .i64 (.t 178) (.t 179)⟩,
        ⟨none, (some 181), .mov (.t 180)⟩,
        ⟨(some (181, true)), (some 182), .mov (.t 2)⟩,
        ⟨(some (181, true)), (some 183), .mov (.t 24)⟩,
        ⟨(some (181, true)), (some 184), .bin .lss .i64 (.t 182) (.t 183)⟩,
        ⟨none, (some 185), .pick (.t 181) (.t 184) (.c (Go.Value.bool false))⟩]) (
    .cond (.t 185) (
      .reg [0, 1, 3, 4, 18, 20, 24] [
        ⟨none, (some 186), .mov (.t 0)⟩,
        ⟨none, (some 187), .mov (.t 20)⟩,
        ⟨none, (some 188), .mov (.t 2)⟩,
        ⟨none, (some 189), .mov (.t 24)⟩,
        ⟨none, (some 190), .mov (.t 4)⟩,
        ⟨none, (some 191), .call 123 [(.t 186), (.t 187), (.t 188), (.t 189), (.t 190)]⟩]) (
      .skip))) (
  .cut (
    .seq (
      .reg [0, 1, 3, 4, 18, 20, 24, 199] [
        ⟨none, (some 192), .mov (.t 1)⟩,
        ⟨none, (some 193), .mov (.t 20)⟩,
        ⟨none, (some 194), .bin .lss .i64 (.t 192) (.t 193)⟩,
        ⟨none, (some 195), .mov (.t 194)⟩,
        ⟨(some (195, true)), (some 196), .mov (.t 20)⟩,
        ⟨(some (195, true)), (some 197), .mov (.t 18)⟩,
        ⟨(some (195, true)), (some 198), .bin .lss .i64 (.t 196) (.t 197)⟩,
        ⟨none, (some 199), .pick (.t 195) (.t 198) (.c (Go.Value.bool false))⟩]) (
    .cond (.t 199) (
      .reg [0, 3, 4, 18, 24] [
        ⟨none, (some 200), .mov (.t 0)⟩,
        ⟨none, (some 201), .mov (.t 1)⟩,
        ⟨none, (some 202), .mov (.t 20)⟩,
        ⟨none, (some 203), .mov (.t 18)⟩,
        ⟨none, (some 204), .mov (.t 4)⟩,
        ⟨none, (some 205), .call 105 [(.t 200), (.t 201), (.t 202), (.t 203), (.t 204)]⟩]) (
      .skip))) (
  .seq (
    .reg [0, 3, 4, 18, 24, 213] [
      ⟨none, (some 206), .mov (.t 18)⟩,
      ⟨none, (some 207), .mov (.t 24)⟩,
      ⟨none, (some 208), .bin .lss .i64 (.t 206) (.t 207)⟩,
      ⟨none, (some 209), .mov (.t 208)⟩,
      ⟨(some (209, true)), (some 210), .mov (.t 24)⟩,
      ⟨(some (209, true)), (some 211), .mov (.t 3)⟩,
      ⟨(some (209, true)), (some 212), .bin .lss .i64 (.t 210) (.t 211)⟩,
      ⟨none, (some 213), .pick (.t 209) (.t 212) (.c (Go.Value.bool false))⟩]) (
  .cond (.t 213) (
    .reg [] [
      ⟨none, (some 214), .mov (.t 0)⟩,
      ⟨none, (some 215), .mov (.t 18)⟩,
      ⟨none, (some 216), .mov (.t 24)⟩,
      ⟨none, (some 217), .mov (.t 3)⟩,
      ⟨none, (some 218), .mov (.t 4)⟩,
      ⟨none, (some 219), .call 105 [(.t 214), (.t 215), (.t 216), (.t 217), (.t 218)]⟩]) (
    .skip)))))))))))))
theorem e105 : erase Try.prog h105 (codeOf Try.f105) = c105 := by kernel_rfl
theorem g105 {T : Tab} (hP : TabOK Try.prog T) {ag : List Arg} {R : Res} {xs : List Row} (hT : T.base = nrows ag) (hl : ag.length ≤ 220) (hnt : noTake ag = true)
    (h : vc T c105 ⟨env0 0 0 ag, rows0 0 ag⟩ (fin T [] ag R xs) (fun _ _ => False) (fin T [] ag R xs)) : GCall Try.prog 105 ag R xs :=
  gcall_of_vc (H := h105) Try.func105 (fn := Try.f105) (code := codeOf Try.f105) (by kernel_rfl) e105 (by kernel_rfl) (rvs := []) (by kernel_rfl) (by kernel_rfl) hP hT (by rw [show Try.f105.ntmps = 220 by kernel_rfl]; exact hl) hnt h

def h91 : Hint := ⟨63, fun n => lk [(0, [0, 1, 2, 6]), (1, [0, 1, 2, 6, 7, 8]), (2, [0, 1, 2, 6, 7, 8, 13]), (3, [0, 1, 2, 6, 8]), (4, [0, 1, 2, 6, 7, 8]), (5, [0, 1, 2, 6, 7, 8]), (6, [0, 1, 2, 6]), (7, [0, 1, 2, 6, 30]), (8, [0, 1, 2, 6, 7, 8]), (9, [0, 1, 2, 6, 7, 8, 35]), (10, [0, 1, 2, 6, 8]), (11, [0, 1, 2, 6, 7, 8]), (12, [0, 1, 2, 6, 7, 8]), (13, [0, 1, 2, 6, 7, 9]), (14, [0, 1, 2, 6, 7, 9, 54]), (15, [0, 1, 2, 6]), (16, [0, 1, 2, 6])] n, fun n => mem [] n, fun n => mem [] n, fun n => lkd [] n⟩
def c91 : CC :=
  .seq (
    .reg [0, 1, 2, 6] [
      ⟨none, (some 6), .mov (.c (Go.Value.int Go.IntKind.i64 20))⟩]) (
  .seq (
    .reg [0, 1, 2, 6, 7, 8] [
      ⟨none, (some 10), .mov (.t 6)⟩,
      ⟨none, (some 7), .mov (.c (Go.Value.int Go.IntKind.i64 0))⟩,
      ⟨none, (some 8), .mov (.t 10)⟩]) (
  .seq (
    .block 0 (
      .loop (
        .seq (
          .seq (
            .reg [0, 1, 2, 6, 7, 8, 13] [
              ⟨none, (some 11), .mov (.t 8)⟩,
              ⟨none, (some 12), .mov (.t 1)⟩,
              ⟨none, (some 13), .bin .leq .i64 (.t 11) (.t 12)⟩]) (
          .cond (.t 13) (
            .skip) (
            .exit 0))) (
        .block 1 (
          .seq (
            .reg [0, 1, 2, 6, 8] [
              ⟨none, (some 14), .mov (.t 0)⟩,
              ⟨none, (some 15), .mov (.t 7)⟩,
              ⟨none, (some 16), .mov (.t 8)⟩,
              ⟨none, (some 17), .mov (.t 2)⟩,
              ⟨none, (some 18), .call 104 [(.t 14), (.t 15), (.t 16), (.t 17)]⟩]) (
          .seq (
            .reg [0, 1, 2, 6, 7, 8] [
              ⟨none, (some 19), .mov (.t 8)⟩,
              ⟨none, (some 7), .mov (.t 19)⟩]) (
          .reg [0, 1, 2, 6, 7, 8] [
            ⟨none, (some 20), .mov (.t 8)⟩,
            ⟨none, (some 21), .mov (.t 6)⟩,
            ⟨none, (some 22), .bin .add .i64 (.t 20) (.t 21)⟩,
            ⟨none, (some 8), .mov (.t 22)⟩]))))))) (
  .seq (
    .reg [0, 1, 2, 6] [
      ⟨none, (some 23), .mov (.t 0)⟩,
      ⟨none, (some 24), .mov (.t 7)⟩,
      ⟨none, (some 25), .mov (.t 1)⟩,
      ⟨none, (some 26), .mov (.t 2)⟩,
      ⟨none, (some 27), .call 104 [(.t 23), (.t 24), (.t 25), (.t 26)]⟩]) (
  .block 2 (
    .loop (
      .seq (
        .seq (
          .reg [0, 1, 2, 6, 30] [
            ⟨none, (some 28), .mov (.t 6)⟩,
            ⟨none, (some 29), .mov (.t 1)⟩,
            ⟨none, (some 30), .bin .lss .i64 (.t 28) (.t 29)⟩]) (
        .cond (.t 30) (
          .skip) (
          .exit 2))) (
      .block 3 (
        .seq (
          .reg [0, 1, 2, 6, 7, 8] [
            ⟨none, (some 31), .mov (.t 6)⟩,
            ⟨none, (some 32), .bin .mul .i64 (.c (Go.Value.int Go.IntKind.i64 2)) (.t 31)⟩,
            ⟨none, (some 7), .mov (.c (Go.Value.int Go.IntKind.i64 0))⟩,
            ⟨none, (some 8), .mov (.t 32)⟩]) (
        .seq (
          .block 4 (
            .loop (
              .seq (
                .seq (
                  .reg [0, 1, 2, 6, 7, 8, 35] [
                    ⟨none, (some 33), .mov (.t 8)⟩,
                    ⟨none, (some 34), .mov (.t 1)⟩,
                    ⟨none, (some 35), .bin .leq .i64 (.t 33) (.t 34)⟩]) (
                .cond (.t 35) (
                  .skip) (
                  .exit 4))) (
              .block 5 (
                .seq (
                  .reg [0, 1, 2, 6, 8] [
                    ⟨none, (some 36), .mov (.t 0)⟩,
                    ⟨none, (some 37), .mov (.t 7)⟩,
                    ⟨none, (some 38), .mov (.t 7)⟩,
                    ⟨none, (some 39), .mov (.t 6)⟩,
                    ⟨none, (some 40), .bin .add .i64 (.t 38) (.t 39)⟩,
                    ⟨none, (some 41), .mov (.t 8)⟩,
                    ⟨none, (some 42), .mov (.t 2)⟩,
                    ⟨none, (some 43), .call 105 [(.t 36), (.t 37), (.t 40), (.t 41), (.t 42)]⟩]) (
                .seq (
                  .reg [0, 1, 2, 6, 7, 8] [
                    ⟨none, (some 44), .mov (.t 8)⟩,
                    ⟨none, (some 7), .mov (.t 44)⟩]) (
                .reg [0, 1, 2, 6, 7, 8] [
                  ⟨none, (some 45), .mov (.t 8)⟩,
                  ⟨none, (some 46), .mov (.t 6)⟩,
                  ⟨none, (some 47), .bin .mul .i64 (.c (Go.Value.int Go.IntKind.i64 2)) (.t 46)⟩,
                  ⟨none, (some 48), .bin .add .i64 (.t 45) (.t 47)⟩,
                  ⟨none, (some 8), .mov (.t 48)⟩]))))))) (
        .seq (
          .seq (
            .reg [0, 1, 2, 6, 7, 9] [
              ⟨none, (some 49), .mov (.t 7)⟩,
              ⟨none, (some 50), .mov (.t 6)⟩,
              ⟨none, (some 51), .bin .add .i64 (.t 49) (.t 50)⟩,
              ⟨none, (some 9), .mov (.t 51)⟩]) (
          .seq (
            .reg [0, 1, 2, 6, 7, 9, 54] [
              ⟨none, (some 52), .mov (.t 9)⟩,
              ⟨none, (some 53), .mov (.t 1)⟩,
              ⟨none, (some 54), .bin .lss .i64 (.t 52) (.t 53)⟩]) (
          .cond (.t 54) (
            .reg [0, 1, 2, 6] [
              ⟨none, (some 55), .mov (.t 0)⟩,
              ⟨none, (some 56), .mov (.t 7)⟩,
              ⟨none, (some 57), .mov (.t 9)⟩,
              ⟨none, (some 58), .mov (.t 1)⟩,
              ⟨none, (some 59), .mov (.t 2)⟩,
              ⟨none, (some 60), .call 105 [(.t 55), (.t 56), (.t 57), (.t 58), (.t 59)]⟩]) (
            .skip)))) (
        .reg [0, 1, 2, 6] [
          ⟨none, (some 61), .mov (.t 6)⟩,
          ⟨none, (some 62), .bin .mul .i64 (.t 61) (.c (Go.Value.int Go.IntKind.i64 2))⟩,
          ⟨none, (some 6), .mov (.t 62)⟩])))))))))))
theorem e91 : erase Try.prog h91 (codeOf Try.f91) = c91 := by kernel_rfl
theorem g91 {T : Tab} (hP : TabOK Try.prog T) {ag : List Arg} {R : Res} {xs : List Row} (hT : T.base = nrows ag) (hl : ag.length ≤ 63) (hnt : noTake ag = true)
    (h : vc T c91 ⟨env0 0 0 ag, rows0 0 ag⟩ (fin T [] ag R xs) (fun _ _ => False) (fin T [] ag R xs)) : GCall Try.prog 91 ag R xs :=
  gcall_of_vc (H := h91) Try.func91 (fn := Try.f91) (code := codeOf Try.f91) (by kernel_rfl) e91 (by kernel_rfl) (rvs := []) (by kernel_rfl) (by kernel_rfl) hP hT (by rw [show Try.f91.ntmps = 63 by kernel_rfl]; exact hl) hnt h

def h65 : Hint := ⟨9, fun n => lk [(0, [])] n, fun n => mem [] n, fun n => mem [] n, fun n => lkd [] n⟩
def c65 : CC :=
  .reg [] [
    ⟨none, (some 4), .mov (.t 0)⟩,
    ⟨none, (some 5), .mov (.t 0)⟩,
    ⟨none, (some 6), .len (.t 5)⟩,
    ⟨none, (some 7), .mov (.t 1)⟩,
    ⟨none, (some 8), .call 91 [(.t 4), (.t 6), (.t 7)]⟩]
theorem e65 : erase Try.prog h65 (codeOf Try.f65) = c65 := by kernel_rfl
theorem g65 {T : Tab} (hP : TabOK Try.prog T) {ag : List Arg} {R : Res} {xs : List Row} (hT : T.base = nrows ag) (hl : ag.length ≤ 9) (hnt : noTake ag = true)
    (h : vc T c65 ⟨env0 0 0 ag, rows0 0 ag⟩ (fin T [] ag R xs) (fun _ _ => False) (fin T [] ag R xs)) : GCall Try.prog 65 ag R xs :=
  gcall_of_vc (H := h65) Try.func65 (fn := Try.f65) (code := codeOf Try.f65) (by kernel_rfl) e65 (by kernel_rfl) (rvs := []) (by kernel_rfl) (by kernel_rfl) hP hT (by rw [show Try.f65.ntmps = 9 by kernel_rfl]; exact hl) hnt h

end Go.Eng
