/- The compact code of functions. -/
import Derived.Test.YtmbodncejejceaaCFam
set_option linter.all false

set_option maxRecDepth 100000
namespace Go.Eng
open Go.Proofs

def h34 : Hint := ⟨38, fun n => lk [(0, []), (1, [1, 2]), (2, [1, 2, 3, 4]), (3, [0])] n, fun n => mem [] n, fun n => mem [] n, fun n => lkd [] n⟩
def c34 : CC :=
  .seq (
    .reg [] [
      ⟨none, (some 0), .mov (.c (Go.Value.bool false))⟩]) (
  .seq (
    .reg [1, 2] [
      ⟨none, (some 6), .mks 78 4 48 [.int .i64 0, .int .i64 0, .int .i64 0, .slice none 0 0] (.c (Go.Value.int Go.IntKind.i64 1)) (.c (Go.Value.int Go.IntKind.i64 1))⟩,
      ⟨none, (some 7), .bsl 3 1 [(.c (Go.Value.int Go.IntKind.i64 0))]⟩,
      ⟨none, (some 8), .bsl 3 1 [(.c (Go.Value.int Go.IntKind.i64 0)), (.c (Go.Value.int Go.IntKind.i64 0))]⟩,
      ⟨none, (some 9), .call 30 [(.t 6), (.t 7), (.t 8)]⟩,
      ⟨none, (some 5), .mov (.t 9)⟩,
      ⟨none, (some 10), .ext (.t 5) 0⟩,
      ⟨none, (some 11), .ext (.t 5) 1⟩,
      ⟨none, (some 2), .alloc [.int .i64 0, .int .i64 0]⟩,
      ⟨none, (some 1), .mov (.t 10)⟩,
      ⟨none, none, .store 2 (.t 2) (.t 11)⟩]) (
  .seq (
    .reg [1, 2, 3, 4] [
      ⟨none, (some 13), .mks 78 4 48 [.int .i64 0, .int .i64 0, .int .i64 0, .slice none 0 0] (.c (Go.Value.int Go.IntKind.i64 1)) (.c (Go.Value.int Go.IntKind.i64 1))⟩,
      ⟨none, (some 14), .bsl 3 1 [(.c (Go.Value.int Go.IntKind.i64 0))]⟩,
      ⟨none, (some 15), .bsl 3 1 [(.c (Go.Value.int Go.IntKind.i64 1))]⟩,
      ⟨none, (some 16), .bsl 3 1 [(.c (Go.Value.int Go.IntKind.i64 3))]⟩,
      ⟨none, (some 17), .call 36 [(.t 13), (.t 14), (.t 15), (.t 16)]⟩,
      ⟨none, (some 12), .mov (.t 17)⟩,
      ⟨none, (some 18), .ext (.t 12) 0⟩,
      ⟨none, (some 19), .ext (.t 12) 1⟩,
      ⟨none, (some 4), .alloc [.int .i64 0, .int .i64 0]⟩,
      ⟨none, (some 3), .mov (.t 18)⟩,
      ⟨none, none, .store 2 (.t 4) (.t 19)⟩]) (
  .seq (
    .reg [0] [
      ⟨none, (some 20), .faddr 0 (.t 2)⟩,
      ⟨none, (some 21), .load none (.t 20)⟩,
      ⟨none, (some 22), .bin .eql .i64 (.t 21) (.c (Go.Value.int Go.IntKind.i64 0))⟩,
      ⟨none, (some 23), .mov (.t 22)⟩,
      ⟨(some (23, true)), (some 24), .faddr 0 (.t 4)⟩,
      ⟨(some (23, true)), (some 25), .load none (.t 24)⟩,
      ⟨(some (23, true)), (some 26), .bin .eql .i64 (.t 25) (.c (Go.Value.int Go.IntKind.i64 0))⟩,
      ⟨none, (some 27), .pick (.t 23) (.t 26) (.c (Go.Value.bool false))⟩,
      ⟨none, (some 28), .mov (.t 27)⟩,
      ⟨(some (28, true)), (some 29), .mov (.t 1)⟩,
      ⟨(some (28, true)), (some 30), .bsl 3 1 [(.c (Go.Value.int Go.IntKind.i64 1))]⟩,
      ⟨(some (28, true)), (some 31), .call 22 [(.t 29), (.t 30)]⟩,
      ⟨none, (some 32), .pick (.t 28) (.t 31) (.c (Go.Value.bool false))⟩,
      ⟨none, (some 33), .mov (.t 32)⟩,
      ⟨(some (33, true)), (some 34), .mov (.t 3)⟩,
      ⟨(some (33, true)), (some 35), .bsl 3 1 [(.c (Go.Value.int Go.IntKind.i64 3)), (.c (Go.Value.int Go.IntKind.i64 3))]⟩,
      ⟨(some (33, true)), (some 36), .call 22 [(.t 34), (.t 35)]⟩,
      ⟨none, (some 37), .pick (.t 33) (.t 36) (.c (Go.Value.bool false))⟩,
      ⟨none, (some 0), .mov (.t 37)⟩]) (
  .ret))))
theorem e34 : erase Try.prog h34 (codeOf Try.f34) = c34 := by kernel_rfl
theorem g34 {T : Tab} (hP : TabOK Try.prog T) {ag : List Arg} {R : Res} {xs : List Row} (hT : T.base = nrows ag) (hl : ag.length ≤ 38) (hnt : noTake ag = true)
    (h : vc T c34 ⟨env0 0 0 ag, rows0 0 ag⟩ (fin T [.tmp 0] ag R xs) (fun _ _ => False) (fin T [.tmp 0] ag R xs)) : GCall Try.prog 34 ag R xs :=
  gcall_of_vc (H := h34) Try.func34 (fn := Try.f34) (code := codeOf Try.f34) (by kernel_rfl) e34 (by kernel_rfl) (rvs := [.tmp 0]) (by kernel_rfl) (by kernel_rfl) hP hT (by rw [show Try.f34.ntmps = 38 by kernel_rfl]; exact hl) hnt h

def h8 : Hint := ⟨64, fun n => lk [(0, [0, 1, 2]), (1, [0, 1, 2, 7, 8]), (2, [0, 1, 2, 7, 8, 9]), (3, [0, 1, 2, 7, 8, 9, 22]), (4, [0, 1, 2, 7, 8, 9]), (5, [0, 1, 2, 7, 8, 9, 31]), (6, [6]), (7, [0, 1, 2, 7, 8, 47]), (8, [6]), (9, [6])] n, fun n => mem [] n, fun n => mem [] n, fun n => lkd [] n⟩
def c8 : CC :=
  .seq (
    .reg [0, 1, 2] [
      ⟨none, (some 6), .mov (.c (Go.Value.bool false))⟩]) (
  .seq (
    .reg [0, 1, 2, 7, 8] [
      ⟨none, (some 11), .mov (.t 0)⟩,
      ⟨none, (some 12), .mov (.t 1)⟩,
      ⟨none, (some 13), .mov (.t 2)⟩,
      ⟨none, (some 14), .call 30 [(.t 11), (.t 12), (.t 13)]⟩,
      ⟨none, (some 10), .mov (.t 14)⟩,
      ⟨none, (some 15), .ext (.t 10) 0⟩,
      ⟨none, (some 16), .ext (.t 10) 1⟩,
      ⟨none, (some 8), .alloc [.int .i64 0, .int .i64 0]⟩,
      ⟨none, (some 7), .mov (.t 15)⟩,
      ⟨none, none, .store 2 (.t 8) (.t 16)⟩]) (
  .seq (
    .reg [0, 1, 2, 7, 8, 9] [
      ⟨none, (some 17), .mov (.t 0)⟩,
      ⟨none, (some 18), .mov (.t 1)⟩,
      ⟨none, (some 19), .call 31 [(.t 17), (.t 18)]⟩,
      ⟨none, (some 9), .alloc [.int .i64 0, .int .i64 0]⟩,
      ⟨none, none, .store 2 (.t 9) (.t 19)⟩]) (
  .seq (
    .seq (
      .reg [0, 1, 2, 7, 8, 9, 22] [
        ⟨none, (some 20), .faddr 0 (.t 9)⟩,
        ⟨none, (some 21), .load none (.t 20)⟩,
        ⟨none, (some 22), .bin .eql .i64 (.t 21) (.c (Go.Value.int Go.IntKind.i64 0))⟩]) (
    .cond (.t 22) (
      .reg [0, 1, 2, 7, 8, 9] [
        ⟨none, (some 23), .mov (.t 2)⟩,
        ⟨none, (some 24), .mov (.t 0)⟩,
        ⟨none, (some 25), .mov (.t 1)⟩,
        ⟨none, (some 26), .call 33 [(.t 24), (.t 25)]⟩,
        ⟨none, (some 27), .len (.t 26)⟩,
        ⟨none, (some 28), .call 32 [(.t 23), (.t 27)]⟩,
        ⟨none, none, .store 2 (.t 9) (.t 28)⟩]) (
      .skip))) (
  .seq (
    .seq (
      .reg [0, 1, 2, 7, 8, 9, 31] [
        ⟨none, (some 29), .faddr 0 (.t 9)⟩,
        ⟨none, (some 30), .load none (.t 29)⟩,
        ⟨none, (some 31), .bin .neq .i64 (.t 30) (.c (Go.Value.int Go.IntKind.i64 0))⟩]) (
    .cond (.t 31) (
      .seq (
        .reg [6] [
          ⟨none, (some 32), .load (some 2) (.t 8)⟩,
          ⟨none, (some 33), .load (some 2) (.t 9)⟩,
          ⟨none, (some 34), .eqa false [(0, true), (1, true)] (.t 32) (.t 33)⟩,
          ⟨none, (some 35), .mov (.t 34)⟩,
          ⟨(some (35, true)), (some 36), .mov (.t 7)⟩,
          ⟨(some (35, true)), (some 37), .len (.t 36)⟩,
          ⟨(some (35, true)), (some 38), .bin .eql .i64 (.t 37) (.c (Go.Value.int Go.IntKind.i64 0))⟩,
          ⟨none, (some 39), .pick (.t 35) (.t 38) (.c (Go.Value.bool false))⟩,
          ⟨none, (some 40), .mov (.t 39)⟩,
          ⟨(some (40, true)), (some 41), .call 34 []⟩,
          ⟨none, (some 42), .pick (.t 40) (.t 41) (.c (Go.Value.bool false))⟩,
          ⟨none, (some 6), .mov (.t 42)⟩]) (
      .ret)) (
      .skip))) (
  .seq (
    .seq (
      .reg [0, 1, 2, 7, 8, 47] [
        ⟨none, (some 43), .mov (.t 0)⟩,
        ⟨none, (some 44), .mov (.t 1)⟩,
        ⟨none, (some 45), .call 33 [(.t 43), (.t 44)]⟩,
        ⟨none, (some 46), .len (.t 45)⟩,
        ⟨none, (some 47), .bin .gtr .i64 (.t 46) (.c (Go.Value.int Go.IntKind.i64 40))⟩]) (
    .cond (.t 47) (
      .seq (
        .reg [6] [
          ⟨none, (some 48), .call 34 []⟩,
          ⟨none, (some 6), .mov (.t 48)⟩]) (
      .ret)) (
      .skip))) (
  .seq (
    .reg [6] [
      ⟨none, (some 49), .faddr 0 (.t 8)⟩,
      ⟨none, (some 50), .load none (.t 49)⟩,
      ⟨none, (some 51), .bin .eql .i64 (.t 50) (.c (Go.Value.int Go.IntKind.i64 0))⟩,
      ⟨none, (some 52), .mov (.t 51)⟩,
      ⟨(some (52, true)), (some 53), .mov (.t 7)⟩,
      ⟨(some (52, true)), (some 54), .mov (.t 0)⟩,
      ⟨(some (52, true)), (some 55), .mov (.t 1)⟩,
      ⟨(some (52, true)), (some 56), .call 33 [(.t 54), (.t 55)]⟩,
      ⟨(some (52, true)), (some 57), .mov (.t 2)⟩,
      ⟨(some (52, true)), (some 58), .call 35 [(.t 56), (.t 57)]⟩,
      ⟨(some (52, true)), (some 59), .call 22 [(.t 53), (.t 58)]⟩,
      ⟨none, (some 60), .pick (.t 52) (.t 59) (.c (Go.Value.bool false))⟩,
      ⟨none, (some 61), .mov (.t 60)⟩,
      ⟨(some (61, true)), (some 62), .call 34 []⟩,
      ⟨none, (some 63), .pick (.t 61) (.t 62) (.c (Go.Value.bool false))⟩,
      ⟨none, (some 6), .mov (.t 63)⟩]) (
  .ret)))))))
theorem e8 : erase Try.prog h8 (codeOf Try.f8) = c8 := by kernel_rfl
theorem g8 {T : Tab} (hP : TabOK Try.prog T) {ag : List Arg} {R : Res} {xs : List Row} (hT : T.base = nrows ag) (hl : ag.length ≤ 64) (hnt : noTake ag = true)
    (h : vc T c8 ⟨env0 0 0 ag, rows0 0 ag⟩ (fin T [.tmp 6] ag R xs) (fun _ _ => False) (fin T [.tmp 6] ag R xs)) : GCall Try.prog 8 ag R xs :=
  gcall_of_vc (H := h8) Try.func8 (fn := Try.f8) (code := codeOf Try.f8) (by kernel_rfl) e8 (by kernel_rfl) (rvs := [.tmp 6]) (by kernel_rfl) (by kernel_rfl) hP hT (by rw [show Try.f8.ntmps = 64 by kernel_rfl]; exact hl) hnt h

def h41 : Hint := ⟨18, fun n => lk [(0, [0, 1, 5]), (1, [0, 1, 5, 6]), (2, [0, 1, 5, 6, 12]), (3, [4, 5]), (4, [4, 5])] n, fun n => mem [] n, fun n => mem [] n, fun n => lkd [(3, [(1, .p), (0, .r), (2, .g)])] n⟩
def c41 : CC :=
  .seq (
    .reg [0, 1, 5] [
      ⟨none, (some 4), .mov (.c (Go.Value.slice none 0 0))⟩,
      ⟨none, (some 5), .alloc [.int .i64 0, .int .i64 0]⟩]) (
  .seq (
    .seq (
      .reg [0, 1, 5, 6] [
        ⟨none, (some 7), .mov (.t 0)⟩,
        ⟨none, (some 8), .mov (.t 1)⟩,
        ⟨none, (some 9), .call 62 [(.t 7), (.t 8)]⟩,
        ⟨none, (some 6), .alloc [.int .i64 0, .int .i64 0]⟩,
        ⟨none, none, .store 2 (.t 6) (.t 9)⟩]) (
    .seq (
      .reg [0, 1, 5, 6, 12] [
        ⟨none, (some 10), .load (some 2) (.t 6)⟩,
        ⟨none, (some 11), .build [.int .i64 0, .int .i64 0] []⟩,
        ⟨none, (some 12), .eqa true [(0, true), (1, true)] (.t 10) (.t 11)⟩]) (
    .cond (.t 12) (
      .seq (
        .reg [4, 5] [
          ⟨none, (some 4), .mov (.c (Go.Value.slice none 0 0))⟩,
          ⟨none, (some 13), .load (some 2) (.t 6)⟩,
          ⟨none, none, .store 2 (.t 5) (.t 13)⟩]) (
      .ret)) (
      .skip)))) (
  .seq (
    .reg [4, 5] [
      ⟨none, (some 14), .mov (.t 0)⟩,
      ⟨none, (some 15), .mov (.t 1)⟩,
      ⟨none, (some 16), .call 63 [(.t 14), (.t 15)]⟩,
      ⟨none, (some 17), .build [.int .i64 0, .int .i64 0] []⟩,
      ⟨none, (some 4), .mov (.t 16)⟩,
      ⟨none, none, .store 2 (.t 5) (.t 17)⟩]) (
  .ret)))
theorem e41 : erase Try.prog h41 (codeOf Try.f41) = c41 := by kernel_rfl
theorem g41 {T : Tab} (hP : TabOK Try.prog T) {ag : List Arg} {R : Res} {xs : List Row} (hT : T.base = nrows ag) (hl : ag.length ≤ 18) (hnt : noTake ag = true)
    (h : vc T c41 ⟨env0 0 0 ag, rows0 0 ag⟩ (fin T [.tmp 4, .cell 5 (some 2)] ag R xs) (fun _ _ => False) (fin T [.tmp 4, .cell 5 (some 2)] ag R xs)) : GCall Try.prog 41 ag R xs :=
  gcall_of_vc (H := h41) Try.func41 (fn := Try.f41) (code := codeOf Try.f41) (by kernel_rfl) e41 (by kernel_rfl) (rvs := [.tmp 4, .cell 5 (some 2)]) (by kernel_rfl) (by kernel_rfl) hP hT (by rw [show Try.f41.ntmps = 18 by kernel_rfl]; exact hl) hnt h

def h42 : Hint := ⟨26, fun n => lk [(0, [0, 1]), (1, [0, 1, 10]), (2, [4]), (3, [0, 1, 5]), (4, [0, 1, 5, 14]), (5, [0, 1, 5]), (6, [0, 1, 5, 25]), (7, [4]), (8, [4])] n, fun n => mem [] n, fun n => mem [] n, fun n => lkd [(6, [(0, .p), (1, .p), (2, .p), (4, .p), (5, .p), (6, .p), (3, .r), (7, .r), (8, .p)])] n⟩
def c42 : CC :=
  .seq (
    .reg [0, 1] [
      ⟨none, (some 4), .mov (.c (Go.Value.bool false))⟩]) (
  .seq (
    .seq (
      .reg [0, 1, 10] [
        ⟨none, (some 6), .mov (.t 0)⟩,
        ⟨none, (some 7), .len (.t 6)⟩,
        ⟨none, (some 8), .mov (.t 1)⟩,
        ⟨none, (some 9), .len (.t 8)⟩,
        ⟨none, (some 10), .bin .neq .i64 (.t 7) (.t 9)⟩]) (
    .cond (.t 10) (
      .seq (
        .reg [4] [
          ⟨none, (some 4), .mov (.c (Go.Value.bool false))⟩]) (
      .ret)) (
      .skip))) (
  .seq (
    .seq (
      .reg [0, 1, 5] [
        ⟨none, (some 5), .mov (.c (Go.Value.int Go.IntKind.i64 0))⟩]) (
    .block 0 (
      .loop (
        .seq (
          .seq (
            .reg [0, 1, 5, 14] [
              ⟨none, (some 11), .mov (.t 5)⟩,
              ⟨none, (some 12), .mov (.t 0)⟩,
              ⟨none, (some 13), .len (.t 12)⟩,
              ⟨none, (some 14), .bin .lss .i64 (.t 11) (.t 13)⟩]) (
          .cond (.t 14) (
            .skip) (
            .exit 0))) (
        .seq (
          .block 1 (
            .seq (
              .reg [0, 1, 5, 25] [
                ⟨none, (some 17), .mov (.t 0)⟩,
                ⟨none, (some 18), .mov (.t 5)⟩,
                ⟨none, (some 19), .iaddr 2 (.t 17) (.t 18)⟩,
                ⟨none, (some 21), .mov (.t 1)⟩,
                ⟨none, (some 22), .mov (.t 5)⟩,
                ⟨none, (some 23), .iaddr 2 (.t 21) (.t 22)⟩,
                ⟨none, (some 20), .load (some 2) (.t 19)⟩,
                ⟨none, (some 24), .load (some 2) (.t 23)⟩,
                ⟨none, (some 25), .eqa true [(0, true), (1, true)] (.t 20) (.t 24)⟩]) (
            .cond (.t 25) (
              .seq (
                .reg [4] [
                  ⟨none, (some 4), .mov (.c (Go.Value.bool false))⟩]) (
              .ret)) (
              .skip)))) (
        .reg [0, 1, 5] [
          ⟨none, (some 15), .mov (.t 5)⟩,
          ⟨none, (some 16), .bin .add .i64 (.t 15) (.c (Go.Value.int Go.IntKind.i64 1))⟩,
          ⟨none, (some 5), .mov (.t 16)⟩])))))) (
  .seq (
    .reg [4] [
      ⟨none, (some 4), .mov (.c (Go.Value.bool true))⟩]) (
  .ret))))
theorem e42 : erase Try.prog h42 (codeOf Try.f42) = c42 := by kernel_rfl
theorem g42 {T : Tab} (hP : TabOK Try.prog T) {ag : List Arg} {R : Res} {xs : List Row} (hT : T.base = nrows ag) (hl : ag.length ≤ 26) (hnt : noTake ag = true)
    (h : vc T c42 ⟨env0 0 0 ag, rows0 0 ag⟩ (fin T [.tmp 4] ag R xs) (fun _ _ => False) (fin T [.tmp 4] ag R xs)) : GCall Try.prog 42 ag R xs :=
  gcall_of_vc (H := h42) Try.func42 (fn := Try.f42) (code := codeOf Try.f42) (by kernel_rfl) e42 (by kernel_rfl) (rvs := [.tmp 4]) (by kernel_rfl) (by kernel_rfl) hP hT (by rw [show Try.f42.ntmps = 26 by kernel_rfl]; exact hl) hnt h

def h12 : Hint := ⟨44, fun n => lk [(0, [0, 1]), (1, [0, 1, 5, 6]), (2, [0, 1, 5, 6, 7]), (3, [0, 1, 5, 6, 7, 19]), (4, [4]), (5, [4])] n, fun n => mem [] n, fun n => mem [] n, fun n => lkd [] n⟩
def c12 : CC :=
  .seq (
    .reg [0, 1] [
      ⟨none, (some 4), .mov (.c (Go.Value.bool false))⟩]) (
  .seq (
    .reg [0, 1, 5, 6] [
      ⟨none, (some 9), .mov (.t 0)⟩,
      ⟨none, (some 10), .mov (.t 1)⟩,
      ⟨none, (some 11), .call 41 [(.t 9), (.t 10)]⟩,
      ⟨none, (some 8), .mov (.t 11)⟩,
      ⟨none, (some 12), .ext (.t 8) 0⟩,
      ⟨none, (some 13), .ext (.t 8) 1⟩,
      ⟨none, (some 6), .alloc [.int .i64 0, .int .i64 0]⟩,
      ⟨none, (some 5), .mov (.t 12)⟩,
      ⟨none, none, .store 2 (.t 6) (.t 13)⟩]) (
  .seq (
    .reg [0, 1, 5, 6, 7] [
      ⟨none, (some 14), .mov (.t 0)⟩,
      ⟨none, (some 15), .mov (.t 1)⟩,
      ⟨none, (some 16), .call 31 [(.t 14), (.t 15)]⟩,
      ⟨none, (some 7), .alloc [.int .i64 0, .int .i64 0]⟩,
      ⟨none, none, .store 2 (.t 7) (.t 16)⟩]) (
  .seq (
    .seq (
      .reg [0, 1, 5, 6, 7, 19] [
        ⟨none, (some 17), .faddr 0 (.t 7)⟩,
        ⟨none, (some 18), .load none (.t 17)⟩,
        ⟨none, (some 19), .bin .neq .i64 (.t 18) (.c (Go.Value.int Go.IntKind.i64 0))⟩]) (
    .cond (.t 19) (
      .seq (
        .reg [4] [
          ⟨none, (some 20), .load (some 2) (.t 6)⟩,
          ⟨none, (some 21), .load (some 2) (.t 7)⟩,
          ⟨none, (some 22), .eqa false [(0, true), (1, true)] (.t 20) (.t 21)⟩,
          ⟨none, (some 23), .mov (.t 22)⟩,
          ⟨(some (23, true)), (some 24), .mov (.t 5)⟩,
          ⟨(some (23, true)), (some 25), .len (.t 24)⟩,
          ⟨(some (23, true)), (some 26), .bin .eql .i64 (.t 25) (.c (Go.Value.int Go.IntKind.i64 0))⟩,
          ⟨none, (some 27), .pick (.t 23) (.t 26) (.c (Go.Value.bool false))⟩,
          ⟨none, (some 28), .mov (.t 27)⟩,
          ⟨(some (28, true)), (some 29), .call 34 []⟩,
          ⟨none, (some 30), .pick (.t 28) (.t 29) (.c (Go.Value.bool false))⟩,
          ⟨none, (some 4), .mov (.t 30)⟩]) (
      .ret)) (
      .skip))) (
  .seq (
    .reg [4] [
      ⟨none, (some 31), .faddr 0 (.t 6)⟩,
      ⟨none, (some 32), .load none (.t 31)⟩,
      ⟨none, (some 33), .bin .eql .i64 (.t 32) (.c (Go.Value.int Go.IntKind.i64 0))⟩,
      ⟨none, (some 34), .mov (.t 33)⟩,
      ⟨(some (34, true)), (some 35), .mov (.t 5)⟩,
      ⟨(some (34, true)), (some 36), .mov (.t 0)⟩,
      ⟨(some (34, true)), (some 37), .mov (.t 1)⟩,
      ⟨(some (34, true)), (some 38), .call 33 [(.t 36), (.t 37)]⟩,
      ⟨(some (34, true)), (some 39), .call 42 [(.t 35), (.t 38)]⟩,
      ⟨none, (some 40), .pick (.t 34) (.t 39) (.c (Go.Value.bool false))⟩,
      ⟨none, (some 41), .mov (.t 40)⟩,
      ⟨(some (41, true)), (some 42), .call 34 []⟩,
      ⟨none, (some 43), .pick (.t 41) (.t 42) (.c (Go.Value.bool false))⟩,
      ⟨none, (some 4), .mov (.t 43)⟩]) (
  .ret)))))
theorem e12 : erase Try.prog h12 (codeOf Try.f12) = c12 := by kernel_rfl
theorem g12 {T : Tab} (hP : TabOK Try.prog T) {ag : List Arg} {R : Res} {xs : List Row} (hT : T.base = nrows ag) (hl : ag.length ≤ 44) (hnt : noTake ag = true)
    (h : vc T c12 ⟨env0 0 0 ag, rows0 0 ag⟩ (fin T [.tmp 4] ag R xs) (fun _ _ => False) (fin T [.tmp 4] ag R xs)) : GCall Try.prog 12 ag R xs :=
  gcall_of_vc (H := h12) Try.func12 (fn := Try.f12) (code := codeOf Try.f12) (by kernel_rfl) e12 (by kernel_rfl) (rvs := [.tmp 4]) (by kernel_rfl) (by kernel_rfl) hP hT (by rw [show Try.f12.ntmps = 44 by kernel_rfl]; exact hl) hnt h

end Go.Eng
