/- The compact code of functions. -/
import Derived.Test.YtmbodncejejceaaCFam
set_option linter.all false

set_option maxRecDepth 100000
namespace Go.Eng
open Go.Proofs

def h75 : Hint := ⟨19, fun n => lk [(0, [0, 1]), (1, [0, 1, 7, 8]), (2, [0, 1, 7, 8, 9]), (3, [0, 1, 5, 7, 8]), (4, [0, 1, 5, 7, 8, 16]), (5, [4]), (6, [0, 1, 7, 8]), (7, [4])] n, fun n => mem [] n, fun n => mem [] n, fun n => lkd [] n⟩
def c75 : CC :=
  .seq (
    .reg [0, 1] [
      ⟨none, (some 4), .mov (.c (Go.Value.int Go.IntKind.i64 0))⟩]) (
  .seq (
    .seq (
      .reg [0, 1, 7, 8] [
        ⟨none, (some 6), .mov (.t 0)⟩,
        ⟨none, (some 7), .len (.t 6)⟩,
        ⟨none, (some 8), .mov (.c (Go.Value.int Go.IntKind.i64 0))⟩]) (
    .block 0 (
      .loop (
        .seq (
          .reg [0, 1, 7, 8, 9] [
            ⟨none, (some 9), .bin .lss .i64 (.t 8) (.t 7)⟩]) (
        .seq (
          .cond (.t 9) (
            .skip) (
            .exit 0)) (
        .seq (
          .block 1 (
            .seq (
              .reg [0, 1, 5, 7, 8] [
                ⟨none, (some 10), .mov (.t 8)⟩,
                ⟨none, (some 5), .mov (.t 10)⟩]) (
            .seq (
              .reg [0, 1, 5, 7, 8, 16] [
                ⟨none, (some 11), .mov (.t 1)⟩,
                ⟨none, (some 12), .mov (.t 0)⟩,
                ⟨none, (some 13), .mov (.t 5)⟩,
                ⟨none, (some 14), .iaddr 1 (.t 12) (.t 13)⟩,
                ⟨none, (some 15), .load none (.t 14)⟩,
                ⟨none, (some 16), .callv (.t 11) [(.t 15)]⟩]) (
            .cond (.t 16) (
              .seq (
                .reg [4] [
                  ⟨none, (some 17), .mov (.t 5)⟩,
                  ⟨none, (some 4), .mov (.t 17)⟩]) (
              .ret)) (
              .skip))))) (
        .reg [0, 1, 7, 8] [
          ⟨none, (some 18), .bin .add .i64 (.t 8) (.c (Go.Value.int Go.IntKind.i64 1))⟩,
          ⟨none, (some 8), .mov (.t 18)⟩]))))))) (
  .seq (
    .reg [4] [
      ⟨none, (some 4), .mov (.c (Go.Value.int Go.IntKind.i64 (-1)))⟩]) (
  .ret)))
theorem e75 : erase Try.prog h75 (codeOf Try.f75) = c75 := by kernel_rfl
theorem g75 {T : Tab} (hP : TabOK Try.prog T) {ag : List Arg} {R : Res} {xs : List Row} (hT : T.base = nrows ag) (hl : ag.length ≤ 19) (hnt : noTake ag = true)
    (h : vc T c75 ⟨env0 0 0 ag, rows0 0 ag⟩ (fin T [.tmp 4] ag R xs) (fun _ _ => False) (fin T [.tmp 4] ag R xs)) : GCall Try.prog 75 ag R xs :=
  gcall_of_vc (H := h75) Try.func75 (fn := Try.f75) (code := codeOf Try.f75) (by kernel_rfl) e75 (by kernel_rfl) (rvs := [.tmp 4]) (by kernel_rfl) (by kernel_rfl) hP hT (by rw [show Try.f75.ntmps = 19 by kernel_rfl]; exact hl) hnt h

def h95 : Hint := ⟨9, fun n => lk [(0, [0, 1]), (1, [4])] n, fun n => mem [] n, fun n => mem [] n, fun n => lkd [] n⟩
def c95 : CC :=
  .seq (
    .reg [0, 1] [
      ⟨none, (some 4), .mov (.c (Go.Value.bool false))⟩]) (
  .seq (
    .reg [4] [
      ⟨none, (some 5), .mov (.t 0)⟩,
      ⟨none, (some 6), .mov (.t 1)⟩,
      ⟨none, (some 7), .call 75 [(.t 5), (.t 6)]⟩,
      ⟨none, (some 8), .bin .geq .i64 (.t 7) (.c (Go.Value.int Go.IntKind.i64 0))⟩,
      ⟨none, (some 4), .mov (.t 8)⟩]) (
  .ret))
theorem e95 : erase Try.prog h95 (codeOf Try.f95) = c95 := by kernel_rfl
theorem g95 {T : Tab} (hP : TabOK Try.prog T) {ag : List Arg} {R : Res} {xs : List Row} (hT : T.base = nrows ag) (hl : ag.length ≤ 9) (hnt : noTake ag = true)
    (h : vc T c95 ⟨env0 0 0 ag, rows0 0 ag⟩ (fin T [.tmp 4] ag R xs) (fun _ _ => False) (fin T [.tmp 4] ag R xs)) : GCall Try.prog 95 ag R xs :=
  gcall_of_vc (H := h95) Try.func95 (fn := Try.f95) (code := codeOf Try.f95) (by kernel_rfl) e95 (by kernel_rfl) (rvs := [.tmp 4]) (by kernel_rfl) (by kernel_rfl) hP hT (by rw [show Try.f95.ntmps = 9 by kernel_rfl]; exact hl) hnt h

end Go.Eng
