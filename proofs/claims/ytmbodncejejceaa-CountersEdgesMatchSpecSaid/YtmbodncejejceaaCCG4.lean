/- The compact code of functions. -/
import Derived.Test.YtmbodncejejceaaCFam
set_option linter.all false

set_option maxRecDepth 100000
namespace Go.Eng
open Go.Proofs

def h66 : Hint := ⟨15, fun n => lk [(0, [0, 1, 2]), (1, [5])] n, fun n => mem [] n, fun n => mem [] n, fun n => lkd [(1, [(1, .p), (5, .p), (0, .r), (2, .p), (3, .r), (4, .r), (6, .p), (7, .r), (8, .p), (9, .p)])] n⟩
def c66 : CC :=
  .seq (
    .reg [0, 1, 2] [
      ⟨none, (some 5), .mov (.c (Go.Value.int Go.IntKind.i64 0))⟩]) (
  .seq (
    .reg [5] [
      ⟨none, (some 7), .mov (.t 1)⟩,
      ⟨none, (some 11), .mov (.t 0)⟩,
      ⟨none, (some 6), .load none (.t 2)⟩,
      ⟨none, (some 8), .iaddr 1 (.t 6) (.t 7)⟩,
      ⟨none, (some 9), .load none (.t 8)⟩,
      ⟨none, (some 10), .load none (.t 2)⟩,
      ⟨none, (some 12), .iaddr 1 (.t 10) (.t 11)⟩,
      ⟨none, (some 13), .load none (.t 12)⟩,
      ⟨none, (some 14), .bin .sub .i64 (.t 9) (.t 13)⟩,
      ⟨none, (some 5), .mov (.t 14)⟩]) (
  .ret))
theorem e66 : erase Try.prog h66 (codeOf Try.f66) = c66 := by kernel_rfl
theorem g66 {T : Tab} (hP : TabOK Try.prog T) {ag : List Arg} {R : Res} {xs : List Row} (hT : T.base = nrows ag) (hl : ag.length ≤ 15) (hnt : noTake ag = true)
    (h : vc T c66 ⟨env0 0 0 ag, rows0 0 ag⟩ (fin T [.tmp 5] ag R xs) (fun _ _ => False) (fin T [.tmp 5] ag R xs)) : GCall Try.prog 66 ag R xs :=
  gcall_of_vc (H := h66) Try.func66 (fn := Try.f66) (code := codeOf Try.f66) (by kernel_rfl) e66 (by kernel_rfl) (rvs := [.tmp 5]) (by kernel_rfl) (by kernel_rfl) hP hT (by rw [show Try.f66.ntmps = 15 by kernel_rfl]; exact hl) hnt h

def h67 : Hint := ⟨19, fun n => lk [(0, [0]), (1, [3]), (2, [3, 9, 10]), (3, [3, 9, 10, 11]), (4, [3, 4, 9, 10]), (5, [3, 9, 10]), (6, [3, 9, 10]), (7, [2])] n, fun n => mem [] n, fun n => mem [] n, fun n => lkd [] n⟩
def c67 : CC :=
  .seq (
    .reg [0] [
      ⟨none, (some 2), .mov (.c (Go.Value.slice none 0 0))⟩]) (
  .seq (
    .reg [3] [
      ⟨none, (some 5), .mov (.t 0)⟩,
      ⟨none, (some 6), .bin .add .i64 (.t 5) (.c (Go.Value.int Go.IntKind.i64 1))⟩,
      ⟨none, (some 7), .mks 3 1 8 [.int .i64 0] (.t 6) (.t 6)⟩,
      ⟨none, (some 3), .mov (.t 7)⟩]) (
  .seq (
    .seq (
      .reg [3, 9, 10] [
        ⟨none, (some 8), .mov (.t 3)⟩,
        ⟨none, (some 9), .len (.t 8)⟩,
        ⟨none, (some 10), .mov (.c (Go.Value.int Go.IntKind.i64 0))⟩]) (
    .block 0 (
      .loop (
        .seq (
          .reg [3, 9, 10, 11] [
            ⟨none, (some 11), .bin .lss .i64 (.t 10) (.t 9)⟩]) (
        .seq (
          .cond (.t 11) (
            .skip) (
            .exit 0)) (
        .seq (
          .block 1 (
            .seq (
              .reg [3, 4, 9, 10] [
                ⟨none, (some 12), .mov (.t 10)⟩,
                ⟨none, (some 4), .mov (.t 12)⟩]) (
            .reg [3, 9, 10] [
              ⟨none, (some 13), .mov (.t 3)⟩,
              ⟨none, (some 14), .mov (.t 4)⟩,
              ⟨none, (some 15), .mov (.t 4)⟩,
              ⟨none, (some 16), .iaddr 1 (.t 13) (.t 14)⟩,
              ⟨none, none, .store 1 (.t 16) (.t 15)⟩]))) (
        .reg [3, 9, 10] [
          ⟨none, (some 17), .bin .add .i64 (.t 10) (.c (Go.Value.int Go.IntKind.i64 1))⟩,
          ⟨none, (some 10), .mov (.t 17)⟩]))))))) (
  .seq (
    .reg [2] [
      ⟨none, (some 18), .mov (.t 3)⟩,
      ⟨none, (some 2), .mov (.t 18)⟩]) (
  .ret))))
theorem e67 : erase Try.prog h67 (codeOf Try.f67) = c67 := by kernel_rfl
theorem g67 {T : Tab} (hP : TabOK Try.prog T) {ag : List Arg} {R : Res} {xs : List Row} (hT : T.base = nrows ag) (hl : ag.length ≤ 19) (hnt : noTake ag = true)
    (h : vc T c67 ⟨env0 0 0 ag, rows0 0 ag⟩ (fin T [.tmp 2] ag R xs) (fun _ _ => False) (fin T [.tmp 2] ag R xs)) : GCall Try.prog 67 ag R xs :=
  gcall_of_vc (H := h67) Try.func67 (fn := Try.f67) (code := codeOf Try.f67) (by kernel_rfl) e67 (by kernel_rfl) (rvs := [.tmp 2]) (by kernel_rfl) (by kernel_rfl) hP hT (by rw [show Try.f67.ntmps = 19 by kernel_rfl]; exact hl) hnt h

def h92 : Hint := ⟨26, fun n => lk [(0, [0, 1]), (1, [0, 1, 10]), (2, [0, 1]), (3, [0, 1]), (4, [4])] n, fun n => mem [] n, fun n => mem [] n, fun n => lkd [] n⟩
def c92 : CC :=
  .seq (
    .reg [0, 1] [
      ⟨none, (some 4), .mov (.c (Go.Value.int Go.IntKind.i64 0))⟩]) (
  .seq (
    .block 0 (
      .loop (
        .seq (
          .seq (
            .reg [0, 1, 10] [
              ⟨none, (some 5), .mov (.t 0)⟩,
              ⟨none, (some 6), .mov (.t 1)⟩,
              ⟨none, (some 7), .iaddr 1 (.t 5) (.t 6)⟩,
              ⟨none, (some 8), .load none (.t 7)⟩,
              ⟨none, (some 9), .mov (.t 1)⟩,
              ⟨none, (some 10), .bin .neq .i64 (.t 8) (.t 9)⟩]) (
          .cond (.t 10) (
            .skip) (
            .exit 0))) (
        .block 1 (
          .seq (
            .reg [0, 1] [
              ⟨none, (some 11), .mov (.t 0)⟩,
              ⟨none, (some 12), .mov (.t 1)⟩,
              ⟨none, (some 13), .mov (.t 0)⟩,
              ⟨none, (some 14), .mov (.t 0)⟩,
              ⟨none, (some 15), .mov (.t 1)⟩,
              ⟨none, (some 16), .iaddr 1 (.t 14) (.t 15)⟩,
              ⟨none, (some 17), .load none (.t 16)⟩,
              ⟨none, (some 18), .iaddr 1 (.t 13) (.t 17)⟩,
              ⟨none, (some 19), .load none (.t 18)⟩,
              ⟨none, (some 20), .iaddr 1 (.t 11) (.t 12)⟩,
              ⟨none, none, .store 1 (.t 20) (.t 19)⟩]) (
          .reg [0, 1] [
            ⟨none, (some 21), .mov (.t 0)⟩,
            ⟨none, (some 22), .mov (.t 1)⟩,
            ⟨none, (some 23), .iaddr 1 (.t 21) (.t 22)⟩,
            ⟨none, (some 24), .load none (.t 23)⟩,
            ⟨none, (some 1), .mov (.t 24)⟩])))))) (
  .seq (
    .reg [4] [
      ⟨none, (some 25), .mov (.t 1)⟩,
      ⟨none, (some 4), .mov (.t 25)⟩]) (
  .ret)))
theorem e92 : erase Try.prog h92 (codeOf Try.f92) = c92 := by kernel_rfl
theorem g92 {T : Tab} (hP : TabOK Try.prog T) {ag : List Arg} {R : Res} {xs : List Row} (hT : T.base = nrows ag) (hl : ag.length ≤ 26) (hnt : noTake ag = true)
    (h : vc T c92 ⟨env0 0 0 ag, rows0 0 ag⟩ (fin T [.tmp 4] ag R xs) (fun _ _ => False) (fin T [.tmp 4] ag R xs)) : GCall Try.prog 92 ag R xs :=
  gcall_of_vc (H := h92) Try.func92 (fn := Try.f92) (code := codeOf Try.f92) (by kernel_rfl) e92 (by kernel_rfl) (rvs := [.tmp 4]) (by kernel_rfl) (by kernel_rfl) hP hT (by rw [show Try.f92.ntmps = 26 by kernel_rfl]; exact hl) hnt h

def h68 : Hint := ⟨24, fun n => lk [(0, [0, 3]), (1, [0, 5, 6]), (2, [5, 6]), (3, [4])] n, fun n => mem [] n, fun n => mem [] n, fun n => lkd [(1, [(12, .g), (0, .p), (1, .p), (2, .p), (3, .p), (4, .g), (5, .p), (6, .p), (7, .p), (8, .p), (9, .g), (10, .p), (11, .p)])] n⟩
def c68 : CC :=
  .seq (
    .reg [0, 3] [
      ⟨none, (some 3), .box (.t 1)⟩,
      ⟨none, (some 4), .mov (.c (Go.Value.bool false))⟩]) (
  .seq (
    .dreg [0, 5, 6] [] [
      (.p, ⟨none, (some 7), .mov (.t 0)⟩),
      (.p, ⟨none, (some 8), .aaddr 2 1 (.t 3) (.c (Go.Value.int Go.IntKind.i64 0))⟩),
      (.p, ⟨none, (some 9), .load none (.t 8)⟩),
      (.p, ⟨none, (some 10), .bin .add .i64 (.t 9) (.c (Go.Value.int Go.IntKind.i64 1))⟩),
      (.g, ⟨none, (some 11), .call 92 [(.t 7), (.t 10)]⟩),
      (.p, ⟨none, (some 12), .mov (.t 0)⟩),
      (.p, ⟨none, (some 13), .aaddr 2 1 (.t 3) (.c (Go.Value.int Go.IntKind.i64 1))⟩),
      (.p, ⟨none, (some 14), .load none (.t 13)⟩),
      (.p, ⟨none, (some 15), .bin .add .i64 (.t 14) (.c (Go.Value.int Go.IntKind.i64 1))⟩),
      (.g, ⟨none, (some 16), .call 92 [(.t 12), (.t 15)]⟩),
      (.p, ⟨none, (some 5), .mov (.t 11)⟩),
      (.p, ⟨none, (some 6), .mov (.t 16)⟩)]) (
  .seq (
    .reg [5, 6] [
      ⟨none, (some 17), .mov (.t 0)⟩,
      ⟨none, (some 18), .mov (.t 5)⟩,
      ⟨none, (some 19), .mov (.t 6)⟩,
      ⟨none, (some 20), .iaddr 1 (.t 17) (.t 18)⟩,
      ⟨none, none, .store 1 (.t 20) (.t 19)⟩]) (
  .seq (
    .reg [4] [
      ⟨none, (some 21), .mov (.t 5)⟩,
      ⟨none, (some 22), .mov (.t 6)⟩,
      ⟨none, (some 23), .bin .neq .i64 (.t 21) (.t 22)⟩,
      ⟨none, (some 4), .mov (.t 23)⟩]) (
  .ret))))
theorem e68 : erase Try.prog h68 (codeOf Try.f68) = c68 := by kernel_rfl
theorem g68 {T : Tab} (hP : TabOK Try.prog T) {ag : List Arg} {R : Res} {xs : List Row} (hT : T.base = nrows ag) (hl : ag.length ≤ 24) (hnt : noTake ag = true)
    (h : vc T c68 ⟨env0 0 0 ag, rows0 0 ag⟩ (fin T [.tmp 4] ag R xs) (fun _ _ => False) (fin T [.tmp 4] ag R xs)) : GCall Try.prog 68 ag R xs :=
  gcall_of_vc (H := h68) Try.func68 (fn := Try.f68) (code := codeOf Try.f68) (by kernel_rfl) e68 (by kernel_rfl) (rvs := [.tmp 4]) (by kernel_rfl) (by kernel_rfl) hP hT (by rw [show Try.f68.ntmps = 24 by kernel_rfl]; exact hl) hnt h

end Go.Eng
