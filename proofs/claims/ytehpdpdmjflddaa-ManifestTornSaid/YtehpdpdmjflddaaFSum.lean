/-
  The readings of some functions of the program, printed by gen.py off the cut and checked by the kernel.
-/
import Derived.Test.YtehpdpdmjflddaaGenT
import Derived.Test.YtehpdpdmjflddaaProg
namespace Go.Proofs.Ytehpdpdmjflddaa
open Go.RowKit

set_option maxRecDepth 100000 in
set_option linter.unusedVariables false in
def F.sum_Sum (y0a : Option Addr) (y0n : Nat) (y0c : Nat) (K : Value → WP) : WP :=
 callW Try.prog 62 #[.int .u32 0, .slice y0a y0n y0c] fun v1 =>
 asI .u32 v1 fun x2 =>
 K (.int .u32 x2)
theorem F.sum_Sum_eq (y0a : Option Addr) (y0n : Nat) (y0c : Nat) (K : Value → WP) : genF Try.prog Try.f52 ⟨[], [], [], [], [], []⟩ [.slice y0a y0n y0c] K = F.sum_Sum y0a y0n y0c K := by kernel_rfl
theorem F.sum_Sum_ok (y0a : Option Addr) (y0n : Nat) (y0c : Nat) (K : Value → WP) (w : World) (h : F.sum_Sum y0a y0n y0c K w) : callW Try.prog 52 #[.slice y0a y0n y0c] K w :=
  genF_use Try.func52 (F.sum_Sum_eq y0a y0n y0c K) h

set_option maxRecDepth 100000 in
set_option linter.unusedVariables false in
def F.sum_More (y0 : Int) (y1a : Option Addr) (y1n : Nat) (y1c : Nat) (K : Value → WP) : WP :=
 letv (IntKind.u32.wrap (BitVec.ofInt 32 IntKind.u32.max ^^^ BitVec.ofInt 32 y0).toNat) fun x1 =>
 loopW [.int .u32 x1, .int .i64 0] (fun K2 vs3 =>
 uncons vs3 fun v4 r5 =>
 asI .u32 v4 fun x6 =>
 uncons r5 fun v7 r8 =>
 asI .i64 v7 fun x9 =>
 unnil r8 (
 br (decide (x9 < ((y1n : Nat) : Int))) (
 sem Try.prog (Instr.indexAt 22 (.slice y1a y1n y1c) (.int .i64 x9)) fun v11 =>
 asA v11 fun p10 =>
 sem Try.prog (Instr.loadAt 5 (.pointer (some p10))) fun v12 =>
 asI .u8 v12 fun x13 =>
 letv (IntKind.u32.wrap x13) fun x14 =>
 letv (IntKind.u32.wrap (BitVec.ofInt 32 x6 ^^^ BitVec.ofInt 32 x14).toNat) fun x15 =>
 callW Try.prog 66 #[.int .u32 x15] fun v16 =>
 asI .u32 v16 fun x17 =>
 letv (IntKind.i64.wrap (x9 + 1)) fun x18 =>
 K2 [.int .u32 x17, .int .i64 x18]) (
 letv (IntKind.u32.wrap (BitVec.ofInt 32 IntKind.u32.max ^^^ BitVec.ofInt 32 x6).toNat) fun x19 =>
 K (.int .u32 x19))))
theorem F.sum_More_eq (y0 : Int) (y1a : Option Addr) (y1n : Nat) (y1c : Nat) (K : Value → WP) : genF Try.prog Try.f62 ⟨[(3, [(5, 81), (12, 3)])], [], [], [], [], []⟩ [.int .u32 y0, .slice y1a y1n y1c] K = F.sum_More y0 y1a y1n y1c K := by kernel_rfl
theorem F.sum_More_ok (y0 : Int) (y1a : Option Addr) (y1n : Nat) (y1c : Nat) (K : Value → WP) (w : World) (h : F.sum_More y0 y1a y1n y1c K w) : callW Try.prog 62 #[.int .u32 y0, .slice y1a y1n y1c] K w :=
  genF_use Try.func62 (F.sum_More_eq y0 y1a y1n y1c K) h

set_option maxRecDepth 100000 in
set_option linter.unusedVariables false in
def F.sum_steps (y0 : Int) (K : Value → WP) : WP :=
 loopW [.int .u32 y0, .int .i64 0] (fun K1 vs2 =>
 uncons vs2 fun v3 r4 =>
 asI .u32 v3 fun x5 =>
 uncons r4 fun v6 r7 =>
 asI .i64 v6 fun x8 =>
 unnil r7 (
 br (decide (x8 < 8)) (
 letv (IntKind.u32.wrap (BitVec.ofInt 32 x5 &&& BitVec.ofInt 32 1).toNat) fun x9 =>
 joinW (fun K10 =>
 br (x9 == 1) (
 sem Try.prog (binOp .shr 81 (.int .u32 x5) (.int .u64 1)) fun v12 =>
 asI .u32 v12 fun x13 =>
 letv (IntKind.u32.wrap (BitVec.ofInt 32 x13 ^^^ BitVec.ofInt 32 2197175160).toNat) fun x14 =>
 K10 [.int .u32 x14]) (
 sem Try.prog (binOp .shr 81 (.int .u32 x5) (.int .u64 1)) fun v15 =>
 asI .u32 v15 fun x16 =>
 K10 [.int .u32 x16])) (fun vs11 =>
 uncons vs11 fun v17 r18 =>
 asI .u32 v17 fun x19 =>
 unnil r18 (
 letv (IntKind.i64.wrap (x8 + 1)) fun x20 =>
 K1 [.int .u32 x19, .int .i64 x20]))) (
 K (.int .u32 x5))))
theorem F.sum_steps_eq (y0 : Int) (K : Value → WP) : genF Try.prog Try.f66 ⟨[(2, [(0, 81), (3, 3)])], [(4, [(0, 81)])], [], [], [], []⟩ [.int .u32 y0] K = F.sum_steps y0 K := by kernel_rfl
theorem F.sum_steps_ok (y0 : Int) (K : Value → WP) (w : World) (h : F.sum_steps y0 K w) : callW Try.prog 66 #[.int .u32 y0] K w :=
  genF_use Try.func66 (F.sum_steps_eq y0 K) h
end Go.Proofs.Ytehpdpdmjflddaa
