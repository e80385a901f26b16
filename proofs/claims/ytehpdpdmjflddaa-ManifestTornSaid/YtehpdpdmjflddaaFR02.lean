/-
  The readings of some functions of the program, printed by gen.py off the cut and checked by the kernel.
-/
import Derived.Test.YtehpdpdmjflddaaGenT
import Derived.Test.YtehpdpdmjflddaaProg
namespace Go.Proofs.Ytehpdpdmjflddaa
open Go.RowKit

set_option maxRecDepth 100000 in
set_option linter.unusedVariables false in
def F.hayloftref02_Sum (y0a : Option Addr) (y0n : Nat) (y0c : Nat) (K : Value → WP) : WP :=
 callW Try.prog 64 #[.int .u32 0, .slice y0a y0n y0c] fun v1 =>
 asI .u32 v1 fun x2 =>
 K (.int .u32 x2)
theorem F.hayloftref02_Sum_eq (y0a : Option Addr) (y0n : Nat) (y0c : Nat) (K : Value → WP) : genF Try.prog Try.f55 ⟨[], [], [], [], [], []⟩ [.slice y0a y0n y0c] K = F.hayloftref02_Sum y0a y0n y0c K := by kernel_rfl
theorem F.hayloftref02_Sum_ok (y0a : Option Addr) (y0n : Nat) (y0c : Nat) (K : Value → WP) (w : World) (h : F.hayloftref02_Sum y0a y0n y0c K w) : callW Try.prog 55 #[.slice y0a y0n y0c] K w :=
  genF_use Try.func55 (F.hayloftref02_Sum_eq y0a y0n y0c K) h

set_option maxRecDepth 100000 in
set_option linter.unusedVariables false in
def F.hayloftref02_More (y0 : Int) (y1a : Option Addr) (y1n : Nat) (y1c : Nat) (K : Value → WP) : WP :=
 letv (IntKind.u32.wrap (BitVec.ofInt 32 y0 ^^^ BitVec.ofInt 32 4294967295).toNat) fun x1 =>
 loopW [.int .u32 x1, .int .i64 0] (fun K2 vs3 =>
 uncons vs3 fun v4 r5 =>
 asI .u32 v4 fun x6 =>
 uncons r5 fun v7 r8 =>
 asI .i64 v7 fun x9 =>
 unnil r8 (
 br (decide (x9 < ((y1n : Nat) : Int))) (
 sem Try.prog (Instr.indexAt 22 (.slice y1a y1n y1c) (.int .i64 x9)) fun v11 =>
 asA v11 fun p10 =>
 sem Try.prog (Instr.loadAt 5 (.pointer (some p10))) fun v12 =>
 asI .u8 v12 fun x13 =>
 letv (IntKind.u32.wrap x13) fun x14 =>
 letv (IntKind.u32.wrap (BitVec.ofInt 32 x6 ^^^ BitVec.ofInt 32 x14).toNat) fun x15 =>
 loopW [.int .u32 x15, .int .i64 0] (fun K16 vs17 =>
 uncons vs17 fun v18 r19 =>
 asI .u32 v18 fun x20 =>
 uncons r19 fun v21 r22 =>
 asI .i64 v21 fun x23 =>
 unnil r22 (
 br (decide (x23 < 8)) (
 callW Try.prog 67 #[.int .u32 x20] fun v24 =>
 asI .u32 v24 fun x25 =>
 letv (IntKind.i64.wrap (x23 + 1)) fun x26 =>
 K16 [.int .u32 x25, .int .i64 x26]) (
 letv (IntKind.i64.wrap (x9 + 1)) fun x27 =>
 K2 [.int .u32 x20, .int .i64 x27])))) (
 letv (IntKind.u32.wrap (BitVec.ofInt 32 x6 ^^^ BitVec.ofInt 32 4294967295).toNat) fun x28 =>
 K (.int .u32 x28))))
theorem F.hayloftref02_More_eq (y0 : Int) (y1a : Option Addr) (y1n : Nat) (y1c : Nat) (K : Value → WP) : genF Try.prog Try.f64 ⟨[(3, [(5, 81), (12, 3)]), (7, [(5, 81), (7, 3)])], [], [], [], [], []⟩ [.int .u32 y0, .slice y1a y1n y1c] K = F.hayloftref02_More y0 y1a y1n y1c K := by kernel_rfl
theorem F.hayloftref02_More_ok (y0 : Int) (y1a : Option Addr) (y1n : Nat) (y1c : Nat) (K : Value → WP) (w : World) (h : F.hayloftref02_More y0 y1a y1n y1c K w) : callW Try.prog 64 #[.int .u32 y0, .slice y1a y1n y1c] K w :=
  genF_use Try.func64 (F.hayloftref02_More_eq y0 y1a y1n y1c K) h

set_option maxRecDepth 100000 in
set_option linter.unusedVariables false in
def F.hayloftref02_step (y0 : Int) (K : Value → WP) : WP :=
 sem Try.prog (binOp .rem 81 (.int .u32 y0) (.int .u32 2)) fun v1 =>
 asI .u32 v1 fun x2 =>
 sem Try.prog (binOp .quo 81 (.int .u32 y0) (.int .u32 2)) fun v3 =>
 asI .u32 v3 fun x4 =>
 joinW (fun K5 =>
 br (x2 == 1) (
 letv (IntKind.u32.wrap (BitVec.ofInt 32 x4 ^^^ BitVec.ofInt 32 2197175160).toNat) fun x7 =>
 K5 [.int .u32 x7]) (
 K5 [.int .u32 x4])) (fun vs6 =>
 uncons vs6 fun v8 r9 =>
 asI .u32 v8 fun x10 =>
 unnil r9 (
 K (.int .u32 x10)))
theorem F.hayloftref02_step_eq (y0 : Int) (K : Value → WP) : genF Try.prog Try.f67 ⟨[], [(4, [(0, 81)])], [], [], [], []⟩ [.int .u32 y0] K = F.hayloftref02_step y0 K := by kernel_rfl
theorem F.hayloftref02_step_ok (y0 : Int) (K : Value → WP) (w : World) (h : F.hayloftref02_step y0 K w) : callW Try.prog 67 #[.int .u32 y0] K w :=
  genF_use Try.func67 (F.hayloftref02_step_eq y0 K) h
end Go.Proofs.Ytehpdpdmjflddaa
