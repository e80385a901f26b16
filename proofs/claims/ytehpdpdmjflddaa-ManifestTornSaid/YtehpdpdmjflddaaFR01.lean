/-
  The readings of some functions of the program, printed by gen.py off the cut and checked by the kernel.
-/
import Derived.Test.YtehpdpdmjflddaaGenT
import Derived.Test.YtehpdpdmjflddaaProg
namespace Go.Proofs.Ytehpdpdmjflddaa
open Go.RowKit

set_option maxRecDepth 100000 in
set_option linter.unusedVariables false in
def F.hayloftref01_Same (y0a : Option Addr) (y0n : Nat) (y0c : Nat) (y1a : Option Addr) (y1n : Nat) (y1c : Nat) (K : Value → WP) : WP :=
 sem Try.prog (convert 22 9 (.slice y0a y0n y0c)) fun v1 =>
 asStr v1 fun t2 =>
 sem Try.prog (convert 22 9 (.slice y1a y1n y1c)) fun v3 =>
 asStr v3 fun t4 =>
 K (.bool (t2.toList == t4.toList))
theorem F.hayloftref01_Same_eq (y0a : Option Addr) (y0n : Nat) (y0c : Nat) (y1a : Option Addr) (y1n : Nat) (y1c : Nat) (K : Value → WP) : genF Try.prog Try.f25 ⟨[], [], [], [], [], []⟩ [.slice y0a y0n y0c, .slice y1a y1n y1c] K = F.hayloftref01_Same y0a y0n y0c y1a y1n y1c K := by kernel_rfl
theorem F.hayloftref01_Same_ok (y0a : Option Addr) (y0n : Nat) (y0c : Nat) (y1a : Option Addr) (y1n : Nat) (y1c : Nat) (K : Value → WP) (w : World) (h : F.hayloftref01_Same y0a y0n y0c y1a y1n y1c K w) : callW Try.prog 25 #[.slice y0a y0n y0c, .slice y1a y1n y1c] K w :=
  genF_use Try.func25 (F.hayloftref01_Same_eq y0a y0n y0c y1a y1n y1c K) h

set_option maxRecDepth 100000 in
set_option linter.unusedVariables false in
def F.hayloftref01_Copy (y0a : Option Addr) (y0n : Nat) (y0c : Nat) (K : Value → WP) : WP :=
 sem Try.prog (Instr.buildSlice 22 0 #[]) fun v1 =>
 asS v1 fun a2 n3 c4 =>
 sem Try.prog (Builtin.append_ #[22, 22] 22 #[.slice a2 n3 c4, .slice y0a y0n y0c]) fun v5 =>
 asS v5 fun a6 n7 c8 =>
 K (.slice a6 n7 c8)
theorem F.hayloftref01_Copy_eq (y0a : Option Addr) (y0n : Nat) (y0c : Nat) (K : Value → WP) : genF Try.prog Try.f27 ⟨[], [], [], [], [], []⟩ [.slice y0a y0n y0c] K = F.hayloftref01_Copy y0a y0n y0c K := by kernel_rfl
theorem F.hayloftref01_Copy_ok (y0a : Option Addr) (y0n : Nat) (y0c : Nat) (K : Value → WP) (w : World) (h : F.hayloftref01_Copy y0a y0n y0c K w) : callW Try.prog 27 #[.slice y0a y0n y0c] K w :=
  genF_use Try.func27 (F.hayloftref01_Copy_eq y0a y0n y0c K) h

set_option maxRecDepth 100000 in
set_option linter.unusedVariables false in
def F.hayloftref01_Put (y0 : Int) (y1 : Int) (K : Value → WP) : WP :=
 loopW [.int .u64 y0, .slice none 0 0] (fun K1 vs2 =>
 uncons vs2 fun v3 r4 =>
 asI .u64 v3 fun x5 =>
 uncons r4 fun v6 r7 =>
 asS v6 fun a8 n9 c10 =>
 unnil r7 (
 callW Try.prog 63 #[.int .i64 y1] fun v11 =>
 asI .i64 v11 fun x12 =>
 br (decide (((n9 : Nat) : Int) < x12)) (
 sem Try.prog (binOp .rem 101 (.int .u64 x5) (.int .u64 256)) fun v13 =>
 asI .u64 v13 fun x14 =>
 letv (IntKind.u8.wrap x14) fun x15 =>
 sem Try.prog (Instr.buildSlice 22 1 #[(0, .int .u8 x15)]) fun v16 =>
 asS v16 fun a17 n18 c19 =>
 sem Try.prog (Builtin.append_ #[22, 22] 22 #[.slice a8 n9 c10, .slice a17 n18 c19]) fun v20 =>
 asS v20 fun a21 n22 c23 =>
 sem Try.prog (binOp .quo 101 (.int .u64 x5) (.int .u64 256)) fun v24 =>
 asI .u64 v24 fun x25 =>
 K1 [.int .u64 x25, .slice a21 n22 c23]) (
 K (.slice a8 n9 c10))))
theorem F.hayloftref01_Put_eq (y0 : Int) (y1 : Int) (K : Value → WP) : genF Try.prog Try.f54 ⟨[(2, [(0, 101), (5, 22)])], [], [], [], [], []⟩ [.int .u64 y0, .int .i64 y1] K = F.hayloftref01_Put y0 y1 K := by kernel_rfl
theorem F.hayloftref01_Put_ok (y0 : Int) (y1 : Int) (K : Value → WP) (w : World) (h : F.hayloftref01_Put y0 y1 K w) : callW Try.prog 54 #[.int .u64 y0, .int .i64 y1] K w :=
  genF_use Try.func54 (F.hayloftref01_Put_eq y0 y1 K) h

set_option maxRecDepth 100000 in
set_option linter.unusedVariables false in
def F.hayloftref01_Get (y0a : Option Addr) (y0n : Nat) (y0c : Nat) (K : Value → WP) : WP :=
 letv (minI ((y0n : Nat) : Int) 8) fun x1 =>
 letv (IntKind.i64.wrap (x1 - 1)) fun x2 =>
 loopW [.int .u64 0, .int .i64 x2] (fun K3 vs4 =>
 uncons vs4 fun v5 r6 =>
 asI .u64 v5 fun x7 =>
 uncons r6 fun v8 r9 =>
 asI .i64 v8 fun x10 =>
 unnil r9 (
 br (decide (x10 ≥ 0)) (
 letv (IntKind.u64.wrap (x7 * 256)) fun x11 =>
 sem Try.prog (Instr.indexAt 22 (.slice y0a y0n y0c) (.int .i64 x10)) fun v13 =>
 asA v13 fun p12 =>
 sem Try.prog (Instr.loadAt 5 (.pointer (some p12))) fun v14 =>
 asI .u8 v14 fun x15 =>
 letv (IntKind.u64.wrap x15) fun x16 =>
 letv (IntKind.u64.wrap (x11 + x16)) fun x17 =>
 letv (IntKind.i64.wrap (x10 - 1)) fun x18 =>
 K3 [.int .u64 x17, .int .i64 x18]) (
 K (.int .u64 x7))))
theorem F.hayloftref01_Get_eq (y0a : Option Addr) (y0n : Nat) (y0c : Nat) (K : Value → WP) : genF Try.prog Try.f60 ⟨[(3, [(3, 101), (4, 3)])], [], [], [], [], []⟩ [.slice y0a y0n y0c] K = F.hayloftref01_Get y0a y0n y0c K := by kernel_rfl
theorem F.hayloftref01_Get_ok (y0a : Option Addr) (y0n : Nat) (y0c : Nat) (K : Value → WP) (w : World) (h : F.hayloftref01_Get y0a y0n y0c K w) : callW Try.prog 60 #[.slice y0a y0n y0c] K w :=
  genF_use Try.func60 (F.hayloftref01_Get_eq y0a y0n y0c K) h

set_option maxRecDepth 100000 in
set_option linter.unusedVariables false in
def F.hayloftref01_Width (y0 : Int) (K : Value → WP) : WP :=
 br (decide (y0 < 0)) (
 K (.int .i64 0)) (
 br (decide (y0 > 8)) (
 K (.int .i64 8)) (
 K (.int .i64 y0)))
theorem F.hayloftref01_Width_eq (y0 : Int) (K : Value → WP) : genF Try.prog Try.f63 ⟨[], [], [], [], [], []⟩ [.int .i64 y0] K = F.hayloftref01_Width y0 K := by kernel_rfl
theorem F.hayloftref01_Width_ok (y0 : Int) (K : Value → WP) (w : World) (h : F.hayloftref01_Width y0 K w) : callW Try.prog 63 #[.int .i64 y0] K w :=
  genF_use Try.func63 (F.hayloftref01_Width_eq y0 K) h
end Go.Proofs.Ytehpdpdmjflddaa
