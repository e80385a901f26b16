/-
  The readings of some functions of the program, printed by gen.py off the cut and checked by the kernel.
-/
import Derived.Test.YtehpdpdmjflddaaGenT
import Derived.Test.YtehpdpdmjflddaaProg
namespace Go.Proofs.Ytehpdpdmjflddaa
open Go.RowKit

set_option maxRecDepth 100000 in
set_option linter.unusedVariables false in
def F.hayloftref21_Bytes (y0_0 : Int) (y0_1 : Int) (y0_2 : Int) (K : Value → WP) : WP :=
 sem Try.prog (Instr.box 69 (.agg #[.int .i64 y0_0, .int .i64 y0_1, .int .i64 y0_2])) fun v2 =>
 asA v2 fun p1 =>
 sem Try.prog (Instr.loadAt 69 (.pointer (some p1))) fun v3 =>
 asAgg v3 fun l4 =>
 uncons l4 fun v5 r6 =>
 asI .i64 v5 fun x7 =>
 uncons r6 fun v8 r9 =>
 asI .i64 v8 fun x10 =>
 uncons r9 fun v11 r12 =>
 asI .i64 v11 fun x13 =>
 unnil r12 (
 callW Try.prog 53 #[.agg #[.int .i64 x7, .int .i64 x10, .int .i64 x13]] fun v14 =>
 asB v14 fun b15 =>
 br (!b15) (
 K (.tuple #[.slice none 0 0, .int .i64 4])) (
 sem Try.prog (Instr.loadAt 3 (.pointer (some p1))) fun v16 =>
 asI .i64 v16 fun x17 =>
 sem Try.prog (Instr.loadAt 3 (.pointer (some (p1.add 1)))) fun v18 =>
 asI .i64 v18 fun x19 =>
 sem Try.prog (Instr.loadAt 3 (.pointer (some (p1.add 2)))) fun v20 =>
 asI .i64 v20 fun x21 =>
 sem Try.prog (Instr.buildSlice 35 3 #[(0, .int .i64 x17), (1, .int .i64 x19), (2, .int .i64 x21)]) fun v22 =>
 asS v22 fun a23 n24 c25 =>
 loopW [.slice none 0 0, .int .i64 0] (fun K26 vs27 =>
 uncons vs27 fun v28 r29 =>
 asS v28 fun a30 n31 c32 =>
 uncons r29 fun v33 r34 =>
 asI .i64 v33 fun x35 =>
 unnil r34 (
 br (decide (x35 < ((n24 : Nat) : Int))) (
 sem Try.prog (Instr.indexAt 35 (.slice a23 n24 c25) (.int .i64 x35)) fun v37 =>
 asA v37 fun p36 =>
 sem Try.prog (Instr.loadAt 3 (.pointer (some p36))) fun v38 =>
 asI .i64 v38 fun x39 =>
 letv (IntKind.u64.wrap x39) fun x40 =>
 callW Try.prog 54 #[.int .u64 x40, .int .i64 4] fun v41 =>
 asS v41 fun a42 n43 c44 =>
 sem Try.prog (Builtin.append_ #[22, 22] 22 #[.slice a30 n31 c32, .slice a42 n43 c44]) fun v45 =>
 asS v45 fun a46 n47 c48 =>
 letv (IntKind.i64.wrap (x35 + 1)) fun x49 =>
 K26 [.slice a46 n47 c48, .int .i64 x49]) (
 sem Try.prog (Builtin.append_ #[22, 3] 22 #[.slice a30 n31 c32, .int .i64 44]) fun v50 =>
 asS v50 fun a51 n52 c53 =>
 callW Try.prog 55 #[.slice a51 n52 c53] fun v54 =>
 asI .u32 v54 fun x55 =>
 letv (IntKind.u64.wrap x55) fun x56 =>
 callW Try.prog 54 #[.int .u64 x56, .int .i64 4] fun v57 =>
 asS v57 fun a58 n59 c60 =>
 sem Try.prog (Builtin.append_ #[22, 22] 22 #[.slice a51 n52 c53, .slice a58 n59 c60]) fun v61 =>
 asS v61 fun a62 n63 c64 =>
 sem Try.prog (Instr.loadAt 3 (.pointer (some p1))) fun v65 =>
 asI .i64 v65 fun x66 =>
 letv (IntKind.u64.wrap x66) fun x67 =>
 callW Try.prog 54 #[.int .u64 x67, .int .i64 4] fun v68 =>
 asS v68 fun a69 n70 c71 =>
 sem Try.prog (Builtin.append_ #[22, 22] 22 #[.slice a62 n63 c64, .slice a69 n70 c71]) fun v72 =>
 asS v72 fun a73 n74 c75 =>
 K (.tuple #[.slice a73 n74 c75, .int .i64 0]))))))
theorem F.hayloftref21_Bytes_eq (y0_0 : Int) (y0_1 : Int) (y0_2 : Int) (K : Value → WP) : genF Try.prog Try.f40 ⟨[(5, [(4, 22), (18, 3)])], [], [], [], []⟩ [.agg #[.int .i64 y0_0, .int .i64 y0_1, .int .i64 y0_2]] K = F.hayloftref21_Bytes y0_0 y0_1 y0_2 K := by kernel_rfl
theorem F.hayloftref21_Bytes_ok (y0_0 : Int) (y0_1 : Int) (y0_2 : Int) (K : Value → WP) (w : World) (h : F.hayloftref21_Bytes y0_0 y0_1 y0_2 K w) : callW Try.prog 40 #[.agg #[.int .i64 y0_0, .int .i64 y0_1, .int .i64 y0_2]] K w :=
  genF_use Try.func40 (F.hayloftref21_Bytes_eq y0_0 y0_1 y0_2 K) h

set_option maxRecDepth 100000 in
set_option linter.unusedVariables false in
def F.hayloftref21_Sector (y0 : Int) (y1 : Int) (K : Value → WP) : WP :=
 br (decide (y0 < 0)) (
 K (.int .i64 (-1))) (
 br (decide (y0 > 1)) (
 K (.int .i64 (-1))) (
 br (decide (y1 < 8)) (
 K (.int .i64 (-1))) (
 br (decide (y1 > 65536)) (
 K (.int .i64 (-1))) (
 br (y0 == 0) (
 K (.int .i64 0)) (
 letv (IntKind.i64.wrap (y1 - 1)) fun x1 =>
 K (.int .i64 x1))))))
theorem F.hayloftref21_Sector_eq (y0 : Int) (y1 : Int) (K : Value → WP) : genF Try.prog Try.f42 ⟨[], [], [], [], []⟩ [.int .i64 y0, .int .i64 y1] K = F.hayloftref21_Sector y0 y1 K := by kernel_rfl
theorem F.hayloftref21_Sector_ok (y0 : Int) (y1 : Int) (K : Value → WP) (w : World) (h : F.hayloftref21_Sector y0 y1 K w) : callW Try.prog 42 #[.int .i64 y0, .int .i64 y1] K w :=
  genF_use Try.func42 (F.hayloftref21_Sector_eq y0 y1 K) h

set_option maxRecDepth 100000 in
set_option linter.unusedVariables false in
def F.hayloftref21_May (y0_0 : Int) (y0_1 : Int) (y0_2 : Int) (K : Value → WP) : WP :=
 sem Try.prog (Instr.box 69 (.agg #[.int .i64 y0_0, .int .i64 y0_1, .int .i64 y0_2])) fun v2 =>
 asA v2 fun p1 =>
 joinW (fun K3 =>
 sem Try.prog (Instr.loadAt 3 (.pointer (some p1))) fun v5 =>
 asI .i64 v5 fun x6 =>
 br (decide (x6 ≥ 1)) (
 sem Try.prog (Instr.loadAt 3 (.pointer (some p1))) fun v7 =>
 asI .i64 v7 fun x8 =>
 br (decide (x8 ≤ 4294967295)) (
 sem Try.prog (Instr.loadAt 3 (.pointer (some (p1.add 1)))) fun v9 =>
 asI .i64 v9 fun x10 =>
 br (decide (x10 ≥ 1)) (
 sem Try.prog (Instr.loadAt 3 (.pointer (some (p1.add 1)))) fun v11 =>
 asI .i64 v11 fun x12 =>
 br (decide (x12 ≤ 65534)) (
 sem Try.prog (Instr.loadAt 3 (.pointer (some (p1.add 2)))) fun v13 =>
 asI .i64 v13 fun x14 =>
 br (decide (x14 ≥ 8)) (
 sem Try.prog (Instr.loadAt 3 (.pointer (some (p1.add 2)))) fun v15 =>
 asI .i64 v15 fun x16 =>
 K3 [.bool (decide (x16 ≤ 65542))]) (
 K3 [.bool false])) (
 K3 [.bool false])) (
 K3 [.bool false])) (
 K3 [.bool false])) (
 K3 [.bool false])) (fun vs4 =>
 uncons vs4 fun v17 r18 =>
 asB v17 fun b19 =>
 unnil r18 (
 K (.bool b19)))
theorem F.hayloftref21_May_eq (y0_0 : Int) (y0_1 : Int) (y0_2 : Int) (K : Value → WP) : genF Try.prog Try.f53 ⟨[], [], [], [(1, [(2, 4)])], []⟩ [.agg #[.int .i64 y0_0, .int .i64 y0_1, .int .i64 y0_2]] K = F.hayloftref21_May y0_0 y0_1 y0_2 K := by kernel_rfl
theorem F.hayloftref21_May_ok (y0_0 : Int) (y0_1 : Int) (y0_2 : Int) (K : Value → WP) (w : World) (h : F.hayloftref21_May y0_0 y0_1 y0_2 K w) : callW Try.prog 53 #[.agg #[.int .i64 y0_0, .int .i64 y0_1, .int .i64 y0_2]] K w :=
  genF_use Try.func53 (F.hayloftref21_May_eq y0_0 y0_1 y0_2 K) h
end Go.Proofs.Ytehpdpdmjflddaa
