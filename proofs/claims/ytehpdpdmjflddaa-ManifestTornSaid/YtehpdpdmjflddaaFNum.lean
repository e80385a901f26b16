/-
  The readings of some functions of the program, printed by gen.py off the cut and checked by the kernel.
-/
import Derived.Test.YtehpdpdmjflddaaGenT
import Derived.Test.YtehpdpdmjflddaaProg
namespace Go.Proofs.Ytehpdpdmjflddaa
open Go.RowKit

set_option maxRecDepth 100000 in
set_option linter.unusedVariables false in
def F.num_Put (y0 : Int) (y1 : Int) (K : Value → WP) : WP :=
 sem Try.prog (Instr.alloc 111 true (.tuple #[])) fun v2 =>
 asA v2 fun p1 =>
 callW Try.prog 61 #[.int .i64 y1] fun v3 =>
 asI .i64 v3 fun x4 =>
 joinW (fun K5 =>
 joinW (fun K7 =>
 joinW (fun K9 =>
 joinW (fun K11 =>
 joinW (fun K13 =>
 joinW (fun K15 =>
 joinW (fun K17 =>
 joinW (fun K19 =>
 br (x4 == 8) (
 sem Try.prog (binOp .shr 101 (.int .u64 y0) (.int .u64 56)) fun v21 =>
 asI .u64 v21 fun x22 =>
 letv (IntKind.u8.wrap x22) fun x23 =>
 sem Try.prog (Instr.indexAt 111 (.pointer (some p1)) (.int .i64 7)) fun v25 =>
 asA v25 fun p24 =>
 sem Try.prog (Instr.storeAt 5 (.pointer (some p24)) (.int .u8 x23)) fun _ =>
 K19 []) (
 br (x4 == 7) (
 K19 []) (
 br (x4 == 6) (
 K17 []) (
 br (x4 == 5) (
 K15 []) (
 br (x4 == 4) (
 K13 []) (
 br (x4 == 3) (
 K11 []) (
 br (x4 == 2) (
 K9 []) (
 br (x4 == 1) (
 K7 []) (
 K5 []))))))))) (fun vs20 =>
 unnil vs20 (
 sem Try.prog (binOp .shr 101 (.int .u64 y0) (.int .u64 48)) fun v26 =>
 asI .u64 v26 fun x27 =>
 letv (IntKind.u8.wrap x27) fun x28 =>
 sem Try.prog (Instr.indexAt 111 (.pointer (some p1)) (.int .i64 6)) fun v30 =>
 asA v30 fun p29 =>
 sem Try.prog (Instr.storeAt 5 (.pointer (some p29)) (.int .u8 x28)) fun _ =>
 K17 []))) (fun vs18 =>
 unnil vs18 (
 sem Try.prog (binOp .shr 101 (.int .u64 y0) (.int .u64 40)) fun v31 =>
 asI .u64 v31 fun x32 =>
 letv (IntKind.u8.wrap x32) fun x33 =>
 sem Try.prog (Instr.indexAt 111 (.pointer (some p1)) (.int .i64 5)) fun v35 =>
 asA v35 fun p34 =>
 sem Try.prog (Instr.storeAt 5 (.pointer (some p34)) (.int .u8 x33)) fun _ =>
 K15 []))) (fun vs16 =>
 unnil vs16 (
 sem Try.prog (binOp .shr 101 (.int .u64 y0) (.int .u64 32)) fun v36 =>
 asI .u64 v36 fun x37 =>
 letv (IntKind.u8.wrap x37) fun x38 =>
 sem Try.prog (Instr.indexAt 111 (.pointer (some p1)) (.int .i64 4)) fun v40 =>
 asA v40 fun p39 =>
 sem Try.prog (Instr.storeAt 5 (.pointer (some p39)) (.int .u8 x38)) fun _ =>
 K13 []))) (fun vs14 =>
 unnil vs14 (
 sem Try.prog (binOp .shr 101 (.int .u64 y0) (.int .u64 24)) fun v41 =>
 asI .u64 v41 fun x42 =>
 letv (IntKind.u8.wrap x42) fun x43 =>
 sem Try.prog (Instr.indexAt 111 (.pointer (some p1)) (.int .i64 3)) fun v45 =>
 asA v45 fun p44 =>
 sem Try.prog (Instr.storeAt 5 (.pointer (some p44)) (.int .u8 x43)) fun _ =>
 K11 []))) (fun vs12 =>
 unnil vs12 (
 sem Try.prog (binOp .shr 101 (.int .u64 y0) (.int .u64 16)) fun v46 =>
 asI .u64 v46 fun x47 =>
 letv (IntKind.u8.wrap x47) fun x48 =>
 sem Try.prog (Instr.indexAt 111 (.pointer (some p1)) (.int .i64 2)) fun v50 =>
 asA v50 fun p49 =>
 sem Try.prog (Instr.storeAt 5 (.pointer (some p49)) (.int .u8 x48)) fun _ =>
 K9 []))) (fun vs10 =>
 unnil vs10 (
 sem Try.prog (binOp .shr 101 (.int .u64 y0) (.int .u64 8)) fun v51 =>
 asI .u64 v51 fun x52 =>
 letv (IntKind.u8.wrap x52) fun x53 =>
 sem Try.prog (Instr.indexAt 111 (.pointer (some p1)) (.int .i64 1)) fun v55 =>
 asA v55 fun p54 =>
 sem Try.prog (Instr.storeAt 5 (.pointer (some p54)) (.int .u8 x53)) fun _ =>
 K7 []))) (fun vs8 =>
 unnil vs8 (
 letv (IntKind.u8.wrap y0) fun x56 =>
 sem Try.prog (Instr.indexAt 111 (.pointer (some p1)) (.int .i64 0)) fun v58 =>
 asA v58 fun p57 =>
 sem Try.prog (Instr.storeAt 5 (.pointer (some p57)) (.int .u8 x56)) fun _ =>
 K5 []))) (fun vs6 =>
 unnil vs6 (
 sem Try.prog (Instr.makeSlice 22 (.int .i64 x4) (.int .i64 x4)) fun v59 =>
 asS v59 fun a60 n61 c62 =>
 sem Try.prog (Instr.sliceAt 111 (.pointer (some p1)) none none none) fun v63 =>
 asS v63 fun a64 n65 c66 =>
 sem Try.prog (Builtin.copy_ #[22, 22] 3 #[.slice a60 n61 c62, .slice a64 n65 c66]) fun v67 =>
 asI .i64 v67 fun x68 =>
 K (.slice a60 n61 c62)))
theorem F.num_Put_eq (y0 : Int) (y1 : Int) (K : Value → WP) : genF Try.prog Try.f51 ⟨[], [], [(0, []), (2, []), (3, []), (4, []), (5, []), (6, []), (7, []), (8, [])], [], [], []⟩ [.int .u64 y0, .int .i64 y1] K = F.num_Put y0 y1 K := by kernel_rfl
theorem F.num_Put_ok (y0 : Int) (y1 : Int) (K : Value → WP) (w : World) (h : F.num_Put y0 y1 K w) : callW Try.prog 51 #[.int .u64 y0, .int .i64 y1] K w :=
  genF_use Try.func51 (F.num_Put_eq y0 y1 K) h

set_option maxRecDepth 100000 in
set_option linter.unusedVariables false in
def F.num_Get (y0a : Option Addr) (y0n : Nat) (y0c : Nat) (K : Value → WP) : WP :=
 loopW [.int .u64 0, .int .i64 0] (fun K1 vs2 =>
 uncons vs2 fun v3 r4 =>
 asI .u64 v3 fun x5 =>
 uncons r4 fun v6 r7 =>
 asI .i64 v6 fun x8 =>
 unnil r7 (
 br (decide (x8 < ((y0n : Nat) : Int))) (
 br (decide (x8 < 8)) (
 sem Try.prog (Instr.indexAt 22 (.slice y0a y0n y0c) (.int .i64 x8)) fun v10 =>
 asA v10 fun p9 =>
 sem Try.prog (Instr.loadAt 5 (.pointer (some p9))) fun v11 =>
 asI .u8 v11 fun x12 =>
 letv (IntKind.u64.wrap x12) fun x13 =>
 letv (IntKind.i64.wrap (8 * x8)) fun x14 =>
 sem Try.prog (binOp .shl 101 (.int .u64 x13) (.int .i64 x14)) fun v15 =>
 asI .u64 v15 fun x16 =>
 letv (IntKind.u64.wrap (BitVec.ofInt 64 x5 ||| BitVec.ofInt 64 x16).toNat) fun x17 =>
 letv (IntKind.i64.wrap (x8 + 1)) fun x18 =>
 K1 [.int .u64 x17, .int .i64 x18]) (
 K (.int .u64 x5))) (
 K (.int .u64 x5))))
theorem F.num_Get_eq (y0a : Option Addr) (y0n : Nat) (y0c : Nat) (K : Value → WP) : genF Try.prog Try.f57 ⟨[(3, [(3, 101), (4, 3)])], [], [], [], [], []⟩ [.slice y0a y0n y0c] K = F.num_Get y0a y0n y0c K := by kernel_rfl
theorem F.num_Get_ok (y0a : Option Addr) (y0n : Nat) (y0c : Nat) (K : Value → WP) (w : World) (h : F.num_Get y0a y0n y0c K w) : callW Try.prog 57 #[.slice y0a y0n y0c] K w :=
  genF_use Try.func57 (F.num_Get_eq y0a y0n y0c K) h

set_option maxRecDepth 100000 in
set_option linter.unusedVariables false in
def F.num_Open (y0a : Option Addr) (y0n : Nat) (y0c : Nat) (K : Value → WP) : WP :=
 sem Try.prog (Instr.makeSlice 22 (.int .i64 ((y0n : Nat) : Int)) (.int .i64 ((y0n : Nat) : Int))) fun v1 =>
 asS v1 fun a2 n3 c4 =>
 sem Try.prog (Builtin.copy_ #[22, 22] 3 #[.slice a2 n3 c4, .slice y0a y0n y0c]) fun v5 =>
 asI .i64 v5 fun x6 =>
 sem Try.prog (Instr.box 115 (.agg #[.slice a2 n3 c4, .int .i64 0])) fun v8 =>
 asA v8 fun p7 =>
 K (.pointer (some p7))
theorem F.num_Open_eq (y0a : Option Addr) (y0n : Nat) (y0c : Nat) (K : Value → WP) : genF Try.prog Try.f58 ⟨[], [], [], [], [], []⟩ [.slice y0a y0n y0c] K = F.num_Open y0a y0n y0c K := by kernel_rfl
theorem F.num_Open_ok (y0a : Option Addr) (y0n : Nat) (y0c : Nat) (K : Value → WP) (w : World) (h : F.num_Open y0a y0n y0c K w) : callW Try.prog 58 #[.slice y0a y0n y0c] K w :=
  genF_use Try.func58 (F.num_Open_eq y0a y0n y0c K) h

set_option maxRecDepth 100000 in
set_option linter.unusedVariables false in
def F.num_Reader_Fixed (y0 : Option Addr) (y1 : Int) (K : Value → WP) : WP :=
 callW Try.prog 61 #[.int .i64 y1] fun v1 =>
 asI .i64 v1 fun x2 =>
 callW Try.prog 65 #[.pointer y0, .int .i64 x2] fun v3 =>
 asS v3 fun a4 n5 c6 =>
 callW Try.prog 57 #[.slice a4 n5 c6] fun v7 =>
 asI .u64 v7 fun x8 =>
 K (.int .u64 x8)
theorem F.num_Reader_Fixed_eq (y0 : Option Addr) (y1 : Int) (K : Value → WP) : genF Try.prog Try.f59 ⟨[], [], [], [], [], []⟩ [.pointer y0, .int .i64 y1] K = F.num_Reader_Fixed y0 y1 K := by kernel_rfl
theorem F.num_Reader_Fixed_ok (y0 : Option Addr) (y1 : Int) (K : Value → WP) (w : World) (h : F.num_Reader_Fixed y0 y1 K w) : callW Try.prog 59 #[.pointer y0, .int .i64 y1] K w :=
  genF_use Try.func59 (F.num_Reader_Fixed_eq y0 y1 K) h

set_option maxRecDepth 100000 in
set_option linter.unusedVariables false in
def F.num_clamp (y0 : Int) (K : Value → WP) : WP :=
 letv (minI y0 8) fun x1 =>
 letv (maxI 0 x1) fun x2 =>
 K (.int .i64 x2)
theorem F.num_clamp_eq (y0 : Int) (K : Value → WP) : genF Try.prog Try.f61 ⟨[], [], [], [], [], []⟩ [.int .i64 y0] K = F.num_clamp y0 K := by kernel_rfl
theorem F.num_clamp_ok (y0 : Int) (K : Value → WP) (w : World) (h : F.num_clamp y0 K w) : callW Try.prog 61 #[.int .i64 y0] K w :=
  genF_use Try.func61 (F.num_clamp_eq y0 K) h

set_option maxRecDepth 100000 in
set_option linter.unusedVariables false in
def F.num_Reader_Bytes (y0 : Option Addr) (y1 : Int) (K : Value → WP) : WP :=
 br (y0.isNone) (
 K (.slice none 0 0)) (
 asA (.pointer y0) fun p1 =>
 sem Try.prog (Instr.loadAt 27 (.pointer (some (p1.add 1)))) fun v2 =>
 asI .i64 v2 fun x3 =>
 br (x3 != 0) (
 K (.slice none 0 0)) (
 br (decide (y1 ≤ 0)) (
 K (.slice none 0 0)) (
 asA (.pointer y0) fun p4 =>
 sem Try.prog (Instr.loadAt 22 (.pointer (some p4))) fun v5 =>
 asS v5 fun a6 n7 c8 =>
 br (decide (y1 > ((n7 : Nat) : Int))) (
 asA (.pointer y0) fun p9 =>
 sem Try.prog (Instr.storeAt 27 (.pointer (some (p9.add 1))) (.int .i64 3)) fun _ =>
 K (.slice none 0 0)) (
 sem Try.prog (Instr.makeSlice 22 (.int .i64 y1) (.int .i64 y1)) fun v10 =>
 asS v10 fun a11 n12 c13 =>
 asA (.pointer y0) fun p14 =>
 sem Try.prog (Instr.loadAt 22 (.pointer (some p14))) fun v15 =>
 asS v15 fun a16 n17 c18 =>
 sem Try.prog (Builtin.copy_ #[22, 22] 3 #[.slice a11 n12 c13, .slice a16 n17 c18]) fun v19 =>
 asI .i64 v19 fun x20 =>
 asA (.pointer y0) fun p21 =>
 sem Try.prog (Instr.loadAt 22 (.pointer (some p21))) fun v22 =>
 asS v22 fun a23 n24 c25 =>
 sem Try.prog (Instr.sliceAt 22 (.slice a23 n24 c25) (some (.int .i64 y1)) none none) fun v26 =>
 asS v26 fun a27 n28 c29 =>
 asA (.pointer y0) fun p30 =>
 sem Try.prog (Instr.storeAt 22 (.pointer (some p30)) (.slice a27 n28 c29)) fun _ =>
 K (.slice a11 n12 c13)))))
theorem F.num_Reader_Bytes_eq (y0 : Option Addr) (y1 : Int) (K : Value → WP) : genF Try.prog Try.f65 ⟨[], [], [], [], [], []⟩ [.pointer y0, .int .i64 y1] K = F.num_Reader_Bytes y0 y1 K := by kernel_rfl
theorem F.num_Reader_Bytes_ok (y0 : Option Addr) (y1 : Int) (K : Value → WP) (w : World) (h : F.num_Reader_Bytes y0 y1 K w) : callW Try.prog 65 #[.pointer y0, .int .i64 y1] K w :=
  genF_use Try.func65 (F.num_Reader_Bytes_eq y0 y1 K) h
end Go.Proofs.Ytehpdpdmjflddaa
