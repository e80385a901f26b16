/-
  The readings of some functions of the program, printed by gen.py off the cut and checked by the kernel.
-/
import Derived.Test.YtehpdpdmjflddaaGenT
import Derived.Test.YtehpdpdmjflddaaProg
namespace Go.Proofs.Ytehpdpdmjflddaa
open Go.RowKit

set_option maxRecDepth 100000 in
set_option linter.unusedVariables false in
def F.hayloftref05_Lay (y0a : Option Addr) (y0n : Nat) (y0c : Nat) (K : Value → WP) : WP :=
 sem Try.prog (binOp .rem 3 (.int .i64 ((y0n : Nat) : Int)) (.int .i64 64)) fun v1 =>
 asI .i64 v1 fun x2 =>
 br (x2 != 0) (
 K (.tuple #[.pointer none, .int .i64 2])) (
 sem Try.prog (binOp .quo 3 (.int .i64 ((y0n : Nat) : Int)) (.int .i64 64)) fun v3 =>
 asI .i64 v3 fun x4 =>
 callW Try.prog 31 #[.int .i64 x4] fun v5 =>
 asTup v5 fun l6 =>
 uncons l6 fun v7 r8 =>
 asP v7 fun q9 =>
 uncons r8 fun v10 r11 =>
 asI .i64 v10 fun x12 =>
 unnil r11 (
 br (x12 != 0) (
 K (.tuple #[.pointer none, .int .i64 x12])) (
 asA (.pointer q9) fun p13 =>
 sem Try.prog (Instr.loadAt 52 (.pointer (some p13))) fun v14 =>
 asS v14 fun a15 n16 c17 =>
 loopW [.int .i64 0] (fun K18 vs19 =>
 uncons vs19 fun v20 r21 =>
 asI .i64 v20 fun x22 =>
 unnil r21 (
 br (decide (x22 < ((n16 : Nat) : Int))) (
 need true (pinW fun L23 =>
 asA (.pointer q9) fun p24 =>
 sem Try.prog (Instr.loadAt 52 (.pointer (some p24))) fun v25 =>
 asS v25 fun a26 n27 c28 =>
 letv (IntKind.i64.wrap (64 * x22)) fun x29 =>
 letv (IntKind.i64.wrap (64 * x22)) fun x30 =>
 letv (IntKind.i64.wrap (x30 + 64)) fun x31 =>
 sem Try.prog (Instr.sliceAt 22 (.slice y0a y0n y0c) (some (.int .i64 x29)) (some (.int .i64 x31)) none) fun v32 =>
 asS v32 fun a33 n34 c35 =>
 callW Try.prog 47 #[.slice a33 n34 c35] fun v36 =>
 asS v36 fun a37 n38 c39 =>
 chkW L23 (
 sem Try.prog (Instr.indexAt 52 (.slice a26 n27 c28) (.int .i64 x22)) fun v41 =>
 asA v41 fun p40 =>
 sem Try.prog (Instr.storeAt 22 (.pointer (some p40)) (.slice a37 n38 c39)) fun _ =>
 need true (endW L23 [(some p24)] (
 letv (IntKind.i64.wrap (x22 + 1)) fun x42 =>
 K18 [.int .i64 x42]))))) (
 K (.tuple #[.pointer q9, .int .i64 0])))))))
theorem F.hayloftref05_Lay_eq (y0a : Option Addr) (y0n : Nat) (y0c : Nat) (K : Value → WP) : genF Try.prog Try.f29 ⟨[(7, [(26, 3)])], [], [], [], [(9, 13)]⟩ [.slice y0a y0n y0c] K = F.hayloftref05_Lay y0a y0n y0c K := by kernel_rfl
theorem F.hayloftref05_Lay_ok (y0a : Option Addr) (y0n : Nat) (y0c : Nat) (K : Value → WP) (w : World) (h : F.hayloftref05_Lay y0a y0n y0c K w) : callW Try.prog 29 #[.slice y0a y0n y0c] K w :=
  genF_use Try.func29 (F.hayloftref05_Lay_eq y0a y0n y0c K) h

set_option maxRecDepth 100000 in
set_option linter.unusedVariables false in
def F.hayloftref05_New (y0 : Int) (K : Value → WP) : WP :=
 br (decide (y0 < 8)) (
 K (.tuple #[.pointer none, .int .i64 2])) (
 br (decide (y0 > 65536)) (
 K (.tuple #[.pointer none, .int .i64 2])) (
 sem Try.prog (Instr.box 55 (.agg #[.slice none 0 0, .slice none 0 0, .int .i64 0, .bool false, .int .i64 0])) fun v2 =>
 asA v2 fun p1 =>
 loopW [.int .i64 0] (fun K3 vs4 =>
 uncons vs4 fun v5 r6 =>
 asI .i64 v5 fun x7 =>
 unnil r6 (
 br (decide (x7 < y0)) (
 need true (pinW fun L8 =>
 asA (.pointer (some p1)) fun p9 =>
 sem Try.prog (Instr.loadAt 52 (.pointer (some p9))) fun v10 =>
 asS v10 fun a11 n12 c13 =>
 callW Try.prog 47 #[.slice none 0 0] fun v14 =>
 asS v14 fun a15 n16 c17 =>
 chkW L8 (
 sem Try.prog (Instr.buildSlice 52 1 #[(0, .slice a15 n16 c17)]) fun v18 =>
 asS v18 fun a19 n20 c21 =>
 sem Try.prog (Builtin.append_ #[52, 52] 52 #[.slice a11 n12 c13, .slice a19 n20 c21]) fun v22 =>
 asS v22 fun a23 n24 c25 =>
 chkW L8 (
 asA (.pointer (some p1)) fun p26 =>
 sem Try.prog (Instr.storeAt 52 (.pointer (some p26)) (.slice a23 n24 c25)) fun _ =>
 need true (endW L8 [(some p9)] (
 letv (IntKind.i64.wrap (x7 + 1)) fun x27 =>
 K3 [.int .i64 x27])))))) (
 K (.tuple #[.pointer (some p1), .int .i64 0]))))))
theorem F.hayloftref05_New_eq (y0 : Int) (K : Value → WP) : genF Try.prog Try.f31 ⟨[(5, [(5, 3)])], [], [], [], [(7, 8)]⟩ [.int .i64 y0] K = F.hayloftref05_New y0 K := by kernel_rfl
theorem F.hayloftref05_New_ok (y0 : Int) (K : Value → WP) (w : World) (h : F.hayloftref05_New y0 K w) : callW Try.prog 31 #[.int .i64 y0] K w :=
  genF_use Try.func31 (F.hayloftref05_New_eq y0 K) h

set_option maxRecDepth 100000 in
set_option linter.unusedVariables false in
def F.hayloftref05_Disk_Read (y0 : Option Addr) (y1 : Int) (K : Value → WP) : WP :=
 asA (.pointer y0) fun p1 =>
 sem Try.prog (Instr.loadAt 4 (.pointer (some (p1.add 3)))) fun v2 =>
 asB v2 fun b3 =>
 br b3 (
 K (.tuple #[.slice none 0 0, .int .i64 14])) (
 br (decide (y1 < 0)) (
 K (.tuple #[.slice none 0 0, .int .i64 2])) (
 asA (.pointer y0) fun p4 =>
 sem Try.prog (Instr.loadAt 52 (.pointer (some p4))) fun v5 =>
 asS v5 fun a6 n7 c8 =>
 br (decide (y1 ≥ ((n7 : Nat) : Int))) (
 K (.tuple #[.slice none 0 0, .int .i64 2])) (
 asA (.pointer y0) fun p9 =>
 sem Try.prog (Instr.loadAt 52 (.pointer (some p9))) fun v10 =>
 asS v10 fun a11 n12 c13 =>
 sem Try.prog (Instr.indexAt 52 (.slice a11 n12 c13) (.int .i64 y1)) fun v15 =>
 asA v15 fun p14 =>
 sem Try.prog (Instr.loadAt 22 (.pointer (some p14))) fun v16 =>
 asS v16 fun a17 n18 c19 =>
 asA (.pointer y0) fun p20 =>
 sem Try.prog (Instr.loadAt 53 (.pointer (some (p20.add 1)))) fun v21 =>
 asS v21 fun a22 n23 c24 =>
 loopW [.slice a17 n18 c19, .int .i64 0] (fun K25 vs26 =>
 uncons vs26 fun v27 r28 =>
 asS v27 fun a29 n30 c31 =>
 uncons r28 fun v32 r33 =>
 asI .i64 v32 fun x34 =>
 unnil r33 (
 br (decide (x34 < ((n23 : Nat) : Int))) (
 sem Try.prog (Instr.indexAt 53 (.slice a22 n23 c24) (.int .i64 x34)) fun v36 =>
 asA v36 fun p35 =>
 sem Try.prog (Instr.loadAt 96 (.pointer (some p35))) fun v37 =>
 asAgg v37 fun l38 =>
 uncons l38 fun v39 r40 =>
 asI .i64 v39 fun x41 =>
 uncons r40 fun v42 r43 =>
 asS v42 fun a44 n45 c46 =>
 unnil r43 (
 sem Try.prog (Instr.alloc 96 true (.tuple #[])) fun v48 =>
 asA v48 fun p47 =>
 sem Try.prog (Instr.storeAt 96 (.pointer (some p47)) (.agg #[.int .i64 x41, .slice a44 n45 c46])) fun _ =>
 sem Try.prog (Instr.loadAt 3 (.pointer (some p47))) fun v49 =>
 asI .i64 v49 fun x50 =>
 joinW (fun K51 =>
 br (x50 == y1) (
 sem Try.prog (Instr.loadAt 22 (.pointer (some (p47.add 1)))) fun v53 =>
 asS v53 fun a54 n55 c56 =>
 K51 [.slice a54 n55 c56]) (
 K51 [.slice a29 n30 c31])) (fun vs52 =>
 uncons vs52 fun v57 r58 =>
 asS v57 fun a59 n60 c61 =>
 unnil r58 (
 letv (IntKind.i64.wrap (x34 + 1)) fun x62 =>
 K25 [.slice a59 n60 c61, .int .i64 x62])))) (
 callW Try.prog 47 #[.slice a29 n30 c31] fun v63 =>
 asS v63 fun a64 n65 c66 =>
 K (.tuple #[.slice a64 n65 c66, .int .i64 0])))))))
theorem F.hayloftref05_Disk_Read_eq (y0 : Option Addr) (y1 : Int) (K : Value → WP) : genF Try.prog Try.f32 ⟨[(7, [(6, 22), (36, 3)])], [(10, [(6, 22)])], [], [], []⟩ [.pointer y0, .int .i64 y1] K = F.hayloftref05_Disk_Read y0 y1 K := by kernel_rfl
theorem F.hayloftref05_Disk_Read_ok (y0 : Option Addr) (y1 : Int) (K : Value → WP) (w : World) (h : F.hayloftref05_Disk_Read y0 y1 K w) : callW Try.prog 32 #[.pointer y0, .int .i64 y1] K w :=
  genF_use Try.func32 (F.hayloftref05_Disk_Read_eq y0 y1 K) h

set_option maxRecDepth 100000 in
set_option linter.unusedVariables false in
def F.hayloftref05_Disk_Write (y0 : Option Addr) (y1 : Int) (y2a : Option Addr) (y2n : Nat) (y2c : Nat) (K : Value → WP) : WP :=
 asA (.pointer y0) fun p1 =>
 sem Try.prog (Instr.loadAt 4 (.pointer (some (p1.add 3)))) fun v2 =>
 asB v2 fun b3 =>
 br b3 (
 K (.int .i64 14)) (
 br (decide (y1 < 0)) (
 K (.int .i64 2)) (
 asA (.pointer y0) fun p4 =>
 sem Try.prog (Instr.loadAt 52 (.pointer (some p4))) fun v5 =>
 asS v5 fun a6 n7 c8 =>
 br (decide (y1 ≥ ((n7 : Nat) : Int))) (
 K (.int .i64 2)) (
 br (decide (((y2n : Nat) : Int) > 64)) (
 K (.int .i64 6)) (
 need true (pinW fun L9 =>
 asA (.pointer y0) fun p10 =>
 sem Try.prog (Instr.loadAt 53 (.pointer (some (p10.add 1)))) fun v11 =>
 asS v11 fun a12 n13 c14 =>
 callW Try.prog 47 #[.slice y2a y2n y2c] fun v15 =>
 asS v15 fun a16 n17 c18 =>
 chkW L9 (
 sem Try.prog (Instr.buildSlice 53 1 #[(0, .agg #[.int .i64 y1, .slice a16 n17 c18])]) fun v19 =>
 asS v19 fun a20 n21 c22 =>
 sem Try.prog (Builtin.append_ #[53, 53] 53 #[.slice a12 n13 c14, .slice a20 n21 c22]) fun v23 =>
 asS v23 fun a24 n25 c26 =>
 chkW L9 (
 asA (.pointer y0) fun p27 =>
 sem Try.prog (Instr.storeAt 53 (.pointer (some (p27.add 1))) (.slice a24 n25 c26)) fun _ =>
 need true (endW L9 [(some (p10.add 1))] (
 callW Try.prog 48 #[.pointer y0] fun v28 =>
 asB v28 fun b29 =>
 br b29 (
 K (.int .i64 14)) (
 K (.int .i64 0)))))))))))
theorem F.hayloftref05_Disk_Write_eq (y0 : Option Addr) (y1 : Int) (y2a : Option Addr) (y2n : Nat) (y2c : Nat) (K : Value → WP) : genF Try.prog Try.f33 ⟨[], [], [], [], [(7, 11)]⟩ [.pointer y0, .int .i64 y1, .slice y2a y2n y2c] K = F.hayloftref05_Disk_Write y0 y1 y2a y2n y2c K := by kernel_rfl
theorem F.hayloftref05_Disk_Write_ok (y0 : Option Addr) (y1 : Int) (y2a : Option Addr) (y2n : Nat) (y2c : Nat) (K : Value → WP) (w : World) (h : F.hayloftref05_Disk_Write y0 y1 y2a y2n y2c K w) : callW Try.prog 33 #[.pointer y0, .int .i64 y1, .slice y2a y2n y2c] K w :=
  genF_use Try.func33 (F.hayloftref05_Disk_Write_eq y0 y1 y2a y2n y2c K) h

set_option maxRecDepth 100000 in
set_option linter.unusedVariables false in
def F.hayloftref05_Disk_Flush (y0 : Option Addr) (K : Value → WP) : WP :=
 asA (.pointer y0) fun p1 =>
 sem Try.prog (Instr.loadAt 4 (.pointer (some (p1.add 3)))) fun v2 =>
 asB v2 fun b3 =>
 br b3 (
 K (.int .i64 14)) (
 callW Try.prog 48 #[.pointer y0] fun v4 =>
 asB v4 fun b5 =>
 br b5 (
 K (.int .i64 14)) (
 asA (.pointer y0) fun p6 =>
 sem Try.prog (Instr.loadAt 53 (.pointer (some (p6.add 1)))) fun v7 =>
 asS v7 fun a8 n9 c10 =>
 loopW [.int .i64 0] (fun K11 vs12 =>
 uncons vs12 fun v13 r14 =>
 asI .i64 v13 fun x15 =>
 unnil r14 (
 br (decide (x15 < ((n9 : Nat) : Int))) (
 sem Try.prog (Instr.indexAt 53 (.slice a8 n9 c10) (.int .i64 x15)) fun v17 =>
 asA v17 fun p16 =>
 sem Try.prog (Instr.loadAt 96 (.pointer (some p16))) fun v18 =>
 asAgg v18 fun l19 =>
 uncons l19 fun v20 r21 =>
 asI .i64 v20 fun x22 =>
 uncons r21 fun v23 r24 =>
 asS v23 fun a25 n26 c27 =>
 unnil r24 (
 sem Try.prog (Instr.alloc 96 true (.tuple #[])) fun v29 =>
 asA v29 fun p28 =>
 sem Try.prog (Instr.storeAt 96 (.pointer (some p28)) (.agg #[.int .i64 x22, .slice a25 n26 c27])) fun _ =>
 need true (pinW fun L30 =>
 asA (.pointer y0) fun p31 =>
 sem Try.prog (Instr.loadAt 52 (.pointer (some p31))) fun v32 =>
 asS v32 fun a33 n34 c35 =>
 sem Try.prog (Instr.loadAt 3 (.pointer (some p28))) fun v36 =>
 asI .i64 v36 fun x37 =>
 sem Try.prog (Instr.loadAt 22 (.pointer (some (p28.add 1)))) fun v38 =>
 asS v38 fun a39 n40 c41 =>
 callW Try.prog 47 #[.slice a39 n40 c41] fun v42 =>
 asS v42 fun a43 n44 c45 =>
 chkW L30 (
 sem Try.prog (Instr.indexAt 52 (.slice a33 n34 c35) (.int .i64 x37)) fun v47 =>
 asA v47 fun p46 =>
 sem Try.prog (Instr.storeAt 22 (.pointer (some p46)) (.slice a43 n44 c45)) fun _ =>
 need true (endW L30 [(some p28), (some p31)] (
 letv (IntKind.i64.wrap (x15 + 1)) fun x48 =>
 K11 [.int .i64 x48])))))) (
 asA (.pointer y0) fun p49 =>
 sem Try.prog (Instr.storeAt 53 (.pointer (some (p49.add 1))) (.slice none 0 0)) fun _ =>
 K (.int .i64 0))))))
theorem F.hayloftref05_Disk_Flush_eq (y0 : Option Addr) (K : Value → WP) : genF Try.prog Try.f34 ⟨[(4, [(18, 3)])], [], [], [], [(6, 9)]⟩ [.pointer y0] K = F.hayloftref05_Disk_Flush y0 K := by kernel_rfl
theorem F.hayloftref05_Disk_Flush_ok (y0 : Option Addr) (K : Value → WP) (w : World) (h : F.hayloftref05_Disk_Flush y0 K w) : callW Try.prog 34 #[.pointer y0] K w :=
  genF_use Try.func34 (F.hayloftref05_Disk_Flush_eq y0 K) h

set_option maxRecDepth 100000 in
set_option linter.unusedVariables false in
def F.hayloftref05_Disk_Arm (y0 : Option Addr) (y1 : Int) (K : Value → WP) : WP :=
 asA (.pointer y0) fun p1 =>
 sem Try.prog (Instr.loadAt 4 (.pointer (some (p1.add 3)))) fun v2 =>
 asB v2 fun b3 =>
 joinW (fun K4 =>
 br (!b3) (
 letv (maxI 0 y1) fun x6 =>
 asA (.pointer y0) fun p7 =>
 sem Try.prog (Instr.storeAt 3 (.pointer (some (p7.add 2))) (.int .i64 x6)) fun _ =>
 K4 []) (
 K4 [])) (fun vs5 =>
 unnil vs5 (
 K (.tuple #[])))
theorem F.hayloftref05_Disk_Arm_eq (y0 : Option Addr) (y1 : Int) (K : Value → WP) : genF Try.prog Try.f35 ⟨[], [(1, [])], [], [], []⟩ [.pointer y0, .int .i64 y1] K = F.hayloftref05_Disk_Arm y0 y1 K := by kernel_rfl
theorem F.hayloftref05_Disk_Arm_ok (y0 : Option Addr) (y1 : Int) (K : Value → WP) (w : World) (h : F.hayloftref05_Disk_Arm y0 y1 K w) : callW Try.prog 35 #[.pointer y0, .int .i64 y1] K w :=
  genF_use Try.func35 (F.hayloftref05_Disk_Arm_eq y0 y1 K) h

set_option maxRecDepth 100000 in
set_option linter.unusedVariables false in
def F.hayloftref05_Disk_Crash (y0 : Option Addr) (y1a : Option Addr) (y1n : Nat) (y1c : Nat) (K : Value → WP) : WP :=
 asA (.pointer y0) fun p1 =>
 sem Try.prog (Instr.loadAt 53 (.pointer (some (p1.add 1)))) fun v2 =>
 asS v2 fun a3 n4 c5 =>
 loopW [.int .i64 0] (fun K6 vs7 =>
 uncons vs7 fun v8 r9 =>
 asI .i64 v8 fun x10 =>
 unnil r9 (
 br (decide (x10 < ((n4 : Nat) : Int))) (
 sem Try.prog (Instr.indexAt 53 (.slice a3 n4 c5) (.int .i64 x10)) fun v12 =>
 asA v12 fun p11 =>
 sem Try.prog (Instr.loadAt 96 (.pointer (some p11))) fun v13 =>
 asAgg v13 fun l14 =>
 uncons l14 fun v15 r16 =>
 asI .i64 v15 fun x17 =>
 uncons r16 fun v18 r19 =>
 asS v18 fun a20 n21 c22 =>
 unnil r19 (
 sem Try.prog (Instr.alloc 96 true (.tuple #[])) fun v24 =>
 asA v24 fun p23 =>
 sem Try.prog (Instr.storeAt 96 (.pointer (some p23)) (.agg #[.int .i64 x17, .slice a20 n21 c22])) fun _ =>
 joinW (fun K25 =>
 br (decide (x10 < ((y1n : Nat) : Int))) (
 sem Try.prog (Instr.indexAt 35 (.slice y1a y1n y1c) (.int .i64 x10)) fun v28 =>
 asA v28 fun p27 =>
 sem Try.prog (Instr.loadAt 3 (.pointer (some p27))) fun v29 =>
 asI .i64 v29 fun x30 =>
 letv (minI x30 64) fun x31 =>
 letv (maxI 0 x31) fun x32 =>
 K25 [.int .i64 x32]) (
 K25 [.int .i64 0])) (fun vs26 =>
 uncons vs26 fun v33 r34 =>
 asI .i64 v33 fun x35 =>
 unnil r34 (
 need true (drewW (
 asA (.pointer y0) fun p36 =>
 sem Try.prog (Instr.loadAt 52 (.pointer (some p36))) fun v37 =>
 asS v37 fun a38 n39 c40 =>
 sem Try.prog (Instr.loadAt 3 (.pointer (some p23))) fun v41 =>
 asI .i64 v41 fun x42 =>
 sem Try.prog (Instr.indexAt 52 (.slice a38 n39 c40) (.int .i64 x42)) fun v44 =>
 asA v44 fun p43 =>
 sem Try.prog (Instr.loadAt 22 (.pointer (some p43))) fun v45 =>
 asS v45 fun a46 n47 c48 =>
 callW Try.prog 47 #[.slice a46 n47 c48] fun v49 =>
 asS v49 fun a50 n51 c52 =>
 need true (
 loopW [.int .i64 0] (fun K53 vs54 =>
 uncons vs54 fun v55 r56 =>
 asI .i64 v55 fun x57 =>
 unnil r56 (
 br (decide (x57 < x35)) (
 sem Try.prog (Instr.loadAt 22 (.pointer (some (p23.add 1)))) fun v58 =>
 asS v58 fun a59 n60 c61 =>
 sem Try.prog (Instr.indexAt 22 (.slice a59 n60 c61) (.int .i64 x57)) fun v63 =>
 asA v63 fun p62 =>
 sem Try.prog (Instr.loadAt 5 (.pointer (some p62))) fun v64 =>
 asI .u8 v64 fun x65 =>
 sem Try.prog (Instr.indexAt 22 (.slice a50 n51 c52) (.int .i64 x57)) fun v67 =>
 asA v67 fun p66 =>
 sem Try.prog (Instr.storeAt 5 (.pointer (some p66)) (.int .u8 x65)) fun _ =>
 letv (IntKind.i64.wrap (x57 + 1)) fun x68 =>
 K53 [.int .i64 x68]) (
 need true (drewW (
 asA (.pointer y0) fun p69 =>
 sem Try.prog (Instr.loadAt 52 (.pointer (some p69))) fun v70 =>
 asS v70 fun a71 n72 c73 =>
 sem Try.prog (Instr.loadAt 3 (.pointer (some p23))) fun v74 =>
 asI .i64 v74 fun x75 =>
 sem Try.prog (Instr.indexAt 52 (.slice a71 n72 c73) (.int .i64 x75)) fun v77 =>
 asA v77 fun p76 =>
 sem Try.prog (Instr.storeAt 22 (.pointer (some p76)) (.slice a50 n51 c52)) fun _ =>
 need true (
 letv (IntKind.i64.wrap (x10 + 1)) fun x78 =>
 K6 [.int .i64 x78]))))))))))))) (
 asA (.pointer y0) fun p79 =>
 sem Try.prog (Instr.storeAt 53 (.pointer (some (p79.add 1))) (.slice none 0 0)) fun _ =>
 asA (.pointer y0) fun p80 =>
 sem Try.prog (Instr.storeAt 3 (.pointer (some (p80.add 2))) (.int .i64 0)) fun _ =>
 asA (.pointer y0) fun p81 =>
 sem Try.prog (Instr.storeAt 4 (.pointer (some (p81.add 3))) (.bool false)) fun _ =>
 K (.tuple #[]))))
theorem F.hayloftref05_Disk_Crash_eq (y0 : Option Addr) (y1a : Option Addr) (y1n : Nat) (y1c : Nat) (K : Value → WP) : genF Try.prog Try.f36 ⟨[(1, [(14, 3)]), (8, [(8, 3)])], [(5, [(6, 3)])], [], [], []⟩ [.pointer y0, .slice y1a y1n y1c] K = F.hayloftref05_Disk_Crash y0 y1a y1n y1c K := by kernel_rfl
theorem F.hayloftref05_Disk_Crash_ok (y0 : Option Addr) (y1a : Option Addr) (y1n : Nat) (y1c : Nat) (K : Value → WP) (w : World) (h : F.hayloftref05_Disk_Crash y0 y1a y1n y1c K w) : callW Try.prog 36 #[.pointer y0, .slice y1a y1n y1c] K w :=
  genF_use Try.func36 (F.hayloftref05_Disk_Crash_eq y0 y1a y1n y1c K) h

set_option maxRecDepth 100000 in
set_option linter.unusedVariables false in
def F.hayloftref05_Disk_Image (y0 : Option Addr) (K : Value → WP) : WP :=
 asA (.pointer y0) fun p1 =>
 sem Try.prog (Instr.loadAt 52 (.pointer (some p1))) fun v2 =>
 asS v2 fun a3 n4 c5 =>
 loopW [.slice none 0 0, .int .i64 0] (fun K6 vs7 =>
 uncons vs7 fun v8 r9 =>
 asS v8 fun a10 n11 c12 =>
 uncons r9 fun v13 r14 =>
 asI .i64 v13 fun x15 =>
 unnil r14 (
 br (decide (x15 < ((n4 : Nat) : Int))) (
 sem Try.prog (Instr.indexAt 52 (.slice a3 n4 c5) (.int .i64 x15)) fun v17 =>
 asA v17 fun p16 =>
 sem Try.prog (Instr.loadAt 22 (.pointer (some p16))) fun v18 =>
 asS v18 fun a19 n20 c21 =>
 sem Try.prog (Builtin.append_ #[22, 22] 22 #[.slice a10 n11 c12, .slice a19 n20 c21]) fun v22 =>
 asS v22 fun a23 n24 c25 =>
 letv (IntKind.i64.wrap (x15 + 1)) fun x26 =>
 K6 [.slice a23 n24 c25, .int .i64 x26]) (
 K (.slice a10 n11 c12))))
theorem F.hayloftref05_Disk_Image_eq (y0 : Option Addr) (K : Value → WP) : genF Try.prog Try.f37 ⟨[(3, [(3, 22), (11, 3)])], [], [], [], []⟩ [.pointer y0] K = F.hayloftref05_Disk_Image y0 K := by kernel_rfl
theorem F.hayloftref05_Disk_Image_ok (y0 : Option Addr) (K : Value → WP) (w : World) (h : F.hayloftref05_Disk_Image y0 K w) : callW Try.prog 37 #[.pointer y0] K w :=
  genF_use Try.func37 (F.hayloftref05_Disk_Image_eq y0 K) h

set_option maxRecDepth 100000 in
set_option linter.unusedVariables false in
def F.hayloftref05_sector (y0a : Option Addr) (y0n : Nat) (y0c : Nat) (K : Value → WP) : WP :=
 sem Try.prog (Instr.makeSlice 22 (.int .i64 64) (.int .i64 64)) fun v1 =>
 asS v1 fun a2 n3 c4 =>
 loopW [.int .i64 0] (fun K5 vs6 =>
 uncons vs6 fun v7 r8 =>
 asI .i64 v7 fun x9 =>
 unnil r8 (
 br (decide (x9 < ((y0n : Nat) : Int))) (
 sem Try.prog (Instr.indexAt 22 (.slice y0a y0n y0c) (.int .i64 x9)) fun v11 =>
 asA v11 fun p10 =>
 sem Try.prog (Instr.loadAt 5 (.pointer (some p10))) fun v12 =>
 asI .u8 v12 fun x13 =>
 sem Try.prog (Instr.indexAt 22 (.slice a2 n3 c4) (.int .i64 x9)) fun v15 =>
 asA v15 fun p14 =>
 sem Try.prog (Instr.storeAt 5 (.pointer (some p14)) (.int .u8 x13)) fun _ =>
 letv (IntKind.i64.wrap (x9 + 1)) fun x16 =>
 K5 [.int .i64 x16]) (
 K (.slice a2 n3 c4))))
theorem F.hayloftref05_sector_eq (y0a : Option Addr) (y0n : Nat) (y0c : Nat) (K : Value → WP) : genF Try.prog Try.f47 ⟨[(3, [(8, 3)])], [], [], [], []⟩ [.slice y0a y0n y0c] K = F.hayloftref05_sector y0a y0n y0c K := by kernel_rfl
theorem F.hayloftref05_sector_ok (y0a : Option Addr) (y0n : Nat) (y0c : Nat) (K : Value → WP) (w : World) (h : F.hayloftref05_sector y0a y0n y0c K w) : callW Try.prog 47 #[.slice y0a y0n y0c] K w :=
  genF_use Try.func47 (F.hayloftref05_sector_eq y0a y0n y0c K) h

set_option maxRecDepth 100000 in
set_option linter.unusedVariables false in
def F.hayloftref05_Disk_fails (y0 : Option Addr) (K : Value → WP) : WP :=
 asA (.pointer y0) fun p1 =>
 sem Try.prog (Instr.loadAt 3 (.pointer (some (p1.add 2)))) fun v2 =>
 asI .i64 v2 fun x3 =>
 br (x3 == 1) (
 asA (.pointer y0) fun p4 =>
 sem Try.prog (Instr.storeAt 3 (.pointer (some (p4.add 2))) (.int .i64 0)) fun _ =>
 asA (.pointer y0) fun p5 =>
 sem Try.prog (Instr.storeAt 4 (.pointer (some (p5.add 3))) (.bool true)) fun _ =>
 K (.bool true)) (
 asA (.pointer y0) fun p6 =>
 sem Try.prog (Instr.loadAt 3 (.pointer (some (p6.add 2)))) fun v7 =>
 asI .i64 v7 fun x8 =>
 joinW (fun K9 =>
 br (decide (x8 > 1)) (
 asA (.pointer y0) fun p11 =>
 sem Try.prog (Instr.loadAt 3 (.pointer (some (p11.add 2)))) fun v12 =>
 asI .i64 v12 fun x13 =>
 letv (IntKind.i64.wrap (x13 - 1)) fun x14 =>
 asA (.pointer y0) fun p15 =>
 sem Try.prog (Instr.storeAt 3 (.pointer (some (p15.add 2))) (.int .i64 x14)) fun _ =>
 K9 []) (
 K9 [])) (fun vs10 =>
 unnil vs10 (
 asA (.pointer y0) fun p16 =>
 sem Try.prog (Instr.loadAt 3 (.pointer (some (p16.add 4)))) fun v17 =>
 asI .i64 v17 fun x18 =>
 letv (IntKind.i64.wrap (x18 + 1)) fun x19 =>
 asA (.pointer y0) fun p20 =>
 sem Try.prog (Instr.storeAt 3 (.pointer (some (p20.add 4))) (.int .i64 x19)) fun _ =>
 K (.bool false))))
theorem F.hayloftref05_Disk_fails_eq (y0 : Option Addr) (K : Value → WP) : genF Try.prog Try.f48 ⟨[], [(5, [])], [], [], []⟩ [.pointer y0] K = F.hayloftref05_Disk_fails y0 K := by kernel_rfl
theorem F.hayloftref05_Disk_fails_ok (y0 : Option Addr) (K : Value → WP) (w : World) (h : F.hayloftref05_Disk_fails y0 K w) : callW Try.prog 48 #[.pointer y0] K w :=
  genF_use Try.func48 (F.hayloftref05_Disk_fails_eq y0 K) h
end Go.Proofs.Ytehpdpdmjflddaa
