/-
  The readings of some functions of the program, printed by gen.py off the cut and checked by the kernel.
-/
import Derived.Test.YtehpdpdmjflddaaGenT
import Derived.Test.YtehpdpdmjflddaaProg
namespace Go.Proofs.Ytehpdpdmjflddaa
open Go.RowKit

set_option maxRecDepth 100000 in
set_option linter.unusedVariables false in
def F.disk_New (y0 : Int) (K : Value → WP) : WP :=
 br (decide (y0 < 8)) (
 K (.tuple #[.pointer none, .int .i64 2])) (
 br (decide (y0 > 65536)) (
 K (.tuple #[.pointer none, .int .i64 2])) (
 sem Try.prog (Instr.makeMap 86 none) fun v2 =>
 asM v2 fun m1 =>
 sem Try.prog (Instr.box 89 (.agg #[.int .i64 y0, .map m1, .slice none 0 0, .int .i64 0, .bool false, .int .i64 0])) fun v4 =>
 asA v4 fun p3 =>
 K (.tuple #[.pointer (some p3), .int .i64 0])))
theorem F.disk_New_eq (y0 : Int) (K : Value → WP) : genF Try.prog Try.f14 ⟨[], [], [], [], []⟩ [.int .i64 y0] K = F.disk_New y0 K := by kernel_rfl
theorem F.disk_New_ok (y0 : Int) (K : Value → WP) (w : World) (h : F.disk_New y0 K w) : callW Try.prog 14 #[.int .i64 y0] K w :=
  genF_use Try.func14 (F.disk_New_eq y0 K) h

set_option maxRecDepth 100000 in
set_option linter.unusedVariables false in
def F.disk_Disk_Write (y0 : Option Addr) (y1 : Int) (y2a : Option Addr) (y2n : Nat) (y2c : Nat) (K : Value → WP) : WP :=
 callW Try.prog 45 #[.pointer y0, .int .i64 y1] fun v1 =>
 asI .i64 v1 fun x2 =>
 br (x2 != 0) (
 K (.int .i64 x2)) (
 br (decide (((y2n : Nat) : Int) > 64)) (
 K (.int .i64 6)) (
 sem Try.prog (Instr.build 94 #[(0, .int .i64 y1)]) fun v3 =>
 asAgg v3 fun l4 =>
 sem Try.prog (Instr.alloc 94 true (.tuple #[])) fun v6 =>
 asA v6 fun p5 =>
 sem Try.prog (Instr.storeAt 94 (.pointer (some p5)) (.agg ⟨l4⟩)) fun _ =>
 sem Try.prog (Instr.sliceAt 92 (.pointer (some (p5.add 1))) none none none) fun v7 =>
 asS v7 fun a8 n9 c10 =>
 sem Try.prog (Builtin.copy_ #[22, 22] 3 #[.slice a8 n9 c10, .slice y2a y2n y2c]) fun v11 =>
 asI .i64 v11 fun x12 =>
 need true (drewW (
 asA (.pointer y0) fun p13 =>
 sem Try.prog (Instr.loadAt 87 (.pointer (some (p13.add 2)))) fun v14 =>
 asS v14 fun a15 n16 c17 =>
 sem Try.prog (Instr.loadAt 94 (.pointer (some p5))) fun v18 =>
 asAgg v18 fun l19 =>
 sem Try.prog (Instr.buildSlice 87 1 #[(0, .agg ⟨l19⟩)]) fun v20 =>
 asS v20 fun a21 n22 c23 =>
 sem Try.prog (Builtin.append_ #[87, 87] 87 #[.slice a15 n16 c17, .slice a21 n22 c23]) fun v24 =>
 asS v24 fun a25 n26 c27 =>
 asA (.pointer y0) fun p28 =>
 sem Try.prog (Instr.storeAt 87 (.pointer (some (p28.add 2))) (.slice a25 n26 c27)) fun _ =>
 need true (
 callW Try.prog 46 #[.pointer y0] fun v29 =>
 asB v29 fun b30 =>
 br (!b30) (
 K (.int .i64 14)) (
 K (.int .i64 0)))))))
theorem F.disk_Disk_Write_eq (y0 : Option Addr) (y1 : Int) (y2a : Option Addr) (y2n : Nat) (y2c : Nat) (K : Value → WP) : genF Try.prog Try.f15 ⟨[], [], [], [], []⟩ [.pointer y0, .int .i64 y1, .slice y2a y2n y2c] K = F.disk_Disk_Write y0 y1 y2a y2n y2c K := by kernel_rfl
theorem F.disk_Disk_Write_ok (y0 : Option Addr) (y1 : Int) (y2a : Option Addr) (y2n : Nat) (y2c : Nat) (K : Value → WP) (w : World) (h : F.disk_Disk_Write y0 y1 y2a y2n y2c K w) : callW Try.prog 15 #[.pointer y0, .int .i64 y1, .slice y2a y2n y2c] K w :=
  genF_use Try.func15 (F.disk_Disk_Write_eq y0 y1 y2a y2n y2c K) h

set_option maxRecDepth 100000 in
set_option linter.unusedVariables false in
def F.disk_Disk_Flush (y0 : Option Addr) (K : Value → WP) : WP :=
 callW Try.prog 45 #[.pointer y0, .int .i64 0] fun v1 =>
 asI .i64 v1 fun x2 =>
 br (x2 != 0) (
 K (.int .i64 x2)) (
 callW Try.prog 46 #[.pointer y0] fun v3 =>
 asB v3 fun b4 =>
 br (!b4) (
 K (.int .i64 14)) (
 asA (.pointer y0) fun p5 =>
 sem Try.prog (Instr.loadAt 87 (.pointer (some (p5.add 2)))) fun v6 =>
 asS v6 fun a7 n8 c9 =>
 loopW [.int .i64 0] (fun K10 vs11 =>
 uncons vs11 fun v12 r13 =>
 asI .i64 v12 fun x14 =>
 unnil r13 (
 br (decide (x14 < ((n8 : Nat) : Int))) (
 sem Try.prog (Instr.indexAt 87 (.slice a7 n8 c9) (.int .i64 x14)) fun v16 =>
 asA v16 fun p15 =>
 sem Try.prog (Instr.loadAt 94 (.pointer (some p15))) fun v17 =>
 asAgg v17 fun l18 =>
 sem Try.prog (Instr.alloc 94 true (.tuple #[])) fun v20 =>
 asA v20 fun p19 =>
 sem Try.prog (Instr.storeAt 94 (.pointer (some p19)) (.agg ⟨l18⟩)) fun _ =>
 need true (drewW (
 asA (.pointer y0) fun p21 =>
 sem Try.prog (Instr.loadAt 86 (.pointer (some (p21.add 1)))) fun v22 =>
 asM v22 fun m23 =>
 sem Try.prog (Instr.loadAt 3 (.pointer (some p19))) fun v24 =>
 asI .i64 v24 fun x25 =>
 sem Try.prog (Instr.loadAt 92 (.pointer (some (p19.add 1)))) fun v26 =>
 asAgg v26 fun l27 =>
 sem Try.prog (Instr.mapUpdate 86 (.map m23) (.int .i64 x25) (.agg ⟨l27⟩)) fun _ =>
 need true (
 letv (IntKind.i64.wrap (x14 + 1)) fun x28 =>
 K10 [.int .i64 x28])))) (
 asA (.pointer y0) fun p29 =>
 sem Try.prog (Instr.storeAt 87 (.pointer (some (p29.add 2))) (.slice none 0 0)) fun _ =>
 K (.int .i64 0))))))
theorem F.disk_Disk_Flush_eq (y0 : Option Addr) (K : Value → WP) : genF Try.prog Try.f16 ⟨[(7, [(19, 3)])], [], [], [], []⟩ [.pointer y0] K = F.disk_Disk_Flush y0 K := by kernel_rfl
theorem F.disk_Disk_Flush_ok (y0 : Option Addr) (K : Value → WP) (w : World) (h : F.disk_Disk_Flush y0 K w) : callW Try.prog 16 #[.pointer y0] K w :=
  genF_use Try.func16 (F.disk_Disk_Flush_eq y0 K) h

set_option maxRecDepth 100000 in
set_option linter.unusedVariables false in
def F.disk_Disk_Read (y0 : Option Addr) (y1 : Int) (K : Value → WP) : WP :=
 callW Try.prog 45 #[.pointer y0, .int .i64 y1] fun v1 =>
 asI .i64 v1 fun x2 =>
 br (x2 != 0) (
 K (.tuple #[.slice none 0 0, .int .i64 x2])) (
 asA (.pointer y0) fun p3 =>
 sem Try.prog (Instr.loadAt 86 (.pointer (some (p3.add 1)))) fun v4 =>
 asM v4 fun m5 =>
 sem Try.prog (Instr.lookup 86 (.map m5) (.int .i64 y1) false) fun v6 =>
 asAgg v6 fun l7 =>
 sem Try.prog (Instr.alloc 92 true (.tuple #[])) fun v9 =>
 asA v9 fun p8 =>
 sem Try.prog (Instr.storeAt 92 (.pointer (some p8)) (.agg ⟨l7⟩)) fun _ =>
 asA (.pointer y0) fun p10 =>
 sem Try.prog (Instr.loadAt 87 (.pointer (some (p10.add 2)))) fun v11 =>
 asS v11 fun a12 n13 c14 =>
 loopW [.int .i64 0] (fun K15 vs16 =>
 uncons vs16 fun v17 r18 =>
 asI .i64 v17 fun x19 =>
 unnil r18 (
 br (decide (x19 < ((n13 : Nat) : Int))) (
 sem Try.prog (Instr.indexAt 87 (.slice a12 n13 c14) (.int .i64 x19)) fun v21 =>
 asA v21 fun p20 =>
 sem Try.prog (Instr.loadAt 94 (.pointer (some p20))) fun v22 =>
 asAgg v22 fun l23 =>
 sem Try.prog (Instr.alloc 94 true (.tuple #[])) fun v25 =>
 asA v25 fun p24 =>
 sem Try.prog (Instr.storeAt 94 (.pointer (some p24)) (.agg ⟨l23⟩)) fun _ =>
 sem Try.prog (Instr.loadAt 3 (.pointer (some p24))) fun v26 =>
 asI .i64 v26 fun x27 =>
 joinW (fun K28 =>
 br (x27 == y1) (
 sem Try.prog (Instr.loadAt 92 (.pointer (some (p24.add 1)))) fun v30 =>
 asAgg v30 fun l31 =>
 sem Try.prog (Instr.storeAt 92 (.pointer (some p8)) (.agg ⟨l31⟩)) fun _ =>
 K28 []) (
 K28 [])) (fun vs29 =>
 unnil vs29 (
 letv (IntKind.i64.wrap (x19 + 1)) fun x32 =>
 K15 [.int .i64 x32]))) (
 sem Try.prog (Instr.sliceAt 92 (.pointer (some p8)) none none none) fun v33 =>
 asS v33 fun a34 n35 c36 =>
 K (.tuple #[.slice a34 n35 c36, .int .i64 0])))))
theorem F.disk_Disk_Read_eq (y0 : Option Addr) (y1 : Int) (K : Value → WP) : genF Try.prog Try.f17 ⟨[(6, [(27, 3)])], [(9, [])], [], [], []⟩ [.pointer y0, .int .i64 y1] K = F.disk_Disk_Read y0 y1 K := by kernel_rfl
theorem F.disk_Disk_Read_ok (y0 : Option Addr) (y1 : Int) (K : Value → WP) (w : World) (h : F.disk_Disk_Read y0 y1 K w) : callW Try.prog 17 #[.pointer y0, .int .i64 y1] K w :=
  genF_use Try.func17 (F.disk_Disk_Read_eq y0 y1 K) h

set_option maxRecDepth 100000 in
set_option linter.unusedVariables false in
def F.disk_Disk_Crash (y0 : Option Addr) (y1a : Option Addr) (y1n : Nat) (y1c : Nat) (K : Value → WP) : WP :=
 br (y0.isNone) (
 K (.tuple #[])) (
 asA (.pointer y0) fun p1 =>
 sem Try.prog (Instr.loadAt 87 (.pointer (some (p1.add 2)))) fun v2 =>
 asS v2 fun a3 n4 c5 =>
 joinW (fun K6 =>
 loopW [.int .i64 0] (fun K8 vs9 =>
 uncons vs9 fun v10 r11 =>
 asI .i64 v10 fun x12 =>
 unnil r11 (
 br (decide (x12 < ((n4 : Nat) : Int))) (
 sem Try.prog (Instr.indexAt 87 (.slice a3 n4 c5) (.int .i64 x12)) fun v14 =>
 asA v14 fun p13 =>
 sem Try.prog (Instr.loadAt 94 (.pointer (some p13))) fun v15 =>
 asAgg v15 fun l16 =>
 sem Try.prog (Instr.alloc 94 true (.tuple #[])) fun v18 =>
 asA v18 fun p17 =>
 sem Try.prog (Instr.storeAt 94 (.pointer (some p17)) (.agg ⟨l16⟩)) fun _ =>
 br (decide (x12 ≥ ((y1n : Nat) : Int))) (
 K6 []) (
 need true (drewW (
 asA (.pointer y0) fun p19 =>
 sem Try.prog (Instr.loadAt 86 (.pointer (some (p19.add 1)))) fun v20 =>
 asM v20 fun m21 =>
 sem Try.prog (Instr.loadAt 3 (.pointer (some p17))) fun v22 =>
 asI .i64 v22 fun x23 =>
 sem Try.prog (Instr.lookup 86 (.map m21) (.int .i64 x23) false) fun v24 =>
 asAgg v24 fun l25 =>
 sem Try.prog (Instr.alloc 92 true (.tuple #[])) fun v27 =>
 asA v27 fun p26 =>
 sem Try.prog (Instr.storeAt 92 (.pointer (some p26)) (.agg ⟨l25⟩)) fun _ =>
 need true (
 need true (drewW (
 sem Try.prog (Instr.indexAt 35 (.slice y1a y1n y1c) (.int .i64 x12)) fun v29 =>
 asA v29 fun p28 =>
 sem Try.prog (Instr.loadAt 3 (.pointer (some p28))) fun v30 =>
 asI .i64 v30 fun x31 =>
 letv (minI x31 64) fun x32 =>
 letv (maxI 0 x32) fun x33 =>
 sem Try.prog (Instr.sliceAt 92 (.pointer (some p26)) none (some (.int .i64 x33)) none) fun v34 =>
 asS v34 fun a35 n36 c37 =>
 sem Try.prog (Instr.sliceAt 92 (.pointer (some (p17.add 1))) none none none) fun v38 =>
 asS v38 fun a39 n40 c41 =>
 sem Try.prog (Builtin.copy_ #[22, 22] 3 #[.slice a35 n36 c37, .slice a39 n40 c41]) fun v42 =>
 asI .i64 v42 fun x43 =>
 need true (
 need true (drewW (
 asA (.pointer y0) fun p44 =>
 sem Try.prog (Instr.loadAt 86 (.pointer (some (p44.add 1)))) fun v45 =>
 asM v45 fun m46 =>
 sem Try.prog (Instr.loadAt 3 (.pointer (some p17))) fun v47 =>
 asI .i64 v47 fun x48 =>
 sem Try.prog (Instr.loadAt 92 (.pointer (some p26))) fun v49 =>
 asAgg v49 fun l50 =>
 sem Try.prog (Instr.mapUpdate 86 (.map m46) (.int .i64 x48) (.agg ⟨l50⟩)) fun _ =>
 need true (
 letv (IntKind.i64.wrap (x12 + 1)) fun x51 =>
 K8 [.int .i64 x51]))))))))))) (
 K6 [])))) (fun vs7 =>
 unnil vs7 (
 asA (.pointer y0) fun p52 =>
 sem Try.prog (Instr.storeAt 87 (.pointer (some (p52.add 2))) (.slice none 0 0)) fun _ =>
 asA (.pointer y0) fun p53 =>
 sem Try.prog (Instr.storeAt 3 (.pointer (some (p53.add 3))) (.int .i64 0)) fun _ =>
 asA (.pointer y0) fun p54 =>
 sem Try.prog (Instr.storeAt 4 (.pointer (some (p54.add 4))) (.bool false)) fun _ =>
 K (.tuple #[]))))
theorem F.disk_Disk_Crash_eq (y0 : Option Addr) (y1a : Option Addr) (y1n : Nat) (y1c : Nat) (K : Value → WP) : genF Try.prog Try.f18 ⟨[(2, [(14, 3)])], [], [(0, [])], [], []⟩ [.pointer y0, .slice y1a y1n y1c] K = F.disk_Disk_Crash y0 y1a y1n y1c K := by kernel_rfl
theorem F.disk_Disk_Crash_ok (y0 : Option Addr) (y1a : Option Addr) (y1n : Nat) (y1c : Nat) (K : Value → WP) (w : World) (h : F.disk_Disk_Crash y0 y1a y1n y1c K w) : callW Try.prog 18 #[.pointer y0, .slice y1a y1n y1c] K w :=
  genF_use Try.func18 (F.disk_Disk_Crash_eq y0 y1a y1n y1c K) h

set_option maxRecDepth 100000 in
set_option linter.unusedVariables false in
def F.disk_Disk_Arm (y0 : Option Addr) (y1 : Int) (K : Value → WP) : WP :=
 joinW (fun K1 =>
 br (!y0.isNone) (
 asA (.pointer y0) fun p3 =>
 sem Try.prog (Instr.loadAt 4 (.pointer (some (p3.add 4)))) fun v4 =>
 asB v4 fun b5 =>
 K1 [.bool (!b5)]) (
 K1 [.bool false])) (fun vs2 =>
 uncons vs2 fun v6 r7 =>
 asB v6 fun b8 =>
 unnil r7 (
 joinW (fun K9 =>
 br b8 (
 letv (maxI 0 y1) fun x11 =>
 asA (.pointer y0) fun p12 =>
 sem Try.prog (Instr.storeAt 3 (.pointer (some (p12.add 3))) (.int .i64 x11)) fun _ =>
 K9 []) (
 K9 [])) (fun vs10 =>
 unnil vs10 (
 K (.tuple #[])))))
theorem F.disk_Disk_Arm_eq (y0 : Option Addr) (y1 : Int) (K : Value → WP) : genF Try.prog Try.f19 ⟨[], [(1, [])], [], [(0, [(12, 4)])], []⟩ [.pointer y0, .int .i64 y1] K = F.disk_Disk_Arm y0 y1 K := by kernel_rfl
theorem F.disk_Disk_Arm_ok (y0 : Option Addr) (y1 : Int) (K : Value → WP) (w : World) (h : F.disk_Disk_Arm y0 y1 K w) : callW Try.prog 19 #[.pointer y0, .int .i64 y1] K w :=
  genF_use Try.func19 (F.disk_Disk_Arm_eq y0 y1 K) h

set_option maxRecDepth 100000 in
set_option linter.unusedVariables false in
def F.disk_Disk_Down (y0 : Option Addr) (K : Value → WP) : WP :=
 joinW (fun K1 =>
 br (!y0.isNone) (
 asA (.pointer y0) fun p3 =>
 sem Try.prog (Instr.loadAt 4 (.pointer (some (p3.add 4)))) fun v4 =>
 asB v4 fun b5 =>
 K1 [.bool b5]) (
 K1 [.bool false])) (fun vs2 =>
 uncons vs2 fun v6 r7 =>
 asB v6 fun b8 =>
 unnil r7 (
 K (.bool b8)))
theorem F.disk_Disk_Down_eq (y0 : Option Addr) (K : Value → WP) : genF Try.prog Try.f20 ⟨[], [], [], [(1, [(2, 4)])], []⟩ [.pointer y0] K = F.disk_Disk_Down y0 K := by kernel_rfl
theorem F.disk_Disk_Down_ok (y0 : Option Addr) (K : Value → WP) (w : World) (h : F.disk_Disk_Down y0 K w) : callW Try.prog 20 #[.pointer y0] K w :=
  genF_use Try.func20 (F.disk_Disk_Down_eq y0 K) h

set_option maxRecDepth 100000 in
set_option linter.unusedVariables false in
def F.disk_Disk_Ops (y0 : Option Addr) (K : Value → WP) : WP :=
 br (y0.isNone) (
 K (.int .i64 0)) (
 asA (.pointer y0) fun p1 =>
 sem Try.prog (Instr.loadAt 3 (.pointer (some (p1.add 5)))) fun v2 =>
 asI .i64 v2 fun x3 =>
 K (.int .i64 x3))
theorem F.disk_Disk_Ops_eq (y0 : Option Addr) (K : Value → WP) : genF Try.prog Try.f21 ⟨[], [], [], [], []⟩ [.pointer y0] K = F.disk_Disk_Ops y0 K := by kernel_rfl
theorem F.disk_Disk_Ops_ok (y0 : Option Addr) (K : Value → WP) (w : World) (h : F.disk_Disk_Ops y0 K w) : callW Try.prog 21 #[.pointer y0] K w :=
  genF_use Try.func21 (F.disk_Disk_Ops_eq y0 K) h

set_option maxRecDepth 100000 in
set_option linter.unusedVariables false in
def F.disk_Disk_Pending (y0 : Option Addr) (K : Value → WP) : WP :=
 br (y0.isNone) (
 K (.int .i64 0)) (
 asA (.pointer y0) fun p1 =>
 sem Try.prog (Instr.loadAt 87 (.pointer (some (p1.add 2)))) fun v2 =>
 asS v2 fun a3 n4 c5 =>
 K (.int .i64 ((n4 : Nat) : Int)))
theorem F.disk_Disk_Pending_eq (y0 : Option Addr) (K : Value → WP) : genF Try.prog Try.f22 ⟨[], [], [], [], []⟩ [.pointer y0] K = F.disk_Disk_Pending y0 K := by kernel_rfl
theorem F.disk_Disk_Pending_ok (y0 : Option Addr) (K : Value → WP) (w : World) (h : F.disk_Disk_Pending y0 K w) : callW Try.prog 22 #[.pointer y0] K w :=
  genF_use Try.func22 (F.disk_Disk_Pending_eq y0 K) h

set_option maxRecDepth 100000 in
set_option linter.unusedVariables false in
def F.disk_Disk_Image (y0 : Option Addr) (K : Value → WP) : WP :=
 callW Try.prog 26 #[.pointer y0] fun v1 =>
 asI .i64 v1 fun x2 =>
 loopW [.slice none 0 0, .int .i64 0] (fun K3 vs4 =>
 uncons vs4 fun v5 r6 =>
 asS v5 fun a7 n8 c9 =>
 uncons r6 fun v10 r11 =>
 asI .i64 v10 fun x12 =>
 unnil r11 (
 br (decide (x12 < x2)) (
 asA (.pointer y0) fun p13 =>
 sem Try.prog (Instr.loadAt 86 (.pointer (some (p13.add 1)))) fun v14 =>
 asM v14 fun m15 =>
 sem Try.prog (Instr.lookup 86 (.map m15) (.int .i64 x12) false) fun v16 =>
 asAgg v16 fun l17 =>
 sem Try.prog (Instr.alloc 92 true (.tuple #[])) fun v19 =>
 asA v19 fun p18 =>
 sem Try.prog (Instr.storeAt 92 (.pointer (some p18)) (.agg ⟨l17⟩)) fun _ =>
 sem Try.prog (Instr.sliceAt 92 (.pointer (some p18)) none none none) fun v20 =>
 asS v20 fun a21 n22 c23 =>
 sem Try.prog (Builtin.append_ #[22, 22] 22 #[.slice a7 n8 c9, .slice a21 n22 c23]) fun v24 =>
 asS v24 fun a25 n26 c27 =>
 letv (IntKind.i64.wrap (x12 + 1)) fun x28 =>
 K3 [.slice a25 n26 c27, .int .i64 x28]) (
 K (.slice a7 n8 c9))))
theorem F.disk_Disk_Image_eq (y0 : Option Addr) (K : Value → WP) : genF Try.prog Try.f24 ⟨[(3, [(3, 22), (8, 3)])], [], [], [], []⟩ [.pointer y0] K = F.disk_Disk_Image y0 K := by kernel_rfl
theorem F.disk_Disk_Image_ok (y0 : Option Addr) (K : Value → WP) (w : World) (h : F.disk_Disk_Image y0 K w) : callW Try.prog 24 #[.pointer y0] K w :=
  genF_use Try.func24 (F.disk_Disk_Image_eq y0 K) h

set_option maxRecDepth 100000 in
set_option linter.unusedVariables false in
def F.disk_Disk_Len (y0 : Option Addr) (K : Value → WP) : WP :=
 br (y0.isNone) (
 K (.int .i64 0)) (
 asA (.pointer y0) fun p1 =>
 sem Try.prog (Instr.loadAt 3 (.pointer (some p1))) fun v2 =>
 asI .i64 v2 fun x3 =>
 K (.int .i64 x3))
theorem F.disk_Disk_Len_eq (y0 : Option Addr) (K : Value → WP) : genF Try.prog Try.f26 ⟨[], [], [], [], []⟩ [.pointer y0] K = F.disk_Disk_Len y0 K := by kernel_rfl
theorem F.disk_Disk_Len_ok (y0 : Option Addr) (K : Value → WP) (w : World) (h : F.disk_Disk_Len y0 K w) : callW Try.prog 26 #[.pointer y0] K w :=
  genF_use Try.func26 (F.disk_Disk_Len_eq y0 K) h

set_option maxRecDepth 100000 in
set_option linter.unusedVariables false in
def F.disk_Lay (y0a : Option Addr) (y0n : Nat) (y0c : Nat) (K : Value → WP) : WP :=
 sem Try.prog (binOp .rem 3 (.int .i64 ((y0n : Nat) : Int)) (.int .i64 64)) fun v1 =>
 asI .i64 v1 fun x2 =>
 br (x2 != 0) (
 K (.tuple #[.pointer none, .int .i64 2])) (
 sem Try.prog (binOp .quo 3 (.int .i64 ((y0n : Nat) : Int)) (.int .i64 64)) fun v3 =>
 asI .i64 v3 fun x4 =>
 callW Try.prog 14 #[.int .i64 x4] fun v5 =>
 asTup v5 fun l6 =>
 uncons l6 fun v7 r8 =>
 asP v7 fun q9 =>
 uncons r8 fun v10 r11 =>
 asI .i64 v10 fun x12 =>
 unnil r11 (
 br (x12 != 0) (
 K (.tuple #[.pointer none, .int .i64 x12])) (
 asA (.pointer q9) fun p13 =>
 sem Try.prog (Instr.loadAt 3 (.pointer (some p13))) fun v14 =>
 asI .i64 v14 fun x15 =>
 loopW [.int .i64 0] (fun K16 vs17 =>
 uncons vs17 fun v18 r19 =>
 asI .i64 v18 fun x20 =>
 unnil r19 (
 br (decide (x20 < x15)) (
 sem Try.prog (Instr.alloc 92 true (.tuple #[])) fun v22 =>
 asA v22 fun p21 =>
 need true (drewW (
 sem Try.prog (Instr.sliceAt 92 (.pointer (some p21)) none none none) fun v23 =>
 asS v23 fun a24 n25 c26 =>
 letv (IntKind.i64.wrap (x20 * 64)) fun x27 =>
 sem Try.prog (Instr.sliceAt 22 (.slice y0a y0n y0c) (some (.int .i64 x27)) none none) fun v28 =>
 asS v28 fun a29 n30 c31 =>
 sem Try.prog (Builtin.copy_ #[22, 22] 3 #[.slice a24 n25 c26, .slice a29 n30 c31]) fun v32 =>
 asI .i64 v32 fun x33 =>
 need true (
 need true (drewW (
 asA (.pointer q9) fun p34 =>
 sem Try.prog (Instr.loadAt 86 (.pointer (some (p34.add 1)))) fun v35 =>
 asM v35 fun m36 =>
 sem Try.prog (Instr.loadAt 92 (.pointer (some p21))) fun v37 =>
 asAgg v37 fun l38 =>
 sem Try.prog (Instr.mapUpdate 86 (.map m36) (.int .i64 x20) (.agg ⟨l38⟩)) fun _ =>
 need true (
 letv (IntKind.i64.wrap (x20 + 1)) fun x39 =>
 K16 [.int .i64 x39]))))))) (
 K (.tuple #[.pointer q9, .int .i64 0])))))))
theorem F.disk_Lay_eq (y0a : Option Addr) (y0n : Nat) (y0c : Nat) (K : Value → WP) : genF Try.prog Try.f28 ⟨[(7, [(26, 3)])], [], [], [], []⟩ [.slice y0a y0n y0c] K = F.disk_Lay y0a y0n y0c K := by kernel_rfl
theorem F.disk_Lay_ok (y0a : Option Addr) (y0n : Nat) (y0c : Nat) (K : Value → WP) (w : World) (h : F.disk_Lay y0a y0n y0c K w) : callW Try.prog 28 #[.slice y0a y0n y0c] K w :=
  genF_use Try.func28 (F.disk_Lay_eq y0a y0n y0c K) h

set_option maxRecDepth 100000 in
set_option linter.unusedVariables false in
def F.disk_Disk_ask (y0 : Option Addr) (y1 : Int) (K : Value → WP) : WP :=
 br (y0.isNone) (
 K (.int .i64 1)) (
 asA (.pointer y0) fun p1 =>
 sem Try.prog (Instr.loadAt 4 (.pointer (some (p1.add 4)))) fun v2 =>
 asB v2 fun b3 =>
 br b3 (
 K (.int .i64 14)) (
 br (decide (y1 < 0)) (
 K (.int .i64 2)) (
 asA (.pointer y0) fun p4 =>
 sem Try.prog (Instr.loadAt 3 (.pointer (some p4))) fun v5 =>
 asI .i64 v5 fun x6 =>
 br (decide (y1 ≥ x6)) (
 K (.int .i64 2)) (
 K (.int .i64 0)))))
theorem F.disk_Disk_ask_eq (y0 : Option Addr) (y1 : Int) (K : Value → WP) : genF Try.prog Try.f45 ⟨[], [], [], [], []⟩ [.pointer y0, .int .i64 y1] K = F.disk_Disk_ask y0 y1 K := by kernel_rfl
theorem F.disk_Disk_ask_ok (y0 : Option Addr) (y1 : Int) (K : Value → WP) (w : World) (h : F.disk_Disk_ask y0 y1 K w) : callW Try.prog 45 #[.pointer y0, .int .i64 y1] K w :=
  genF_use Try.func45 (F.disk_Disk_ask_eq y0 y1 K) h

set_option maxRecDepth 100000 in
set_option linter.unusedVariables false in
def F.disk_Disk_done (y0 : Option Addr) (K : Value → WP) : WP :=
 asA (.pointer y0) fun p1 =>
 sem Try.prog (Instr.loadAt 3 (.pointer (some (p1.add 3)))) fun v2 =>
 asI .i64 v2 fun x3 =>
 joinW (fun K4 =>
 br (x3 == 0) (
 K4 []) (
 br (x3 == 1) (
 asA (.pointer y0) fun p6 =>
 sem Try.prog (Instr.storeAt 3 (.pointer (some (p6.add 3))) (.int .i64 0)) fun _ =>
 asA (.pointer y0) fun p7 =>
 sem Try.prog (Instr.storeAt 4 (.pointer (some (p7.add 4))) (.bool true)) fun _ =>
 K (.bool false)) (
 asA (.pointer y0) fun p8 =>
 sem Try.prog (Instr.loadAt 3 (.pointer (some (p8.add 3)))) fun v9 =>
 asI .i64 v9 fun x10 =>
 letv (IntKind.i64.wrap (x10 - 1)) fun x11 =>
 asA (.pointer y0) fun p12 =>
 sem Try.prog (Instr.storeAt 3 (.pointer (some (p12.add 3))) (.int .i64 x11)) fun _ =>
 K4 []))) (fun vs5 =>
 unnil vs5 (
 asA (.pointer y0) fun p13 =>
 sem Try.prog (Instr.loadAt 3 (.pointer (some (p13.add 5)))) fun v14 =>
 asI .i64 v14 fun x15 =>
 letv (IntKind.i64.wrap (x15 + 1)) fun x16 =>
 asA (.pointer y0) fun p17 =>
 sem Try.prog (Instr.storeAt 3 (.pointer (some (p17.add 5))) (.int .i64 x16)) fun _ =>
 K (.bool true)))
theorem F.disk_Disk_done_eq (y0 : Option Addr) (K : Value → WP) : genF Try.prog Try.f46 ⟨[], [(4, [])], [], [], []⟩ [.pointer y0] K = F.disk_Disk_done y0 K := by kernel_rfl
theorem F.disk_Disk_done_ok (y0 : Option Addr) (K : Value → WP) (w : World) (h : F.disk_Disk_done y0 K w) : callW Try.prog 46 #[.pointer y0] K w :=
  genF_use Try.func46 (F.disk_Disk_done_eq y0 K) h
end Go.Proofs.Ytehpdpdmjflddaa
