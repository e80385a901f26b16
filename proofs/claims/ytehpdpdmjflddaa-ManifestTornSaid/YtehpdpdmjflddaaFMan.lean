/-
  The readings of some functions of the program, printed by gen.py off the cut and checked by the kernel.
-/
import Derived.Test.YtehpdpdmjflddaaGenT
import Derived.Test.YtehpdpdmjflddaaProg
namespace Go.Proofs.Ytehpdpdmjflddaa
open Go.RowKit

set_option maxRecDepth 100000 in
set_option linter.unusedVariables false in
def F.manifest_Bytes (y0_0 : Int) (y0_1 : Int) (y0_2 : Int) (K : Value → WP) : WP :=
 sem Try.prog (Instr.box 67 (.agg #[.int .i64 y0_0, .int .i64 y0_1, .int .i64 y0_2])) fun v2 =>
 asA v2 fun p1 =>
 sem Try.prog (Instr.loadAt 67 (.pointer (some p1))) fun v3 =>
 asAgg v3 fun l4 =>
 uncons l4 fun v5 r6 =>
 asI .i64 v5 fun x7 =>
 uncons r6 fun v8 r9 =>
 asI .i64 v8 fun x10 =>
 uncons r9 fun v11 r12 =>
 asI .i64 v11 fun x13 =>
 unnil r12 (
 callW Try.prog 50 #[.agg #[.int .i64 x7, .int .i64 x10, .int .i64 x13]] fun v14 =>
 asB v14 fun b15 =>
 br (!b15) (
 K (.tuple #[.slice none 0 0, .int .i64 4])) (
 sem Try.prog (Instr.makeSlice 22 (.int .i64 64) (.int .i64 64)) fun v16 =>
 asS v16 fun a17 n18 c19 =>
 sem Try.prog (Instr.loadAt 3 (.pointer (some p1))) fun v20 =>
 asI .i64 v20 fun x21 =>
 letv (IntKind.u64.wrap x21) fun x22 =>
 callW Try.prog 51 #[.int .u64 x22, .int .i64 4] fun v23 =>
 asS v23 fun a24 n25 c26 =>
 sem Try.prog (Builtin.copy_ #[22, 22] 3 #[.slice a17 n18 c19, .slice a24 n25 c26]) fun v27 =>
 asI .i64 v27 fun x28 =>
 need true (drewW (
 sem Try.prog (Instr.sliceAt 22 (.slice a17 n18 c19) (some (.int .i64 4)) none none) fun v29 =>
 asS v29 fun a30 n31 c32 =>
 sem Try.prog (Instr.loadAt 3 (.pointer (some (p1.add 1)))) fun v33 =>
 asI .i64 v33 fun x34 =>
 letv (IntKind.u64.wrap x34) fun x35 =>
 callW Try.prog 51 #[.int .u64 x35, .int .i64 4] fun v36 =>
 asS v36 fun a37 n38 c39 =>
 sem Try.prog (Builtin.copy_ #[22, 22] 3 #[.slice a30 n31 c32, .slice a37 n38 c39]) fun v40 =>
 asI .i64 v40 fun x41 =>
 need true (
 need true (drewW (
 sem Try.prog (Instr.sliceAt 22 (.slice a17 n18 c19) (some (.int .i64 8)) none none) fun v42 =>
 asS v42 fun a43 n44 c45 =>
 sem Try.prog (Instr.loadAt 3 (.pointer (some (p1.add 2)))) fun v46 =>
 asI .i64 v46 fun x47 =>
 letv (IntKind.u64.wrap x47) fun x48 =>
 callW Try.prog 51 #[.int .u64 x48, .int .i64 4] fun v49 =>
 asS v49 fun a50 n51 c52 =>
 sem Try.prog (Builtin.copy_ #[22, 22] 3 #[.slice a43 n44 c45, .slice a50 n51 c52]) fun v53 =>
 asI .i64 v53 fun x54 =>
 need true (
 need true (drewW (
 sem Try.prog (Instr.sliceAt 22 (.slice a17 n18 c19) (some (.int .i64 56)) none none) fun v55 =>
 asS v55 fun a56 n57 c58 =>
 sem Try.prog (Instr.sliceAt 22 (.slice a17 n18 c19) none (some (.int .i64 56)) none) fun v59 =>
 asS v59 fun a60 n61 c62 =>
 callW Try.prog 52 #[.slice a60 n61 c62] fun v63 =>
 asI .u32 v63 fun x64 =>
 letv (IntKind.u64.wrap x64) fun x65 =>
 callW Try.prog 51 #[.int .u64 x65, .int .i64 4] fun v66 =>
 asS v66 fun a67 n68 c69 =>
 sem Try.prog (Builtin.copy_ #[22, 22] 3 #[.slice a56 n57 c58, .slice a67 n68 c69]) fun v70 =>
 asI .i64 v70 fun x71 =>
 need true (
 need true (drewW (
 sem Try.prog (Instr.sliceAt 22 (.slice a17 n18 c19) (some (.int .i64 60)) none none) fun v72 =>
 asS v72 fun a73 n74 c75 =>
 sem Try.prog (Instr.sliceAt 22 (.slice a17 n18 c19) none (some (.int .i64 4)) none) fun v76 =>
 asS v76 fun a77 n78 c79 =>
 sem Try.prog (Builtin.copy_ #[22, 22] 3 #[.slice a73 n74 c75, .slice a77 n78 c79]) fun v80 =>
 asI .i64 v80 fun x81 =>
 need true (
 K (.tuple #[.slice a17 n18 c19, .int .i64 0])))))))))))))))
theorem F.manifest_Bytes_eq (y0_0 : Int) (y0_1 : Int) (y0_2 : Int) (K : Value → WP) : genF Try.prog Try.f39 ⟨[], [], [], [], [], []⟩ [.agg #[.int .i64 y0_0, .int .i64 y0_1, .int .i64 y0_2]] K = F.manifest_Bytes y0_0 y0_1 y0_2 K := by kernel_rfl
theorem F.manifest_Bytes_ok (y0_0 : Int) (y0_1 : Int) (y0_2 : Int) (K : Value → WP) (w : World) (h : F.manifest_Bytes y0_0 y0_1 y0_2 K w) : callW Try.prog 39 #[.agg #[.int .i64 y0_0, .int .i64 y0_1, .int .i64 y0_2]] K w :=
  genF_use Try.func39 (F.manifest_Bytes_eq y0_0 y0_1 y0_2 K) h

set_option maxRecDepth 100000 in
set_option linter.unusedVariables false in
def F.manifest_Sector (y0 : Int) (y1 : Int) (K : Value → WP) : WP :=
 br (decide (y1 < 8)) (
 K (.int .i64 (-1))) (
 br (decide (y1 > 65536)) (
 K (.int .i64 (-1))) (
 br (y0 == 0) (
 K (.int .i64 0)) (
 br (y0 == 1) (
 letv (IntKind.i64.wrap (y1 - 1)) fun x1 =>
 K (.int .i64 x1)) (
 K (.int .i64 (-1))))))
theorem F.manifest_Sector_eq (y0 : Int) (y1 : Int) (K : Value → WP) : genF Try.prog Try.f41 ⟨[], [], [], [], [], []⟩ [.int .i64 y0, .int .i64 y1] K = F.manifest_Sector y0 y1 K := by kernel_rfl
theorem F.manifest_Sector_ok (y0 : Int) (y1 : Int) (K : Value → WP) (w : World) (h : F.manifest_Sector y0 y1 K w) : callW Try.prog 41 #[.int .i64 y0, .int .i64 y1] K w :=
  genF_use Try.func41 (F.manifest_Sector_eq y0 y1 K) h

set_option maxRecDepth 100000 in
set_option linter.unusedVariables false in
def F.manifest_Read (y0a : Option Addr) (y0n : Nat) (y0c : Nat) (K : Value → WP) : WP :=
 sem Try.prog (Instr.alloc 67 true (.tuple #[])) fun v2 =>
 asA v2 fun p1 =>
 br (decide (((y0n : Nat) : Int) < 64)) (
 sem Try.prog (Instr.storeAt 67 (.pointer (some p1)) (.agg #[.int .i64 0, .int .i64 0, .int .i64 0])) fun _ =>
 semR Try.prog (Instr.loadAt 67 (.pointer (some p1))) fun v3 =>
 asAgg v3 fun l4 =>
 uncons l4 fun v5 r6 =>
 asI .i64 v5 fun x7 =>
 uncons r6 fun v8 r9 =>
 asI .i64 v8 fun x10 =>
 uncons r9 fun v11 r12 =>
 asI .i64 v11 fun x13 =>
 unnil r12 (
 K (.tuple #[.agg #[.int .i64 x7, .int .i64 x10, .int .i64 x13], .int .i64 3]))) (
 br (decide (((y0n : Nat) : Int) > 64)) (
 sem Try.prog (Instr.storeAt 67 (.pointer (some p1)) (.agg #[.int .i64 0, .int .i64 0, .int .i64 0])) fun _ =>
 semR Try.prog (Instr.loadAt 67 (.pointer (some p1))) fun v14 =>
 asAgg v14 fun l15 =>
 uncons l15 fun v16 r17 =>
 asI .i64 v16 fun x18 =>
 uncons r17 fun v19 r20 =>
 asI .i64 v19 fun x21 =>
 uncons r20 fun v22 r23 =>
 asI .i64 v22 fun x24 =>
 unnil r23 (
 K (.tuple #[.agg #[.int .i64 x18, .int .i64 x21, .int .i64 x24], .int .i64 6]))) (
 need true (drewW (
 sem Try.prog (Instr.sliceAt 22 (.slice y0a y0n y0c) none (some (.int .i64 4)) none) fun v25 =>
 asS v25 fun a26 n27 c28 =>
 sem Try.prog (Instr.sliceAt 22 (.slice y0a y0n y0c) (some (.int .i64 60)) none none) fun v29 =>
 asS v29 fun a30 n31 c32 =>
 callW Try.prog 56 #[.slice a26 n27 c28, .slice a30 n31 c32] fun v33 =>
 asB v33 fun b34 =>
 need true (
 br (!b34) (
 sem Try.prog (Instr.storeAt 67 (.pointer (some p1)) (.agg #[.int .i64 0, .int .i64 0, .int .i64 0])) fun _ =>
 semR Try.prog (Instr.loadAt 67 (.pointer (some p1))) fun v35 =>
 asAgg v35 fun l36 =>
 uncons l36 fun v37 r38 =>
 asI .i64 v37 fun x39 =>
 uncons r38 fun v40 r41 =>
 asI .i64 v40 fun x42 =>
 uncons r41 fun v43 r44 =>
 asI .i64 v43 fun x45 =>
 unnil r44 (
 K (.tuple #[.agg #[.int .i64 x39, .int .i64 x42, .int .i64 x45], .int .i64 9]))) (
 need true (drewW (
 sem Try.prog (Instr.sliceAt 22 (.slice y0a y0n y0c) none (some (.int .i64 56)) none) fun v46 =>
 asS v46 fun a47 n48 c49 =>
 callW Try.prog 52 #[.slice a47 n48 c49] fun v50 =>
 asI .u32 v50 fun x51 =>
 letv (IntKind.u64.wrap x51) fun x52 =>
 sem Try.prog (Instr.sliceAt 22 (.slice y0a y0n y0c) (some (.int .i64 56)) (some (.int .i64 60)) none) fun v53 =>
 asS v53 fun a54 n55 c56 =>
 callW Try.prog 57 #[.slice a54 n55 c56] fun v57 =>
 asI .u64 v57 fun x58 =>
 need true (
 br (x52 != x58) (
 sem Try.prog (Instr.storeAt 67 (.pointer (some p1)) (.agg #[.int .i64 0, .int .i64 0, .int .i64 0])) fun _ =>
 semR Try.prog (Instr.loadAt 67 (.pointer (some p1))) fun v59 =>
 asAgg v59 fun l60 =>
 uncons l60 fun v61 r62 =>
 asI .i64 v61 fun x63 =>
 uncons r62 fun v64 r65 =>
 asI .i64 v64 fun x66 =>
 uncons r65 fun v67 r68 =>
 asI .i64 v67 fun x69 =>
 unnil r68 (
 K (.tuple #[.agg #[.int .i64 x63, .int .i64 x66, .int .i64 x69], .int .i64 5]))) (
 callW Try.prog 58 #[.slice y0a y0n y0c] fun v70 =>
 asP v70 fun q71 =>
 callW Try.prog 59 #[.pointer q71, .int .i64 4] fun v72 =>
 asI .u64 v72 fun x73 =>
 letv (IntKind.i64.wrap x73) fun x74 =>
 callW Try.prog 59 #[.pointer q71, .int .i64 4] fun v75 =>
 asI .u64 v75 fun x76 =>
 letv (IntKind.i64.wrap x76) fun x77 =>
 callW Try.prog 59 #[.pointer q71, .int .i64 4] fun v78 =>
 asI .u64 v78 fun x79 =>
 letv (IntKind.i64.wrap x79) fun x80 =>
 sem Try.prog (Instr.alloc 67 true (.tuple #[])) fun v82 =>
 asA v82 fun p81 =>
 sem Try.prog (Instr.storeAt 67 (.pointer (some p81)) (.agg #[.int .i64 x74, .int .i64 x77, .int .i64 x80])) fun _ =>
 sem Try.prog (Instr.loadAt 67 (.pointer (some p81))) fun v83 =>
 asAgg v83 fun l84 =>
 uncons l84 fun v85 r86 =>
 asI .i64 v85 fun x87 =>
 uncons r86 fun v88 r89 =>
 asI .i64 v88 fun x90 =>
 uncons r89 fun v91 r92 =>
 asI .i64 v91 fun x93 =>
 unnil r92 (
 callW Try.prog 39 #[.agg #[.int .i64 x87, .int .i64 x90, .int .i64 x93]] fun v94 =>
 asTup v94 fun l95 =>
 uncons l95 fun v96 r97 =>
 asS v96 fun a98 n99 c100 =>
 uncons r97 fun v101 r102 =>
 asI .i64 v101 fun x103 =>
 unnil r102 (
 br (x103 != 0) (
 sem Try.prog (Instr.storeAt 67 (.pointer (some p1)) (.agg #[.int .i64 0, .int .i64 0, .int .i64 0])) fun _ =>
 semR Try.prog (Instr.loadAt 67 (.pointer (some p1))) fun v104 =>
 asAgg v104 fun l105 =>
 uncons l105 fun v106 r107 =>
 asI .i64 v106 fun x108 =>
 uncons r107 fun v109 r110 =>
 asI .i64 v109 fun x111 =>
 uncons r110 fun v112 r113 =>
 asI .i64 v112 fun x114 =>
 unnil r113 (
 K (.tuple #[.agg #[.int .i64 x108, .int .i64 x111, .int .i64 x114], .int .i64 4]))) (
 callW Try.prog 56 #[.slice y0a y0n y0c, .slice a98 n99 c100] fun v115 =>
 asB v115 fun b116 =>
 br (!b116) (
 sem Try.prog (Instr.storeAt 67 (.pointer (some p1)) (.agg #[.int .i64 0, .int .i64 0, .int .i64 0])) fun _ =>
 semR Try.prog (Instr.loadAt 67 (.pointer (some p1))) fun v117 =>
 asAgg v117 fun l118 =>
 uncons l118 fun v119 r120 =>
 asI .i64 v119 fun x121 =>
 uncons r120 fun v122 r123 =>
 asI .i64 v122 fun x124 =>
 uncons r123 fun v125 r126 =>
 asI .i64 v125 fun x127 =>
 unnil r126 (
 K (.tuple #[.agg #[.int .i64 x121, .int .i64 x124, .int .i64 x127], .int .i64 4]))) (
 sem Try.prog (Instr.loadAt 67 (.pointer (some p81))) fun v128 =>
 asAgg v128 fun l129 =>
 uncons l129 fun v130 r131 =>
 asI .i64 v130 fun x132 =>
 uncons r131 fun v133 r134 =>
 asI .i64 v133 fun x135 =>
 uncons r134 fun v136 r137 =>
 asI .i64 v136 fun x138 =>
 unnil r137 (
 sem Try.prog (Instr.storeAt 67 (.pointer (some p1)) (.agg #[.int .i64 x132, .int .i64 x135, .int .i64 x138])) fun _ =>
 semR Try.prog (Instr.loadAt 67 (.pointer (some p1))) fun v139 =>
 asAgg v139 fun l140 =>
 uncons l140 fun v141 r142 =>
 asI .i64 v141 fun x143 =>
 uncons r142 fun v144 r145 =>
 asI .i64 v144 fun x146 =>
 uncons r145 fun v147 r148 =>
 asI .i64 v147 fun x149 =>
 unnil r148 (
 K (.tuple #[.agg #[.int .i64 x143, .int .i64 x146, .int .i64 x149], .int .i64 0])))))))))))))))))
theorem F.manifest_Read_eq (y0a : Option Addr) (y0n : Nat) (y0c : Nat) (K : Value → WP) : genF Try.prog Try.f43 ⟨[], [], [], [], [], []⟩ [.slice y0a y0n y0c] K = F.manifest_Read y0a y0n y0c K := by kernel_rfl
theorem F.manifest_Read_ok (y0a : Option Addr) (y0n : Nat) (y0c : Nat) (K : Value → WP) (w : World) (h : F.manifest_Read y0a y0n y0c K w) : callW Try.prog 43 #[.slice y0a y0n y0c] K w :=
  genF_use Try.func43 (F.manifest_Read_eq y0a y0n y0c K) h

set_option maxRecDepth 100000 in
set_option linter.unusedVariables false in
def F.manifest_Next (y0a : Option Addr) (y0n : Nat) (y0c : Nat) (y1 : Int) (K : Value → WP) : WP :=
 loopW [.int .i64 0, .int .i64 0] (fun K1 vs2 =>
 uncons vs2 fun v3 r4 =>
 asI .i64 v3 fun x5 =>
 uncons r4 fun v6 r7 =>
 asI .i64 v6 fun x8 =>
 unnil r7 (
 br (decide (x8 < ((y0n : Nat) : Int))) (
 sem Try.prog (Instr.indexAt 108 (.slice y0a y0n y0c) (.int .i64 x8)) fun v10 =>
 asA v10 fun p9 =>
 sem Try.prog (Instr.loadAt 110 (.pointer (some p9))) fun v11 =>
 asAgg v11 fun l12 =>
 uncons l12 fun v13 r14 =>
 asI .i64 v13 fun x15 =>
 uncons r14 fun v16 r17 =>
 asI .i64 v16 fun x18 =>
 uncons r17 fun v19 r20 =>
 asI .i64 v19 fun x21 =>
 uncons r20 fun v22 r23 =>
 asI .i64 v22 fun x24 =>
 unnil r23 (
 sem Try.prog (Instr.alloc 110 true (.tuple #[])) fun v26 =>
 asA v26 fun p25 =>
 sem Try.prog (Instr.storeAt 110 (.pointer (some p25)) (.agg #[.int .i64 x15, .int .i64 x18, .int .i64 x21, .int .i64 x24])) fun _ =>
 sem Try.prog (Instr.loadAt 3 (.pointer (some (p25.add 1)))) fun v27 =>
 asI .i64 v27 fun x28 =>
 letv (maxI x5 x28) fun x29 =>
 letv (IntKind.i64.wrap (x8 + 1)) fun x30 =>
 K1 [.int .i64 x29, .int .i64 x30])) (
 br (decide (x5 ≥ 4294967295)) (
 K (.tuple #[.int .i64 0, .int .i64 0, .int .i64 7])) (
 joinW (fun K31 =>
 br (y1 == 0) (
 K31 [.int .i64 1]) (
 K31 [.int .i64 0])) (fun vs32 =>
 uncons vs32 fun v33 r34 =>
 asI .i64 v33 fun x35 =>
 unnil r34 (
 letv (IntKind.i64.wrap (x5 + 1)) fun x36 =>
 K (.tuple #[.int .i64 x36, .int .i64 x35, .int .i64 0])))))))
theorem F.manifest_Next_eq (y0a : Option Addr) (y0n : Nat) (y0c : Nat) (y1 : Int) (K : Value → WP) : genF Try.prog Try.f49 ⟨[(2, [(4, 3), (11, 3)])], [(9, [(5, 3)])], [], [], [], []⟩ [.slice y0a y0n y0c, .int .i64 y1] K = F.manifest_Next y0a y0n y0c y1 K := by kernel_rfl
theorem F.manifest_Next_ok (y0a : Option Addr) (y0n : Nat) (y0c : Nat) (y1 : Int) (K : Value → WP) (w : World) (h : F.manifest_Next y0a y0n y0c y1 K w) : callW Try.prog 49 #[.slice y0a y0n y0c, .int .i64 y1] K w :=
  genF_use Try.func49 (F.manifest_Next_eq y0a y0n y0c y1 K) h

set_option maxRecDepth 100000 in
set_option linter.unusedVariables false in
def F.manifest_may (y0_0 : Int) (y0_1 : Int) (y0_2 : Int) (K : Value → WP) : WP :=
 sem Try.prog (Instr.box 67 (.agg #[.int .i64 y0_0, .int .i64 y0_1, .int .i64 y0_2])) fun v2 =>
 asA v2 fun p1 =>
 joinW (fun K3 =>
 sem Try.prog (Instr.loadAt 3 (.pointer (some p1))) fun v5 =>
 asI .i64 v5 fun x6 =>
 br (decide (x6 ≥ 1)) (
 sem Try.prog (Instr.loadAt 3 (.pointer (some p1))) fun v7 =>
 asI .i64 v7 fun x8 =>
 br (decide (x8 ≤ 4294967295)) (
 sem Try.prog (Instr.loadAt 3 (.pointer (some (p1.add 1)))) fun v9 =>
 asI .i64 v9 fun x10 =>
 br (decide (x10 ≥ 1)) (
 sem Try.prog (Instr.loadAt 3 (.pointer (some (p1.add 1)))) fun v11 =>
 asI .i64 v11 fun x12 =>
 br (decide (x12 ≤ 65534)) (
 sem Try.prog (Instr.loadAt 3 (.pointer (some (p1.add 2)))) fun v13 =>
 asI .i64 v13 fun x14 =>
 br (decide (x14 ≥ 8)) (
 sem Try.prog (Instr.loadAt 3 (.pointer (some (p1.add 2)))) fun v15 =>
 asI .i64 v15 fun x16 =>
 K3 [.bool (decide (x16 ≤ 65542))]) (
 K3 [.bool false])) (
 K3 [.bool false])) (
 K3 [.bool false])) (
 K3 [.bool false])) (
 K3 [.bool false])) (fun vs4 =>
 uncons vs4 fun v17 r18 =>
 asB v17 fun b19 =>
 unnil r18 (
 K (.bool b19)))
theorem F.manifest_may_eq (y0_0 : Int) (y0_1 : Int) (y0_2 : Int) (K : Value → WP) : genF Try.prog Try.f50 ⟨[], [], [], [(1, [(2, 4)])], [], []⟩ [.agg #[.int .i64 y0_0, .int .i64 y0_1, .int .i64 y0_2]] K = F.manifest_may y0_0 y0_1 y0_2 K := by kernel_rfl
theorem F.manifest_may_ok (y0_0 : Int) (y0_1 : Int) (y0_2 : Int) (K : Value → WP) (w : World) (h : F.manifest_may y0_0 y0_1 y0_2 K w) : callW Try.prog 50 #[.agg #[.int .i64 y0_0, .int .i64 y0_1, .int .i64 y0_2]] K w :=
  genF_use Try.func50 (F.manifest_may_eq y0_0 y0_1 y0_2 K) h
end Go.Proofs.Ytehpdpdmjflddaa
