/-
  The readings of some functions of the program, printed by gen.py off the cut and checked by the kernel.
-/
import Derived.Test.YtehpdpdmjflddaaGenT
import Derived.Test.YtehpdpdmjflddaaProg
namespace Go.Proofs.Ytehpdpdmjflddaa
open Go.RowKit

set_option maxRecDepth 100000 in
set_option linter.unusedVariables false in
def F.hayloftref21_Bytes (y0_0 : Int) (y0_1 : Int) (y0_2 : Int) (K : Value → WP) : WP :=
 sem Try.prog (Instr.box 69 (.agg #[.int .i64 y0_0, .int .i64 y0_1, .int .i64 y0_2])) fun v2 =>
 asA v2 fun p1 =>
 sem Try.prog (Instr.loadAt 69 (.pointer (some p1))) fun v3 =>
 asAgg v3 fun l4 =>
 uncons l4 fun v5 r6 =>
 asI .i64 v5 fun x7 =>
 uncons r6 fun v8 r9 =>
 asI .i64 v8 fun x10 =>
 uncons r9 fun v11 r12 =>
 asI .i64 v11 fun x13 =>
 unnil r12 (
 callW Try.prog 53 #[.agg #[.int .i64 x7, .int .i64 x10, .int .i64 x13]] fun v14 =>
 asB v14 fun b15 =>
 br (!b15) (
 K (.tuple #[.slice none 0 0, .int .i64 4])) (
 sem Try.prog (Instr.loadAt 3 (.pointer (some p1))) fun v16 =>
 asI .i64 v16 fun x17 =>
 sem Try.prog (Instr.loadAt 3 (.pointer (some (p1.add 1)))) fun v18 =>
 asI .i64 v18 fun x19 =>
 sem Try.prog (Instr.loadAt 3 (.pointer (some (p1.add 2)))) fun v20 =>
 asI .i64 v20 fun x21 =>
 sem Try.prog (Instr.buildSlice 35 3 #[(0, .int .i64 x17), (1, .int .i64 x19), (2, .int .i64 x21)]) fun v22 =>
 asS v22 fun a23 n24 c25 =>
 loopW [.slice none 0 0, .int .i64 0] (fun K26 vs27 =>
 uncons vs27 fun v28 r29 =>
 asS v28 fun a30 n31 c32 =>
 uncons r29 fun v33 r34 =>
 asI .i64 v33 fun x35 =>
 unnil r34 (
 br (decide (x35 < ((n24 : Nat) : Int))) (
 sem Try.prog (Instr.indexAt 35 (.slice a23 n24 c25) (.int .i64 x35)) fun v37 =>
 asA v37 fun p36 =>
 sem Try.prog (Instr.loadAt 3 (.pointer (some p36))) fun v38 =>
 asI .i64 v38 fun x39 =>
 letv (IntKind.u64.wrap x39) fun x40 =>
 callW Try.prog 54 #[.int .u64 x40, .int .i64 4] fun v41 =>
 asS v41 fun a42 n43 c44 =>
 sem Try.prog (Builtin.append_ #[22, 22] 22 #[.slice a30 n31 c32, .slice a42 n43 c44]) fun v45 =>
 asS v45 fun a46 n47 c48 =>
 letv (IntKind.i64.wrap (x35 + 1)) fun x49 =>
 K26 [.slice a46 n47 c48, .int .i64 x49]) (
 sem Try.prog (Builtin.append_ #[22, 3] 22 #[.slice a30 n31 c32, .int .i64 44]) fun v50 =>
 asS v50 fun a51 n52 c53 =>
 callW Try.prog 55 #[.slice a51 n52 c53] fun v54 =>
 asI .u32 v54 fun x55 =>
 letv (IntKind.u64.wrap x55) fun x56 =>
 callW Try.prog 54 #[.int .u64 x56, .int .i64 4] fun v57 =>
 asS v57 fun a58 n59 c60 =>
 sem Try.prog (Builtin.append_ #[22, 22] 22 #[.slice a51 n52 c53, .slice a58 n59 c60]) fun v61 =>
 asS v61 fun a62 n63 c64 =>
 sem Try.prog (Instr.loadAt 3 (.pointer (some p1))) fun v65 =>
 asI .i64 v65 fun x66 =>
 letv (IntKind.u64.wrap x66) fun x67 =>
 callW Try.prog 54 #[.int .u64 x67, .int .i64 4] fun v68 =>
 asS v68 fun a69 n70 c71 =>
 sem Try.prog (Builtin.append_ #[22, 22] 22 #[.slice a62 n63 c64, .slice a69 n70 c71]) fun v72 =>
 asS v72 fun a73 n74 c75 =>
 K (.tuple #[.slice a73 n74 c75, .int .i64 0]))))))
theorem F.hayloftref21_Bytes_eq (y0_0 : Int) (y0_1 : Int) (y0_2 : Int) (K : Value → WP) : genF Try.prog Try.f40 ⟨[(5, [(4, 22), (18, 3)])], [], [], [], [], []⟩ [.agg #[.int .i64 y0_0, .int .i64 y0_1, .int .i64 y0_2]] K = F.hayloftref21_Bytes y0_0 y0_1 y0_2 K := by kernel_rfl
theorem F.hayloftref21_Bytes_ok (y0_0 : Int) (y0_1 : Int) (y0_2 : Int) (K : Value → WP) (w : World) (h : F.hayloftref21_Bytes y0_0 y0_1 y0_2 K w) : callW Try.prog 40 #[.agg #[.int .i64 y0_0, .int .i64 y0_1, .int .i64 y0_2]] K w :=
  genF_use Try.func40 (F.hayloftref21_Bytes_eq y0_0 y0_1 y0_2 K) h

set_option maxRecDepth 100000 in
set_option linter.unusedVariables false in
def F.hayloftref21_Sector (y0 : Int) (y1 : Int) (K : Value → WP) : WP :=
 br (decide (y0 < 0)) (
 K (.int .i64 (-1))) (
 br (decide (y0 > 1)) (
 K (.int .i64 (-1))) (
 br (decide (y1 < 8)) (
 K (.int .i64 (-1))) (
 br (decide (y1 > 65536)) (
 K (.int .i64 (-1))) (
 br (y0 == 0) (
 K (.int .i64 0)) (
 letv (IntKind.i64.wrap (y1 - 1)) fun x1 =>
 K (.int .i64 x1))))))
theorem F.hayloftref21_Sector_eq (y0 : Int) (y1 : Int) (K : Value → WP) : genF Try.prog Try.f42 ⟨[], [], [], [], [], []⟩ [.int .i64 y0, .int .i64 y1] K = F.hayloftref21_Sector y0 y1 K := by kernel_rfl
theorem F.hayloftref21_Sector_ok (y0 : Int) (y1 : Int) (K : Value → WP) (w : World) (h : F.hayloftref21_Sector y0 y1 K w) : callW Try.prog 42 #[.int .i64 y0, .int .i64 y1] K w :=
  genF_use Try.func42 (F.hayloftref21_Sector_eq y0 y1 K) h

set_option maxRecDepth 100000 in
set_option linter.unusedVariables false in
def F.hayloftref21_Read (y0a : Option Addr) (y0n : Nat) (y0c : Nat) (K : Value → WP) : WP :=
 sem Try.prog (Instr.alloc 69 true (.tuple #[])) fun v2 =>
 asA v2 fun p1 =>
 br (decide (((y0n : Nat) : Int) < 64)) (
 sem Try.prog (Instr.storeAt 69 (.pointer (some p1)) (.agg #[.int .i64 0, .int .i64 0, .int .i64 0])) fun _ =>
 semR Try.prog (Instr.loadAt 69 (.pointer (some p1))) fun v3 =>
 asAgg v3 fun l4 =>
 uncons l4 fun v5 r6 =>
 asI .i64 v5 fun x7 =>
 uncons r6 fun v8 r9 =>
 asI .i64 v8 fun x10 =>
 uncons r9 fun v11 r12 =>
 asI .i64 v11 fun x13 =>
 unnil r12 (
 K (.tuple #[.agg #[.int .i64 x7, .int .i64 x10, .int .i64 x13], .int .i64 3]))) (
 br (decide (((y0n : Nat) : Int) > 64)) (
 sem Try.prog (Instr.storeAt 69 (.pointer (some p1)) (.agg #[.int .i64 0, .int .i64 0, .int .i64 0])) fun _ =>
 semR Try.prog (Instr.loadAt 69 (.pointer (some p1))) fun v14 =>
 asAgg v14 fun l15 =>
 uncons l15 fun v16 r17 =>
 asI .i64 v16 fun x18 =>
 uncons r17 fun v19 r20 =>
 asI .i64 v19 fun x21 =>
 uncons r20 fun v22 r23 =>
 asI .i64 v22 fun x24 =>
 unnil r23 (
 K (.tuple #[.agg #[.int .i64 x18, .int .i64 x21, .int .i64 x24], .int .i64 6]))) (
 need true (drewW (
 sem Try.prog (Instr.sliceAt 22 (.slice y0a y0n y0c) none (some (.int .i64 4)) none) fun v25 =>
 asS v25 fun a26 n27 c28 =>
 sem Try.prog (Instr.sliceAt 22 (.slice y0a y0n y0c) (some (.int .i64 60)) none none) fun v29 =>
 asS v29 fun a30 n31 c32 =>
 callW Try.prog 25 #[.slice a26 n27 c28, .slice a30 n31 c32] fun v33 =>
 asB v33 fun b34 =>
 need true (
 br (!b34) (
 sem Try.prog (Instr.storeAt 69 (.pointer (some p1)) (.agg #[.int .i64 0, .int .i64 0, .int .i64 0])) fun _ =>
 semR Try.prog (Instr.loadAt 69 (.pointer (some p1))) fun v35 =>
 asAgg v35 fun l36 =>
 uncons l36 fun v37 r38 =>
 asI .i64 v37 fun x39 =>
 uncons r38 fun v40 r41 =>
 asI .i64 v40 fun x42 =>
 uncons r41 fun v43 r44 =>
 asI .i64 v43 fun x45 =>
 unnil r44 (
 K (.tuple #[.agg #[.int .i64 x39, .int .i64 x42, .int .i64 x45], .int .i64 9]))) (
 need true (drewW (
 sem Try.prog (Instr.sliceAt 22 (.slice y0a y0n y0c) none (some (.int .i64 56)) none) fun v46 =>
 asS v46 fun a47 n48 c49 =>
 callW Try.prog 55 #[.slice a47 n48 c49] fun v50 =>
 asI .u32 v50 fun x51 =>
 letv (IntKind.u64.wrap x51) fun x52 =>
 sem Try.prog (Instr.sliceAt 22 (.slice y0a y0n y0c) (some (.int .i64 56)) (some (.int .i64 60)) none) fun v53 =>
 asS v53 fun a54 n55 c56 =>
 callW Try.prog 60 #[.slice a54 n55 c56] fun v57 =>
 asI .u64 v57 fun x58 =>
 need true (
 br (x52 != x58) (
 sem Try.prog (Instr.storeAt 69 (.pointer (some p1)) (.agg #[.int .i64 0, .int .i64 0, .int .i64 0])) fun _ =>
 semR Try.prog (Instr.loadAt 69 (.pointer (some p1))) fun v59 =>
 asAgg v59 fun l60 =>
 uncons l60 fun v61 r62 =>
 asI .i64 v61 fun x63 =>
 uncons r62 fun v64 r65 =>
 asI .i64 v64 fun x66 =>
 uncons r65 fun v67 r68 =>
 asI .i64 v67 fun x69 =>
 unnil r68 (
 K (.tuple #[.agg #[.int .i64 x63, .int .i64 x66, .int .i64 x69], .int .i64 5]))) (
 joinW (fun K70 =>
 need true (drewW (
 sem Try.prog (Instr.sliceAt 22 (.slice y0a y0n y0c) none (some (.int .i64 4)) none) fun v72 =>
 asS v72 fun a73 n74 c75 =>
 both (
 sem Try.prog (Instr.alloc 69 true (.tuple #[])) fun v77 =>
 asA v77 fun p76 =>
 callW Try.prog 60 #[.slice a73 n74 c75] fun v78 =>
 asI .u64 v78 fun x79 =>
 letv (IntKind.i64.wrap x79) fun x80 =>
 sem Try.prog (Instr.sliceAt 22 (.slice y0a y0n y0c) (some (.int .i64 4)) (some (.int .i64 8)) none) fun v81 =>
 asS v81 fun a82 n83 c84 =>
 callW Try.prog 60 #[.slice a82 n83 c84] fun v85 =>
 asI .u64 v85 fun x86 =>
 letv (IntKind.i64.wrap x86) fun x87 =>
 sem Try.prog (Instr.sliceAt 22 (.slice y0a y0n y0c) (some (.int .i64 8)) (some (.int .i64 12)) none) fun v88 =>
 asS v88 fun a89 n90 c91 =>
 callW Try.prog 60 #[.slice a89 n90 c91] fun v92 =>
 asI .u64 v92 fun x93 =>
 letv (IntKind.i64.wrap x93) fun x94 =>
 sem Try.prog (Instr.storeAt 69 (.pointer (some p76)) (.agg #[.int .i64 x80, .int .i64 x87, .int .i64 x94])) fun _ =>
 need true (
 K70 [.pointer (some p76)])) (
 callW Try.prog 60 #[.slice a73 n74 c75] fun v95 =>
 asI .u64 v95 fun x96 =>
 letv (IntKind.i64.wrap x96) fun x97 =>
 sem Try.prog (Instr.sliceAt 22 (.slice y0a y0n y0c) (some (.int .i64 4)) (some (.int .i64 8)) none) fun v98 =>
 asS v98 fun a99 n100 c101 =>
 both (
 sem Try.prog (Instr.alloc 69 true (.tuple #[])) fun v103 =>
 asA v103 fun p102 =>
 callW Try.prog 60 #[.slice a99 n100 c101] fun v104 =>
 asI .u64 v104 fun x105 =>
 letv (IntKind.i64.wrap x105) fun x106 =>
 sem Try.prog (Instr.sliceAt 22 (.slice y0a y0n y0c) (some (.int .i64 8)) (some (.int .i64 12)) none) fun v107 =>
 asS v107 fun a108 n109 c110 =>
 callW Try.prog 60 #[.slice a108 n109 c110] fun v111 =>
 asI .u64 v111 fun x112 =>
 letv (IntKind.i64.wrap x112) fun x113 =>
 sem Try.prog (Instr.storeAt 69 (.pointer (some p102)) (.agg #[.int .i64 x97, .int .i64 x106, .int .i64 x113])) fun _ =>
 need true (
 K70 [.pointer (some p102)])) (
 callW Try.prog 60 #[.slice a99 n100 c101] fun v114 =>
 asI .u64 v114 fun x115 =>
 letv (IntKind.i64.wrap x115) fun x116 =>
 sem Try.prog (Instr.sliceAt 22 (.slice y0a y0n y0c) (some (.int .i64 8)) (some (.int .i64 12)) none) fun v117 =>
 asS v117 fun a118 n119 c120 =>
 both (
 sem Try.prog (Instr.alloc 69 true (.tuple #[])) fun v122 =>
 asA v122 fun p121 =>
 callW Try.prog 60 #[.slice a118 n119 c120] fun v123 =>
 asI .u64 v123 fun x124 =>
 letv (IntKind.i64.wrap x124) fun x125 =>
 sem Try.prog (Instr.storeAt 69 (.pointer (some p121)) (.agg #[.int .i64 x97, .int .i64 x116, .int .i64 x125])) fun _ =>
 need true (
 K70 [.pointer (some p121)])) (
 callW Try.prog 60 #[.slice a118 n119 c120] fun v126 =>
 asI .u64 v126 fun x127 =>
 letv (IntKind.i64.wrap x127) fun x128 =>
 sem Try.prog (Instr.alloc 69 true (.tuple #[])) fun v130 =>
 asA v130 fun p129 =>
 sem Try.prog (Instr.storeAt 69 (.pointer (some p129)) (.agg #[.int .i64 x97, .int .i64 x116, .int .i64 x128])) fun _ =>
 need true (
 K70 [.pointer (some p129)]))))))) (fun vs71 =>
 uncons vs71 fun v131 r132 =>
 asA v131 fun p133 =>
 unnil r132 (
 sem Try.prog (Instr.loadAt 69 (.pointer (some p133))) fun v134 =>
 asAgg v134 fun l135 =>
 uncons l135 fun v136 r137 =>
 asI .i64 v136 fun x138 =>
 uncons r137 fun v139 r140 =>
 asI .i64 v139 fun x141 =>
 uncons r140 fun v142 r143 =>
 asI .i64 v142 fun x144 =>
 unnil r143 (
 callW Try.prog 40 #[.agg #[.int .i64 x138, .int .i64 x141, .int .i64 x144]] fun v145 =>
 asTup v145 fun l146 =>
 uncons l146 fun v147 r148 =>
 asS v147 fun a149 n150 c151 =>
 uncons r148 fun v152 r153 =>
 asI .i64 v152 fun x154 =>
 unnil r153 (
 br (x154 != 0) (
 sem Try.prog (Instr.storeAt 69 (.pointer (some p1)) (.agg #[.int .i64 0, .int .i64 0, .int .i64 0])) fun _ =>
 semR Try.prog (Instr.loadAt 69 (.pointer (some p1))) fun v155 =>
 asAgg v155 fun l156 =>
 uncons l156 fun v157 r158 =>
 asI .i64 v157 fun x159 =>
 uncons r158 fun v160 r161 =>
 asI .i64 v160 fun x162 =>
 uncons r161 fun v163 r164 =>
 asI .i64 v163 fun x165 =>
 unnil r164 (
 K (.tuple #[.agg #[.int .i64 x159, .int .i64 x162, .int .i64 x165], .int .i64 4]))) (
 callW Try.prog 25 #[.slice y0a y0n y0c, .slice a149 n150 c151] fun v166 =>
 asB v166 fun b167 =>
 br (!b167) (
 sem Try.prog (Instr.storeAt 69 (.pointer (some p1)) (.agg #[.int .i64 0, .int .i64 0, .int .i64 0])) fun _ =>
 semR Try.prog (Instr.loadAt 69 (.pointer (some p1))) fun v168 =>
 asAgg v168 fun l169 =>
 uncons l169 fun v170 r171 =>
 asI .i64 v170 fun x172 =>
 uncons r171 fun v173 r174 =>
 asI .i64 v173 fun x175 =>
 uncons r174 fun v176 r177 =>
 asI .i64 v176 fun x178 =>
 unnil r177 (
 K (.tuple #[.agg #[.int .i64 x172, .int .i64 x175, .int .i64 x178], .int .i64 4]))) (
 sem Try.prog (Instr.loadAt 69 (.pointer (some p133))) fun v179 =>
 asAgg v179 fun l180 =>
 uncons l180 fun v181 r182 =>
 asI .i64 v181 fun x183 =>
 uncons r182 fun v184 r185 =>
 asI .i64 v184 fun x186 =>
 uncons r185 fun v187 r188 =>
 asI .i64 v187 fun x189 =>
 unnil r188 (
 sem Try.prog (Instr.storeAt 69 (.pointer (some p1)) (.agg #[.int .i64 x183, .int .i64 x186, .int .i64 x189])) fun _ =>
 semR Try.prog (Instr.loadAt 69 (.pointer (some p1))) fun v190 =>
 asAgg v190 fun l191 =>
 uncons l191 fun v192 r193 =>
 asI .i64 v192 fun x194 =>
 uncons r193 fun v195 r196 =>
 asI .i64 v195 fun x197 =>
 uncons r196 fun v198 r199 =>
 asI .i64 v198 fun x200 =>
 unnil r199 (
 K (.tuple #[.agg #[.int .i64 x194, .int .i64 x197, .int .i64 x200], .int .i64 0])))))))))))))))))))
theorem F.hayloftref21_Read_eq (y0a : Option Addr) (y0n : Nat) (y0c : Nat) (K : Value → WP) : genF Try.prog Try.f44 ⟨[], [], [], [(9, [(4, 4294967295)])], [], [(9, 13)]⟩ [.slice y0a y0n y0c] K = F.hayloftref21_Read y0a y0n y0c K := by kernel_rfl
theorem F.hayloftref21_Read_ok (y0a : Option Addr) (y0n : Nat) (y0c : Nat) (K : Value → WP) (w : World) (h : F.hayloftref21_Read y0a y0n y0c K w) : callW Try.prog 44 #[.slice y0a y0n y0c] K w :=
  genF_use Try.func44 (F.hayloftref21_Read_eq y0a y0n y0c K) h

set_option maxRecDepth 100000 in
set_option linter.unusedVariables false in
def F.hayloftref21_May (y0_0 : Int) (y0_1 : Int) (y0_2 : Int) (K : Value → WP) : WP :=
 sem Try.prog (Instr.box 69 (.agg #[.int .i64 y0_0, .int .i64 y0_1, .int .i64 y0_2])) fun v2 =>
 asA v2 fun p1 =>
 joinW (fun K3 =>
 sem Try.prog (Instr.loadAt 3 (.pointer (some p1))) fun v5 =>
 asI .i64 v5 fun x6 =>
 br (decide (x6 ≥ 1)) (
 sem Try.prog (Instr.loadAt 3 (.pointer (some p1))) fun v7 =>
 asI .i64 v7 fun x8 =>
 br (decide (x8 ≤ 4294967295)) (
 sem Try.prog (Instr.loadAt 3 (.pointer (some (p1.add 1)))) fun v9 =>
 asI .i64 v9 fun x10 =>
 br (decide (x10 ≥ 1)) (
 sem Try.prog (Instr.loadAt 3 (.pointer (some (p1.add 1)))) fun v11 =>
 asI .i64 v11 fun x12 =>
 br (decide (x12 ≤ 65534)) (
 sem Try.prog (Instr.loadAt 3 (.pointer (some (p1.add 2)))) fun v13 =>
 asI .i64 v13 fun x14 =>
 br (decide (x14 ≥ 8)) (
 sem Try.prog (Instr.loadAt 3 (.pointer (some (p1.add 2)))) fun v15 =>
 asI .i64 v15 fun x16 =>
 K3 [.bool (decide (x16 ≤ 65542))]) (
 K3 [.bool false])) (
 K3 [.bool false])) (
 K3 [.bool false])) (
 K3 [.bool false])) (
 K3 [.bool false])) (fun vs4 =>
 uncons vs4 fun v17 r18 =>
 asB v17 fun b19 =>
 unnil r18 (
 K (.bool b19)))
theorem F.hayloftref21_May_eq (y0_0 : Int) (y0_1 : Int) (y0_2 : Int) (K : Value → WP) : genF Try.prog Try.f53 ⟨[], [], [], [(1, [(2, 4)])], [], []⟩ [.agg #[.int .i64 y0_0, .int .i64 y0_1, .int .i64 y0_2]] K = F.hayloftref21_May y0_0 y0_1 y0_2 K := by kernel_rfl
theorem F.hayloftref21_May_ok (y0_0 : Int) (y0_1 : Int) (y0_2 : Int) (K : Value → WP) (w : World) (h : F.hayloftref21_May y0_0 y0_1 y0_2 K w) : callW Try.prog 53 #[.agg #[.int .i64 y0_0, .int .i64 y0_1, .int .i64 y0_2]] K w :=
  genF_use Try.func53 (F.hayloftref21_May_eq y0_0 y0_1 y0_2 K) h
end Go.Proofs.Ytehpdpdmjflddaa
