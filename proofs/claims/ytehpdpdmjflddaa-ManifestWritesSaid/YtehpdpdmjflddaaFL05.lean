/-
  The readings of some functions of the program, printed by gen.py off the cut and checked by the kernel.
-/
import Derived.Test.YtehpdpdmjflddaaGenT
import Derived.Test.YtehpdpdmjflddaaProg
namespace Go.Proofs.Ytehpdpdmjflddaa
open Go.RowKit

set_option maxRecDepth 100000 in
set_option linter.unusedVariables false in
def F.hayloftlaw05_DiskTorn (y0 : Int) (y1_0a : Option Addr) (y1_0n : Nat) (y1_0c : Nat) (y1_1a : Option Addr) (y1_1n : Nat) (y1_1c : Nat) (y1_2 : Int) (K : Value → WP) : WP :=
 sem Try.prog (Instr.box 24 (.agg #[.slice y1_0a y1_0n y1_0c, .slice y1_1a y1_1n y1_1c, .int .i64 y1_2])) fun v2 =>
 asA v2 fun p1 =>
 callW Try.prog 13 #[] fun v3 =>
 asB v3 fun b4 =>
 br (!b4) (
 K (.bool false)) (
 need true (drewW (
 sem Try.prog (Instr.loadAt 22 (.pointer (some p1))) fun v5 =>
 asS v5 fun a6 n7 c8 =>
 sem Try.prog (Instr.loadAt 22 (.pointer (some (p1.add 1)))) fun v9 =>
 asS v9 fun a10 n11 c12 =>
 sem Try.prog (Instr.loadAt 3 (.pointer (some (p1.add 2)))) fun v13 =>
 asI .i64 v13 fun x14 =>
 need true (
 br (decide (((n7 : Nat) : Int) > 64)) (
 K (.bool true)) (
 br (decide (((n11 : Nat) : Int) > 64)) (
 K (.bool true)) (
 callW Try.prog 14 #[.int .i64 32] fun v15 =>
 asTup v15 fun l16 =>
 uncons l16 fun v17 r18 =>
 asP v17 fun q19 =>
 uncons r18 fun v20 r21 =>
 asI .i64 v20 fun x22 =>
 unnil r21 (
 sem Try.prog (binOp .rem 5 (.int .u8 y0) (.int .u8 32)) fun v23 =>
 asI .u8 v23 fun x24 =>
 letv (IntKind.i64.wrap x24) fun x25 =>
 br (x22 != 0) (
 K (.bool false)) (
 callW Try.prog 15 #[.pointer q19, .int .i64 x25, .slice a6 n7 c8] fun v26 =>
 asI .i64 v26 fun x27 =>
 br (x27 != 0) (
 K (.bool false)) (
 callW Try.prog 16 #[.pointer q19] fun v28 =>
 asI .i64 v28 fun x29 =>
 br (x29 != 0) (
 K (.bool false)) (
 callW Try.prog 17 #[.pointer q19, .int .i64 x25] fun v30 =>
 asTup v30 fun l31 =>
 uncons l31 fun v32 r33 =>
 asS v32 fun a34 n35 c36 =>
 uncons r33 fun v37 r38 =>
 asI .i64 v37 fun x39 =>
 unnil r38 (
 callW Try.prog 15 #[.pointer q19, .int .i64 x25, .slice a10 n11 c12] fun v40 =>
 asI .i64 v40 fun x41 =>
 br (x41 != 0) (
 K (.bool false)) (
 callW Try.prog 17 #[.pointer q19, .int .i64 x25] fun v42 =>
 asTup v42 fun l43 =>
 uncons l43 fun v44 r45 =>
 asS v44 fun a46 n47 c48 =>
 uncons r45 fun v49 r50 =>
 asI .i64 v49 fun x51 =>
 unnil r50 (
 sem Try.prog (Instr.buildSlice 35 1 #[(0, .int .i64 x14)]) fun v52 =>
 asS v52 fun a53 n54 c55 =>
 callW Try.prog 18 #[.pointer q19, .slice a53 n54 c55] fun v56 =>
 asTup v56 fun l57 =>
 unnil l57 (
 callW Try.prog 17 #[.pointer q19, .int .i64 x25] fun v58 =>
 asTup v58 fun l59 =>
 uncons l59 fun v60 r61 =>
 asS v60 fun a62 n63 c64 =>
 uncons r61 fun v65 r66 =>
 asI .i64 v65 fun x67 =>
 unnil r66 (
 br (x67 != 0) (
 K (.bool false)) (
 br (((n35 : Nat) : Int) != 64) (
 K (.bool false)) (
 br (((n47 : Nat) : Int) != 64) (
 K (.bool false)) (
 br (((n63 : Nat) : Int) != 64) (
 K (.bool false)) (
 loopW [.int .i64 0] (fun K68 vs69 =>
 uncons vs69 fun v70 r71 =>
 asI .i64 v70 fun x72 =>
 unnil r71 (
 br (decide (x72 < 64)) (
 joinW (fun K73 =>
 need true (drewW (
 br (decide (x72 < x14)) (
 sem Try.prog (Instr.indexAt 22 (.slice a62 n63 c64) (.int .i64 x72)) fun v76 =>
 asA v76 fun p75 =>
 sem Try.prog (Instr.loadAt 5 (.pointer (some p75))) fun v77 =>
 asI .u8 v77 fun x78 =>
 sem Try.prog (Instr.indexAt 22 (.slice a46 n47 c48) (.int .i64 x72)) fun v80 =>
 asA v80 fun p79 =>
 sem Try.prog (Instr.loadAt 5 (.pointer (some p79))) fun v81 =>
 asI .u8 v81 fun x82 =>
 br (x78 != x82) (
 need true (
 K73 [.bool true])) (
 br (decide (x72 ≥ x14)) (
 sem Try.prog (Instr.indexAt 22 (.slice a62 n63 c64) (.int .i64 x72)) fun v84 =>
 asA v84 fun p83 =>
 sem Try.prog (Instr.loadAt 5 (.pointer (some p83))) fun v85 =>
 asI .u8 v85 fun x86 =>
 sem Try.prog (Instr.indexAt 22 (.slice a34 n35 c36) (.int .i64 x72)) fun v88 =>
 asA v88 fun p87 =>
 sem Try.prog (Instr.loadAt 5 (.pointer (some p87))) fun v89 =>
 asI .u8 v89 fun x90 =>
 need true (
 K73 [.bool (x86 != x90)])) (
 need true (
 K73 [.bool false])))) (
 br (decide (x72 ≥ x14)) (
 sem Try.prog (Instr.indexAt 22 (.slice a62 n63 c64) (.int .i64 x72)) fun v92 =>
 asA v92 fun p91 =>
 sem Try.prog (Instr.loadAt 5 (.pointer (some p91))) fun v93 =>
 asI .u8 v93 fun x94 =>
 sem Try.prog (Instr.indexAt 22 (.slice a34 n35 c36) (.int .i64 x72)) fun v96 =>
 asA v96 fun p95 =>
 sem Try.prog (Instr.loadAt 5 (.pointer (some p95))) fun v97 =>
 asI .u8 v97 fun x98 =>
 need true (
 K73 [.bool (x94 != x98)])) (
 need true (
 K73 [.bool false])))))) (fun vs74 =>
 uncons vs74 fun v99 r100 =>
 asB v99 fun b101 =>
 unnil r100 (
 br b101 (
 K (.bool false)) (
 letv (IntKind.i64.wrap (x72 + 1)) fun x102 =>
 K68 [.int .i64 x102])))) (
 K (.bool true)))))))))))))))))))))))
theorem F.hayloftlaw05_DiskTorn_eq (y0 : Int) (y1_0a : Option Addr) (y1_0n : Nat) (y1_0c : Nat) (y1_1a : Option Addr) (y1_1n : Nat) (y1_1c : Nat) (y1_2 : Int) (K : Value → WP) : genF Try.prog Try.f3 ⟨[(19, [(17, 3)])], [], [], [(21, [(132, 4)])], []⟩ [.int .u8 y0, .agg #[.slice y1_0a y1_0n y1_0c, .slice y1_1a y1_1n y1_1c, .int .i64 y1_2]] K = F.hayloftlaw05_DiskTorn y0 y1_0a y1_0n y1_0c y1_1a y1_1n y1_1c y1_2 K := by kernel_rfl
theorem F.hayloftlaw05_DiskTorn_ok (y0 : Int) (y1_0a : Option Addr) (y1_0n : Nat) (y1_0c : Nat) (y1_1a : Option Addr) (y1_1n : Nat) (y1_1c : Nat) (y1_2 : Int) (K : Value → WP) (w : World) (h : F.hayloftlaw05_DiskTorn y0 y1_0a y1_0n y1_0c y1_1a y1_1n y1_1c y1_2 K w) : callW Try.prog 3 #[.int .u8 y0, .agg #[.slice y1_0a y1_0n y1_0c, .slice y1_1a y1_1n y1_1c, .int .i64 y1_2]] K w :=
  genF_use Try.func3 (F.hayloftlaw05_DiskTorn_eq y0 y1_0a y1_0n y1_0c y1_1a y1_1n y1_1c y1_2 K) h

set_option maxRecDepth 100000 in
set_option linter.unusedVariables false in
def F.hayloftlaw05_DiskArmed (y0 : Int) (y1a : Option Addr) (y1n : Nat) (y1c : Nat) (y2a : Option Addr) (y2n : Nat) (y2c : Nat) (K : Value → WP) : WP :=
 callW Try.prog 13 #[] fun v1 =>
 asB v1 fun b2 =>
 br (!b2) (
 K (.bool false)) (
 callW Try.prog 14 #[.int .i64 32] fun v3 =>
 asTup v3 fun l4 =>
 uncons l4 fun v5 r6 =>
 asP v5 fun q7 =>
 uncons r6 fun v8 r9 =>
 asI .i64 v8 fun x10 =>
 unnil r9 (
 br (x10 != 0) (
 K (.bool (x10 == 0))) (
 br (decide (((y1n : Nat) : Int) > 100)) (
 K (.bool (x10 == 0))) (
 sem Try.prog (binOp .rem 5 (.int .u8 y0) (.int .u8 100)) fun v11 =>
 asI .u8 v11 fun x12 =>
 letv (IntKind.i64.wrap x12) fun x13 =>
 letv (IntKind.i64.wrap (x13 + 1)) fun x14 =>
 callW Try.prog 19 #[.pointer q7, .int .i64 x14] fun v15 =>
 asTup v15 fun l16 =>
 unnil l16 (
 loopW [.int .i64 0, .int .i64 0] (fun K17 vs18 =>
 uncons vs18 fun v19 r20 =>
 asI .i64 v19 fun x21 =>
 uncons r20 fun v22 r23 =>
 asI .i64 v22 fun x24 =>
 unnil r23 (
 br (decide (x24 < ((y1n : Nat) : Int))) (
 joinW (fun K25 =>
 sem Try.prog (Instr.indexAt 37 (.slice y1a y1n y1c) (.int .i64 x24)) fun v28 =>
 asA v28 fun p27 =>
 sem Try.prog (Instr.loadAt 40 (.pointer (some p27))) fun v29 =>
 asAgg v29 fun l30 =>
 uncons l30 fun v31 r32 =>
 asI .i64 v31 fun x33 =>
 uncons r32 fun v34 r35 =>
 asI .i64 v34 fun x36 =>
 uncons r35 fun v37 r38 =>
 asS v37 fun a39 n40 c41 =>
 uncons r38 fun v42 r43 =>
 asS v42 fun a44 n45 c46 =>
 unnil r43 (
 sem Try.prog (Instr.alloc 40 true (.tuple #[])) fun v48 =>
 asA v48 fun p47 =>
 sem Try.prog (Instr.storeAt 40 (.pointer (some p47)) (.agg #[.int .i64 x33, .int .i64 x36, .slice a39 n40 c41, .slice a44 n45 c46])) fun _ =>
 sem Try.prog (Instr.loadAt 22 (.pointer (some (p47.add 2)))) fun v49 =>
 asS v49 fun a50 n51 c52 =>
 br (decide (((n51 : Nat) : Int) > 64)) (
 K25 [.int .i64 x21]) (
 sem Try.prog (Instr.loadAt 3 (.pointer (some (p47.add 1)))) fun v53 =>
 asI .i64 v53 fun x54 =>
 letv (IntKind.i64.wrap (BitVec.ofInt 64 x54 &&& BitVec.ofInt 64 31).toNat) fun x55 =>
 sem Try.prog (Instr.loadAt 22 (.pointer (some (p47.add 2)))) fun v56 =>
 asS v56 fun a57 n58 c59 =>
 callW Try.prog 15 #[.pointer q7, .int .i64 x55, .slice a57 n58 c59] fun v60 =>
 asI .i64 v60 fun x61 =>
 sem Try.prog (Instr.loadAt 3 (.pointer (some p47))) fun v62 =>
 asI .i64 v62 fun x63 =>
 joinW (fun K64 =>
 br (x63 == 3) (
 callW Try.prog 16 #[.pointer q7] fun v66 =>
 asI .i64 v66 fun x67 =>
 letv (maxI x61 x67) fun x68 =>
 joinW (fun K69 =>
 br (x68 == 0) (
 letv (IntKind.i64.wrap (x21 + 1)) fun x71 =>
 K69 [.int .i64 x71]) (
 K69 [.int .i64 x21])) (fun vs70 =>
 uncons vs70 fun v72 r73 =>
 asI .i64 v72 fun x74 =>
 unnil r73 (
 K64 [.int .i64 x74, .int .i64 x68]))) (
 K64 [.int .i64 x21, .int .i64 x61])) (fun vs65 =>
 uncons vs65 fun v75 r76 =>
 asI .i64 v75 fun x77 =>
 uncons r76 fun v78 r79 =>
 asI .i64 v78 fun x80 =>
 unnil r79 (
 joinW (fun K81 =>
 br (x80 == 0) (
 letv (IntKind.i64.wrap (x77 + 1)) fun x83 =>
 K81 [.int .i64 x83]) (
 K81 [.int .i64 x77])) (fun vs82 =>
 uncons vs82 fun v84 r85 =>
 asI .i64 v84 fun x86 =>
 unnil r85 (
 joinW (fun K87 =>
 callW Try.prog 20 #[.pointer q7] fun v89 =>
 asB v89 fun b90 =>
 br (!(b90 == (x80 == 14))) (
 K87 [.bool true]) (
 br (x80 != 0) (
 K87 [.bool (x80 != 14)]) (
 K87 [.bool false]))) (fun vs88 =>
 uncons vs88 fun v91 r92 =>
 asB v91 fun b93 =>
 unnil r92 (
 br b93 (
 K (.bool false)) (
 K25 [.int .i64 x86])))))))))) (fun vs26 =>
 uncons vs26 fun v94 r95 =>
 asI .i64 v94 fun x96 =>
 unnil r95 (
 letv (IntKind.i64.wrap (x24 + 1)) fun x97 =>
 K17 [.int .i64 x96, .int .i64 x97]))) (
 joinW (fun K98 =>
 letv (IntKind.i64.wrap (x14 - 1)) fun x100 =>
 br (decide (x21 > x100)) (
 K98 [.bool true]) (
 callW Try.prog 20 #[.pointer q7] fun v101 =>
 asB v101 fun b102 =>
 br (!b102) (
 callW Try.prog 21 #[.pointer q7] fun v103 =>
 asI .i64 v103 fun x104 =>
 br (x21 != x104) (
 K98 [.bool true]) (
 callW Try.prog 20 #[.pointer q7] fun v105 =>
 asB v105 fun b106 =>
 br b106 (
 callW Try.prog 21 #[.pointer q7] fun v107 =>
 asI .i64 v107 fun x108 =>
 letv (IntKind.i64.wrap (x14 - 1)) fun x109 =>
 K98 [.bool (x108 != x109)]) (
 K98 [.bool false]))) (
 callW Try.prog 20 #[.pointer q7] fun v110 =>
 asB v110 fun b111 =>
 br b111 (
 callW Try.prog 21 #[.pointer q7] fun v112 =>
 asI .i64 v112 fun x113 =>
 letv (IntKind.i64.wrap (x14 - 1)) fun x114 =>
 K98 [.bool (x113 != x114)]) (
 K98 [.bool false])))) (fun vs99 =>
 uncons vs99 fun v115 r116 =>
 asB v115 fun b117 =>
 unnil r116 (
 br b117 (
 K (.bool false)) (
 callW Try.prog 20 #[.pointer q7] fun v118 =>
 asB v118 fun b119 =>
 joinW (fun K120 =>
 br b119 (
 callW Try.prog 17 #[.pointer q7, .int .i64 0] fun v122 =>
 asTup v122 fun l123 =>
 uncons l123 fun v124 r125 =>
 asS v124 fun a126 n127 c128 =>
 uncons r125 fun v129 r130 =>
 asI .i64 v129 fun x131 =>
 unnil r130 (
 br (x131 != 14) (
 K (.bool false)) (
 callW Try.prog 16 #[.pointer q7] fun v132 =>
 asI .i64 v132 fun x133 =>
 br (x133 != 14) (
 K (.bool false)) (
 callW Try.prog 15 #[.pointer q7, .int .i64 (-1), .slice none 0 0] fun v134 =>
 asI .i64 v134 fun x135 =>
 br (x135 != 14) (
 K (.bool false)) (
 K120 []))))) (
 K120 [])) (fun vs121 =>
 unnil vs121 (
 callW Try.prog 18 #[.pointer q7, .slice y2a y2n y2c] fun v136 =>
 asTup v136 fun l137 =>
 unnil l137 (
 joinW (fun K138 =>
 callW Try.prog 20 #[.pointer q7] fun v140 =>
 asB v140 fun b141 =>
 br (!b141) (
 callW Try.prog 22 #[.pointer q7] fun v142 =>
 asI .i64 v142 fun x143 =>
 br (x143 == 0) (
 callW Try.prog 16 #[.pointer q7] fun v144 =>
 asI .i64 v144 fun x145 =>
 K138 [.bool (x145 == 0)]) (
 K138 [.bool false])) (
 K138 [.bool false])) (fun vs139 =>
 uncons vs139 fun v146 r147 =>
 asB v146 fun b148 =>
 unnil r147 (
 K (.bool b148)))))))))))))))))
theorem F.hayloftlaw05_DiskArmed_eq (y0 : Int) (y1a : Option Addr) (y1n : Nat) (y1c : Nat) (y2a : Option Addr) (y2n : Nat) (y2c : Nat) (K : Value → WP) : genF Try.prog Try.f4 ⟨[(10, [(10, 3), (40, 3)])], [(15, [(10, 3), (13, 27)]), (17, [(10, 3)]), (19, [(10, 3)]), (26, [])], [(1, [(10, 3)])], [(20, [(82, 4)]), (23, [(109, 4)]), (30, [(6, 4)])], []⟩ [.int .u8 y0, .slice y1a y1n y1c, .slice y2a y2n y2c] K = F.hayloftlaw05_DiskArmed y0 y1a y1n y1c y2a y2n y2c K := by kernel_rfl
theorem F.hayloftlaw05_DiskArmed_ok (y0 : Int) (y1a : Option Addr) (y1n : Nat) (y1c : Nat) (y2a : Option Addr) (y2n : Nat) (y2c : Nat) (K : Value → WP) (w : World) (h : F.hayloftlaw05_DiskArmed y0 y1a y1n y1c y2a y2n y2c K w) : callW Try.prog 4 #[.int .u8 y0, .slice y1a y1n y1c, .slice y2a y2n y2c] K w :=
  genF_use Try.func4 (F.hayloftlaw05_DiskArmed_eq y0 y1a y1n y1c y2a y2n y2c K) h

set_option maxRecDepth 100000 in
set_option linter.unusedVariables false in
def F.hayloftlaw05_DiskFlushed (y0a : Option Addr) (y0n : Nat) (y0c : Nat) (y1a : Option Addr) (y1n : Nat) (y1c : Nat) (y2a : Option Addr) (y2n : Nat) (y2c : Nat) (K : Value → WP) : WP :=
 callW Try.prog 13 #[] fun v1 =>
 asB v1 fun b2 =>
 br (!b2) (
 K (.bool false)) (
 callW Try.prog 14 #[.int .i64 32] fun v3 =>
 asTup v3 fun l4 =>
 uncons l4 fun v5 r6 =>
 asP v5 fun q7 =>
 uncons r6 fun v8 r9 =>
 asI .i64 v8 fun x10 =>
 unnil r9 (
 br (x10 != 0) (
 K (.bool false)) (
 callW Try.prog 23 #[.pointer q7, .slice y0a y0n y0c] fun v11 =>
 asB v11 fun b12 =>
 br (!b12) (
 K (.bool false)) (
 callW Try.prog 16 #[.pointer q7] fun v13 =>
 asI .i64 v13 fun x14 =>
 br (x14 != 0) (
 K (.bool false)) (
 callW Try.prog 24 #[.pointer q7] fun v15 =>
 asS v15 fun a16 n17 c18 =>
 callW Try.prog 23 #[.pointer q7, .slice y1a y1n y1c] fun v19 =>
 asB v19 fun b20 =>
 br (!b20) (
 K (.bool false)) (
 br (((n17 : Nat) : Int) != 2048) (
 K (.bool false)) (
 callW Try.prog 18 #[.pointer q7, .slice y2a y2n y2c] fun v21 =>
 asTup v21 fun l22 =>
 unnil l22 (
 callW Try.prog 24 #[.pointer q7] fun v23 =>
 asS v23 fun a24 n25 c26 =>
 loopW [.int .i64 0] (fun K27 vs28 =>
 uncons vs28 fun v29 r30 =>
 asI .i64 v29 fun x31 =>
 unnil r30 (
 br (decide (x31 < 32)) (
 loopW [.bool false, .int .i64 0] (fun K32 vs33 =>
 uncons vs33 fun v34 r35 =>
 asB v34 fun b36 =>
 uncons r35 fun v37 r38 =>
 asI .i64 v37 fun x39 =>
 unnil r38 (
 br (decide (x39 < ((y1n : Nat) : Int))) (
 br (decide (x39 < 100)) (
 joinW (fun K40 =>
 br b36 (
 K40 [.bool true]) (
 sem Try.prog (Instr.indexAt 37 (.slice y1a y1n y1c) (.int .i64 x39)) fun v43 =>
 asA v43 fun p42 =>
 sem Try.prog (Instr.loadAt 22 (.pointer (some (p42.add 2)))) fun v44 =>
 asS v44 fun a45 n46 c47 =>
 br (decide (((n46 : Nat) : Int) ≤ 64)) (
 sem Try.prog (Instr.indexAt 37 (.slice y1a y1n y1c) (.int .i64 x39)) fun v49 =>
 asA v49 fun p48 =>
 sem Try.prog (Instr.loadAt 3 (.pointer (some (p48.add 1)))) fun v50 =>
 asI .i64 v50 fun x51 =>
 letv (IntKind.i64.wrap (BitVec.ofInt 64 x51 &&& BitVec.ofInt 64 31).toNat) fun x52 =>
 K40 [.bool (x52 == x31)]) (
 K40 [.bool false]))) (fun vs41 =>
 uncons vs41 fun v53 r54 =>
 asB v53 fun b55 =>
 unnil r54 (
 letv (IntKind.i64.wrap (x39 + 1)) fun x56 =>
 K32 [.bool b55, .int .i64 x56]))) (
 joinW (fun K57 =>
 need true (drewW (
 br (((n25 : Nat) : Int) != ((n17 : Nat) : Int)) (
 need true (
 K57 [.bool true])) (
 br (!b36) (
 letv (IntKind.i64.wrap (64 * x31)) fun x59 =>
 letv (IntKind.i64.wrap (64 * x31)) fun x60 =>
 letv (IntKind.i64.wrap (x60 + 64)) fun x61 =>
 sem Try.prog (Instr.sliceAt 22 (.slice a24 n25 c26) (some (.int .i64 x59)) (some (.int .i64 x61)) none) fun v62 =>
 asS v62 fun a63 n64 c65 =>
 letv (IntKind.i64.wrap (64 * x31)) fun x66 =>
 letv (IntKind.i64.wrap (64 * x31)) fun x67 =>
 letv (IntKind.i64.wrap (x67 + 64)) fun x68 =>
 sem Try.prog (Instr.sliceAt 22 (.slice a16 n17 c18) (some (.int .i64 x66)) (some (.int .i64 x68)) none) fun v69 =>
 asS v69 fun a70 n71 c72 =>
 callW Try.prog 25 #[.slice a63 n64 c65, .slice a70 n71 c72] fun v73 =>
 asB v73 fun b74 =>
 need true (
 K57 [.bool (!b74)])) (
 need true (
 K57 [.bool false])))))) (fun vs58 =>
 uncons vs58 fun v75 r76 =>
 asB v75 fun b77 =>
 unnil r76 (
 br b77 (
 K (.bool false)) (
 letv (IntKind.i64.wrap (x31 + 1)) fun x78 =>
 K27 [.int .i64 x78]))))) (
 joinW (fun K79 =>
 need true (drewW (
 br (((n25 : Nat) : Int) != ((n17 : Nat) : Int)) (
 need true (
 K79 [.bool true])) (
 br (!b36) (
 letv (IntKind.i64.wrap (64 * x31)) fun x81 =>
 letv (IntKind.i64.wrap (64 * x31)) fun x82 =>
 letv (IntKind.i64.wrap (x82 + 64)) fun x83 =>
 sem Try.prog (Instr.sliceAt 22 (.slice a24 n25 c26) (some (.int .i64 x81)) (some (.int .i64 x83)) none) fun v84 =>
 asS v84 fun a85 n86 c87 =>
 letv (IntKind.i64.wrap (64 * x31)) fun x88 =>
 letv (IntKind.i64.wrap (64 * x31)) fun x89 =>
 letv (IntKind.i64.wrap (x89 + 64)) fun x90 =>
 sem Try.prog (Instr.sliceAt 22 (.slice a16 n17 c18) (some (.int .i64 x88)) (some (.int .i64 x90)) none) fun v91 =>
 asS v91 fun a92 n93 c94 =>
 callW Try.prog 25 #[.slice a85 n86 c87, .slice a92 n93 c94] fun v95 =>
 asB v95 fun b96 =>
 need true (
 K79 [.bool (!b96)])) (
 need true (
 K79 [.bool false])))))) (fun vs80 =>
 uncons vs80 fun v97 r98 =>
 asB v97 fun b99 =>
 unnil r98 (
 br b99 (
 K (.bool false)) (
 letv (IntKind.i64.wrap (x31 + 1)) fun x100 =>
 K27 [.int .i64 x100]))))))) (
 K (.bool true))))))))))))
theorem F.hayloftlaw05_DiskFlushed_eq (y0a : Option Addr) (y0n : Nat) (y0c : Nat) (y1a : Option Addr) (y1n : Nat) (y1c : Nat) (y2a : Option Addr) (y2n : Nat) (y2c : Nat) (K : Value → WP) : genF Try.prog Try.f5 ⟨[(12, [(11, 3)]), (16, [(12, 4), (13, 3)])], [], [], [(18, [(12, 4)]), (19, [(109, 4)])], []⟩ [.slice y0a y0n y0c, .slice y1a y1n y1c, .slice y2a y2n y2c] K = F.hayloftlaw05_DiskFlushed y0a y0n y0c y1a y1n y1c y2a y2n y2c K := by kernel_rfl
theorem F.hayloftlaw05_DiskFlushed_ok (y0a : Option Addr) (y0n : Nat) (y0c : Nat) (y1a : Option Addr) (y1n : Nat) (y1c : Nat) (y2a : Option Addr) (y2n : Nat) (y2c : Nat) (K : Value → WP) (w : World) (h : F.hayloftlaw05_DiskFlushed y0a y0n y0c y1a y1n y1c y2a y2n y2c K w) : callW Try.prog 5 #[.slice y0a y0n y0c, .slice y1a y1n y1c, .slice y2a y2n y2c] K w :=
  genF_use Try.func5 (F.hayloftlaw05_DiskFlushed_eq y0a y0n y0c y1a y1n y1c y2a y2n y2c K) h

set_option maxRecDepth 100000 in
set_option linter.unusedVariables false in
def F.hayloftlaw05_DiskMakes (y0 : Int) (y1a : Option Addr) (y1n : Nat) (y1c : Nat) (K : Value → WP) : WP :=
 callW Try.prog 13 #[] fun v1 =>
 asB v1 fun b2 =>
 br (!b2) (
 K (.bool false)) (
 callW Try.prog 14 #[.int .i64 y0] fun v3 =>
 asTup v3 fun l4 =>
 uncons l4 fun v5 r6 =>
 asP v5 fun q7 =>
 uncons r6 fun v8 r9 =>
 asI .i64 v8 fun x10 =>
 unnil r9 (
 joinW (fun K11 =>
 br (decide (y0 < 8)) (
 br (!(true == (x10 == 2))) (
 K11 [.bool true]) (
 br (!((x10 == 0) == (!q7.isNone))) (
 K11 [.bool true]) (
 br (x10 != 0) (
 br (x10 != 2) (
 K11 [.bool true]) (
 br (x10 == 0) (
 callW Try.prog 26 #[.pointer q7] fun v13 =>
 asI .i64 v13 fun x14 =>
 K11 [.bool (x14 != y0)]) (
 K11 [.bool false]))) (
 br (x10 == 0) (
 callW Try.prog 26 #[.pointer q7] fun v15 =>
 asI .i64 v15 fun x16 =>
 K11 [.bool (x16 != y0)]) (
 K11 [.bool false]))))) (
 br (!((decide (y0 > 65536)) == (x10 == 2))) (
 K11 [.bool true]) (
 br (!((x10 == 0) == (!q7.isNone))) (
 K11 [.bool true]) (
 br (x10 != 0) (
 br (x10 != 2) (
 K11 [.bool true]) (
 br (x10 == 0) (
 callW Try.prog 26 #[.pointer q7] fun v17 =>
 asI .i64 v17 fun x18 =>
 K11 [.bool (x18 != y0)]) (
 K11 [.bool false]))) (
 br (x10 == 0) (
 callW Try.prog 26 #[.pointer q7] fun v19 =>
 asI .i64 v19 fun x20 =>
 K11 [.bool (x20 != y0)]) (
 K11 [.bool false])))))) (fun vs12 =>
 uncons vs12 fun v21 r22 =>
 asB v21 fun b23 =>
 unnil r22 (
 br b23 (
 K (.bool false)) (
 callW Try.prog 27 #[.slice y1a y1n y1c] fun v24 =>
 asS v24 fun a25 n26 c27 =>
 callW Try.prog 28 #[.slice a25 n26 c27] fun v28 =>
 asTup v28 fun l29 =>
 uncons l29 fun v30 r31 =>
 asP v30 fun q32 =>
 uncons r31 fun v33 r34 =>
 asI .i64 v33 fun x35 =>
 unnil r34 (
 callW Try.prog 29 #[.slice y1a y1n y1c] fun v36 =>
 asTup v36 fun l37 =>
 uncons l37 fun v38 r39 =>
 asP v38 fun q40 =>
 uncons r39 fun v41 r42 =>
 asI .i64 v41 fun x43 =>
 unnil r42 (
 br (x35 != x43) (
 K (.bool false)) (
 callW Try.prog 25 #[.slice a25 n26 c27, .slice y1a y1n y1c] fun v44 =>
 asB v44 fun b45 =>
 br (!b45) (
 K (.bool false)) (
 br (x43 != 0) (
 K (.bool (q32.isNone))) (
 loopW [.int .i64 0] (fun K46 vs47 =>
 uncons vs47 fun v48 r49 =>
 asI .i64 v48 fun x50 =>
 unnil r49 (
 br (decide (x50 < ((n26 : Nat) : Int))) (
 sem Try.prog (Instr.indexAt 22 (.slice a25 n26 c27) (.int .i64 x50)) fun v52 =>
 asA v52 fun p51 =>
 sem Try.prog (Instr.loadAt 5 (.pointer (some p51))) fun v53 =>
 asI .u8 v53 fun x54 =>
 letv (IntKind.u8.wrap (x54 + 1)) fun x55 =>
 sem Try.prog (Instr.indexAt 22 (.slice a25 n26 c27) (.int .i64 x50)) fun v57 =>
 asA v57 fun p56 =>
 sem Try.prog (Instr.storeAt 5 (.pointer (some p56)) (.int .u8 x55)) fun _ =>
 letv (IntKind.i64.wrap (x50 + 1)) fun x58 =>
 K46 [.int .i64 x58]) (
 joinW (fun K59 =>
 need true (pinW fun L61 =>
 callW Try.prog 26 #[.pointer q32] fun v62 =>
 asI .i64 v62 fun x63 =>
 chkW L61 (
 asA (.pointer q40) fun p64 =>
 sem Try.prog (Instr.loadAt 52 (.pointer (some p64))) fun v65 =>
 asS v65 fun a66 n67 c68 =>
 br (x63 == ((n67 : Nat) : Int)) (
 callW Try.prog 22 #[.pointer q32] fun v69 =>
 asI .i64 v69 fun x70 =>
 br (x70 == 0) (
 callW Try.prog 20 #[.pointer q32] fun v71 =>
 asB v71 fun b72 =>
 br (!b72) (
 callW Try.prog 21 #[.pointer q32] fun v73 =>
 asI .i64 v73 fun x74 =>
 br (x74 == 0) (
 callW Try.prog 24 #[.pointer q32] fun v75 =>
 asS v75 fun a76 n77 c78 =>
 callW Try.prog 25 #[.slice a76 n77 c78, .slice y1a y1n y1c] fun v79 =>
 asB v79 fun b80 =>
 need true (endW L61 [(some p64)] (
 K59 [.bool b80]))) (
 need true (endW L61 [(some p64)] (
 K59 [.bool false])))) (
 need true (endW L61 [(some p64)] (
 K59 [.bool false])))) (
 need true (endW L61 [(some p64)] (
 K59 [.bool false])))) (
 need true (endW L61 [(some p64)] (
 K59 [.bool false])))))) (fun vs60 =>
 uncons vs60 fun v81 r82 =>
 asB v81 fun b83 =>
 unnil r82 (
 K (.bool b83))))))))))))))))
theorem F.hayloftlaw05_DiskMakes_eq (y0 : Int) (y1a : Option Addr) (y1n : Nat) (y1c : Nat) (K : Value → WP) : genF Try.prog Try.f6 ⟨[(14, [(81, 3)])], [], [], [(4, [(53, 4)]), (18, [(4, 4)])], [(18, 7)]⟩ [.int .i64 y0, .slice y1a y1n y1c] K = F.hayloftlaw05_DiskMakes y0 y1a y1n y1c K := by kernel_rfl
theorem F.hayloftlaw05_DiskMakes_ok (y0 : Int) (y1a : Option Addr) (y1n : Nat) (y1c : Nat) (K : Value → WP) (w : World) (h : F.hayloftlaw05_DiskMakes y0 y1a y1n y1c K w) : callW Try.prog 6 #[.int .i64 y0, .slice y1a y1n y1c] K w :=
  genF_use Try.func6 (F.hayloftlaw05_DiskMakes_eq y0 y1a y1n y1c K) h

set_option maxRecDepth 100000 in
set_option linter.unusedVariables false in
def F.hayloftlaw05_DiskPlays (y0 : Int) (y1a : Option Addr) (y1n : Nat) (y1c : Nat) (K : Value → WP) : WP :=
 callW Try.prog 13 #[] fun v1 =>
 asB v1 fun b2 =>
 br (!b2) (
 K (.bool false)) (
 callW Try.prog 30 #[.int .u8 y0] fun v3 =>
 asI .i64 v3 fun x4 =>
 callW Try.prog 14 #[.int .i64 x4] fun v5 =>
 asTup v5 fun l6 =>
 uncons l6 fun v7 r8 =>
 asP v7 fun q9 =>
 uncons r8 fun v10 r11 =>
 asI .i64 v10 fun x12 =>
 unnil r11 (
 callW Try.prog 30 #[.int .u8 y0] fun v13 =>
 asI .i64 v13 fun x14 =>
 callW Try.prog 31 #[.int .i64 x14] fun v15 =>
 asTup v15 fun l16 =>
 uncons l16 fun v17 r18 =>
 asP v17 fun q19 =>
 uncons r18 fun v20 r21 =>
 asI .i64 v20 fun x22 =>
 unnil r21 (
 br (x12 != 0) (
 K (.bool false)) (
 br (q9.isNone) (
 K (.bool false)) (
 loopW [.int .i64 0] (fun K23 vs24 =>
 uncons vs24 fun v25 r26 =>
 asI .i64 v25 fun x27 =>
 unnil r26 (
 br (decide (x27 < ((y1n : Nat) : Int))) (
 br (decide (x27 < 200)) (
 sem Try.prog (Instr.indexAt 37 (.slice y1a y1n y1c) (.int .i64 x27)) fun v29 =>
 asA v29 fun p28 =>
 sem Try.prog (Instr.loadAt 40 (.pointer (some p28))) fun v30 =>
 asAgg v30 fun l31 =>
 uncons l31 fun v32 r33 =>
 asI .i64 v32 fun x34 =>
 uncons r33 fun v35 r36 =>
 asI .i64 v35 fun x37 =>
 uncons r36 fun v38 r39 =>
 asS v38 fun a40 n41 c42 =>
 uncons r39 fun v43 r44 =>
 asS v43 fun a45 n46 c47 =>
 unnil r44 (
 sem Try.prog (Instr.alloc 40 true (.tuple #[])) fun v49 =>
 asA v49 fun p48 =>
 sem Try.prog (Instr.storeAt 40 (.pointer (some p48)) (.agg #[.int .i64 x34, .int .i64 x37, .slice a40 n41 c42, .slice a45 n46 c47])) fun _ =>
 sem Try.prog (Instr.loadAt 22 (.pointer (some (p48.add 2)))) fun v50 =>
 asS v50 fun a51 n52 c53 =>
 callW Try.prog 27 #[.slice a51 n52 c53] fun v54 =>
 asS v54 fun a55 n56 c57 =>
 sem Try.prog (Instr.loadAt 3 (.pointer (some p48))) fun v58 =>
 asI .i64 v58 fun x59 =>
 joinW (fun K60 =>
 br (x59 == 1) (
 sem Try.prog (Instr.loadAt 3 (.pointer (some (p48.add 1)))) fun v62 =>
 asI .i64 v62 fun x63 =>
 callW Try.prog 17 #[.pointer q9, .int .i64 x63] fun v64 =>
 asTup v64 fun l65 =>
 uncons l65 fun v66 r67 =>
 asS v66 fun a68 n69 c70 =>
 uncons r67 fun v71 r72 =>
 asI .i64 v71 fun x73 =>
 unnil r72 (
 sem Try.prog (Instr.loadAt 3 (.pointer (some (p48.add 1)))) fun v74 =>
 asI .i64 v74 fun x75 =>
 callW Try.prog 32 #[.pointer q19, .int .i64 x75] fun v76 =>
 asTup v76 fun l77 =>
 uncons l77 fun v78 r79 =>
 asS v78 fun a80 n81 c82 =>
 uncons r79 fun v83 r84 =>
 asI .i64 v83 fun x85 =>
 unnil r84 (
 joinW (fun K86 =>
 br (x73 == x85) (
 callW Try.prog 25 #[.slice a68 n69 c70, .slice a80 n81 c82] fun v88 =>
 asB v88 fun b89 =>
 K86 [.bool b89]) (
 K86 [.bool false])) (fun vs87 =>
 uncons vs87 fun v90 r91 =>
 asB v90 fun b92 =>
 unnil r91 (
 loopW [.int .i64 0] (fun K93 vs94 =>
 uncons vs94 fun v95 r96 =>
 asI .i64 v95 fun x97 =>
 unnil r96 (
 br (decide (x97 < ((n69 : Nat) : Int))) (
 sem Try.prog (Instr.indexAt 22 (.slice a68 n69 c70) (.int .i64 x97)) fun v99 =>
 asA v99 fun p98 =>
 sem Try.prog (Instr.loadAt 5 (.pointer (some p98))) fun v100 =>
 asI .u8 v100 fun x101 =>
 letv (IntKind.u8.wrap (x101 + 1)) fun x102 =>
 sem Try.prog (Instr.indexAt 22 (.slice a68 n69 c70) (.int .i64 x97)) fun v104 =>
 asA v104 fun p103 =>
 sem Try.prog (Instr.storeAt 5 (.pointer (some p103)) (.int .u8 x102)) fun _ =>
 letv (IntKind.i64.wrap (x97 + 1)) fun x105 =>
 K93 [.int .i64 x105]) (
 K60 [.bool b92])))))))) (
 joinW (fun K106 =>
 br (x59 == 2) (
 joinW (fun K108 =>
 need true (pinW fun L110 =>
 sem Try.prog (Instr.loadAt 3 (.pointer (some (p48.add 1)))) fun v111 =>
 asI .i64 v111 fun x112 =>
 callW Try.prog 15 #[.pointer q9, .int .i64 x112, .slice a55 n56 c57] fun v113 =>
 asI .i64 v113 fun x114 =>
 chkW L110 (
 sem Try.prog (Instr.loadAt 3 (.pointer (some (p48.add 1)))) fun v115 =>
 asI .i64 v115 fun x116 =>
 sem Try.prog (Instr.loadAt 22 (.pointer (some (p48.add 2)))) fun v117 =>
 asS v117 fun a118 n119 c120 =>
 callW Try.prog 33 #[.pointer q19, .int .i64 x116, .slice a118 n119 c120] fun v121 =>
 asI .i64 v121 fun x122 =>
 br (x114 == x122) (
 sem Try.prog (Instr.loadAt 22 (.pointer (some (p48.add 2)))) fun v123 =>
 asS v123 fun a124 n125 c126 =>
 callW Try.prog 25 #[.slice a55 n56 c57, .slice a124 n125 c126] fun v127 =>
 asB v127 fun b128 =>
 need true (endW L110 [(some (p48.add 2)), (some (p48.add 1))] (
 K108 [.bool b128]))) (
 need true (endW L110 [(some (p48.add 2)), (some (p48.add 1))] (
 K108 [.bool false])))))) (fun vs109 =>
 uncons vs109 fun v129 r130 =>
 asB v129 fun b131 =>
 unnil r130 (
 loopW [.int .i64 0] (fun K132 vs133 =>
 uncons vs133 fun v134 r135 =>
 asI .i64 v134 fun x136 =>
 unnil r135 (
 br (decide (x136 < ((n56 : Nat) : Int))) (
 sem Try.prog (Instr.indexAt 22 (.slice a55 n56 c57) (.int .i64 x136)) fun v138 =>
 asA v138 fun p137 =>
 sem Try.prog (Instr.loadAt 5 (.pointer (some p137))) fun v139 =>
 asI .u8 v139 fun x140 =>
 letv (IntKind.u8.wrap (x140 + 1)) fun x141 =>
 sem Try.prog (Instr.indexAt 22 (.slice a55 n56 c57) (.int .i64 x136)) fun v143 =>
 asA v143 fun p142 =>
 sem Try.prog (Instr.storeAt 5 (.pointer (some p142)) (.int .u8 x141)) fun _ =>
 letv (IntKind.i64.wrap (x136 + 1)) fun x144 =>
 K132 [.int .i64 x144]) (
 K106 [.bool b131])))))) (
 joinW (fun K145 =>
 br (x59 == 3) (
 callW Try.prog 16 #[.pointer q9] fun v147 =>
 asI .i64 v147 fun x148 =>
 callW Try.prog 34 #[.pointer q19] fun v149 =>
 asI .i64 v149 fun x150 =>
 K145 [.bool (x148 == x150)]) (
 joinW (fun K151 =>
 br (x59 == 4) (
 sem Try.prog (Instr.loadAt 3 (.pointer (some (p48.add 1)))) fun v153 =>
 asI .i64 v153 fun x154 =>
 callW Try.prog 19 #[.pointer q9, .int .i64 x154] fun v155 =>
 asTup v155 fun l156 =>
 unnil l156 (
 sem Try.prog (Instr.loadAt 3 (.pointer (some (p48.add 1)))) fun v157 =>
 asI .i64 v157 fun x158 =>
 callW Try.prog 35 #[.pointer q19, .int .i64 x158] fun v159 =>
 asTup v159 fun l160 =>
 unnil l160 (
 K151 []))) (
 joinW (fun K161 =>
 br (x59 == 5) (
 sem Try.prog (Instr.buildSlice 35 0 #[]) fun v163 =>
 asS v163 fun a164 n165 c166 =>
 sem Try.prog (Instr.loadAt 35 (.pointer (some (p48.add 3)))) fun v167 =>
 asS v167 fun a168 n169 c170 =>
 sem Try.prog (Builtin.append_ #[35, 35] 35 #[.slice a164 n165 c166, .slice a168 n169 c170]) fun v171 =>
 asS v171 fun a172 n173 c174 =>
 callW Try.prog 18 #[.pointer q9, .slice a172 n173 c174] fun v175 =>
 asTup v175 fun l176 =>
 unnil l176 (
 sem Try.prog (Instr.loadAt 35 (.pointer (some (p48.add 3)))) fun v177 =>
 asS v177 fun a178 n179 c180 =>
 callW Try.prog 36 #[.pointer q19, .slice a178 n179 c180] fun v181 =>
 asTup v181 fun l182 =>
 unnil l182 (
 K161 []))) (
 K161 [])) (fun vs162 =>
 unnil vs162 (
 K151 [])))) (fun vs152 =>
 unnil vs152 (
 K145 [.bool true])))) (fun vs146 =>
 uncons vs146 fun v183 r184 =>
 asB v183 fun b185 =>
 unnil r184 (
 K106 [.bool b185])))) (fun vs107 =>
 uncons vs107 fun v186 r187 =>
 asB v186 fun b188 =>
 unnil r187 (
 K60 [.bool b188])))) (fun vs61 =>
 uncons vs61 fun v189 r190 =>
 asB v189 fun b191 =>
 unnil r190 (
 need true (pinW fun L192 =>
 br (!b191) (
 chkW L192 (
 chkW L192 (
 chkW L192 (
 need true (endW L192 [] (
 K (.bool false))))))) (
 callW Try.prog 22 #[.pointer q9] fun v193 =>
 asI .i64 v193 fun x194 =>
 chkW L192 (
 asA (.pointer q19) fun p195 =>
 sem Try.prog (Instr.loadAt 53 (.pointer (some (p195.add 1)))) fun v196 =>
 asS v196 fun a197 n198 c199 =>
 br (x194 != ((n198 : Nat) : Int)) (
 chkW L192 (
 chkW L192 (
 need true (endW L192 [(some (p195.add 1))] (
 K (.bool false)))))) (
 callW Try.prog 20 #[.pointer q9] fun v200 =>
 asB v200 fun b201 =>
 chkW L192 (
 asA (.pointer q19) fun p202 =>
 sem Try.prog (Instr.loadAt 4 (.pointer (some (p202.add 3)))) fun v203 =>
 asB v203 fun b204 =>
 br (!(b201 == b204)) (
 chkW L192 (
 need true (endW L192 [(some (p202.add 3)), (some (p195.add 1))] (
 K (.bool false))))) (
 callW Try.prog 21 #[.pointer q9] fun v205 =>
 asI .i64 v205 fun x206 =>
 chkW L192 (
 asA (.pointer q19) fun p207 =>
 sem Try.prog (Instr.loadAt 3 (.pointer (some (p207.add 4)))) fun v208 =>
 asI .i64 v208 fun x209 =>
 need true (endW L192 [(some (p207.add 4)), (some (p202.add 3)), (some (p195.add 1))] (
 br (x206 != x209) (
 K (.bool false)) (
 letv (IntKind.i64.wrap (x27 + 1)) fun x210 =>
 K23 [.int .i64 x210])))))))))))))) (
 joinW (fun K211 =>
 need true (pinW fun L213 =>
 callW Try.prog 26 #[.pointer q9] fun v214 =>
 asI .i64 v214 fun x215 =>
 chkW L213 (
 asA (.pointer q19) fun p216 =>
 sem Try.prog (Instr.loadAt 52 (.pointer (some p216))) fun v217 =>
 asS v217 fun a218 n219 c220 =>
 br (x215 == ((n219 : Nat) : Int)) (
 callW Try.prog 24 #[.pointer q9] fun v221 =>
 asS v221 fun a222 n223 c224 =>
 callW Try.prog 37 #[.pointer q19] fun v225 =>
 asS v225 fun a226 n227 c228 =>
 callW Try.prog 25 #[.slice a222 n223 c224, .slice a226 n227 c228] fun v229 =>
 asB v229 fun b230 =>
 need true (endW L213 [(some p216)] (
 K211 [.bool b230]))) (
 need true (endW L213 [(some p216)] (
 K211 [.bool false])))))) (fun vs212 =>
 uncons vs212 fun v231 r232 =>
 asB v231 fun b233 =>
 unnil r232 (
 K (.bool b233))))) (
 joinW (fun K234 =>
 need true (pinW fun L236 =>
 callW Try.prog 26 #[.pointer q9] fun v237 =>
 asI .i64 v237 fun x238 =>
 chkW L236 (
 asA (.pointer q19) fun p239 =>
 sem Try.prog (Instr.loadAt 52 (.pointer (some p239))) fun v240 =>
 asS v240 fun a241 n242 c243 =>
 br (x238 == ((n242 : Nat) : Int)) (
 callW Try.prog 24 #[.pointer q9] fun v244 =>
 asS v244 fun a245 n246 c247 =>
 callW Try.prog 37 #[.pointer q19] fun v248 =>
 asS v248 fun a249 n250 c251 =>
 callW Try.prog 25 #[.slice a245 n246 c247, .slice a249 n250 c251] fun v252 =>
 asB v252 fun b253 =>
 need true (endW L236 [(some p239)] (
 K234 [.bool b253]))) (
 need true (endW L236 [(some p239)] (
 K234 [.bool false])))))) (fun vs235 =>
 uncons vs235 fun v254 r255 =>
 asB v254 fun b256 =>
 unnil r255 (
 K (.bool b256)))))))))))
theorem F.hayloftlaw05_DiskPlays_eq (y0 : Int) (y1a : Option Addr) (y1n : Nat) (y1c : Nat) (K : Value → WP) : genF Try.prog Try.f7 ⟨[(8, [(9, 3)]), (19, [(84, 3)]), (26, [(118, 3)])], [(15, [(12, 4)]), (24, [(12, 4)]), (31, [(12, 4)]), (33, []), (36, [])], [], [(17, [(12, 4)]), (24, [(12, 4)]), (40, [(4, 4)])], [(24, 10), (38, 28), (40, 7)]⟩ [.int .u8 y0, .slice y1a y1n y1c] K = F.hayloftlaw05_DiskPlays y0 y1a y1n y1c K := by kernel_rfl
theorem F.hayloftlaw05_DiskPlays_ok (y0 : Int) (y1a : Option Addr) (y1n : Nat) (y1c : Nat) (K : Value → WP) (w : World) (h : F.hayloftlaw05_DiskPlays y0 y1a y1n y1c K w) : callW Try.prog 7 #[.int .u8 y0, .slice y1a y1n y1c] K w :=
  genF_use Try.func7 (F.hayloftlaw05_DiskPlays_eq y0 y1a y1n y1c K) h

set_option maxRecDepth 100000 in
set_option linter.unusedVariables false in
def F.hayloftlaw05_DiskNil (y0 : Int) (y1a : Option Addr) (y1n : Nat) (y1c : Nat) (y2a : Option Addr) (y2n : Nat) (y2c : Nat) (K : Value → WP) : WP :=
 callW Try.prog 19 #[.pointer none, .int .i64 y0] fun v1 =>
 asTup v1 fun l2 =>
 unnil l2 (
 callW Try.prog 18 #[.pointer none, .slice y2a y2n y2c] fun v3 =>
 asTup v3 fun l4 =>
 unnil l4 (
 callW Try.prog 17 #[.pointer none, .int .i64 y0] fun v5 =>
 asTup v5 fun l6 =>
 uncons l6 fun v7 r8 =>
 asS v7 fun a9 n10 c11 =>
 uncons r8 fun v12 r13 =>
 asI .i64 v12 fun x14 =>
 unnil r13 (
 joinW (fun K15 =>
 callW Try.prog 13 #[] fun v17 =>
 asB v17 fun b18 =>
 br b18 (
 br (((n10 : Nat) : Int) == 0) (
 br (x14 == 1) (
 callW Try.prog 15 #[.pointer none, .int .i64 y0, .slice y1a y1n y1c] fun v19 =>
 asI .i64 v19 fun x20 =>
 br (x20 == 1) (
 callW Try.prog 16 #[.pointer none] fun v21 =>
 asI .i64 v21 fun x22 =>
 br (x22 == 1) (
 callW Try.prog 26 #[.pointer none] fun v23 =>
 asI .i64 v23 fun x24 =>
 callW Try.prog 22 #[.pointer none] fun v25 =>
 asI .i64 v25 fun x26 =>
 letv (IntKind.i64.wrap (x24 + x26)) fun x27 =>
 callW Try.prog 21 #[.pointer none] fun v28 =>
 asI .i64 v28 fun x29 =>
 letv (IntKind.i64.wrap (x27 + x29)) fun x30 =>
 br (x30 == 0) (
 callW Try.prog 20 #[.pointer none] fun v31 =>
 asB v31 fun b32 =>
 br (!b32) (
 callW Try.prog 24 #[.pointer none] fun v33 =>
 asS v33 fun a34 n35 c36 =>
 K15 [.bool (((n35 : Nat) : Int) == 0)]) (
 K15 [.bool false])) (
 K15 [.bool false])) (
 K15 [.bool false])) (
 K15 [.bool false])) (
 K15 [.bool false])) (
 K15 [.bool false])) (
 K15 [.bool false])) (fun vs16 =>
 uncons vs16 fun v37 r38 =>
 asB v37 fun b39 =>
 unnil r38 (
 K (.bool b39))))))
theorem F.hayloftlaw05_DiskNil_eq (y0 : Int) (y1a : Option Addr) (y1n : Nat) (y1c : Nat) (y2a : Option Addr) (y2n : Nat) (y2c : Nat) (K : Value → WP) : genF Try.prog Try.f8 ⟨[], [], [], [(5, [(6, 4)])], []⟩ [.int .i64 y0, .slice y1a y1n y1c, .slice y2a y2n y2c] K = F.hayloftlaw05_DiskNil y0 y1a y1n y1c y2a y2n y2c K := by kernel_rfl
theorem F.hayloftlaw05_DiskNil_ok (y0 : Int) (y1a : Option Addr) (y1n : Nat) (y1c : Nat) (y2a : Option Addr) (y2n : Nat) (y2c : Nat) (K : Value → WP) (w : World) (h : F.hayloftlaw05_DiskNil y0 y1a y1n y1c y2a y2n y2c K w) : callW Try.prog 8 #[.int .i64 y0, .slice y1a y1n y1c, .slice y2a y2n y2c] K w :=
  genF_use Try.func8 (F.hayloftlaw05_DiskNil_eq y0 y1a y1n y1c y2a y2n y2c K) h

set_option maxRecDepth 100000 in
set_option linter.unusedVariables false in
def F.hayloftlaw05_alive (K : Value → WP) : WP :=
 callW Try.prog 14 #[.int .i64 8] fun v1 =>
 asTup v1 fun l2 =>
 uncons l2 fun v3 r4 =>
 asP v3 fun q5 =>
 uncons r4 fun v6 r7 =>
 asI .i64 v6 fun x8 =>
 unnil r7 (
 br (x8 != 0) (
 K (.bool false)) (
 br (q5.isNone) (
 K (.bool false)) (
 sem Try.prog (Instr.buildSlice 22 2 #[(0, .int .u8 97), (1, .int .u8 98)]) fun v9 =>
 asS v9 fun a10 n11 c12 =>
 sem Try.prog (convert 22 22 (.slice a10 n11 c12)) fun v13 =>
 asS v13 fun a14 n15 c16 =>
 callW Try.prog 15 #[.pointer q5, .int .i64 3, .slice a14 n15 c16] fun v17 =>
 asI .i64 v17 fun x18 =>
 br (x18 != 0) (
 K (.bool false)) (
 callW Try.prog 22 #[.pointer q5] fun v19 =>
 asI .i64 v19 fun x20 =>
 br (x20 != 1) (
 K (.bool false)) (
 sem Try.prog (Instr.buildSlice 35 1 #[(0, .int .i64 1)]) fun v21 =>
 asS v21 fun a22 n23 c24 =>
 callW Try.prog 18 #[.pointer q5, .slice a22 n23 c24] fun v25 =>
 asTup v25 fun l26 =>
 unnil l26 (
 callW Try.prog 17 #[.pointer q5, .int .i64 3] fun v27 =>
 asTup v27 fun l28 =>
 uncons l28 fun v29 r30 =>
 asS v29 fun a31 n32 c33 =>
 uncons r30 fun v34 r35 =>
 asI .i64 v34 fun x36 =>
 unnil r35 (
 joinW (fun K37 =>
 br (x36 == 0) (
 br (((n32 : Nat) : Int) == 64) (
 sem Try.prog (Instr.indexAt 22 (.slice a31 n32 c33) (.int .i64 0)) fun v40 =>
 asA v40 fun p39 =>
 sem Try.prog (Instr.loadAt 5 (.pointer (some p39))) fun v41 =>
 asI .u8 v41 fun x42 =>
 br (x42 == 97) (
 sem Try.prog (Instr.indexAt 22 (.slice a31 n32 c33) (.int .i64 1)) fun v44 =>
 asA v44 fun p43 =>
 sem Try.prog (Instr.loadAt 5 (.pointer (some p43))) fun v45 =>
 asI .u8 v45 fun x46 =>
 K37 [.bool (x46 == 0)]) (
 K37 [.bool false])) (
 K37 [.bool false])) (
 K37 [.bool false])) (fun vs38 =>
 uncons vs38 fun v47 r48 =>
 asB v47 fun b49 =>
 unnil r48 (
 K (.bool b49))))))))))
theorem F.hayloftlaw05_alive_eq (K : Value → WP) : genF Try.prog Try.f13 ⟨[], [], [], [(6, [(0, 4)])], []⟩ [] K = F.hayloftlaw05_alive K := by kernel_rfl
theorem F.hayloftlaw05_alive_ok (K : Value → WP) (w : World) (h : F.hayloftlaw05_alive K w) : callW Try.prog 13 #[] K w :=
  genF_use Try.func13 (F.hayloftlaw05_alive_eq K) h

set_option maxRecDepth 100000 in
set_option linter.unusedVariables false in
def F.hayloftlaw05_puts (y0 : Option Addr) (y1a : Option Addr) (y1n : Nat) (y1c : Nat) (K : Value → WP) : WP :=
 loopW [.int .i64 0] (fun K1 vs2 =>
 uncons vs2 fun v3 r4 =>
 asI .i64 v3 fun x5 =>
 unnil r4 (
 br (decide (x5 < ((y1n : Nat) : Int))) (
 br (decide (x5 < 100)) (
 joinW (fun K6 =>
 need true (drewW (
 sem Try.prog (Instr.indexAt 37 (.slice y1a y1n y1c) (.int .i64 x5)) fun v9 =>
 asA v9 fun p8 =>
 sem Try.prog (Instr.loadAt 22 (.pointer (some (p8.add 2)))) fun v10 =>
 asS v10 fun a11 n12 c13 =>
 br (decide (((n12 : Nat) : Int) ≤ 64)) (
 sem Try.prog (Instr.indexAt 37 (.slice y1a y1n y1c) (.int .i64 x5)) fun v15 =>
 asA v15 fun p14 =>
 sem Try.prog (Instr.loadAt 3 (.pointer (some (p14.add 1)))) fun v16 =>
 asI .i64 v16 fun x17 =>
 letv (IntKind.i64.wrap (BitVec.ofInt 64 x17 &&& BitVec.ofInt 64 31).toNat) fun x18 =>
 sem Try.prog (Instr.indexAt 37 (.slice y1a y1n y1c) (.int .i64 x5)) fun v20 =>
 asA v20 fun p19 =>
 sem Try.prog (Instr.loadAt 22 (.pointer (some (p19.add 2)))) fun v21 =>
 asS v21 fun a22 n23 c24 =>
 callW Try.prog 15 #[.pointer y0, .int .i64 x18, .slice a22 n23 c24] fun v25 =>
 asI .i64 v25 fun x26 =>
 need true (
 K6 [.bool (x26 != 0)])) (
 need true (
 K6 [.bool false]))))) (fun vs7 =>
 uncons vs7 fun v27 r28 =>
 asB v27 fun b29 =>
 unnil r28 (
 br b29 (
 K (.bool false)) (
 letv (IntKind.i64.wrap (x5 + 1)) fun x30 =>
 K1 [.int .i64 x30])))) (
 K (.bool true))) (
 K (.bool true))))
theorem F.hayloftlaw05_puts_eq (y0 : Option Addr) (y1a : Option Addr) (y1n : Nat) (y1c : Nat) (K : Value → WP) : genF Try.prog Try.f23 ⟨[(2, [(5, 3)])], [], [], [(4, [(38, 4)])], []⟩ [.pointer y0, .slice y1a y1n y1c] K = F.hayloftlaw05_puts y0 y1a y1n y1c K := by kernel_rfl
theorem F.hayloftlaw05_puts_ok (y0 : Option Addr) (y1a : Option Addr) (y1n : Nat) (y1c : Nat) (K : Value → WP) (w : World) (h : F.hayloftlaw05_puts y0 y1a y1n y1c K w) : callW Try.prog 23 #[.pointer y0, .slice y1a y1n y1c] K w :=
  genF_use Try.func23 (F.hayloftlaw05_puts_eq y0 y1a y1n y1c K) h

set_option maxRecDepth 100000 in
set_option linter.unusedVariables false in
def F.hayloftlaw05_size (y0 : Int) (K : Value → WP) : WP :=
 sem Try.prog (binOp .rem 5 (.int .u8 y0) (.int .u8 32)) fun v1 =>
 asI .u8 v1 fun x2 =>
 letv (IntKind.i64.wrap x2) fun x3 =>
 letv (IntKind.i64.wrap (8 + x3)) fun x4 =>
 K (.int .i64 x4)
theorem F.hayloftlaw05_size_eq (y0 : Int) (K : Value → WP) : genF Try.prog Try.f30 ⟨[], [], [], [], []⟩ [.int .u8 y0] K = F.hayloftlaw05_size y0 K := by kernel_rfl
theorem F.hayloftlaw05_size_ok (y0 : Int) (K : Value → WP) (w : World) (h : F.hayloftlaw05_size y0 K w) : callW Try.prog 30 #[.int .u8 y0] K w :=
  genF_use Try.func30 (F.hayloftlaw05_size_eq y0 K) h
end Go.Proofs.Ytehpdpdmjflddaa
