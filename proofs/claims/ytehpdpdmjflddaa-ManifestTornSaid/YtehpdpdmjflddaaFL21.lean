/-
  The readings of some functions of the program, printed by gen.py off the cut and checked by the kernel.
-/
import Derived.Test.YtehpdpdmjflddaaGenT
import Derived.Test.YtehpdpdmjflddaaProg
namespace Go.Proofs.Ytehpdpdmjflddaa
open Go.RowKit

set_option maxRecDepth 100000 in
set_option linter.unusedVariables false in
def F.hayloftlaw21_ManifestWrites (y0_0 : Int) (y0_1 : Int) (y0_2 : Int) (y1 : Int) (y2 : Int) (K : Value → WP) : WP :=
 sem Try.prog (Instr.box 65 (.agg #[.int .i64 y0_0, .int .i64 y0_1, .int .i64 y0_2])) fun v2 =>
 asA v2 fun p1 =>
 callW Try.prog 38 #[] fun v3 =>
 asB v3 fun b4 =>
 br (!b4) (
 K (.bool false)) (
 sem Try.prog (Instr.loadAt 65 (.pointer (some p1))) fun v5 =>
 asAgg v5 fun l6 =>
 uncons l6 fun v7 r8 =>
 asI .i64 v7 fun x9 =>
 uncons r8 fun v10 r11 =>
 asI .i64 v10 fun x12 =>
 uncons r11 fun v13 r14 =>
 asI .i64 v13 fun x15 =>
 unnil r14 (
 callW Try.prog 39 #[.agg #[.int .i64 x9, .int .i64 x12, .int .i64 x15]] fun v16 =>
 asTup v16 fun l17 =>
 uncons l17 fun v18 r19 =>
 asS v18 fun a20 n21 c22 =>
 uncons r19 fun v23 r24 =>
 asI .i64 v23 fun x25 =>
 unnil r24 (
 sem Try.prog (Instr.loadAt 65 (.pointer (some p1))) fun v26 =>
 asAgg v26 fun l27 =>
 uncons l27 fun v28 r29 =>
 asI .i64 v28 fun x30 =>
 uncons r29 fun v31 r32 =>
 asI .i64 v31 fun x33 =>
 uncons r32 fun v34 r35 =>
 asI .i64 v34 fun x36 =>
 unnil r35 (
 callW Try.prog 40 #[.agg #[.int .i64 x30, .int .i64 x33, .int .i64 x36]] fun v37 =>
 asTup v37 fun l38 =>
 uncons l38 fun v39 r40 =>
 asS v39 fun a41 n42 c43 =>
 uncons r40 fun v44 r45 =>
 asI .i64 v44 fun x46 =>
 unnil r45 (
 br (x25 != x46) (
 K (.bool false)) (
 callW Try.prog 25 #[.slice a20 n21 c22, .slice a41 n42 c43] fun v47 =>
 asB v47 fun b48 =>
 br (!b48) (
 K (.bool false)) (
 callW Try.prog 41 #[.int .i64 y1, .int .i64 y2] fun v49 =>
 asI .i64 v49 fun x50 =>
 callW Try.prog 42 #[.int .i64 y1, .int .i64 y2] fun v51 =>
 asI .i64 v51 fun x52 =>
 br (x50 != x52) (
 K (.bool false)) (
 br (x46 != 0) (
 K (.bool true)) (
 callW Try.prog 43 #[.slice a20 n21 c22] fun v53 =>
 asTup v53 fun l54 =>
 uncons l54 fun v55 r56 =>
 asAgg v55 fun l57 =>
 uncons l57 fun v58 r59 =>
 asI .i64 v58 fun x60 =>
 uncons r59 fun v61 r62 =>
 asI .i64 v61 fun x63 =>
 uncons r62 fun v64 r65 =>
 asI .i64 v64 fun x66 =>
 unnil r65 (
 uncons r56 fun v67 r68 =>
 asI .i64 v67 fun x69 =>
 unnil r68 (
 sem Try.prog (Instr.alloc 67 true (.tuple #[])) fun v71 =>
 asA v71 fun p70 =>
 sem Try.prog (Instr.storeAt 67 (.pointer (some p70)) (.agg #[.int .i64 x60, .int .i64 x63, .int .i64 x66])) fun _ =>
 joinW (fun K72 =>
 br (x69 == 0) (
 sem Try.prog (Instr.loadAt 67 (.pointer (some p70))) fun v74 =>
 asAgg v74 fun l75 =>
 uncons l75 fun v76 r77 =>
 asI .i64 v76 fun x78 =>
 uncons r77 fun v79 r80 =>
 asI .i64 v79 fun x81 =>
 uncons r80 fun v82 r83 =>
 asI .i64 v82 fun x84 =>
 unnil r83 (
 sem Try.prog (Instr.loadAt 65 (.pointer (some p1))) fun v85 =>
 asAgg v85 fun l86 =>
 uncons l86 fun v87 r88 =>
 asI .i64 v87 fun x89 =>
 uncons r88 fun v90 r91 =>
 asI .i64 v90 fun x92 =>
 uncons r91 fun v93 r94 =>
 asI .i64 v93 fun x95 =>
 unnil r94 (
 sem Try.prog (do eqGuard .eql 65 (.tmp 53) (.tmp 54) (.agg #[.int .i64 x78, .int .i64 x81, .int .i64 x84]) (.agg #[.int .i64 x89, .int .i64 x92, .int .i64 x95]); binOp .eql 65 (.agg #[.int .i64 x78, .int .i64 x81, .int .i64 x84]) (.agg #[.int .i64 x89, .int .i64 x92, .int .i64 x95])) fun v96 =>
 asB v96 fun b97 =>
 K72 [.bool b97]))) (
 K72 [.bool false])) (fun vs73 =>
 uncons vs73 fun v98 r99 =>
 asB v98 fun b100 =>
 unnil r99 (
 K (.bool b100))))))))))))))
theorem F.hayloftlaw21_ManifestWrites_eq (y0_0 : Int) (y0_1 : Int) (y0_2 : Int) (y1 : Int) (y2 : Int) (K : Value → WP) : genF Try.prog Try.f9 ⟨[], [], [], [(10, [(6, 4)])], [], []⟩ [.agg #[.int .i64 y0_0, .int .i64 y0_1, .int .i64 y0_2], .int .i64 y1, .int .i64 y2] K = F.hayloftlaw21_ManifestWrites y0_0 y0_1 y0_2 y1 y2 K := by kernel_rfl
theorem F.hayloftlaw21_ManifestWrites_ok (y0_0 : Int) (y0_1 : Int) (y0_2 : Int) (y1 : Int) (y2 : Int) (K : Value → WP) (w : World) (h : F.hayloftlaw21_ManifestWrites y0_0 y0_1 y0_2 y1 y2 K w) : callW Try.prog 9 #[.agg #[.int .i64 y0_0, .int .i64 y0_1, .int .i64 y0_2], .int .i64 y1, .int .i64 y2] K w :=
  genF_use Try.func9 (F.hayloftlaw21_ManifestWrites_eq y0_0 y0_1 y0_2 y1 y2 K) h

set_option maxRecDepth 100000 in
set_option linter.unusedVariables false in
def F.hayloftlaw21_ManifestReads (y0a : Option Addr) (y0n : Nat) (y0c : Nat) (K : Value → WP) : WP :=
 callW Try.prog 38 #[] fun v1 =>
 asB v1 fun b2 =>
 br (!b2) (
 K (.bool false)) (
 callW Try.prog 27 #[.slice y0a y0n y0c] fun v3 =>
 asS v3 fun a4 n5 c6 =>
 callW Try.prog 43 #[.slice a4 n5 c6] fun v7 =>
 asTup v7 fun l8 =>
 uncons l8 fun v9 r10 =>
 asAgg v9 fun l11 =>
 uncons l11 fun v12 r13 =>
 asI .i64 v12 fun x14 =>
 uncons r13 fun v15 r16 =>
 asI .i64 v15 fun x17 =>
 uncons r16 fun v18 r19 =>
 asI .i64 v18 fun x20 =>
 unnil r19 (
 uncons r10 fun v21 r22 =>
 asI .i64 v21 fun x23 =>
 unnil r22 (
 sem Try.prog (Instr.alloc 67 true (.tuple #[])) fun v25 =>
 asA v25 fun p24 =>
 sem Try.prog (Instr.storeAt 67 (.pointer (some p24)) (.agg #[.int .i64 x14, .int .i64 x17, .int .i64 x20])) fun _ =>
 callW Try.prog 44 #[.slice y0a y0n y0c] fun v26 =>
 asTup v26 fun l27 =>
 uncons l27 fun v28 r29 =>
 asAgg v28 fun l30 =>
 uncons l30 fun v31 r32 =>
 asI .i64 v31 fun x33 =>
 uncons r32 fun v34 r35 =>
 asI .i64 v34 fun x36 =>
 uncons r35 fun v37 r38 =>
 asI .i64 v37 fun x39 =>
 unnil r38 (
 uncons r29 fun v40 r41 =>
 asI .i64 v40 fun x42 =>
 unnil r41 (
 sem Try.prog (Instr.alloc 69 true (.tuple #[])) fun v44 =>
 asA v44 fun p43 =>
 sem Try.prog (Instr.storeAt 69 (.pointer (some p43)) (.agg #[.int .i64 x33, .int .i64 x36, .int .i64 x39])) fun _ =>
 joinW (fun K45 =>
 br (x23 == x42) (
 sem Try.prog (Instr.loadAt 67 (.pointer (some p24))) fun v47 =>
 asAgg v47 fun l48 =>
 uncons l48 fun v49 r50 =>
 asI .i64 v49 fun x51 =>
 uncons r50 fun v52 r53 =>
 asI .i64 v52 fun x54 =>
 uncons r53 fun v55 r56 =>
 asI .i64 v55 fun x57 =>
 unnil r56 (
 sem Try.prog (Instr.loadAt 69 (.pointer (some p43))) fun v58 =>
 asAgg v58 fun l59 =>
 uncons l59 fun v60 r61 =>
 asI .i64 v60 fun x62 =>
 uncons r61 fun v63 r64 =>
 asI .i64 v63 fun x65 =>
 uncons r64 fun v66 r67 =>
 asI .i64 v66 fun x68 =>
 unnil r67 (
 sem Try.prog (do eqGuard .eql 69 (.tmp 26) (.tmp 27) (.agg #[.int .i64 x51, .int .i64 x54, .int .i64 x57]) (.agg #[.int .i64 x62, .int .i64 x65, .int .i64 x68]); binOp .eql 69 (.agg #[.int .i64 x51, .int .i64 x54, .int .i64 x57]) (.agg #[.int .i64 x62, .int .i64 x65, .int .i64 x68])) fun v69 =>
 asB v69 fun b70 =>
 br b70 (
 callW Try.prog 25 #[.slice a4 n5 c6, .slice y0a y0n y0c] fun v71 =>
 asB v71 fun b72 =>
 K45 [.bool b72]) (
 K45 [.bool false])))) (
 K45 [.bool false])) (fun vs46 =>
 uncons vs46 fun v73 r74 =>
 asB v73 fun b75 =>
 unnil r74 (
 K (.bool b75))))))))
theorem F.hayloftlaw21_ManifestReads_eq (y0a : Option Addr) (y0n : Nat) (y0c : Nat) (K : Value → WP) : genF Try.prog Try.f10 ⟨[], [], [], [(6, [(2, 4)])], [], []⟩ [.slice y0a y0n y0c] K = F.hayloftlaw21_ManifestReads y0a y0n y0c K := by kernel_rfl
theorem F.hayloftlaw21_ManifestReads_ok (y0a : Option Addr) (y0n : Nat) (y0c : Nat) (K : Value → WP) (w : World) (h : F.hayloftlaw21_ManifestReads y0a y0n y0c K w) : callW Try.prog 10 #[.slice y0a y0n y0c] K w :=
  genF_use Try.func10 (F.hayloftlaw21_ManifestReads_eq y0a y0n y0c K) h

set_option maxRecDepth 100000 in
set_option linter.unusedVariables false in
def F.hayloftlaw21_ManifestTorn (y0_0 : Int) (y0_1 : Int) (y0_2 : Int) (y0_3 : Int) (y0_4 : Int) (y0_5 : Int) (y0_6 : Bool) (y1 : Int) (K : Value → WP) : WP :=
 sem Try.prog (Instr.box 78 (.agg #[.int .i64 y0_0, .int .i64 y0_1, .int .i64 y0_2, .int .i64 y0_3, .int .i64 y0_4, .int .i64 y0_5, .bool y0_6])) fun v2 =>
 asA v2 fun p1 =>
 callW Try.prog 38 #[] fun v3 =>
 asB v3 fun b4 =>
 br (!b4) (
 K (.bool false)) (
 joinW (fun K5 =>
 need true (pinW fun L7 =>
 chkW L7 (
 sem Try.prog (Instr.loadAt 65 (.pointer (some p1))) fun v8 =>
 asAgg v8 fun l9 =>
 uncons l9 fun v10 r11 =>
 asI .i64 v10 fun x12 =>
 uncons r11 fun v13 r14 =>
 asI .i64 v13 fun x15 =>
 uncons r14 fun v16 r17 =>
 asI .i64 v16 fun x18 =>
 unnil r17 (
 chkW L7 (
 chkW L7 (
 sem Try.prog (Instr.loadAt 65 (.pointer (some (p1.add 3)))) fun v19 =>
 asAgg v19 fun l20 =>
 uncons l20 fun v21 r22 =>
 asI .i64 v21 fun x23 =>
 uncons r22 fun v24 r25 =>
 asI .i64 v24 fun x26 =>
 uncons r25 fun v27 r28 =>
 asI .i64 v27 fun x29 =>
 unnil r28 (
 chkW L7 (
 chkW L7 (
 sem Try.prog (Instr.loadAt 4 (.pointer (some (p1.add 6)))) fun v30 =>
 asB v30 fun b31 =>
 chkW L7 (
 both (
 sem Try.prog (Instr.alloc 65 true (.tuple #[])) fun v33 =>
 asA v33 fun p32 =>
 chkW L7 (
 sem Try.prog (Instr.alloc 65 true (.tuple #[])) fun v35 =>
 asA v35 fun p34 =>
 chkW L7 (
 sem Try.prog (Instr.storeAt 65 (.pointer (some p32)) (.agg #[.int .i64 x12, .int .i64 x15, .int .i64 x18])) fun _ =>
 chkW L7 (
 sem Try.prog (Instr.storeAt 65 (.pointer (some p34)) (.agg #[.int .i64 x23, .int .i64 x26, .int .i64 x29])) fun _ =>
 chkW L7 (
 chkW L7 (
 need true (endW L7 [(some (p1.add 6)), (some (p1.add 3))] (
 K5 [.pointer (some p32), .pointer (some p34), .bool b31])))))))) (
 sem Try.prog (Instr.alloc 65 true (.tuple #[])) fun v37 =>
 asA v37 fun p36 =>
 chkW L7 (
 sem Try.prog (Instr.alloc 65 true (.tuple #[])) fun v39 =>
 asA v39 fun p38 =>
 chkW L7 (
 sem Try.prog (Instr.storeAt 65 (.pointer (some p38)) (.agg #[.int .i64 x12, .int .i64 x15, .int .i64 x18])) fun _ =>
 chkW L7 (
 sem Try.prog (Instr.storeAt 65 (.pointer (some p36)) (.agg #[.int .i64 x23, .int .i64 x26, .int .i64 x29])) fun _ =>
 chkW L7 (
 chkW L7 (
 need true (endW L7 [(some (p1.add 6)), (some (p1.add 3))] (
 K5 [.pointer (some p38), .pointer (some p36), .bool b31])))))))))))))))))) (fun vs6 =>
 uncons vs6 fun v40 r41 =>
 asA v40 fun p42 =>
 uncons r41 fun v43 r44 =>
 asA v43 fun p45 =>
 uncons r44 fun v46 r47 =>
 asB v46 fun b48 =>
 unnil r47 (
 sem Try.prog (Instr.loadAt 65 (.pointer (some p42))) fun v49 =>
 asAgg v49 fun l50 =>
 uncons l50 fun v51 r52 =>
 asI .i64 v51 fun x53 =>
 uncons r52 fun v54 r55 =>
 asI .i64 v54 fun x56 =>
 uncons r55 fun v57 r58 =>
 asI .i64 v57 fun x59 =>
 unnil r58 (
 callW Try.prog 39 #[.agg #[.int .i64 x53, .int .i64 x56, .int .i64 x59]] fun v60 =>
 asTup v60 fun l61 =>
 uncons l61 fun v62 r63 =>
 asS v62 fun a64 n65 c66 =>
 uncons r63 fun v67 r68 =>
 asI .i64 v67 fun x69 =>
 unnil r68 (
 sem Try.prog (Instr.loadAt 65 (.pointer (some p45))) fun v70 =>
 asAgg v70 fun l71 =>
 uncons l71 fun v72 r73 =>
 asI .i64 v72 fun x74 =>
 uncons r73 fun v75 r76 =>
 asI .i64 v75 fun x77 =>
 uncons r76 fun v78 r79 =>
 asI .i64 v78 fun x80 =>
 unnil r79 (
 callW Try.prog 39 #[.agg #[.int .i64 x74, .int .i64 x77, .int .i64 x80]] fun v81 =>
 asTup v81 fun l82 =>
 uncons l82 fun v83 r84 =>
 asS v83 fun a85 n86 c87 =>
 uncons r84 fun v88 r89 =>
 asI .i64 v88 fun x90 =>
 unnil r89 (
 joinW (fun K91 =>
 br b48 (
 sem Try.prog (Instr.makeSlice 22 (.int .i64 64) (.int .i64 64)) fun v93 =>
 asS v93 fun a94 n95 c96 =>
 K91 [.slice a94 n95 c96, .int .i64 0]) (
 K91 [.slice a64 n65 c66, .int .i64 x69])) (fun vs92 =>
 uncons vs92 fun v97 r98 =>
 asS v97 fun a99 n100 c101 =>
 uncons r98 fun v102 r103 =>
 asI .i64 v102 fun x104 =>
 unnil r103 (
 joinW (fun K105 =>
 br (x104 != 0) (
 K105 [.bool true]) (
 br (x90 != 0) (
 K105 [.bool true]) (
 br (!b48) (
 sem Try.prog (Instr.loadAt 3 (.pointer (some p42))) fun v107 =>
 asI .i64 v107 fun x108 =>
 sem Try.prog (Instr.loadAt 3 (.pointer (some p45))) fun v109 =>
 asI .i64 v109 fun x110 =>
 K105 [.bool (x108 == x110)]) (
 K105 [.bool false])))) (fun vs106 =>
 uncons vs106 fun v111 r112 =>
 asB v111 fun b113 =>
 unnil r112 (
 br b113 (
 K (.bool true)) (
 sem Try.prog (binOp .rem 5 (.int .u8 y1) (.int .u8 65)) fun v114 =>
 asI .u8 v114 fun x115 =>
 letv (IntKind.i64.wrap x115) fun x116 =>
 need true (drewW (
 sem Try.prog (Instr.sliceAt 22 (.slice a85 n86 c87) none (some (.int .i64 x116)) none) fun v117 =>
 asS v117 fun a118 n119 c120 =>
 callW Try.prog 27 #[.slice a118 n119 c120] fun v121 =>
 asS v121 fun a122 n123 c124 =>
 sem Try.prog (Instr.sliceAt 22 (.slice a99 n100 c101) (some (.int .i64 x116)) none none) fun v125 =>
 asS v125 fun a126 n127 c128 =>
 sem Try.prog (Builtin.append_ #[22, 22] 22 #[.slice a122 n123 c124, .slice a126 n127 c128]) fun v129 =>
 asS v129 fun a130 n131 c132 =>
 need true (
 callW Try.prog 43 #[.slice a130 n131 c132] fun v133 =>
 asTup v133 fun l134 =>
 uncons l134 fun v135 r136 =>
 asAgg v135 fun l137 =>
 uncons l137 fun v138 r139 =>
 asI .i64 v138 fun x140 =>
 uncons r139 fun v141 r142 =>
 asI .i64 v141 fun x143 =>
 uncons r142 fun v144 r145 =>
 asI .i64 v144 fun x146 =>
 unnil r145 (
 uncons r136 fun v147 r148 =>
 asI .i64 v147 fun x149 =>
 unnil r148 (
 sem Try.prog (Instr.alloc 67 true (.tuple #[])) fun v151 =>
 asA v151 fun p150 =>
 sem Try.prog (Instr.storeAt 67 (.pointer (some p150)) (.agg #[.int .i64 x140, .int .i64 x143, .int .i64 x146])) fun _ =>
 br (x116 == 64) (
 joinW (fun K152 =>
 br (x149 == 0) (
 sem Try.prog (Instr.loadAt 67 (.pointer (some p150))) fun v154 =>
 asAgg v154 fun l155 =>
 uncons l155 fun v156 r157 =>
 asI .i64 v156 fun x158 =>
 uncons r157 fun v159 r160 =>
 asI .i64 v159 fun x161 =>
 uncons r160 fun v162 r163 =>
 asI .i64 v162 fun x164 =>
 unnil r163 (
 sem Try.prog (Instr.loadAt 65 (.pointer (some p45))) fun v165 =>
 asAgg v165 fun l166 =>
 uncons l166 fun v167 r168 =>
 asI .i64 v167 fun x169 =>
 uncons r168 fun v170 r171 =>
 asI .i64 v170 fun x172 =>
 uncons r171 fun v173 r174 =>
 asI .i64 v173 fun x175 =>
 unnil r174 (
 sem Try.prog (do eqGuard .eql 65 (.tmp 80) (.tmp 81) (.agg #[.int .i64 x158, .int .i64 x161, .int .i64 x164]) (.agg #[.int .i64 x169, .int .i64 x172, .int .i64 x175]); binOp .eql 65 (.agg #[.int .i64 x158, .int .i64 x161, .int .i64 x164]) (.agg #[.int .i64 x169, .int .i64 x172, .int .i64 x175])) fun v176 =>
 asB v176 fun b177 =>
 K152 [.bool b177]))) (
 K152 [.bool false])) (fun vs153 =>
 uncons vs153 fun v178 r179 =>
 asB v178 fun b180 =>
 unnil r179 (
 K (.bool b180)))) (
 callW Try.prog 25 #[.slice a130 n131 c132, .slice a85 n86 c87] fun v181 =>
 asB v181 fun b182 =>
 br b182 (
 joinW (fun K183 =>
 br (x149 == 0) (
 sem Try.prog (Instr.loadAt 67 (.pointer (some p150))) fun v185 =>
 asAgg v185 fun l186 =>
 uncons l186 fun v187 r188 =>
 asI .i64 v187 fun x189 =>
 uncons r188 fun v190 r191 =>
 asI .i64 v190 fun x192 =>
 uncons r191 fun v193 r194 =>
 asI .i64 v193 fun x195 =>
 unnil r194 (
 sem Try.prog (Instr.loadAt 65 (.pointer (some p45))) fun v196 =>
 asAgg v196 fun l197 =>
 uncons l197 fun v198 r199 =>
 asI .i64 v198 fun x200 =>
 uncons r199 fun v201 r202 =>
 asI .i64 v201 fun x203 =>
 uncons r202 fun v204 r205 =>
 asI .i64 v204 fun x206 =>
 unnil r205 (
 sem Try.prog (do eqGuard .eql 65 (.tmp 80) (.tmp 81) (.agg #[.int .i64 x189, .int .i64 x192, .int .i64 x195]) (.agg #[.int .i64 x200, .int .i64 x203, .int .i64 x206]); binOp .eql 65 (.agg #[.int .i64 x189, .int .i64 x192, .int .i64 x195]) (.agg #[.int .i64 x200, .int .i64 x203, .int .i64 x206])) fun v207 =>
 asB v207 fun b208 =>
 K183 [.bool b208]))) (
 K183 [.bool false])) (fun vs184 =>
 uncons vs184 fun v209 r210 =>
 asB v209 fun b211 =>
 unnil r210 (
 K (.bool b211)))) (
 joinW (fun K212 =>
 br (!b48) (
 callW Try.prog 25 #[.slice a130 n131 c132, .slice a99 n100 c101] fun v214 =>
 asB v214 fun b215 =>
 K212 [.bool b215]) (
 K212 [.bool false])) (fun vs213 =>
 uncons vs213 fun v216 r217 =>
 asB v216 fun b218 =>
 unnil r217 (
 br b218 (
 joinW (fun K219 =>
 br (x149 == 0) (
 sem Try.prog (Instr.loadAt 67 (.pointer (some p150))) fun v221 =>
 asAgg v221 fun l222 =>
 uncons l222 fun v223 r224 =>
 asI .i64 v223 fun x225 =>
 uncons r224 fun v226 r227 =>
 asI .i64 v226 fun x228 =>
 uncons r227 fun v229 r230 =>
 asI .i64 v229 fun x231 =>
 unnil r230 (
 sem Try.prog (Instr.loadAt 65 (.pointer (some p42))) fun v232 =>
 asAgg v232 fun l233 =>
 uncons l233 fun v234 r235 =>
 asI .i64 v234 fun x236 =>
 uncons r235 fun v237 r238 =>
 asI .i64 v237 fun x239 =>
 uncons r238 fun v240 r241 =>
 asI .i64 v240 fun x242 =>
 unnil r241 (
 sem Try.prog (do eqGuard .eql 65 (.tmp 95) (.tmp 96) (.agg #[.int .i64 x225, .int .i64 x228, .int .i64 x231]) (.agg #[.int .i64 x236, .int .i64 x239, .int .i64 x242]); binOp .eql 65 (.agg #[.int .i64 x225, .int .i64 x228, .int .i64 x231]) (.agg #[.int .i64 x236, .int .i64 x239, .int .i64 x242])) fun v243 =>
 asB v243 fun b244 =>
 K219 [.bool b244]))) (
 K219 [.bool false])) (fun vs220 =>
 uncons vs220 fun v245 r246 =>
 asB v245 fun b247 =>
 unnil r246 (
 K (.bool b247)))) (
 joinW (fun K248 =>
 br (x149 != 0) (
 sem Try.prog (Instr.loadAt 67 (.pointer (some p150))) fun v250 =>
 asAgg v250 fun l251 =>
 uncons l251 fun v252 r253 =>
 asI .i64 v252 fun x254 =>
 uncons r253 fun v255 r256 =>
 asI .i64 v255 fun x257 =>
 uncons r256 fun v258 r259 =>
 asI .i64 v258 fun x260 =>
 unnil r259 (
 sem Try.prog (do eqGuard .eql 67 (.tmp 102) (.tmp 103) (.agg #[.int .i64 x254, .int .i64 x257, .int .i64 x260]) (.agg #[.int .i64 0, .int .i64 0, .int .i64 0]); binOp .eql 67 (.agg #[.int .i64 x254, .int .i64 x257, .int .i64 x260]) (.agg #[.int .i64 0, .int .i64 0, .int .i64 0])) fun v261 =>
 asB v261 fun b262 =>
 K248 [.bool b262])) (
 K248 [.bool false])) (fun vs249 =>
 uncons vs249 fun v263 r264 =>
 asB v263 fun b265 =>
 unnil r264 (
 K (.bool b265)))))))))))))))))))))))))
theorem F.hayloftlaw21_ManifestTorn_eq (y0_0 : Int) (y0_1 : Int) (y0_2 : Int) (y0_3 : Int) (y0_4 : Int) (y0_5 : Int) (y0_6 : Bool) (y1 : Int) (K : Value → WP) : genF Try.prog Try.f11 ⟨[], [(7, [(8, 22), (9, 27)])], [], [(3, [(5, 4294967295), (6, 4294967295), (7, 4)]), (8, [(52, 4)]), (14, [(4, 4)]), (15, [(84, 4)]), (16, [(4, 4)]), (17, [(4, 4)])], [(3, 0)], [(3, 6)]⟩ [.agg #[.int .i64 y0_0, .int .i64 y0_1, .int .i64 y0_2, .int .i64 y0_3, .int .i64 y0_4, .int .i64 y0_5, .bool y0_6], .int .u8 y1] K = F.hayloftlaw21_ManifestTorn y0_0 y0_1 y0_2 y0_3 y0_4 y0_5 y0_6 y1 K := by kernel_rfl
theorem F.hayloftlaw21_ManifestTorn_ok (y0_0 : Int) (y0_1 : Int) (y0_2 : Int) (y0_3 : Int) (y0_4 : Int) (y0_5 : Int) (y0_6 : Bool) (y1 : Int) (K : Value → WP) (w : World) (h : F.hayloftlaw21_ManifestTorn y0_0 y0_1 y0_2 y0_3 y0_4 y0_5 y0_6 y1 K w) : callW Try.prog 11 #[.agg #[.int .i64 y0_0, .int .i64 y0_1, .int .i64 y0_2, .int .i64 y0_3, .int .i64 y0_4, .int .i64 y0_5, .bool y0_6], .int .u8 y1] K w :=
  genF_use Try.func11 (F.hayloftlaw21_ManifestTorn_eq y0_0 y0_1 y0_2 y0_3 y0_4 y0_5 y0_6 y1 K) h

set_option maxRecDepth 100000 in
set_option linter.unusedVariables false in
def F.hayloftlaw21_ManifestBursts (y0_0 : Int) (y0_1 : Int) (y0_2 : Int) (y1_0 : Int) (y1_1 : Int) (K : Value → WP) : WP :=
 sem Try.prog (Instr.box 65 (.agg #[.int .i64 y0_0, .int .i64 y0_1, .int .i64 y0_2])) fun v2 =>
 asA v2 fun p1 =>
 sem Try.prog (Instr.box 83 (.agg #[.int .u16 y1_0, .int .u32 y1_1])) fun v4 =>
 asA v4 fun p3 =>
 callW Try.prog 38 #[] fun v5 =>
 asB v5 fun b6 =>
 br (!b6) (
 K (.bool false)) (
 sem Try.prog (Instr.loadAt 65 (.pointer (some p1))) fun v7 =>
 asAgg v7 fun l8 =>
 uncons l8 fun v9 r10 =>
 asI .i64 v9 fun x11 =>
 uncons r10 fun v12 r13 =>
 asI .i64 v12 fun x14 =>
 uncons r13 fun v15 r16 =>
 asI .i64 v15 fun x17 =>
 unnil r16 (
 callW Try.prog 39 #[.agg #[.int .i64 x11, .int .i64 x14, .int .i64 x17]] fun v18 =>
 asTup v18 fun l19 =>
 uncons l19 fun v20 r21 =>
 asS v20 fun a22 n23 c24 =>
 uncons r21 fun v25 r26 =>
 asI .i64 v25 fun x27 =>
 unnil r26 (
 br (x27 != 0) (
 K (.bool (x27 == 4))) (
 br (((n23 : Nat) : Int) != 64) (
 K (.bool (x27 == 4))) (
 callW Try.prog 27 #[.slice a22 n23 c24] fun v28 =>
 asS v28 fun a29 n30 c31 =>
 loopW [.int .i64 0] (fun K32 vs33 =>
 uncons vs33 fun v34 r35 =>
 asI .i64 v34 fun x36 =>
 unnil r35 (
 br (decide (x36 < 32)) (
 sem Try.prog (Instr.loadAt 80 (.pointer (some p3))) fun v37 =>
 asI .u16 v37 fun x38 =>
 sem Try.prog (binOp .rem 80 (.int .u16 x38) (.int .u16 512)) fun v39 =>
 asI .u16 v39 fun x40 =>
 letv (IntKind.i64.wrap x40) fun x41 =>
 letv (IntKind.i64.wrap (x41 + x36)) fun x42 =>
 joinW (fun K43 =>
 sem Try.prog (Instr.loadAt 81 (.pointer (some (p3.add 1)))) fun v45 =>
 asI .u32 v45 fun x46 =>
 letv (IntKind.u64.wrap x36) fun x47 =>
 sem Try.prog (binOp .shr 81 (.int .u32 x46) (.int .u64 x47)) fun v48 =>
 asI .u32 v48 fun x49 =>
 sem Try.prog (binOp .rem 81 (.int .u32 x49) (.int .u32 2)) fun v50 =>
 asI .u32 v50 fun x51 =>
 br (x51 == 1) (
 K43 [.bool (decide (x42 < 512))]) (
 K43 [.bool false])) (fun vs44 =>
 uncons vs44 fun v52 r53 =>
 asB v52 fun b54 =>
 unnil r53 (
 joinW (fun K55 =>
 br b54 (
 sem Try.prog (binOp .quo 3 (.int .i64 x42) (.int .i64 8)) fun v57 =>
 asI .i64 v57 fun x58 =>
 sem Try.prog (binOp .quo 3 (.int .i64 x42) (.int .i64 8)) fun v59 =>
 asI .i64 v59 fun x60 =>
 sem Try.prog (Instr.indexAt 22 (.slice a29 n30 c31) (.int .i64 x60)) fun v62 =>
 asA v62 fun p61 =>
 sem Try.prog (Instr.loadAt 5 (.pointer (some p61))) fun v63 =>
 asI .u8 v63 fun x64 =>
 sem Try.prog (binOp .rem 3 (.int .i64 x42) (.int .i64 8)) fun v65 =>
 asI .i64 v65 fun x66 =>
 letv (IntKind.u64.wrap x66) fun x67 =>
 sem Try.prog (binOp .shl 5 (.int .u8 1) (.int .u64 x67)) fun v68 =>
 asI .u8 v68 fun x69 =>
 letv (IntKind.u8.wrap (BitVec.ofInt 8 x64 ^^^ BitVec.ofInt 8 x69).toNat) fun x70 =>
 sem Try.prog (Instr.indexAt 22 (.slice a29 n30 c31) (.int .i64 x58)) fun v72 =>
 asA v72 fun p71 =>
 sem Try.prog (Instr.storeAt 5 (.pointer (some p71)) (.int .u8 x70)) fun _ =>
 K55 []) (
 K55 [])) (fun vs56 =>
 unnil vs56 (
 letv (IntKind.i64.wrap (x36 + 1)) fun x73 =>
 K32 [.int .i64 x73]))))) (
 callW Try.prog 43 #[.slice a29 n30 c31] fun v74 =>
 asTup v74 fun l75 =>
 uncons l75 fun v76 r77 =>
 asAgg v76 fun l78 =>
 uncons l78 fun v79 r80 =>
 asI .i64 v79 fun x81 =>
 uncons r80 fun v82 r83 =>
 asI .i64 v82 fun x84 =>
 uncons r83 fun v85 r86 =>
 asI .i64 v85 fun x87 =>
 unnil r86 (
 uncons r77 fun v88 r89 =>
 asI .i64 v88 fun x90 =>
 unnil r89 (
 sem Try.prog (Instr.alloc 67 true (.tuple #[])) fun v92 =>
 asA v92 fun p91 =>
 sem Try.prog (Instr.storeAt 67 (.pointer (some p91)) (.agg #[.int .i64 x81, .int .i64 x84, .int .i64 x87])) fun _ =>
 callW Try.prog 25 #[.slice a22 n23 c24, .slice a29 n30 c31] fun v93 =>
 asB v93 fun b94 =>
 K (.bool ((x90 == 0) == b94))))))))))))
theorem F.hayloftlaw21_ManifestBursts_eq (y0_0 : Int) (y0_1 : Int) (y0_2 : Int) (y1_0 : Int) (y1_1 : Int) (K : Value → WP) : genF Try.prog Try.f12 ⟨[(8, [(8, 3)])], [(12, [])], [], [(11, [(50, 4)])], [], []⟩ [.agg #[.int .i64 y0_0, .int .i64 y0_1, .int .i64 y0_2], .agg #[.int .u16 y1_0, .int .u32 y1_1]] K = F.hayloftlaw21_ManifestBursts y0_0 y0_1 y0_2 y1_0 y1_1 K := by kernel_rfl
theorem F.hayloftlaw21_ManifestBursts_ok (y0_0 : Int) (y0_1 : Int) (y0_2 : Int) (y1_0 : Int) (y1_1 : Int) (K : Value → WP) (w : World) (h : F.hayloftlaw21_ManifestBursts y0_0 y0_1 y0_2 y1_0 y1_1 K w) : callW Try.prog 12 #[.agg #[.int .i64 y0_0, .int .i64 y0_1, .int .i64 y0_2], .agg #[.int .u16 y1_0, .int .u32 y1_1]] K w :=
  genF_use Try.func12 (F.hayloftlaw21_ManifestBursts_eq y0_0 y0_1 y0_2 y1_0 y1_1 K) h

set_option maxRecDepth 100000 in
set_option linter.unusedVariables false in
def F.hayloftlaw21_alive (K : Value → WP) : WP :=
 callW Try.prog 39 #[.agg #[.int .i64 1, .int .i64 3, .int .i64 40]] fun v1 =>
 asTup v1 fun l2 =>
 uncons l2 fun v3 r4 =>
 asS v3 fun a5 n6 c7 =>
 uncons r4 fun v8 r9 =>
 asI .i64 v8 fun x10 =>
 unnil r9 (
 callW Try.prog 43 #[.slice a5 n6 c7] fun v11 =>
 asTup v11 fun l12 =>
 uncons l12 fun v13 r14 =>
 asAgg v13 fun l15 =>
 uncons l15 fun v16 r17 =>
 asI .i64 v16 fun x18 =>
 uncons r17 fun v19 r20 =>
 asI .i64 v19 fun x21 =>
 uncons r20 fun v22 r23 =>
 asI .i64 v22 fun x24 =>
 unnil r23 (
 uncons r14 fun v25 r26 =>
 asI .i64 v25 fun x27 =>
 unnil r26 (
 sem Try.prog (Instr.alloc 67 true (.tuple #[])) fun v29 =>
 asA v29 fun p28 =>
 sem Try.prog (Instr.storeAt 67 (.pointer (some p28)) (.agg #[.int .i64 x18, .int .i64 x21, .int .i64 x24])) fun _ =>
 callW Try.prog 49 #[.slice none 0 0, .int .i64 (-1)] fun v30 =>
 asTup v30 fun l31 =>
 uncons l31 fun v32 r33 =>
 asI .i64 v32 fun x34 =>
 uncons r33 fun v35 r36 =>
 asI .i64 v35 fun x37 =>
 uncons r36 fun v38 r39 =>
 asI .i64 v38 fun x40 =>
 unnil r39 (
 joinW (fun K41 =>
 br (x10 == 0) (
 br (((n6 : Nat) : Int) == 64) (
 sem Try.prog (Instr.indexAt 22 (.slice a5 n6 c7) (.int .i64 0)) fun v44 =>
 asA v44 fun p43 =>
 sem Try.prog (Instr.loadAt 5 (.pointer (some p43))) fun v45 =>
 asI .u8 v45 fun x46 =>
 br (x46 == 1) (
 sem Try.prog (Instr.indexAt 22 (.slice a5 n6 c7) (.int .i64 4)) fun v48 =>
 asA v48 fun p47 =>
 sem Try.prog (Instr.loadAt 5 (.pointer (some p47))) fun v49 =>
 asI .u8 v49 fun x50 =>
 br (x50 == 3) (
 sem Try.prog (Instr.indexAt 22 (.slice a5 n6 c7) (.int .i64 8)) fun v52 =>
 asA v52 fun p51 =>
 sem Try.prog (Instr.loadAt 5 (.pointer (some p51))) fun v53 =>
 asI .u8 v53 fun x54 =>
 br (x54 == 40) (
 sem Try.prog (Instr.indexAt 22 (.slice a5 n6 c7) (.int .i64 60)) fun v56 =>
 asA v56 fun p55 =>
 sem Try.prog (Instr.loadAt 5 (.pointer (some p55))) fun v57 =>
 asI .u8 v57 fun x58 =>
 br (x58 == 1) (
 br (x27 == 0) (
 sem Try.prog (Instr.loadAt 3 (.pointer (some (p28.add 2)))) fun v59 =>
 asI .i64 v59 fun x60 =>
 br (x60 == 40) (
 br (x34 == 1) (
 br (x37 == 0) (
 br (x40 == 0) (
 callW Try.prog 41 #[.int .i64 1, .int .i64 8] fun v61 =>
 asI .i64 v61 fun x62 =>
 K41 [.bool (x62 == 7)]) (
 K41 [.bool false])) (
 K41 [.bool false])) (
 K41 [.bool false])) (
 K41 [.bool false])) (
 K41 [.bool false])) (
 K41 [.bool false])) (
 K41 [.bool false])) (
 K41 [.bool false])) (
 K41 [.bool false])) (
 K41 [.bool false])) (
 K41 [.bool false])) (fun vs42 =>
 uncons vs42 fun v63 r64 =>
 asB v63 fun b65 =>
 unnil r64 (
 K (.bool b65)))))))
theorem F.hayloftlaw21_alive_eq (K : Value → WP) : genF Try.prog Try.f38 ⟨[], [], [], [(4, [(0, 4)])], [], []⟩ [] K = F.hayloftlaw21_alive K := by kernel_rfl
theorem F.hayloftlaw21_alive_ok (K : Value → WP) (w : World) (h : F.hayloftlaw21_alive K w) : callW Try.prog 38 #[] K w :=
  genF_use Try.func38 (F.hayloftlaw21_alive_eq K) h
end Go.Proofs.Ytehpdpdmjflddaa
