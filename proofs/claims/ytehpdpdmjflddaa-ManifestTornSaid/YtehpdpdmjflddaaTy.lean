/-
  Facts on the types of the program, printed by gen.py off the cut and checked by the kernel.
-/
import Derived.Test.YtehpdpdmjflddaaRow
import Derived.Test.YtehpdpdmjflddaaProg
namespace Go.Proofs.Ytehpdpdmjflddaa
open Go.RowKit

instance : CellT Try.prog 1 := cellT_mk (by kernel_rfl) (by kernel_rfl)
instance : ZeroT Try.prog 1 [.nilFunc] := zeroT_mk (z := .nilFunc) (by kernel_rfl) rfl
instance : CellT Try.prog 2 := cellT_mk (by kernel_rfl) (by kernel_rfl)
instance : ZeroT Try.prog 2 [.int .i64 0] := zeroT_mk (z := .int .i64 0) (by kernel_rfl) rfl
instance : CellT Try.prog 3 := cellT_mk (by kernel_rfl) (by kernel_rfl)
instance : ZeroT Try.prog 3 [.int .i64 0] := zeroT_mk (z := .int .i64 0) (by kernel_rfl) rfl
instance : CellT Try.prog 4 := cellT_mk (by kernel_rfl) (by kernel_rfl)
instance : ZeroT Try.prog 4 [.bool false] := zeroT_mk (z := .bool false) (by kernel_rfl) rfl
instance : CellT Try.prog 5 := cellT_mk (by kernel_rfl) (by kernel_rfl)
instance : ZeroT Try.prog 5 [.int .u8 0] := zeroT_mk (z := .int .u8 0) (by kernel_rfl) rfl
instance : CellT Try.prog 6 := cellT_mk (by kernel_rfl) (by kernel_rfl)
instance : ZeroT Try.prog 6 [.int .u8 0] := zeroT_mk (z := .int .u8 0) (by kernel_rfl) rfl
instance : RowT Try.prog 7 4 := rowT_mk (by kernel_rfl) (by kernel_rfl)
instance : ZeroT Try.prog 7 ([.int .i64 0, .int .i64 0, .bool false, .int .u8 0]) := zeroT_mk (z := .agg ⟨[.int .i64 0, .int .i64 0, .bool false, .int .u8 0]⟩) (by kernel_rfl) rfl
instance : RowT Try.prog 8 4 := rowT_mk (by kernel_rfl) (by kernel_rfl)
instance : ZeroT Try.prog 8 ([.int .i64 0, .int .i64 0, .bool false, .int .u8 0]) := zeroT_mk (z := .agg ⟨[.int .i64 0, .int .i64 0, .bool false, .int .u8 0]⟩) (by kernel_rfl) rfl
instance : CellT Try.prog 9 := cellT_mk (by kernel_rfl) (by kernel_rfl)
instance : ZeroT Try.prog 9 [.string ByteArray.empty] := zeroT_mk (z := .string ByteArray.empty) (by kernel_rfl) rfl
instance : CellT Try.prog 10 := cellT_mk (by kernel_rfl) (by kernel_rfl)
instance : ZeroT Try.prog 10 [.string ByteArray.empty] := zeroT_mk (z := .string ByteArray.empty) (by kernel_rfl) rfl
instance : CellT Try.prog 11 := cellT_mk (by kernel_rfl) (by kernel_rfl)
instance : ZeroT Try.prog 11 [.string ByteArray.empty] := zeroT_mk (z := .string ByteArray.empty) (by kernel_rfl) rfl
instance : CellT Try.prog 12 := cellT_mk (by kernel_rfl) (by kernel_rfl)
instance : ZeroT Try.prog 12 [.int .u64 0] := zeroT_mk (z := .int .u64 0) (by kernel_rfl) rfl
instance : RowT Try.prog 13 2 := rowT_mk (by kernel_rfl) (by kernel_rfl)
instance : ZeroT Try.prog 13 ([.string ByteArray.empty, .int .u64 0]) := zeroT_mk (z := .agg ⟨[.string ByteArray.empty, .int .u64 0]⟩) (by kernel_rfl) rfl
instance : RowT Try.prog 14 2 := rowT_mk (by kernel_rfl) (by kernel_rfl)
instance : ZeroT Try.prog 14 ([.string ByteArray.empty, .int .u64 0]) := zeroT_mk (z := .agg ⟨[.string ByteArray.empty, .int .u64 0]⟩) (by kernel_rfl) rfl
instance : CellT Try.prog 15 := cellT_mk (by kernel_rfl) (by kernel_rfl)
instance : ZeroT Try.prog 15 [.pointer none] := zeroT_mk (z := .pointer none) (by kernel_rfl) rfl
instance : CellT Try.prog 16 := cellT_mk (by kernel_rfl) (by kernel_rfl)
instance : ZeroT Try.prog 16 [.pointer none] := zeroT_mk (z := .pointer none) (by kernel_rfl) rfl
instance : CellT Try.prog 17 := cellT_mk (by kernel_rfl) (by kernel_rfl)
instance : ZeroT Try.prog 17 [.pointer none] := zeroT_mk (z := .pointer none) (by kernel_rfl) rfl
instance : RowT Try.prog 18 1 := rowT_mk (by kernel_rfl) (by kernel_rfl)
instance : ZeroT Try.prog 18 ([.pointer none]) := zeroT_mk (z := .agg ⟨[.pointer none]⟩) (by kernel_rfl) rfl
instance : RowT Try.prog 19 1 := rowT_mk (by kernel_rfl) (by kernel_rfl)
instance : ZeroT Try.prog 19 ([.pointer none]) := zeroT_mk (z := .agg ⟨[.pointer none]⟩) (by kernel_rfl) rfl
instance : CellT Try.prog 20 := cellT_mk (by kernel_rfl) (by kernel_rfl)
instance : ZeroT Try.prog 20 [.nilIface] := zeroT_mk (z := .nilIface) (by kernel_rfl) rfl
instance : CellT Try.prog 21 := cellT_mk (by kernel_rfl) (by kernel_rfl)
instance : ZeroT Try.prog 21 [.int .i32 0] := zeroT_mk (z := .int .i32 0) (by kernel_rfl) rfl
instance : CellT Try.prog 22 := cellT_mk (by kernel_rfl) (by kernel_rfl)
instance : ZeroT Try.prog 22 [.slice none 0 0] := zeroT_mk (z := .slice none 0 0) (by kernel_rfl) rfl
instance : SlT Try.prog 22 5 1 1 ([.int .u8 0]) := slT_mk (zv := .int .u8 0) (by kernel_rfl) (by kernel_rfl) rfl (by kernel_rfl)
instance : RowT Try.prog 23 3 := rowT_mk (by kernel_rfl) (by kernel_rfl)
instance : ZeroT Try.prog 23 ([.slice none 0 0, .slice none 0 0, .int .i64 0]) := zeroT_mk (z := .agg ⟨[.slice none 0 0, .slice none 0 0, .int .i64 0]⟩) (by kernel_rfl) rfl
instance : RowT Try.prog 24 3 := rowT_mk (by kernel_rfl) (by kernel_rfl)
instance : ZeroT Try.prog 24 ([.slice none 0 0, .slice none 0 0, .int .i64 0]) := zeroT_mk (z := .agg ⟨[.slice none 0 0, .slice none 0 0, .int .i64 0]⟩) (by kernel_rfl) rfl
instance : CellT Try.prog 25 := cellT_mk (by kernel_rfl) (by kernel_rfl)
instance : ZeroT Try.prog 25 [.nilFunc] := zeroT_mk (z := .nilFunc) (by kernel_rfl) rfl
instance : CellT Try.prog 26 := cellT_mk (by kernel_rfl) (by kernel_rfl)
instance : ZeroT Try.prog 26 [.pointer none] := zeroT_mk (z := .pointer none) (by kernel_rfl) rfl
instance : CellT Try.prog 27 := cellT_mk (by kernel_rfl) (by kernel_rfl)
instance : ZeroT Try.prog 27 [.int .i64 0] := zeroT_mk (z := .int .i64 0) (by kernel_rfl) rfl
instance : CellT Try.prog 29 := cellT_mk (by kernel_rfl) (by kernel_rfl)
instance : ZeroT Try.prog 29 [.nilFunc] := zeroT_mk (z := .nilFunc) (by kernel_rfl) rfl
instance : CellT Try.prog 30 := cellT_mk (by kernel_rfl) (by kernel_rfl)
instance : ZeroT Try.prog 30 [.nilFunc] := zeroT_mk (z := .nilFunc) (by kernel_rfl) rfl
instance : CellT Try.prog 31 := cellT_mk (by kernel_rfl) (by kernel_rfl)
instance : ZeroT Try.prog 31 [.nilFunc] := zeroT_mk (z := .nilFunc) (by kernel_rfl) rfl
instance : CellT Try.prog 33 := cellT_mk (by kernel_rfl) (by kernel_rfl)
instance : ZeroT Try.prog 33 [.nilFunc] := zeroT_mk (z := .nilFunc) (by kernel_rfl) rfl
instance : CellT Try.prog 34 := cellT_mk (by kernel_rfl) (by kernel_rfl)
instance : ZeroT Try.prog 34 [.nilFunc] := zeroT_mk (z := .nilFunc) (by kernel_rfl) rfl
instance : CellT Try.prog 35 := cellT_mk (by kernel_rfl) (by kernel_rfl)
instance : ZeroT Try.prog 35 [.slice none 0 0] := zeroT_mk (z := .slice none 0 0) (by kernel_rfl) rfl
instance : SlT Try.prog 35 3 1 8 ([.int .i64 0]) := slT_mk (zv := .int .i64 0) (by kernel_rfl) (by kernel_rfl) rfl (by kernel_rfl)
instance : CellT Try.prog 36 := cellT_mk (by kernel_rfl) (by kernel_rfl)
instance : ZeroT Try.prog 36 [.nilFunc] := zeroT_mk (z := .nilFunc) (by kernel_rfl) rfl
instance : CellT Try.prog 37 := cellT_mk (by kernel_rfl) (by kernel_rfl)
instance : ZeroT Try.prog 37 [.slice none 0 0] := zeroT_mk (z := .slice none 0 0) (by kernel_rfl) rfl
instance : SlT Try.prog 37 40 4 64 ([.int .i64 0, .int .i64 0, .slice none 0 0, .slice none 0 0]) := slT_mk (zv := .agg ⟨[.int .i64 0, .int .i64 0, .slice none 0 0, .slice none 0 0]⟩) (by kernel_rfl) (by kernel_rfl) rfl (by kernel_rfl)
instance : CellT Try.prog 38 := cellT_mk (by kernel_rfl) (by kernel_rfl)
instance : ZeroT Try.prog 38 [.nilFunc] := zeroT_mk (z := .nilFunc) (by kernel_rfl) rfl
instance : RowT Try.prog 39 4 := rowT_mk (by kernel_rfl) (by kernel_rfl)
instance : ZeroT Try.prog 39 ([.int .i64 0, .int .i64 0, .slice none 0 0, .slice none 0 0]) := zeroT_mk (z := .agg ⟨[.int .i64 0, .int .i64 0, .slice none 0 0, .slice none 0 0]⟩) (by kernel_rfl) rfl
instance : RowT Try.prog 40 4 := rowT_mk (by kernel_rfl) (by kernel_rfl)
instance : ZeroT Try.prog 40 ([.int .i64 0, .int .i64 0, .slice none 0 0, .slice none 0 0]) := zeroT_mk (z := .agg ⟨[.int .i64 0, .int .i64 0, .slice none 0 0, .slice none 0 0]⟩) (by kernel_rfl) rfl
instance : CellT Try.prog 41 := cellT_mk (by kernel_rfl) (by kernel_rfl)
instance : ZeroT Try.prog 41 [.nilFunc] := zeroT_mk (z := .nilFunc) (by kernel_rfl) rfl
instance : CellT Try.prog 42 := cellT_mk (by kernel_rfl) (by kernel_rfl)
instance : ZeroT Try.prog 42 [.nilFunc] := zeroT_mk (z := .nilFunc) (by kernel_rfl) rfl
instance : CellT Try.prog 43 := cellT_mk (by kernel_rfl) (by kernel_rfl)
instance : ZeroT Try.prog 43 [.nilFunc] := zeroT_mk (z := .nilFunc) (by kernel_rfl) rfl
instance : CellT Try.prog 44 := cellT_mk (by kernel_rfl) (by kernel_rfl)
instance : ZeroT Try.prog 44 [.nilFunc] := zeroT_mk (z := .nilFunc) (by kernel_rfl) rfl
instance : CellT Try.prog 45 := cellT_mk (by kernel_rfl) (by kernel_rfl)
instance : ZeroT Try.prog 45 [.nilFunc] := zeroT_mk (z := .nilFunc) (by kernel_rfl) rfl
instance : CellT Try.prog 46 := cellT_mk (by kernel_rfl) (by kernel_rfl)
instance : ZeroT Try.prog 46 [.nilFunc] := zeroT_mk (z := .nilFunc) (by kernel_rfl) rfl
instance : CellT Try.prog 47 := cellT_mk (by kernel_rfl) (by kernel_rfl)
instance : ZeroT Try.prog 47 [.nilFunc] := zeroT_mk (z := .nilFunc) (by kernel_rfl) rfl
instance : CellT Try.prog 48 := cellT_mk (by kernel_rfl) (by kernel_rfl)
instance : ZeroT Try.prog 48 [.nilFunc] := zeroT_mk (z := .nilFunc) (by kernel_rfl) rfl
instance : CellT Try.prog 49 := cellT_mk (by kernel_rfl) (by kernel_rfl)
instance : ZeroT Try.prog 49 [.pointer none] := zeroT_mk (z := .pointer none) (by kernel_rfl) rfl
instance : CellT Try.prog 51 := cellT_mk (by kernel_rfl) (by kernel_rfl)
instance : ZeroT Try.prog 51 [.nilFunc] := zeroT_mk (z := .nilFunc) (by kernel_rfl) rfl
instance : CellT Try.prog 52 := cellT_mk (by kernel_rfl) (by kernel_rfl)
instance : ZeroT Try.prog 52 [.slice none 0 0] := zeroT_mk (z := .slice none 0 0) (by kernel_rfl) rfl
instance : SlT Try.prog 52 22 1 24 ([.slice none 0 0]) := slT_mk (zv := .slice none 0 0) (by kernel_rfl) (by kernel_rfl) rfl (by kernel_rfl)
instance : CellT Try.prog 53 := cellT_mk (by kernel_rfl) (by kernel_rfl)
instance : ZeroT Try.prog 53 [.slice none 0 0] := zeroT_mk (z := .slice none 0 0) (by kernel_rfl) rfl
instance : SlT Try.prog 53 96 2 32 ([.int .i64 0, .slice none 0 0]) := slT_mk (zv := .agg ⟨[.int .i64 0, .slice none 0 0]⟩) (by kernel_rfl) (by kernel_rfl) rfl (by kernel_rfl)
instance : RowT Try.prog 54 5 := rowT_mk (by kernel_rfl) (by kernel_rfl)
instance : ZeroT Try.prog 54 ([.slice none 0 0, .slice none 0 0, .int .i64 0, .bool false, .int .i64 0]) := zeroT_mk (z := .agg ⟨[.slice none 0 0, .slice none 0 0, .int .i64 0, .bool false, .int .i64 0]⟩) (by kernel_rfl) rfl
instance : RowT Try.prog 55 5 := rowT_mk (by kernel_rfl) (by kernel_rfl)
instance : ZeroT Try.prog 55 ([.slice none 0 0, .slice none 0 0, .int .i64 0, .bool false, .int .i64 0]) := zeroT_mk (z := .agg ⟨[.slice none 0 0, .slice none 0 0, .int .i64 0, .bool false, .int .i64 0]⟩) (by kernel_rfl) rfl
instance : CellT Try.prog 56 := cellT_mk (by kernel_rfl) (by kernel_rfl)
instance : ZeroT Try.prog 56 [.nilFunc] := zeroT_mk (z := .nilFunc) (by kernel_rfl) rfl
instance : CellT Try.prog 57 := cellT_mk (by kernel_rfl) (by kernel_rfl)
instance : ZeroT Try.prog 57 [.nilFunc] := zeroT_mk (z := .nilFunc) (by kernel_rfl) rfl
instance : CellT Try.prog 58 := cellT_mk (by kernel_rfl) (by kernel_rfl)
instance : ZeroT Try.prog 58 [.nilFunc] := zeroT_mk (z := .nilFunc) (by kernel_rfl) rfl
instance : CellT Try.prog 60 := cellT_mk (by kernel_rfl) (by kernel_rfl)
instance : ZeroT Try.prog 60 [.nilFunc] := zeroT_mk (z := .nilFunc) (by kernel_rfl) rfl
instance : CellT Try.prog 61 := cellT_mk (by kernel_rfl) (by kernel_rfl)
instance : ZeroT Try.prog 61 [.nilFunc] := zeroT_mk (z := .nilFunc) (by kernel_rfl) rfl
instance : CellT Try.prog 62 := cellT_mk (by kernel_rfl) (by kernel_rfl)
instance : ZeroT Try.prog 62 [.nilFunc] := zeroT_mk (z := .nilFunc) (by kernel_rfl) rfl
instance : CellT Try.prog 63 := cellT_mk (by kernel_rfl) (by kernel_rfl)
instance : ZeroT Try.prog 63 [.nilFunc] := zeroT_mk (z := .nilFunc) (by kernel_rfl) rfl
instance : RowT Try.prog 64 3 := rowT_mk (by kernel_rfl) (by kernel_rfl)
instance : ZeroT Try.prog 64 ([.int .i64 0, .int .i64 0, .int .i64 0]) := zeroT_mk (z := .agg ⟨[.int .i64 0, .int .i64 0, .int .i64 0]⟩) (by kernel_rfl) rfl
instance : RowT Try.prog 65 3 := rowT_mk (by kernel_rfl) (by kernel_rfl)
instance : ZeroT Try.prog 65 ([.int .i64 0, .int .i64 0, .int .i64 0]) := zeroT_mk (z := .agg ⟨[.int .i64 0, .int .i64 0, .int .i64 0]⟩) (by kernel_rfl) rfl
instance : CellT Try.prog 66 := cellT_mk (by kernel_rfl) (by kernel_rfl)
instance : ZeroT Try.prog 66 [.nilFunc] := zeroT_mk (z := .nilFunc) (by kernel_rfl) rfl
instance : RowT Try.prog 67 3 := rowT_mk (by kernel_rfl) (by kernel_rfl)
instance : ZeroT Try.prog 67 ([.int .i64 0, .int .i64 0, .int .i64 0]) := zeroT_mk (z := .agg ⟨[.int .i64 0, .int .i64 0, .int .i64 0]⟩) (by kernel_rfl) rfl
instance : CellT Try.prog 68 := cellT_mk (by kernel_rfl) (by kernel_rfl)
instance : ZeroT Try.prog 68 [.nilFunc] := zeroT_mk (z := .nilFunc) (by kernel_rfl) rfl
instance : RowT Try.prog 69 3 := rowT_mk (by kernel_rfl) (by kernel_rfl)
instance : ZeroT Try.prog 69 ([.int .i64 0, .int .i64 0, .int .i64 0]) := zeroT_mk (z := .agg ⟨[.int .i64 0, .int .i64 0, .int .i64 0]⟩) (by kernel_rfl) rfl
instance : CellT Try.prog 70 := cellT_mk (by kernel_rfl) (by kernel_rfl)
instance : ZeroT Try.prog 70 [.nilFunc] := zeroT_mk (z := .nilFunc) (by kernel_rfl) rfl
instance : CellT Try.prog 72 := cellT_mk (by kernel_rfl) (by kernel_rfl)
instance : ZeroT Try.prog 72 [.nilFunc] := zeroT_mk (z := .nilFunc) (by kernel_rfl) rfl
instance : CellT Try.prog 73 := cellT_mk (by kernel_rfl) (by kernel_rfl)
instance : ZeroT Try.prog 73 [.nilFunc] := zeroT_mk (z := .nilFunc) (by kernel_rfl) rfl
instance : CellT Try.prog 75 := cellT_mk (by kernel_rfl) (by kernel_rfl)
instance : ZeroT Try.prog 75 [.nilFunc] := zeroT_mk (z := .nilFunc) (by kernel_rfl) rfl
instance : CellT Try.prog 76 := cellT_mk (by kernel_rfl) (by kernel_rfl)
instance : ZeroT Try.prog 76 [.nilFunc] := zeroT_mk (z := .nilFunc) (by kernel_rfl) rfl
instance : RowT Try.prog 77 7 := rowT_mk (by kernel_rfl) (by kernel_rfl)
instance : ZeroT Try.prog 77 ([.int .i64 0, .int .i64 0, .int .i64 0, .int .i64 0, .int .i64 0, .int .i64 0, .bool false]) := zeroT_mk (z := .agg ⟨[.int .i64 0, .int .i64 0, .int .i64 0, .int .i64 0, .int .i64 0, .int .i64 0, .bool false]⟩) (by kernel_rfl) rfl
instance : RowT Try.prog 78 7 := rowT_mk (by kernel_rfl) (by kernel_rfl)
instance : ZeroT Try.prog 78 ([.int .i64 0, .int .i64 0, .int .i64 0, .int .i64 0, .int .i64 0, .int .i64 0, .bool false]) := zeroT_mk (z := .agg ⟨[.int .i64 0, .int .i64 0, .int .i64 0, .int .i64 0, .int .i64 0, .int .i64 0, .bool false]⟩) (by kernel_rfl) rfl
instance : CellT Try.prog 79 := cellT_mk (by kernel_rfl) (by kernel_rfl)
instance : ZeroT Try.prog 79 [.nilFunc] := zeroT_mk (z := .nilFunc) (by kernel_rfl) rfl
instance : CellT Try.prog 80 := cellT_mk (by kernel_rfl) (by kernel_rfl)
instance : ZeroT Try.prog 80 [.int .u16 0] := zeroT_mk (z := .int .u16 0) (by kernel_rfl) rfl
instance : CellT Try.prog 81 := cellT_mk (by kernel_rfl) (by kernel_rfl)
instance : ZeroT Try.prog 81 [.int .u32 0] := zeroT_mk (z := .int .u32 0) (by kernel_rfl) rfl
instance : RowT Try.prog 82 2 := rowT_mk (by kernel_rfl) (by kernel_rfl)
instance : ZeroT Try.prog 82 ([.int .u16 0, .int .u32 0]) := zeroT_mk (z := .agg ⟨[.int .u16 0, .int .u32 0]⟩) (by kernel_rfl) rfl
instance : RowT Try.prog 83 2 := rowT_mk (by kernel_rfl) (by kernel_rfl)
instance : ZeroT Try.prog 83 ([.int .u16 0, .int .u32 0]) := zeroT_mk (z := .agg ⟨[.int .u16 0, .int .u32 0]⟩) (by kernel_rfl) rfl
instance : CellT Try.prog 84 := cellT_mk (by kernel_rfl) (by kernel_rfl)
instance : ZeroT Try.prog 84 [.int .u64 0] := zeroT_mk (z := .int .u64 0) (by kernel_rfl) rfl
instance : CellT Try.prog 85 := cellT_mk (by kernel_rfl) (by kernel_rfl)
instance : ZeroT Try.prog 85 [.nilFunc] := zeroT_mk (z := .nilFunc) (by kernel_rfl) rfl
instance : CellT Try.prog 86 := cellT_mk (by kernel_rfl) (by kernel_rfl)
instance : ZeroT Try.prog 86 [.map none] := zeroT_mk (z := .map none) (by kernel_rfl) rfl
instance : MpT Try.prog 86 3 92 := mpT_mk (by kernel_rfl) (by kernel_rfl)
instance : CellT Try.prog 87 := cellT_mk (by kernel_rfl) (by kernel_rfl)
instance : ZeroT Try.prog 87 [.slice none 0 0] := zeroT_mk (z := .slice none 0 0) (by kernel_rfl) rfl
instance : SlT Try.prog 87 94 65 72 (([.int .i64 0] ++ List.replicate 64 (.int .u8 0))) := slT_mk (zv := .agg ⟨([.int .i64 0] ++ List.replicate 64 (.int .u8 0))⟩) (by kernel_rfl) (by kernel_rfl) rfl (by kernel_rfl)
instance : RowT Try.prog 88 6 := rowT_mk (by kernel_rfl) (by kernel_rfl)
instance : ZeroT Try.prog 88 ([.int .i64 0, .map none, .slice none 0 0, .int .i64 0, .bool false, .int .i64 0]) := zeroT_mk (z := .agg ⟨[.int .i64 0, .map none, .slice none 0 0, .int .i64 0, .bool false, .int .i64 0]⟩) (by kernel_rfl) rfl
instance : RowT Try.prog 89 6 := rowT_mk (by kernel_rfl) (by kernel_rfl)
instance : ZeroT Try.prog 89 ([.int .i64 0, .map none, .slice none 0 0, .int .i64 0, .bool false, .int .i64 0]) := zeroT_mk (z := .agg ⟨[.int .i64 0, .map none, .slice none 0 0, .int .i64 0, .bool false, .int .i64 0]⟩) (by kernel_rfl) rfl
instance : CellT Try.prog 90 := cellT_mk (by kernel_rfl) (by kernel_rfl)
instance : ZeroT Try.prog 90 [.nilFunc] := zeroT_mk (z := .nilFunc) (by kernel_rfl) rfl
instance : RowT Try.prog 91 64 := rowT_mk (by kernel_rfl) (by kernel_rfl)
instance : ZeroT Try.prog 91 (List.replicate 64 (.int .u8 0)) := zeroT_mk (z := .agg ⟨List.replicate 64 (.int .u8 0)⟩) (by kernel_rfl) rfl
instance : ArT Try.prog 91 64 5 1 := arT_mk (by kernel_rfl) (by kernel_rfl)
instance : RowT Try.prog 92 64 := rowT_mk (by kernel_rfl) (by kernel_rfl)
instance : ZeroT Try.prog 92 (List.replicate 64 (.int .u8 0)) := zeroT_mk (z := .agg ⟨List.replicate 64 (.int .u8 0)⟩) (by kernel_rfl) rfl
instance : ArT Try.prog 92 64 5 1 := arT_mk (by kernel_rfl) (by kernel_rfl)
instance : RowT Try.prog 93 65 := rowT_mk (by kernel_rfl) (by kernel_rfl)
instance : ZeroT Try.prog 93 (([.int .i64 0] ++ List.replicate 64 (.int .u8 0))) := zeroT_mk (z := .agg ⟨([.int .i64 0] ++ List.replicate 64 (.int .u8 0))⟩) (by kernel_rfl) rfl
instance : RowT Try.prog 94 65 := rowT_mk (by kernel_rfl) (by kernel_rfl)
instance : ZeroT Try.prog 94 (([.int .i64 0] ++ List.replicate 64 (.int .u8 0))) := zeroT_mk (z := .agg ⟨([.int .i64 0] ++ List.replicate 64 (.int .u8 0))⟩) (by kernel_rfl) rfl
instance : RowT Try.prog 95 2 := rowT_mk (by kernel_rfl) (by kernel_rfl)
instance : ZeroT Try.prog 95 ([.int .i64 0, .slice none 0 0]) := zeroT_mk (z := .agg ⟨[.int .i64 0, .slice none 0 0]⟩) (by kernel_rfl) rfl
instance : RowT Try.prog 96 2 := rowT_mk (by kernel_rfl) (by kernel_rfl)
instance : ZeroT Try.prog 96 ([.int .i64 0, .slice none 0 0]) := zeroT_mk (z := .agg ⟨[.int .i64 0, .slice none 0 0]⟩) (by kernel_rfl) rfl
instance : CellT Try.prog 98 := cellT_mk (by kernel_rfl) (by kernel_rfl)
instance : ZeroT Try.prog 98 [.nilFunc] := zeroT_mk (z := .nilFunc) (by kernel_rfl) rfl
instance : CellT Try.prog 99 := cellT_mk (by kernel_rfl) (by kernel_rfl)
instance : ZeroT Try.prog 99 [.nilFunc] := zeroT_mk (z := .nilFunc) (by kernel_rfl) rfl
instance : CellT Try.prog 100 := cellT_mk (by kernel_rfl) (by kernel_rfl)
instance : ZeroT Try.prog 100 [.nilFunc] := zeroT_mk (z := .nilFunc) (by kernel_rfl) rfl
instance : CellT Try.prog 101 := cellT_mk (by kernel_rfl) (by kernel_rfl)
instance : ZeroT Try.prog 101 [.int .u64 0] := zeroT_mk (z := .int .u64 0) (by kernel_rfl) rfl
instance : CellT Try.prog 102 := cellT_mk (by kernel_rfl) (by kernel_rfl)
instance : ZeroT Try.prog 102 [.nilFunc] := zeroT_mk (z := .nilFunc) (by kernel_rfl) rfl
instance : CellT Try.prog 103 := cellT_mk (by kernel_rfl) (by kernel_rfl)
instance : ZeroT Try.prog 103 [.nilFunc] := zeroT_mk (z := .nilFunc) (by kernel_rfl) rfl
instance : CellT Try.prog 104 := cellT_mk (by kernel_rfl) (by kernel_rfl)
instance : ZeroT Try.prog 104 [.nilFunc] := zeroT_mk (z := .nilFunc) (by kernel_rfl) rfl
instance : CellT Try.prog 105 := cellT_mk (by kernel_rfl) (by kernel_rfl)
instance : ZeroT Try.prog 105 [.pointer none] := zeroT_mk (z := .pointer none) (by kernel_rfl) rfl
instance : CellT Try.prog 106 := cellT_mk (by kernel_rfl) (by kernel_rfl)
instance : ZeroT Try.prog 106 [.nilFunc] := zeroT_mk (z := .nilFunc) (by kernel_rfl) rfl
instance : CellT Try.prog 107 := cellT_mk (by kernel_rfl) (by kernel_rfl)
instance : ZeroT Try.prog 107 [.nilFunc] := zeroT_mk (z := .nilFunc) (by kernel_rfl) rfl
instance : CellT Try.prog 108 := cellT_mk (by kernel_rfl) (by kernel_rfl)
instance : ZeroT Try.prog 108 [.slice none 0 0] := zeroT_mk (z := .slice none 0 0) (by kernel_rfl) rfl
instance : SlT Try.prog 108 110 4 32 ([.int .i64 0, .int .i64 0, .int .i64 0, .int .i64 0]) := slT_mk (zv := .agg ⟨[.int .i64 0, .int .i64 0, .int .i64 0, .int .i64 0]⟩) (by kernel_rfl) (by kernel_rfl) rfl (by kernel_rfl)
instance : RowT Try.prog 109 4 := rowT_mk (by kernel_rfl) (by kernel_rfl)
instance : ZeroT Try.prog 109 ([.int .i64 0, .int .i64 0, .int .i64 0, .int .i64 0]) := zeroT_mk (z := .agg ⟨[.int .i64 0, .int .i64 0, .int .i64 0, .int .i64 0]⟩) (by kernel_rfl) rfl
instance : RowT Try.prog 110 4 := rowT_mk (by kernel_rfl) (by kernel_rfl)
instance : ZeroT Try.prog 110 ([.int .i64 0, .int .i64 0, .int .i64 0, .int .i64 0]) := zeroT_mk (z := .agg ⟨[.int .i64 0, .int .i64 0, .int .i64 0, .int .i64 0]⟩) (by kernel_rfl) rfl
instance : RowT Try.prog 111 8 := rowT_mk (by kernel_rfl) (by kernel_rfl)
instance : ZeroT Try.prog 111 ([.int .u8 0, .int .u8 0, .int .u8 0, .int .u8 0, .int .u8 0, .int .u8 0, .int .u8 0, .int .u8 0]) := zeroT_mk (z := .agg ⟨[.int .u8 0, .int .u8 0, .int .u8 0, .int .u8 0, .int .u8 0, .int .u8 0, .int .u8 0, .int .u8 0]⟩) (by kernel_rfl) rfl
instance : ArT Try.prog 111 8 5 1 := arT_mk (by kernel_rfl) (by kernel_rfl)
instance : CellT Try.prog 112 := cellT_mk (by kernel_rfl) (by kernel_rfl)
instance : ZeroT Try.prog 112 [.nilFunc] := zeroT_mk (z := .nilFunc) (by kernel_rfl) rfl
instance : CellT Try.prog 113 := cellT_mk (by kernel_rfl) (by kernel_rfl)
instance : ZeroT Try.prog 113 [.nilFunc] := zeroT_mk (z := .nilFunc) (by kernel_rfl) rfl
instance : RowT Try.prog 114 2 := rowT_mk (by kernel_rfl) (by kernel_rfl)
instance : ZeroT Try.prog 114 ([.slice none 0 0, .int .i64 0]) := zeroT_mk (z := .agg ⟨[.slice none 0 0, .int .i64 0]⟩) (by kernel_rfl) rfl
instance : RowT Try.prog 115 2 := rowT_mk (by kernel_rfl) (by kernel_rfl)
instance : ZeroT Try.prog 115 ([.slice none 0 0, .int .i64 0]) := zeroT_mk (z := .agg ⟨[.slice none 0 0, .int .i64 0]⟩) (by kernel_rfl) rfl
instance : CellT Try.prog 116 := cellT_mk (by kernel_rfl) (by kernel_rfl)
instance : ZeroT Try.prog 116 [.nilFunc] := zeroT_mk (z := .nilFunc) (by kernel_rfl) rfl
instance : CellT Try.prog 117 := cellT_mk (by kernel_rfl) (by kernel_rfl)
instance : ZeroT Try.prog 117 [.nilFunc] := zeroT_mk (z := .nilFunc) (by kernel_rfl) rfl
instance : CellT Try.prog 118 := cellT_mk (by kernel_rfl) (by kernel_rfl)
instance : ZeroT Try.prog 118 [.nilFunc] := zeroT_mk (z := .nilFunc) (by kernel_rfl) rfl
instance : RowT Try.prog 119 4 := rowT_mk (by kernel_rfl) (by kernel_rfl)
instance : ZeroT Try.prog 119 ([.pointer none, .pointer none, .pointer none, .string ByteArray.empty]) := zeroT_mk (z := .agg ⟨[.pointer none, .pointer none, .pointer none, .string ByteArray.empty]⟩) (by kernel_rfl) rfl
instance : RowT Try.prog 120 4 := rowT_mk (by kernel_rfl) (by kernel_rfl)
instance : ZeroT Try.prog 120 ([.pointer none, .pointer none, .pointer none, .string ByteArray.empty]) := zeroT_mk (z := .agg ⟨[.pointer none, .pointer none, .pointer none, .string ByteArray.empty]⟩) (by kernel_rfl) rfl
instance : CellT Try.prog 124 := cellT_mk (by kernel_rfl) (by kernel_rfl)
instance : ZeroT Try.prog 124 [.int .u8 0] := zeroT_mk (z := .int .u8 0) (by kernel_rfl) rfl
instance : CellT Try.prog 125 := cellT_mk (by kernel_rfl) (by kernel_rfl)
instance : ZeroT Try.prog 125 [.int .u8 0] := zeroT_mk (z := .int .u8 0) (by kernel_rfl) rfl
instance : CellT Try.prog 126 := cellT_mk (by kernel_rfl) (by kernel_rfl)
instance : ZeroT Try.prog 126 [.nilFunc] := zeroT_mk (z := .nilFunc) (by kernel_rfl) rfl
instance : CellT Try.prog 127 := cellT_mk (by kernel_rfl) (by kernel_rfl)
instance : ZeroT Try.prog 127 [.pointer none] := zeroT_mk (z := .pointer none) (by kernel_rfl) rfl
instance : CellT Try.prog 128 := cellT_mk (by kernel_rfl) (by kernel_rfl)
instance : ZeroT Try.prog 128 [.int .i32 0] := zeroT_mk (z := .int .i32 0) (by kernel_rfl) rfl
instance : CellT Try.prog 129 := cellT_mk (by kernel_rfl) (by kernel_rfl)
instance : ZeroT Try.prog 129 [.int .i32 0] := zeroT_mk (z := .int .i32 0) (by kernel_rfl) rfl
instance : RowT Try.prog 130 11 := rowT_mk (by kernel_rfl) (by kernel_rfl)
instance : ZeroT Try.prog 130 ([.int .u64 0, .int .u64 0, .int .u32 0, .int .u8 0, .int .u8 0, .int .u8 0, .int .u8 0, .nilFunc, .pointer none, .int .i32 0, .int .i32 0]) := zeroT_mk (z := .agg ⟨[.int .u64 0, .int .u64 0, .int .u32 0, .int .u8 0, .int .u8 0, .int .u8 0, .int .u8 0, .nilFunc, .pointer none, .int .i32 0, .int .i32 0]⟩) (by kernel_rfl) rfl
instance : RowT Try.prog 131 11 := rowT_mk (by kernel_rfl) (by kernel_rfl)
instance : ZeroT Try.prog 131 ([.int .u64 0, .int .u64 0, .int .u32 0, .int .u8 0, .int .u8 0, .int .u8 0, .int .u8 0, .nilFunc, .pointer none, .int .i32 0, .int .i32 0]) := zeroT_mk (z := .agg ⟨[.int .u64 0, .int .u64 0, .int .u32 0, .int .u8 0, .int .u8 0, .int .u8 0, .int .u8 0, .nilFunc, .pointer none, .int .i32 0, .int .i32 0]⟩) (by kernel_rfl) rfl
end Go.Proofs.Ytehpdpdmjflddaa
