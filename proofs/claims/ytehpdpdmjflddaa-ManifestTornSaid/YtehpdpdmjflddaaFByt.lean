/-
  The readings of some functions of the program, printed by gen.py off the cut and checked by the kernel.
-/
import Derived.Test.YtehpdpdmjflddaaGenT
import Derived.Test.YtehpdpdmjflddaaProg
namespace Go.Proofs.Ytehpdpdmjflddaa
open Go.RowKit

set_option maxRecDepth 100000 in
set_option linter.unusedVariables false in
def F.bytes_Equal (y0a : Option Addr) (y0n : Nat) (y0c : Nat) (y1a : Option Addr) (y1n : Nat) (y1c : Nat) (K : Value → WP) : WP :=
 sem Try.prog (convert 22 9 (.slice y0a y0n y0c)) fun v1 =>
 asStr v1 fun t2 =>
 sem Try.prog (convert 22 9 (.slice y1a y1n y1c)) fun v3 =>
 asStr v3 fun t4 =>
 K (.bool (t2.toList == t4.toList))
theorem F.bytes_Equal_eq (y0a : Option Addr) (y0n : Nat) (y0c : Nat) (y1a : Option Addr) (y1n : Nat) (y1c : Nat) (K : Value → WP) : genF Try.prog Try.f56 ⟨[], [], [], [], [], []⟩ [.slice y0a y0n y0c, .slice y1a y1n y1c] K = F.bytes_Equal y0a y0n y0c y1a y1n y1c K := by kernel_rfl
theorem F.bytes_Equal_ok (y0a : Option Addr) (y0n : Nat) (y0c : Nat) (y1a : Option Addr) (y1n : Nat) (y1c : Nat) (K : Value → WP) (w : World) (h : F.bytes_Equal y0a y0n y0c y1a y1n y1c K w) : callW Try.prog 56 #[.slice y0a y0n y0c, .slice y1a y1n y1c] K w :=
  genF_use Try.func56 (F.bytes_Equal_eq y0a y0n y0c y1a y1n y1c K) h
end Go.Proofs.Ytehpdpdmjflddaa
