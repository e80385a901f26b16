/-
  Words of the readings, and how a reading is shown of a world that bears an assertion: one rule an operation.
-/
import Derived.Test.YtehpdpdmjflddaaGenC
import Derived.Test.YtehpdpdmjflddaaRun
import Derived.KernelRfl
namespace Go.Proofs.Ytehpdpdmjflddaa
open Go.RowKit

def letv (x : Int) (f : Int → WP) : WP := f x
def minI (x y : Int) : Int := if y < x then y else x
def maxI (x y : Int) : Int := if y > x then y else x
theorem genF_use {P : Program} {A : Ann} {f : FuncId} {fn : Func} {args : List Value} {K : Value → WP} {w : World} {X : WP} (hf : P.funcs[f]? = some fn) (he : genF P fn A args K = X) (h : X w) : callW P f ⟨args⟩ K w :=
  genF_calls hf (by rw [he]; exact h)
end Go.Proofs.Ytehpdpdmjflddaa
