/-
  Bytes and whole numbers as elements; the reference's Copy.
-/
import Derived.Test.YtehpdpdmjflddaaRow
import Derived.Test.YtehpdpdmjflddaaTy
import Derived.Test.YtehpdpdmjflddaaFR01
namespace Go.Proofs.Ytehpdpdmjflddaa
open Go.RowKit

@[reducible] def byteE : El UInt8 := ⟨5, 1, fun b => [u8v b], fun _ => rfl, fun b u h => by simp at h; subst h; rfl, by decide⟩
@[reducible] def intE : El Int := ⟨3, 1, fun b => [.int .i64 b], fun _ => rfl, fun b u h => by simp at h; subst h; rfl, by decide⟩
theorem copy_spec {R : SP} {v : Value} {bs : List UInt8} (hb : Rds byteE R v bs) (hl : bs.length ≤ 140737488355328) :
    Spec Try.prog 27 #[v] R fun u => ex fun x : Option Addr × Nat => fact (u = .slice x.1 bs.length x.2) ^ row byteE (.slice x.1 bs.length x.2) bs ^ R := by
  refine Spec.mk fun w0 => t_shape hb fun a c hv _ _ => ?_
  subst hv
  refine Tri.use ?_ (F.hayloftref01_Copy_ok a bs.length c _)
  unfold F.hayloftref01_Copy
  refine t_build0 byteE fun g => ?_
  refine rd ?_
  refine t_append hb.right (by simp; omega) (by simp; omega) fun a' c' => ?_
  simp only [List.length_nil, Nat.zero_add, List.nil_append]
  refine rd ?_
  exact t_post fun w h => sat_ex.2 ⟨(a', c'), sat_fact.2 ⟨rfl, h⟩⟩
end Go.Proofs.Ytehpdpdmjflddaa
