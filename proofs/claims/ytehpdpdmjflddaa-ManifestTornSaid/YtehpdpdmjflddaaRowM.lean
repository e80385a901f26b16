/-
  Manifests within a struct, as arguments.
-/
import Derived.Test.YtehpdpdmjflddaaRowS
import Derived.Deep.Strs
namespace Go.Proofs.Ytehpdpdmjflddaa
open Go.ChangeShapes Go.WideShapes Go.ChangeAt Go.RowKit Go.Joins

section
variable {H : Type} {enc : TypeId × Value → H} {w : World}
theorem man_of_trod {fuel : Nat} {c0 c1 c2 : Value} {x : DataW H × List MemPlace} (h : DataW.trod enc Try.prog w 0 (fun _ => true) true fuel 65 [c0, c1, c2] = some x) : ∃ a b c : Int, c0 = .int .i64 a ∧ c1 = .int .i64 b ∧ c2 = .int .i64 c := by
  obtain ⟨y0, y1, y2, n, _, _, h0, h1, h2⟩ := Go.Deep.trod_struct3 Try.underlying65 h
  have e : Try.prog.cellsOf 3 = 1 := by kernel_rfl
  have g0 : DataW.trod enc Try.prog w 0 (fun _ => true) true n 3 [c0] = some y0 := by
    have e0 : ([c0, c1, c2].drop 0).take (Try.prog.cellsOf 3) = [c0] := by rw [e]; rfl
    rw [← e0]
    exact h0
  have g1 : DataW.trod enc Try.prog w 0 (fun _ => true) true n 3 [c1] = some y1 := by
    have e0 : ([c0, c1, c2].drop 1).take (Try.prog.cellsOf 3) = [c1] := by rw [e]; rfl
    rw [← e0]
    exact h1
  have g2 : DataW.trod enc Try.prog w 0 (fun _ => true) true n 3 [c2] = some y2 := by
    have e0 : ([c0, c1, c2].drop 2).take (Try.prog.cellsOf 3) = [c2] := by rw [e]; rfl
    rw [← e0]
    exact h2
  obtain ⟨a, ha, _⟩ := DataW.trod_int Try.underlying3 g0
  obtain ⟨b, hb, _⟩ := DataW.trod_int Try.underlying3 g1
  obtain ⟨c, hc, _⟩ := DataW.trod_int Try.underlying3 g2
  simp only [List.cons.injEq, and_true] at ha hb hc
  exact ⟨a, b, c, ha, hb, hc⟩
theorem torn_of_trod {fuel : Nat} {cs : Array Value} {x : DataW H × List MemPlace} (hsz : cs.size = Try.prog.cellsOf 78) (h : DataW.trod enc Try.prog w 0 (fun _ => true) true fuel 78 (Value.agg cs).cells.toList = some x) :
    ∃ (a b c d e f : Int) (g : Bool), cs = #[.int .i64 a, .int .i64 b, .int .i64 c, .int .i64 d, .int .i64 e, .int .i64 f, .bool g] := by
  have h7 : cs.size = 7 := hsz.trans (by kernel_rfl)
  obtain ⟨l⟩ := cs
  have hl : l.length = 7 := by simpa using h7
  match l, hl with
  | [c0, c1, c2, c3, c4, c5, c6], _ =>
    obtain ⟨y0, y1, y2, n, _, _, h0, h1, h2⟩ := Go.Deep.trod_struct3 Try.underlying78 h
    have em : Try.prog.cellsOf 65 = 3 := by kernel_rfl
    have eb : Try.prog.cellsOf 4 = 1 := by kernel_rfl
    have g0 : DataW.trod enc Try.prog w 0 (fun _ => true) true n 65 [c0, c1, c2] = some y0 := by
      have e0 : ([c0, c1, c2, c3, c4, c5, c6].drop 0).take (Try.prog.cellsOf 65) = [c0, c1, c2] := by rw [em]; rfl
      rw [← e0]
      exact h0
    have g1 : DataW.trod enc Try.prog w 0 (fun _ => true) true n 65 [c3, c4, c5] = some y1 := by
      have e0 : ([c0, c1, c2, c3, c4, c5, c6].drop 3).take (Try.prog.cellsOf 65) = [c3, c4, c5] := by rw [em]; rfl
      rw [← e0]
      exact h1
    have g2 : DataW.trod enc Try.prog w 0 (fun _ => true) true n 4 [c6] = some y2 := by
      have e0 : ([c0, c1, c2, c3, c4, c5, c6].drop 6).take (Try.prog.cellsOf 4) = [c6] := by rw [eb]; rfl
      rw [← e0]
      exact h2
    obtain ⟨a, b, c, rfl, rfl, rfl⟩ := man_of_trod g0
    obtain ⟨d, e, f, rfl, rfl, rfl⟩ := man_of_trod g1
    obtain ⟨g, hg, _⟩ := DataW.trod_bool Try.underlying4 g2
    simp only [List.cons.injEq, and_true] at hg
    subst hg
    exact ⟨a, b, c, d, e, f, g, rfl⟩
end
end Go.Proofs.Ytehpdpdmjflddaa
