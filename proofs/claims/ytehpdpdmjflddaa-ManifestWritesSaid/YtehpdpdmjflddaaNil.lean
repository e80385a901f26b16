/-
  The disk's calls at a disk that isn't there; the walk of DiskNil.
-/
import Derived.Test.YtehpdpdmjflddaaDiskA
namespace Go.Proofs.Ytehpdpdmjflddaa
open Go.RowKit

abbrev nilP : Value := .pointer none
def Same (w : World) (v : Value) (e : Ending) (w' : World) : Prop := e = .returned v ∧ w = w'
theorem arm_nil (i : Int) (w : World) : Calls Try.prog 19 #[nilP, .int .i64 i] w (Same w (.tuple #[])) := by
  go_enter Try.func19, Try.ntmps19
  go_wp2
  go_end0
  exact ⟨rfl, rfl⟩
theorem crash_nil (v : Value) (w : World) : Calls Try.prog 18 #[nilP, v] w (Same w (.tuple #[])) := by
  go_enter Try.func18, Try.ntmps18
  go_wp2
  go_end0
  exact ⟨rfl, rfl⟩
theorem ask_nil (i : Int) (w : World) : Calls Try.prog 45 #[nilP, .int .i64 i] w (Same w (.int .i64 1)) := by
  go_enter Try.func45, Try.ntmps45
  go_wp2
  go_ret
  exact ⟨rfl, rfl⟩
theorem read_nil (i : Int) (w : World) : Calls Try.prog 17 #[nilP, .int .i64 i] w (Same w (.tuple #[.slice none 0 0, .int .i64 1])) := by
  have hask := ask_nil i w
  go_enter Try.func17, Try.ntmps17
  go_wp2_with (go_at_call 45; refine hask.mono ?_; rintro e w' ⟨rfl, rfl⟩)
  go_ret2
  exact ⟨rfl, rfl⟩
theorem write_nil (i : Int) (v : Value) (w : World) : Calls Try.prog 15 #[nilP, .int .i64 i, v] w (Same w (.int .i64 1)) := by
  have hask := ask_nil i w
  go_enter Try.func15, Try.ntmps15
  go_wp2_with (go_at_call 45; refine hask.mono ?_; rintro e w' ⟨rfl, rfl⟩)
  go_ret
  exact ⟨rfl, rfl⟩
theorem flush_nil (w : World) : Calls Try.prog 16 #[nilP] w (Same w (.int .i64 1)) := by
  have hask := ask_nil 0 w
  go_enter Try.func16, Try.ntmps16
  go_wp2_with (go_at_call 45; refine hask.mono ?_; rintro e w' ⟨rfl, rfl⟩)
  go_ret
  exact ⟨rfl, rfl⟩
theorem len_nil (w : World) : Calls Try.prog 26 #[nilP] w (Same w (.int .i64 0)) := by
  go_enter Try.func26, Try.ntmps26
  go_wp2
  go_ret
  exact ⟨rfl, rfl⟩
theorem pending_nil (w : World) : Calls Try.prog 22 #[nilP] w (Same w (.int .i64 0)) := by
  go_enter Try.func22, Try.ntmps22
  go_wp2
  go_ret
  exact ⟨rfl, rfl⟩
theorem ops_nil (w : World) : Calls Try.prog 21 #[nilP] w (Same w (.int .i64 0)) := by
  go_enter Try.func21, Try.ntmps21
  go_wp2
  go_ret
  exact ⟨rfl, rfl⟩
theorem down_nil (w : World) : Calls Try.prog 20 #[nilP] w (Same w (.bool false)) := by
  go_enter Try.func20, Try.ntmps20
  go_wp2
  go_ret
  exact ⟨rfl, rfl⟩
theorem image_nil (w : World) : Calls Try.prog 24 #[nilP] w (Same w (.slice none 0 0)) := by
  have hl := len_nil w
  go_enter Try.func24, Try.ntmps24
  go_wp2_with (go_at_call 26; refine hl.mono ?_; rintro e w' ⟨rfl, rfl⟩)
  go_loopw [8, 3] (fun i s wr => i = .int .i64 0 ∧ s = .slice none 0 0 ∧ w = wr) (fun _ _ _ => 0)
  case atStart => exact ⟨rfl, rfl, rfl⟩
  case round =>
    obtain ⟨rfl, rfl, rfl⟩ := hrel
    go_wp2
    go_ret
    exact ⟨rfl, rfl⟩
set_option maxRecDepth 100000 in
set_option maxHeartbeats 1000000 in
theorem nil_spec (i : Int) (vb vl : Value) (R : SP) (w : World) (h : Sat w R) :
    Calls Try.prog 8 #[.int .i64 i, vb, vl] w (Done w (.bool true) R) := by
  have h1 := arm_nil i w
  have h2 := crash_nil vl w
  have h3 := read_nil i w
  have h4 := alive_spec R w h
  have h5 := write_nil i vb
  have h6 := flush_nil
  have h7 := len_nil
  have h8 := pending_nil
  have h9 := ops_nil
  have h10 := down_nil
  have h11 := image_nil
  go_enter Try.func8, Try.ntmps8
  go_wp2_with (first | (go_at_call 19; refine h1.mono ?_; rintro e w' ⟨rfl, rfl⟩) | (go_at_call 18; refine h2.mono ?_; rintro e w' ⟨rfl, rfl⟩) | (go_at_call 17; refine h3.mono ?_; rintro e w' ⟨rfl, rfl⟩) |
    (go_at_call 13; refine h4.mono ?_; rintro e w1 ⟨rfl, hS, hF⟩; have k5 := h5 w1; have k6 := h6 w1; have k7 := h7 w1; have k8 := h8 w1; have k9 := h9 w1; have k10 := h10 w1; have k11 := h11 w1; clear h1 h2 h3 h4 h5 h6 h7 h8 h9 h10 h11) |
    (go_at_call 15; refine k5.mono ?_; rintro e w' ⟨rfl, rfl⟩) | (go_at_call 16; refine k6.mono ?_; rintro e w' ⟨rfl, rfl⟩) | (go_at_call 26; refine k7.mono ?_; rintro e w' ⟨rfl, rfl⟩) |
    (go_at_call 22; refine k8.mono ?_; rintro e w' ⟨rfl, rfl⟩) | (go_at_call 21; refine k9.mono ?_; rintro e w' ⟨rfl, rfl⟩) | (go_at_call 20; refine k10.mono ?_; rintro e w' ⟨rfl, rfl⟩) | (go_at_call 24; refine k11.mono ?_; rintro e w' ⟨rfl, rfl⟩))
  go_ret
  exact Done.mk rfl hS hF
end Go.Proofs.Ytehpdpdmjflddaa
