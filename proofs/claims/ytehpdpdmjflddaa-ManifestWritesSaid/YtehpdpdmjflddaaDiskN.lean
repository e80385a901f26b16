/-
  The disk's New, and its short calls.
-/
import Derived.Test.YtehpdpdmjflddaaDiskC
import Derived.Carry
namespace Go.Proofs.Ytehpdpdmjflddaa
open Go.RowKit

def DD.new (n : Nat) : DD := { n := n, sure := fun _ => zeros 64, wait := [], armed := 0, down := false, ops := 0 }
theorem newHead {w : World} {m : Nat} {n : Nat} {R : SP} {p : Nat} (hn : n ≤ 65536) (h : Sat w (own p (.cells #[.int .i64 n, .map (some m), .slice none 0 0, .int .i64 0, .bool false, .int .i64 0] 89 (0, 0)) ^ own m (.map #[] 0) ^ R)) : Sat w (diskS p (DD.new n) ^ R) := by
  have hok : (DD.new n).ok := ⟨hn, fun _ => by simp [DD.new, zeros], (fun x hx => nomatch hx), by show 0 < _; decide⟩
  have hnil : pendS (.slice none 0 0) [] = emp := rowS_nil _ _
  have hm : MapOk #[] (DD.new n).sure := ⟨fun x hx => by simp at hx, fun k => by simp [mget, DD.new]⟩
  have h6 : Sat w (headS p m (.slice none 0 0) (DD.new n) ^ own m (.map #[] 0) ^ pendS (.slice none 0 0) [] ^ R) := by
    rw [hnil, emp_star]
    exact h
  exact h6.re R (foldDisk hok hm) (by ac_rfl) rfl
set_option maxHeartbeats 1000000 in
theorem new_spec (n : Nat) (h8 : 8 ≤ n) (hn : n ≤ 65536) (R : SP) (w : World) (h : Sat w R) :
    Calls Try.prog 14 #[.int .i64 n] w fun e w' => ∃ p, Done w (.tuple #[ptr p, .int .i64 0]) (diskS p (DD.new n) ^ R) e w' := by
  have hmm := @run_makeMap Try.prog
  go_enter Try.func14, Try.ntmps14
  go_wp2
  go_ret2
  exact ⟨_, Done.mk rfl (newHead (m := w.heap.size) hn (by simpa using (h.alloc (.map #[] 0)).alloc (.cells #[.int .i64 n, .map (some w.heap.size), .slice none 0 0, .int .i64 0, .bool false, .int .i64 0] 89 (0, 0)))) (((Flow.refl w).alloc _).alloc _)⟩
set_option maxHeartbeats 1000000 in
theorem newNot_spec (n : Int) (hn : n < 8 ∨ 65536 < n) (w : World) :
    Calls Try.prog 14 #[.int .i64 n] w fun e w' => e = .returned (.tuple #[.pointer none, .int .i64 2]) ∧ w = w' := by
  by_cases h1 : n < 8
  · go_enter Try.func14, Try.ntmps14
    go_wp2
    go_ret2
    exact ⟨rfl, rfl⟩
  · have h2 : 65536 < n := by omega
    go_enter Try.func14, Try.ntmps14
    go_wp2
    go_ret2
    exact ⟨rfl, rfl⟩
theorem pending_spec (p : Nat) (D : DD) (R : SP) (w : World) (h : Sat w (diskS p D ^ R)) :
    Calls Try.prog 22 #[ptr p] w fun e w' => e = .returned (.int .i64 D.wait.length) ∧ w = w' := by
  obtain ⟨m, es0, c0, va, vc, ok, hm0, hS0⟩ := h.openDisk
  have hc0 := hS0.cell
  go_enter Try.func22, Try.ntmps22
  go_wp2
  go_ret
  exact ⟨rfl, rfl⟩
theorem len_spec (p : Nat) (D : DD) (R : SP) (w : World) (h : Sat w (diskS p D ^ R)) :
    Calls Try.prog 26 #[ptr p] w fun e w' => e = .returned (.int .i64 D.n) ∧ w = w' := by
  obtain ⟨m, es0, c0, va, vc, ok, hm0, hS0⟩ := h.openDisk
  have hc0 := hS0.cell
  go_enter Try.func26, Try.ntmps26
  go_wp2
  go_ret
  exact ⟨rfl, rfl⟩
theorem ops_spec (p : Nat) (D : DD) (R : SP) (w : World) (h : Sat w (diskS p D ^ R)) :
    Calls Try.prog 21 #[ptr p] w fun e w' => e = .returned (.int .i64 D.ops) ∧ w = w' := by
  obtain ⟨m, es0, c0, va, vc, ok, hm0, hS0⟩ := h.openDisk
  have hc0 := hS0.cell
  go_enter Try.func21, Try.ntmps21
  go_wp2
  go_ret
  exact ⟨rfl, rfl⟩
theorem down_spec (p : Nat) (D : DD) (R : SP) (w : World) (h : Sat w (diskS p D ^ R)) :
    Calls Try.prog 20 #[ptr p] w fun e w' => e = .returned (.bool D.down) ∧ w = w' := by
  obtain ⟨m, es0, c0, va, vc, ok, hm0, hS0⟩ := h.openDisk
  have hc0 := hS0.cell
  go_enter Try.func20, Try.ntmps20
  go_wp2
  go_ret
  exact ⟨rfl, rfl⟩
def DD.arm (D : DD) (k : Int) : DD := if D.down then D else { D with armed := k.toNat }
theorem arm_spec (p : Nat) (D : DD) (k : Int) (hk : k < 9223372036854775808) (R : SP) (w : World) (h : Sat w (diskS p D ^ R)) :
    Calls Try.prog 19 #[ptr p, .int .i64 k] w (Done w (.tuple #[]) (diskS p (D.arm k) ^ R)) := by
  obtain ⟨m, v, ok, hS⟩ := h.disk
  have hcp := hS.cell
  have hfp := hS.free
  unfold DD.arm
  cases hd : D.down
  · rw [hd] at hcp
    have h5 := setOwn 3 (.int .i64 (k.toNat : Nat)) #[.int .i64 D.n, .map (some m), v, .int .i64 (k.toNat : Nat), .bool D.down, .int .i64 D.ops] hS rfl
    have h6 := Sat.toDisk (D := { D with armed := k.toNat }) ⟨ok.n, ok.sure, ok.wait, by show k.toNat < _; omega⟩ h5
    have hmx : max 0 k = (k.toNat : Int) := by omega
    rw [← hmx] at h6
    rw [hd] at h6
    clear h5 hmx
    go_enter Try.func19, Try.ntmps19
    go_wp2_with (refine arm_max rfl rfl rfl rfl ?_)
    go_end0
    exact Done.mk rfl h6 ((Flow.refl w).setCell _ _)
  · rw [hd] at hcp
    have H := Lib.hid h
    clear h
    go_enter Try.func19, Try.ntmps19
    go_wp2
    go_end0
    exact Done.mk rfl H.out (Flow.refl w)
end Go.Proofs.Ytehpdpdmjflddaa
