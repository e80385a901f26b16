/-
  The document's example of the disk.
-/
import Derived.Test.YtehpdpdmjflddaaDiskN
import Derived.Lib.SmallJoins
namespace Go.Proofs.Ytehpdpdmjflddaa
open Go.RowKit

theorem rdOwn {g n : Nat} {vs : List Value} {e : TypeId} {f : Nat × Nat} {R : SP} (hn : n ≤ vs.length) (hm : n ≤ maxLen) : ∀ w, Sat w (own g (.cells vs.toArray e f) ^ R) → RdC w (.slice (some ⟨g, 0, none⟩) n n) n vs :=
  fun w h => ⟨_, _, rfl, Nat.le_refl _, hm, fun _ => ⟨g, 0, rfl, fun t u hu => by
    rw [h.cell, Nat.zero_add]
    simpa using hu⟩⟩
theorem Sat.rdBytes {w : World} {s : Value} {bs : List UInt8} {R : SP} (h : Sat w (bytesS s bs ^ R)) : Rd w s bs := by
  unfold bytesS at h
  simp only [ex_star, sat_ex] at h
  obtain ⟨e, h⟩ := h
  exact h.rdRow
theorem Rd.opens {w : World} {s : Value} {bs : List UInt8} (h : Rd w s bs) (hn : 0 < bs.length) : ∃ g off c, s = .slice (some ⟨g, off, none⟩) bs.length c ∧ ∀ j u, bs[j]? = some u → w.cell? ⟨g, off + j, none⟩ = some (.int .u8 u.toNat) := by
  obtain ⟨a, c, rfl, _, _, h1⟩ := h
  obtain ⟨g, off, rfl, h2⟩ := h1 hn
  exact ⟨g, off, c, rfl, fun j u hu => h2 j (u8v u) (by simp [hu])⟩
theorem Rd.open64 {w : World} {s : Value} {bs : List UInt8} (h : Rd w s bs) (hn : bs.length = 64) : ∃ g off c, s = .slice (some ⟨g, off, none⟩) 64 c := by
  obtain ⟨g, off, c, h, _⟩ := h.opens (by omega)
  rw [hn] at h
  exact ⟨g, off, c, h⟩
theorem Sat.byteAt {w : World} {g off n c j : Nat} {u : UInt8} {bs : List UInt8} {R : SP} (h : Sat w (bytesS (.slice (some ⟨g, off, none⟩) n c) bs ^ R)) (hu : bs[j]? = some u) : w.cell? ⟨g, off + j, none⟩ = some (.int .u8 u.toNat) := by
  have hj := (List.getElem?_eq_some_iff.1 hu).1
  obtain ⟨g', off', c', e, h1⟩ := h.rdBytes.opens (by omega)
  cases e
  exact h1 j u hu
theorem read_at (p : Nat) (D : DD) (i : Int) (R : SP) (w : World) (h : Sat w (diskS p D ^ R)) (hw : D.wait.length < 1000000000) {L : List UInt8} {c : Int} (hr : D.read i = (L, c)) :
    Calls Try.prog 17 #[ptr p, .int .i64 i] w fun e w' => ∃ s, e = .returned (.tuple #[s, .int .i64 c]) ∧ Sat w' (bytesS s L ^ diskS p D ^ R) ∧ Flow w w' := by
  refine (read_spec p D i R w h hw).mono ?_
  rintro e w' ⟨s, h1, h2, h3⟩
  rw [hr] at h1 h2
  exact ⟨s, h1, h2, h3⟩
set_option maxRecDepth 100000 in
set_option maxHeartbeats 2000000 in
theorem alive_spec (R : SP) (w : World) (h : Sat w R) : Calls Try.prog 13 #[] w (Done w (.bool true) R) := by
  have hnew := new_spec 8 (by decide) (by decide) R w h
  obtain ⟨D1, hD1⟩ : ∃ D1 : DD, D1 = { DD.new 8 with wait := [(3, sec [97, 98])], ops := 1 } := ⟨_, rfl⟩
  have e1 : (DD.new 8).write 3 [97, 98] = (D1, 0) := by rw [hD1]; simp [DD.write, DD.ask, DD.new, DD.done]
  have l1 : D1.wait.length = 1 := by rw [hD1]; rfl
  obtain ⟨L, r2, hL, hL0, hL1⟩ : ∃ L : List UInt8, (D1.crash [1]).read 3 = (L, 0) ∧ L.length = 64 ∧ L[0]? = some 97 ∧ L[1]? = some 0 := ⟨97 :: zeros 63, by rw [hD1]; decide, by decide, rfl, rfl⟩
  have l2 : (D1.crash [1]).wait.length = 0 := rfl
  obtain ⟨D2, hD2⟩ : ∃ D2 : DD, D2 = D1.crash [1] := ⟨_, rfl⟩
  rw [← hD2] at r2 l2
  have hD2' := Lib.hid hD2
  clear hD2 hD1
  go_enter Try.func13, Try.ntmps13
  go_wp2_with (go_at_call 14; refine hnew.mono ?_; rintro e w1 ⟨p, rfl, hS1, hF1⟩)
  have hcv := Joins.run_convert_bytes_const_at (P := Try.prog) w1 22 5 #[.int .u8 97, .int .u8 98] 2 2 w1.heap.size rfl Try.underlying22 Try.underlying5
  obtain ⟨w2, hw2⟩ : ∃ w2, w2 = w1.alloc (.cells #[.int .u8 97, .int .u8 98] 5 (2, 3)) := ⟨_, rfl⟩
  obtain ⟨g2, hg2⟩ : ∃ g2, g2 = w1.heap.size := ⟨_, rfl⟩
  have hS2 : Sat w2 (own g2 (.cells #[.int .u8 97, .int .u8 98] 5 (2, 3)) ^ diskS p (DD.new 8) ^ R) := by
    rw [hw2, hg2]
    exact hS1.alloc _
  have hF2 : Flow w w2 := by
    rw [hw2]
    exact hF1.alloc _
  have hwr := write_spec p (DD.new 8) 3 (.slice (some ⟨g2, 0, none⟩) 2 2) [97, 98] (own g2 (.cells #[.int .u8 97, .int .u8 98] 5 (2, 3)) ^ R) w2 (hS2.as (by ac_rfl)) (rdOwn (vs := [.int .u8 97, .int .u8 98]) (by decide) (by decide)) (by decide) (by decide)
  rw [e1] at hwr
  rw [hw2, hg2] at hwr
  go_wp2_with (first | (go_at_call 15; refine hwr.mono ?_; rintro e w3 ⟨rfl, hS3, hF3⟩; have hpe := pending_spec p D1 _ w3 hS3; rw [l1] at hpe) | (go_at_call 22; refine hpe.mono ?_; rintro e w' ⟨rfl, rfl⟩))
  have hcr := crash_spec p D1 (.slice (some ⟨w3.heap.size, 0, none⟩) 1 1) [1] (own w3.heap.size (.cells #[.int .i64 1] 3 (0, 0)) ^ own g2 (.cells #[.int .u8 97, .int .u8 98] 5 (2, 3)) ^ R) _ ((hS3.alloc (.cells #[.int .i64 1] 3 (0, 0))).as (by rw [hg2]; ac_rfl)) (rdOwn (vs := [.int .i64 1]) (by decide) (by decide)) (by rw [l1]; decide)
  rw [← hD2'.out] at hcr
  refine hcr.mono ?_
  rintro e w4 ⟨rfl, hS4, hF4⟩
  have hrd := read_at p D2 3 _ w4 hS4 (by rw [l2]; decide) r2
  go_wp2_with (go_at_call 17; refine hrd.mono ?_; rintro e w5 ⟨s, rfl, hS5, hF5⟩; obtain ⟨g5, o5, c5, rfl, hb5⟩ := hS5.rdBytes.opens (by omega); have hb0 : w5.cell? ⟨g5, o5, none⟩ = some (.int .u8 97) := hb5 0 _ hL0; have hb1 : w5.cell? ⟨g5, o5 + 1, none⟩ = some (.int .u8 0) := hb5 1 _ hL1; clear hb5)
  go_ret
  rw [hw2] at hF2
  exact Done.mk rfl hS5.right.right.right.right ((((hF2.trans hF3).alloc _).trans hF4).trans hF5)
end Go.Proofs.Ytehpdpdmjflddaa
