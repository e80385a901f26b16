/-
  DiskTorn.
-/
import Derived.Test.YtehpdpdmjflddaaDiskA
namespace Go.Proofs.Ytehpdpdmjflddaa
open Go.RowKit

theorem sec_length (bs : List UInt8) : (sec bs).length = 64 := by simp [sec, zeros]
theorem write_ok (D : DD) (i : Nat) (bs : List UInt8) (hd : D.down = false) (hi : i < D.n) (hb : bs.length ≤ 64) (ha : D.armed = 0) : D.write i bs = ({ D with wait := D.wait ++ [(i, sec bs)], armed := 0, ops := D.ops + 1 }, 0) := by
  have h1 : ¬ ((i : Int) < 0 ∨ (D.n : Int) ≤ i) := by omega
  have h2 : ¬ 64 < bs.length := by omega
  simp [DD.write, DD.ask, hd, h1, h2, DD.done, ha]
  omega
theorem torn_law (a : Nat) (ha : a < 32) (old fresh : List UInt8) (k : Int) (ho : old.length ≤ 64) (hf : fresh.length ≤ 64) :
    ∃ D1 D2 D3 : DD, (DD.new 32).write a old = (D1, 0) ∧ D1.flush = (D2, 0) ∧ D2.read a = (sec old, 0) ∧ D2.write a fresh = (D3, 0) ∧ D3.read a = (sec fresh, 0) ∧
      (D3.crash [k]).read a = ((sec fresh).take (clampTo k) ++ (sec old).drop (clampTo k), 0) ∧ D1.wait.length = 1 ∧ D1.ops = 1 ∧ D2.wait.length = 0 ∧ D2.ops = 2 ∧ D3.wait.length = 1 := by
  have h1 : ¬ ((a : Int) < 0 ∨ (32 : Int) ≤ a) := by omega
  refine ⟨⟨32, fun _ => zeros 64, [(a, sec old)], 0, false, 1⟩, ⟨32, commit (fun _ => zeros 64) [(a, sec old)], [], 0, false, 2⟩, ⟨32, commit (fun _ => zeros 64) [(a, sec old)], [(a, sec fresh)], 0, false, 3⟩,
    write_ok _ _ _ rfl (show a < 32 from ha) ho rfl, ?_, ?_, write_ok _ _ _ rfl (show a < 32 from ha) hf rfl, ?_, ?_, rfl, rfl, rfl, rfl, rfl⟩
  · simp [DD.flush, DD.ask, DD.done]
  · simp [DD.read, DD.ask, DD.at, seen, commit, h1]
  · simp [DD.read, DD.ask, DD.at, seen, commit, h1]
  · simp [DD.read, DD.ask, DD.at, seen, commit, h1, DD.crash, tear, tear1]
set_option maxRecDepth 100000 in
set_option maxHeartbeats 2000000 in
theorem torn_spec (n : Int) (hn : 0 ≤ n) (hn2 : n < 256) (vo vf : Value) (old fresh : List UInt8) (k : Int) (R : SP) (w : World) (h : Sat w R) (ho : RdIn R vo old) (hf : RdIn R vf fresh) :
    Calls Try.prog 3 #[.int .u8 n, .agg #[vo, vf, .int .i64 k]] w (Done w (.bool true) R) := by
  obtain ⟨ao, co, rfl⟩ : ∃ a c, vo = .slice a old.length c := by obtain ⟨a, c, h, _⟩ := ho w h; exact ⟨a, c, h⟩
  obtain ⟨af, cf, rfl⟩ : ∃ a c, vf = .slice a fresh.length c := by obtain ⟨a, c, h, _⟩ := hf w h; exact ⟨a, c, h⟩
  obtain ⟨b, w1, hr1, hS1, hF1⟩ := box_sl (P := Try.prog) 24 (.agg #[.slice ao old.length co, .slice af fresh.length cf, .int .i64 k]) h
  have hal := alive_spec _ w1 hS1
  go_enter Try.func3, Try.ntmps3
  go_wp2_with (first | (refine arm_box rfl rfl rfl hr1 ?_) | (go_at_call 13; refine hal.mono ?_; rintro e w2 ⟨rfl, hS2, hF2⟩; have hc2 := hS2.drew.cell))
  refine wp_free (by kernel_rfl) (by kernel_rfl) ?_
  go_wp2
  refine ⟨by rfl, ?_⟩
  have hS2' := hS2.right
  clear hal hr1 hc2 hS1 hS2
  by_cases ho2 : 64 < old.length
  · have ho2' : (old.length : Int) > 64 := by omega
    clear ho2
    go_wp2
    go_ret
    exact Done.mk rfl hS2' ((hF1.trans hF2).drew)
  by_cases hf2 : 64 < fresh.length
  · have hf2' : (fresh.length : Int) > 64 := by omega
    have ho2' : ¬ (old.length : Int) > 64 := by omega
    clear ho2 hf2
    go_wp2
    go_ret
    exact Done.mk rfl hS2' ((hF1.trans hF2).drew)
  have hf2' : ¬ (fresh.length : Int) > 64 := by omega
  have ho2' : ¬ (old.length : Int) > 64 := by omega
  have hnew := new_spec 32 (by decide) (by decide) R w2.drew hS2'.drew
  go_wp2_with (go_at_call 14; refine hnew.mono ?_; rintro e w3 ⟨p, rfl, hS3, hF3⟩)
  obtain ⟨a, ha, ha2⟩ : ∃ a : Nat, n % 32 = (a : Int) ∧ a < 32 := ⟨(n % 32).toNat, by omega, by omega⟩
  rw [ha]
  obtain ⟨D1, D2, D3, e1, e2, e3, e4, e5, e6, l1, o1, l2, o2, l3⟩ := torn_law a ha2 old fresh k (by omega) (by omega)
  have hm1 := write_spec p (DD.new 32) a (.slice ao old.length co) old R w3 hS3 ho (by decide) (by decide)
  rw [e1] at hm1
  clear ha hn hn2 hnew e1 ho2 hf2
  refine hm1.mono ?_
  rintro e w4 ⟨rfl, hS4, hF4⟩
  have hm2 := flush_spec p D1 R w4 hS4 (by rw [o1]; decide) (by rw [l1]; decide)
  rw [e2] at hm2
  clear e2 o1 l1
  go_wp2_with (go_at_call 16; refine hm2.mono ?_; rintro e w5 ⟨rfl, hS5, hF5⟩)
  have hm3 := read_at p D2 a R w5 hS5 (by rw [l2]; decide) e3
  have hd4 : ∀ X : SP, ∀ w6, Sat w6 (diskS p D2 ^ X ^ R) → Calls Try.prog 15 #[ptr p, .int .i64 a, .slice af fresh.length cf] w6 (Done w6 (.int .i64 0) (diskS p D3 ^ X ^ R)) := by
    intro X w6 hS
    have := write_spec p D2 a (.slice af fresh.length cf) fresh (X ^ R) w6 hS (fun w h => hf w h.right) (by rw [o2]; decide) (by rw [l2]; decide)
    rw [e4] at this
    exact this
  clear e3 l2 o2 e4 hm2
  go_wp2_with (go_at_call 17; refine hm3.mono ?_; rintro e w6 ⟨s6, rfl, hS6, hF6⟩)
  obtain ⟨g6, o6, c6, rfl⟩ := hS6.rdBytes.open64 (sec_length _)
  have hm4 := hd4 _ w6 (hS6.as (by ac_rfl))
  clear hd4 hm3
  go_wp2_with (go_at_call 15; refine hm4.mono ?_; rintro e w7 ⟨rfl, hS7, hF7⟩)
  have hm5 := read_at p D3 a _ w7 hS7 (by rw [l3]; decide) e5
  clear hm4 e5
  go_wp2_with (go_at_call 17; refine hm5.mono ?_; rintro e w8 ⟨s8, rfl, hS8, hF8⟩)
  obtain ⟨g8, o8, c8, rfl⟩ := hS8.rdBytes.open64 (sec_length _)
  clear hm5
  have hm6 := crash_spec p D3 (.slice (some ⟨w8.heap.size, 0, none⟩) 1 1) [k] (own w8.heap.size (.cells #[.int .i64 k] 3 (0, 0)) ^ bytesS (.slice (some ⟨g8, o8, none⟩) 64 c8) (sec fresh) ^ bytesS (.slice (some ⟨g6, o6, none⟩) 64 c6) (sec old) ^ R) _ ((hS8.alloc (.cells #[.int .i64 k] 3 (0, 0))).as (by ac_rfl)) (rdOwn (vs := [.int .i64 k]) (Nat.le_refl 1) (by decide)) (by rw [l3]; decide)
  go_wp2_with (go_at_call 18; refine hm6.mono ?_; rintro e w9 ⟨rfl, hS9, hF9⟩)
  have hm7 := read_at p (D3.crash [k]) a _ w9 hS9 (show 0 < _ by decide) e6
  have hgl : ((sec fresh).take (clampTo k) ++ (sec old).drop (clampTo k)).length = 64 := by
    have : clampTo k ≤ 64 := by unfold clampTo; omega
    simp [sec_length]
    omega
  clear hm6 e6
  go_wp2_with (go_at_call 17; refine hm7.mono ?_; rintro e w10 ⟨s10, rfl, hS10, hF10⟩; obtain ⟨g10, o10, c10, rfl⟩ := hS10.rdBytes.open64 hgl)
  go_loopw [17] (fun i wr => ∃ (j : Nat), j ≤ 64 ∧ i = .int .i64 j ∧ Sat wr (bytesS (.slice (some ⟨g10, o10, none⟩) 64 c10) ((sec fresh).take (clampTo k) ++ (sec old).drop (clampTo k)) ^ bytesS (.slice (some ⟨g8, o8, none⟩) 64 c8) (sec fresh) ^ bytesS (.slice (some ⟨g6, o6, none⟩) 64 c6) (sec old) ^ R) ∧ Flow w wr) (fun i _ => 64 - (intOf i).toNat)
  case atStart => exact ⟨0, Nat.zero_le _, rfl, (hS10.as (B := diskS p (D3.crash [k]) ^ own w8.heap.size (.cells #[.int .i64 k] 3 (0, 0)) ^ bytesS (.slice (some ⟨g10, o10, none⟩) 64 c10) ((sec fresh).take (clampTo k) ++ (sec old).drop (clampTo k)) ^ bytesS (.slice (some ⟨g8, o8, none⟩) 64 c8) (sec fresh) ^ bytesS (.slice (some ⟨g6, o6, none⟩) 64 c6) (sec old) ^ R) (by ac_rfl)).right.right,
    (((((((((hF1.trans hF2).drew.trans hF3).trans hF4).trans hF5).trans hF6).trans hF7).trans hF8).alloc _).trans hF9).trans hF10⟩
  case round =>
    clear hS3 hS4 hS5 hS6 hS7 hS8 hS9 hS10 hF3 hF4 hF5 hF6 hF7 hF8 hF9 hF10
    obtain ⟨j, hj, rfl, hS, hF⟩ := hrel
    by_cases hlt : j < 64
    · have hx : (sec fresh)[j]? = some _ := List.getElem?_eq_getElem (by rw [sec_length]; exact hlt)
      have hy : (sec old)[j]? = some _ := List.getElem?_eq_getElem (by rw [sec_length]; exact hlt)
      have hlt' : (j : Int) < 64 := by omega
      have hSd := hS.drew
      have hi10 := index_sl (P := Try.prog) Try.underlying22 byte_info g10 o10 64 c10 j hlt wr.drew
      have hi8 := index_sl (P := Try.prog) Try.underlying22 byte_info g8 o8 64 c8 j hlt wr.drew
      have hi6 := index_sl (P := Try.prog) Try.underlying22 byte_info g6 o6 64 c6 j hlt wr.drew
      by_cases hk : (j : Int) < k
      · have hu := hSd.byteAt (j := j) (u := (sec fresh)[j]'(by rw [sec_length]; exact hlt)) (by
          rw [List.getElem?_append_left (by simp [sec_length]; unfold clampTo; omega), List.getElem?_take, if_pos (by unfold clampTo; omega)]
          exact hx)
        have hv := (hSd.right).byteAt hx
        have hge : ¬ (j : Int) ≥ k := by omega
        have HS := Lib.hid hSd
        clear hS hSd hx hy
        go_wp2
        refine wp_free (by kernel_rfl) (by kernel_rfl) ?_
        go_wp2_with (first | (refine arm_indexAddr rfl rfl rfl rfl hi10 ?_) | (refine arm_indexAddr rfl rfl rfl rfl hi8 ?_) | (refine arm_indexAddr rfl rfl rfl rfl hi6 ?_))
        refine ⟨by rfl, ?_⟩
        go_wp2
        go_roundw
        case rel => exact ⟨j + 1, by omega, by go_num, HS.out, hF.drew⟩
        case measure => simp [intOf]; omega
      · have hcj : clampTo k ≤ j := by unfold clampTo; omega
        have hu := hSd.byteAt (j := j) (u := (sec old)[j]'(by rw [sec_length]; exact hlt)) (by
          have hl : ((sec fresh).take (clampTo k)).length = clampTo k := by simp [sec_length]; omega
          rw [List.getElem?_append_right (by omega), hl, List.getElem?_drop, show clampTo k + (j - clampTo k) = j by omega]
          exact hy)
        have hv := (hSd.right.right).byteAt hy
        have hge : (j : Int) ≥ k := by omega
        have HS := Lib.hid hSd
        clear hS hSd hx hy
        go_wp2
        refine wp_free (by kernel_rfl) (by kernel_rfl) ?_
        go_wp2_with (first | (refine arm_indexAddr rfl rfl rfl rfl hi10 ?_) | (refine arm_indexAddr rfl rfl rfl rfl hi8 ?_) | (refine arm_indexAddr rfl rfl rfl rfl hi6 ?_))
        refine ⟨by rfl, ?_⟩
        go_wp2
        go_roundw
        case rel => exact ⟨j + 1, by omega, by go_num, HS.out, hF.drew⟩
        case measure => simp [intOf]; omega
    · have hge : ¬ (j : Int) < 64 := by omega
      clear hlt
      go_wp2
      go_ret
      exact Done.mk rfl hS.right.right.right hF
end Go.Proofs.Ytehpdpdmjflddaa
