/-
  The disk's Image.
-/
import Derived.Test.YtehpdpdmjflddaaDiskN
namespace Go.Proofs.Ytehpdpdmjflddaa
open Go.RowKit

def DD.image (D : DD) : List UInt8 := (List.range D.n).flatMap D.sure
theorem append_sl {P : Program} {w : World} {R : SP} (t ty : TypeId) {e : TypeId} {z : Value} {size bytes : Nat} (ht : P.underlying t = some (.slice e)) (hi : (P.info? e).map (fun i => (i.zero, i.size, i.bytes)) = some (some z, size, bytes))
    (hzs : z.cells.size = size) (hsz : 0 < size) {v : Value} {n : Nat} {xs : List Value} (hown : Sat w (rowS e size v n xs ^ R))
    (a : Option Addr) (m c : Nat) (news : List Value) (hl : news.length = m * size) (hnews : ∀ j u, news[j]? = some u → ∃ ad, a = some ad ∧ w.cell? (ad.add j) = some u) (h1 : ∀ u ∈ news, u.oneCell' = true)
    (h63 : n + m ≤ maxLen) (hbytes : (n + m) * bytes ≤ 140737488355328) :
    ∃ v' w', (Builtin.append_ #[t, t] ty #[v, .slice a m c]).run P w = .ok v' w' ∧ Sat w' (rowS e size v' (n + m) (xs ++ news) ^ R) ∧ Flow w w' := by
  cases hq : P.info? e with
  | none => simp [hq] at hi
  | some i =>
    simp [hq] at hi
    exact run_append_sl t ty e i z size bytes ht hq hi.1 hi.2.1 hi.2.2 hzs hsz v n xs hown a m c news hl hnews h1 h63 hbytes
theorem image_part (f : Nat → List UInt8) (hf : ∀ k, (f k).length = 64) : ∀ n : Nat, ((List.range n).flatMap f).length = n * 64
  | 0 => rfl
  | n + 1 => by
    rw [List.range_succ, List.flatMap_append, List.length_append, image_part f hf n]
    simp [hf]
    omega
set_option maxRecDepth 100000 in
set_option maxHeartbeats 2000000 in
theorem image_spec (p : Nat) (D : DD) (R : SP) (w : World) (h : Sat w (diskS p D ^ R)) :
    Calls Try.prog 24 #[ptr p] w fun e w' => ∃ s, e = .returned s ∧ Sat w' (bytesS s D.image ^ diskS p D ^ R) ∧ Flow w w' := by
  have hl := len_spec p D R w h
  obtain ⟨ok, _⟩ : D.ok ∧ True := ⟨by obtain ⟨_, _, ok, _⟩ := h.disk; exact ok, trivial⟩
  have hn := ok.n
  go_enter Try.func24, Try.ntmps24
  go_wp2_with (go_at_call 26; refine hl.mono ?_; rintro e w' ⟨rfl, rfl⟩)
  clear hl
  go_loopw [8, 3] (fun i s0 wr => ∃ (j : Nat) (s : Value), j ≤ D.n ∧ i = .int .i64 j ∧ s = s0 ∧ Sat wr (rowS 5 1 s (j * 64) (((List.range j).flatMap D.sure).map u8v) ^ diskS p D ^ R) ∧ Flow w wr) (fun i _ _ => D.n - (intOf i).toNat)
  case atStart => exact ⟨0, .slice none 0 0, Nat.zero_le _, rfl, rfl, by rw [show rowS 5 1 (.slice none 0 0) (0 * 64) (((List.range 0).flatMap D.sure).map u8v) = emp from rowS_nil _ _, emp_star]; exact h, Flow.refl w⟩
  case round =>
    obtain ⟨j, s, hj, rfl, rfl, hS, hF⟩ := hrel
    by_cases hlt : j < D.n
    · obtain ⟨m, es, c, va, vc, ok', hm, hSo⟩ := (hS.as (B := diskS p D ^ rowS 5 1 s (j * 64) (((List.range j).flatMap D.sure).map u8v) ^ R) (by ac_rfl)).openDisk
      have hcp := hSo.cell
      have hS64 := ok.sure j
      have hlk := run_lookup_int (P := Try.prog) Try.underlying86 Try.underlying3 (hSo.as (B := own m (.map es c) ^ headS p m (.slice va D.wait.length vc) D ^ pendS (.slice va D.wait.length vc) D.wait ^ rowS 5 1 s (j * 64) (((List.range j).flatMap D.sure).map u8v) ^ R) (by ac_rfl)).heap hm.1 (z := secV (zeros 64)) (fun w => (info_zero sector_info w).1) j
      rw [hm.2 j] at hlk
      obtain ⟨b5, w3, hr3, hS3, hF3⟩ := alloc_sl (P := Try.prog) sector_info hSo
      obtain ⟨w4, hr4, hS4, hF4⟩ := store_sl (P := Try.prog) (off := 0) ((D.sure j).map u8v) sector_info (by simp [hS64]) (oneCell_bytes _) (by simp [secV, Value.cells, zeros, hS64]) hS3
      rw [splice_whole _ _ (by simp [secV, Value.cells, zeros, hS64])] at hS4
      obtain ⟨s', w5, hr5, hS5, hF5⟩ := append_sl (P := Try.prog) 22 22 Try.underlying22 byte_info rfl (by decide) (hS4.as (B := rowS 5 1 s (j * 64) (((List.range j).flatMap D.sure).map u8v) ^ own b5 (.cells ((D.sure j).map u8v).toArray 92 (0, 0)) ^ headS p m (.slice va D.wait.length vc) D ^ own m (.map es c) ^ pendS (.slice va D.wait.length vc) D.wait ^ R) (by ac_rfl))
        (some ⟨b5, 0, none⟩) 64 64 ((D.sure j).map u8v) (by simp [hS64]) (fun t u hu => ⟨_, rfl, by
          rw [show (⟨b5, 0, none⟩ : Addr).add t = ⟨b5, t, none⟩ by unfold Addr.add; split <;> simp_all, hS4.cell]
          simpa using hu⟩) (oneCell_bytes _) (by unfold maxLen; omega) (by omega)
      have hdone : Sat w5 (rowS 5 1 s' ((j + 1) * 64) (((List.range (j + 1)).flatMap D.sure).map u8v) ^ diskS p D ^ R) := by
        have e1 : ((List.range (j + 1)).flatMap D.sure).map u8v = ((List.range j).flatMap D.sure).map u8v ++ (D.sure j).map u8v := by
          rw [List.range_succ, List.flatMap_append, List.map_append]
          simp
        rw [e1, show (j + 1) * 64 = j * 64 + 64 by omega]
        have h6 := (hS5.as (B := own b5 (.cells ((D.sure j).map u8v).toArray 92 (0, 0)) ^ headS p m (.slice va D.wait.length vc) D ^ own m (.map es c) ^ pendS (.slice va D.wait.length vc) D.wait ^ rowS 5 1 s' (j * 64 + 64) (((List.range j).flatMap D.sure).map u8v ++ (D.sure j).map u8v) ^ R) (by ac_rfl)).right
        exact h6.re (rowS 5 1 s' (j * 64 + 64) (((List.range j).flatMap D.sure).map u8v ++ (D.sure j).map u8v) ^ R) (foldDisk ok hm) (by ac_rfl) (by ac_rfl)
      have HD := Lib.hid hdone
      have HF := ((hF.trans hF3).trans hF4).trans hF5
      clear hdone hS hSo hS3 hS4 hS5 hF hF3 hF4 hF5 hm
      go_wp2_with (first | (refine arm_lookup rfl rfl rfl rfl hlk ?_) | (refine arm_alloc rfl rfl hr3 ?_) | (refine arm_store rfl rfl rfl rfl hr4 ?_) | (refine arm_append rfl rfl rfl rfl hr5 ?_))
      go_roundw
      case rel => exact ⟨j + 1, _, by omega, by go_num, rfl, HD.out, HF⟩
      case measure => simp [intOf]; omega
    · obtain rfl : j = D.n := by omega
      have hge : ¬ (D.n : Int) < D.n := by omega
      clear hlt
      go_wp2
      go_ret
      refine ⟨_, rfl, ?_, hF⟩
      have hlen : D.image.length = D.n * 64 := image_part D.sure ok.sure D.n
      unfold bytesS
      rw [ex_star, sat_ex, hlen]
      exact ⟨_, hS⟩
end Go.Proofs.Ytehpdpdmjflddaa
