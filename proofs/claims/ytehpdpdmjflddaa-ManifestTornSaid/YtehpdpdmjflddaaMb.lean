/-
  The walk of ManifestBursts.
-/
import Derived.Test.YtehpdpdmjflddaaBurst
namespace Go.Proofs.Ytehpdpdmjflddaa
open Go.RowKit

section
variable {R : SP} {w0 : World} {X : WP}
theorem mread_ok {bs : List UInt8} (h : (mread bs).2 = 0) : ∃ s f l : Nat, mayB s f l = true ∧ bs = mbytes s f l := by
  unfold mread at h
  split at h
  · cases h
  split at h
  · cases h
  split at h
  · cases h
  split at h
  · cases h
  split at h
  · rename_i hm
    exact ⟨_, _, _, hm⟩
  · cases h
theorem flips {cs : List UInt8} {p : Nat} (hl : cs.length = 64) (hp : p < 512) : val (cs.set (p / 8) (cs[p / 8]'(by omega) ^^^ UInt8.ofNat (2 ^ (p % 8)))) = val cs ^^^ 2 ^ p := by
  have h8 : p % 8 < 8 := Nat.mod_lt _ (by decide)
  have h256 : 2 ^ (p % 8) < 256 := Nat.lt_of_lt_of_le (Nat.pow_lt_pow_right (by decide) h8) (by decide)
  rw [val_set _ _ _ (by omega), UInt8.toNat_ofNat', Nat.mod_eq_of_lt h256, ← Nat.pow_add]
  congr 2
  omega
set_option exponentiation.threshold 1000 in
set_option maxRecDepth 100000 in
theorem bursts_spec {s f l : Int} {at' bits : Nat} (hat : at' < 65536) (hbits : bits < 2 ^ 32) : Spec Try.prog 12 #[.agg #[.int .i64 s, .int .i64 f, .int .i64 l], .agg #[.int .u16 at', .int .u32 bits]] R fun u => fact (u = .bool true) ^ R := by
  refine Spec.mk fun w0 => Tri.use ?_ (F.hayloftlaw21_ManifestBursts_ok _ _ _ _ _ _)
  unfold F.hayloftlaw21_ManifestBursts
  refine rn fun p => ?_
  (repeat (first | refine rd ?_ | refine t_brT rfl ?_ | refine t_brF rfl ?_))
  refine rn fun q => ?_
  (repeat (first | refine rd ?_ | refine t_brT rfl ?_ | refine t_brF rfl ?_))
  refine t_callV alive21 ?_
  (repeat (first | refine rd ?_ | refine t_brT rfl ?_ | refine t_brF rfl ?_))
  cases hm : mayB s f l with
  | false =>
    refine t_callV (mbytesNot_spec hm) ?_
    (repeat (first | refine rd ?_ | refine t_brT rfl ?_ | refine t_brF rfl ?_))
    exact t_postV rfl fun w h => h.right.right
  | true =>
    have hm2 := of_decide_eq_true hm
    obtain ⟨s, rfl⟩ : ∃ k : Nat, s = k := ⟨s.toNat, by omega⟩
    obtain ⟨f, rfl⟩ : ∃ k : Nat, f = k := ⟨f.toNat, by omega⟩
    obtain ⟨l, rfl⟩ : ∃ k : Nat, l = k := ⟨l.toNat, by omega⟩
    refine t_callX (mbytes_spec hm) fun g => ?_
    (repeat (first | refine rd ?_ | refine t_brT rfl ?_ | refine t_brF rfl ?_))
    have hbl := mbytes_length s f l
    refine t_callX (copy_spec (rds_bytes (g := g) hbl (by decide)) (by rw [hbl]; decide)) fun y => ?_
    obtain ⟨ca, cc⟩ := y
    rw [hbl]
    dsimp only
    (repeat (first | refine rd ?_ | refine t_brT rfl ?_ | refine t_brF rfl ?_))
    generalize hb : mbytes s f l = b at *
    refine t_loop (σ := Nat × List UInt8) (fun x => [.int .i64 x.1]) (fun x => fact (x.1 ≤ 32 ∧ x.2.length = 64 ∧ val x.2 = val b ^^^ mask bits (at' % 512) x.1) ^ row byteE (.slice ca 64 cc) x.2 ^ bytesB g b ^ blk q 83 [.int .u16 at', .int .u32 bits] ^ blk p 65 [.int .i64 s, .int .i64 f, .int .i64 l] ^ R) (fun x => 32 - x.1) (0, b) rfl
      (fun w h => sat_fact.2 ⟨⟨Nat.zero_le _, hbl, by simp [mask, Nat.mod_one]⟩, h⟩) fun x => ?_
    obtain ⟨k, cs⟩ := x
    refine t_fact fun hk => ?_
    obtain ⟨hk, hcl, hcv⟩ := hk
    dsimp only at hk hcl hcv ⊢
    (repeat (first | refine rd ?_ | refine t_brT rfl ?_ | refine t_brF rfl ?_))
    refine t_brD (fun h => ?_) fun h => ?_
    · have hlt : k < 32 := by omega
      (repeat (first | refine rd ?_ | refine t_brT rfl ?_ | refine t_brF rfl ?_))
      refine t_remN at' 512 rfl rfl (by decide) ?_
      (repeat (first | refine rd ?_ | refine t_brT rfl ?_ | refine t_brF rfl ?_))
      have h512 : at' % 512 < 512 := Nat.mod_lt _ (by decide)
      have hms := mask_succ bits (at' % 512) k
      generalize at' % 512 = p0 at *
      refine tl64 (by omega) (by omega) ?_
      refine tlE (y := ((p0 + k : Nat) : Int)) (by rw [wrap_in (k := .i64) (by simp [IntKind.min, IntKind.bits, IntKind.signed]; omega) (by simp [IntKind.max, IntKind.bits, IntKind.signed]; omega)]; omega) ?_
      refine t_join (fun vs => fact (vs = [.bool (decide (bits / 2 ^ k % 2 = 1 ∧ p0 + k < 512))]) ^ row byteE (.slice ca 64 cc) cs ^ bytesB g b ^ blk q 83 [.int .u16 at', .int .u32 bits] ^ blk p 65 [.int .i64 s, .int .i64 f, .int .i64 l] ^ R) (fun K hK => ?_) fun vs => t_fact fun hv => ?_
      · (repeat (first | refine rd ?_ | refine t_brT rfl ?_ | refine t_brF rfl ?_))
        refine tlE (wrap64u (by omega)) ?_
        refine t_shrN bits k rfl rfl (by simp [IntKind.bits]; omega) ?_
        (repeat (first | refine rd ?_ | refine t_brT rfl ?_ | refine t_brF rfl ?_))
        refine t_remN (bits / 2 ^ k) 2 rfl rfl (by decide) ?_
        (repeat (first | refine rd ?_ | refine t_brT rfl ?_ | refine t_brF rfl ?_))
        refine t_brE (fun h1 => ?_) fun h1 => ?_
        · refine (hK _).imp fun w h => sat_fact.2 ⟨?_, h⟩
          congr 2
          exact decide_eq_decide.2 ⟨fun h => ⟨by omega, by omega⟩, fun h => by omega⟩
        · refine (hK _).imp fun w h => sat_fact.2 ⟨?_, h⟩
          rw [decide_eq_false (fun h => h1 (by omega))]
      · subst hv
        (repeat (first | refine rd ?_ | refine t_brT rfl ?_ | refine t_brF rfl ?_))
        refine t_join (fun vs => ex fun cs' : List UInt8 => fact (vs = [] ∧ cs'.length = 64 ∧ val cs' = val b ^^^ mask bits p0 (k + 1)) ^ row byteE (.slice ca 64 cc) cs' ^ bytesB g b ^ blk q 83 [.int .u16 at', .int .u32 bits] ^ blk p 65 [.int .i64 s, .int .i64 f, .int .i64 l] ^ R) (fun K hK => ?_) fun vs => t_ex fun cs' => t_fact fun hv => ?_
        · refine t_brD (fun h1 => ?_) fun h1 => ?_
          · have hp : (p0 + k) / 8 < cs.length := by omega
            refine t_quoN (p0 + k) 8 rfl rfl (by decide) (by omega) ?_
            (repeat (first | refine rd ?_ | refine t_brT rfl ?_ | refine t_brF rfl ?_))
            refine t_quoN (p0 + k) 8 rfl rfl (by decide) (by omega) ?_
            (repeat (first | refine rd ?_ | refine t_brT rfl ?_ | refine t_brF rfl ?_))
            refine t_ixld0 ((p0 + k) / 8) (rdR byteE) rfl (List.getElem?_eq_getElem hp) rfl ?_
            (repeat (first | refine rd ?_ | refine t_brT rfl ?_ | refine t_brF rfl ?_))
            refine t_remN (p0 + k) 8 rfl rfl (by decide) ?_
            (repeat (first | refine rd ?_ | refine t_brT rfl ?_ | refine t_brF rfl ?_))
            have h8 : (p0 + k) % 8 < 8 := Nat.mod_lt _ (by decide)
            refine tlE (wrap64u (by omega)) ?_
            have h256 : 2 ^ ((p0 + k) % 8) < 256 := Nat.lt_of_lt_of_le (Nat.pow_lt_pow_right (by decide) h8) (by decide)
            refine t_shlN 1 ((p0 + k) % 8) rfl rfl (by simp [IntKind.bits]; omega) (by decide) (by rw [Nat.one_mul]; show ((2 ^ ((p0 + k) % 8) : Nat) : Int) ≤ 255; omega) ?_
            rw [Nat.one_mul]
            (repeat (first | refine rd ?_ | refine t_brT rfl ?_ | refine t_brF rfl ?_))
            refine tlE (xor8 cs[(p0 + k) / 8] (UInt8.ofNat (2 ^ ((p0 + k) % 8))) rfl (by rw [UInt8.toNat_ofNat', Nat.mod_eq_of_lt h256])) ?_
            refine t_ixst byteE ((p0 + k) / 8) (cs[(p0 + k) / 8] ^^^ UInt8.ofNat (2 ^ ((p0 + k) % 8))) rfl hp rfl ?_
            refine (hK _).imp fun w h => sat_ex.2 ⟨_, sat_fact.2 ⟨⟨rfl, by rw [List.length_set]; exact hcl, ?_⟩, h⟩⟩
            rw [flips hcl (by omega), hcv, hms, if_pos h1, Nat.xor_assoc]
          · refine (hK _).imp fun w h => sat_ex.2 ⟨cs, sat_fact.2 ⟨⟨rfl, hcl, ?_⟩, h⟩⟩
            rw [hcv, hms, if_neg h1, Nat.xor_zero]
        · obtain ⟨rfl, h1, h2⟩ := hv
          (repeat (first | refine rd ?_ | refine t_brT rfl ?_ | refine t_brF rfl ?_))
          refine tl64 (by omega) (by omega) ?_
          exact t_round (k + 1, cs') rfl (by dsimp only; omega) fun w h => sat_fact.2 ⟨⟨by dsimp only; omega, h1, h2⟩, h⟩
    · have : k = 32 := by omega
      subst this
      refine t_callV (mread_spec (by have := rdR byteE (A := row byteE (.slice ca 64 cc) cs ^ bytesB g b ^ blk q 83 [.int .u16 at', .int .u32 bits] ^ blk p 65 [.int .i64 s, .int .i64 f, .int .i64 l] ^ R) (v := .slice ca 64 cc) (xs := cs); exact this)) ?_
      unfold tri3
      (repeat (first | refine rd ?_ | refine t_brT rfl ?_ | refine t_brF rfl ?_))
      refine rn fun z => ?_
      (repeat (first | refine rd ?_ | refine t_brT rfl ?_ | refine t_brF rfl ?_))
      refine t_callV (sameNil (rds_bytes (g := g) hbl (by decide)) (rdR byteE)) ?_
      (repeat (first | refine rd ?_ | refine t_brT rfl ?_ | refine t_brF rfl ?_))
      refine t_postV ?_ fun w h => h.right.right.right.right.right
      congr 1
      by_cases hbc : b = cs
      · subst hbc
        rw [← hb, mread_mbytes hm]
        simp
      · have : ¬ (mread cs).2 = 0 := fun h0 => hbc (by
          obtain ⟨s', f', l', hm', rfl⟩ := mread_ok h0
          rw [← hb]
          refine burst_same hm hm' hbits (p := at' % 512) ?_
          rw [hb, hcv, ← Nat.xor_assoc, Nat.xor_self, Nat.zero_xor]
          unfold mask
          rw [Nat.mod_eq_of_lt hbits])
        simp [hbc, this]
end
end Go.Proofs.Ytehpdpdmjflddaa
