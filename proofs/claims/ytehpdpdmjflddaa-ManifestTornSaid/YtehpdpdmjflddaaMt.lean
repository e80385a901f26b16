/-
  The walk of ManifestTorn.
-/
import Derived.Test.YtehpdpdmjflddaaMb
namespace Go.Proofs.Ytehpdpdmjflddaa
open Go.RowKit

theorem mread_zero {bs : List UInt8} (h : ¬ (mread bs).2 = 0) : (mread bs).1 = (0, 0, 0) := by
  unfold mread at h ⊢
  repeat' split
  all_goals first | rfl | skip
  rename_i h1 h2 h3 h4 h5
  exfalso
  apply h
  rw [if_neg h1, if_neg h2, if_neg h3, if_neg h4, if_pos h5]
theorem torn_law {a : List UInt8} {so s1 f1 l1 k s f l : Nat} (ha : a.length = 64) (ha4 : a.take 4 = le so 4) (ha60 : a.drop 60 = le so 4) (hso : so < 4294967296) (h1 : s1 < 4294967296) (hne : so ≠ s1) (hk : k ≤ 64)
    (hc : (mbytes s1 f1 l1).take k ++ a.drop k = mbytes s f l) : (mbytes s1 f1 l1).take k ++ a.drop k = mbytes s1 f1 l1 ∨ ((mbytes s1 f1 l1).take k ++ a.drop k = a ∧ le s 4 = le so 4) := by
  have hb := mbytes_length s1 f1 l1
  have hbk : ((mbytes s1 f1 l1).take k).length = k := by rw [List.length_take, hb]; omega
  have c4 : ((mbytes s1 f1 l1).take k ++ a.drop k).take 4 = le s 4 := by rw [hc]; exact mb_take4 _ _ _
  have c60 : ((mbytes s1 f1 l1).take k ++ a.drop k).drop 60 = le s 4 := by rw [hc]; exact mb_drop60 _ _ _
  have tail60 : k ≤ 60 → ((mbytes s1 f1 l1).take k ++ a.drop k).drop 60 = a.drop 60 := fun h => by
    rw [List.drop_append, hbk, List.drop_eq_nil_of_le (by omega), List.nil_append, List.drop_drop]
    congr 1
    omega
  have head4 : 4 ≤ k → ((mbytes s1 f1 l1).take k ++ a.drop k).take 4 = le s1 4 := fun h => by
    rw [List.take_append_of_le_length (by omega), List.take_take, Nat.min_eq_left h]
    exact mb_take4 _ _ _
  by_cases h4 : k < 4
  · right
    have e1 : le s 4 = le so 4 := by rw [← c60, tail60 (by omega), ha60]
    have e2 : ((mbytes s1 f1 l1).take k ++ a.drop k).take k = a.take k := by
      have x1 : ((mbytes s1 f1 l1).take k ++ a.drop k).take k = (((mbytes s1 f1 l1).take k ++ a.drop k).take 4).take k := by rw [List.take_take, Nat.min_eq_left (by omega)]
      have x2 : a.take k = (a.take 4).take k := by rw [List.take_take, Nat.min_eq_left (by omega)]
      rw [x1, x2, c4, ha4, e1]
    rw [List.take_left' hbk] at e2
    exact ⟨by rw [e2, List.take_append_drop], e1⟩
  · by_cases h60 : k ≤ 60
    · exfalso
      have e : le s1 4 = le so 4 := by rw [← head4 (by omega), c4, ← c60, tail60 h60, ha60]
      have := congrArg val e
      rw [val4 h1, val4 hso] at this
      exact hne this.symm
    · left
      have e1 : ((mbytes s1 f1 l1).take k ++ a.drop k).drop 60 = (mbytes s1 f1 l1).drop 60 := by rw [c60, ← c4, head4 (by omega), mb_drop60]
      have e2 : ((mbytes s1 f1 l1).take k ++ a.drop k).drop k = (mbytes s1 f1 l1).drop k := by
        have x : ∀ l : List UInt8, l.drop k = (l.drop 60).drop (k - 60) := fun l => by rw [List.drop_drop]; congr 1; omega
        rw [x, e1, ← x]
      rw [List.drop_left' hbk] at e2
      rw [e2, List.take_append_drop]
section
variable {R : SP} {w0 : World} {X : WP}
set_option maxRecDepth 100000 in
set_option maxHeartbeats 1000000 in
theorem mtorn_spec {x0 x1 x2 x3 x4 x5 : Int} {bl : Bool} {kp : Nat} : Spec Try.prog 11 #[.agg #[.int .i64 x0, .int .i64 x1, .int .i64 x2, .int .i64 x3, .int .i64 x4, .int .i64 x5, .bool bl], .int .u8 kp] R fun u => fact (u = .bool true) ^ R := by
  refine Spec.mk fun w0 => Tri.use ?_ (F.hayloftlaw21_ManifestTorn_ok _ _ _ _ _ _ _ _ _)
  unfold F.hayloftlaw21_ManifestTorn
  refine rn fun p => ?_
  (repeat (first | refine rd ?_ | refine t_brT rfl ?_ | refine t_brF rfl ?_))
  refine t_callV alive21 ?_
  (repeat (first | refine rd ?_ | refine t_brT rfl ?_ | refine t_brF rfl ?_))
  refine t_join (fun vs => ex fun q : Nat × Nat => fact (vs = [.pointer (some ⟨q.1, 0, none⟩), .pointer (some ⟨q.2, 0, none⟩), .bool bl]) ^ blk q.1 65 [.int .i64 x0, .int .i64 x1, .int .i64 x2] ^ blk q.2 65 [.int .i64 x3, .int .i64 x4, .int .i64 x5] ^ R) (fun K hK => ?_) fun vs => t_ex fun q => t_fact fun hv => ?_
  · have done : ∀ q1 q2 : Nat, Tri (blk q1 65 [.int .i64 x0, .int .i64 x1, .int .i64 x2] ^ blk q2 65 [.int .i64 x3, .int .i64 x4, .int .i64 x5] ^ R) w0 (K [.pointer (some ⟨q1, 0, none⟩), .pointer (some ⟨q2, 0, none⟩), .bool bl]) := fun q1 q2 => (hK _).imp fun w h => sat_ex.2 ⟨(q1, q2), sat_fact.2 ⟨rfl, h⟩⟩
    (repeat (first | refine rd ?_ | refine t_brT rfl ?_ | refine t_brF rfl ?_))
    refine t_pin (b := p) ?_
    (repeat (first | refine rd ?_ | refine t_brT rfl ?_ | refine t_brF rfl ?_))
    refine t_loadR (n := 3) (b := p) (i := 0) rfl (by kernel_rfl) (by simp) ?_
    simp only [List.drop_zero, List.take_succ_cons, List.take_zero, List.drop_succ_cons]
    (repeat (first | refine rd ?_ | refine t_brT rfl ?_ | refine t_brF rfl ?_))
    refine t_loadR (n := 3) (b := p) (i := 3) rfl (by kernel_rfl) (by simp) ?_
    simp only [List.drop_zero, List.take_succ_cons, List.take_zero, List.drop_succ_cons]
    (repeat (first | refine rd ?_ | refine t_brT rfl ?_ | refine t_brF rfl ?_))
    refine t_both ?_ ?_
    · refine rn fun q1 => ?_
      (repeat (first | refine rd ?_ | refine t_brT rfl ?_ | refine t_brF rfl ?_))
      refine rn fun q2 => ?_
      (repeat (first | refine rd ?_ | refine t_brT rfl ?_ | refine t_brF rfl ?_))
      exact (done q1 q2).imp fun w h => sat_keep2 (h.as (by ac_rfl : _ = (blk q1 65 [.int .i64 x0, .int .i64 x1, .int .i64 x2] ^ blk q2 65 [.int .i64 x3, .int .i64 x4, .int .i64 x5] ^ blk p 78 [.int .i64 x0, .int .i64 x1, .int .i64 x2, .int .i64 x3, .int .i64 x4, .int .i64 x5, .bool bl] ^ R)))
    · refine rn fun q2 => ?_
      (repeat (first | refine rd ?_ | refine t_brT rfl ?_ | refine t_brF rfl ?_))
      refine rn fun q1 => ?_
      (repeat (first | refine rd ?_ | refine t_brT rfl ?_ | refine t_brF rfl ?_))
      exact (done q1 q2).imp fun w h => sat_keep2 (h.as (by ac_rfl : _ = (blk q1 65 [.int .i64 x0, .int .i64 x1, .int .i64 x2] ^ blk q2 65 [.int .i64 x3, .int .i64 x4, .int .i64 x5] ^ blk p 78 [.int .i64 x0, .int .i64 x1, .int .i64 x2, .int .i64 x3, .int .i64 x4, .int .i64 x5, .bool bl] ^ R)))
  obtain ⟨q1, q2⟩ := q
  subst hv
  dsimp only
  (repeat (first | refine rd ?_ | refine t_brT rfl ?_ | refine t_brF rfl ?_))
  cases hmf : mayB x3 x4 x5 with
  | false =>
    cases hmo : mayB x0 x1 x2 with
    | false =>
      refine t_callV (mbytesNot_spec hmo) ?_
      (repeat (first | refine rd ?_ | refine t_brT rfl ?_ | refine t_brF rfl ?_))
      refine t_callV (mbytesNot_spec hmf) ?_
      (repeat (first | refine rd ?_ | refine t_brT rfl ?_ | refine t_brF rfl ?_))
      cases bl
      all_goals
        (repeat (first | refine rd ?_ | refine t_brT rfl ?_ | refine t_brF rfl ?_))
        try refine t_makeB 64 rfl rfl rfl (by decide) (by decide) fun g => ?_
        (repeat (first | refine rd ?_ | refine t_brT rfl ?_ | refine t_brF rfl ?_))
        exact t_postV rfl fun w h => Part.sub (R := R) w h
    | true =>
      have hmo2 := of_decide_eq_true hmo
      obtain ⟨s0, rfl⟩ : ∃ k : Nat, x0 = k := ⟨x0.toNat, by omega⟩
      obtain ⟨f0, rfl⟩ : ∃ k : Nat, x1 = k := ⟨x1.toNat, by omega⟩
      obtain ⟨l0, rfl⟩ : ∃ k : Nat, x2 = k := ⟨x2.toNat, by omega⟩
      refine t_callX (mbytes_spec hmo) fun g0 => ?_
      (repeat (first | refine rd ?_ | refine t_brT rfl ?_ | refine t_brF rfl ?_))
      refine t_callV (mbytesNot_spec hmf) ?_
      (repeat (first | refine rd ?_ | refine t_brT rfl ?_ | refine t_brF rfl ?_))
      cases bl
      all_goals
        (repeat (first | refine rd ?_ | refine t_brT rfl ?_ | refine t_brF rfl ?_))
        try refine t_makeB 64 rfl rfl rfl (by decide) (by decide) fun g => ?_
        (repeat (first | refine rd ?_ | refine t_brT rfl ?_ | refine t_brF rfl ?_))
        exact t_postV rfl fun w h => Part.sub (R := R) w h
  | true =>
    have hmf2 := of_decide_eq_true hmf
    obtain ⟨s1, rfl⟩ : ∃ k : Nat, x3 = k := ⟨x3.toNat, by omega⟩
    obtain ⟨f1, rfl⟩ : ∃ k : Nat, x4 = k := ⟨x4.toNat, by omega⟩
    obtain ⟨l1, rfl⟩ : ∃ k : Nat, x5 = k := ⟨x5.toNat, by omega⟩
    cases bl with
    | true =>
      cases hmo : mayB x0 x1 x2 with
      | false =>
        refine t_callV (mbytesNot_spec hmo) ?_
        (repeat (first | refine rd ?_ | refine t_brT rfl ?_ | refine t_brF rfl ?_))
        refine t_callX (mbytes_spec hmf) fun gb => ?_
        (repeat (first | refine rd ?_ | refine t_brT rfl ?_ | refine t_brF rfl ?_))
        refine t_makeB 64 rfl rfl rfl (by decide) (by decide) fun ga => ?_
        (repeat (first | refine rd ?_ | refine t_brT rfl ?_ | refine t_brF rfl ?_))
        have hal : (zeros 64).length = 64 := by simp [zeros]
        have hbl : (mbytes s1 f1 l1).length = 64 := mbytes_length _ _ _
        refine t_remN kp 65 rfl rfl (by decide) ?_
        (repeat (first | refine rd ?_ | refine t_brT rfl ?_ | refine t_brF rfl ?_))
        have hk : kp % 65 < 65 := Nat.mod_lt _ (by decide)
        generalize kp % 65 = k at hk ⊢
        refine tl64 (by omega) (by omega) ?_
        (repeat (first | refine rd ?_ | refine t_brT rfl ?_ | refine t_brF rfl ?_))
        refine t_slice (E := byteE) 0 k (rds_bytes (g := gb) hbl (by decide)) (.inl ⟨rfl, rfl⟩) (.inr rfl) (Nat.zero_le _) (by omega) fun a1 c1 r1 => ?_
        rw [List.drop_zero] at r1
        (repeat (first | refine rd ?_ | refine t_brT rfl ?_ | refine t_brF rfl ?_))
        have hb1 : ((mbytes s1 f1 l1).take k).length = k := by rw [List.length_take, hbl]; omega
        refine t_callX (copy_spec (by rw [show k - 0 = ((mbytes s1 f1 l1).take k).length by omega] at r1 ⊢; exact r1) (by omega)) fun y => ?_
        obtain ⟨ca, cc⟩ := y
        dsimp only
        (repeat (first | refine rd ?_ | refine t_brT rfl ?_ | refine t_brF rfl ?_))
        refine t_slice (E := byteE) k 64 (rds_bytes (g := ga) hal (by decide)) (.inr rfl) (.inl ⟨rfl, hal.symm⟩) (by omega) (by omega) fun a2 c2 r2 => ?_
        rw [List.take_of_length_le (Nat.le_of_eq hal)] at r2
        (repeat (first | refine rd ?_ | refine t_brT rfl ?_ | refine t_brF rfl ?_))
        have hy : ((zeros 64).drop k).length = 64 - k := by rw [List.length_drop, hal]
        rw [← hy] at r2 ⊢
        refine t_append (E := byteE) r2 (by omega) (by omega) fun a3 c3 => ?_
        rw [← List.length_append]
        have hlaw := fun (s f l : Nat) => torn_law (so := 0) (s1 := s1) (f1 := f1) (l1 := l1) (k := k) (s := s) (f := f) (l := l) hal rfl rfl (by omega) (by omega) (by omega) (by omega)
        have h64 : k = 64 → (mbytes s1 f1 l1).take k ++ (zeros 64).drop k = mbytes s1 f1 l1 := fun e => by rw [e, List.take_of_length_le (Nat.le_of_eq hbl), List.drop_eq_nil_of_le (Nat.le_of_eq hal), List.append_nil]
        generalize (mbytes s1 f1 l1).take k ++ (zeros 64).drop k = c at *
        (repeat (first | refine rd ?_ | refine t_brT rfl ?_ | refine t_brF rfl ?_))
        refine t_callV (mread_spec (rdR byteE)) ?_
        unfold tri3
        (repeat (first | refine rd ?_ | refine t_brT rfl ?_ | refine t_brF rfl ?_))
        refine rn fun z => ?_
        (repeat (first | refine rd ?_ | refine t_brT rfl ?_ | refine t_brF rfl ?_))
        refine t_brE (fun h6 => ?_) fun h6 => ?_
        · have e : mread c = (((s1 : Int), (f1 : Int), (l1 : Int)), (0 : Int)) := by rw [h64 (by omega), mread_mbytes hmf]
          rw [e]
          (repeat (first | refine rd ?_ | refine t_brT rfl ?_ | refine t_brF rfl ?_))
          refine t_eq3 i3_law ?_
          (repeat (first | refine rd ?_ | refine t_brT rfl ?_ | refine t_brF rfl ?_))
          refine t_postV (by simp) fun w h => Part.sub (R := R) w h
        refine t_callV (sameNil (rdR byteE) (rds_bytes (g := gb) hbl (by decide))) ?_
        (repeat (first | refine rd ?_ | refine t_brT rfl ?_ | refine t_brF rfl ?_))
        refine t_brD (fun h7 => ?_) fun h7 => ?_
        · have e : mread c = (((s1 : Int), (f1 : Int), (l1 : Int)), (0 : Int)) := by rw [h7, mread_mbytes hmf]
          rw [e]
          (repeat (first | refine rd ?_ | refine t_brT rfl ?_ | refine t_brF rfl ?_))
          refine t_eq3 i3_law ?_
          (repeat (first | refine rd ?_ | refine t_brT rfl ?_ | refine t_brF rfl ?_))
          refine t_postV (by simp) fun w h => Part.sub (R := R) w h
        have hne : ¬ (mread c).2 = 0 := fun h0 => by
          obtain ⟨s, f, l, hm, e⟩ := mread_ok h0
          have hm3 := of_decide_eq_true hm
          rcases hlaw s f l e with h | h
          · exact h7 h
          · have h2 := congrArg val h.2
            rw [val4 (by omega), val4 (by omega)] at h2
            omega
        have hz := mread_zero hne
        rw [hz]
        (repeat (first | refine rd ?_ | refine t_brT rfl ?_ | refine t_brF rfl ?_))
        refine t_joinDup ?_
        refine t_brN (fun _ => ?_) fun h => absurd h hne
        (repeat (first | refine rd ?_ | refine t_brT rfl ?_ | refine t_brF rfl ?_))
        refine t_eq3 i3_man ?_
        (repeat (first | refine rd ?_ | refine t_brT rfl ?_ | refine t_brF rfl ?_))
        refine t_postV (by simp) fun w h => Part.sub (R := R) w h
      | true =>
        have hmo2 := of_decide_eq_true hmo
        obtain ⟨s0, rfl⟩ : ∃ k : Nat, x0 = k := ⟨x0.toNat, by omega⟩
        obtain ⟨f0, rfl⟩ : ∃ k : Nat, x1 = k := ⟨x1.toNat, by omega⟩
        obtain ⟨l0, rfl⟩ : ∃ k : Nat, x2 = k := ⟨x2.toNat, by omega⟩
        refine t_callX (mbytes_spec hmo) fun g0 => ?_
        (repeat (first | refine rd ?_ | refine t_brT rfl ?_ | refine t_brF rfl ?_))
        refine t_callX (mbytes_spec hmf) fun gb => ?_
        (repeat (first | refine rd ?_ | refine t_brT rfl ?_ | refine t_brF rfl ?_))
        refine t_makeB 64 rfl rfl rfl (by decide) (by decide) fun ga => ?_
        (repeat (first | refine rd ?_ | refine t_brT rfl ?_ | refine t_brF rfl ?_))
        have hal : (zeros 64).length = 64 := by simp [zeros]
        have hbl : (mbytes s1 f1 l1).length = 64 := mbytes_length _ _ _
        refine t_remN kp 65 rfl rfl (by decide) ?_
        (repeat (first | refine rd ?_ | refine t_brT rfl ?_ | refine t_brF rfl ?_))
        have hk : kp % 65 < 65 := Nat.mod_lt _ (by decide)
        generalize kp % 65 = k at hk ⊢
        refine tl64 (by omega) (by omega) ?_
        (repeat (first | refine rd ?_ | refine t_brT rfl ?_ | refine t_brF rfl ?_))
        refine t_slice (E := byteE) 0 k (rds_bytes (g := gb) hbl (by decide)) (.inl ⟨rfl, rfl⟩) (.inr rfl) (Nat.zero_le _) (by omega) fun a1 c1 r1 => ?_
        rw [List.drop_zero] at r1
        (repeat (first | refine rd ?_ | refine t_brT rfl ?_ | refine t_brF rfl ?_))
        have hb1 : ((mbytes s1 f1 l1).take k).length = k := by rw [List.length_take, hbl]; omega
        refine t_callX (copy_spec (by rw [show k - 0 = ((mbytes s1 f1 l1).take k).length by omega] at r1 ⊢; exact r1) (by omega)) fun y => ?_
        obtain ⟨ca, cc⟩ := y
        dsimp only
        (repeat (first | refine rd ?_ | refine t_brT rfl ?_ | refine t_brF rfl ?_))
        refine t_slice (E := byteE) k 64 (rds_bytes (g := ga) hal (by decide)) (.inr rfl) (.inl ⟨rfl, hal.symm⟩) (by omega) (by omega) fun a2 c2 r2 => ?_
        rw [List.take_of_length_le (Nat.le_of_eq hal)] at r2
        (repeat (first | refine rd ?_ | refine t_brT rfl ?_ | refine t_brF rfl ?_))
        have hy : ((zeros 64).drop k).length = 64 - k := by rw [List.length_drop, hal]
        rw [← hy] at r2 ⊢
        refine t_append (E := byteE) r2 (by omega) (by omega) fun a3 c3 => ?_
        rw [← List.length_append]
        have hlaw := fun (s f l : Nat) => torn_law (so := 0) (s1 := s1) (f1 := f1) (l1 := l1) (k := k) (s := s) (f := f) (l := l) hal rfl rfl (by omega) (by omega) (by omega) (by omega)
        have h64 : k = 64 → (mbytes s1 f1 l1).take k ++ (zeros 64).drop k = mbytes s1 f1 l1 := fun e => by rw [e, List.take_of_length_le (Nat.le_of_eq hbl), List.drop_eq_nil_of_le (Nat.le_of_eq hal), List.append_nil]
        generalize (mbytes s1 f1 l1).take k ++ (zeros 64).drop k = c at *
        (repeat (first | refine rd ?_ | refine t_brT rfl ?_ | refine t_brF rfl ?_))
        refine t_callV (mread_spec (rdR byteE)) ?_
        unfold tri3
        (repeat (first | refine rd ?_ | refine t_brT rfl ?_ | refine t_brF rfl ?_))
        refine rn fun z => ?_
        (repeat (first | refine rd ?_ | refine t_brT rfl ?_ | refine t_brF rfl ?_))
        refine t_brE (fun h6 => ?_) fun h6 => ?_
        · have e : mread c = (((s1 : Int), (f1 : Int), (l1 : Int)), (0 : Int)) := by rw [h64 (by omega), mread_mbytes hmf]
          rw [e]
          (repeat (first | refine rd ?_ | refine t_brT rfl ?_ | refine t_brF rfl ?_))
          refine t_eq3 i3_law ?_
          (repeat (first | refine rd ?_ | refine t_brT rfl ?_ | refine t_brF rfl ?_))
          refine t_postV (by simp) fun w h => Part.sub (R := R) w h
        refine t_callV (sameNil (rdR byteE) (rds_bytes (g := gb) hbl (by decide))) ?_
        (repeat (first | refine rd ?_ | refine t_brT rfl ?_ | refine t_brF rfl ?_))
        refine t_brD (fun h7 => ?_) fun h7 => ?_
        · have e : mread c = (((s1 : Int), (f1 : Int), (l1 : Int)), (0 : Int)) := by rw [h7, mread_mbytes hmf]
          rw [e]
          (repeat (first | refine rd ?_ | refine t_brT rfl ?_ | refine t_brF rfl ?_))
          refine t_eq3 i3_law ?_
          (repeat (first | refine rd ?_ | refine t_brT rfl ?_ | refine t_brF rfl ?_))
          refine t_postV (by simp) fun w h => Part.sub (R := R) w h
        have hne : ¬ (mread c).2 = 0 := fun h0 => by
          obtain ⟨s, f, l, hm, e⟩ := mread_ok h0
          have hm3 := of_decide_eq_true hm
          rcases hlaw s f l e with h | h
          · exact h7 h
          · have h2 := congrArg val h.2
            rw [val4 (by omega), val4 (by omega)] at h2
            omega
        have hz := mread_zero hne
        rw [hz]
        (repeat (first | refine rd ?_ | refine t_brT rfl ?_ | refine t_brF rfl ?_))
        refine t_joinDup ?_
        refine t_brN (fun _ => ?_) fun h => absurd h hne
        (repeat (first | refine rd ?_ | refine t_brT rfl ?_ | refine t_brF rfl ?_))
        refine t_eq3 i3_man ?_
        (repeat (first | refine rd ?_ | refine t_brT rfl ?_ | refine t_brF rfl ?_))
        refine t_postV (by simp) fun w h => Part.sub (R := R) w h
    | false =>
      cases hmo : mayB x0 x1 x2 with
      | false =>
        refine t_callV (mbytesNot_spec hmo) ?_
        (repeat (first | refine rd ?_ | refine t_brT rfl ?_ | refine t_brF rfl ?_))
        refine t_callX (mbytes_spec hmf) fun gb => ?_
        (repeat (first | refine rd ?_ | refine t_brT rfl ?_ | refine t_brF rfl ?_))
        exact t_postV rfl fun w h => Part.sub (R := R) w h
      | true =>
        have hmo2 := of_decide_eq_true hmo
        obtain ⟨s0, rfl⟩ : ∃ k : Nat, x0 = k := ⟨x0.toNat, by omega⟩
        obtain ⟨f0, rfl⟩ : ∃ k : Nat, x1 = k := ⟨x1.toNat, by omega⟩
        obtain ⟨l0, rfl⟩ : ∃ k : Nat, x2 = k := ⟨x2.toNat, by omega⟩
        refine t_callX (mbytes_spec hmo) fun ga => ?_
        (repeat (first | refine rd ?_ | refine t_brT rfl ?_ | refine t_brF rfl ?_))
        refine t_callX (mbytes_spec hmf) fun gb => ?_
        (repeat (first | refine rd ?_ | refine t_brT rfl ?_ | refine t_brF rfl ?_))
        refine t_brE (fun h9 => ?_) fun h9 => ?_
        · exact t_postV rfl fun w h => Part.sub (R := R) w h
        have hal : (mbytes s0 f0 l0).length = 64 := mbytes_length _ _ _
        have hbl : (mbytes s1 f1 l1).length = 64 := mbytes_length _ _ _
        refine t_remN kp 65 rfl rfl (by decide) ?_
        (repeat (first | refine rd ?_ | refine t_brT rfl ?_ | refine t_brF rfl ?_))
        have hk : kp % 65 < 65 := Nat.mod_lt _ (by decide)
        generalize kp % 65 = k at hk ⊢
        refine tl64 (by omega) (by omega) ?_
        (repeat (first | refine rd ?_ | refine t_brT rfl ?_ | refine t_brF rfl ?_))
        refine t_slice (E := byteE) 0 k (rds_bytes (g := gb) hbl (by decide)) (.inl ⟨rfl, rfl⟩) (.inr rfl) (Nat.zero_le _) (by omega) fun a1 c1 r1 => ?_
        rw [List.drop_zero] at r1
        (repeat (first | refine rd ?_ | refine t_brT rfl ?_ | refine t_brF rfl ?_))
        have hb1 : ((mbytes s1 f1 l1).take k).length = k := by rw [List.length_take, hbl]; omega
        refine t_callX (copy_spec (by rw [show k - 0 = ((mbytes s1 f1 l1).take k).length by omega] at r1 ⊢; exact r1) (by omega)) fun y => ?_
        obtain ⟨ca, cc⟩ := y
        dsimp only
        (repeat (first | refine rd ?_ | refine t_brT rfl ?_ | refine t_brF rfl ?_))
        refine t_slice (E := byteE) k 64 (rds_bytes (g := ga) hal (by decide)) (.inr rfl) (.inl ⟨rfl, hal.symm⟩) (by omega) (by omega) fun a2 c2 r2 => ?_
        rw [List.take_of_length_le (Nat.le_of_eq hal)] at r2
        (repeat (first | refine rd ?_ | refine t_brT rfl ?_ | refine t_brF rfl ?_))
        have hy : ((mbytes s0 f0 l0).drop k).length = 64 - k := by rw [List.length_drop, hal]
        rw [← hy] at r2 ⊢
        refine t_append (E := byteE) r2 (by omega) (by omega) fun a3 c3 => ?_
        rw [← List.length_append]
        have hlaw := fun (s f l : Nat) => torn_law (so := s0) (s1 := s1) (f1 := f1) (l1 := l1) (k := k) (s := s) (f := f) (l := l) hal (mb_take4 _ _ _) (mb_drop60 _ _ _) (by omega) (by omega) (by omega) (by omega)
        have h64 : k = 64 → (mbytes s1 f1 l1).take k ++ (mbytes s0 f0 l0).drop k = mbytes s1 f1 l1 := fun e => by rw [e, List.take_of_length_le (Nat.le_of_eq hbl), List.drop_eq_nil_of_le (Nat.le_of_eq hal), List.append_nil]
        generalize (mbytes s1 f1 l1).take k ++ (mbytes s0 f0 l0).drop k = c at *
        (repeat (first | refine rd ?_ | refine t_brT rfl ?_ | refine t_brF rfl ?_))
        refine t_callV (mread_spec (rdR byteE)) ?_
        unfold tri3
        (repeat (first | refine rd ?_ | refine t_brT rfl ?_ | refine t_brF rfl ?_))
        refine rn fun z => ?_
        (repeat (first | refine rd ?_ | refine t_brT rfl ?_ | refine t_brF rfl ?_))
        refine t_brE (fun h6 => ?_) fun h6 => ?_
        · have e : mread c = (((s1 : Int), (f1 : Int), (l1 : Int)), (0 : Int)) := by rw [h64 (by omega), mread_mbytes hmf]
          rw [e]
          (repeat (first | refine rd ?_ | refine t_brT rfl ?_ | refine t_brF rfl ?_))
          refine t_eq3 i3_law ?_
          (repeat (first | refine rd ?_ | refine t_brT rfl ?_ | refine t_brF rfl ?_))
          refine t_postV (by simp) fun w h => Part.sub (R := R) w h
        refine t_callV (sameNil (rdR byteE) (rds_bytes (g := gb) hbl (by decide))) ?_
        (repeat (first | refine rd ?_ | refine t_brT rfl ?_ | refine t_brF rfl ?_))
        refine t_brD (fun h7 => ?_) fun h7 => ?_
        · have e : mread c = (((s1 : Int), (f1 : Int), (l1 : Int)), (0 : Int)) := by rw [h7, mread_mbytes hmf]
          rw [e]
          (repeat (first | refine rd ?_ | refine t_brT rfl ?_ | refine t_brF rfl ?_))
          refine t_eq3 i3_law ?_
          (repeat (first | refine rd ?_ | refine t_brT rfl ?_ | refine t_brF rfl ?_))
          refine t_postV (by simp) fun w h => Part.sub (R := R) w h
        (repeat (first | refine rd ?_ | refine t_brT rfl ?_ | refine t_brF rfl ?_))
        refine t_callV (sameNil (rdR byteE) (rds_bytes (g := ga) hal (by decide))) ?_
        (repeat (first | refine rd ?_ | refine t_brT rfl ?_ | refine t_brF rfl ?_))
        refine t_brD (fun h8 => ?_) fun h8 => ?_
        · have e : mread c = (((s0 : Int), (f0 : Int), (l0 : Int)), (0 : Int)) := by rw [h8, mread_mbytes hmo]
          rw [e]
          (repeat (first | refine rd ?_ | refine t_brT rfl ?_ | refine t_brF rfl ?_))
          refine t_eq3 i3_law ?_
          (repeat (first | refine rd ?_ | refine t_brT rfl ?_ | refine t_brF rfl ?_))
          refine t_postV (by simp) fun w h => Part.sub (R := R) w h
        have hne : ¬ (mread c).2 = 0 := fun h0 => by
          obtain ⟨s, f, l, hm, e⟩ := mread_ok h0
          have hm3 := of_decide_eq_true hm
          rcases hlaw s f l e with h | h
          · exact h7 h
          · exact h8 h.1
        have hz := mread_zero hne
        rw [hz]
        (repeat (first | refine rd ?_ | refine t_brT rfl ?_ | refine t_brF rfl ?_))
        refine t_joinDup ?_
        refine t_brN (fun _ => ?_) fun h => absurd h hne
        (repeat (first | refine rd ?_ | refine t_brT rfl ?_ | refine t_brF rfl ?_))
        refine t_eq3 i3_man ?_
        (repeat (first | refine rd ?_ | refine t_brT rfl ?_ | refine t_brF rfl ?_))
        refine t_postV (by simp) fun w h => Part.sub (R := R) w h
end
end Go.Proofs.Ytehpdpdmjflddaa
