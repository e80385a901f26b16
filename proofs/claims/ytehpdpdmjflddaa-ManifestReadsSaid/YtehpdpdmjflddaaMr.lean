/-
  The reference's Read, with an allocation that may come anywhere; the walk of ManifestReads.
-/
import Derived.Test.YtehpdpdmjflddaaMw
namespace Go.Proofs.Ytehpdpdmjflddaa
open Go.RowKit

section
variable {R : SP} {w0 : World} {X : WP} {bs : List UInt8}
theorem rget4 {v : Value} {bs : List UInt8} (hb : Rds byteE R v bs) (hl : bs.length ≤ 8) : Spec Try.prog 60 #[v] R fun u => fact (u = .int .u64 (val bs)) ^ R := by
  have := rget_spec hb
  rw [List.take_of_length_le hl] at this
  exact this
set_option maxRecDepth 100000 in
theorem rmread_spec {v : Value} (hb : Rds byteE R v bs) : Spec Try.prog 44 #[v] R fun u => fact (u = .tuple #[tri3 (mread bs).1, .int .i64 (mread bs).2]) ^ R := by
  refine Spec.mk fun w0 => t_shape hb fun a c hv hlc hcm => ?_
  unfold maxLen at hcm
  subst hv
  refine Tri.use ?_ (F.hayloftref21_Read_ok _ _ _ _)
  unfold F.hayloftref21_Read
  refine rn fun p => ?_
  (repeat (first | refine rd ?_ | refine t_brT rfl ?_ | refine t_brF rfl ?_))
  have out : ∀ (m : (Int × Int × Int) × Int) (X : SP) [Part X R], mread bs = m → Tri X w0 (Post (fun u => fact (u = .tuple #[tri3 (mread bs).1, .int .i64 (mread bs).2]) ^ R) w0 (.tuple #[tri3 m.1, .int .i64 m.2])) := fun m X hX h => by
    rw [h]
    exact t_postV rfl fun w h => hX.sub w h
  refine t_brD (fun h => ?_) fun h1 => ?_
  · (repeat (first | refine rd ?_ | refine t_brT rfl ?_ | refine t_brF rfl ?_))
    exact out ((0, 0, 0), 3) _ (by unfold mread; rw [if_pos (by omega)])
  refine t_brD (fun h => ?_) fun h2 => ?_
  · (repeat (first | refine rd ?_ | refine t_brT rfl ?_ | refine t_brF rfl ?_))
    exact out ((0, 0, 0), 6) _ (by unfold mread; rw [if_neg (by omega), if_pos (by omega)])
  have hl : bs.length = 64 := by omega
  (repeat (first | refine rd ?_ | refine t_brT rfl ?_ | refine t_brF rfl ?_))
  refine t_sliceP 0 4 hb (.inl ⟨rfl, rfl⟩) (.inr rfl) (by decide) (by omega) fun a1 c1 r1 => ?_
  (repeat (first | refine rd ?_ | refine t_brT rfl ?_ | refine t_brF rfl ?_))
  refine t_sliceP 60 bs.length hb (.inr rfl) (.inl ⟨rfl, rfl⟩) (by omega) (Nat.le_refl _) fun a2 c2 r2 => ?_
  rw [List.drop_zero] at r1
  rw [List.take_length] at r2
  (repeat (first | refine rd ?_ | refine t_brT rfl ?_ | refine t_brF rfl ?_))
  refine t_callV (sameNil r1.part r2.part) ?_
  (repeat (first | refine rd ?_ | refine t_brT rfl ?_ | refine t_brF rfl ?_))
  refine t_brD (fun h3 => ?_) fun h3 => ?_
  rotate_left
  · (repeat (first | refine rd ?_ | refine t_brT rfl ?_ | refine t_brF rfl ?_))
    exact out ((0, 0, 0), 9) _ (by unfold mread; rw [if_neg (by omega), if_neg (by omega), if_pos h3])
  (repeat (first | refine rd ?_ | refine t_brT rfl ?_ | refine t_brF rfl ?_))
  refine t_sliceP 0 56 hb (.inl ⟨rfl, rfl⟩) (.inr rfl) (by decide) (by omega) fun a3 c3 r3 => ?_
  rw [List.drop_zero] at r3
  (repeat (first | refine rd ?_ | refine t_brT rfl ?_ | refine t_brF rfl ?_))
  refine t_callV (rsum_spec r3.part) ?_
  (repeat (first | refine rd ?_ | refine t_brT rfl ?_ | refine t_brF rfl ?_))
  have hc := crc_lt (bs.take 56)
  refine tlE (wrap64u (by omega)) ?_
  refine t_sliceP 56 60 hb (.inr rfl) (.inr rfl) (by decide) (by omega) fun a4 c4 r4 => ?_
  (repeat (first | refine rd ?_ | refine t_brT rfl ?_ | refine t_brF rfl ?_))
  refine t_callV (rget4 r4.part (by simp; omega)) ?_
  (repeat (first | refine rd ?_ | refine t_brT rfl ?_ | refine t_brF rfl ?_))
  refine t_brN (fun h4 => ?_) fun h4 => ?_
  · (repeat (first | refine rd ?_ | refine t_brT rfl ?_ | refine t_brF rfl ?_))
    exact out ((0, 0, 0), 5) _ (by unfold mread; rw [if_neg (by omega), if_neg (by omega), if_neg (by simpa using h3), if_pos (by omega)])
  clear r1 r2 r3 r4
  have v1 : val (bs.take 4) < 2 ^ (8 * 4) := val_lt2 (by simp; omega)
  have v2 : val ((bs.drop 4).take 4) < 2 ^ (8 * 4) := val_lt2 (by simp; omega)
  have v3 : val ((bs.drop 8).take 4) < 2 ^ (8 * 4) := val_lt2 (by simp; omega)
  refine t_join (fun vs => ex fun q : Nat => fact (vs = [.pointer (some ⟨q, 0, none⟩)]) ^ blk q 69 [.int .i64 (val (bs.take 4)), .int .i64 (val ((bs.drop 4).take 4)), .int .i64 (val ((bs.drop 8).take 4))] ^ blk p 69 [.int .i64 0, .int .i64 0, .int .i64 0] ^ R) (fun K hK => ?_) fun vs => t_ex fun q => t_fact fun hv => ?_
  · have done : ∀ q : Nat, Tri (blk q 69 [.int .i64 (val (bs.take 4)), .int .i64 (val ((bs.drop 4).take 4)), .int .i64 (val ((bs.drop 8).take 4))] ^ blk p 69 [.int .i64 0, .int .i64 0, .int .i64 0] ^ R) w0 (K [.pointer (some ⟨q, 0, none⟩)]) := fun q => (hK _).imp fun w h => sat_ex.2 ⟨q, sat_fact.2 ⟨rfl, h⟩⟩
    (repeat (first | refine rd ?_ | refine t_brT rfl ?_ | refine t_brF rfl ?_))
    refine t_sliceP 0 4 hb (.inl ⟨rfl, rfl⟩) (.inr rfl) (by decide) (by omega) fun a1 c1 r1 => ?_
    rw [List.drop_zero] at r1
    (repeat (first | refine rd ?_ | refine t_brT rfl ?_ | refine t_brF rfl ?_))
    refine t_both ?_ ?_
    · refine rn fun q => ?_
      (repeat (first | refine rd ?_ | refine t_brT rfl ?_ | refine t_brF rfl ?_))
      refine t_callV (rget4 r1.part (by simp; omega)) ?_
      (repeat (first | refine rd ?_ | refine t_brT rfl ?_ | refine t_brF rfl ?_))
      refine tl64 (by omega) (by omega) ?_
      refine t_sliceP 4 8 hb (.inr rfl) (.inr rfl) (by decide) (by omega) fun a2' c2' r2' => ?_
      have r2 : Rds byteE R (.slice a2' (8 - 4) c2') ((bs.drop 4).take 4) := by rw [List.drop_take] at r2'; exact r2'
      (repeat (first | refine rd ?_ | refine t_brT rfl ?_ | refine t_brF rfl ?_))
      refine t_callV (rget4 r2.part (by simp; omega)) ?_
      (repeat (first | refine rd ?_ | refine t_brT rfl ?_ | refine t_brF rfl ?_))
      refine tl64 (by omega) (by omega) ?_
      refine t_sliceP 8 12 hb (.inr rfl) (.inr rfl) (by decide) (by omega) fun a3' c3' r3' => ?_
      have r3 : Rds byteE R (.slice a3' (12 - 8) c3') ((bs.drop 8).take 4) := by rw [List.drop_take] at r3'; exact r3'
      (repeat (first | refine rd ?_ | refine t_brT rfl ?_ | refine t_brF rfl ?_))
      refine t_callV (rget4 r3.part (by simp; omega)) ?_
      (repeat (first | refine rd ?_ | refine t_brT rfl ?_ | refine t_brF rfl ?_))
      refine tl64 (by omega) (by omega) ?_
      (repeat (first | refine rd ?_ | refine t_brT rfl ?_ | refine t_brF rfl ?_))
      exact done q
    refine t_callV (rget4 r1.part (by simp; omega)) ?_
    (repeat (first | refine rd ?_ | refine t_brT rfl ?_ | refine t_brF rfl ?_))
    refine tl64 (by omega) (by omega) ?_
    refine t_sliceP 4 8 hb (.inr rfl) (.inr rfl) (by decide) (by omega) fun a2' c2' r2' => ?_
    have r2 : Rds byteE R (.slice a2' (8 - 4) c2') ((bs.drop 4).take 4) := by rw [List.drop_take] at r2'; exact r2'
    (repeat (first | refine rd ?_ | refine t_brT rfl ?_ | refine t_brF rfl ?_))
    refine t_both ?_ ?_
    · refine rn fun q => ?_
      (repeat (first | refine rd ?_ | refine t_brT rfl ?_ | refine t_brF rfl ?_))
      refine t_callV (rget4 r2.part (by simp; omega)) ?_
      (repeat (first | refine rd ?_ | refine t_brT rfl ?_ | refine t_brF rfl ?_))
      refine tl64 (by omega) (by omega) ?_
      refine t_sliceP 8 12 hb (.inr rfl) (.inr rfl) (by decide) (by omega) fun a3' c3' r3' => ?_
      have r3 : Rds byteE R (.slice a3' (12 - 8) c3') ((bs.drop 8).take 4) := by rw [List.drop_take] at r3'; exact r3'
      (repeat (first | refine rd ?_ | refine t_brT rfl ?_ | refine t_brF rfl ?_))
      refine t_callV (rget4 r3.part (by simp; omega)) ?_
      (repeat (first | refine rd ?_ | refine t_brT rfl ?_ | refine t_brF rfl ?_))
      refine tl64 (by omega) (by omega) ?_
      (repeat (first | refine rd ?_ | refine t_brT rfl ?_ | refine t_brF rfl ?_))
      exact done q
    refine t_callV (rget4 r2.part (by simp; omega)) ?_
    (repeat (first | refine rd ?_ | refine t_brT rfl ?_ | refine t_brF rfl ?_))
    refine tl64 (by omega) (by omega) ?_
    refine t_sliceP 8 12 hb (.inr rfl) (.inr rfl) (by decide) (by omega) fun a3' c3' r3' => ?_
    have r3 : Rds byteE R (.slice a3' (12 - 8) c3') ((bs.drop 8).take 4) := by rw [List.drop_take] at r3'; exact r3'
    (repeat (first | refine rd ?_ | refine t_brT rfl ?_ | refine t_brF rfl ?_))
    refine t_both ?_ ?_
    · refine rn fun q => ?_
      (repeat (first | refine rd ?_ | refine t_brT rfl ?_ | refine t_brF rfl ?_))
      refine t_callV (rget4 r3.part (by simp; omega)) ?_
      (repeat (first | refine rd ?_ | refine t_brT rfl ?_ | refine t_brF rfl ?_))
      refine tl64 (by omega) (by omega) ?_
      (repeat (first | refine rd ?_ | refine t_brT rfl ?_ | refine t_brF rfl ?_))
      exact done q
    refine t_callV (rget4 r3.part (by simp; omega)) ?_
    (repeat (first | refine rd ?_ | refine t_brT rfl ?_ | refine t_brF rfl ?_))
    refine tl64 (by omega) (by omega) ?_
    refine rn fun q => ?_
    (repeat (first | refine rd ?_ | refine t_brT rfl ?_ | refine t_brF rfl ?_))
    (repeat (first | refine rd ?_ | refine t_brT rfl ?_ | refine t_brF rfl ?_))
    exact done q
  · subst hv
    (repeat (first | refine rd ?_ | refine t_brT rfl ?_ | refine t_brF rfl ?_))
    have hmr : mread bs = if mayB (val (bs.take 4)) (val ((bs.drop 4).take 4)) (val ((bs.drop 8).take 4)) = true ∧ bs = mbytes (val (bs.take 4)) (val ((bs.drop 4).take 4)) (val ((bs.drop 8).take 4))
        then (((val (bs.take 4) : Int), (val ((bs.drop 4).take 4) : Int), (val ((bs.drop 8).take 4) : Int)), (0 : Int)) else ((0, 0, 0), 4) := by
      unfold mread
      rw [if_neg (by omega), if_neg (by omega), if_neg (by simpa using h3), if_neg (by omega)]
    generalize val (bs.take 4) = s at *
    generalize val ((bs.drop 4).take 4) = f at *
    generalize val ((bs.drop 8).take 4) = l at *
    cases hm : mayB s f l with
    | false =>
      refine t_callV (rmbytesNot_spec hm) ?_
      (repeat (first | refine rd ?_ | refine t_brT rfl ?_ | refine t_brF rfl ?_))
      exact out ((0, 0, 0), 4) _ (by rw [hmr, if_neg (by simp [hm])])
    | true =>
      refine t_callX (rmbytes_spec hm) fun y => ?_
      obtain ⟨ya, yc⟩ := y
      dsimp only
      (repeat (first | refine rd ?_ | refine t_brT rfl ?_ | refine t_brF rfl ?_))
      refine t_callV (sameNil hb.part (rdR byteE)) ?_
      (repeat (first | refine rd ?_ | refine t_brT rfl ?_ | refine t_brF rfl ?_))
      refine t_brD (fun h5 => ?_) fun h5 => ?_
      · (repeat (first | refine rd ?_ | refine t_brT rfl ?_ | refine t_brF rfl ?_))
        exact out ((s, f, l), 0) _ (by rw [hmr, if_pos ⟨hm, h5⟩])
      · (repeat (first | refine rd ?_ | refine t_brT rfl ?_ | refine t_brF rfl ?_))
        exact out ((0, 0, 0), 4) _ (by rw [hmr, if_neg (fun h => h5 h.2)])
set_option maxRecDepth 100000 in
theorem mreads_spec {v : Value} (hb : Rds byteE R v bs) (hl47 : bs.length ≤ 140737488355328) : Spec Try.prog 10 #[v] R fun u => fact (u = .bool true) ^ R := by
  refine Spec.mk fun w0 => t_shape hb fun a c hv hlc hcm => ?_
  subst hv
  refine Tri.use ?_ (F.hayloftlaw21_ManifestReads_ok _ _ _ _)
  unfold F.hayloftlaw21_ManifestReads
  refine t_callV alive21 ?_
  (repeat (first | refine rd ?_ | refine t_brT rfl ?_ | refine t_brF rfl ?_))
  refine t_callX (copy_spec hb hl47) fun y => ?_
  obtain ⟨ya, yc⟩ := y
  dsimp only
  (repeat (first | refine rd ?_ | refine t_brT rfl ?_ | refine t_brF rfl ?_))
  refine t_callV (mread_spec (rdR byteE)) ?_
  unfold tri3
  (repeat (first | refine rd ?_ | refine t_brT rfl ?_ | refine t_brF rfl ?_))
  refine rn fun p => ?_
  (repeat (first | refine rd ?_ | refine t_brT rfl ?_ | refine t_brF rfl ?_))
  refine t_callV (rmread_spec hb.part) ?_
  unfold tri3
  (repeat (first | refine rd ?_ | refine t_brT rfl ?_ | refine t_brF rfl ?_))
  refine rn fun q => ?_
  (repeat (first | refine rd ?_ | refine t_brT rfl ?_ | refine t_brF rfl ?_))
  refine t_joinDup ?_
  refine t_brE (fun _ => ?_) fun h => absurd rfl h
  (repeat (first | refine rd ?_ | refine t_brT rfl ?_ | refine t_brF rfl ?_))
  refine t_eq3 i3_ref ?_
  (repeat (first | refine rd ?_ | refine t_brT rfl ?_ | refine t_brF rfl ?_))
  refine t_brT (by simp) ?_
  refine t_callV (sameNil (rdR byteE) hb.part) ?_
  (repeat (first | refine rd ?_ | refine t_brT rfl ?_ | refine t_brF rfl ?_))
  refine t_postV (by simp) fun w h => h.right.right.right
end
end Go.Proofs.Ytehpdpdmjflddaa
