/-
  A disk that is laid: the program's, and the reference's.
-/
import Derived.Test.YtehpdpdmjflddaaDiskS
import Derived.Test.YtehpdpdmjflddaaFL05
namespace Go.Proofs.Ytehpdpdmjflddaa
open Go.RowKit

def cut64 (bs : List UInt8) (k : Nat) : List UInt8 := (bs.take (64 * k + 64)).drop (64 * k)
def DD.lay (bs : List UInt8) : DD := { DD.new (bs.length / 64) with sure := fun k => sec (cut64 bs k) }
theorem lay_ok (bs : List UInt8) (hn : bs.length / 64 ≤ 65536) : (DD.lay bs).ok := ⟨hn, fun _ => length_sec _, (fun x hx => nomatch hx), by show 0 < _; decide⟩
theorem lay_far (bs : List UInt8) (k : Nat) (h : bs.length ≤ 64 * k) : (DD.lay bs).sure k = zeros 64 := by
  show sec (cut64 bs k) = _
  unfold cut64
  rw [List.drop_eq_nil_of_le (by simp; omega)]
  rfl
section
variable {p : Nat} {D : DD} {R : SP} {w0 : World} {X : WP}
theorem rlay_spec {v : Value} {bs : List UInt8} (hb : Rds byteE R v bs) (hm : bs.length % 64 = 0) (h8 : 8 ≤ bs.length / 64) (hn : bs.length / 64 ≤ 65536) :
    Spec Try.prog 29 #[v] R fun u => ex fun p => fact (u = .tuple #[ptr p, .int .i64 0]) ^ refS p (DD.lay bs) ^ R := by
  refine Spec.mk fun w0 => t_shape hb fun a c hv _ _ => ?_
  subst hv
  refine Tri.use ?_ (F.hayloftref05_Lay_ok _ _ _ _)
  unfold F.hayloftref05_Lay
  refine t_remN bs.length 64 rfl rfl (by decide) ?_
  refine rd ?_
  refine t_brN (fun h => by omega) fun _ => ?_
  refine t_quoN bs.length 64 rfl rfl (by decide) (by omega) ?_
  refine rd ?_
  refine t_callX (rnew_spec _ h8 hn) fun p => ?_
  repeat refine rd ?_
  refine t_brF rfl ?_
  refine t_ref fun sa sc wa wc S W ok hS hW => ?_
  have hl0 : S.length = bs.length / 64 := S_len hS
  repeat refine rd ?_
  refine t_loop (σ := Nat × List (Nat × List UInt8)) (fun s => [.int .i64 s.1])
    (fun s => fact (s.1 ≤ S.length ∧ s.2.map (·.2) = (List.range (bs.length / 64)).map fun k => if k < s.1 then (DD.lay bs).sure k else zeros 64) ^ blk p 55 [.slice sa S.length sc, .slice wa W.length wc, .int .i64 0, .bool false, .int .i64 0] ^ row slE (.slice sa S.length sc) (s.2.map (·.1)) ^ sectorsS s.2 ^ row pnE (.slice wa W.length wc) (W.map fun y => (y.1, y.2.1)) ^ pendsS W ^ R)
    (fun s => S.length - s.1) (0, S) rfl (fun w h => sat_fact.2 ⟨⟨Nat.zero_le _, by simpa [DD.new] using hS⟩, h⟩) fun s => ?_
  obtain ⟨j, S1⟩ := s
  refine t_fact fun hk => ?_
  obtain ⟨hj, hS1⟩ := hk
  dsimp only at hj hS1 ⊢
  have hl1 : S1.length = S.length := by simpa [hl0] using congrArg List.length hS1
  repeat refine rd ?_
  refine t_brD (fun h => ?_) fun h => ?_
  · have hlt : j < S.length := by omega
    refine rd ?_
    refine t_pin (b := p) ?_
    repeat refine rd ?_
    refine tl64 (by omega) (by omega) ?_
    refine tl64 (by omega) (by omega) ?_
    refine tl64 (by omega) (by omega) ?_
    refine t_slice (64 * j) (64 * j + 64) hb.part (.inr (by simp)) (.inr (by simp)) (by omega) (by omega) fun a' c' hr => ?_
    refine rd ?_
    refine t_callX (sector_spec (by rw [show 64 * j + 64 - 64 * j = ((bs.take (64 * j + 64)).drop (64 * j)).length by simp; omega] at hr ⊢; exact hr) (by simp; omega)) fun g => ?_
    repeat refine rd ?_
    refine t_ixst slE j g rfl (by rw [List.length_map]; omega) rfl ?_
    repeat refine rd ?_
    refine tl64 (by omega) (by omega) ?_
    refine t_round (j + 1, S1.set j (g, (DD.lay bs).sure j)) rfl (by dsimp only; omega) fun w h => sat_fact.2 ⟨⟨by dsimp only; omega, ?_⟩, ?_⟩
    · rw [List.map_set, hS1, set_range _ _ _ _ (by omega)]
      refine List.map_congr_left fun i _ => ?_
      by_cases hij : i = j
      · subst hij; simp
      · rw [if_neg hij]
        by_cases hlt2 : i < j
        · rw [if_pos hlt2, if_pos (by omega)]
        · rw [if_neg hlt2, if_neg (by omega)]
    · refine (h.as (B := (secS (S1[j]'(by omega)).1 (S1[j]'(by omega)).2) ^ _) ?_).right
      rw [List.map_set]
      simp only [sectorsS]
      rw [bigS_set _ _ _ _ (by omega), bigS_get secP S1 j _ (List.getElem?_eq_getElem (by omega))]
      simp only [secP]
      show _ = (_ ^ _ ^ _ ^ (secS g (sec (cut64 bs j)) ^ _) ^ _)
      unfold cut64
      ac_rfl
  · have hj' : j = S.length := by omega
    subst hj'
    refine t_post fun w h => sat_ex.2 ⟨p, sat_fact.2 ⟨rfl, toRef (D := DD.lay bs) (S := S1) (W := W) sa sc wa wc (lay_ok bs hn) ?_ hW (h.as ?_)⟩⟩
    · rw [hS1]
      refine List.map_congr_left fun i hi => ?_
      rw [if_pos (by simpa [hl0] using hi)]
    · rw [hl1]; rfl
theorem rlayNot_spec {v : Value} {bs : List UInt8} (hb : Rds byteE R v bs) (hm : bs.length % 64 ≠ 0 ∨ bs.length / 64 < 8 ∨ 65536 < bs.length / 64) (hl : bs.length ≤ 9223372036854775807) :
    Spec Try.prog 29 #[v] R fun u => fact (u = .tuple #[.pointer none, .int .i64 2]) ^ R := by
  refine Spec.mk fun w0 => t_shape hb fun a c hv _ _ => ?_
  subst hv
  refine Tri.use ?_ (F.hayloftref05_Lay_ok _ _ _ _)
  unfold F.hayloftref05_Lay
  refine t_remN bs.length 64 rfl rfl (by decide) ?_
  refine rd ?_
  refine t_brN (fun h => t_postV rfl fun _ h => h) fun _ => ?_
  refine t_quoN bs.length 64 rfl rfl (by decide) (by omega) ?_
  refine rd ?_
  refine t_callV (rnewNot_spec (by omega)) ?_
  repeat refine rd ?_
  exact t_brT rfl (t_postV rfl fun _ h => h)
theorem t_disk (k : ∀ m es c va vc, D.ok → MapOk es D.sure → Tri (blk p 89 [.int .i64 D.n, .map (some m), .slice va D.wait.length vc, .int .i64 D.armed, .bool D.down, .int .i64 D.ops] ^ own m (.map es c) ^ pendS (.slice va D.wait.length vc) D.wait ^ R) w0 X) : Tri (diskS p D ^ R) w0 X := fun w hs hf => by
  obtain ⟨m, es, c, va, vc, ok, hm, h⟩ := hs.openDisk
  exact k m es c va vc ok hm w h hf
theorem toDisk {w : World} {m : Nat} {es : Array MapEntry} {c : Nat} {v : Value} (ok : D.ok) (hm : MapOk es D.sure) (h : Sat w (blk p 89 [.int .i64 D.n, .map (some m), v, .int .i64 D.armed, .bool D.down, .int .i64 D.ops] ^ own m (.map es c) ^ pendS v D.wait ^ R)) : Sat w (diskS p D ^ R) :=
  (show Sat w (headS p m v D ^ own m (.map es c) ^ pendS v D.wait ^ R) from h).re R (foldDisk ok hm) (by ac_rfl) rfl
theorem dlay_spec {v : Value} {bs : List UInt8} (hb : Rds byteE R v bs) (hm : bs.length % 64 = 0) (h8 : 8 ≤ bs.length / 64) (hn : bs.length / 64 ≤ 65536) :
    Spec Try.prog 28 #[v] R fun u => ex fun p => fact (u = .tuple #[ptr p, .int .i64 0]) ^ diskS p (DD.lay bs) ^ R := by
  refine Spec.mk fun w0 => t_shape hb fun a c hv _ _ => ?_
  subst hv
  refine Tri.use ?_ (F.disk_Lay_ok _ _ _ _)
  unfold F.disk_Lay
  refine t_remN bs.length 64 rfl rfl (by decide) ?_
  refine rd ?_
  refine t_brN (fun h => by omega) fun _ => ?_
  refine t_quoN bs.length 64 rfl rfl (by decide) (by omega) ?_
  refine rd ?_
  refine t_callX (dnew_spec _ h8 hn) fun p => ?_
  repeat refine rd ?_
  refine t_brF rfl ?_
  refine t_disk fun m es0 c0 va vc ok hm0 => ?_
  repeat refine rd ?_
  refine t_loop (σ := Nat × Array MapEntry × Nat) (fun s => [.int .i64 s.1])
    (fun s => fact (s.1 ≤ bs.length / 64 ∧ MapOk s.2.1 (fun k => if k < s.1 then (DD.lay bs).sure k else zeros 64)) ^ blk p 89 [.int .i64 (bs.length / 64 : Nat), .map (some m), .slice va 0 vc, .int .i64 0, .bool false, .int .i64 0] ^ own m (.map s.2.1 s.2.2) ^ pendS (.slice va 0 vc) [] ^ R)
    (fun s => bs.length / 64 - s.1) (0, es0, c0) rfl (fun w h => sat_fact.2 ⟨⟨Nat.zero_le _, by simpa [DD.new] using hm0⟩, h⟩) fun s => ?_
  obtain ⟨j, es, c1⟩ := s
  refine t_fact fun hk => ?_
  obtain ⟨hj, hmm⟩ := hk
  dsimp only at hj hmm ⊢
  repeat refine rd ?_
  refine t_brD (fun h => ?_) fun h => ?_
  · have hlt : j < bs.length / 64 := by have : (j : Int) < ((bs.length / 64 : Nat) : Int) := h; omega
    repeat refine rd ?_
    refine rn fun q => ?_
    repeat refine rd ?_
    refine t_sliceArr ?_
    repeat refine rd ?_
    refine tl64 (by omega) (by omega) ?_
    refine t_slice (64 * j) bs.length hb.part (.inr (by simp [Int.mul_comm])) (.inl ⟨rfl, rfl⟩) (by omega) (Nat.le_refl _) fun a' c' hr => ?_
    rw [List.take_length] at hr
    refine rd ?_
    have hmin : Nat.min (bs.drop (64 * j)).length 64 = 64 := Nat.min_eq_right (by simp; omega)
    refine t_copyB (b := q) rfl hr (by rw [hmin]; decide) ?_
    have e1 : splice (List.replicate 64 (Value.int .u8 0)) 0 (((bs.drop (64 * j)).flatMap byteE.enc).take (Nat.min (bs.drop (64 * j)).length 64)) = (sec (cut64 bs j)).map u8v := by
      have hl : (cut64 bs j).length = 64 := by unfold cut64; simp; omega
      rw [hmin, flat_bytes _ rfl, sec_long _ hl]
      have e2 : (bs.drop (64 * j)).take 64 = cut64 bs j := by unfold cut64; rw [List.drop_take]; congr 1; omega
      rw [← List.map_take, e2]
      simp only [splice, List.take_zero, List.nil_append, Nat.zero_add, List.length_map, hl]
      simp
    rw [e1]
    have : LenIs ((sec (cut64 bs j)).map u8v) 64 := ⟨by simp [length_sec]⟩
    repeat refine rd ?_
    refine t_mapUpd (m := m) hmm.1 ?_
    repeat refine rd ?_
    refine tl64 (by omega) (by omega) ?_
    refine t_round (j + 1, (mput es c1 j (secV (sec (cut64 bs j)))).1, (mput es c1 j (secV (sec (cut64 bs j)))).2) (by simp) (by dsimp only; omega) fun w h => sat_fact.2 ⟨⟨by dsimp only; omega, hmm.1.mput _ _, fun k => ?_⟩, ?_⟩
    · dsimp only
      rw [mget_mput]
      by_cases hk : k = j
      · subst hk
        simp [DD.lay]
      · rw [if_neg (by omega), hmm.2 k]
        by_cases h2 : k < j
        · simp only [if_pos h2, if_pos (show k < j + 1 by omega)]
        · simp only [if_neg h2, if_neg (show ¬ k < j + 1 by omega)]
    · exact (h.as (B := blk q 92 ((sec (cut64 bs j)).map u8v) ^ _) (by ac_rfl)).right
  · have hj' : j = bs.length / 64 := by have : ¬ (j : Int) < ((bs.length / 64 : Nat) : Int) := h; omega
    subst hj'
    refine t_post fun w h => sat_ex.2 ⟨p, sat_fact.2 ⟨rfl, toDisk (D := DD.lay bs) (lay_ok bs hn) ⟨hmm.1, fun k => ?_⟩ h⟩⟩
    rw [hmm.2 k]
    by_cases hk : k < bs.length / 64
    · simp only [if_pos hk]
    · simp only [if_neg hk]
      rw [lay_far bs k (by omega)]
theorem dlayNot_spec {v : Value} {bs : List UInt8} (hb : Rds byteE R v bs) (hm : bs.length % 64 ≠ 0 ∨ bs.length / 64 < 8 ∨ 65536 < bs.length / 64) (hl : bs.length ≤ 9223372036854775807) :
    Spec Try.prog 28 #[v] R fun u => fact (u = .tuple #[.pointer none, .int .i64 2]) ^ R := by
  refine Spec.mk fun w0 => t_shape hb fun a c hv _ _ => ?_
  subst hv
  refine Tri.use ?_ (F.disk_Lay_ok _ _ _ _)
  unfold F.disk_Lay
  refine t_remN bs.length 64 rfl rfl (by decide) ?_
  refine rd ?_
  refine t_brN (fun h => t_postV rfl fun _ h => h) fun _ => ?_
  refine t_quoN bs.length 64 rfl rfl (by decide) (by omega) ?_
  refine rd ?_
  refine t_callV (dnewNot_spec (by omega)) ?_
  repeat refine rd ?_
  exact t_brT rfl (t_postV rfl fun _ h => h)
theorem size_spec {x : Int} (h0 : 0 ≤ x) : Spec Try.prog 30 #[.int .u8 x] R fun u => fact (u = .int .i64 ((8 + x.toNat % 32 : Nat))) ^ R := by
  refine Spec.mk fun w0 => Tri.use ?_ (F.hayloftlaw05_size_ok _ _)
  unfold F.hayloftlaw05_size
  obtain ⟨k, rfl⟩ : ∃ k : Nat, x = k := ⟨x.toNat, by omega⟩
  refine t_remN k 32 rfl rfl (by decide) ?_
  refine rd ?_
  have := Nat.mod_lt k (show 0 < 32 by decide)
  refine tl64 (by omega) (by omega) ?_
  refine tl64 (by omega) (by omega) ?_
  exact t_postV (by simp) fun _ h => h
end
end Go.Proofs.Ytehpdpdmjflddaa
