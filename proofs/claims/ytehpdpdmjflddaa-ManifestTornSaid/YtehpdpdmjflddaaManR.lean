/-
  Manifests read; the reference's; alive of law21.
-/
import Derived.Test.YtehpdpdmjflddaaMan
import Derived.Test.YtehpdpdmjflddaaApZ
import Derived.Test.YtehpdpdmjflddaaFL21
namespace Go.Proofs.Ytehpdpdmjflddaa
open Go.RowKit

def mread (bs : List UInt8) : (Int × Int × Int) × Int :=
  if bs.length < 64 then ((0, 0, 0), 3) else if 64 < bs.length then ((0, 0, 0), 6) else if bs.take 4 ≠ bs.drop 60 then ((0, 0, 0), 9) else
  if crc (bs.take 56) ≠ val ((bs.take 60).drop 56) then ((0, 0, 0), 5) else
  if mayB (val (bs.take 4)) (val ((bs.drop 4).take 4)) (val ((bs.drop 8).take 4)) = true ∧ bs = mbytes (val (bs.take 4)) (val ((bs.drop 4).take 4)) (val ((bs.drop 8).take 4))
  then ((val (bs.take 4), val ((bs.drop 4).take 4), val ((bs.drop 8).take 4)), 0) else ((0, 0, 0), 4)
def tri3 (m : Int × Int × Int) : Value := .agg #[.int .i64 m.1, .int .i64 m.2.1, .int .i64 m.2.2]
section
variable {R : SP} {w0 : World} {X : WP} {bs : List UInt8}
theorem mbytesNot_spec {s f l : Int} (hm : mayB s f l = false) : Spec Try.prog 39 #[.agg #[.int .i64 s, .int .i64 f, .int .i64 l]] R fun u => fact (u = .tuple #[.slice none 0 0, .int .i64 4]) ^ R := by
  refine Spec.mk fun w0 => Tri.use ?_ (F.manifest_Bytes_ok _ _ _ _)
  unfold F.manifest_Bytes
  refine rn fun p => ?_
  (repeat (first | refine rd ?_ | refine t_brT rfl ?_ | refine t_brF rfl ?_))
  refine t_callV may_spec ?_
  rw [hm]
  (repeat (first | refine rd ?_ | refine t_brT rfl ?_ | refine t_brF rfl ?_))
  exact t_postV rfl fun w h => h.right
theorem rmbytesNot_spec {s f l : Int} (hm : mayB s f l = false) : Spec Try.prog 40 #[.agg #[.int .i64 s, .int .i64 f, .int .i64 l]] R fun u => fact (u = .tuple #[.slice none 0 0, .int .i64 4]) ^ R := by
  refine Spec.mk fun w0 => Tri.use ?_ (F.hayloftref21_Bytes_ok _ _ _ _)
  unfold F.hayloftref21_Bytes
  refine rn fun p => ?_
  (repeat (first | refine rd ?_ | refine t_brT rfl ?_ | refine t_brF rfl ?_))
  refine t_callV rmay_spec ?_
  rw [hm]
  (repeat (first | refine rd ?_ | refine t_brT rfl ?_ | refine t_brF rfl ?_))
  exact t_postV rfl fun w h => h.right
def acc3 (s f l k : Nat) : List UInt8 := ([s, f, l].take k).flatMap fun n => le n 4
theorem acc3_length (s f l : Nat) {k : Nat} (hk : k ≤ 3) : (acc3 s f l k).length = 4 * k := by
  obtain rfl | rfl | rfl | rfl : k = 0 ∨ k = 1 ∨ k = 2 ∨ k = 3 := by omega
  all_goals rfl
theorem acc3_succ (s f l n : Nat) {k : Nat} (h : [s, f, l][k]? = some n) : acc3 s f l (k + 1) = acc3 s f l k ++ le n 4 := by
  unfold acc3
  rw [List.take_add_one, h, List.flatMap_append]
  simp
set_option maxRecDepth 100000 in
theorem rmbytes_spec {s f l : Nat} (hm : mayB s f l = true) : Spec Try.prog 40 #[.agg #[.int .i64 s, .int .i64 f, .int .i64 l]] R fun u => ex fun x : Option Addr × Nat => fact (u = .tuple #[.slice x.1 64 x.2, .int .i64 0]) ^ row byteE (.slice x.1 64 x.2) (mbytes s f l) ^ R := by
  have hm2 := of_decide_eq_true hm
  refine Spec.mk fun w0 => Tri.use ?_ (F.hayloftref21_Bytes_ok _ _ _ _)
  unfold F.hayloftref21_Bytes
  refine rn fun p => ?_
  (repeat (first | refine rd ?_ | refine t_brT rfl ?_ | refine t_brF rfl ?_))
  refine t_callV rmay_spec ?_
  rw [hm]
  (repeat (first | refine rd ?_ | refine t_brT rfl ?_ | refine t_brF rfl ?_))
  refine t_build3 intE (s : Int) f l rfl rfl rfl fun g => ?_
  (repeat (first | refine rd ?_ | refine t_brT rfl ?_ | refine t_brF rfl ?_))
  refine t_loop (σ := Nat × Option Addr × Nat) (fun x => [.slice x.2.1 (4 * x.1) x.2.2, .int .i64 x.1]) (fun x => fact (x.1 ≤ 3) ^ row byteE (.slice x.2.1 (4 * x.1) x.2.2) (acc3 s f l x.1) ^ row intE (.slice (some ⟨g, 0, none⟩) 3 3) [(s : Int), f, l] ^ blk p 69 [.int .i64 s, .int .i64 f, .int .i64 l] ^ R) (fun x => 3 - x.1) (0, none, 0) rfl (fun w h => sat_fact.2 ⟨by decide, h.as (by show _ = (row byteE (.slice none 0 0) [] ^ _); rw [row_nil rfl, emp_star])⟩) fun x => ?_
  obtain ⟨k, a, c⟩ := x
  refine t_fact fun hk => ?_
  dsimp only at hk ⊢
  (repeat (first | refine rd ?_ | refine t_brT rfl ?_ | refine t_brF rfl ?_))
  refine t_brD (fun h => ?_) fun h => ?_
  · have hlt : k < 3 := by omega
    obtain ⟨n, hn⟩ : ∃ n, [s, f, l][k]? = some n := ⟨_, List.getElem?_eq_getElem hlt⟩
    have hni : [(s : Int), f, l][k]? = some (n : Int) := by
      obtain rfl | rfl | rfl : k = 0 ∨ k = 1 ∨ k = 2 := by omega
      all_goals (simp at hn; subst hn; rfl)
    have hnb : n < 2 ^ 64 := by
      have := List.mem_of_getElem? hn
      simp at this
      rcases this with rfl | rfl | rfl <;> omega
    refine t_ixld0 (E := intE) k (rdR intE) rfl hni rfl ?_
    refine rd ?_
    refine tlE (wrap64u hnb) ?_
    refine t_callX (rput_spec (w := 4) (by decide) hnb) fun y => ?_
    obtain ⟨pa, pc⟩ := y
    dsimp only
    (repeat (first | refine rd ?_ | refine t_brT rfl ?_ | refine t_brF rfl ?_))
    refine t_append (E := byteE) (xs := acc3 s f l k) (ys := le n 4) (rdR byteE) (by rw [acc3_length _ _ _ hk, le_length]; omega) (by rw [acc3_length _ _ _ hk, le_length]; omega) fun a' c' => ?_
    rw [acc3_length _ _ _ hk, le_length, ← acc3_succ s f l n hn]
    (repeat (first | refine rd ?_ | refine t_brT rfl ?_ | refine t_brF rfl ?_))
    refine tl64 (by omega) (by omega) ?_
    refine t_round (k + 1, a', c') rfl (by dsimp only; omega) fun w h => sat_fact.2 ⟨by dsimp only; omega, ?_⟩
    exact sat_keep1 (h.as (B := row byteE (.slice a' (4 * k + 4) c') (acc3 s f l (k + 1)) ^ row byteE (.slice pa 4 pc) (le n 4) ^ row intE (.slice (some ⟨g, 0, none⟩) 3 3) [(s : Int), f, l] ^ blk p 69 [.int .i64 s, .int .i64 f, .int .i64 l] ^ R) (by ac_rfl))
  · have : k = 3 := by omega
    subst this
    have e3 : (acc3 s f l 3).length = 12 := acc3_length _ _ _ (Nat.le_refl _)
    refine t_appendZ (E := byteE) 44 0 Try.underlying3 rfl rfl (by decide) (by rw [e3]; decide) (by rw [e3]; decide) fun a1 c1 => ?_
    have eh : acc3 s f l 3 ++ List.replicate 44 0 = mhead s f l := by simp [acc3, mhead, zeros]
    rw [eh, e3]
    (repeat (first | refine rd ?_ | refine t_brT rfl ?_ | refine t_brF rfl ?_))
    refine t_callV (rsum_spec (rdR byteE)) ?_
    (repeat (first | refine rd ?_ | refine t_brT rfl ?_ | refine t_brF rfl ?_))
    have hc := crc_lt (mhead s f l)
    refine tlE (wrap64u (by omega)) ?_
    refine t_callX (rput_spec (w := 4) (by decide) (by omega)) fun y => ?_
    obtain ⟨pa, pc⟩ := y
    dsimp only
    (repeat (first | refine rd ?_ | refine t_brT rfl ?_ | refine t_brF rfl ?_))
    refine t_append (E := byteE) (xs := mhead s f l) (ys := le (crc (mhead s f l)) 4) (rdR byteE) (by rw [mhead_length, le_length]; omega) (by rw [mhead_length, le_length]; omega) fun a2 c2 => ?_
    rw [mhead_length, le_length]
    (repeat (first | refine rd ?_ | refine t_brT rfl ?_ | refine t_brF rfl ?_))
    refine tlE (wrap64u (by omega)) ?_
    refine t_callX (rput_spec (w := 4) (by decide) (by omega)) fun y => ?_
    obtain ⟨qa, qc⟩ := y
    dsimp only
    (repeat (first | refine rd ?_ | refine t_brT rfl ?_ | refine t_brF rfl ?_))
    refine t_append (E := byteE) (xs := mhead s f l ++ le (crc (mhead s f l)) 4) (ys := le s 4) (rdR byteE) (by rw [List.length_append, mhead_length, le_length, le_length]; omega) (by rw [List.length_append, mhead_length, le_length, le_length]; omega) fun a3 c3 => ?_
    rw [List.length_append, mhead_length, le_length, le_length]
    (repeat (first | refine rd ?_ | refine t_brT rfl ?_ | refine t_brF rfl ?_))
    refine t_front (row byteE (.slice a3 (56 + 4 + 4) c3) (mhead s f l ++ le (crc (mhead s f l)) 4 ++ le s 4)) ?_
    exact t_post fun w h => sat_ex.2 ⟨(a3, c3), sat_fact.2 ⟨rfl, sat_keep1 h⟩⟩
theorem sector_slot_spec {i n : Int} (hn : n ≤ 9223372036854775807) : Spec Try.prog 41 #[.int .i64 i, .int .i64 n] R fun u => fact (u = .int .i64 (if 8 ≤ n ∧ n ≤ 65536 ∧ (i = 0 ∨ i = 1) then (if i = 0 then 0 else n - 1) else -1)) ^ R := by
  refine Spec.mk fun w0 => Tri.use ?_ (F.manifest_Sector_ok _ _ _)
  unfold F.manifest_Sector
  refine t_brD (fun h => t_postV (by rw [if_neg (by omega)]) fun _ h => h) fun h1 => ?_
  refine t_brD (fun h => t_postV (by rw [if_neg (by omega)]) fun _ h => h) fun h2 => ?_
  refine t_brE (fun h => t_postV (by rw [if_pos (by omega), if_pos h]) fun _ h => h) fun h3 => ?_
  refine t_brE (fun h => ?_) fun h4 => t_postV (by rw [if_neg (by omega)]) fun _ h => h
  refine tl64 (by omega) (by omega) ?_
  exact t_postV (by rw [if_pos (by omega), if_neg h3]) fun _ h => h
theorem rsector_slot_spec {i n : Int} (hn : n ≤ 9223372036854775807) : Spec Try.prog 42 #[.int .i64 i, .int .i64 n] R fun u => fact (u = .int .i64 (if 8 ≤ n ∧ n ≤ 65536 ∧ (i = 0 ∨ i = 1) then (if i = 0 then 0 else n - 1) else -1)) ^ R := by
  refine Spec.mk fun w0 => Tri.use ?_ (F.hayloftref21_Sector_ok _ _ _)
  unfold F.hayloftref21_Sector
  refine t_brD (fun h => t_postV (by rw [if_neg (by omega)]) fun _ h => h) fun h1 => ?_
  refine t_brD (fun h => t_postV (by rw [if_neg (by omega)]) fun _ h => h) fun h2 => ?_
  refine t_brD (fun h => t_postV (by rw [if_neg (by omega)]) fun _ h => h) fun h3 => ?_
  refine t_brD (fun h => t_postV (by rw [if_neg (by omega)]) fun _ h => h) fun h4 => ?_
  refine t_brE (fun h => t_postV (by rw [if_pos (by omega), if_pos h]) fun _ h => h) fun h5 => ?_
  refine tl64 (by omega) (by omega) ?_
  exact t_postV (by rw [if_pos (by omega), if_neg h5]) fun _ h => h
set_option maxRecDepth 100000 in
theorem mread_spec {v : Value} (hb : Rds byteE R v bs) : Spec Try.prog 43 #[v] R fun u => fact (u = .tuple #[tri3 (mread bs).1, .int .i64 (mread bs).2]) ^ R := by
  refine Spec.mk fun w0 => t_shape hb fun a c hv hlc hcm => ?_
  unfold maxLen at hcm
  subst hv
  refine Tri.use ?_ (F.manifest_Read_ok _ _ _ _)
  unfold F.manifest_Read
  refine rn fun p => ?_
  (repeat (first | refine rd ?_ | refine t_brT rfl ?_ | refine t_brF rfl ?_))
  have out : ∀ (m : (Int × Int × Int) × Int) (X : SP) [Part X R], mread bs = m → Tri X w0 (Post (fun u => fact (u = .tuple #[tri3 (mread bs).1, .int .i64 (mread bs).2]) ^ R) w0 (.tuple #[tri3 m.1, .int .i64 m.2])) := fun m X hX h => by
    rw [h]
    exact t_postV rfl fun w h => hX.sub w h
  refine t_brD (fun h => ?_) fun h1 => ?_
  · (repeat (first | refine rd ?_ | refine t_brT rfl ?_ | refine t_brF rfl ?_))
    exact out ((0, 0, 0), 3) _ (by unfold mread; rw [if_pos (by omega)])
  refine t_brD (fun h => ?_) fun h2 => ?_
  · (repeat (first | refine rd ?_ | refine t_brT rfl ?_ | refine t_brF rfl ?_))
    exact out ((0, 0, 0), 6) _ (by unfold mread; rw [if_neg (by omega), if_pos (by omega)])
  have hl : bs.length = 64 := by omega
  (repeat (first | refine rd ?_ | refine t_brT rfl ?_ | refine t_brF rfl ?_))
  refine t_sliceP 0 4 hb (.inl ⟨rfl, rfl⟩) (.inr rfl) (by decide) (by omega) fun a1 c1 r1 => ?_
  (repeat (first | refine rd ?_ | refine t_brT rfl ?_ | refine t_brF rfl ?_))
  refine t_sliceP 60 bs.length hb (.inr rfl) (.inl ⟨rfl, rfl⟩) (by omega) (Nat.le_refl _) fun a2 c2 r2 => ?_
  rw [List.drop_zero] at r1
  rw [List.take_length] at r2
  (repeat (first | refine rd ?_ | refine t_brT rfl ?_ | refine t_brF rfl ?_))
  refine t_callV (equal_spec r1.part r2.part) ?_
  (repeat (first | refine rd ?_ | refine t_brT rfl ?_ | refine t_brF rfl ?_))
  refine t_brD (fun h3 => ?_) fun h3 => ?_
  rotate_left
  · (repeat (first | refine rd ?_ | refine t_brT rfl ?_ | refine t_brF rfl ?_))
    exact out ((0, 0, 0), 9) _ (by unfold mread; rw [if_neg (by omega), if_neg (by omega), if_pos h3])
  (repeat (first | refine rd ?_ | refine t_brT rfl ?_ | refine t_brF rfl ?_))
  refine t_sliceP 0 56 hb (.inl ⟨rfl, rfl⟩) (.inr rfl) (by decide) (by omega) fun a3 c3 r3 => ?_
  rw [List.drop_zero] at r3
  (repeat (first | refine rd ?_ | refine t_brT rfl ?_ | refine t_brF rfl ?_))
  refine t_callV (sum_spec r3.part) ?_
  (repeat (first | refine rd ?_ | refine t_brT rfl ?_ | refine t_brF rfl ?_))
  have hc := crc_lt (bs.take 56)
  refine tlE (wrap64u (by omega)) ?_
  refine t_sliceP 56 60 hb (.inr rfl) (.inr rfl) (by decide) (by omega) fun a4 c4 r4 => ?_
  (repeat (first | refine rd ?_ | refine t_brT rfl ?_ | refine t_brF rfl ?_))
  refine t_callV (get_spec r4.part) ?_
  rw [List.take_of_length_le (l := (bs.take 60).drop 56) (by simp; omega)]
  (repeat (first | refine rd ?_ | refine t_brT rfl ?_ | refine t_brF rfl ?_))
  refine t_brN (fun h4 => ?_) fun h4 => ?_
  · (repeat (first | refine rd ?_ | refine t_brT rfl ?_ | refine t_brF rfl ?_))
    exact out ((0, 0, 0), 5) _ (by unfold mread; rw [if_neg (by omega), if_neg (by omega), if_neg (by simpa using h3), if_pos (by omega)])
  refine t_callX (open_spec hb.part (by omega)) fun r => ?_
  (repeat (first | refine rd ?_ | refine t_brT rfl ?_ | refine t_brF rfl ?_))
  refine t_callV (fixed_spec (w := 4) (by decide)) ?_
  have e1 : rdBytes bs 0 (4 : Nat) = (bs.take 4, bs.drop 4, 0) := by unfold rdBytes; rw [if_neg (by decide), if_neg (by omega)]; rfl
  have e2 : rdBytes (bs.drop 4) 0 (4 : Nat) = ((bs.drop 4).take 4, bs.drop 8, 0) := by unfold rdBytes; rw [if_neg (by decide), if_neg (by simp; omega), List.drop_drop]; rfl
  have e3 : rdBytes (bs.drop 8) 0 (4 : Nat) = ((bs.drop 8).take 4, bs.drop 12, 0) := by unfold rdBytes; rw [if_neg (by decide), if_neg (by simp; omega), List.drop_drop]; rfl
  rw [e1]
  dsimp only
  (repeat (first | refine rd ?_ | refine t_brT rfl ?_ | refine t_brF rfl ?_))
  have v1 : val (bs.take 4) < 2 ^ (8 * 4) := val_lt2 (by simp; omega)
  have v2 : val ((bs.drop 4).take 4) < 2 ^ (8 * 4) := val_lt2 (by simp; omega)
  have v3 : val ((bs.drop 8).take 4) < 2 ^ (8 * 4) := val_lt2 (by simp; omega)
  refine tl64 (by omega) (by omega) ?_
  refine t_callV (fixed_spec (w := 4) (by decide)) ?_
  rw [e2]
  dsimp only
  (repeat (first | refine rd ?_ | refine t_brT rfl ?_ | refine t_brF rfl ?_))
  refine tl64 (by omega) (by omega) ?_
  refine t_callV (fixed_spec (w := 4) (by decide)) ?_
  rw [e3]
  dsimp only
  (repeat (first | refine rd ?_ | refine t_brT rfl ?_ | refine t_brF rfl ?_))
  refine tl64 (by omega) (by omega) ?_
  refine rn fun q => ?_
  (repeat (first | refine rd ?_ | refine t_brT rfl ?_ | refine t_brF rfl ?_))
  have hmr : mread bs = if mayB (val (bs.take 4)) (val ((bs.drop 4).take 4)) (val ((bs.drop 8).take 4)) = true ∧ bs = mbytes (val (bs.take 4)) (val ((bs.drop 4).take 4)) (val ((bs.drop 8).take 4))
      then (((val (bs.take 4) : Int), (val ((bs.drop 4).take 4) : Int), (val ((bs.drop 8).take 4) : Int)), (0 : Int)) else ((0, 0, 0), 4) := by
    unfold mread
    rw [if_neg (by omega), if_neg (by omega), if_neg (by simpa using h3), if_neg (by omega)]
  generalize val (bs.take 4) = s at *
  generalize val ((bs.drop 4).take 4) = f at *
  generalize val ((bs.drop 8).take 4) = l at *
  cases hm : mayB s f l with
  | false =>
    refine t_callV (mbytesNot_spec hm) ?_
    (repeat (first | refine rd ?_ | refine t_brT rfl ?_ | refine t_brF rfl ?_))
    exact out ((0, 0, 0), 4) _ (by rw [hmr, if_neg (by simp [hm])])
  | true =>
    refine t_callX (mbytes_spec hm) fun g => ?_
    (repeat (first | refine rd ?_ | refine t_brT rfl ?_ | refine t_brF rfl ?_))
    refine t_callV (equal_spec hb.part (rds_bytes (g := g) (mbytes_length _ _ _) (by decide))) ?_
    (repeat (first | refine rd ?_ | refine t_brT rfl ?_ | refine t_brF rfl ?_))
    refine t_brD (fun h5 => ?_) fun h5 => ?_
    · (repeat (first | refine rd ?_ | refine t_brT rfl ?_ | refine t_brF rfl ?_))
      exact out ((s, f, l), 0) _ (by rw [hmr, if_pos ⟨hm, h5⟩])
    · (repeat (first | refine rd ?_ | refine t_brT rfl ?_ | refine t_brF rfl ?_))
      exact out ((0, 0, 0), 4) _ (by rw [hmr, if_neg (fun h => h5 h.2)])
end
end Go.Proofs.Ytehpdpdmjflddaa
