/-
  The walk of DiskMakes.
-/
import Derived.Test.YtehpdpdmjflddaaLays
namespace Go.Proofs.Ytehpdpdmjflddaa
open Go.RowKit

theorem u8_up (b : UInt8) : IntKind.u8.wrap ((b.toNat : Int) + 1) = ((b + 1).toNat : Int) := by
  rw [IntKind.wrap_u8, UInt8.toNat_add]
  simp
theorem cuts (bs : List UInt8) : ∀ n, 64 * n ≤ bs.length → (List.range n).flatMap (cut64 bs) = bs.take (64 * n)
  | 0, _ => by simp
  | n + 1, h => by
    rw [List.range_succ, List.flatMap_append, cuts bs n (by omega), List.flatMap_singleton]
    unfold cut64
    rw [← List.take_append_drop (64 * n) (bs.take (64 * (n + 1)))]
    congr 1
    rw [List.take_take]
    congr 1
    omega
theorem lay_image (bs : List UInt8) (hm : bs.length % 64 = 0) : (DD.lay bs).image = bs := by
  have h1 : ∀ k ∈ List.range (bs.length / 64), sec (cut64 bs k) = cut64 bs k := fun k hk => sec_long _ (by
    have := List.mem_range.1 hk
    unfold cut64
    simp
    omega)
  unfold DD.image
  show (List.range (bs.length / 64)).flatMap (fun k => sec (cut64 bs k)) = bs
  rw [List.flatMap_def, List.map_congr_left h1, ← List.flatMap_def, cuts bs _ (by omega), List.take_of_length_le (by omega)]
section
variable {R : SP} {w0 : World} {X : WP}
theorem dnew_any (m : Int) : Spec Try.prog 14 #[.int .i64 m] R fun v => ex fun x : Option Nat => fact (v = .tuple #[.pointer (x.map fun p => ⟨p, 0, none⟩), .int .i64 (if x.isSome then 0 else 2)]) ^ fact (x.isSome = true ↔ 8 ≤ m ∧ m ≤ 65536) ^ (match x with | some p => diskS p (DD.new m.toNat) | none => emp) ^ R := fun w h => by
  by_cases hm : 8 ≤ m ∧ m ≤ 65536
  · obtain ⟨n, rfl⟩ : ∃ n : Nat, m = n := ⟨m.toNat, by omega⟩
    refine (dnew_spec n (by omega) (by omega) w h).mono fun _ _ ⟨v, e, h1, h2⟩ => ⟨v, e, ?_, h2⟩
    rw [sat_ex] at h1
    obtain ⟨p, h1⟩ := h1
    rw [sat_fact] at h1
    exact sat_ex.2 ⟨some p, sat_fact.2 ⟨h1.1, sat_fact.2 ⟨by simp; omega, h1.2⟩⟩⟩
  · refine (dnewNot_spec (n := m) (by omega) w h).mono fun _ _ ⟨v, e, h1, h2⟩ => ⟨v, e, ?_, h2⟩
    rw [sat_fact] at h1
    exact sat_ex.2 ⟨none, sat_fact.2 ⟨h1.1, sat_fact.2 ⟨by simpa using hm, h1.2.as (emp_star _).symm⟩⟩⟩
theorem aliveS : Spec Try.prog 13 #[] R fun v => fact (v = .bool true) ^ R := Spec.of fun w h => alive_spec R w h
set_option maxRecDepth 100000 in
theorem makes_spec {m : Int} {v : Value} {bs : List UInt8} (hb : Rds byteE R v bs) (hl47 : bs.length ≤ 140737488355328) :
    Spec Try.prog 6 #[.int .i64 m, v] R fun u => fact (u = .bool true) ^ R := by
  refine Spec.mk fun w0 => t_shape hb fun a c hv hlc hcm => ?_
  unfold maxLen at hcm
  subst hv
  refine Tri.use ?_ (F.hayloftlaw05_DiskMakes_ok _ _ _ _ _)
  unfold F.hayloftlaw05_DiskMakes
  refine t_callV aliveS ?_
  repeat refine rd ?_
  refine t_callX (dnew_any m) fun x => t_fact fun hx => ?_
  repeat refine rd ?_
  refine t_join (fun vs => fact (vs = [.bool false]) ^ R) (fun K hK => ?_) fun vs => t_fact fun h => ?_
  · have done : Tri R w0 (K [.bool false]) := (hK _).imp fun w h => sat_fact.2 ⟨rfl, h⟩
    cases x with
    | none =>
      have hx' : ¬ (8 ≤ m ∧ m ≤ 65536) := by simpa using hx
      refine t_brD (fun h => ?_) fun h => ?_
      · repeat (first | refine rd ?_ | refine t_brT rfl ?_ | refine t_brF rfl ?_)
        exact done
      · repeat refine rd ?_
        refine t_brT (by simp; omega) ?_
        repeat (first | refine rd ?_ | refine t_brT rfl ?_ | refine t_brF rfl ?_)
        exact done
    | some p =>
      have hx' : 8 ≤ m ∧ m ≤ 65536 := by simpa using hx
      refine t_brD (fun h => by omega) fun h => ?_
      refine rd ?_
      refine t_brT (by simp; omega) ?_
      repeat (first | refine rd ?_ | refine t_brT rfl ?_ | refine t_brF rfl ?_)
      refine t_callV dlen_spec ?_
      refine rd ?_
      refine t_drop ?_
      rw [show (((DD.new m.toNat).n : Int) != m) = false by show ((m.toNat : Int) != m) = false; simp; omega]
      exact done
  · subst h
    repeat refine rd ?_
    refine t_callX (copy_spec hb hl47) fun y => ?_
    obtain ⟨a1, c1⟩ := y
    repeat refine rd ?_
    by_cases hg : bs.length % 64 = 0 ∧ 8 ≤ bs.length / 64 ∧ bs.length / 64 ≤ 65536
    · obtain ⟨g1, g2, g3⟩ := hg
      refine t_callX (dlay_spec (rdR byteE) g1 g2 g3) fun p => ?_
      repeat refine rd ?_
      refine t_callX (rlay_spec hb.part g1 g2 g3) fun r => ?_
      repeat refine rd ?_
      refine t_brF rfl ?_
      refine t_callV (same_specS (e1 := 5) (e2 := 5) (rdR byteE) hb.part) ?_
      repeat refine rd ?_
      refine t_brT (by simp) ?_
      refine t_brF rfl ?_
      refine t_loop (σ := Nat × List UInt8) (fun s => [.int .i64 s.1]) (fun s => fact (s.1 ≤ bs.length ∧ s.2.length = bs.length) ^ row byteE (.slice a1 bs.length c1) s.2 ^ refS r (DD.lay bs) ^ diskS p (DD.lay bs) ^ R) (fun s => bs.length - s.1) (0, bs) rfl (fun w h => sat_fact.2 ⟨⟨Nat.zero_le _, rfl⟩, h.as (by ac_rfl)⟩) fun s => ?_
      obtain ⟨j, xs⟩ := s
      refine t_fact fun hk => ?_
      obtain ⟨hj, hxl⟩ := hk
      dsimp only at hj hxl ⊢
      repeat refine rd ?_
      refine t_brD (fun h => ?_) fun h => ?_
      · have hlt : j < xs.length := by omega
        refine t_ixld0 j (rdR byteE) rfl (List.getElem?_eq_getElem hlt) rfl ?_
        refine rd ?_
        refine tlE (u8_up _) ?_
        refine t_ixst byteE j (xs[j] + 1) rfl hlt rfl ?_
        refine tl64 (by omega) (by omega) ?_
        exact t_round (j + 1, xs.set j (xs[j] + 1)) rfl (by dsimp only; omega) fun w h => sat_fact.2 ⟨⟨by dsimp only; omega, by simpa using hxl⟩, h⟩
      · refine t_joinDup ?_
        refine rd ?_
        refine t_front (refS r (DD.lay bs)) ?_
        refine t_ref fun sa sc wa wc S W ok hS hW => ?_
        refine t_pin (b := r) ?_
        refine t_front (diskS p (DD.lay bs)) ?_
        refine t_callV dlen_spec ?_
        repeat refine rd ?_
        refine t_brE (fun _ => ?_) fun h => absurd (by rw [S_len hS]) h
        refine t_callV dpending_spec ?_
        repeat refine rd ?_
        refine t_brT rfl ?_
        refine t_callV ddown_spec ?_
        repeat refine rd ?_
        refine t_brF rfl ?_
        refine t_callV dops_spec ?_
        repeat refine rd ?_
        refine t_brT rfl ?_
        refine t_callX dimage_spec fun y => ?_
        repeat refine rd ?_
        refine t_callV (same_specS (e2 := 5) (rdR (byteT y.1)) hb.part) ?_
        repeat refine rd ?_
        refine t_postV (by rw [lay_image bs g1]; simp) fun w h => h.right.right.right.right.right.right.right.right
    · refine t_callV (dlayNot_spec (rdR byteE) (by omega) (by omega)) ?_
      repeat refine rd ?_
      refine t_callV (rlayNot_spec hb.part (by omega) (by omega)) ?_
      repeat refine rd ?_
      refine t_brF rfl ?_
      refine t_callV (same_specS (e1 := 5) (e2 := 5) (rdR byteE) hb.part) ?_
      repeat refine rd ?_
      refine t_brT (by simp) ?_
      refine t_brT rfl ?_
      refine t_postV rfl fun w h => h.right
end
end Go.Proofs.Ytehpdpdmjflddaa
