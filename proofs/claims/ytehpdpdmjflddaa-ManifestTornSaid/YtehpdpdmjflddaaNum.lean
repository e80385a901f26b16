/-
  Packages num and ref01: numbers put and got; bytes compared.
-/
import Derived.Test.YtehpdpdmjflddaaBytes
import Derived.Test.YtehpdpdmjflddaaFNum
import Derived.Test.YtehpdpdmjflddaaFByt
namespace Go.Proofs.Ytehpdpdmjflddaa
open Go.RowKit

section
variable {R A : SP} {w0 : World} {X : WP}
theorem rds_bytes {g n : Nat} {bs : List UInt8} {e : TypeId} {fz : Nat × Nat} [h : Own A g (.cells ⟨bs.map u8v⟩ e fz) R] (hn : bs.length = n) (hm : n ≤ maxLen) : Rds byteE A (slB g 0 n n) bs := by
  have := rds_blk (A := A) (g := g) (off := 0) (n := n) (c := n) (bs := bs) (e := e) (fz := fz) (by omega) (Nat.le_refl _) hm
  rw [List.drop_zero, List.take_of_length_le (by omega)] at this
  exact this
theorem clamp_spec {w : Nat} (hw : w ≤ 8) : Spec Try.prog 61 #[.int .i64 w] R fun v => fact (v = .int .i64 w) ^ R := by
  refine Spec.mk fun w0 => Tri.use ?_ (F.num_clamp_ok _ _)
  unfold F.num_clamp
  refine tlE (y := (w : Int)) (by unfold minI; split <;> omega) ?_
  refine tlE (y := (w : Int)) (by unfold maxI; split <;> omega) ?_
  exact t_postV rfl fun _ h => h
theorem width_spec {w : Nat} (hw : w ≤ 8) : Spec Try.prog 63 #[.int .i64 w] R fun v => fact (v = .int .i64 w) ^ R := by
  refine Spec.mk fun w0 => Tri.use ?_ (F.hayloftref01_Width_ok _ _)
  unfold F.hayloftref01_Width
  refine t_brD (fun h => by omega) fun _ => ?_
  refine t_brD (fun h => by omega) fun _ => ?_
  exact t_postV rfl fun _ h => h
theorem put_spec {n w : Nat} (hw : w ≤ 8) : Spec Try.prog 51 #[.int .u64 n, .int .i64 w] R fun v => ex fun g : Nat => fact (v = slB g 0 w w) ^ bytesB g (le n w) ^ R := by
  refine Spec.mk fun w0 => Tri.use ?_ (F.num_Put_ok _ _ _)
  unfold F.num_Put
  refine rn fun p => ?_
  (repeat (first | refine rd ?_ | refine t_brT rfl ?_ | refine t_brF rfl ?_))
  refine t_callV (clamp_spec hw) ?_
  (repeat (first | refine rd ?_ | refine t_brT rfl ?_ | refine t_brF rfl ?_))
  refine Tri.imp (B := blk p 111 [u8v 0, u8v 0, u8v 0, u8v 0, u8v 0, u8v 0, u8v 0, u8v 0] ^ R) ?_ fun w h => h
  refine t_join (fun vs => ex fun bs : List UInt8 => fact (vs = [] ∧ bs.length = 8 ∧ bs.take w = le n w) ^ blk p 111 (bs.map u8v) ^ R) (fun K hK => ?_) fun vs => t_ex fun bs => t_fact fun hv => ?_
  · have done : ∀ bs : List UInt8, bs.length = 8 → bs.take w = le n w → Tri (blk p 111 (bs.map u8v) ^ R) w0 (K []) := fun bs h1 h2 => (hK _).imp fun w h => sat_ex.2 ⟨bs, sat_fact.2 ⟨⟨rfl, h1, h2⟩, h⟩⟩
    obtain rfl | rfl | rfl | rfl | rfl | rfl | rfl | rfl | rfl : w = 0 ∨ w = 1 ∨ w = 2 ∨ w = 3 ∨ w = 4 ∨ w = 5 ∨ w = 6 ∨ w = 7 ∨ w = 8 := by omega
    · repeat (first | refine rd ?_ | refine t_brT rfl ?_ | refine t_brF rfl ?_ | refine t_joinDup ?_)
      exact done [0, 0, 0, 0, 0, 0, 0, 0] rfl (by simp [le, Nat.div_div_eq_div_mul])
    · repeat (first | refine rd ?_ | refine t_brT rfl ?_ | refine t_brF rfl ?_ | refine t_joinDup ?_)
      refine tlE (low8 _) ?_
      refine t_ixArr 0 0 rfl (by decide) rfl ?_
      repeat refine rd ?_
      exact done [UInt8.ofNat n, 0, 0, 0, 0, 0, 0, 0] rfl (by simp [le, Nat.div_div_eq_div_mul])
    · repeat (first | refine rd ?_ | refine t_brT rfl ?_ | refine t_brF rfl ?_ | refine t_joinDup ?_)
      refine t_shrN n 8 rfl rfl (by decide) ?_
      refine rd ?_
      refine tlE (low8 _) ?_
      refine t_ixArr 1 1 rfl (by decide) rfl ?_
      repeat refine rd ?_
      refine tlE (low8 _) ?_
      refine t_ixArr 0 0 rfl (by decide) rfl ?_
      repeat refine rd ?_
      exact done [UInt8.ofNat n, UInt8.ofNat (n / 2 ^ 8), 0, 0, 0, 0, 0, 0] rfl (by simp [le, Nat.div_div_eq_div_mul])
    · repeat (first | refine rd ?_ | refine t_brT rfl ?_ | refine t_brF rfl ?_ | refine t_joinDup ?_)
      refine t_shrN n 16 rfl rfl (by decide) ?_
      refine rd ?_
      refine tlE (low8 _) ?_
      refine t_ixArr 2 2 rfl (by decide) rfl ?_
      repeat refine rd ?_
      refine t_shrN n 8 rfl rfl (by decide) ?_
      refine rd ?_
      refine tlE (low8 _) ?_
      refine t_ixArr 1 1 rfl (by decide) rfl ?_
      repeat refine rd ?_
      refine tlE (low8 _) ?_
      refine t_ixArr 0 0 rfl (by decide) rfl ?_
      repeat refine rd ?_
      exact done [UInt8.ofNat n, UInt8.ofNat (n / 2 ^ 8), UInt8.ofNat (n / 2 ^ 16), 0, 0, 0, 0, 0] rfl (by simp [le, Nat.div_div_eq_div_mul])
    · repeat (first | refine rd ?_ | refine t_brT rfl ?_ | refine t_brF rfl ?_ | refine t_joinDup ?_)
      refine t_shrN n 24 rfl rfl (by decide) ?_
      refine rd ?_
      refine tlE (low8 _) ?_
      refine t_ixArr 3 3 rfl (by decide) rfl ?_
      repeat refine rd ?_
      refine t_shrN n 16 rfl rfl (by decide) ?_
      refine rd ?_
      refine tlE (low8 _) ?_
      refine t_ixArr 2 2 rfl (by decide) rfl ?_
      repeat refine rd ?_
      refine t_shrN n 8 rfl rfl (by decide) ?_
      refine rd ?_
      refine tlE (low8 _) ?_
      refine t_ixArr 1 1 rfl (by decide) rfl ?_
      repeat refine rd ?_
      refine tlE (low8 _) ?_
      refine t_ixArr 0 0 rfl (by decide) rfl ?_
      repeat refine rd ?_
      exact done [UInt8.ofNat n, UInt8.ofNat (n / 2 ^ 8), UInt8.ofNat (n / 2 ^ 16), UInt8.ofNat (n / 2 ^ 24), 0, 0, 0, 0] rfl (by simp [le, Nat.div_div_eq_div_mul])
    · repeat (first | refine rd ?_ | refine t_brT rfl ?_ | refine t_brF rfl ?_ | refine t_joinDup ?_)
      refine t_shrN n 32 rfl rfl (by decide) ?_
      refine rd ?_
      refine tlE (low8 _) ?_
      refine t_ixArr 4 4 rfl (by decide) rfl ?_
      repeat refine rd ?_
      refine t_shrN n 24 rfl rfl (by decide) ?_
      refine rd ?_
      refine tlE (low8 _) ?_
      refine t_ixArr 3 3 rfl (by decide) rfl ?_
      repeat refine rd ?_
      refine t_shrN n 16 rfl rfl (by decide) ?_
      refine rd ?_
      refine tlE (low8 _) ?_
      refine t_ixArr 2 2 rfl (by decide) rfl ?_
      repeat refine rd ?_
      refine t_shrN n 8 rfl rfl (by decide) ?_
      refine rd ?_
      refine tlE (low8 _) ?_
      refine t_ixArr 1 1 rfl (by decide) rfl ?_
      repeat refine rd ?_
      refine tlE (low8 _) ?_
      refine t_ixArr 0 0 rfl (by decide) rfl ?_
      repeat refine rd ?_
      exact done [UInt8.ofNat n, UInt8.ofNat (n / 2 ^ 8), UInt8.ofNat (n / 2 ^ 16), UInt8.ofNat (n / 2 ^ 24), UInt8.ofNat (n / 2 ^ 32), 0, 0, 0] rfl (by simp [le, Nat.div_div_eq_div_mul])
    · repeat (first | refine rd ?_ | refine t_brT rfl ?_ | refine t_brF rfl ?_ | refine t_joinDup ?_)
      refine t_shrN n 40 rfl rfl (by decide) ?_
      refine rd ?_
      refine tlE (low8 _) ?_
      refine t_ixArr 5 5 rfl (by decide) rfl ?_
      repeat refine rd ?_
      refine t_shrN n 32 rfl rfl (by decide) ?_
      refine rd ?_
      refine tlE (low8 _) ?_
      refine t_ixArr 4 4 rfl (by decide) rfl ?_
      repeat refine rd ?_
      refine t_shrN n 24 rfl rfl (by decide) ?_
      refine rd ?_
      refine tlE (low8 _) ?_
      refine t_ixArr 3 3 rfl (by decide) rfl ?_
      repeat refine rd ?_
      refine t_shrN n 16 rfl rfl (by decide) ?_
      refine rd ?_
      refine tlE (low8 _) ?_
      refine t_ixArr 2 2 rfl (by decide) rfl ?_
      repeat refine rd ?_
      refine t_shrN n 8 rfl rfl (by decide) ?_
      refine rd ?_
      refine tlE (low8 _) ?_
      refine t_ixArr 1 1 rfl (by decide) rfl ?_
      repeat refine rd ?_
      refine tlE (low8 _) ?_
      refine t_ixArr 0 0 rfl (by decide) rfl ?_
      repeat refine rd ?_
      exact done [UInt8.ofNat n, UInt8.ofNat (n / 2 ^ 8), UInt8.ofNat (n / 2 ^ 16), UInt8.ofNat (n / 2 ^ 24), UInt8.ofNat (n / 2 ^ 32), UInt8.ofNat (n / 2 ^ 40), 0, 0] rfl (by simp [le, Nat.div_div_eq_div_mul])
    · repeat (first | refine rd ?_ | refine t_brT rfl ?_ | refine t_brF rfl ?_ | refine t_joinDup ?_)
      refine t_shrN n 48 rfl rfl (by decide) ?_
      refine rd ?_
      refine tlE (low8 _) ?_
      refine t_ixArr 6 6 rfl (by decide) rfl ?_
      repeat refine rd ?_
      refine t_shrN n 40 rfl rfl (by decide) ?_
      refine rd ?_
      refine tlE (low8 _) ?_
      refine t_ixArr 5 5 rfl (by decide) rfl ?_
      repeat refine rd ?_
      refine t_shrN n 32 rfl rfl (by decide) ?_
      refine rd ?_
      refine tlE (low8 _) ?_
      refine t_ixArr 4 4 rfl (by decide) rfl ?_
      repeat refine rd ?_
      refine t_shrN n 24 rfl rfl (by decide) ?_
      refine rd ?_
      refine tlE (low8 _) ?_
      refine t_ixArr 3 3 rfl (by decide) rfl ?_
      repeat refine rd ?_
      refine t_shrN n 16 rfl rfl (by decide) ?_
      refine rd ?_
      refine tlE (low8 _) ?_
      refine t_ixArr 2 2 rfl (by decide) rfl ?_
      repeat refine rd ?_
      refine t_shrN n 8 rfl rfl (by decide) ?_
      refine rd ?_
      refine tlE (low8 _) ?_
      refine t_ixArr 1 1 rfl (by decide) rfl ?_
      repeat refine rd ?_
      refine tlE (low8 _) ?_
      refine t_ixArr 0 0 rfl (by decide) rfl ?_
      repeat refine rd ?_
      exact done [UInt8.ofNat n, UInt8.ofNat (n / 2 ^ 8), UInt8.ofNat (n / 2 ^ 16), UInt8.ofNat (n / 2 ^ 24), UInt8.ofNat (n / 2 ^ 32), UInt8.ofNat (n / 2 ^ 40), UInt8.ofNat (n / 2 ^ 48), 0] rfl (by simp [le, Nat.div_div_eq_div_mul])
    · repeat (first | refine rd ?_ | refine t_brT rfl ?_ | refine t_brF rfl ?_ | refine t_joinDup ?_)
      refine t_shrN n 56 rfl rfl (by decide) ?_
      refine rd ?_
      refine tlE (low8 _) ?_
      refine t_ixArr 7 7 rfl (by decide) rfl ?_
      repeat refine rd ?_
      refine t_shrN n 48 rfl rfl (by decide) ?_
      refine rd ?_
      refine tlE (low8 _) ?_
      refine t_ixArr 6 6 rfl (by decide) rfl ?_
      repeat refine rd ?_
      refine t_shrN n 40 rfl rfl (by decide) ?_
      refine rd ?_
      refine tlE (low8 _) ?_
      refine t_ixArr 5 5 rfl (by decide) rfl ?_
      repeat refine rd ?_
      refine t_shrN n 32 rfl rfl (by decide) ?_
      refine rd ?_
      refine tlE (low8 _) ?_
      refine t_ixArr 4 4 rfl (by decide) rfl ?_
      repeat refine rd ?_
      refine t_shrN n 24 rfl rfl (by decide) ?_
      refine rd ?_
      refine tlE (low8 _) ?_
      refine t_ixArr 3 3 rfl (by decide) rfl ?_
      repeat refine rd ?_
      refine t_shrN n 16 rfl rfl (by decide) ?_
      refine rd ?_
      refine tlE (low8 _) ?_
      refine t_ixArr 2 2 rfl (by decide) rfl ?_
      repeat refine rd ?_
      refine t_shrN n 8 rfl rfl (by decide) ?_
      refine rd ?_
      refine tlE (low8 _) ?_
      refine t_ixArr 1 1 rfl (by decide) rfl ?_
      repeat refine rd ?_
      refine tlE (low8 _) ?_
      refine t_ixArr 0 0 rfl (by decide) rfl ?_
      repeat refine rd ?_
      exact done [UInt8.ofNat n, UInt8.ofNat (n / 2 ^ 8), UInt8.ofNat (n / 2 ^ 16), UInt8.ofNat (n / 2 ^ 24), UInt8.ofNat (n / 2 ^ 32), UInt8.ofNat (n / 2 ^ 40), UInt8.ofNat (n / 2 ^ 48), UInt8.ofNat (n / 2 ^ 56)] rfl (by simp [le, Nat.div_div_eq_div_mul])
  · obtain ⟨rfl, hl, hbs⟩ := hv
    (repeat (first | refine rd ?_ | refine t_brT rfl ?_ | refine t_brF rfl ?_))
    refine t_makeB w rfl rfl rfl (by omega) (by unfold maxLen; omega) fun g => ?_
    (repeat (first | refine rd ?_ | refine t_brT rfl ?_ | refine t_brF rfl ?_))
    refine t_sliceArr ?_
    (repeat (first | refine rd ?_ | refine t_brT rfl ?_ | refine t_brF rfl ?_))
    refine t_copyBytes (g := g) (rds_bytes (g := p) hl (by unfold maxLen; omega)) w (by rw [hl]; exact Nat.min_eq_right hw) (by simp [zeros]) ?_
    (repeat (first | refine rd ?_ | refine t_brT rfl ?_ | refine t_brF rfl ?_))
    refine t_post fun w' h => sat_ex.2 ⟨g, sat_fact.2 ⟨rfl, ?_⟩⟩
    have e : spl (zeros w) 0 (bs.take w) = le n w := by
      unfold spl
      rw [hbs, List.drop_eq_nil_of_le (by simp [zeros, le_length])]
      simp
    rw [e] at h
    exact (h.as (B := blk p 111 (bs.map u8v) ^ blk g 5 ((le n w).map u8v) ^ R) (by ac_rfl)).right
theorem get_spec {v : Value} {bs : List UInt8} (hb : Rds byteE R v bs) : Spec Try.prog 57 #[v] R fun u => fact (u = .int .u64 (val (bs.take 8))) ^ R := by
  refine Spec.mk fun w0 => t_shape hb fun a c hv h1 h2 => ?_
  unfold maxLen at h2
  subst hv
  refine Tri.use ?_ (F.num_Get_ok _ _ _ _)
  unfold F.num_Get
  refine t_loop (σ := Nat) (fun k => [.int .u64 (val (bs.take k)), .int .i64 k]) (fun k => fact (k ≤ bs.length ∧ k ≤ 8) ^ R) (fun k => 8 - k) 0 rfl (fun w h => sat_fact.2 ⟨⟨Nat.zero_le _, by decide⟩, h⟩) fun k => t_fact fun hk => ?_
  obtain ⟨hk, hk8⟩ := hk
  (repeat (first | refine rd ?_ | refine t_brT rfl ?_ | refine t_brF rfl ?_))
  refine t_brD (fun h => ?_) fun h => ?_
  · refine t_brD (fun h8 => ?_) fun h8 => ?_
    · have hlt : k < bs.length := by omega
      have h7 : k ≤ 7 := by omega
      refine t_ixld0 k hb rfl (List.getElem?_eq_getElem hlt) rfl ?_
      refine rd ?_
      have hc : bs[k].toNat < 2 ^ 8 := bs[k].toNat_lt
      have hp : bs[k].toNat * 2 ^ (8 * k) < 2 ^ 64 := by
        have e1 : bs[k].toNat * 2 ^ (8 * k) < 2 ^ 8 * 2 ^ (8 * k) := Nat.mul_lt_mul_of_pos_right hc (Nat.two_pow_pos _)
        rw [← Nat.pow_add] at e1
        exact Nat.lt_of_lt_of_le e1 (Nat.pow_le_pow_right (by decide) (by omega))
      refine tlE (wrap64u (by omega)) ?_
      refine tl64 (by omega) (by omega) ?_
      refine t_shlN bs[k].toNat (8 * k) rfl (by simp) (by simp [IntKind.bits]; omega) (by decide) (by show ((bs[k].toNat * 2 ^ (8 * k) : Nat) : Int) ≤ 18446744073709551615; omega) ?_
      refine rd ?_
      have hv : val (bs.take k) < 2 ^ (8 * k) := val_lt2 (by simp; omega)
      refine tlE (or64 rfl rfl (Nat.lt_of_lt_of_le hv (Nat.pow_le_pow_right (by decide) (by omega))) hp) ?_
      refine tl64 (by omega) (by omega) ?_
      refine t_round (k + 1) ?_ (by omega) fun w h => sat_fact.2 ⟨⟨by omega, by omega⟩, h⟩
      rw [or_high hv, val_take_succ hlt]
      rfl
    · have : k = 8 := by omega
      subst this
      exact t_postV rfl fun _ h => h
  · have : k = bs.length := by omega
    subst this
    refine t_postV ?_ fun _ h => h
    rw [List.take_length, List.take_of_length_le hk8]
theorem rget_spec {v : Value} {bs : List UInt8} (hb : Rds byteE R v bs) : Spec Try.prog 60 #[v] R fun u => fact (u = .int .u64 (val (bs.take 8))) ^ R := by
  refine Spec.mk fun w0 => t_shape hb fun a c hv h1 h2 => ?_
  unfold maxLen at h2
  subst hv
  refine Tri.use ?_ (F.hayloftref01_Get_ok _ _ _ _)
  unfold F.hayloftref01_Get
  obtain ⟨m, hm⟩ : ∃ m, m = (bs.take 8).length := ⟨_, rfl⟩
  have hm2 : m = min 8 bs.length := by rw [hm, List.length_take]
  refine tlE (y := (m : Int)) (by unfold minI; split <;> omega) ?_
  refine tl64 (by omega) (by omega) ?_
  refine t_loop (σ := Nat) (fun k => [.int .u64 (val ((bs.take 8).drop k)), .int .i64 ((k : Int) - 1)]) (fun k => fact (k ≤ m) ^ R) (fun k => k) m ?_ (fun w h => sat_fact.2 ⟨Nat.le_refl _, h⟩) fun k => t_fact fun hk => ?_
  · rw [hm, List.drop_length]
    rfl
  (repeat (first | refine rd ?_ | refine t_brT rfl ?_ | refine t_brF rfl ?_))
  refine t_brD (fun h => ?_) fun h => ?_
  · obtain ⟨j, rfl⟩ : ∃ j, k = j + 1 := ⟨k - 1, by omega⟩
    have hlt : j < (bs.take 8).length := by omega
    have hv : val ((bs.take 8).drop (j + 1)) < 2 ^ (8 * 7) := val_lt2 (by simp; omega)
    have hc : (bs.take 8)[j].toNat < 256 := (bs.take 8)[j].toNat_lt
    have e : val ((bs.take 8).drop j) = (bs.take 8)[j].toNat + 256 * val ((bs.take 8).drop (j + 1)) := by
      rw [List.drop_eq_getElem_cons hlt]
      rfl
    generalize val ((bs.take 8).drop (j + 1)) = z at hv e
    refine tlE (y := ((z * 256 : Nat) : Int)) (by rw [show (z : Int) * 256 = ((z * 256 : Nat) : Int) by omega]; exact wrap64u (by omega)) ?_
    refine t_ixld0 (x := (bs.take 8)[j]) j hb (by omega) (by rw [List.getElem_take]; exact List.getElem?_eq_getElem (by omega)) rfl ?_
    refine rd ?_
    generalize (bs.take 8)[j].toNat = q at hc e
    refine tlE (wrap64u (by omega)) ?_
    refine tlE (y := ((z * 256 + q : Nat) : Int)) (by rw [show ((z * 256 : Nat) : Int) + (q : Int) = ((z * 256 + q : Nat) : Int) by omega]; exact wrap64u (by omega)) ?_
    refine tl64 (by omega) (by omega) ?_
    refine t_round j ?_ (by omega) fun w h => sat_fact.2 ⟨by omega, h⟩
    rw [e]
    simp only [List.cons.injEq, Value.int.injEq, true_and, and_true]
    exact ⟨by omega, by omega⟩
  · have : k = 0 := by omega
    subst this
    exact t_postV rfl fun _ h => h
theorem rput_spec {n w : Nat} (hw : w ≤ 8) (hn : n < 2 ^ 64) : Spec Try.prog 54 #[.int .u64 n, .int .i64 w] R fun v => ex fun x : Option Addr × Nat => fact (v = .slice x.1 w x.2) ^ row byteE (.slice x.1 w x.2) (le n w) ^ R := by
  refine Spec.mk fun w0 => Tri.use ?_ (F.hayloftref01_Put_ok _ _ _)
  unfold F.hayloftref01_Put
  refine t_loop (σ := Nat × Option Addr × Nat) (fun s => [.int .u64 (n / 256 ^ s.1 : Nat), .slice s.2.1 s.1 s.2.2]) (fun s => fact (s.1 ≤ w) ^ row byteE (.slice s.2.1 s.1 s.2.2) (le n s.1) ^ R) (fun s => w - s.1) (0, none, 0) (by simp) (fun w h => sat_fact.2 ⟨Nat.zero_le _, h.as (by rw [show le n (0, (none : Option Addr), 0).1 = [] from rfl, row_nil rfl, emp_star])⟩) fun s => ?_
  obtain ⟨k, a, c⟩ := s
  refine t_fact fun hk => ?_
  dsimp only at hk ⊢
  (repeat (first | refine rd ?_ | refine t_brT rfl ?_ | refine t_brF rfl ?_))
  refine t_callV (width_spec hw) ?_
  (repeat (first | refine rd ?_ | refine t_brT rfl ?_ | refine t_brF rfl ?_))
  have hle : n / 256 ^ k < 2 ^ 64 := Nat.lt_of_le_of_lt (Nat.div_le_self _ _) hn
  refine t_brD (fun h => ?_) fun h => ?_
  · refine t_remN (n / 256 ^ k) 256 rfl rfl (by decide) ?_
    refine rd ?_
    refine tlE (low8 _) ?_
    refine t_app1 byteE (xs := le n k) (UInt8.ofNat (n / 256 ^ k % 256)) rfl (by decide) (by rw [le_length]; omega) (by rw [le_length]; omega) fun a' c' => ?_
    rw [le_length]
    refine rd ?_
    refine t_quoK (n / 256 ^ k) 256 rfl rfl (by decide) (by show ((n / 256 ^ k : Nat) : Int) ≤ 18446744073709551615; omega) (by decide) ?_
    refine rd ?_
    refine t_round (k + 1, a', c') ?_ (by dsimp only; omega) fun w h => sat_fact.2 ⟨by dsimp only; omega, h.as ?_⟩
    · rw [Nat.div_div_eq_div_mul, Nat.pow_succ]
    · have : UInt8.ofNat (n / 256 ^ k % 256) = UInt8.ofNat (n / 256 ^ k) := by
        apply UInt8.toNat_inj.1
        simp [UInt8.toNat_ofNat']
      rw [le_succ, this]
  · have : k = w := by omega
    subst this
    exact t_post fun w h => sat_ex.2 ⟨(a, c), sat_fact.2 ⟨rfl, h⟩⟩
theorem equal_spec {v1 v2 : Value} {b1 b2 : List UInt8} (h1 : Rds byteE R v1 b1) (h2 : Rds byteE R v2 b2) : Spec Try.prog 56 #[v1, v2] R fun u => fact (u = .bool (decide (b1 = b2))) ^ R := by
  refine Spec.mk fun w0 => t_shape h1 fun a1 c1 hv1 _ _ => t_shape h2 fun a2 c2 hv2 _ _ => ?_
  subst hv1 hv2
  refine Tri.use ?_ (F.bytes_Equal_ok _ _ _ _ _ _ _)
  unfold F.bytes_Equal
  refine t_semQ (v := .string (strOf b1)) (fun w hw => convert_rd Try.underlying22 Try.underlying5 Try.underlying9 (by have := h1 w hw; rw [flat_bytes _ rfl] at this; exact this)) ?_
  refine rd ?_
  refine t_semQ (v := .string (strOf b2)) (fun w hw => convert_rd Try.underlying22 Try.underlying5 Try.underlying9 (by have := h2 w hw; rw [flat_bytes _ rfl] at this; exact this)) ?_
  refine rd ?_
  rw [str_eq]
  exact t_postV rfl fun _ h => h
end
end Go.Proofs.Ytehpdpdmjflddaa
