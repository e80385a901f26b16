/-
  The sum is linear: a burst of 32 bits or fewer never goes unseen.
-/
import Derived.Test.YtehpdpdmjflddaaMw
namespace Go.Proofs.Ytehpdpdmjflddaa
open Go.RowKit

theorem xor_zero_eq {a b : Nat} (h : a ^^^ b = 0) : a = b := by
  have : a ^^^ (a ^^^ b) = a ^^^ 0 := by rw [h]
  rw [← Nat.xor_assoc, Nat.xor_self, Nat.zero_xor, Nat.xor_zero] at this
  exact this.symm
theorem xor_mod2 (a b : Nat) : (a ^^^ b) % 2 = (a + b) % 2 := by
  have h := Nat.xor_mod_two_pow (a := a) (b := b) (n := 1)
  simp only [Nat.pow_one] at h
  rw [h]
  have h1 : a % 2 = 0 ∨ a % 2 = 1 := by omega
  have h2 : b % 2 = 0 ∨ b % 2 = 1 := by omega
  rcases h1 with h1 | h1 <;> rcases h2 with h2 | h2 <;> rw [h1, h2, Nat.add_mod, h1, h2] <;> rfl
theorem stp_xor (a b : Nat) : stp (a ^^^ b) = stp a ^^^ stp b := by
  unfold stp
  have h1 : (a ^^^ b) / 2 = a / 2 ^^^ b / 2 := Nat.xor_div_two
  have h2 : (a ^^^ b) % 2 = (a + b) % 2 := xor_mod2 a b
  rw [h1, h2]
  by_cases ha : a % 2 = 1 <;> by_cases hb : b % 2 = 1
  · rw [if_neg (by omega), if_pos ha, if_pos hb, Nat.xor_assoc, Nat.xor_comm crcTurn, Nat.xor_assoc, Nat.xor_self, Nat.xor_zero]
  · rw [if_pos (by omega), if_pos ha, if_neg hb, Nat.xor_assoc, Nat.xor_assoc, Nat.xor_comm crcTurn]
  · rw [if_pos (by omega), if_neg ha, if_pos hb, Nat.xor_assoc]
  · rw [if_neg (by omega), if_neg ha, if_neg hb]
theorem stps_xor : ∀ (n a b : Nat), stps n (a ^^^ b) = stps n a ^^^ stps n b
  | 0, _, _ => rfl
  | n + 1, a, b => by show stps n (stp (a ^^^ b)) = _; rw [stp_xor, stps_xor n]; rfl
theorem stps_add : ∀ (n m a : Nat), stps (n + m) a = stps m (stps n a)
  | 0, m, a => by rw [Nat.zero_add]; rfl
  | n + 1, m, a => by rw [Nat.add_right_comm]; exact stps_add n m (stp a)
theorem stps_shift : ∀ (n v : Nat), stps n (v * 2 ^ n) = v
  | 0, v => by show v * 2 ^ 0 = v; simp
  | n + 1, v => by
    show stps n (stp (v * 2 ^ (n + 1))) = v
    have : stp (v * 2 ^ (n + 1)) = v * 2 ^ n := by
      unfold stp
      rw [Nat.pow_succ, ← Nat.mul_assoc, if_neg (by omega)]
      omega
    rw [this, stps_shift n v]
theorem stps_zero : ∀ (n x : Nat), x < 2 ^ 32 → stps n x = 0 → x = 0
  | 0, _, _, h => h
  | n + 1, x, hx, h => by
    have h0 := stps_zero n (stp x) (stp_lt hx) h
    unfold stp at h0
    split at h0
    · have : x / 2 = crcTurn := xor_zero_eq h0
      unfold crcTurn at this
      omega
    · omega
theorem byte_xor {c v : Nat} (h : c < 256) : c + 256 * v = c ^^^ 256 * v := by
  have := Nat.two_pow_add_eq_or_of_lt (i := 8) h v
  rw [show (256 : Nat) = 2 ^ 8 from rfl, Nat.add_comm, this]
  apply Nat.eq_of_testBit_eq
  intro i
  rw [Nat.testBit_or, Nat.testBit_xor, Nat.testBit_two_pow_mul]
  by_cases hi : 8 ≤ i
  · have : c.testBit i = false := Nat.testBit_lt_two_pow (Nat.lt_of_lt_of_le h (Nat.pow_le_pow_right (n := 2) (by decide) hi))
    simp [this]
  · simp [hi]
theorem roll_stps : ∀ (bs : List UInt8) (x : Nat), roll x bs = stps (8 * bs.length) (x ^^^ val bs)
  | [], x => by show x = x ^^^ 0; simp
  | c :: bs, x => by
    have hc : c.toNat < 256 := c.toNat_lt
    show roll (stps 8 (x ^^^ c.toNat)) bs = _
    rw [roll_stps bs, List.length_cons, Nat.mul_add, Nat.mul_one, Nat.add_comm, stps_add]
    congr 1
    simp only [val]
    rw [byte_xor hc, ← Nat.xor_assoc, stps_xor 8 _ (256 * val bs), Nat.mul_comm 256, show (256 : Nat) = 2 ^ 8 from rfl, stps_shift 8]
theorem crc_xor {a b : List UInt8} (h : a.length = b.length) : crc a ^^^ crc b = stps (8 * a.length) (val a ^^^ val b) := by
  have cancel : ∀ x y z : Nat, (x ^^^ z) ^^^ (y ^^^ z) = x ^^^ y := fun x y z => by
    rw [Nat.xor_comm y z, ← Nat.xor_assoc, Nat.xor_assoc x z z, Nat.xor_self, Nat.xor_zero]
  unfold crc crcMore
  rw [cancel, roll_stps, roll_stps, ← h, ← stps_xor]
  congr 1
  rw [Nat.xor_comm (0 ^^^ ones) (val a), Nat.xor_comm (0 ^^^ ones) (val b), cancel]
theorem mhead_val {s f l : Nat} (hm : mayB s f l = true) : val (mhead s f l) < 2 ^ 81 := by
  have h := of_decide_eq_true hm
  unfold mhead
  rw [val_append, val_append, val_append, val4 (by omega), val4 (by omega), val4 (by omega)]
  simp only [List.length_append, le_length]
  have : val (zeros 44) = 0 := by decide
  rw [this]
  have : (256 : Nat) ^ 4 = 4294967296 := by decide
  have : (256 : Nat) ^ (4 + 4) = 18446744073709551616 := by decide
  have : (2 : Nat) ^ 81 = 2417851639229258349412352 := by decide
  simp only [*]
  omega
theorem mb_same {s f l s' f' l' : Nat} (h : mhead s f l = mhead s' f' l') : mbytes s f l = mbytes s' f' l' := by
  have h1 : le s 4 = le s' 4 := by
    have := congrArg (List.take 4) h
    exact this
  unfold mbytes
  rw [h, h1]
set_option exponentiation.threshold 1000 in
/-- Two manifests that differ by a burst are the same. -/
theorem burst_same {s f l s' f' l' w p : Nat} (hm : mayB s f l = true) (hm' : mayB s' f' l' = true) (hw : w < 2 ^ 32) (h : val (mbytes s f l) ^^^ val (mbytes s' f' l') = (w * 2 ^ p) % 2 ^ 512) : mbytes s f l = mbytes s' f' l' := by
  have split : ∀ s f l : Nat, val (mbytes s f l) % 2 ^ 448 = val (mhead s f l) ∧ val (mbytes s f l) / 2 ^ 448 = val (le (crc (mhead s f l)) 4 ++ le s 4) := fun s f l => by
    have h1 := val_lt2 (bs := mhead s f l) (n := 56) (by rw [mhead_length]; exact Nat.le_refl _)
    have e : val (mbytes s f l) = val (mhead s f l) + 2 ^ 448 * val (le (crc (mhead s f l)) 4 ++ le s 4) := by
      unfold mbytes
      rw [List.append_assoc, val_append, mhead_length]
    rw [e]
    generalize val (mhead s f l) = A at h1
    generalize val (le (crc (mhead s f l)) 4 ++ le s 4) = B
    exact ⟨by rw [Nat.add_mul_mod_self_left]; exact Nat.mod_eq_of_lt h1, by rw [Nat.add_mul_div_left _ _ (Nat.two_pow_pos _), Nat.div_eq_of_lt h1, Nat.zero_add]⟩
  obtain ⟨a1, a2⟩ := split s f l
  obtain ⟨b1, b2⟩ := split s' f' l'
  have x1 : val (mhead s f l) ^^^ val (mhead s' f' l') = (w * 2 ^ p) % 2 ^ 448 := by
    rw [← a1, ← b1, ← Nat.xor_mod_two_pow, h]
    exact Nat.mod_mod_of_dvd _ (Nat.pow_dvd_pow 2 (by decide))
  have hl : (mhead s f l).length = (mhead s' f' l').length := by rw [mhead_length, mhead_length]
  by_cases hp : 81 ≤ p
  · have hlt : val (mhead s f l) ^^^ val (mhead s' f' l') < 2 ^ 81 := xor_lt (mhead_val hm) (mhead_val hm')
    rw [x1] at hlt
    have hd : 2 ^ 81 ∣ (w * 2 ^ p) % 2 ^ 448 := (Nat.dvd_mod_iff (Nat.pow_dvd_pow 2 (by decide))).2 (Nat.dvd_trans (Nat.pow_dvd_pow 2 hp) (Nat.dvd_mul_left _ _))
    have h0 : (w * 2 ^ p) % 2 ^ 448 = 0 := Nat.eq_zero_of_dvd_of_lt hd hlt
    rw [h0] at x1
    exact mb_same (val_inj hl (xor_zero_eq x1))
  · have hD : w * 2 ^ p < 2 ^ 113 := by
      have h1 : w * 2 ^ p < 2 ^ 32 * 2 ^ p := Nat.mul_lt_mul_of_pos_right hw (Nat.two_pow_pos _)
      rw [← Nat.pow_add] at h1
      exact Nat.lt_of_lt_of_le h1 (Nat.pow_le_pow_right (by decide) (by omega))
    have h448 : w * 2 ^ p < 2 ^ 448 := Nat.lt_of_lt_of_le hD (Nat.pow_le_pow_right (by decide) (by decide))
    have h512 : w * 2 ^ p < 2 ^ 512 := Nat.lt_of_lt_of_le hD (Nat.pow_le_pow_right (by decide) (by decide))
    rw [Nat.mod_eq_of_lt h512] at h
    rw [Nat.mod_eq_of_lt h448] at x1
    have x2 : val (le (crc (mhead s f l)) 4 ++ le s 4) ^^^ val (le (crc (mhead s' f' l')) 4 ++ le s' 4) = 0 := by
      rw [← a2, ← b2, ← Nat.xor_div_two_pow, h]
      exact Nat.div_eq_of_lt h448
    have e2 := val_inj (by simp [le_length]) (xor_zero_eq x2)
    have e3 : le (crc (mhead s f l)) 4 = le (crc (mhead s' f' l')) 4 := by
      have := congrArg (List.take 4) e2
      rwa [List.take_left' (le_length _ _), List.take_left' (le_length _ _)] at this
    have e4 : crc (mhead s f l) = crc (mhead s' f' l') := by
      have := congrArg val e3
      rwa [val4 (by have := crc_lt (mhead s f l); omega), val4 (by have := crc_lt (mhead s' f' l'); omega)] at this
    have x3 := crc_xor hl
    rw [e4, Nat.xor_self, x1, mhead_length, show 8 * 56 = p + (448 - p) by omega, stps_add, stps_shift] at x3
    have hw0 := stps_zero _ _ hw x3.symm
    rw [hw0, Nat.zero_mul] at x1
    exact mb_same (val_inj hl (xor_zero_eq x1))
/-- A byte, turned. -/
theorem val_set : ∀ (bs : List UInt8) (j : Nat) (m : UInt8) (h : j < bs.length), val (bs.set j (bs[j] ^^^ m)) = val bs ^^^ (m.toNat * 2 ^ (8 * j))
  | c :: bs, 0, m, _ => by
    have hc : c.toNat < 256 := c.toNat_lt
    have hcm : (c ^^^ m).toNat < 256 := (c ^^^ m).toNat_lt
    simp only [List.set_cons_zero, List.getElem_cons_zero, val, Nat.mul_zero, Nat.pow_zero, Nat.mul_one]
    rw [byte_xor hcm, byte_xor hc, UInt8.toNat_xor, Nat.xor_assoc, Nat.xor_assoc, Nat.xor_comm m.toNat]
  | c :: bs, j + 1, m, h => by
    have hc : c.toNat < 256 := c.toNat_lt
    simp only [List.set_cons_succ, List.getElem_cons_succ, val]
    rw [val_set bs j m (by simpa using h), byte_xor hc, byte_xor hc, Nat.xor_assoc]
    congr 1
    have : m.toNat * 2 ^ (8 * (j + 1)) = 2 ^ 8 * (m.toNat * 2 ^ (8 * j)) := by
      rw [Nat.mul_add, Nat.pow_add, Nat.mul_one]
      ac_rfl
    rw [this, show (256 : Nat) = 2 ^ 8 from rfl]
    simp only [← Nat.shiftLeft_eq, Nat.mul_comm (2 ^ 8)]
    rw [Nat.shiftLeft_xor_distrib]
/-- What so many of the bits turn. -/
def mask (B p k : Nat) : Nat := ((B % 2 ^ k) * 2 ^ p) % 2 ^ 512
set_option exponentiation.threshold 1000 in
theorem mask_succ (B p k : Nat) : mask B p (k + 1) = mask B p k ^^^ (if B / 2 ^ k % 2 = 1 ∧ p + k < 512 then 2 ^ (p + k) else 0) := by
  unfold mask
  have e1 : B % 2 ^ (k + 1) = (B % 2 ^ k) ^^^ ((B / 2 ^ k % 2) * 2 ^ k) := by
    apply Nat.eq_of_testBit_eq
    intro i
    rw [Nat.testBit_xor, Nat.testBit_mod_two_pow, Nat.testBit_mod_two_pow, Nat.mul_comm, Nat.testBit_two_pow_mul]
    have hb : ((B / 2 ^ k) % 2).testBit (i - k) = (decide (i - k < 1) && B.testBit (k + (i - k))) := by
      have := Nat.testBit_mod_two_pow (B / 2 ^ k) 1 (i - k)
      rw [Nat.pow_one] at this
      rw [this, Nat.testBit_div_two_pow, Nat.add_comm]
    rw [hb]
    by_cases h1 : i < k
    · simp [h1, show i < k + 1 by omega, show ¬ k ≤ i by omega]
    · by_cases h2 : i = k
      · subst h2; simp
      · simp [h1, show ¬ i < k + 1 by omega, show ¬ i - k < 1 by omega]
  rw [e1]
  simp only [← Nat.shiftLeft_eq]
  rw [Nat.shiftLeft_xor_distrib, Nat.xor_mod_two_pow]
  congr 1
  simp only [Nat.shiftLeft_eq]
  by_cases hb : B / 2 ^ k % 2 = 1
  · rw [hb, Nat.one_mul, ← Nat.pow_add, Nat.add_comm k p]
    by_cases hp : p + k < 512
    · rw [if_pos ⟨rfl, hp⟩]
      exact Nat.mod_eq_of_lt (Nat.pow_lt_pow_right (by decide) hp)
    · rw [if_neg (fun h => hp h.2)]
      exact Nat.mod_eq_zero_of_dvd (Nat.pow_dvd_pow 2 (by omega))
  · have : B / 2 ^ k % 2 = 0 := by omega
    rw [if_neg (fun h => hb h.1), this]
    simp
theorem xor8 (a b : UInt8) {x y : Int} (hx : x = a.toNat) (hy : y = b.toNat) : IntKind.u8.wrap ((BitVec.ofInt 8 x ^^^ BitVec.ofInt 8 y).toNat : Int) = ((a ^^^ b).toNat : Int) := by
  subst hx hy
  have h1 := (a ^^^ b).toNat_lt
  rw [UInt8.toNat_xor] at h1 ⊢
  rw [BitVec.toNat_xor, BitVec.ofInt_natCast, BitVec.ofInt_natCast, BitVec.toNat_ofNat, BitVec.toNat_ofNat, Nat.mod_eq_of_lt a.toNat_lt, Nat.mod_eq_of_lt b.toNat_lt, IntKind.wrap_u8]
  omega
end Go.Proofs.Ytehpdpdmjflddaa
