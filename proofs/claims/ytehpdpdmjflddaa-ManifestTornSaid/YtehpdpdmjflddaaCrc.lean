/-
  The sum of bytes: its law, and what the program's and the reference's code come to.
-/
import Derived.Test.YtehpdpdmjflddaaB
import Derived.Test.YtehpdpdmjflddaaFSum
import Derived.Test.YtehpdpdmjflddaaFR02
namespace Go.Proofs.Ytehpdpdmjflddaa
open Go.RowKit

def crcTurn : Nat := 2197175160
/-- One step of the sum. -/
def stp (x : Nat) : Nat := if x % 2 = 1 then (x / 2) ^^^ crcTurn else x / 2
def stps : Nat → Nat → Nat
  | 0, x => x
  | n + 1, x => stps n (stp x)
def ones : Nat := 4294967295
/-- The sum gone on with, its number turned. -/
def roll (x : Nat) (bs : List UInt8) : Nat := bs.foldl (fun x c => stps 8 (x ^^^ c.toNat)) x
def crcMore (s : Nat) (bs : List UInt8) : Nat := roll (s ^^^ ones) bs ^^^ ones
def crc (bs : List UInt8) : Nat := crcMore 0 bs
theorem xor_lt {n a b : Nat} (ha : a < 2 ^ n) (hb : b < 2 ^ n) : a ^^^ b < 2 ^ n := Nat.xor_lt_two_pow ha hb
theorem stp_lt {x : Nat} (h : x < 2 ^ 32) : stp x < 2 ^ 32 := by
  unfold stp
  split
  · exact xor_lt (by omega) (by unfold crcTurn; omega)
  · omega
theorem stps_lt : ∀ (n : Nat) {x : Nat}, x < 2 ^ 32 → stps n x < 2 ^ 32
  | 0, _, h => h
  | n + 1, _, h => stps_lt n (stp_lt h)
theorem stps_succ : ∀ (n x : Nat), stps (n + 1) x = stp (stps n x)
  | 0, _ => rfl
  | n + 1, x => stps_succ n (stp x)
theorem byte_lt (c : UInt8) : c.toNat < 2 ^ 32 := Nat.lt_of_lt_of_le c.toNat_lt (by decide)
theorem roll_lt : ∀ (bs : List UInt8) {x : Nat}, x < 2 ^ 32 → roll x bs < 2 ^ 32
  | [], _, h => h
  | c :: bs, _, h => roll_lt bs (stps_lt 8 (xor_lt h (byte_lt c)))
theorem crcMore_lt {s : Nat} (h : s < 2 ^ 32) (bs : List UInt8) : crcMore s bs < 2 ^ 32 := xor_lt (roll_lt bs (xor_lt h (by decide))) (by decide)
theorem crc_lt (bs : List UInt8) : crc bs < 2 ^ 32 := crcMore_lt (by decide) bs
theorem roll_snoc (x : Nat) (bs : List UInt8) (c : UInt8) : roll x (bs ++ [c]) = stps 8 (roll x bs ^^^ c.toNat) := by unfold roll; rw [List.foldl_append]; rfl
-- operations on whole numbers of 32 bits
theorem ofInt32 {x : Int} {a : Nat} (h : x = a) (ha : a < 2 ^ 32) : (BitVec.ofInt 32 x).toNat = a := by
  subst h
  rw [BitVec.ofInt_natCast, BitVec.toNat_ofNat, Nat.mod_eq_of_lt ha]
theorem wrap32u {a : Nat} (ha : a < 2 ^ 32) : IntKind.u32.wrap (a : Int) = a := by
  rw [IntKind.wrap_u32]
  omega
theorem xor32 {x y : Int} {a b : Nat} (hx : x = a) (hy : y = b) (ha : a < 2 ^ 32) (hb : b < 2 ^ 32) : IntKind.u32.wrap ((BitVec.ofInt 32 x ^^^ BitVec.ofInt 32 y).toNat : Int) = ((a ^^^ b : Nat) : Int) := by
  rw [BitVec.toNat_xor, ofInt32 hx ha, ofInt32 hy hb]
  exact wrap32u (xor_lt ha hb)
theorem and32 {x y : Int} {a b : Nat} (hx : x = a) (hy : y = b) (ha : a < 2 ^ 32) (hb : b < 2 ^ 32) : IntKind.u32.wrap ((BitVec.ofInt 32 x &&& BitVec.ofInt 32 y).toNat : Int) = ((a &&& b : Nat) : Int) := by
  rw [BitVec.toNat_and, ofInt32 hx ha, ofInt32 hy hb]
  exact wrap32u (Nat.and_lt_two_pow _ hb)
section
variable {P : Program} {A R : SP} {w0 : World} {X : WP}
/-- A shift to the right, of what is not below nought. -/
theorem t_shrN {t : TypeId} {q s : IntKind} {i y : Int} (x m : Nat) {next : Value → WP} (hx : i = x) (hy : y = m) (hm : m ≤ q.bits) (k : Tri A w0 (next (.int q ((x / 2 ^ m : Nat) : Int)))) : Tri A w0 (sem P (binOp .shr t (.int q i) (.int s y)) next) := t_semQ (fun w _ => by
  subst hx hy
  unfold binOp Op.shift
  simp only [if_neg (show ¬ (m : Int) < 0 by omega), Int.toNat_natCast, Nat.min_eq_left hm]
  have : ((x : Int).fdiv (2 ^ m)) = ((x / 2 ^ m : Nat) : Int) := by
    rw [Int.fdiv_eq_ediv_of_nonneg _ (by exact_mod_cast Nat.zero_le (2 ^ m))]
    push_cast
    rfl
  rw [this]
  rfl) k
theorem t_quoK {t : TypeId} {q : IntKind} {i y : Int} (x m : Nat) {next : Value → WP} (hx : i = x) (hy : y = m) (hm : 0 < m) (hx63 : (x : Int) ≤ q.max) (h0 : q.min ≤ 0) (k : Tri A w0 (next (.int q ((x / m : Nat) : Int)))) : Tri A w0 (sem P (binOp .quo t (.int q i) (.int q y)) next) := t_semQ (fun w _ => by
  subst hx hy
  have h0' : ¬ (m : Int) = 0 := by omega
  have h1 : ((x : Int).tdiv (m : Int)) = ((x / m : Nat) : Int) := rfl
  have h2 : x / m ≤ x := Nat.div_le_self _ _
  generalize x / m = z at h1 h2
  have h3 : q.wrap (z : Int) = z := wrap_in (k := q) (by omega) (by omega)
  unfold binOp Op.intDiv
  simp only [ne_eq, not_true_eq_false, if_false, if_neg h0', h1, h3]
  rfl) k
end
section
variable {R : SP} {w0 : World} {X : WP}
theorem step_spec {x : Nat} (hx : x < 2 ^ 32) : Spec Try.prog 67 #[.int .u32 x] R fun v => fact (v = .int .u32 (stp x)) ^ R := by
  refine Spec.mk fun w0 => Tri.use ?_ (F.hayloftref02_step_ok _ _)
  unfold F.hayloftref02_step
  refine t_remN x 2 rfl rfl (by decide) ?_
  refine rd ?_
  refine t_quoK x 2 rfl rfl (by decide) (by simp [IntKind.max, IntKind.bits, IntKind.signed]; omega) (by decide) ?_
  refine rd ?_
  refine t_joinDup ?_
  unfold stp
  refine t_brE (fun h => ?_) fun h => ?_
  · rw [if_pos (by omega)]
    refine tlE (xor32 (b := crcTurn) rfl rfl (by omega) (by decide)) ?_
    (repeat (first | refine rd ?_ | refine t_brT rfl ?_ | refine t_brF rfl ?_))
    exact t_postV rfl fun _ h => h
  · rw [if_neg (by omega)]
    (repeat (first | refine rd ?_ | refine t_brT rfl ?_ | refine t_brF rfl ?_))
    exact t_postV rfl fun _ h => h
theorem steps_spec {x : Nat} (hx : x < 2 ^ 32) : Spec Try.prog 66 #[.int .u32 x] R fun v => fact (v = .int .u32 (stps 8 x)) ^ R := by
  refine Spec.mk fun w0 => Tri.use ?_ (F.sum_steps_ok _ _)
  unfold F.sum_steps
  refine t_loop (σ := Nat) (fun k => [.int .u32 (stps k x), .int .i64 k]) (fun k => fact (k ≤ 8) ^ R) (fun k => 8 - k) 0 rfl (fun w h => sat_fact.2 ⟨by decide, h⟩) fun k => t_fact fun hk => ?_
  (repeat (first | refine rd ?_ | refine t_brT rfl ?_ | refine t_brF rfl ?_))
  refine t_brD (fun h => ?_) fun h => ?_
  · have hl := stps_lt k hx
    refine tlE (and32 (b := 1) rfl rfl hl (by decide)) ?_
    refine t_join (fun vs => fact (vs = [.int .u32 (stps (k + 1) x)]) ^ R) (fun K hK => ?_) fun vs => t_fact fun hv => ?_
    · rw [Nat.and_one_is_mod]
      have done : Tri R w0 (K [.int .u32 (stps (k + 1) x)]) := (hK _).imp fun w h => sat_fact.2 ⟨rfl, h⟩
      rw [stps_succ] at done
      unfold stp at done
      refine t_brE (fun h1 => ?_) fun h1 => ?_
      · rw [if_pos (by omega)] at done
        refine t_shrN (stps k x) 1 rfl rfl (by decide) ?_
        refine rd ?_
        refine tlE (xor32 (b := crcTurn) rfl rfl (by omega) (by decide)) ?_
        exact done
      · rw [if_neg (by omega)] at done
        refine t_shrN (stps k x) 1 rfl rfl (by decide) ?_
        refine rd ?_
        exact done
    · subst hv
      (repeat (first | refine rd ?_ | refine t_brT rfl ?_ | refine t_brF rfl ?_))
      refine tl64 (by omega) (by omega) ?_
      exact t_round (k + 1) rfl (by omega) fun w h => sat_fact.2 ⟨by omega, h⟩
  · have : k = 8 := by omega
    subst this
    exact t_postV rfl fun _ h => h
theorem more_spec {s : Nat} {v : Value} {bs : List UInt8} (hs : s < 2 ^ 32) (hb : Rds byteE R v bs) : Spec Try.prog 62 #[.int .u32 s, v] R fun v => fact (v = .int .u32 (crcMore s bs)) ^ R := by
  refine Spec.mk fun w0 => t_shape hb fun a c hv h1 h2 => ?_
  unfold maxLen at h2
  subst hv
  refine Tri.use ?_ (F.sum_More_ok _ _ _ _ _)
  unfold F.sum_More
  have hx := xor_lt hs (show ones < 2 ^ 32 by decide)
  refine tlE (y := ((s ^^^ ones : Nat) : Int)) (by rw [xor32 (x := IntKind.u32.max) (a := ones) (b := s) (by decide) rfl (by decide) hs, Nat.xor_comm]) ?_
  refine t_loop (σ := Nat) (fun k => [.int .u32 (roll (s ^^^ ones) (bs.take k)), .int .i64 k]) (fun k => fact (k ≤ bs.length) ^ R) (fun k => bs.length - k) 0 rfl (fun w h => sat_fact.2 ⟨Nat.zero_le _, h⟩) fun k => t_fact fun hk => ?_
  (repeat (first | refine rd ?_ | refine t_brT rfl ?_ | refine t_brF rfl ?_))
  have hl := roll_lt (bs.take k) hx
  refine t_brD (fun h => ?_) fun h => ?_
  · have hlt : k < bs.length := by omega
    refine t_ixld0 k hb rfl (List.getElem?_eq_getElem hlt) rfl ?_
    refine rd ?_
    refine tlE (wrap32u (byte_lt _)) ?_
    refine tlE (xor32 rfl rfl hl (byte_lt _)) ?_
    refine t_callV (steps_spec (xor_lt hl (byte_lt _))) ?_
    refine rd ?_
    refine tl64 (by omega) (by omega) ?_
    refine t_round (k + 1) ?_ (by omega) fun w h => sat_fact.2 ⟨by omega, h⟩
    rw [List.take_add_one, List.getElem?_eq_getElem hlt, Option.toList_some, roll_snoc]
    rfl
  · have : k = bs.length := by omega
    subst this
    rw [List.take_length] at hl ⊢
    refine tlE (y := ((roll (s ^^^ ones) bs ^^^ ones : Nat) : Int)) (by rw [xor32 (x := IntKind.u32.max) (a := ones) (by decide) rfl (by decide) hl, Nat.xor_comm]) ?_
    exact t_postV rfl fun _ h => h
theorem sum_spec {v : Value} {bs : List UInt8} (hb : Rds byteE R v bs) : Spec Try.prog 52 #[v] R fun v => fact (v = .int .u32 (crc bs)) ^ R := by
  refine Spec.mk fun w0 => t_shape hb fun a c hv h1 h2 => ?_
  subst hv
  refine Tri.use ?_ (F.sum_Sum_ok _ _ _ _)
  unfold F.sum_Sum
  refine t_callV (more_spec (s := 0) (by decide) hb) ?_
  refine rd ?_
  exact t_postV rfl fun _ h => h
theorem rmore_spec {s : Nat} {v : Value} {bs : List UInt8} (hs : s < 2 ^ 32) (hb : Rds byteE R v bs) : Spec Try.prog 64 #[.int .u32 s, v] R fun v => fact (v = .int .u32 (crcMore s bs)) ^ R := by
  refine Spec.mk fun w0 => t_shape hb fun a c hv h1 h2 => ?_
  unfold maxLen at h2
  subst hv
  refine Tri.use ?_ (F.hayloftref02_More_ok _ _ _ _ _)
  unfold F.hayloftref02_More
  have hx := xor_lt hs (show ones < 2 ^ 32 by decide)
  refine tlE (xor32 (b := ones) rfl rfl hs (by decide)) ?_
  refine t_loop (σ := Nat) (fun k => [.int .u32 (roll (s ^^^ ones) (bs.take k)), .int .i64 k]) (fun k => fact (k ≤ bs.length) ^ R) (fun k => bs.length - k) 0 rfl (fun w h => sat_fact.2 ⟨Nat.zero_le _, h⟩) fun k => t_fact fun hk => ?_
  (repeat (first | refine rd ?_ | refine t_brT rfl ?_ | refine t_brF rfl ?_))
  have hl := roll_lt (bs.take k) hx
  refine t_brD (fun h => ?_) fun h => ?_
  · have hlt : k < bs.length := by omega
    refine t_ixld0 k hb rfl (List.getElem?_eq_getElem hlt) rfl ?_
    refine rd ?_
    refine tlE (wrap32u (byte_lt _)) ?_
    refine tlE (xor32 rfl rfl hl (byte_lt _)) ?_
    have hl2 := xor_lt hl (byte_lt bs[k])
    have hnext : roll (s ^^^ ones) (bs.take (k + 1)) = stps 8 (roll (s ^^^ ones) (bs.take k) ^^^ bs[k].toNat) := by
      rw [List.take_add_one, List.getElem?_eq_getElem hlt, Option.toList_some, roll_snoc]
    generalize roll (s ^^^ ones) (bs.take k) ^^^ bs[k].toNat = y at hl2 hnext
    refine t_loop (σ := Nat) (fun j => [.int .u32 (stps j y), .int .i64 j]) (fun j => fact (j ≤ 8) ^ R) (fun j => 8 - j) 0 rfl (fun w h => sat_fact.2 ⟨by decide, h⟩) fun j => t_fact fun hj => ?_
    (repeat (first | refine rd ?_ | refine t_brT rfl ?_ | refine t_brF rfl ?_))
    refine t_brD (fun h3 => ?_) fun h3 => ?_
    · refine t_callV (step_spec (stps_lt j hl2)) ?_
      refine rd ?_
      refine tl64 (by omega) (by omega) ?_
      exact t_round (j + 1) (by rw [stps_succ]; rfl) (by omega) fun w h => sat_fact.2 ⟨by omega, h⟩
    · have : j = 8 := by omega
      subst this
      refine tl64 (by omega) (by omega) ?_
      exact t_round (k + 1) (by rw [hnext]; rfl) (by omega) fun w h => sat_fact.2 ⟨by omega, h⟩
  · have : k = bs.length := by omega
    subst this
    rw [List.take_length] at hl ⊢
    refine tlE (xor32 (b := ones) rfl rfl hl (by decide)) ?_
    exact t_postV rfl fun _ h => h
theorem rsum_spec {v : Value} {bs : List UInt8} (hb : Rds byteE R v bs) : Spec Try.prog 55 #[v] R fun v => fact (v = .int .u32 (crc bs)) ^ R := by
  refine Spec.mk fun w0 => t_shape hb fun a c hv h1 h2 => ?_
  subst hv
  refine Tri.use ?_ (F.hayloftref02_Sum_ok _ _ _ _)
  unfold F.hayloftref02_Sum
  refine t_callV (rmore_spec (s := 0) (by decide) hb) ?_
  refine rd ?_
  exact t_postV rfl fun _ h => h
end
end Go.Proofs.Ytehpdpdmjflddaa
