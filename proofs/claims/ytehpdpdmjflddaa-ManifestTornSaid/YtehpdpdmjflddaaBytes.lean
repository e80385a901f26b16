/-
  Numbers as bytes; bytes in blocks of memory.
-/
import Derived.Test.YtehpdpdmjflddaaCrc
namespace Go.Proofs.Ytehpdpdmjflddaa
open Go.RowKit

/-- The lowest bytes of a number. -/
def le : Nat → Nat → List UInt8
  | _, 0 => []
  | n, w + 1 => UInt8.ofNat n :: le (n / 256) w
/-- The number of bytes. -/
def val : List UInt8 → Nat
  | [] => 0
  | c :: bs => c.toNat + 256 * val bs
theorem le_length : ∀ n w : Nat, (le n w).length = w
  | _, 0 => rfl
  | n, w + 1 => by simp [le, le_length (n / 256) w]
theorem val_lt : ∀ bs : List UInt8, val bs < 256 ^ bs.length
  | [] => by decide
  | c :: bs => by
    have h1 := val_lt bs
    have h2 : c.toNat < 256 := c.toNat_lt
    rw [List.length_cons, Nat.pow_succ]
    simp only [val]
    omega
theorem val_append : ∀ a b : List UInt8, val (a ++ b) = val a + 256 ^ a.length * val b
  | [], b => by simp [val]
  | c :: a, b => by
    rw [List.cons_append]
    simp only [val, List.length_cons, Nat.pow_succ]
    rw [val_append a b, Nat.mul_add, Nat.mul_comm (256 ^ a.length) 256, Nat.mul_assoc]
    omega
theorem val_le : ∀ n w : Nat, val (le n w) = n % 256 ^ w
  | n, 0 => by simp [le, val, Nat.mod_one]
  | n, w + 1 => by
    simp only [le, val]
    rw [val_le (n / 256) w, UInt8.toNat_ofNat', show (256 : Nat) ^ (w + 1) = 256 * 256 ^ w by rw [Nat.pow_succ, Nat.mul_comm], Nat.mod_mul]
theorem le_val : ∀ bs : List UInt8, le (val bs) bs.length = bs
  | [] => rfl
  | c :: bs => by
    have h2 : c.toNat < 256 := c.toNat_lt
    simp only [val, List.length_cons, le]
    rw [show (c.toNat + 256 * val bs) / 256 = val bs by omega, le_val bs]
    congr 1
    apply UInt8.toNat_inj.1
    rw [UInt8.toNat_ofNat']
    omega
theorem val_inj {a b : List UInt8} (hl : a.length = b.length) (h : val a = val b) : a = b := by rw [← le_val a, ← le_val b, h, hl]
theorem val_snoc (bs : List UInt8) (c : UInt8) : val (bs ++ [c]) = val bs + c.toNat * 2 ^ (8 * bs.length) := by
  rw [val_append]
  simp only [val, Nat.mul_zero, Nat.add_zero]
  rw [Nat.mul_comm, show (256 : Nat) = 2 ^ 8 from rfl, ← Nat.pow_mul]
theorem val_lt2 {bs : List UInt8} {n : Nat} (h : bs.length ≤ n) : val bs < 2 ^ (8 * n) := by
  have := val_lt bs
  rw [show (256 : Nat) = 2 ^ 8 from rfl, ← Nat.pow_mul] at this
  exact Nat.lt_of_lt_of_le this (Nat.pow_le_pow_right (by decide) (by omega))
theorem val_take_succ {bs : List UInt8} {k : Nat} (h : k < bs.length) : val (bs.take (k + 1)) = val (bs.take k) + bs[k].toNat * 2 ^ (8 * k) := by
  rw [List.take_add_one, List.getElem?_eq_getElem h, Option.toList_some, val_snoc, List.length_take, Nat.min_eq_left (Nat.le_of_lt h)]
theorem le_succ (n : Nat) : ∀ w, le n (w + 1) = le n w ++ [UInt8.ofNat (n / 256 ^ w)]
  | 0 => by simp [le]
  | w + 1 => by
    show UInt8.ofNat n :: le (n / 256) (w + 1) = (UInt8.ofNat n :: le (n / 256) w) ++ _
    rw [le_succ (n / 256) w, Nat.div_div_eq_div_mul, List.cons_append, Nat.pow_succ, Nat.mul_comm 256]
abbrev bytesB (g : Nat) (bs : List UInt8) : SP := blk g 5 (bs.map u8v)
abbrev slB (g off n c : Nat) : Value := .slice (some ⟨g, off, none⟩) n c
theorem row_bytes {g n : Nat} {bs : List UInt8} (hn : bs.length = n) (h : n ≤ maxLen) : row byteE (slB g 0 n n) bs = bytesB g bs := by
  subst hn
  unfold row
  rw [flat_bytes _ rfl]
  funext h'
  apply propext
  constructor
  · rintro ⟨_, ⟨hv, _⟩ | ⟨g', cap, cur, hv, _, _, hs, hx, rfl⟩⟩
    · cases hv
    · cases hv
      have : cur.toList = bs.map u8v := by rw [← hx, List.take_of_length_le (by simp [hs])]
      show Frag.one g _ = Frag.one g _
      rw [← this]
  · rintro rfl
    exact ⟨by simp, .inr ⟨g, bs.length, (bs.map u8v).toArray, rfl, Nat.le_refl _, h, by simp, List.take_of_length_le (by simp), rfl⟩⟩
/-- Bytes with others laid over them. -/
def spl (bs : List UInt8) (off : Nat) (ys : List UInt8) : List UInt8 := bs.take off ++ ys ++ bs.drop (off + ys.length)
theorem spl_length {bs ys : List UInt8} {off : Nat} (h : off + ys.length ≤ bs.length) : (spl bs off ys).length = bs.length := by unfold spl; simp; omega
section
variable {P : Program} {A B R : SP} {w0 : World} {X : WP}
theorem rds_blk {g off n c : Nat} {bs : List UInt8} {e : TypeId} {fz : Nat × Nat} [h : Own A g (.cells ⟨bs.map u8v⟩ e fz) R] (hn : off + n ≤ bs.length) (hc : n ≤ c) (hm : c ≤ maxLen) : Rds byteE A (slB g off n c) ((bs.drop off).take n) := fun w hw => by
  have hl : ((bs.drop off).take n).length = n := by simp; omega
  rw [hl, flat_bytes _ rfl]
  refine ⟨_, _, rfl, hc, hm, fun _ => ⟨g, off, rfl, fun j u hu => ?_⟩⟩
  rw [(own_sat (b := g) hw).cell]
  simp only [List.map_take, List.map_drop, List.getElem?_take, List.getElem?_drop] at hu
  split at hu
  · simpa using hu
  · cases hu
theorem t_makeB {T b : Nat} {z : List Value} {n c : Int} (k : Nat) {next : Value → WP} [hT : SlT P T 5 1 b z] (hn : n = k) (hc : c = k) (hz : [u8v 0] = z) (h2 : b * k ≤ 281474976710656) (h63 : k ≤ maxLen)
    (h : ∀ g, Tri (bytesB g (zeros k) ^ A) w0 (next (slB g 0 k k))) : Tri A w0 (sem P (Instr.makeSlice T (.int .i64 n) (.int .i64 c)) next) := by
  refine t_makeN (E := byteE) k k 0 hn hc hz (Nat.le_refl _) h2 (by unfold maxLen at h63; omega) fun g => ?_
  have e : row byteE (slB g 0 k k) (List.replicate k 0) = bytesB g (zeros k) := row_bytes (by simp) h63
  rw [e]
  exact h g
theorem t_sliceP {α : Type} {E : El α} {T et b : Nat} {z : List Value} {a : Option Addr} {n c : Nat} {lo hi : Option Value} {xs : List α} (l h : Nat) {next : Value → WP} [hT : SlT P T et E.sz b z] [p : Part A B] (hs : Rds E B (.slice a n c) xs)
    (hlo : (lo = none ∧ l = 0) ∨ lo = some (.int .i64 (l : Int))) (hhi : (hi = none ∧ h = xs.length) ∨ hi = some (.int .i64 (h : Int))) (hlh : l ≤ h) (hhn : h ≤ xs.length)
    (k : ∀ a' c', Rds E B (.slice a' (h - l) c') ((xs.take h).drop l) → Tri A w0 (next (.slice a' (h - l) c'))) : Tri A w0 (sem P (Instr.sliceAt T (.slice a n c) lo hi none) next) := fun w hw hf => by
  obtain ⟨zv, hinf, hzc⟩ := hT.inf
  obtain ⟨a0, c0, hv0, hnc, hcm, hcell⟩ := hs w (p.sub w hw)
  cases hv0
  have hb : (Instr.sliceBounds true xs.length c lo hi none).run P w = .ok (l, h, c) w := by
    rcases hlo with ⟨rfl, rfl⟩ | rfl <;> rcases hhi with ⟨rfl, rfl⟩ | rfl
    · simp [Instr.sliceBounds]
    · simp [Instr.sliceBounds, Instr.sliceBound, asIntOf, show (0 : Int) ≤ h ∧ (h : Int) ≤ c by omega, show h ≤ c by omega]
    · simp [Instr.sliceBounds, Instr.sliceBound, asIntOf, show (0 : Int) ≤ l ∧ (l : Int) ≤ (xs.length : Int) by omega, show l ≤ xs.length by omega]
    · simp [Instr.sliceBounds, Instr.sliceBound, asIntOf, show (0 : Int) ≤ h ∧ (h : Int) ≤ c by omega, show h ≤ c by omega, show (0 : Int) ≤ l ∧ (l : Int) ≤ (h : Int) by omega, hlh]
  have hrun : (Instr.sliceAt T (.slice a xs.length c) lo hi none).run P w = .ok (.slice (if c = l then a else a.map (·.add (l * E.sz))) (h - l) (c - l)) w := by
    unfold Instr.sliceAt
    rw [run_of (run_underlying hT.und w)]
    simp only
    unfold Instr.slice
    rw [run_of (run_underlying hT.und w)]
    simp only
    rw [run_of hb]
    simp only
    rw [run_of (info_zero hinf w).2]
    rfl
  refine ⟨_, w, hrun, k _ _ (fun w2 hw2 => ?_) w hw hf⟩
  obtain ⟨a2, c2, hv2, hnc2, hcm2, hcell2⟩ := hs w2 hw2
  cases hv2
  have hlen : ((xs.take h).drop l).length = h - l := by simp; omega
  rw [hlen]
  refine ⟨_, _, rfl, by omega, by omega, fun hpos => ?_⟩
  obtain ⟨bb, off, rfl, hc⟩ := hcell2 (by omega)
  have hcl : ¬ c = l := by omega
  refine ⟨bb, off + l * E.sz, ?_, fun j u hu => ?_⟩
  · rw [if_neg hcl]
    simp only [Option.map_some, Option.some.injEq]
    unfold Addr.add
    split
    · rename_i e; rw [e, Nat.add_zero]
    · rfl
  · have e : ((xs.take h).drop l).flatMap E.enc = ((xs.flatMap E.enc).take (h * E.sz)).drop (l * E.sz) := by
      conv => rhs; rw [← List.take_append_drop h xs, List.flatMap_append, List.take_left' (by rw [E.length, List.length_take, Nat.min_eq_left hhn])]
      conv => rhs; rw [← List.take_append_drop l (xs.take h), List.flatMap_append, List.drop_left' (by rw [E.length, List.length_take, List.length_take, Nat.min_eq_left (by omega)])]
    rw [e, List.getElem?_drop, List.getElem?_take] at hu
    split at hu
    · have := hc _ _ hu
      rwa [← Nat.add_assoc] at this
    · cases hu
/-- A slice that owns its block, cut. -/
theorem t_sliceB {T et b : Nat} {z : List Value} {g o n c : Nat} {lo hi : Option Value} (l h : Nat) {next : Value → WP} [hT : SlT P T et 1 b z]
    (hlo : (lo = none ∧ l = 0) ∨ lo = some (.int .i64 (l : Int))) (hhi : (hi = none ∧ h = n) ∨ hi = some (.int .i64 (h : Int))) (hlh : l ≤ h) (hhn : h ≤ n) (hnc : n ≤ c) (hl : l < c)
    (k : Tri A w0 (next (slB g (o + l) (h - l) (c - l)))) : Tri A w0 (sem P (Instr.sliceAt T (slB g o n c) lo hi none) next) := t_semQ (fun w _ => by
  obtain ⟨zv, hinf, hzc⟩ := hT.inf
  have hb : (Instr.sliceBounds true n c lo hi none).run P w = .ok (l, h, c) w := by
    rcases hlo with ⟨rfl, rfl⟩ | rfl <;> rcases hhi with ⟨rfl, rfl⟩ | rfl
    · simp [Instr.sliceBounds]
    · simp [Instr.sliceBounds, Instr.sliceBound, asIntOf, show (0 : Int) ≤ h ∧ (h : Int) ≤ c by omega, show h ≤ c by omega]
    · simp [Instr.sliceBounds, Instr.sliceBound, asIntOf, show (0 : Int) ≤ l ∧ (l : Int) ≤ (h : Int) by omega, show l ≤ h by omega]
    · simp [Instr.sliceBounds, Instr.sliceBound, asIntOf, show (0 : Int) ≤ h ∧ (h : Int) ≤ c by omega, show h ≤ c by omega, show (0 : Int) ≤ l ∧ (l : Int) ≤ (h : Int) by omega, hlh]
  unfold Instr.sliceAt
  rw [run_of (run_underlying hT.und w)]
  simp only
  unfold Instr.slice
  rw [run_of (run_underlying hT.und w)]
  simp only
  rw [run_of hb]
  simp only
  rw [run_of (info_zero hinf w).2]
  have : (⟨g, o, none⟩ : Addr).add l = ⟨g, o + l, none⟩ := by unfold Addr.add; split <;> simp_all
  simp [show ¬ c = l by omega, this]) k
/-- copy into a block of bytes. -/
theorem t_copyBytes {T ty e' bb : Nat} {z : List Value} {g off n c : Nat} {bs ys : List UInt8} {e : TypeId} {v : Value} {next : Value → WP} [hT : SlT P T e' 1 bb z] [h : Own A g (.cells ⟨bs.map u8v⟩ e (0, 0)) R] (hs : Rds byteE A v ys) (m : Nat) (hm : Nat.min ys.length n = m) (hfit : off + m ≤ bs.length)
    (k : Tri (blk g e ((spl bs off (ys.take m)).map u8v) ^ R) w0 (next (.int .i64 (m : Nat)))) : Tri A w0 (sem P (Builtin.copy_ #[T, T] ty #[slB g off n c, v]) next) := by
  subst hm
  refine t_copyB (b := g) (E := byteE) rfl hs (by rw [List.length_map]; exact hfit) ?_
  have e1 : splice (bs.map u8v) off ((ys.flatMap byteE.enc).take (Nat.min ys.length n)) = (spl bs off (ys.take (Nat.min ys.length n))).map u8v := by
    rw [flat_bytes _ rfl]
    unfold splice spl
    simp [List.map_take, List.map_drop]
  rw [e1]
  exact k
/-- The address of an element of an array variable. -/
theorem t_ixArr {T N e n : Nat} {a : Addr} {b i : Nat} {x : Int} (j o : Nat) {next : Value → WP} [hT : ArT P T N e n] [ha : AddrIs a b i] (hx : x = j) (hj : j < N) (ho : i + j * n = o) (k : Tri A w0 (next (.pointer (some ⟨b, o, none⟩)))) : Tri A w0 (sem P (Instr.indexAt T (.pointer (some a)) (.int .i64 x)) next) := t_semQ (fun w _ => by
  subst hx ho
  rw [ha.eq]
  unfold Instr.indexAt
  have hadd : (⟨b, i, none⟩ : Addr).add (j * n) = ⟨b, i + j * n, none⟩ := by unfold Addr.add; split <;> simp_all
  simp [asIntOf, run_underlying hT.und, hasSize_run hT.siz, hadd, Instr.sureAddr, show (0 : Int) ≤ j ∧ (j : Int) < N by omega, hj]) k
theorem t_shlN {t : TypeId} {q s : IntKind} {i y : Int} (x m : Nat) {next : Value → WP} (hx : i = x) (hy : y = m) (hm : m ≤ q.bits) (h0 : q.min ≤ 0) (hb : ((x * 2 ^ m : Nat) : Int) ≤ q.max) (k : Tri A w0 (next (.int q ((x * 2 ^ m : Nat) : Int)))) : Tri A w0 (sem P (binOp .shl t (.int q i) (.int s y)) next) := t_semQ (fun w _ => by
  subst hx hy
  unfold binOp Op.shift
  simp only [if_neg (show ¬ (m : Int) < 0 by omega), Int.toNat_natCast, Nat.min_eq_left hm]
  have h1 : ((x : Int) * 2 ^ m) = ((x * 2 ^ m : Nat) : Int) := by push_cast; rfl
  rw [h1, wrap_in (k := q) (by have : (0 : Int) ≤ ((x * 2 ^ m : Nat) : Int) := by exact_mod_cast Nat.zero_le _
                               omega) hb]
  rfl) k
end
theorem ofInt64 {x : Int} {a : Nat} (h : x = a) (ha : a < 2 ^ 64) : (BitVec.ofInt 64 x).toNat = a := by
  subst h
  rw [BitVec.ofInt_natCast, BitVec.toNat_ofNat, Nat.mod_eq_of_lt ha]
theorem wrap64u {a : Nat} (ha : a < 2 ^ 64) : IntKind.u64.wrap (a : Int) = a := by
  rw [IntKind.wrap_u64]
  omega
theorem or64 {x y : Int} {a b : Nat} (hx : x = a) (hy : y = b) (ha : a < 2 ^ 64) (hb : b < 2 ^ 64) : IntKind.u64.wrap ((BitVec.ofInt 64 x ||| BitVec.ofInt 64 y).toNat : Int) = ((a ||| b : Nat) : Int) := by
  rw [BitVec.toNat_or, ofInt64 hx ha, ofInt64 hy hb]
  exact wrap64u (Nat.or_lt_two_pow ha hb)
theorem or_high {a c i : Nat} (h : a < 2 ^ i) : a ||| c * 2 ^ i = a + c * 2 ^ i := by
  rw [Nat.or_comm, Nat.mul_comm, ← Nat.two_pow_add_eq_or_of_lt h, Nat.add_comm]
theorem low8 (n : Nat) : IntKind.u8.wrap (n : Int) = ((UInt8.ofNat n).toNat : Int) := by
  rw [IntKind.wrap_u8, UInt8.toNat_ofNat']
  simp
end Go.Proofs.Ytehpdpdmjflddaa
