/-
  A reader of numbers; manifests.
-/
import Derived.Test.YtehpdpdmjflddaaNum
import Derived.Test.YtehpdpdmjflddaaFMan
import Derived.Test.YtehpdpdmjflddaaFR21
namespace Go.Proofs.Ytehpdpdmjflddaa
open Go.RowKit

theorem rds_blkE {A R : SP} {g off n c : Nat} {bs ys : List UInt8} {e : TypeId} {fz : Nat × Nat} [h : Own A g (.cells ⟨bs.map u8v⟩ e fz) R] (he : (bs.drop off).take n = ys) (hn : off + n ≤ bs.length) (hc : n ≤ c) (hm : c ≤ maxLen) : Rds byteE A (slB g off n c) ys := by
  subst he
  exact rds_blk hn hc hm
/-- A reader at p: what is left, and its fault. -/
def rdrS (p : Nat) (bs : List UInt8) (e : Int) : SP := ex fun x : (Option Addr × Nat) × Nat × List UInt8 =>
  fact (Rds byteE (bytesB x.2.1 x.2.2) (.slice x.1.1 bs.length x.1.2) bs ∧ bs.length ≤ 140737488355328) ^ blk p 115 [.slice x.1.1 bs.length x.1.2, .int .i64 e] ^ bytesB x.2.1 x.2.2
def rdBytes (bs : List UInt8) (e n : Int) : List UInt8 × List UInt8 × Int :=
  if e ≠ 0 ∨ n ≤ 0 then ([], bs, e) else if (bs.length : Int) < n then ([], bs, 3) else (bs.take n.toNat, bs.drop n.toNat, e)
section
variable {P : Program} {A R : SP} {w0 : World} {X : WP}
instance {t : TypeId} {a : Addr} {b n : Nat} {l : List Value} {e : TypeId} {fz : Nat × Nat} {R : SP} {next : Value → WP} [ha : AddrIs a b 0] [Own A b (.cells ⟨l⟩ e fz) R] [ht : RowT P t n] [hl : LenIs l n] :
    Red A (semR P (Instr.loadAt t (.pointer (some a))) next) A (next (.agg ⟨l⟩)) := ⟨fun w0 k => t_semR (fun w hs => by
  have hs := own_sat (b := b) hs
  rw [ha.eq]
  have hr := ht.ok.1
  unfold isRowT at hr
  cases hu : P.underlying t with
  | none => rw [hu] at hr; cases hr
  | some d =>
    cases hi : P.info? t with
    | none => rw [hu, hi] at hr; cases hr
    | some inf =>
      rw [hu, hi] at hr
      simp only [Bool.and_eq_true] at hr
      have hsz : inf.size = n := Nat.eq_of_beq_eq_true hr.2
      exact run_loadAt_mid w b 0 t l d (fun j u hj => by
        rw [hs.cell]
        simpa using hj) hu hr.1 (by simp [hi, hsz, hl.eq])) k⟩
end
section
variable {R : SP} {w0 : World} {X : WP} {p : Nat} {bs : List UInt8} {e : Int}
theorem t_rdr (k : ∀ a c g all, Rds byteE (bytesB g all) (.slice a bs.length c) bs → bs.length ≤ 140737488355328 → Tri (blk p 115 [.slice a bs.length c, .int .i64 e] ^ bytesB g all ^ R) w0 X) : Tri (rdrS p bs e ^ R) w0 X := by
  unfold rdrS
  refine t_exS fun x => ?_
  simp only [star_assoc]
  exact t_fact fun h => k _ _ _ _ h.1 h.2
theorem toRdr {w : World} {a : Option Addr} {c g : Nat} {all : List UInt8} (h1 : Rds byteE (bytesB g all) (.slice a bs.length c) bs) (h2 : bs.length ≤ 140737488355328) (h : Sat w (blk p 115 [.slice a bs.length c, .int .i64 e] ^ bytesB g all ^ R)) : Sat w (rdrS p bs e ^ R) := by
  unfold rdrS
  rw [ex_star, sat_ex]
  refine ⟨((a, c), g, all), ?_⟩
  rw [star_assoc, sat_fact]
  exact ⟨⟨h1, h2⟩, h.as (by simp only [star_assoc])⟩
theorem open_spec {v : Value} (hb : Rds byteE R v bs) (hl : bs.length ≤ 140737488355328) : Spec Try.prog 58 #[v] R fun u => ex fun p => fact (u = ptr p) ^ rdrS p bs 0 ^ R := by
  refine Spec.mk fun w0 => t_shape hb fun a c hv h1 h2 => ?_
  subst hv
  refine Tri.use ?_ (F.num_Open_ok _ _ _ _)
  unfold F.num_Open
  refine t_makeB bs.length rfl rfl rfl (by omega) (by unfold maxLen; omega) fun g => ?_
  (repeat (first | refine rd ?_ | refine t_brT rfl ?_ | refine t_brF rfl ?_))
  refine t_copyBytes (g := g) hb.part bs.length (Nat.min_self _) (by simp [zeros]) ?_
  (repeat (first | refine rd ?_ | refine t_brT rfl ?_ | refine t_brF rfl ?_))
  refine rn fun p => ?_
  (repeat (first | refine rd ?_ | refine t_brT rfl ?_ | refine t_brF rfl ?_))
  have e : spl (zeros bs.length) 0 (bs.take bs.length) = bs := by unfold spl; simp [zeros]
  rw [e]
  refine t_post fun w h => sat_ex.2 ⟨p, sat_fact.2 ⟨rfl, toRdr (g := g) (all := bs) (rds_bytes (R := emp) (g := g) rfl (by unfold maxLen; omega)) hl h⟩⟩
theorem rbytes_spec {n : Int} : Spec Try.prog 65 #[ptr p, .int .i64 n] (rdrS p bs e ^ R) fun u => ex fun x : Option Addr × Nat => fact (u = .slice x.1 (rdBytes bs e n).1.length x.2) ^ row byteE (.slice x.1 (rdBytes bs e n).1.length x.2) (rdBytes bs e n).1 ^ rdrS p (rdBytes bs e n).2.1 (rdBytes bs e n).2.2 ^ R := by
  refine Spec.mk fun w0 => t_rdr fun a c g all hr hl => ?_
  have none : ∀ (es : Int), rdBytes bs e n = ([], bs, es) → Tri (blk p 115 [.slice a bs.length c, .int .i64 es] ^ bytesB g all ^ R) w0 (Post (fun u => ex fun x : Option Addr × Nat => fact (u = .slice x.1 (rdBytes bs e n).1.length x.2) ^ row byteE (.slice x.1 (rdBytes bs e n).1.length x.2) (rdBytes bs e n).1 ^ rdrS p (rdBytes bs e n).2.1 (rdBytes bs e n).2.2 ^ R) w0 (.slice none 0 0)) := fun es h => by
    rw [h]
    exact t_post fun w h => sat_ex.2 ⟨(none, 0), sat_fact.2 ⟨rfl, (toRdr hr hl h).as (by rw [List.length_nil, row_nil rfl, emp_star])⟩⟩
  refine Tri.use ?_ (F.num_Reader_Bytes_ok _ _ _)
  unfold F.num_Reader_Bytes
  (repeat (first | refine rd ?_ | refine t_brT rfl ?_ | refine t_brF rfl ?_))
  refine t_brN (fun h => none e (by unfold rdBytes; rw [if_pos (.inl h)])) fun he => ?_
  refine t_brD (fun h => none e (by unfold rdBytes; rw [if_pos (.inr h)])) fun hn => ?_
  (repeat (first | refine rd ?_ | refine t_brT rfl ?_ | refine t_brF rfl ?_))
  refine t_brD (fun h => ?_) fun h => ?_
  · (repeat (first | refine rd ?_ | refine t_brT rfl ?_ | refine t_brF rfl ?_))
    exact none 3 (by unfold rdBytes; rw [if_neg (by omega), if_pos (by omega)])
  obtain ⟨m, rfl⟩ : ∃ m : Nat, n = m := ⟨n.toNat, by omega⟩
  have e1 : rdBytes bs e m = (bs.take m, bs.drop m, e) := by unfold rdBytes; rw [if_neg (by omega), if_neg (by omega)]; rfl
  rw [e1]
  refine t_makeB m rfl rfl rfl (by omega) (by unfold maxLen; omega) fun g2 => ?_
  (repeat (first | refine rd ?_ | refine t_brT rfl ?_ | refine t_brF rfl ?_))
  refine t_copyBytes (g := g2) hr.part m (Nat.min_eq_right (by omega)) (by simp [zeros]) ?_
  (repeat (first | refine rd ?_ | refine t_brT rfl ?_ | refine t_brF rfl ?_))
  refine t_sliceP m bs.length hr (.inr rfl) (.inl ⟨rfl, rfl⟩) (by omega) (Nat.le_refl _) fun a' c' hr' => ?_
  rw [List.take_length] at hr'
  (repeat (first | refine rd ?_ | refine t_brT rfl ?_ | refine t_brF rfl ?_))
  have e2 : spl (zeros m) 0 (bs.take m) = bs.take m := by unfold spl; rw [List.drop_eq_nil_of_le (by simp [zeros]; omega)]; simp
  rw [e2]
  have hlt : (bs.take m).length = m := by simp; omega
  have hld : (bs.drop m).length = bs.length - m := by simp
  refine t_post fun w h => sat_ex.2 ⟨(some ⟨g2, 0, Option.none⟩, m), sat_fact.2 ⟨by dsimp only; rw [hlt], ?_⟩⟩
  dsimp only
  rw [hlt, row_bytes hlt (by unfold maxLen; omega)]
  refine (toRdr (bs := bs.drop m) (R := bytesB g2 (bs.take m) ^ R) (a := a') (c := c') (g := g) (all := all) (by rw [hld]; exact hr') (by rw [hld]; omega) (h.as ?_)).as (by ac_rfl)
  rw [hld]
  simp only [bytesB]
  ac_rfl
theorem rdBytes_len {w : Nat} : (rdBytes bs e w).1.length ≤ w := by
  unfold rdBytes
  split
  · simp
  split
  · simp
  · simp; omega
theorem fixed_spec {w : Nat} (hw : w ≤ 8) : Spec Try.prog 59 #[ptr p, .int .i64 w] (rdrS p bs e ^ R) fun u => fact (u = .int .u64 (val (rdBytes bs e w).1)) ^ rdrS p (rdBytes bs e w).2.1 (rdBytes bs e w).2.2 ^ R := by
  refine Spec.mk fun w0 => Tri.use ?_ (F.num_Reader_Fixed_ok _ _ _)
  unfold F.num_Reader_Fixed
  refine t_callV (clamp_spec hw) ?_
  (repeat (first | refine rd ?_ | refine t_brT rfl ?_ | refine t_brF rfl ?_))
  refine t_callX rbytes_spec fun x => ?_
  (repeat (first | refine rd ?_ | refine t_brT rfl ?_ | refine t_brF rfl ?_))
  refine t_callV (get_spec (rdR byteE)) ?_
  (repeat (first | refine rd ?_ | refine t_brT rfl ?_ | refine t_brF rfl ?_))
  rw [List.take_of_length_le (Nat.le_trans rdBytes_len hw)]
  exact t_postV rfl fun w h => h.right
/-- May a manifest be? -/
def mayB (s f l : Int) : Bool := decide (1 ≤ s ∧ s ≤ 4294967295 ∧ 1 ≤ f ∧ f ≤ 65534 ∧ 8 ≤ l ∧ l ≤ 65542)
def mhead (s f l : Nat) : List UInt8 := le s 4 ++ le f 4 ++ le l 4 ++ zeros 44
/-- A manifest's bytes. -/
def mbytes (s f l : Nat) : List UInt8 := mhead s f l ++ le (crc (mhead s f l)) 4 ++ le s 4
theorem mhead_length (s f l : Nat) : (mhead s f l).length = 56 := by simp [mhead, le_length, zeros]
theorem mbytes_length (s f l : Nat) : (mbytes s f l).length = 64 := by simp [mbytes, mhead_length, le_length]
theorem may_spec {s f l : Int} : Spec Try.prog 50 #[.agg #[.int .i64 s, .int .i64 f, .int .i64 l]] R fun u => fact (u = .bool (mayB s f l)) ^ R := by
  refine Spec.mk fun w0 => Tri.use ?_ (F.manifest_may_ok _ _ _ _)
  unfold F.manifest_may
  refine rn fun p => ?_
  (repeat (first | refine rd ?_ | refine t_brT rfl ?_ | refine t_brF rfl ?_))
  refine t_joinDup ?_
  have no : mayB s f l = false → ∀ v, v = Value.bool false → Tri (blk p 67 [.int .i64 s, .int .i64 f, .int .i64 l] ^ R) w0 (Post (fun u => fact (u = .bool (mayB s f l)) ^ R) w0 v) := fun h v hv => by
    rw [h]
    exact t_postV hv fun w h => h.right
  (repeat (first | refine rd ?_ | refine t_brT rfl ?_ | refine t_brF rfl ?_))
  refine t_brD (fun h1 => ?_) fun h1 => (by (repeat (first | refine rd ?_ | refine t_brT rfl ?_ | refine t_brF rfl ?_)); exact no (decide_eq_false (by omega)) _ rfl)
  (repeat (first | refine rd ?_ | refine t_brT rfl ?_ | refine t_brF rfl ?_))
  refine t_brD (fun h2 => ?_) fun h2 => (by (repeat (first | refine rd ?_ | refine t_brT rfl ?_ | refine t_brF rfl ?_)); exact no (decide_eq_false (by omega)) _ rfl)
  (repeat (first | refine rd ?_ | refine t_brT rfl ?_ | refine t_brF rfl ?_))
  refine t_brD (fun h3 => ?_) fun h3 => (by (repeat (first | refine rd ?_ | refine t_brT rfl ?_ | refine t_brF rfl ?_)); exact no (decide_eq_false (by omega)) _ rfl)
  (repeat (first | refine rd ?_ | refine t_brT rfl ?_ | refine t_brF rfl ?_))
  refine t_brD (fun h4 => ?_) fun h4 => (by (repeat (first | refine rd ?_ | refine t_brT rfl ?_ | refine t_brF rfl ?_)); exact no (decide_eq_false (by omega)) _ rfl)
  (repeat (first | refine rd ?_ | refine t_brT rfl ?_ | refine t_brF rfl ?_))
  refine t_brD (fun h5 => ?_) fun h5 => (by (repeat (first | refine rd ?_ | refine t_brT rfl ?_ | refine t_brF rfl ?_)); exact no (decide_eq_false (by omega)) _ rfl)
  (repeat (first | refine rd ?_ | refine t_brT rfl ?_ | refine t_brF rfl ?_))
  refine t_postV ?_ fun w h => h.right
  congr 1
  unfold mayB
  exact decide_eq_decide.2 ⟨fun h => by omega, fun h => by omega⟩
theorem rmay_spec {s f l : Int} : Spec Try.prog 53 #[.agg #[.int .i64 s, .int .i64 f, .int .i64 l]] R fun u => fact (u = .bool (mayB s f l)) ^ R := by
  refine Spec.mk fun w0 => Tri.use ?_ (F.hayloftref21_May_ok _ _ _ _)
  unfold F.hayloftref21_May
  refine rn fun p => ?_
  (repeat (first | refine rd ?_ | refine t_brT rfl ?_ | refine t_brF rfl ?_))
  refine t_joinDup ?_
  have no : mayB s f l = false → ∀ v, v = Value.bool false → Tri (blk p 69 [.int .i64 s, .int .i64 f, .int .i64 l] ^ R) w0 (Post (fun u => fact (u = .bool (mayB s f l)) ^ R) w0 v) := fun h v hv => by
    rw [h]
    exact t_postV hv fun w h => h.right
  (repeat (first | refine rd ?_ | refine t_brT rfl ?_ | refine t_brF rfl ?_))
  refine t_brD (fun h1 => ?_) fun h1 => (by (repeat (first | refine rd ?_ | refine t_brT rfl ?_ | refine t_brF rfl ?_)); exact no (decide_eq_false (by omega)) _ rfl)
  (repeat (first | refine rd ?_ | refine t_brT rfl ?_ | refine t_brF rfl ?_))
  refine t_brD (fun h2 => ?_) fun h2 => (by (repeat (first | refine rd ?_ | refine t_brT rfl ?_ | refine t_brF rfl ?_)); exact no (decide_eq_false (by omega)) _ rfl)
  (repeat (first | refine rd ?_ | refine t_brT rfl ?_ | refine t_brF rfl ?_))
  refine t_brD (fun h3 => ?_) fun h3 => (by (repeat (first | refine rd ?_ | refine t_brT rfl ?_ | refine t_brF rfl ?_)); exact no (decide_eq_false (by omega)) _ rfl)
  (repeat (first | refine rd ?_ | refine t_brT rfl ?_ | refine t_brF rfl ?_))
  refine t_brD (fun h4 => ?_) fun h4 => (by (repeat (first | refine rd ?_ | refine t_brT rfl ?_ | refine t_brF rfl ?_)); exact no (decide_eq_false (by omega)) _ rfl)
  (repeat (first | refine rd ?_ | refine t_brT rfl ?_ | refine t_brF rfl ?_))
  refine t_brD (fun h5 => ?_) fun h5 => (by (repeat (first | refine rd ?_ | refine t_brT rfl ?_ | refine t_brF rfl ?_)); exact no (decide_eq_false (by omega)) _ rfl)
  (repeat (first | refine rd ?_ | refine t_brT rfl ?_ | refine t_brF rfl ?_))
  refine t_postV ?_ fun w h => h.right
  congr 1
  unfold mayB
  exact decide_eq_decide.2 ⟨fun h => by omega, fun h => by omega⟩
theorem lay3 (s f l : Nat) : (spl (spl (spl (zeros 64) 0 (le s 4)) 4 (le f 4)) 8 (le l 4)).take 56 = mhead s f l := rfl
theorem lay4 (s f l c : Nat) : (spl (spl (spl (spl (zeros 64) 0 (le s 4)) 4 (le f 4)) 8 (le l 4)) 56 (le c 4)).take 4 = le s 4 := rfl
theorem lay5 (s f l c : Nat) : spl (spl (spl (spl (spl (zeros 64) 0 (le s 4)) 4 (le f 4)) 8 (le l 4)) 56 (le c 4)) 60 (le s 4) = mhead s f l ++ le c 4 ++ le s 4 := rfl
set_option maxRecDepth 100000 in
theorem mbytes_spec {s f l : Nat} (hm : mayB s f l = true) : Spec Try.prog 39 #[.agg #[.int .i64 s, .int .i64 f, .int .i64 l]] R fun u => ex fun g : Nat => fact (u = .tuple #[slB g 0 64 64, .int .i64 0]) ^ bytesB g (mbytes s f l) ^ R := by
  have hm2 := of_decide_eq_true hm
  refine Spec.mk fun w0 => Tri.use ?_ (F.manifest_Bytes_ok _ _ _ _)
  unfold F.manifest_Bytes
  refine rn fun p => ?_
  (repeat (first | refine rd ?_ | refine t_brT rfl ?_ | refine t_brF rfl ?_))
  refine t_callV may_spec ?_
  rw [hm]
  (repeat (first | refine rd ?_ | refine t_brT rfl ?_ | refine t_brF rfl ?_))
  refine t_makeB 64 rfl rfl rfl (by decide) (by decide) fun g => ?_
  (repeat (first | refine rd ?_ | refine t_brT rfl ?_ | refine t_brF rfl ?_))
  refine tlE (wrap64u (by omega)) ?_
  refine t_callX (put_spec (w := 4) (by decide)) fun g1 => ?_
  (repeat (first | refine rd ?_ | refine t_brT rfl ?_ | refine t_brF rfl ?_))
  refine t_copyBytes (g := g) (rds_bytes (g := g1) (le_length _ _) (by decide)) 4 (by rw [le_length]; decide) (by simp [zeros]) ?_
  rw [List.take_of_length_le (by rw [le_length]; exact Nat.le_refl _)]
  (repeat (first | refine rd ?_ | refine t_brT rfl ?_ | refine t_brF rfl ?_))
  refine t_sliceB 4 64 (.inr rfl) (.inl ⟨rfl, rfl⟩) (by decide) (by decide) (by decide) (by decide) ?_
  (repeat (first | refine rd ?_ | refine t_brT rfl ?_ | refine t_brF rfl ?_))
  refine tlE (wrap64u (by omega)) ?_
  refine t_callX (put_spec (w := 4) (by decide)) fun g2 => ?_
  (repeat (first | refine rd ?_ | refine t_brT rfl ?_ | refine t_brF rfl ?_))
  refine t_copyBytes (g := g) (rds_bytes (g := g2) (le_length _ _) (by decide)) 4 (by rw [le_length]; decide) (by rw [spl_length (by simp [zeros, le_length])]; simp [zeros]) ?_
  rw [List.take_of_length_le (by rw [le_length]; exact Nat.le_refl _)]
  (repeat (first | refine rd ?_ | refine t_brT rfl ?_ | refine t_brF rfl ?_))
  refine t_sliceB 8 64 (.inr rfl) (.inl ⟨rfl, rfl⟩) (by decide) (by decide) (by decide) (by decide) ?_
  (repeat (first | refine rd ?_ | refine t_brT rfl ?_ | refine t_brF rfl ?_))
  refine tlE (wrap64u (by omega)) ?_
  refine t_callX (put_spec (w := 4) (by decide)) fun g3 => ?_
  (repeat (first | refine rd ?_ | refine t_brT rfl ?_ | refine t_brF rfl ?_))
  refine t_copyBytes (g := g) (rds_bytes (g := g3) (le_length _ _) (by decide)) 4 (by rw [le_length]; decide) (by show _ ≤ 64; decide) ?_
  rw [List.take_of_length_le (by rw [le_length]; exact Nat.le_refl _)]
  (repeat (first | refine rd ?_ | refine t_brT rfl ?_ | refine t_brF rfl ?_))
  refine t_sliceB 56 64 (.inr rfl) (.inl ⟨rfl, rfl⟩) (by decide) (by decide) (by decide) (by decide) ?_
  (repeat (first | refine rd ?_ | refine t_brT rfl ?_ | refine t_brF rfl ?_))
  refine t_sliceB 0 56 (.inl ⟨rfl, rfl⟩) (.inr rfl) (by decide) (by decide) (by decide) (by decide) ?_
  (repeat (first | refine rd ?_ | refine t_brT rfl ?_ | refine t_brF rfl ?_))
  refine t_callV (sum_spec (bs := mhead s f l) (rds_blkE (g := g) (lay3 s f l) (by show 0 + 56 ≤ 64; decide) (by decide) (by decide))) ?_
  (repeat (first | refine rd ?_ | refine t_brT rfl ?_ | refine t_brF rfl ?_))
  have hc := crc_lt (mhead s f l)
  refine tlE (wrap64u (by omega)) ?_
  refine t_callX (put_spec (w := 4) (by decide)) fun g4 => ?_
  (repeat (first | refine rd ?_ | refine t_brT rfl ?_ | refine t_brF rfl ?_))
  refine t_copyBytes (g := g) (rds_bytes (g := g4) (le_length _ _) (by decide)) 4 (by rw [le_length]; decide) (by show _ ≤ 64; decide) ?_
  rw [List.take_of_length_le (by rw [le_length]; exact Nat.le_refl _)]
  (repeat (first | refine rd ?_ | refine t_brT rfl ?_ | refine t_brF rfl ?_))
  refine t_sliceB 60 64 (.inr rfl) (.inl ⟨rfl, rfl⟩) (by decide) (by decide) (by decide) (by decide) ?_
  (repeat (first | refine rd ?_ | refine t_brT rfl ?_ | refine t_brF rfl ?_))
  refine t_sliceB 0 4 (.inl ⟨rfl, rfl⟩) (.inr rfl) (by decide) (by decide) (by decide) (by decide) ?_
  (repeat (first | refine rd ?_ | refine t_brT rfl ?_ | refine t_brF rfl ?_))
  generalize hcc : crc (mhead s f l) = cc
  refine t_copyBytes (g := g) (ys := le s 4) (rds_blkE (g := g) (lay4 s f l cc) (by show 0 + 4 ≤ 64; decide) (by decide) (by decide)) 4 (by rw [le_length]; decide) (by show _ ≤ 64; decide) ?_
  rw [List.take_of_length_le (by rw [le_length]; exact Nat.le_refl _), lay5]
  (repeat (first | refine rd ?_ | refine t_brT rfl ?_ | refine t_brF rfl ?_))
  refine t_post fun w h => sat_ex.2 ⟨g, sat_fact.2 ⟨rfl, ?_⟩⟩
  unfold mbytes
  rw [hcc]
  exact sat_keep1 h
end
end Go.Proofs.Ytehpdpdmjflddaa
