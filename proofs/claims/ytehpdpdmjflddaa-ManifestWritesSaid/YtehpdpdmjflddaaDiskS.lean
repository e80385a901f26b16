/-
  The program's disk, its contracts told for readings; Lay.
-/
import Derived.Test.YtehpdpdmjflddaaR05
import Derived.Test.YtehpdpdmjflddaaFDisk
import Derived.Test.YtehpdpdmjflddaaDiskN
import Derived.Test.YtehpdpdmjflddaaSame
namespace Go.Proofs.Ytehpdpdmjflddaa
open Go.RowKit

/-- A piece, wherever it stands. -/
class Has (A B : SP) (R : outParam SP) : Prop where
  eq : A = (B ^ R)
instance {B R : SP} : Has (B ^ R) B R := ⟨rfl⟩
instance {B : SP} : Has B B emp := ⟨(star_emp _).symm⟩
instance {A B X R : SP} [h : Has A B R] : Has (X ^ A) B (X ^ R) := ⟨by rw [h.eq]; ac_rfl⟩
theorem t_front {A R : SP} {w0 : World} {X : WP} (B : SP) [h : Has A B R] (k : Tri (B ^ R) w0 X) : Tri A w0 X := Tri.as h.eq k

section
variable {p : Nat} {D : DD} {R : SP} {w0 : World} {X : WP}
theorem Spec.ofX {P : Program} {A : SP} {f : FuncId} {args : Array Value} {α : Type} {u : α → Value} {C : α → SP} (h : ∀ w, Sat w A → Calls P f args w fun e w' => ∃ x, Done w (u x) (C x) e w') : Spec P f args A fun v => ex fun x => fact (v = u x) ^ C x := fun w hs =>
  Calls.mono (h w hs) fun _ _ ⟨x, e, h1, h2⟩ => ⟨u x, e, sat_ex.2 ⟨x, sat_fact.2 ⟨rfl, h1⟩⟩, h2⟩
theorem Spec.ofQ {P : Program} {A : SP} {f : FuncId} {args : Array Value} {u : Value} (h : ∀ w, Sat w A → Calls P f args w fun e w' => e = .returned u ∧ w = w') : Spec P f args A fun v => fact (v = u) ^ A := fun w hs =>
  Calls.mono (h w hs) fun _ _ ⟨e, h1⟩ => ⟨u, e, by subst h1; exact ⟨sat_fact.2 ⟨rfl, hs⟩, Flow.refl w⟩⟩
theorem dnew_spec (n : Nat) (h8 : 8 ≤ n) (hn : n ≤ 65536) : Spec Try.prog 14 #[.int .i64 n] R fun v => ex fun p => fact (v = .tuple #[ptr p, .int .i64 0]) ^ diskS p (DD.new n) ^ R := Spec.ofX fun w h => new_spec n h8 hn R w h
theorem dnewNot_spec {n : Int} (hn : n < 8 ∨ 65536 < n) : Spec Try.prog 14 #[.int .i64 n] R fun v => fact (v = .tuple #[.pointer none, .int .i64 2]) ^ R := Spec.ofQ fun w _ => newNot_spec n hn w
theorem rnewNot_spec {n : Int} (hn : n < 8 ∨ 65536 < n) : Spec Try.prog 31 #[.int .i64 n] R fun v => fact (v = .tuple #[.pointer none, .int .i64 2]) ^ R := by
  refine Spec.mk fun w0 => Tri.use ?_ (F.hayloftref05_New_ok _ _)
  unfold F.hayloftref05_New
  refine t_brD (fun h => t_postV rfl fun _ h => h) fun h => ?_
  exact t_brD (fun h => t_postV rfl fun _ h => h) fun h => by omega
theorem dlen_spec : Spec Try.prog 26 #[ptr p] (diskS p D ^ R) fun v => fact (v = .int .i64 D.n) ^ diskS p D ^ R := Spec.ofQ fun w h => len_spec p D R w h
theorem dpending_spec : Spec Try.prog 22 #[ptr p] (diskS p D ^ R) fun v => fact (v = .int .i64 D.wait.length) ^ diskS p D ^ R := Spec.ofQ fun w h => pending_spec p D R w h
theorem dops_spec : Spec Try.prog 21 #[ptr p] (diskS p D ^ R) fun v => fact (v = .int .i64 D.ops) ^ diskS p D ^ R := Spec.ofQ fun w h => ops_spec p D R w h
theorem ddown_spec : Spec Try.prog 20 #[ptr p] (diskS p D ^ R) fun v => fact (v = .bool D.down) ^ diskS p D ^ R := Spec.ofQ fun w h => down_spec p D R w h
theorem darm_spec {k : Int} (hk : k < 9223372036854775808) : Spec Try.prog 19 #[ptr p, .int .i64 k] (diskS p D ^ R) fun v => fact (v = .tuple #[]) ^ diskS p (D.arm k) ^ R := Spec.of fun w h => arm_spec p D k hk R w h
theorem flat_bytes (e : UInt8 → List Value) (he : e = fun b => [u8v b]) (bs : List UInt8) : bs.flatMap e = bs.map u8v := by
  subst he
  induction bs with
  | nil => rfl
  | cons b bs ih => rw [List.flatMap_cons, ih]; rfl
theorem flat_ints (ks : List Int) : ks.flatMap intE.enc = ks.map (Value.int .i64) := by
  induction ks with
  | nil => rfl
  | cons b bs ih => rw [List.flatMap_cons, ih]; rfl
theorem rdIn_of {R : SP} {v : Value} {bs : List UInt8} (h : Rds byteE R v bs) : RdIn R v bs := fun w hw => by
  have := h w hw
  rw [flat_bytes _ rfl] at this
  exact this
theorem rdInts_of {R : SP} {v : Value} {ks : List Int} (h : Rds intE R v ks) : RdInts R v ks := fun w hw => by
  have := h w hw
  rw [flat_ints] at this
  exact this
theorem rds_of_in {R : SP} {v : Value} {bs : List UInt8} (h : RdIn R v bs) : Rds byteE R v bs := fun w hw => by
  rw [flat_bytes _ rfl]
  exact h w hw
theorem rds_of_ints {R : SP} {v : Value} {ks : List Int} (h : RdInts R v ks) : Rds intE R v ks := fun w hw => by
  rw [flat_ints]
  exact h w hw
theorem dwrite_spec {i : Int} {v : Value} {bs : List UInt8} (hb : Rds byteE R v bs) (ho : D.ops < 9223372036854775807) (hw : D.wait.length < 1000000000) :
    Spec Try.prog 15 #[ptr p, .int .i64 i, v] (diskS p D ^ R) fun u => fact (u = .int .i64 (D.write i bs).2) ^ diskS p (D.write i bs).1 ^ R := Spec.of fun w h => write_spec p D i v bs R w h (rdIn_of hb) ho hw
theorem dflush_spec (ho : D.ops < 9223372036854775807) (hw : D.wait.length < 1000000000) :
    Spec Try.prog 16 #[ptr p] (diskS p D ^ R) fun u => fact (u = .int .i64 D.flush.2) ^ diskS p D.flush.1 ^ R := Spec.of fun w h => flush_spec p D R w h ho hw
theorem dcrash_spec {v : Value} {ks : List Int} (hk : Rds intE R v ks) (hw : D.wait.length < 1000000000) :
    Spec Try.prog 18 #[ptr p, v] (diskS p D ^ R) fun u => fact (u = .tuple #[]) ^ diskS p (D.crash ks) ^ R := Spec.of fun w h => crash_spec p D v ks R w h (rdInts_of hk) hw
/-- Bytes in a block of whatever type. -/
@[reducible] def byteT (e : TypeId) : El UInt8 := ⟨e, 1, fun b => [u8v b], fun _ => rfl, fun b u h => by simp at h; subst h; rfl, by decide⟩
theorem bytesS_row {v : Value} {bs : List UInt8} : bytesS v bs = ex fun e => row (byteT e) v bs := by
  unfold bytesS row
  congr 1
  funext e
  rw [flat_bytes (byteT e).enc rfl]
theorem read_row {v : Value} {bs : List UInt8} {w : World} (h : Sat w (bytesS v bs ^ R)) : ∃ x : TypeId × Option Addr × Nat, v = .slice x.2.1 bs.length x.2.2 ∧ Sat w (row (byteT x.1) (.slice x.2.1 bs.length x.2.2) bs ^ R) := by
  rw [bytesS_row, ex_star, sat_ex] at h
  obtain ⟨e, h⟩ := h
  obtain ⟨a, c, h1, _⟩ := (rds_row (E := byteT e) (v := v) (xs := bs) (R := R)).shape h
  subst h1
  exact ⟨(e, a, c), rfl, h⟩
theorem dread_spec {i : Int} (hw : D.wait.length < 1000000000) : Spec Try.prog 17 #[ptr p, .int .i64 i] (diskS p D ^ R) fun u => ex fun x : TypeId × Option Addr × Nat => fact (u = .tuple #[.slice x.2.1 (D.read i).1.length x.2.2, .int .i64 (D.read i).2]) ^ row (byteT x.1) (.slice x.2.1 (D.read i).1.length x.2.2) (D.read i).1 ^ diskS p D ^ R :=
  Spec.ofX fun w h => (read_spec p D i R w h hw).mono fun _ _ ⟨_, e, h1, h2⟩ => by
    obtain ⟨x, hx, h3⟩ := read_row h1
    subst hx
    exact ⟨x, e, h3, h2⟩
theorem dimage_spec : Spec Try.prog 24 #[ptr p] (diskS p D ^ R) fun u => ex fun x : TypeId × Option Addr × Nat => fact (u = .slice x.2.1 D.image.length x.2.2) ^ row (byteT x.1) (.slice x.2.1 D.image.length x.2.2) D.image ^ diskS p D ^ R :=
  Spec.ofX fun w h => (image_spec p D R w h).mono fun _ _ ⟨_, e, h1, h2⟩ => by
    obtain ⟨x, hx, h3⟩ := read_row h1
    subst hx
    exact ⟨x, e, h3, h2⟩
theorem same_specS {e1 e2 : TypeId} {v1 v2 : Value} {b1 b2 : List UInt8} (h1 : Rds (byteT e1) R v1 b1) (h2 : Rds (byteT e2) R v2 b2) : Spec Try.prog 25 #[v1, v2] R fun u => fact (u = .bool (decide (b1 = b2))) ^ R := Spec.ofQ fun w h => by
  have g1 := h1 w h
  have g2 := h2 w h
  rw [flat_bytes _ rfl] at g1 g2
  exact same_spec v1 v2 b1 b2 w g1 g2
end
end Go.Proofs.Ytehpdpdmjflddaa
