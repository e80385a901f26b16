/-
  Structs of three numbers compared; alive of law21; the walk of ManifestWrites.
-/
import Derived.Test.YtehpdpdmjflddaaManR
import Derived.Laws.StructEq
import Derived.ChangeKeysEq
namespace Go.Proofs.Ytehpdpdmjflddaa
open Go.RowKit

theorem eq3_run {P : Program} {T : TypeId} {l : List Field} {t : TypeId} (w : World) (x y : Operand) (a b c a' b' c' : Int)
    (hf : (P.fieldsOf T).toList = l) (h3 : l.map (fun g => (g.name == "_", g.type, g.offset)) = [(false, t, 0), (false, t, 1), (false, t, 2)])
    (ht : P.underlying T = some (.struct (P.fieldsOf T))) (hp : P.stoodInHeld T = false) (hg : P.eqGuardType P.depth T = false) (hi : P.underlying t = some (.int .i64)) (hk : P.plainKey t = true) :
    (do eqGuard .eql T x y (.agg #[.int .i64 a, .int .i64 b, .int .i64 c]) (.agg #[.int .i64 a', .int .i64 b', .int .i64 c']); binOp .eql T (.agg #[.int .i64 a, .int .i64 b, .int .i64 c]) (.agg #[.int .i64 a', .int .i64 b', .int .i64 c'])).run P w =
      .ok (.bool (decide (a = a' ∧ b = b' ∧ c = c'))) w := by
  have hlen : l.length = 3 := by have := congrArg List.length h3; simpa using this
  obtain ⟨f0, f1, f2, rfl⟩ : ∃ f0 f1 f2, l = [f0, f1, f2] := by
    rcases l with _ | ⟨f0, _ | ⟨f1, _ | ⟨f2, _ | ⟨f3, l⟩⟩⟩⟩ <;> simp at hlen
    exact ⟨f0, f1, f2, rfl⟩
  simp at h3
  obtain ⟨⟨g1, g2, g3⟩, ⟨g4, g5, g6⟩, g7, g8, g9⟩ := h3
  rw [Sem.run_bind, run_eqGuard_agg w _ _ _ _ _ _ hg]
  simp only [Result.andThen_ok]
  rw [run_eql_struct, run_equalIn_agg w 9999 T _ _ ht hp, hf]
  have p1 : ∀ (u v z : Value) (w : World), (part t #[u, v, z] 0).run P w = .ok u w := fun u v z w => run_part_plain w hk (by rfl)
  have p2 : ∀ (u v z : Value) (w : World), (part t #[u, v, z] 1).run P w = .ok v w := fun u v z w => run_part_plain w hk (by rfl)
  have p3 : ∀ (u v z : Value) (w : World), (part t #[u, v, z] 2).run P w = .ok z w := fun u v z w => run_part_plain w hk (by rfl)
  have q : ∀ (i j : Int) (w : World), (Op.equalIn 9999 t (.int .i64 i) (.int .i64 j)).run P w = .ok (i == j) w := fun i j w => run_equalIn_int w 9998 t .i64 .i64 i j hi
  by_cases h1 : a = a' <;> by_cases h2 : b = b' <;> by_cases h4 : c = c' <;>
    simp [Op.eqFields, g1, g2, g3, g4, g5, g6, g7, g8, g9, p1, p2, p3, q, h1, h2, h4]
/-- Structs of three numbers. -/
structure I3 (P : Program) (T : TypeId) : Prop where
  run : ∀ (w : World) (x y : Operand) (a b c a' b' c' : Int), (do eqGuard .eql T x y (.agg #[.int .i64 a, .int .i64 b, .int .i64 c]) (.agg #[.int .i64 a', .int .i64 b', .int .i64 c']); binOp .eql T (.agg #[.int .i64 a, .int .i64 b, .int .i64 c]) (.agg #[.int .i64 a', .int .i64 b', .int .i64 c'])).run P w =
      .ok (.bool (decide (a = a' ∧ b = b' ∧ c = c'))) w
theorem t_eq3 {P : Program} {A : SP} {w0 : World} {T : TypeId} (hT : I3 P T) {x y : Operand} {a b c a' b' c' : Int} {next : Value → WP} (k : Tri A w0 (next (.bool (decide (a = a' ∧ b = b' ∧ c = c'))))) :
    Tri A w0 (sem P (do eqGuard .eql T x y (.agg #[.int .i64 a, .int .i64 b, .int .i64 c]) (.agg #[.int .i64 a', .int .i64 b', .int .i64 c']); binOp .eql T (.agg #[.int .i64 a, .int .i64 b, .int .i64 c]) (.agg #[.int .i64 a', .int .i64 b', .int .i64 c'])) next) := t_semQ (fun w _ => hT.run w ..) k
theorem i3_law : I3 Try.prog 65 := ⟨fun w x y a b c a' b' c' => eq3_run (t := 3) w x y a b c a' b' c' rfl (by kernel_rfl) (by kernel_rfl) (by kernel_rfl) (by kernel_rfl) (by kernel_rfl) (by kernel_rfl)⟩
theorem i3_man : I3 Try.prog 67 := ⟨fun w x y a b c a' b' c' => eq3_run (t := 3) w x y a b c a' b' c' rfl (by kernel_rfl) (by kernel_rfl) (by kernel_rfl) (by kernel_rfl) (by kernel_rfl) (by kernel_rfl)⟩
theorem i3_ref : I3 Try.prog 69 := ⟨fun w x y a b c a' b' c' => eq3_run (t := 3) w x y a b c a' b' c' rfl (by kernel_rfl) (by kernel_rfl) (by kernel_rfl) (by kernel_rfl) (by kernel_rfl) (by kernel_rfl)⟩

theorem mb_take4 (s f l : Nat) : (mbytes s f l).take 4 = le s 4 := rfl
theorem mb_drop60 (s f l : Nat) : (mbytes s f l).drop 60 = le s 4 := rfl
theorem mb_take56 (s f l : Nat) : (mbytes s f l).take 56 = mhead s f l := rfl
theorem mb_sum (s f l : Nat) : ((mbytes s f l).take 60).drop 56 = le (crc (mhead s f l)) 4 := by
  unfold mbytes
  generalize crc (mhead s f l) = c
  rfl
theorem mb_first (s f l : Nat) : ((mbytes s f l).drop 4).take 4 = le f 4 := rfl
theorem mb_len (s f l : Nat) : ((mbytes s f l).drop 8).take 4 = le l 4 := rfl
theorem val4 {n : Nat} (h : n < 4294967296) : val (le n 4) = n := by rw [val_le]; exact Nat.mod_eq_of_lt h
/-- What is written is read as it was. -/
theorem mread_mbytes {s f l : Nat} (hm : mayB s f l = true) : mread (mbytes s f l) = (((s : Int), (f : Int), (l : Int)), (0 : Int)) := by
  have h := of_decide_eq_true hm
  unfold mread
  rw [mbytes_length, if_neg (by decide), if_neg (by decide), if_neg (by rw [mb_take4, mb_drop60]; simp), mb_take56, mb_sum, val4 (by have := crc_lt (mhead s f l); omega), if_neg (by simp), mb_take4, mb_first, mb_len, val4 (by omega), val4 (by omega), val4 (by omega), if_pos ⟨hm, rfl⟩]
section
variable {R : SP} {w0 : World} {X : WP}
theorem next0_spec : Spec Try.prog 49 #[.slice none 0 0, .int .i64 (-1)] R fun u => fact (u = .tuple #[.int .i64 1, .int .i64 0, .int .i64 0]) ^ R := by
  refine Spec.mk fun w0 => Tri.use ?_ (F.manifest_Next_ok _ _ _ _ _)
  unfold F.manifest_Next
  refine t_loop (σ := Unit) (fun _ => [.int .i64 0, .int .i64 0]) (fun _ => R) (fun _ => 0) () rfl (fun _ h => h) fun _ => ?_
  (repeat (first | refine rd ?_ | refine t_brT rfl ?_ | refine t_brF rfl ?_))
  refine tl64 (by decide) (by decide) ?_
  exact t_postV rfl fun _ h => h
set_option maxRecDepth 100000 in
theorem alive21 : Spec Try.prog 38 #[] R fun u => fact (u = .bool true) ^ R := by
  refine Spec.mk fun w0 => Tri.use ?_ (F.hayloftlaw21_alive_ok _)
  unfold F.hayloftlaw21_alive
  have hm : mayB ((1 : Nat) : Int) ((3 : Nat) : Int) ((40 : Nat) : Int) = true := by decide
  refine t_callX (mbytes_spec hm) fun g => ?_
  (repeat (first | refine rd ?_ | refine t_brT rfl ?_ | refine t_brF rfl ?_))
  refine t_callV (mread_spec (rds_bytes (g := g) (mbytes_length _ _ _) (by decide))) ?_
  rw [mread_mbytes hm]
  unfold tri3
  (repeat (first | refine rd ?_ | refine t_brT rfl ?_ | refine t_brF rfl ?_))
  refine rn fun q => ?_
  (repeat (first | refine rd ?_ | refine t_brT rfl ?_ | refine t_brF rfl ?_))
  refine t_callV next0_spec ?_
  (repeat (first | refine rd ?_ | refine t_brT rfl ?_ | refine t_brF rfl ?_))
  refine t_ixld0 (E := byteE) 0 (rds_bytes (g := g) (mbytes_length _ _ _) (by decide)) rfl (show (mbytes 1 3 40)[0]? = some 1 from rfl) rfl ?_
  (repeat (first | refine rd ?_ | refine t_brT rfl ?_ | refine t_brF rfl ?_))
  refine t_ixld0 (E := byteE) 4 (rds_bytes (g := g) (mbytes_length _ _ _) (by decide)) rfl (show (mbytes 1 3 40)[4]? = some 3 from rfl) rfl ?_
  (repeat (first | refine rd ?_ | refine t_brT rfl ?_ | refine t_brF rfl ?_))
  refine t_ixld0 (E := byteE) 8 (rds_bytes (g := g) (mbytes_length _ _ _) (by decide)) rfl (show (mbytes 1 3 40)[8]? = some 40 from rfl) rfl ?_
  (repeat (first | refine rd ?_ | refine t_brT rfl ?_ | refine t_brF rfl ?_))
  refine t_ixld0 (E := byteE) 60 (rds_bytes (g := g) (mbytes_length _ _ _) (by decide)) rfl (show (mbytes 1 3 40)[60]? = some 1 from rfl) rfl ?_
  (repeat (first | refine rd ?_ | refine t_brT rfl ?_ | refine t_brF rfl ?_))
  refine t_callV (sector_slot_spec (by decide)) ?_
  (repeat (first | refine rd ?_ | refine t_brT rfl ?_ | refine t_brF rfl ?_))
  exact t_postV rfl fun w h => h.right.right
theorem sameNil {v1 v2 : Value} {b1 b2 : List UInt8} (h1 : Rds byteE R v1 b1) (h2 : Rds byteE R v2 b2) : Spec Try.prog 25 #[v1, v2] R fun u => fact (u = .bool (decide (b1 = b2))) ^ R := same_specS (e1 := 5) (e2 := 5) h1 h2
set_option maxRecDepth 100000 in
theorem mwrites_spec {s f l i n : Int} (hn : n ≤ 9223372036854775807) : Spec Try.prog 9 #[.agg #[.int .i64 s, .int .i64 f, .int .i64 l], .int .i64 i, .int .i64 n] R fun u => fact (u = .bool true) ^ R := by
  refine Spec.mk fun w0 => Tri.use ?_ (F.hayloftlaw21_ManifestWrites_ok _ _ _ _ _ _)
  unfold F.hayloftlaw21_ManifestWrites
  refine rn fun p => ?_
  (repeat (first | refine rd ?_ | refine t_brT rfl ?_ | refine t_brF rfl ?_))
  refine t_callV alive21 ?_
  (repeat (first | refine rd ?_ | refine t_brT rfl ?_ | refine t_brF rfl ?_))
  cases hm : mayB s f l with
  | false =>
    refine t_callV (mbytesNot_spec hm) ?_
    (repeat (first | refine rd ?_ | refine t_brT rfl ?_ | refine t_brF rfl ?_))
    refine t_callV (rmbytesNot_spec hm) ?_
    (repeat (first | refine rd ?_ | refine t_brT rfl ?_ | refine t_brF rfl ?_))
    refine t_callV (sameNil (b1 := []) (b2 := []) rds_nil rds_nil) ?_
    (repeat (first | refine rd ?_ | refine t_brT rfl ?_ | refine t_brF rfl ?_))
    refine t_callV (sector_slot_spec hn) ?_
    (repeat (first | refine rd ?_ | refine t_brT rfl ?_ | refine t_brF rfl ?_))
    refine t_callV (rsector_slot_spec hn) ?_
    (repeat (first | refine rd ?_ | refine t_brT rfl ?_ | refine t_brF rfl ?_))
    refine t_brN (fun h => absurd rfl h) fun _ => ?_
    (repeat (first | refine rd ?_ | refine t_brT rfl ?_ | refine t_brF rfl ?_))
    exact t_postV rfl fun w h => h.right
  | true =>
    have hm2 := of_decide_eq_true hm
    obtain ⟨s, rfl⟩ : ∃ k : Nat, s = k := ⟨s.toNat, by omega⟩
    obtain ⟨f, rfl⟩ : ∃ k : Nat, f = k := ⟨f.toNat, by omega⟩
    obtain ⟨l, rfl⟩ : ∃ k : Nat, l = k := ⟨l.toNat, by omega⟩
    refine t_callX (mbytes_spec hm) fun g => ?_
    (repeat (first | refine rd ?_ | refine t_brT rfl ?_ | refine t_brF rfl ?_))
    refine t_callX (rmbytes_spec hm) fun y => ?_
    obtain ⟨ya, yc⟩ := y
    dsimp only
    (repeat (first | refine rd ?_ | refine t_brT rfl ?_ | refine t_brF rfl ?_))
    refine t_callV (sameNil (rds_bytes (g := g) (mbytes_length s f l) (by decide)) (by have := rdR byteE (A := row byteE (.slice ya 64 yc) (mbytes s f l) ^ bytesB g (mbytes s f l) ^ blk p 65 [.int .i64 s, .int .i64 f, .int .i64 l] ^ R) (v := .slice ya 64 yc) (xs := mbytes s f l); exact this)) ?_
    (repeat (first | refine rd ?_ | refine t_brT rfl ?_ | refine t_brF rfl ?_))
    refine t_brT (by simp) ?_
    refine t_callV (sector_slot_spec hn) ?_
    (repeat (first | refine rd ?_ | refine t_brT rfl ?_ | refine t_brF rfl ?_))
    refine t_callV (rsector_slot_spec hn) ?_
    (repeat (first | refine rd ?_ | refine t_brT rfl ?_ | refine t_brF rfl ?_))
    refine t_brN (fun h => absurd rfl h) fun _ => ?_
    (repeat (first | refine rd ?_ | refine t_brT rfl ?_ | refine t_brF rfl ?_))
    refine t_callV (mread_spec (rds_bytes (g := g) (mbytes_length _ _ _) (by decide))) ?_
    rw [mread_mbytes hm]
    unfold tri3
    (repeat (first | refine rd ?_ | refine t_brT rfl ?_ | refine t_brF rfl ?_))
    refine rn fun q => ?_
    (repeat (first | refine rd ?_ | refine t_brT rfl ?_ | refine t_brF rfl ?_))
    refine t_eq3 i3_law ?_
    (repeat (first | refine rd ?_ | refine t_brT rfl ?_ | refine t_brF rfl ?_))
    refine t_postV (by simp) fun w h => h.right.right.right.right
end
end Go.Proofs.Ytehpdpdmjflddaa
