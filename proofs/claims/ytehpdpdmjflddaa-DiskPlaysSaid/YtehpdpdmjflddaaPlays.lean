/-
  The walk of DiskPlays.
-/
import Derived.Test.YtehpdpdmjflddaaMakes
import Derived.Test.YtehpdpdmjflddaaRowS
namespace Go.Proofs.Ytehpdpdmjflddaa
open Go.RowKit

/-- A call of law05, its slices told. -/
structure Rq where
  kind : Int
  at' : Int
  ba : Option Addr
  bc : Nat
  ka : Option Addr
  kc : Nat
  bytes : List UInt8
  keeps : List Int
@[reducible] def rqE : El Rq := ⟨40, 4, fun x => [.int .i64 x.kind, .int .i64 x.at', .slice x.ba x.bytes.length x.bc, .slice x.ka x.keeps.length x.kc], fun _ => rfl, fun b u h => by simp at h; rcases h with rfl | rfl | rfl | rfl <;> rfl, by decide⟩
structure Rq.In (R : SP) (x : Rq) : Prop where
  at' : x.at' < 9223372036854775808
  bytes : Rds byteE R (.slice x.ba x.bytes.length x.bc) x.bytes
  keeps : Rds intE R (.slice x.ka x.keeps.length x.kc) x.keeps
  bl : x.bytes.length ≤ 140737488355328
  kl : x.keeps.length * 8 ≤ 140737488355328
theorem rqs_of {R : SP} {w : World} (hw : Sat w R) : ∀ l : List Req, (∀ a ∈ l, a.In R ∧ a.bytes.length ≤ reachBytes ∧ a.keeps.length * 8 ≤ reachBytes) → ∃ l' : List Rq, l'.length = l.length ∧ l'.flatMap rqE.enc = l.flatMap Req.cells ∧ ∀ a ∈ l', a.In R
  | [], _ => ⟨[], rfl, rfl, fun _ h => nomatch h⟩
  | x :: l, h => by
    obtain ⟨l', h1, h2, h3⟩ := rqs_of hw l fun a ha => h a (List.mem_cons_of_mem _ ha)
    obtain ⟨⟨⟨wk, wa⟩, hb, hk⟩, hbl, hkl⟩ := h x (List.mem_cons_self ..)
    obtain ⟨ba, bc, e1, _⟩ := hb w hw
    obtain ⟨ka, kc, e2, _⟩ := hk w hw
    obtain ⟨_, hat⟩ := bounds_i64 wa
    unfold reachBytes at hbl hkl
    refine ⟨⟨x.kind, x.at', ba, bc, ka, kc, x.bytes, x.keeps⟩ :: l', by simp [h1], ?_, fun a ha => ?_⟩
    · rw [List.flatMap_cons, List.flatMap_cons, h2]
      congr 1
      show [Value.int .i64 x.kind, .int .i64 x.at', .slice ba x.bytes.length bc, .slice ka x.keeps.length kc] = [.int .i64 x.kind, .int .i64 x.at', x.vb, x.vk]
      rw [e1, e2]
    · rcases List.mem_cons.1 ha with rfl | ha
      · exact ⟨by show x.at' < _; omega, rds_of_in (e1 ▸ hb), rds_of_ints (e2 ▸ hk), by show x.bytes.length ≤ _; omega, by show x.keeps.length * 8 ≤ _; omega⟩
      · exact h3 a ha
theorem write_small (D : DD) (i : Int) (bs : List UInt8) : (D.write i bs).1.n = D.n ∧ (D.write i bs).1.ops ≤ D.ops + 1 ∧ (D.write i bs).1.wait.length ≤ D.wait.length + 1 := by
  unfold DD.write DD.done
  dsimp only
  repeat' split
  all_goals simp
theorem flush_small (D : DD) : D.flush.1.n = D.n ∧ D.flush.1.ops ≤ D.ops + 1 ∧ D.flush.1.wait.length ≤ D.wait.length := by
  unfold DD.flush DD.done
  dsimp only
  repeat' split
  all_goals simp
theorem arm_small (D : DD) (k : Int) : (D.arm k).n = D.n ∧ (D.arm k).ops = D.ops ∧ (D.arm k).wait = D.wait := by
  unfold DD.arm
  split <;> simp
theorem sat_keep2 {a b X R G : SP} {w : World} [h : Has X R G] (hs : Sat w (a ^ b ^ X)) : Sat w (a ^ b ^ R) := by
  rw [h.eq] at hs
  exact (hs.as (B := (a ^ b ^ R) ^ G) (by ac_rfl)).left
section
variable {R : SP} {w0 : World} {X : WP}
/-- Every byte of a slice is raised. -/
theorem t_bump {e : TypeId} {a : Option Addr} {n c : Nat} {xs : List UInt8} (hn : xs.length = n) (k : ∀ xs', xs'.length = n → Tri (row (byteT e) (.slice a n c) xs' ^ R) w0 X) :
    Tri (row (byteT e) (.slice a n c) xs ^ R) w0 (loopW [.int .i64 0] fun K vs => uncons vs fun v r => asI .i64 v fun x => unnil r (br (decide (x < ((n : Nat) : Int)))
      (sem Try.prog (Instr.indexAt 22 (.slice a n c) (.int .i64 x)) fun v => asA v fun p => sem Try.prog (Instr.loadAt 5 (.pointer (some p))) fun v => asI .u8 v fun y => letv (IntKind.u8.wrap (y + 1)) fun z =>
        sem Try.prog (Instr.indexAt 22 (.slice a n c) (.int .i64 x)) fun v => asA v fun p => sem Try.prog (Instr.storeAt 5 (.pointer (some p)) (.int .u8 z)) fun _ => letv (IntKind.i64.wrap (x + 1)) fun x' => K [.int .i64 x']) X)) := by
  refine t_shape rds_row fun _ _ _ h1 h2 => ?_
  unfold maxLen at h2
  refine t_loop (σ := Nat × List UInt8) (fun s => [.int .i64 s.1]) (fun s => fact (s.1 ≤ n ∧ s.2.length = n) ^ row (byteT e) (.slice a n c) s.2 ^ R) (fun s => n - s.1) (0, xs) rfl (fun w h => sat_fact.2 ⟨⟨Nat.zero_le _, hn⟩, h⟩) fun s => ?_
  obtain ⟨j, ys⟩ := s
  refine t_fact fun hk => ?_
  obtain ⟨hj, hxl⟩ := hk
  dsimp only at hj hxl ⊢
  repeat refine rd ?_
  refine t_brD (fun h => ?_) fun h => k ys hxl
  have hlt : j < ys.length := by omega
  refine t_ixld0 j (rdR (byteT e)) rfl (List.getElem?_eq_getElem hlt) rfl ?_
  refine rd ?_
  refine tlE (u8_up _) ?_
  refine t_ixst (byteT e) j (ys[j] + 1) rfl hlt rfl ?_
  refine tl64 (by omega) (by omega) ?_
  exact t_round (j + 1, ys.set j (ys[j] + 1)) rfl (by dsimp only; omega) fun w h => sat_fact.2 ⟨⟨by dsimp only; omega, by simpa using hxl⟩, h⟩
set_option maxRecDepth 100000 in
theorem plays_spec {x : Int} (h0 : 0 ≤ x) {v : Value} {l : List Rq} (hl : Rds rqE R v l) (hq : ∀ a ∈ l, a.In R) :
    Spec Try.prog 7 #[.int .u8 x, v] R fun u => fact (u = .bool true) ^ R := by
  refine Spec.mk fun w0 => t_shape hl fun a c hv hlc hcm => ?_
  subst hv
  refine Tri.use ?_ (F.hayloftlaw05_DiskPlays_ok _ _ _ _ _)
  unfold F.hayloftlaw05_DiskPlays
  refine t_callV aliveS ?_
  repeat (first | refine rd ?_ | refine t_brT rfl ?_ | refine t_brF rfl ?_)
  have hN : 8 ≤ 8 + x.toNat % 32 ∧ 8 + x.toNat % 32 ≤ 40 := by omega
  have hsz : ∀ {R : SP}, Spec Try.prog 30 #[.int .u8 x] R fun u => fact (u = .int .i64 ((8 + x.toNat % 32 : Nat))) ^ R := size_spec h0
  generalize 8 + x.toNat % 32 = N at hN hsz
  refine t_callV hsz ?_
  repeat (first | refine rd ?_ | refine t_brT rfl ?_ | refine t_brF rfl ?_)
  refine t_callX (dnew_spec N (by omega) (by omega)) fun p => ?_
  repeat (first | refine rd ?_ | refine t_brT rfl ?_ | refine t_brF rfl ?_)
  refine t_callV hsz ?_
  repeat (first | refine rd ?_ | refine t_brT rfl ?_ | refine t_brF rfl ?_)
  refine t_callX (rnew_spec N (by omega) (by omega)) fun r => ?_
  repeat (first | refine rd ?_ | refine t_brT rfl ?_ | refine t_brF rfl ?_)
  refine t_loop (σ := Nat × DD) (fun s => [.int .i64 s.1]) (fun s => fact (s.1 ≤ l.length ∧ s.1 ≤ 200 ∧ s.2.n = N ∧ s.2.ops ≤ s.1 ∧ s.2.wait.length ≤ s.1) ^ refS r s.2 ^ diskS p s.2 ^ R) (fun s => l.length - s.1) (0, DD.new N) rfl (fun w h => sat_fact.2 ⟨⟨Nat.zero_le _, Nat.zero_le _, rfl, Nat.le_refl _, Nat.le_refl _⟩, h⟩) fun s => ?_
  obtain ⟨j, D⟩ := s
  refine t_fact fun hk => ?_
  obtain ⟨hj, hj2, hn, ho, hw⟩ := hk
  dsimp only at hj hj2 hn ho hw ⊢
  repeat (first | refine rd ?_ | refine t_brT rfl ?_ | refine t_brF rfl ?_)
  refine t_brD (fun h => ?_) fun h => ?_
  rotate_left
  · refine t_joinDup ?_
    refine rd ?_
    refine t_ref fun sa sc wa wc S W ok hS hW => ?_
    refine t_pin (b := r) ?_
    refine t_front (diskS p D) ?_
    refine t_callV dlen_spec ?_
    repeat (first | refine rd ?_ | refine t_brT rfl ?_ | refine t_brF rfl ?_)
    refine t_brE (fun _ => ?_) fun h => absurd (by rw [S_len hS]) h
    refine t_callX dimage_spec fun y => ?_
    repeat (first | refine rd ?_ | refine t_brT rfl ?_ | refine t_brF rfl ?_)
    refine Tri.imp (B := refS r D ^ row (byteT y.1) (.slice y.2.1 D.image.length y.2.2) D.image ^ diskS p D ^ R) ?_ fun w h => toRef sa sc wa wc ok hS hW (h.as (by ac_rfl))
    refine t_callX rimage_spec fun z => ?_
    repeat (first | refine rd ?_ | refine t_brT rfl ?_ | refine t_brF rfl ?_)
    refine t_callV (same_specS (e2 := 5) (rdR (byteT y.1)) (rdR byteE)) ?_
    repeat (first | refine rd ?_ | refine t_brT rfl ?_ | refine t_brF rfl ?_)
    refine t_postV (by simp) fun w h => h.right.right.right.right
  refine t_brD (fun h2 => ?_) fun h2 => ?_
  rotate_left
  · refine t_joinDup ?_
    refine rd ?_
    refine t_ref fun sa sc wa wc S W ok hS hW => ?_
    refine t_pin (b := r) ?_
    refine t_front (diskS p D) ?_
    refine t_callV dlen_spec ?_
    repeat (first | refine rd ?_ | refine t_brT rfl ?_ | refine t_brF rfl ?_)
    refine t_brE (fun _ => ?_) fun h => absurd (by rw [S_len hS]) h
    refine t_callX dimage_spec fun y => ?_
    repeat (first | refine rd ?_ | refine t_brT rfl ?_ | refine t_brF rfl ?_)
    refine Tri.imp (B := refS r D ^ row (byteT y.1) (.slice y.2.1 D.image.length y.2.2) D.image ^ diskS p D ^ R) ?_ fun w h => toRef sa sc wa wc ok hS hW (h.as (by ac_rfl))
    refine t_callX rimage_spec fun z => ?_
    repeat (first | refine rd ?_ | refine t_brT rfl ?_ | refine t_brF rfl ?_)
    refine t_callV (same_specS (e2 := 5) (rdR (byteT y.1)) (rdR byteE)) ?_
    repeat (first | refine rd ?_ | refine t_brT rfl ?_ | refine t_brF rfl ?_)
    refine t_postV (by simp) fun w h => h.right.right.right.right
  have hlt : j < l.length := by omega
  obtain ⟨q, hqj⟩ : ∃ q, l[j]? = some q := ⟨_, List.getElem?_eq_getElem hlt⟩
  have hqi := hq q (List.mem_of_getElem? hqj)
  refine t_ixldR j (E := rqE) rfl hl.part rfl hqj ?_
  repeat (first | refine rd ?_ | refine t_brT rfl ?_ | refine t_brF rfl ?_)
  refine rn fun b => ?_
  repeat (first | refine rd ?_ | refine t_brT rfl ?_ | refine t_brF rfl ?_)
  refine t_callX (copy_spec hqi.bytes.part hqi.bl) fun y => ?_
  obtain ⟨ca, cc⟩ := y
  repeat (first | refine rd ?_ | refine t_brT rfl ?_ | refine t_brF rfl ?_)
  refine t_join (fun vs => ex fun D' : DD => fact (vs = [.bool true] ∧ D'.n = N ∧ D'.ops ≤ j + 1 ∧ D'.wait.length ≤ j + 1) ^ refS r D' ^ diskS p D' ^ R) (fun K hK => ?_) fun vs => t_ex fun D' => t_fact fun hv => ?_
  · have done : ∀ (D' : DD) (X G : SP) [Has X R G], D'.n = N → D'.ops ≤ j + 1 → D'.wait.length ≤ j + 1 → Tri (refS r D' ^ diskS p D' ^ X) w0 (K [.bool true]) := fun D' X G hX h1 h2 h3 => (hK _).imp fun w h => sat_ex.2 ⟨D', sat_fact.2 ⟨⟨rfl, h1, h2, h3⟩, sat_keep2 h⟩⟩
    refine t_brE (fun h1 => ?_) fun h1 => ?_
    · repeat (first | refine rd ?_ | refine t_brT rfl ?_ | refine t_brF rfl ?_)
      refine t_front (diskS p D) ?_
      refine t_callX (dread_spec (by omega)) fun y => ?_
      obtain ⟨ye, ya, yc⟩ := y
      repeat (first | refine rd ?_ | refine t_brT rfl ?_ | refine t_brF rfl ?_)
      refine t_front (refS r D) ?_
      refine t_callX (rread_spec (by omega)) fun z => ?_
      obtain ⟨za, zc⟩ := z
      repeat (first | refine rd ?_ | refine t_brT rfl ?_ | refine t_brF rfl ?_)
      refine t_joinDup ?_
      refine t_brE (fun _ => ?_) fun h => absurd rfl h
      refine t_callV (same_specS (e2 := 5) (rdR (byteT ye)) (rdR byteE)) ?_
      repeat (first | refine rd ?_ | refine t_brT rfl ?_ | refine t_brF rfl ?_)
      rw [decide_eq_true (rfl : (D.read q.at').1 = (D.read q.at').1)]
      refine t_front (row (byteT ye) (.slice ya (D.read q.at').1.length yc) (D.read q.at').1) ?_
      refine t_bump rfl fun xs _ => ?_
      refine t_front (diskS p D) ?_
      refine t_front (refS r D) ?_
      exact done D _ _ hn (by omega) (by omega)
    refine t_joinDup ?_
    refine t_brE (fun h2 => ?_) fun h2 => ?_
    · refine t_joinDup ?_
      refine rd ?_
      refine t_pin (b := b) ?_
      repeat (first | refine rd ?_ | refine t_brT rfl ?_ | refine t_brF rfl ?_)
      refine t_front (diskS p D) ?_
      refine t_callV (dwrite_spec (rdR byteE) (by omega) (by omega)) ?_
      repeat (first | refine rd ?_ | refine t_brT rfl ?_ | refine t_brF rfl ?_)
      refine t_front (refS r D) ?_
      refine t_callV (rwrite_spec hqi.bytes.part (by omega) (by omega)) ?_
      repeat (first | refine rd ?_ | refine t_brT rfl ?_ | refine t_brF rfl ?_)
      refine t_brE (fun _ => ?_) fun h => absurd rfl h
      repeat (first | refine rd ?_ | refine t_brT rfl ?_ | refine t_brF rfl ?_)
      refine t_callV (same_specS (e1 := 5) (e2 := 5) (rdR byteE) hqi.bytes.part) ?_
      repeat (first | refine rd ?_ | refine t_brT rfl ?_ | refine t_brF rfl ?_)
      rw [decide_eq_true (rfl : q.bytes = q.bytes)]
      refine t_front (row byteE (.slice ca q.bytes.length cc) q.bytes) ?_
      refine t_bump rfl fun xs _ => ?_
      repeat (first | refine rd ?_ | refine t_brT rfl ?_ | refine t_brF rfl ?_)
      obtain ⟨e1, e2, e3⟩ := write_small D q.at' q.bytes
      refine t_front (diskS p (D.write q.at' q.bytes).1) ?_
      refine t_front (refS r (D.write q.at' q.bytes).1) ?_
      exact done _ _ _ (by omega) (by omega) (by omega)
    refine t_joinDup ?_
    refine t_brE (fun h3 => ?_) fun h3 => ?_
    · refine t_front (diskS p D) ?_
      refine t_callV (dflush_spec (by omega) (by omega)) ?_
      repeat (first | refine rd ?_ | refine t_brT rfl ?_ | refine t_brF rfl ?_)
      refine t_front (refS r D) ?_
      refine t_callV (rflush_spec (by omega) (by omega) (by omega)) ?_
      repeat (first | refine rd ?_ | refine t_brT rfl ?_ | refine t_brF rfl ?_)
      rw [show (D.flush.2 == D.flush.2) = true by simp]
      obtain ⟨e1, e2, e3⟩ := flush_small D
      refine t_front (diskS p D.flush.1) ?_
      refine t_front (refS r D.flush.1) ?_
      exact done _ _ _ (by omega) (by omega) (by omega)
    refine t_joinDup ?_
    refine t_brE (fun h4 => ?_) fun h4 => ?_
    · repeat (first | refine rd ?_ | refine t_brT rfl ?_ | refine t_brF rfl ?_)
      refine t_front (diskS p D) ?_
      refine t_callV (darm_spec hqi.at') ?_
      repeat (first | refine rd ?_ | refine t_brT rfl ?_ | refine t_brF rfl ?_)
      refine t_front (refS r D) ?_
      refine t_callV (rarm_spec hqi.at') ?_
      repeat (first | refine rd ?_ | refine t_brT rfl ?_ | refine t_brF rfl ?_)
      obtain ⟨e1, e2, e3⟩ := arm_small D q.at'
      refine t_front (diskS p (D.arm q.at')) ?_
      refine t_front (refS r (D.arm q.at')) ?_
      exact done _ _ _ (by omega) (by omega) (by rw [e3]; omega)
    refine t_joinDup ?_
    refine t_brE (fun h5 => ?_) fun h5 => ?_
    · have hkl := hqi.kl
      refine t_build0 intE fun g => ?_
      repeat (first | refine rd ?_ | refine t_brT rfl ?_ | refine t_brF rfl ?_)
      refine t_append hqi.keeps.part (by simp; omega) (by simp; omega) fun a' c' => ?_
      simp only [List.length_nil, Nat.zero_add, List.nil_append]
      repeat (first | refine rd ?_ | refine t_brT rfl ?_ | refine t_brF rfl ?_)
      refine t_front (diskS p D) ?_
      refine t_callV (dcrash_spec (rdR intE) (by omega)) ?_
      repeat (first | refine rd ?_ | refine t_brT rfl ?_ | refine t_brF rfl ?_)
      refine t_front (refS r D) ?_
      refine t_callV (rcrash_spec hqi.keeps.part (by omega)) ?_
      repeat (first | refine rd ?_ | refine t_brT rfl ?_ | refine t_brF rfl ?_)
      refine t_front (diskS p (D.crash q.keeps)) ?_
      refine t_front (refS r (D.crash q.keeps)) ?_
      exact done _ _ _ hn (by show D.ops ≤ _; omega) (Nat.zero_le _)
    · repeat (first | refine rd ?_ | refine t_brT rfl ?_ | refine t_brF rfl ?_)
      refine t_front (diskS p D) ?_
      refine t_front (refS r D) ?_
      exact done _ _ _ hn (by omega) (by omega)
  · obtain ⟨rfl, hn', ho', hw'⟩ := hv
    repeat (first | refine rd ?_ | refine t_brT rfl ?_ | refine t_brF rfl ?_)
    refine t_ref fun sa sc wa wc S W ok hS hW => ?_
    refine t_pin (b := r) ?_
    repeat (first | refine rd ?_ | refine t_brT rfl ?_ | refine t_brF rfl ?_)
    refine t_front (diskS p D') ?_
    refine t_callV dpending_spec ?_
    repeat (first | refine rd ?_ | refine t_brT rfl ?_ | refine t_brF rfl ?_)
    refine t_brN (fun h => absurd (by rw [W_len hW]) h) fun _ => ?_
    refine t_callV ddown_spec ?_
    repeat (first | refine rd ?_ | refine t_brT rfl ?_ | refine t_brF rfl ?_)
    refine t_brT (by simp) ?_
    refine t_callV dops_spec ?_
    repeat (first | refine rd ?_ | refine t_brT rfl ?_ | refine t_brF rfl ?_)
    refine t_brN (fun h => absurd rfl h) fun _ => ?_
    refine tl64 (by omega) (by omega) ?_
    exact t_round (j + 1, D') rfl (by dsimp only; omega) fun w h => sat_fact.2 ⟨⟨by dsimp only; omega, by dsimp only; omega, hn', ho', hw'⟩, toRef sa sc wa wc ok hS hW (h.as (by ac_rfl))⟩
end
end Go.Proofs.Ytehpdpdmjflddaa
