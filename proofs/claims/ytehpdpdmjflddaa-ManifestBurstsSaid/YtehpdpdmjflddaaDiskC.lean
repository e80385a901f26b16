/-
  The disk's Crash: of what is pending so many bytes are kept.
-/
import Derived.Test.YtehpdpdmjflddaaDiskF
import Derived.Lib.Hide
namespace Go.Proofs.Ytehpdpdmjflddaa
open Go.RowKit

def clampTo (k : Int) : Nat := (max 0 (min k 64)).toNat
def tear1 (f : Nat → List UInt8) (x : Nat × List UInt8) (k : Int) : Nat → List UInt8 := fun j => if j = x.1 then x.2.take (clampTo k) ++ (f x.1).drop (clampTo k) else f j
def tear : (Nat → List UInt8) → List (Nat × List UInt8) → List Int → Nat → List UInt8
  | f, x :: l, k :: ks => tear (tear1 f x k) l ks
  | f, _, _ => f
theorem tear_snoc : ∀ (l : List (Nat × List UInt8)) (ks : List Int) (f : Nat → List UInt8) (x : Nat × List UInt8) (k : Int), l.length = ks.length → tear f (l ++ [x]) (ks ++ [k]) = tear1 (tear f l ks) x k
  | [], [], f, x, k, _ => rfl
  | y :: l, q :: ks, f, x, k, h => tear_snoc l ks (tear1 f y q) x k (by simpa using h)
  | [], q :: ks, _, _, _, h => by simp at h
  | y :: l, [], _, _, _, h => by simp at h
theorem tear_take : ∀ (l : List (Nat × List UInt8)) (ks : List Int) (f : Nat → List UInt8) (n : Nat), n = min l.length ks.length → tear f (l.take n) (ks.take n) = tear f l ks
  | [], ks, _, n, h => by
    have : n = 0 := by simpa using h
    subst this
    cases ks <;> rfl
  | _ :: _, [], _, n, h => by
    have : n = 0 := by simpa using h
    subst this
    rfl
  | y :: l, q :: ks, f, n, h => by
    obtain ⟨n, rfl⟩ : ∃ m, n = m + 1 := ⟨n - 1, by simp at h; omega⟩
    exact tear_take l ks (tear1 f y q) n (by simp at h; omega)
theorem tear1_length (f : Nat → List UInt8) (x : Nat × List UInt8) (k : Int) (hf : ∀ k, (f k).length = 64) (hx : x.2.length = 64) (j : Nat) : (tear1 f x k j).length = 64 := by
  unfold tear1 clampTo
  split
  · simp [hf, hx]; omega
  · exact hf j
theorem tear_length : ∀ (l : List (Nat × List UInt8)) (ks : List Int) (f : Nat → List UInt8), (∀ k, (f k).length = 64) → (∀ x ∈ l, x.2.length = 64) → ∀ k, (tear f l ks k).length = 64
  | [], _, _, h, _, k => h k
  | _ :: _, [], _, h, _, k => h k
  | x :: l, q :: ks, f, h, hl, k => tear_length l ks (tear1 f x q) (fun j => tear1_length f x q h (hl x (List.mem_cons_self ..)) j) (fun y hy => hl y (List.mem_cons_of_mem _ hy)) k
def DD.crash (D : DD) (ks : List Int) : DD := { D with sure := tear D.sure D.wait ks, wait := [], armed := 0, down := false }
def RdInts (R : SP) (v : Value) (ks : List Int) : Prop := ∀ w, Sat w R → RdC w v ks.length (ks.map (Value.int .i64))

theorem byte_info : (Try.prog.info? 5).map (fun i => (i.zero, i.size, i.bytes)) = some (some (.int .u8 0), 1, 1) := by kernel_rfl
theorem int_info : (Try.prog.info? 3).map (fun i => (i.zero, i.size, i.bytes)) = some (some (.int .i64 0), 1, 8) := by kernel_rfl
set_option maxRecDepth 100000 in
set_option maxHeartbeats 2000000 in
theorem crash_spec (p : Nat) (D : DD) (vk : Value) (ks : List Int) (R : SP) (w : World) (h : Sat w (diskS p D ^ R)) (hk : RdInts R vk ks) (hw : D.wait.length < 1000000000) :
    Calls Try.prog 18 #[ptr p, vk] w (Done w (.tuple #[]) (diskS p (D.crash ks) ^ R)) := by
  have hshape : ∃ a c, vk = .slice a ks.length c ∧ ks.length ≤ maxLen := by obtain ⟨a, c, h, h1, h2, _⟩ := hk w h.right; exact ⟨a, c, h, by omega⟩
  obtain ⟨a, c, rfl, hkm⟩ := hshape
  unfold maxLen at hkm
  obtain ⟨m, es0, c0, va, vc, ok, hm0, hS0⟩ := h.openDisk
  have hc0 := hS0.cell
  have tail : ∀ (wr : World) (va vc) (j : Nat) (es : Array MapEntry) (c : Nat), MapOk es (tear D.sure (D.wait.take j) (ks.take j)) → j = min D.wait.length ks.length → Sat wr (headS p m (.slice va D.wait.length vc) D ^ own m (.map es c) ^ pendS (.slice va D.wait.length vc) D.wait ^ R) →
      Sat (((wr.setCell ⟨p, 2, none⟩ (.slice none 0 0)).setCell ⟨p, 3, none⟩ (.int .i64 0)).setCell ⟨p, 4, none⟩ (.bool false)) (diskS p (D.crash ks) ^ R) := by
    intro wr va vc j es c hm hj hS
    rw [tear_take _ _ _ _ hj] at hm
    have h5 := setOwn 4 (.bool false) #[.int .i64 D.n, .map (some m), .slice none 0 0, .int .i64 0, .bool false, .int .i64 D.ops] (setOwn 3 (.int .i64 0) #[.int .i64 D.n, .map (some m), .slice none 0 0, .int .i64 0, .bool D.down, .int .i64 D.ops] (setOwn 2 (.slice none 0 0) #[.int .i64 D.n, .map (some m), .slice none 0 0, .int .i64 D.armed, .bool D.down, .int .i64 D.ops] hS rfl) rfl) rfl
    have hok : (D.crash ks).ok := ⟨ok.n, tear_length _ _ _ ok.sure (fun y hy => (ok.wait y hy).2), (fun x hx => nomatch hx), by show 0 < _; decide⟩
    have hnil : pendS (.slice none 0 0) [] = emp := rowS_nil _ _
    have h6 : Sat (((wr.setCell ⟨p, 2, none⟩ (.slice none 0 0)).setCell ⟨p, 3, none⟩ (.int .i64 0)).setCell ⟨p, 4, none⟩ (.bool false)) (headS p m (.slice none 0 0) (D.crash ks) ^ own m (.map es c) ^ pendS (.slice none 0 0) [] ^ R) := by
      rw [hnil, emp_star]
      exact (h5.as (B := pendS (.slice va D.wait.length vc) D.wait ^ headS p m (.slice none 0 0) (D.crash ks) ^ own m (.map es c) ^ R) (by unfold headS; ac_rfl)).right
    exact h6.re R (foldDisk hok hm) (by ac_rfl) rfl
  go_enter Try.func18, Try.ntmps18
  go_wp2
  go_loopw [14] (fun i wr => ∃ (j : Nat) (es : Array MapEntry) (c : Nat), j ≤ D.wait.length ∧ j ≤ ks.length ∧ i = .int .i64 j ∧ MapOk es (tear D.sure (D.wait.take j) (ks.take j)) ∧ Sat wr (headS p m (.slice va D.wait.length vc) D ^ own m (.map es c) ^ pendS (.slice va D.wait.length vc) D.wait ^ R) ∧ Flow w wr) (fun i _ => D.wait.length - (intOf i).toNat)
  case atStart => exact ⟨0, es0, c0, Nat.zero_le _, Nat.zero_le _, rfl, by simpa [tear] using hm0, hS0, Flow.refl w⟩
  case round =>
    clear hc0
    obtain ⟨j, es, c1, hj, hjk, rfl, hm, hS, hF⟩ := hrel
    by_cases hlt : j < D.wait.length
    · obtain ⟨x, hx⟩ : ∃ x, D.wait[j]? = some x := ⟨_, List.getElem?_eq_getElem hlt⟩
      have hx2 := ok.wait x (List.mem_of_getElem? hx)
      obtain ⟨g, cur, rfl, _, _, hcs, htake, hg⟩ := (hS.as (B := rowS 94 65 (.slice va D.wait.length vc) D.wait.length (D.wait.flatMap pendV) ^ headS p m (.slice va D.wait.length vc) D ^ own m (.map es c1) ^ R) (by unfold pendS; ac_rfl)).rowAt (by omega)
      have hix := index_sl (P := Try.prog) Try.underlying87 pend_info g 0 D.wait.length vc j hlt wr
      have hld := load_sl (P := Try.prog) (off := 0 + j * 65) (pendV x) pend_info Try.underlying94 rfl (by simp [pendV, hx2.2]) (fun t u hu => by
        have h2 := pend_at D.wait (fun y hy => (ok.wait y hy).2) j x hx t u hu
        rw [← htake, List.getElem?_take] at h2
        split at h2
        · simpa [Nat.add_comm] using h2
        · cases h2) hg
      obtain ⟨b5, w3, hr3, hS3, hF3⟩ := alloc_sl (P := Try.prog) pend_info hS
      obtain ⟨w4, hr4, hS4, hF4⟩ := store_sl (P := Try.prog) (off := 0) (pendV x) pend_info (by simp [pendV, hx2.2]) (by
        intro u hu
        rcases List.mem_cons.1 hu with rfl | hu
        · rfl
        · exact oneCell_bytes _ u hu) (by simp [Value.cells, pendV, hx2.2, Try.zeroCells94_size]) hS3
      rw [splice_whole _ _ (by simp [Value.cells, pendV, hx2.2, Try.zeroCells94_size])] at hS4
      clear hcs htake hg hS3
      by_cases hjl : j < ks.length
      · obtain ⟨k, hkk⟩ : ∃ k, ks[j]? = some k := ⟨_, List.getElem?_eq_getElem hjl⟩
        have hS4d := hS4.drew
        have hcp4 := hS4d.right.cell
        have hc5 : w4.drew.cell? ⟨b5, 0, none⟩ = some (.int .i64 (x.1 : Int)) := (hS4d.cell 0).trans (by simp [pendV])
        obtain ⟨S0, hS0d⟩ : ∃ S0, S0 = tear D.sure (D.wait.take j) (ks.take j) x.1 := ⟨_, rfl⟩
        have hS0l : S0.length = 64 := by rw [hS0d]; exact tear_length _ _ _ ok.sure (fun y hy => (ok.wait y (List.mem_of_mem_take hy)).2) _
        have hlk := run_lookup_int (P := Try.prog) Try.underlying86 Try.underlying3 (hS4d.as (B := own m (.map es c1) ^ own b5 (.cells (pendV x).toArray 94) ^ headS p m (.slice (some ⟨g, 0, none⟩) D.wait.length vc) D ^ pendS (.slice (some ⟨g, 0, none⟩) D.wait.length vc) D.wait ^ R) (by ac_rfl)).heap hm.1 (z := secV (zeros 64)) (fun w => (info_zero sector_info w).1) x.1
        rw [hm.2 x.1, ← hS0d] at hlk
        have HS0 : Hid (S0 = _) := hS0d
        clear hS0d
        obtain ⟨b6, w5, hr5, hS5, hF5⟩ := alloc_sl (P := Try.prog) sector_info hS4d
        obtain ⟨w6, hr6, hS6, hF6⟩ := store_sl (P := Try.prog) (off := 0) (S0.map u8v) sector_info (by simp [hS0l]) (oneCell_bytes _) (by simp [secV, Value.cells, zeros, hS0l]) hS5
        rw [splice_whole _ _ (by simp [secV, Value.cells, zeros, hS0l])] at hS6
        have hS6d := hS6.drew
        obtain ⟨ak, ck, hak, _, _, hcellk⟩ := hk w6.drew hS6d.right.right.right.right.right
        obtain ⟨rfl, rfl⟩ : ak = a ∧ ck = c := by simpa using hak.symm
        obtain ⟨bk, ok', rfl, hck2⟩ := hcellk (by omega)
        have hck : w6.drew.cell? ⟨bk, ok' + j, none⟩ = some (.int .i64 k) := by
          exact hck2 j _ (by simp [hkk])
        clear hck2
        have Hkk : Hid (_ = _) := hkk
        clear hkk
        have hixk := index_sl (P := Try.prog) Try.underlying35 int_info bk ok' ks.length ck j hjl w6.drew
        go_wp2_with (first | (refine arm_indexAddr rfl rfl rfl rfl hix ?_) | (refine arm_load rfl rfl rfl hld ?_) | (refine arm_alloc rfl rfl hr3 ?_) | (refine arm_store rfl rfl rfl rfl hr4 ?_))
        refine wp_free (by kernel_rfl) (by kernel_rfl) ?_
        go_wp2_with (first | (refine arm_lookup rfl rfl rfl rfl hlk ?_) | (refine arm_alloc rfl rfl hr5 ?_) | (refine arm_store rfl rfl rfl rfl hr6 ?_))
        refine ⟨by rfl, ?_⟩
        go_wp2
        refine wp_free (by kernel_rfl) (by kernel_rfl) ?_
        have hclamp : max 0 (min k 64) = ((clampTo k : Nat) : Int) := by unfold clampTo; omega
        have hcl : clampTo k ≤ 64 := by unfold clampTo; omega
        have hsl1 := sliceArr_sl (P := Try.prog) Try.underlying92 byte_info b6 0 (clampTo k) hcl w6.drew
        rw [← hclamp] at hsl1
        have hmn : Nat.min 64 (clampTo k) = clampTo k := Nat.min_eq_right hcl
        obtain ⟨w7, hr7, hS7, hF7⟩ := copy_sl (P := Try.prog) (ty := 3) (sT := 22) (dT := 22) (off := 0) (dl := clampTo k) (dc := 64) Try.underlying22 byte_size hS6d (v := .slice (some ⟨b5, 1, none⟩) 64 64) (n := 64) (xs := x.2.map u8v)
          ⟨_, _, rfl, by omega, by unfold maxLen; omega, fun _ => ⟨b5, 1, rfl, fun t u hu => by
            rw [hS6d.right.cell, Nat.add_comm]
            simpa [pendV] using hu⟩⟩ (by simp [hx2.2]) (by rw [hmn]; simp [hS0l]; omega) (oneCell_bytes _)
        have hnew : splice (S0.map u8v) 0 ((x.2.map u8v).take (Nat.min 64 (clampTo k))) = (x.2.take (clampTo k) ++ S0.drop (clampTo k)).map u8v := by
          rw [hmn]
          simp only [splice, List.take_zero, List.nil_append, Nat.zero_add, List.map_append, List.map_take, List.map_drop, List.length_take, List.length_map, hx2.2]
          rw [Nat.min_eq_left hcl]
        rw [hnew] at hS7
        have hS7d := hS7.drew
        have hS7p := hS7d.as (B := headS p m (.slice (some ⟨g, 0, none⟩) D.wait.length vc) D ^ own b6 (.cells ((x.2.take (clampTo k) ++ S0.drop (clampTo k)).map u8v).toArray 92 (0, 0)) ^ own b5 (.cells (pendV x).toArray 94) ^ own m (.map es c1) ^ pendS (.slice (some ⟨g, 0, none⟩) D.wait.length vc) D.wait ^ R) (by ac_rfl)
        have hcp7 := hS7p.cell
        have hc57 : w7.drew.cell? ⟨b5, 0, none⟩ = some (.int .i64 (x.1 : Int)) := (hS7d.right.cell 0).trans (by simp [pendV])
        have hld7 := load_sl (P := Try.prog) (off := 0) ((x.2.take (clampTo k) ++ S0.drop (clampTo k)).map u8v) sector_info Try.underlying92 rfl (by simp [hx2.2, hS0l]; omega) (fun t u hu => by simpa using hu) hS7d
        obtain ⟨w8, hr8, hS8, hF8⟩ := mapUpdate_sl (P := Try.prog) (k := (x.1 : Int)) (v := secV (x.2.take (clampTo k) ++ S0.drop (clampTo k))) Try.underlying86 Try.underlying3 hm.1
          (hS7d.as (B := own m (.map es c1) ^ (own b6 (.cells ((x.2.take (clampTo k) ++ S0.drop (clampTo k)).map u8v).toArray 92 (0, 0)) ^ own b5 (.cells (pendV x).toArray 94)) ^ headS p m (.slice (some ⟨g, 0, none⟩) D.wait.length vc) D ^ pendS (.slice (some ⟨g, 0, none⟩) D.wait.length vc) D.wait ^ R) (by ac_rfl))
        go_wp2_with (first | (refine arm_indexAddr rfl rfl rfl rfl hixk ?_) | (refine arm_min rfl rfl rfl rfl ?_) | (refine arm_max rfl rfl rfl rfl ?_) | (refine arm_slice rfl rfl rfl rfl rfl rfl hsl1 ?_) | (refine arm_copy rfl rfl rfl rfl hr7 ?_))
        refine ⟨by rfl, ?_⟩
        go_wp2
        refine wp_free (by kernel_rfl) (by kernel_rfl) ?_
        go_wp2_with (first | (refine arm_load rfl rfl rfl hld7 ?_) | (refine arm_mapUpdate rfl rfl rfl rfl rfl hr8 ?_))
        refine ⟨by rfl, ?_⟩
        go_wp2
        go_roundw
        case rel =>
          refine ⟨j + 1, _, _, by omega, by omega, by go_num, ?_, (hS8.as (B := (own b6 (.cells ((x.2.take (clampTo k) ++ S0.drop (clampTo k)).map u8v).toArray 92 (0, 0)) ^ own b5 (.cells (pendV x).toArray 94)) ^ headS p m (.slice (some ⟨g, 0, none⟩) D.wait.length vc) D ^ own m _ ^ pendS (.slice (some ⟨g, 0, none⟩) D.wait.length vc) D.wait ^ R) (by ac_rfl)).right,
            ((((((hF.trans hF3).trans hF4).drew.trans hF5).trans hF6).drew.trans hF7).drew.trans hF8)⟩
          have hsn : tear D.sure (D.wait.take (j + 1)) (ks.take (j + 1)) = tear1 (tear D.sure (D.wait.take j) (ks.take j)) x k := by
            rw [List.take_add_one, List.take_add_one, hx, Hkk.out]
            exact tear_snoc _ _ _ _ _ (by simp; omega)
          rw [hsn]
          have := hm.put c1 (x.1, x.2.take (clampTo k) ++ S0.drop (clampTo k))
          rw [HS0.out] at this ⊢
          exact this
        case measure => simp [intOf]; omega
      · have hcp := hS4.right.cell
        have hfp := hS4.right.free
        have hT := tail w4 _ _ j es c1 hm (by omega) (hS4.right)
        go_wp2_with (first | (refine arm_indexAddr rfl rfl rfl rfl hix ?_) | (refine arm_load rfl rfl rfl hld ?_) | (refine arm_alloc rfl rfl hr3 ?_) | (refine arm_store rfl rfl rfl rfl hr4 ?_))
        go_end0
        exact Done.mk rfl hT (((((hF.trans hF3).trans hF4).setCell _ _).setCell _ _).setCell _ _)
    · obtain rfl : j = D.wait.length := by omega
      have hcp := hS.cell
      have hfp := hS.free
      have hT := tail wr _ _ _ es c1 hm (by omega) hS
      go_wp2
      go_end0
      exact Done.mk rfl hT (((hF.setCell _ _).setCell _ _).setCell _ _)
end Go.Proofs.Ytehpdpdmjflddaa
