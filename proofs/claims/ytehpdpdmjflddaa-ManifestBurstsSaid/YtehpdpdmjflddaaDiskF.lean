/-
  The disk's Flush: all that is pending is sure.
-/
import Derived.Test.YtehpdpdmjflddaaDiskR
namespace Go.Proofs.Ytehpdpdmjflddaa
open Go.RowKit

/-- What is sure, behind so many writes. -/
def commit (f : Nat → List UInt8) (l : List (Nat × List UInt8)) : Nat → List UInt8 := l.foldl (fun f x k => if k = x.1 then x.2 else f k) f
theorem commit_snoc (f : Nat → List UInt8) (l : List (Nat × List UInt8)) (x : Nat × List UInt8) : commit f (l ++ [x]) = fun k => if k = x.1 then x.2 else commit f l k := by
  simp [commit]
theorem commit_length : ∀ (l : List (Nat × List UInt8)) (f : Nat → List UInt8), (∀ k, (f k).length = 64) → (∀ x ∈ l, x.2.length = 64) → ∀ k, (commit f l k).length = 64
  | [], f, h, _, k => h k
  | x :: l, f, h, hl, k => commit_length l (fun k => if k = x.1 then x.2 else f k) (fun k => by
      show (if k = x.1 then x.2 else f k).length = 64
      split
      · exact hl x (List.mem_cons_self ..)
      · exact h k) (fun y hy => hl y (List.mem_cons_of_mem _ hy)) k
def DD.flush (D : DD) : DD × Int :=
  if D.ask 0 ≠ 0 then (D, D.ask 0) else if D.done.2 then ({ D.done.1 with sure := commit D.sure D.wait, wait := [] }, 0) else (D.done.1, 14)
theorem done_same (D : DD) : D.done.1.n = D.n ∧ D.done.1.sure = D.sure ∧ D.done.1.wait = D.wait := by
  unfold DD.done
  split <;> exact ⟨rfl, rfl, rfl⟩

def MapOk (es : Array MapEntry) (f : Nat → List UInt8) : Prop := IntKeys es.toList ∧ ∀ k : Nat, (mget es.toList k).getD (secV (zeros 64)) = secV (f k)
/-- The disk's head. -/
def headS (p m : Nat) (v : Value) (D : DD) : SP := own p (.cells #[.int .i64 D.n, .map (some m), v, .int .i64 D.armed, .bool D.down, .int .i64 D.ops] 89 (0, 0))
def pendS (v : Value) (l : List (Nat × List UInt8)) : SP := rowS 94 65 v l.length (l.flatMap pendV)
theorem Sat.openDisk {w : World} {p : Nat} {D : DD} {R : SP} (h : Sat w (diskS p D ^ R)) : ∃ m es c va vc, D.ok ∧ MapOk es D.sure ∧
    Sat w (headS p m (.slice va D.wait.length vc) D ^ own m (.map es c) ^ pendS (.slice va D.wait.length vc) D.wait ^ R) := by
  obtain ⟨m, v, ok, h⟩ := h.disk
  obtain ⟨va, vc, rfl⟩ := (h.as (B := rowS 94 65 v D.wait.length (D.wait.flatMap pendV) ^ (own p (.cells #[.int .i64 D.n, .map (some m), v, .int .i64 D.armed, .bool D.down, .int .i64 D.ops] 89 (0, 0)) ^ mapS m D.sure ^ R)) (by ac_rfl)).shape
  obtain ⟨es, c, h1, h2, h3⟩ := (h.as (B := mapS m D.sure ^ (headS p m (.slice va D.wait.length vc) D ^ pendS (.slice va D.wait.length vc) D.wait ^ R)) (by unfold headS pendS; ac_rfl)).map
  exact ⟨m, es, c, va, vc, ok, ⟨h1, h2⟩, h3.as (by ac_rfl)⟩
theorem foldDisk {p m : Nat} {v : Value} {D : DD} {es : Array MapEntry} {c : Nat} (ok : D.ok) (hm : MapOk es D.sure) : ∀ h, (headS p m v D ^ own m (.map es c) ^ pendS v D.wait) h → diskS p D h := by
  intro h hh
  refine disk_fold ok hm.1 hm.2 h (m := m) (v := v) (c := c) ?_
  unfold headS pendS at hh
  rw [show (own m (.map es c) ^ own p (.cells #[.int .i64 D.n, .map (some m), v, .int .i64 D.armed, .bool D.down, .int .i64 D.ops] 89 (0, 0)) ^ rowS 94 65 v D.wait.length (D.wait.flatMap pendV)) =
    (own p (.cells #[.int .i64 D.n, .map (some m), v, .int .i64 D.armed, .bool D.down, .int .i64 D.ops] 89 (0, 0)) ^ own m (.map es c) ^ rowS 94 65 v D.wait.length (D.wait.flatMap pendV)) by ac_rfl]
  exact hh
theorem MapOk.put {es : Array MapEntry} {f : Nat → List UInt8} (h : MapOk es f) (c : Nat) (x : Nat × List UInt8) : MapOk (mput es c (x.1 : Int) (secV x.2)).1 (fun k => if k = x.1 then x.2 else f k) := by
  refine ⟨h.1.mput _ _, fun k => ?_⟩
  rw [mget_mput]
  by_cases e : k = x.1
  · simp [e]
  · have : ¬ (k : Int) = (x.1 : Int) := by omega
    simp [e, this, h.2 k]

set_option maxRecDepth 100000 in
set_option maxHeartbeats 1000000 in
theorem flush_spec (p : Nat) (D : DD) (R : SP) (w : World) (h : Sat w (diskS p D ^ R)) (ho : D.ops < 9223372036854775807) (hw : D.wait.length < 1000000000) :
    Calls Try.prog 16 #[ptr p] w (Done w (.int .i64 D.flush.2) (diskS p D.flush.1 ^ R)) := by
  have hask := ask_spec p D 0 R w h
  have hdn := done_spec p D R w h ho
  by_cases h1 : D.ask 0 = 0
  · rw [h1] at hask
    by_cases h2 : D.done.2 = true
    · have e1 : D.flush = ({ D.done.1 with sure := commit D.sure D.wait, wait := [] }, 0) := by unfold DD.flush; rw [if_neg (by simp [h1]), if_pos h2]
      rw [e1]
      clear e1
      rw [h2] at hdn
      obtain ⟨dn, ds, dw⟩ := done_same D
      generalize D.done.1 = D1 at hdn dn ds dw ⊢
      rw [← ds, ← dw]
      rw [← dw] at hw
      clear h2 dn ds dw
      go_enter Try.func16, Try.ntmps16
      go_wp2_with (first | (go_at_call 45; refine hask.mono ?_; rintro e w' ⟨rfl, rfl⟩) | (go_at_call 46; refine hdn.mono ?_; rintro e w1 ⟨rfl, hS1, hF1⟩; obtain ⟨m, es0, c0, va, vc, ok, hm0, hS1⟩ := hS1.openDisk; have hc1 := hS1.cell))
      go_loopw [19] (fun i wr => ∃ (j : Nat) (es : Array MapEntry) (c : Nat), j ≤ D1.wait.length ∧ i = .int .i64 j ∧ MapOk es (commit D1.sure (D1.wait.take j)) ∧ Sat wr (headS p m (.slice va D1.wait.length vc) D1 ^ own m (.map es c) ^ pendS (.slice va D1.wait.length vc) D1.wait ^ R) ∧ Flow w wr) (fun i _ => D1.wait.length - (intOf i).toNat)
      case atStart => exact ⟨0, es0, c0, Nat.zero_le _, rfl, by simpa [commit] using hm0, hS1, hF1⟩
      case round =>
        clear hc1
        obtain ⟨j, es, c, hj, rfl, hm, hS, hF⟩ := hrel
        by_cases hlt : j < D1.wait.length
        · obtain ⟨x, hx⟩ : ∃ x, D1.wait[j]? = some x := ⟨_, List.getElem?_eq_getElem hlt⟩
          have hx2 := ok.wait x (List.mem_of_getElem? hx)
          have hsn : commit D1.sure (D1.wait.take (j + 1)) = fun k => if k = x.1 then x.2 else commit D1.sure (D1.wait.take j) k := by
            rw [List.take_add_one, hx]
            exact commit_snoc _ _ _
          obtain ⟨g, cur, rfl, _, _, hcs, htake, hg⟩ := (hS.as (B := rowS 94 65 (.slice va D1.wait.length vc) D1.wait.length (D1.wait.flatMap pendV) ^ headS p m (.slice va D1.wait.length vc) D1 ^ own m (.map es c) ^ R) (by unfold pendS; ac_rfl)).rowAt (by omega)
          have hix := index_sl (P := Try.prog) Try.underlying87 pend_info g 0 D1.wait.length vc j hlt wr
          have hld := load_sl (P := Try.prog) (off := 0 + j * 65) (pendV x) pend_info Try.underlying94 rfl (by simp [pendV, hx2.2]) (fun t u hu => by
            have h2 := pend_at D1.wait (fun y hy => (ok.wait y hy).2) j x hx t u hu
            rw [← htake, List.getElem?_take] at h2
            split at h2
            · simpa [Nat.add_comm] using h2
            · cases h2) hg
          obtain ⟨b9, w3, hr3, hS3, hF3⟩ := alloc_sl (P := Try.prog) pend_info hS
          obtain ⟨w4, hr4, hS4, hF4⟩ := store_sl (P := Try.prog) (off := 0) (pendV x) pend_info (by simp [pendV, hx2.2]) (by
            intro u hu
            rcases List.mem_cons.1 hu with rfl | hu
            · rfl
            · exact oneCell_bytes _ u hu) (by simp [Value.cells, pendV, hx2.2, Try.zeroCells94_size]) hS3
          rw [splice_whole _ _ (by simp [Value.cells, pendV, hx2.2, Try.zeroCells94_size])] at hS4
          clear hcs htake hg hS3
          have hcp := hS4.right.cell
          have hc9 : w4.cell? ⟨b9, 0, none⟩ = some (.int .i64 (x.1 : Int)) := (hS4.cell 0).trans (by simp [pendV])
          have hS4' := hS4.drew
          have hld9 := load_sl (P := Try.prog) (off := 1) (x.2.map u8v) sector_info Try.underlying92 rfl (by simp [hx2.2]) (fun t u hu => by
            rw [Nat.add_comm]
            simpa [pendV] using hu) hS4'
          obtain ⟨w5, hr5, hS5, hF5⟩ := mapUpdate_sl (P := Try.prog) (k := (x.1 : Int)) (v := secV x.2) Try.underlying86 Try.underlying3 hm.1 (hS4'.as (B := own m (.map es c) ^ own b9 (.cells (pendV x).toArray 94) ^ headS p m (.slice (some ⟨g, 0, none⟩) D1.wait.length vc) D1 ^ pendS (.slice (some ⟨g, 0, none⟩) D1.wait.length vc) D1.wait ^ R) (by ac_rfl))
          go_wp2_with (first | (refine arm_indexAddr rfl rfl rfl rfl hix ?_) | (refine arm_load rfl rfl rfl hld ?_) | (refine arm_alloc rfl rfl hr3 ?_) | (refine arm_store rfl rfl rfl rfl hr4 ?_))
          refine wp_free (by kernel_rfl) (by kernel_rfl) ?_
          go_wp2_with (first | (refine arm_load rfl rfl rfl hld9 ?_) | (refine arm_mapUpdate rfl rfl rfl rfl rfl hr5 ?_))
          refine ⟨by rfl, ?_⟩
          go_wp2
          go_roundw
          case rel => exact ⟨j + 1, _, _, by omega, by go_num, by rw [hsn]; exact hm.put c x, (hS5.as (B := own b9 (.cells (pendV x).toArray 94) ^ headS p m (.slice (some ⟨g, 0, none⟩) D1.wait.length vc) D1 ^ own m (.map (mput es c (x.1 : Int) (secV x.2)).1 (mput es c (x.1 : Int) (secV x.2)).2) ^ pendS (.slice (some ⟨g, 0, none⟩) D1.wait.length vc) D1.wait ^ R) (by ac_rfl)).right, (((hF.trans hF3).trans hF4).drew.trans hF5)⟩
          case measure => simp [intOf]; omega
        · obtain rfl : j = D1.wait.length := by omega
          rw [List.take_length] at hm
          have hcp := hS.cell
          have hfp := hS.free
          have h5 := setOwn 2 (.slice none 0 0) #[.int .i64 D1.n, .map (some m), .slice none 0 0, .int .i64 D1.armed, .bool D1.down, .int .i64 D1.ops] hS rfl
          go_wp2
          go_ret
          refine Done.mk rfl ?_ (hF.setCell _ _)
          have hok : ({ D1 with sure := commit D1.sure D1.wait, wait := [] } : DD).ok := ⟨ok.n, commit_length _ _ ok.sure (fun x hx => (ok.wait x hx).2), (fun x hx => nomatch hx), ok.armed⟩
          have hnil : pendS (.slice none 0 0) [] = emp := rowS_nil _ _
          have h6 : Sat (wr.setCell ⟨p, 2, none⟩ (.slice none 0 0)) (headS p m (.slice none 0 0) { D1 with sure := commit D1.sure D1.wait, wait := [] } ^ own m (.map es c) ^ pendS (.slice none 0 0) [] ^ R) := by
            rw [hnil, emp_star]
            exact (h5.as (B := pendS (.slice va D1.wait.length vc) D1.wait ^ headS p m (.slice none 0 0) { D1 with sure := commit D1.sure D1.wait, wait := [] } ^ own m (.map es c) ^ R) (by unfold headS; ac_rfl)).right
          exact h6.re R (foldDisk hok hm) (by ac_rfl) rfl
    · have e1 : D.flush = (D.done.1, 14) := by unfold DD.flush; rw [if_neg (by simp [h1]), if_neg h2]
      rw [e1]
      clear e1
      have h2' : D.done.2 = false := by simpa using h2
      rw [h2'] at hdn
      go_enter Try.func16, Try.ntmps16
      go_wp2_with (first | (go_at_call 45; refine hask.mono ?_; rintro e w' ⟨rfl, rfl⟩) | (go_at_call 46; refine hdn.mono ?_; rintro e w1 ⟨rfl, hS1, hF1⟩))
      go_ret
      exact Done.mk rfl hS1 hF1
  · have e1 : D.flush = (D, D.ask 0) := by unfold DD.flush; rw [if_pos (by simpa using h1)]
    rw [e1]
    clear e1
    have h1' : (D.ask 0 == 0) = false := by simpa using h1
    have h1'' : (D.ask 0 != 0) = true := by simpa using h1
    go_enter Try.func16, Try.ntmps16
    go_wp2_with (go_at_call 45; refine hask.mono ?_; rintro e w' ⟨rfl, rfl⟩)
    go_ret
    exact Done.mk rfl h (Flow.refl w)
end Go.Proofs.Ytehpdpdmjflddaa
