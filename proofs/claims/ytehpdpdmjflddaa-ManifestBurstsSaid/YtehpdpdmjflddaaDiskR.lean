/-
  The disk's Read: the last write that isn't sure yet, or what is sure.
-/
import Derived.Test.YtehpdpdmjflddaaDisk
import Derived.Test.YtehpdpdmjflddaaRun
namespace Go.Proofs.Ytehpdpdmjflddaa
open Go.RowKit

theorem splice_whole {α : Type} (L vs : List α) (h : L.length = vs.length) : splice L 0 vs = vs := by
  simp [splice, ← h]
theorem sector_info : (Try.prog.info? 92).map (fun i => (i.zero, i.size, i.bytes)) = some (some (secV (zeros 64)), 64, 64) := by kernel_rfl
/-- A sector's bytes as they stand in the cache, behind so many writes. -/
def seen (i : Nat) (s : List UInt8) (l : List (Nat × List UInt8)) : List UInt8 := l.foldl (fun s x => if x.1 = i then x.2 else s) s
def DD.at (D : DD) (i : Nat) : List UInt8 := seen i (D.sure i) D.wait
def DD.read (D : DD) (i : Int) : List UInt8 × Int := if D.ask i ≠ 0 then ([], D.ask i) else (D.at i.toNat, 0)
theorem seen_length (i : Nat) : ∀ (l : List (Nat × List UInt8)) (s : List UInt8), s.length = 64 → (∀ x ∈ l, x.2.length = 64) → (seen i s l).length = 64
  | [], s, h, _ => h
  | x :: l, s, h, hl => by
    show (seen i (if x.1 = i then x.2 else s) l).length = 64
    refine seen_length i l _ ?_ fun y hy => hl y (List.mem_cons_of_mem _ hy)
    split
    · exact hl x (List.mem_cons_self ..)
    · exact h
theorem seen_snoc (i : Nat) (s : List UInt8) (l : List (Nat × List UInt8)) (x : Nat × List UInt8) : seen i s (l ++ [x]) = if x.1 = i then x.2 else seen i s l := by
  simp [seen]
/-- New bytes, owned. -/
def bytesS (v : Value) (bs : List UInt8) : SP := ex fun e : TypeId => rowS e 1 v bs.length (bs.map u8v)
def ReadPost (p : Nat) (D : DD) (i : Int) (R : SP) (w : World) (e : Ending) (w' : World) : Prop :=
  ∃ s, e = .returned (.tuple #[s, .int .i64 (D.read i).2]) ∧ Sat w' (bytesS s (D.read i).1 ^ diskS p D ^ R) ∧ Flow w w'
theorem Sat.map {w : World} {m : Nat} {f : Nat → List UInt8} {R : SP} (h : Sat w (mapS m f ^ R)) : ∃ es c, IntKeys es.toList ∧ (∀ k : Nat, (mget es.toList k).getD (secV (zeros 64)) = secV (f k)) ∧ Sat w (own m (.map es c) ^ R) := by
  unfold mapS at h
  simp only [ex_star, sat_ex, star_assoc, sat_fact] at h
  obtain ⟨es, c, ⟨h1, h2⟩, h3⟩ := h
  exact ⟨es, c, h1, h2, h3⟩
theorem Sat.toMap {w : World} {m : Nat} {f : Nat → List UInt8} {R : SP} {es : Array MapEntry} {c : Nat} (h1 : IntKeys es.toList) (h2 : ∀ k : Nat, (mget es.toList k).getD (secV (zeros 64)) = secV (f k)) (h : Sat w (own m (.map es c) ^ R)) : Sat w (mapS m f ^ R) := by
  unfold mapS
  simp only [ex_star, sat_ex, star_assoc, sat_fact]
  exact ⟨es, c, ⟨h1, h2⟩, h⟩
theorem pend_at (l : List (Nat × List UInt8)) (hl : ∀ x ∈ l, x.2.length = 64) : ∀ (j : Nat) (x : Nat × List UInt8), l[j]? = some x → ∀ t u, (pendV x)[t]? = some u → (l.flatMap pendV)[j * 65 + t]? = some u := by
  induction l with
  | nil => intro j x h; simp at h
  | cons y l ih =>
    intro j x h t u hu
    have hy : (pendV y).length = 65 := by simp [pendV, hl y (List.mem_cons_self ..)]
    rw [List.flatMap_cons]
    cases j with
    | zero =>
      simp only [List.getElem?_cons_zero, Option.some.injEq] at h
      subst h
      have ht : t < (pendV y).length := by
        rcases Nat.lt_or_ge t (pendV y).length with h | h
        · exact h
        · rw [List.getElem?_eq_none h] at hu; cases hu
      rw [Nat.zero_mul, Nat.zero_add, List.getElem?_append_left ht]
      exact hu
    | succ j =>
      rw [List.getElem?_append_right (by rw [hy]; omega), hy]
      have : (j + 1) * 65 + t - 65 = j * 65 + t := by omega
      rw [this]
      exact ih (fun z hz => hl z (List.mem_cons_of_mem _ hz)) j x (by simpa using h) t u hu

theorem disk_fold {p m : Nat} {v : Value} {D : DD} {es : Array MapEntry} {c : Nat} (ok : D.ok) (h1 : IntKeys es.toList) (h2 : ∀ k : Nat, (mget es.toList k).getD (secV (zeros 64)) = secV (D.sure k)) :
    ∀ h, (own m (.map es c) ^ own p (.cells #[.int .i64 D.n, .map (some m), v, .int .i64 D.armed, .bool D.down, .int .i64 D.ops] 89 (0, 0)) ^ rowS 94 65 v D.wait.length (D.wait.flatMap pendV)) h → diskS p D h := by
  intro h hh
  unfold diskS mapS
  simp only [star_ex, ex_star]
  refine Exists.intro m (Exists.intro v (Exists.intro es (Exists.intro c ?_)))
  dsimp only
  have e : (own m (.map es c) ^ own p (.cells #[.int .i64 D.n, .map (some m), v, .int .i64 D.armed, .bool D.down, .int .i64 D.ops] 89 (0, 0)) ^ rowS 94 65 v D.wait.length (D.wait.flatMap pendV)) =
      (own p (.cells #[.int .i64 D.n, .map (some m), v, .int .i64 D.armed, .bool D.down, .int .i64 D.ops] 89 (0, 0)) ^ own m (.map es c) ^ rowS 94 65 v D.wait.length (D.wait.flatMap pendV)) := by ac_rfl
  rw [e] at hh
  rw [fact_true ok, emp_star, fact_true ⟨h1, h2⟩, emp_star]
  exact hh

set_option maxRecDepth 100000 in
set_option maxHeartbeats 1000000 in
theorem read_spec (p : Nat) (D : DD) (i : Int) (R : SP) (w : World) (h : Sat w (diskS p D ^ R)) (hw : D.wait.length < 1000000000) :
    Calls Try.prog 17 #[ptr p, .int .i64 i] w (ReadPost p D i R w) := by
  have hask := ask_spec p D i R w h
  by_cases h1 : D.ask i = 0
  · have e1 : D.read i = (D.at i.toNat, 0) := by unfold DD.read; rw [if_neg (by simp [h1])]
    rw [h1] at hask
    have hi : 0 ≤ i ∧ i < D.n := by
      unfold DD.ask at h1
      split at h1 <;> simp at h1
      omega
    obtain ⟨k, rfl⟩ : ∃ k : Nat, i = k := ⟨i.toNat, by omega⟩
    obtain ⟨m, v, ok, h⟩ := h.disk
    obtain ⟨va, vc, rfl⟩ := (h.as (B := rowS 94 65 v D.wait.length (D.wait.flatMap pendV) ^ (own p (.cells #[.int .i64 D.n, .map (some m), v, .int .i64 D.armed, .bool D.down, .int .i64 D.ops] 89 (0, 0)) ^ mapS m D.sure ^ R)) (by ac_rfl)).shape
    have hc := h.cell
    obtain ⟨es, cl, hk1, hk2, hm⟩ := (h.as (B := mapS m D.sure ^ (own p (.cells #[.int .i64 D.n, .map (some m), .slice va D.wait.length vc, .int .i64 D.armed, .bool D.down, .int .i64 D.ops] 89 (0, 0)) ^
      rowS 94 65 (.slice va D.wait.length vc) D.wait.length (D.wait.flatMap pendV) ^ R)) (by ac_rfl)).map
    have hlk := run_lookup_int (P := Try.prog) Try.underlying86 Try.underlying3 hm.heap hk1 (z := secV (zeros 64)) (fun w => (info_zero sector_info w).1) k
    rw [hk2 k] at hlk
    obtain ⟨b, w1, hr1, hS1, hF1⟩ := alloc_sl (P := Try.prog) sector_info hm
    obtain ⟨w2, hr2, hS2, hF2⟩ := store_sl (P := Try.prog) (off := 0) ((D.sure k).map u8v) sector_info (by simp [ok.sure k]) (oneCell_bytes _) (by simp [secV, Value.cells, zeros, ok.sure k]) hS1
    rw [splice_whole _ _ (by simp [secV, Value.cells, zeros, ok.sure k])] at hS2
    have hc2 := hS2.right.right.cell
    generalize hPP : own p (.cells #[.int .i64 D.n, .map (some m), .slice va D.wait.length vc, .int .i64 D.armed, .bool D.down, .int .i64 D.ops] 89 (0, 0)) = PP at hS2
    have fold : ∀ h, (own m (.map es cl) ^ PP ^ rowS 94 65 (.slice va D.wait.length vc) D.wait.length (D.wait.flatMap pendV)) h → diskS p D h := by
      subst hPP
      exact disk_fold ok hk1 hk2
    generalize own m (.map es cl) = MM at hS2 fold
    have hbd : ∀ j ≤ D.wait.length, (seen k (D.sure k) (D.wait.take j)).length = 64 := fun j _ => seen_length k _ _ (ok.sure k) fun x hx => ok.wait x (List.mem_of_mem_take hx) |>.2
    clear hm hS1 h hPP hk1 hk2
    go_enter Try.func17, Try.ntmps17
    go_wp2_with (first | (refine arm_lookup rfl rfl rfl rfl hlk ?_) | (refine arm_alloc rfl rfl hr1 ?_) | (refine arm_store rfl rfl rfl rfl hr2 ?_) | (go_at_call 45; refine hask.mono ?_; rintro e w' ⟨rfl, rfl⟩))
    go_loopw [27] (fun i wr => ∃ j : Nat, j ≤ D.wait.length ∧ i = .int .i64 j ∧ Sat wr (own b (.cells ((seen k (D.sure k) (D.wait.take j)).map u8v).toArray 92 (0, 0)) ^ MM ^ PP ^ rowS 94 65 (.slice va D.wait.length vc) D.wait.length (D.wait.flatMap pendV) ^ R) ∧ Flow w wr) (fun i _ => D.wait.length - (intOf i).toNat)
    case atStart => exact ⟨0, Nat.zero_le _, rfl, by simpa [seen] using hS2, hF1.trans hF2⟩
    case round =>
      obtain ⟨j, hj, rfl, hS, hF⟩ := hrel
      by_cases hlt : j < D.wait.length
      · obtain ⟨x, hx⟩ : ∃ x, D.wait[j]? = some x := ⟨_, List.getElem?_eq_getElem hlt⟩
        have hx2 := ok.wait x (List.mem_of_getElem? hx)
        have hsn : seen k (D.sure k) (D.wait.take (j + 1)) = if x.1 = k then x.2 else seen k (D.sure k) (D.wait.take j) := by
          rw [List.take_add_one, hx]
          exact seen_snoc _ _ _ _
        obtain ⟨hrl, hro⟩ := (hS.as (B := rowS 94 65 (.slice va D.wait.length vc) D.wait.length (D.wait.flatMap pendV) ^ own b (.cells ((seen k (D.sure k) (D.wait.take j)).map u8v).toArray 92 (0, 0)) ^ MM ^ PP ^ R) (by ac_rfl)).ofRow
        obtain ⟨_, hn, _⟩ | ⟨g, cap, cur, hv, hncap, hcap, hcs, htake, hg⟩ := hro
        · omega
        · cases hv
          have hix := index_sl (P := Try.prog) Try.underlying87 pend_info g 0 D.wait.length vc j hlt wr
          have hld := load_sl (P := Try.prog) (off := 0 + j * 65) (pendV x) pend_info Try.underlying94 rfl (by simp [pendV, hx2.2]) (fun t u hu => by
            have h2 := pend_at D.wait (fun y hy => (ok.wait y hy).2) j x hx t u hu
            rw [← htake, List.getElem?_take] at h2
            split at h2
            · simpa [Nat.add_comm] using h2
            · cases h2) hg
          obtain ⟨b9, w3, hr3, hS3, hF3⟩ := alloc_sl (P := Try.prog) pend_info hS
          obtain ⟨w4, hr4, hS4, hF4⟩ := store_sl (P := Try.prog) (off := 0) (pendV x) pend_info (by simp [pendV, hx2.2]) (by
            intro u hu
            rcases List.mem_cons.1 hu with rfl | hu
            · rfl
            · exact oneCell_bytes _ u hu) (by simp [Value.cells, pendV, hx2.2, Try.zeroCells94_size]) hS3
          rw [splice_whole _ _ (by simp [Value.cells, pendV, hx2.2, Try.zeroCells94_size])] at hS4
          have hc9 : w4.cell? ⟨b9, 0, none⟩ = some (.int .i64 (x.1 : Int)) := (hS4.cell 0).trans (by simp [pendV])
          have hld9 := load_sl (P := Try.prog) (off := 1) (x.2.map u8v) sector_info Try.underlying92 rfl (by simp [hx2.2]) (fun t u hu => by
            rw [Nat.add_comm]
            simpa [pendV] using hu) hS4
          obtain ⟨w5, hr5, hS5, hF5⟩ := store_sl (P := Try.prog) (off := 0) (x.2.map u8v) sector_info (by simp [hx2.2]) (oneCell_bytes _) (by simp [hx2.2, hbd j hj]) hS4.right
          rw [splice_whole _ _ (by simp [hx2.2, hbd j hj])] at hS5
          clear hc2 hask hcs htake hg hS3
          by_cases hxk : x.1 = k
          · rw [if_pos hxk] at hsn
            have hxk' : ((x.1 : Int) == (k : Int)) = true := by simp [hxk]
            go_wp2_with (first | (refine arm_indexAddr rfl rfl rfl rfl hix ?_) | (refine arm_load rfl rfl rfl hld ?_) | (refine arm_alloc rfl rfl hr3 ?_) | (refine arm_store rfl rfl rfl rfl hr4 ?_) | (refine arm_load rfl rfl rfl hld9 ?_) | (refine arm_store rfl rfl rfl rfl hr5 ?_))
            go_roundw
            case rel => exact ⟨j + 1, by omega, by go_num, by rw [hsn]; exact hS5, (((hF.trans hF3).trans hF4).trans hF5)⟩
            case measure => simp [intOf]; omega
          · rw [if_neg hxk] at hsn
            have hxk' : ((x.1 : Int) == (k : Int)) = false := by simp; omega
            go_wp2_with (first | (refine arm_indexAddr rfl rfl rfl rfl hix ?_) | (refine arm_load rfl rfl rfl hld ?_) | (refine arm_alloc rfl rfl hr3 ?_) | (refine arm_store rfl rfl rfl rfl hr4 ?_) | (refine arm_load rfl rfl rfl hld9 ?_))
            go_roundw
            case rel => exact ⟨j + 1, by omega, by go_num, by rw [hsn]; exact hS4.right, ((hF.trans hF3).trans hF4)⟩
            case measure => simp [intOf]; omega
      · obtain rfl : j = D.wait.length := by omega
        go_wp2
        go_ret2
        refine ⟨.slice (some ⟨b, 0, none⟩) 64 64, by rw [e1]; rfl, ?_, hF⟩
        rw [e1]
        have hat : D.at (k : Int).toNat = seen k (D.sure k) D.wait := rfl
        rw [hat]
        have hlen := seen_length k D.wait (D.sure k) (ok.sure k) fun x hx => (ok.wait x hx).2
        rw [List.take_length] at hS
        have h5 := hS.toRow (n := 64) (cap := 64) (size := 1) (xs := (seen k (D.sure k) D.wait).map u8v) (by omega) (by unfold maxLen; omega) (by simp [hlen]) (List.take_of_length_le (by simp [hlen]))
        have h6 : Sat wr (bytesS (.slice (some ⟨b, 0, none⟩) 64 64) (seen k (D.sure k) D.wait) ^ MM ^ PP ^ rowS 94 65 (.slice va D.wait.length vc) D.wait.length (D.wait.flatMap pendV) ^ R) := by
          unfold bytesS
          rw [ex_star, sat_ex, hlen]
          exact ⟨_, h5⟩
        exact h6.re (bytesS (.slice (some ⟨b, 0, none⟩) 64 64) (seen k (D.sure k) D.wait) ^ R) fold (by ac_rfl) (by ac_rfl)
  · have e1 : D.read i = ([], D.ask i) := by unfold DD.read; rw [if_pos (by simpa using h1)]
    have h1' : (D.ask i == 0) = false := by simpa using h1
    have h1'' : (D.ask i != 0) = true := by simpa using h1
    go_enter Try.func17, Try.ntmps17
    go_wp2_with (go_at_call 45; refine hask.mono ?_; rintro e w' ⟨rfl, rfl⟩)
    go_ret2
    refine ⟨.slice none 0 0, by rw [e1]; rfl, ?_, Flow.refl w⟩
    rw [e1]
    unfold bytesS
    rw [ex_star, sat_ex]
    exact ⟨0, by rw [show rowS 0 1 (.slice none 0 0) ([] : List UInt8).length (([] : List UInt8).map u8v) = emp from rowS_nil 0 1, emp_star]; exact h⟩
end Go.Proofs.Ytehpdpdmjflddaa
