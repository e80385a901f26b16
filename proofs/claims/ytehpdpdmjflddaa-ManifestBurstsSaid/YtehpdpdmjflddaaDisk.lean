/-
  The disk of the program, as data: what its calls do, and where it lies in memory.
-/
import Derived.Test.YtehpdpdmjflddaaRw
import Derived.Test.YtehpdpdmjflddaaAny
import Derived.Test.YtehpdpdmjflddaaArm
import Derived.Test.YtehpdpdmjflddaaProg
import Derived.Outline
import Derived.Lib.Hide
import Derived.Deep.QuietTactic
import Derived.BigQuiet
namespace Go.Proofs.Ytehpdpdmjflddaa
open Go.RowKit

/-- A disk as data. Sectors are lists of 64 bytes. -/
structure DD where
  n : Nat
  sure : Nat → List UInt8
  wait : List (Nat × List UInt8)
  armed : Nat
  down : Bool
  ops : Nat

/-- 64 bytes: these, and noughts. -/
def sec (bs : List UInt8) : List UInt8 := (bs ++ zeros 64).take 64
def DD.ask (D : DD) (i : Int) : Int := if D.down then 14 else if i < 0 ∨ (D.n : Int) ≤ i then 2 else 0
def DD.done (D : DD) : DD × Bool :=
  if D.armed = 1 then ({ D with armed := 0, down := true }, false) else ({ D with armed := D.armed - 1, ops := D.ops + 1 }, true)
def DD.write (D : DD) (i : Int) (bs : List UInt8) : DD × Int :=
  if D.ask i ≠ 0 then (D, D.ask i) else if 64 < bs.length then (D, 6)
  else
    let D1 := { D with wait := D.wait ++ [(i.toNat, sec bs)] }
    (D1.done.1, if D1.done.2 then 0 else 14)
/-- What may be. -/
structure DD.ok (D : DD) : Prop where
  n : D.n ≤ 65536
  sure : ∀ k, (D.sure k).length = 64
  wait : ∀ x ∈ D.wait, x.1 < D.n ∧ x.2.length = 64
  armed : D.armed < 2 ^ 63

def secV (bs : List UInt8) : Value := .agg (bs.map u8v).toArray
def pendV (x : Nat × List UInt8) : List Value := .int .i64 (x.1 : Int) :: x.2.map u8v
def mapS (m : Nat) (f : Nat → List UInt8) : SP := ex fun es : Array MapEntry => ex fun c : Nat =>
  fact (IntKeys es.toList ∧ ∀ k : Nat, (mget es.toList k).getD (secV (zeros 64)) = secV (f k)) ^ own m (.map es c)
def diskS (p : Nat) (D : DD) : SP := ex fun m : Nat => ex fun v : Value =>
  fact D.ok ^ own p (.cells #[.int .i64 D.n, .map (some m), v, .int .i64 D.armed, .bool D.down, .int .i64 D.ops] 89 (0, 0)) ^ mapS m D.sure ^
    rowS 94 65 v D.wait.length (D.wait.flatMap pendV)
theorem Sat.disk {w : World} {p : Nat} {D : DD} {R : SP} (h : Sat w (diskS p D ^ R)) : ∃ m v, D.ok ∧
    Sat w (own p (.cells #[.int .i64 D.n, .map (some m), v, .int .i64 D.armed, .bool D.down, .int .i64 D.ops] 89 (0, 0)) ^ mapS m D.sure ^
      rowS 94 65 v D.wait.length (D.wait.flatMap pendV) ^ R) := by
  unfold diskS at h
  simp only [ex_star, sat_ex, star_assoc, sat_fact] at h
  exact h
theorem Sat.toDisk {w : World} {p m : Nat} {v : Value} {D : DD} {R : SP} (ok : D.ok)
    (h : Sat w (own p (.cells #[.int .i64 D.n, .map (some m), v, .int .i64 D.armed, .bool D.down, .int .i64 D.ops] 89 (0, 0)) ^ mapS m D.sure ^
      rowS 94 65 v D.wait.length (D.wait.flatMap pendV) ^ R)) : Sat w (diskS p D ^ R) := by
  unfold diskS
  simp only [ex_star, sat_ex, star_assoc, sat_fact]
  exact ⟨m, v, ok, h⟩


set_option maxHeartbeats 400000 in
theorem ask_spec (p : Nat) (D : DD) (i : Int) (R : SP) (w : World) (h : Sat w (diskS p D ^ R)) :
    Calls Try.prog 45 #[ptr p, .int .i64 i] w fun e w' => e = .returned (.int .i64 (D.ask i)) ∧ w = w' := by
  obtain ⟨m, v, ok, h⟩ := h.disk
  have hc := h.cell
  clear h
  unfold DD.ask
  cases hd : D.down
  · by_cases h1 : i < 0
    · go_enter Try.func45, Try.ntmps45
      go_wp2
      go_ret
      exact ⟨by simp, rfl⟩
    · by_cases h2 : (D.n : Int) ≤ i
      · go_enter Try.func45, Try.ntmps45
        go_wp2
        go_ret
        exact ⟨by simp, rfl⟩
      · go_enter Try.func45, Try.ntmps45
        go_wp2
        go_ret
        exact ⟨by simp, rfl⟩
  · go_enter Try.func45, Try.ntmps45
    go_wp2
    go_ret
    exact ⟨rfl, rfl⟩

theorem setOwn {w : World} {p : Nat} {c : Array Value} {e : TypeId} {R : SP} (i : Nat) (v : Value) (c' : Array Value) (h : Sat w (own p (.cells c e (0, 0)) ^ R)) (hc : c.setIfInBounds i v = c') :
    Sat (w.setCell ⟨p, i, none⟩ v) (own p (.cells c' e (0, 0)) ^ R) := hc ▸ h.setCell

set_option maxHeartbeats 400000 in
theorem done_spec (p : Nat) (D : DD) (R : SP) (w : World) (h : Sat w (diskS p D ^ R)) (ho : D.ops < 9223372036854775807) :
    Calls Try.prog 46 #[ptr p] w (Done w (.bool D.done.2) (diskS p D.done.1 ^ R)) := by
  obtain ⟨m, v, ok, h⟩ := h.disk
  have hc := h.cell
  have hf := h.free
  have har := ok.armed
  by_cases h1 : D.armed = 1
  · have e1 : D.done = ({ D with armed := 0, down := true }, false) := by simp [DD.done, h1]
    rw [e1]
    clear e1
    go_enter Try.func46, Try.ntmps46
    go_wp2
    go_ret
    exact Done.mk rfl (Sat.toDisk (D := { D with armed := 0, down := true }) ⟨ok.n, ok.sure, ok.wait, by show 0 < _; decide⟩ (setOwn 4 _ _ (setOwn 3 _ _ h rfl) rfl)) (((Flow.refl w).setCell _ _).setCell _ _)
  · have e1 : D.done = ({ D with armed := D.armed - 1, ops := D.ops + 1 }, true) := by simp [DD.done, h1]
    rw [e1]
    clear e1
    by_cases h0 : D.armed = 0
    · go_enter Try.func46, Try.ntmps46
      go_wp2
      go_ret
      refine Done.mk rfl (Sat.toDisk (D := { D with armed := D.armed - 1, ops := D.ops + 1 }) ⟨ok.n, ok.sure, ok.wait, by show D.armed - 1 < _; omega⟩ (setOwn 5 _ _ h ?_)) ((Flow.refl w).setCell _ _)
      simp [h0]
    · have h2 : 1 ≤ (D.armed : Int) := by omega
      have h3 : ((D.armed : Int) == 0) = false := by simp; omega
      have h4 : ((D.armed : Int) == 1) = false := by simp; omega
      have h5 : (D.armed : Int) ≤ 9223372036854775807 := by omega
      have H : Hid (((D.armed - 1 : Nat) : Int) = (D.armed : Int) - 1) := show _ = _ by omega
      clear h0
      go_enter Try.func46, Try.ntmps46
      go_wp2
      go_ret
      refine Done.mk rfl (Sat.toDisk (D := { D with armed := D.armed - 1, ops := D.ops + 1 }) ⟨ok.n, ok.sure, ok.wait, by show D.armed - 1 < _; omega⟩ (setOwn 5 _ _ (setOwn 3 _ _ h rfl) ?_)) (((Flow.refl w).setCell _ _).setCell _ _)
      simp [H.out]

theorem length_flatMap_pend (l : List (Nat × List UInt8)) (h : ∀ x ∈ l, x.2.length = 64) : (l.flatMap pendV).length = l.length * 65 := by
  induction l with
  | nil => rfl
  | cons x l ih =>
    simp only [List.flatMap_cons, List.length_append, List.length_cons, pendV, List.length_map, h x (List.mem_cons_self ..), ih fun y hy => h y (List.mem_cons_of_mem _ hy)]
    omega
theorem zero_pend : Try.zeroCells94.toList = pendV (0, zeros 64) := by kernel_rfl
theorem oneCell_bytes (bs : List UInt8) : ∀ u ∈ bs.map u8v, u.oneCell' = true := by
  intro u hu
  obtain ⟨b, _, rfl⟩ := List.mem_map.1 hu
  rfl

theorem pend_info : (Try.prog.info? 94).map (fun i => (i.zero, i.size, i.bytes)) = some (some (.agg Try.zeroCells94), 65, 72) := by kernel_rfl
theorem byte_size : (Try.prog.info? 5).map (·.size) = some 1 := by kernel_rfl
theorem sec_short (bs : List UInt8) (h : bs.length ≤ 64) : sec bs = bs ++ zeros (64 - bs.length) := by
  unfold sec zeros
  rw [List.take_append, List.take_of_length_le h, List.take_replicate]
  congr 2
  omega
theorem length_sec (bs : List UInt8) : (sec bs).length = 64 := by simp [sec, zeros]
theorem splice_pend (i : Nat) (bs : List UInt8) (h : bs.length ≤ 64) : splice (Value.int .i64 (i : Int) :: (zeros 64).map u8v) 1 (bs.map u8v) = pendV (i, sec bs) := by
  simp only [splice, pendV, sec_short bs h, zeros, List.map_append, List.map_replicate, List.length_map, List.take_succ_cons, List.take_zero, List.cons_append, List.nil_append]
  congr 2
  rw [Nat.add_comm, List.drop_succ_cons, List.drop_replicate]

set_option maxRecDepth 100000 in
set_option maxHeartbeats 1000000 in
theorem write_spec (p : Nat) (D : DD) (i : Int) (vb : Value) (bs : List UInt8) (R : SP) (w : World) (h : Sat w (diskS p D ^ R)) (hb : RdIn R vb bs) (ho : D.ops < 9223372036854775807) (hw : D.wait.length < 1000000000) :
    Calls Try.prog 15 #[ptr p, .int .i64 i, vb] w (Done w (.int .i64 (D.write i bs).2) (diskS p (D.write i bs).1 ^ R)) := by
  have hask := ask_spec p D i R w h
  have hrd := hb w h.right
  have hshape : ∃ a c, vb = .slice a bs.length c := by obtain ⟨a, c, h, _⟩ := hrd; exact ⟨a, c, h⟩
  obtain ⟨a, c, rfl⟩ := hshape
  by_cases h1 : D.ask i = 0
  · by_cases h2 : bs.length ≤ 64
    · have e1 : D.write i bs = (({ D with wait := D.wait ++ [(i.toNat, sec bs)] } : DD).done.1, if ({ D with wait := D.wait ++ [(i.toNat, sec bs)] } : DD).done.2 then 0 else 14) := by
        unfold DD.write
        rw [if_neg (by simp [h1]), if_neg (by omega)]
      rw [e1]
      clear e1
      rw [h1] at hask
      have hi : 0 ≤ i ∧ i < D.n := by
        unfold DD.ask at h1
        split at h1 <;> simp at h1
        omega
      obtain ⟨k, rfl⟩ : ∃ k : Nat, i = k := ⟨i.toNat, by omega⟩
      obtain ⟨m, v, ok, h⟩ := h.disk
      have hc := h.cell
      obtain ⟨i0, hi0, hz0, hz1, hz2⟩ := info_parts pend_info
      -- the variable w, and what is copied into it
      obtain ⟨C1, hC1⟩ : ∃ C, C = Value.int .i64 (k : Int) :: (zeros 64).map u8v := ⟨_, rfl⟩
      have hset : Try.zeroCells94.toList.set 0 (Value.int .i64 (k : Int)) = C1 := by rw [zero_pend, hC1]; rfl
      have hl1 : C1.length = 65 := by rw [hC1]; simp [zeros]
      have hst := run_storeCells_new (P := Try.prog) w Try.zeroCells94 94 C1 (by rw [Try.zeroCells94_size]; exact hl1) (by
        rw [hC1]
        intro u hu
        rcases List.mem_cons.1 hu with rfl | hu
        · rfl
        · exact oneCell_bytes _ u hu)
      have hmin : Nat.min bs.length 64 = bs.length := Nat.min_eq_left h2
      have hcp := run_copy_sl (P := Try.prog) 22 22 3 5 Try.underlying22 byte_size w.heap.size 1 64 64 _ _ (heap_alloc_new w (.cells C1.toArray 94))
        (hrd.keep (.inr trivial) fun k hk => Below.heap_alloc w _ k hk) (List.length_map _) (by rw [hmin, hl1]; omega) (oneCell_bytes _)
      rw [hmin, List.take_of_length_le (by simp), setRow_alloc, hC1, splice_pend k bs h2, ← hC1] at hcp
      generalize hD1 : ({ D with wait := D.wait ++ [((k : Int).toNat, sec bs)] } : DD) = D1
      generalize hr : (if D1.done.2 = true then (0 : Int) else 14) = r
      obtain ⟨C, hC⟩ : ∃ C, C = pendV (k, sec bs) := ⟨_, rfl⟩
      have hCl : C.length = 65 := by rw [hC]; simp [pendV, length_sec]
      rw [← hC] at hcp
      have hC1' := Lib.hid hC1
      have hC' := Lib.hid hC
      have hr' := Lib.hid hr
      have hD1' := Lib.hid hD1
      clear hrd hmin hC1 hC hr hD1 hl1
      go_enter Try.func15, Try.ntmps15
      go_wp2_with (go_at_call 45; refine hask.mono ?_; rintro e w' ⟨rfl, rfl⟩)
      have hF1 : Flow w (w.alloc (.cells C.toArray 94)) := (Flow.refl w).alloc _
      have hS1 := h.alloc (.cells C.toArray 94)
      refine wp_free (by kernel_rfl) (by kernel_rfl) ?_
      clear hc hcp hset hst
      have hS1 := hS1.drew
      have hF1 := hF1.drew
      generalize (w.alloc (.cells C.toArray 94)).drew = w1 at hS1 hF1 ⊢
      generalize w.heap.size = B at hS1 ⊢
      have hg := hS1.heap
      have hgi : (Try.prog.info? 94).map (·.size) = some C.toArray.size := by rw [hi0]; simp [hz1, hCl]
      have hgH := Lib.hid hg
      have hgiH := Lib.hid hgi
      clear hg hgi
      have hbs := run_buildSlice_one (P := Try.prog) 87 94 i0 _ Try.underlying87 hi0 hz0 (by omega) (by omega) (.agg C.toArray) (by rw [hz1]; exact hCl) w1
      have hS2 := hS1.alloc (.cells C.toArray 94)
      obtain ⟨v', w3, hap, hS3, hF3⟩ := run_append_sl (P := Try.prog) 87 87 94 i0 _ 65 72 Try.underlying87 hi0 hz0 hz1 hz2 (by show Try.zeroCells94.size = 65; rw [Try.zeroCells94_size]) (by omega) v _ _
        (hS2.as (B := rowS 94 65 v D.wait.length (D.wait.flatMap pendV) ^ own w1.heap.size (.cells C.toArray 94) ^ own B (.cells C.toArray 94) ^
          own p (.cells #[.int .i64 D.n, .map (some m), v, .int .i64 D.armed, .bool D.down, .int .i64 D.ops] 89 (0, 0)) ^ mapS m D.sure ^ R) (by ac_rfl))
        (some ⟨w1.heap.size, 0, none⟩) 1 1 C (by omega) (fun j u hu => ⟨_, rfl, by
          have hadd : (⟨w1.heap.size, 0, none⟩ : Addr).add j = ⟨w1.heap.size, j, none⟩ := by unfold Addr.add; split <;> simp_all
          rw [hadd, hS2.cell]
          simpa using hu⟩) (by
          intro u hu
          rw [hC'.out] at hu
          rcases List.mem_cons.1 hu with rfl | hu
          · rfl
          · exact oneCell_bytes _ u hu) (by unfold maxLen; omega) (by omega)
      obtain ⟨va, vc, rfl⟩ := hS3.shape
      have hS3' := hS3.as (B := own p (.cells #[.int .i64 D.n, .map (some m), v, .int .i64 D.armed, .bool D.down, .int .i64 D.ops] 89 (0, 0)) ^ mapS m D.sure ^
          rowS 94 65 (.slice va (D.wait.length + 1) vc) (D.wait.length + 1) (D.wait.flatMap pendV ++ C) ^ (own w1.heap.size (.cells C.toArray 94) ^ own B (.cells C.toArray 94)) ^ R) (by ac_rfl)
      have hc1 := (hS1.as (B := own p (.cells #[.int .i64 D.n, .map (some m), v, .int .i64 D.armed, .bool D.down, .int .i64 D.ops] 89 (0, 0)) ^ own B (.cells C.toArray 94) ^ mapS m D.sure ^ rowS 94 65 v D.wait.length (D.wait.flatMap pendV) ^ R) (by ac_rfl)).cell
      have hc3 := hS3'.cell
      have hf3 := hS3'.free
      have hS4 : Sat (w3.setCell ⟨p, 2, none⟩ (.slice va (D.wait.length + 1) vc)) (diskS p D1 ^ R) := by
        have h4 := setOwn 2 (.slice va (D.wait.length + 1) vc) _ hS3' rfl
        rw [← hD1'.out]
        refine Sat.toDisk (v := .slice va (D.wait.length + 1) vc) (m := m) ⟨ok.n, ok.sure, fun x hx => ?_, ok.armed⟩ ?_
        · rcases List.mem_append.1 hx with hx | hx
          · exact ok.wait x hx
          · obtain rfl := List.mem_singleton.1 hx
            exact ⟨by simp; omega, length_sec _⟩
        · have e : (D.wait ++ [((k : Int).toNat, sec bs)]).flatMap pendV = D.wait.flatMap pendV ++ C := by
            rw [hC'.out, List.flatMap_append]
            simp
          simp only [List.length_append, List.length_singleton, e]
          refine (h4.as (B := (own w1.heap.size (.cells C.toArray 94) ^ own B (.cells C.toArray 94)) ^ _) ?_).right
          ac_rfl
      have hdn := done_spec p D1 R _ hS4 (by rw [← hD1'.out]; exact ho)
      clear hS1 hS2 hS3 hS3'
      go_wp2_with (refine wpList_load_row (o := ⟨_, .load _ _, _, _, _, _⟩) rfl 94 _ rfl B rfl _ _ _ _ hgH.out Try.underlying94 rfl hgiH.out ?_; refine arm_buildSlice rfl rfl hbs rfl ?_; refine arm_append rfl rfl rfl rfl hap ?_)
      refine ⟨by rfl, ?_⟩
      go_wp2_with (go_at_call 46; refine hdn.mono ?_; rintro e w' ⟨rfl, hS5, hF5⟩)
      all_goals
        go_ret
        refine Done.mk (by rw [← hr'.out]; simp_all) hS5 ((hF1.trans ?_).trans hF5)
        exact (((Flow.refl w1).alloc _).trans hF3).setCell _ _
    · have e1 : D.write i bs = (D, 6) := by
        unfold DD.write
        rw [if_neg (by simp [h1]), if_pos (by omega)]
      rw [h1] at hask
      rw [e1]
      clear e1
      have h2' : 64 < (bs.length : Int) := by omega
      go_enter Try.func15, Try.ntmps15
      go_wp2_with (go_at_call 45; refine hask.mono ?_; rintro e w' ⟨rfl, rfl⟩)
      go_ret
      exact Done.mk rfl h (Flow.refl w)
  · have e1 : D.write i bs = (D, D.ask i) := by
      unfold DD.write
      rw [if_pos (by simpa using h1)]
    rw [e1]
    clear e1
    have h1' : (D.ask i == 0) = false := by simpa using h1
    have h1'' : (D.ask i != 0) = true := by simpa using h1
    go_enter Try.func15, Try.ntmps15
    go_wp2_with (go_at_call 45; refine hask.mono ?_; rintro e w' ⟨rfl, rfl⟩)
    go_ret
    exact Done.mk rfl h (Flow.refl w)
end Go.Proofs.Ytehpdpdmjflddaa
