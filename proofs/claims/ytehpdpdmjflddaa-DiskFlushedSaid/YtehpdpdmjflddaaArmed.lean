/-
  An armed disk, as data; the walk of DiskArmed.
-/
import Derived.Test.YtehpdpdmjflddaaRowC
import Derived.Test.YtehpdpdmjflddaaNil
namespace Go.Proofs.Ytehpdpdmjflddaa
open Go.RowKit

theorem and31 (a : Int) : bits .and .i64 a 31 = a % 32 := by
  show IntKind.i64.wrap ((BitVec.ofInt 64 a &&& BitVec.ofInt 64 31).toNat : Int) = _
  have h1 : (BitVec.ofInt 64 a).toNat = (a % 18446744073709551616).toNat := by simp [BitVec.toNat_ofInt]
  have h2 : (BitVec.ofInt 64 31).toNat = 2 ^ 5 - 1 := by decide
  rw [BitVec.toNat_and, h1, h2, Nat.and_two_pow_sub_one_eq_mod, IntKind.wrap_i64]
  omega
/-- A disk that was armed for `left`, of which d writes and flushes are told. -/
def ArmI (left : Nat) (D : DD) (d : Nat) : Prop := D.n = 32 ∧ ((D.down = false ∧ D.ops = d ∧ D.armed + d = left ∧ 1 ≤ D.armed) ∨ (D.down = true ∧ D.ops + 1 = left ∧ d + 1 ≤ left))
theorem ArmI.less {left d d' : Nat} {D : DD} (h : ArmI left D d) (hd : D.down = true) (hl : d' ≤ d) : ArmI left D d' := by
  obtain ⟨h1, ⟨h2, _⟩ | ⟨h2, h3, h4⟩⟩ := h
  · rw [h2] at hd; cases hd
  · exact ⟨h1, .inr ⟨h2, h3, by omega⟩⟩
theorem ArmI.ops {left d : Nat} {D : DD} (h : ArmI left D d) : D.ops ≤ left := by
  obtain ⟨_, ⟨_, h2, h3, _⟩ | ⟨_, h3, _⟩⟩ := h <;> omega
theorem arm_done {left d : Nat} {D : DD} (h : ArmI left D d) (hd : D.down = false) : D.done.1.wait = D.wait ∧ D.done.1.n = D.n ∧ ((D.done.2 = true ∧ D.done.1.down = false ∧ ArmI left D.done.1 (d + 1)) ∨ (D.done.2 = false ∧ D.done.1.down = true ∧ ArmI left D.done.1 d)) := by
  obtain ⟨h1, ⟨_, h2, h3, h4⟩ | ⟨h2, _⟩⟩ := h
  · unfold DD.done
    by_cases ha : D.armed = 1
    · rw [if_pos ha]
      exact ⟨rfl, rfl, .inr ⟨rfl, rfl, h1, .inr ⟨rfl, by show D.ops + 1 = left; omega, by omega⟩⟩⟩
    · rw [if_neg ha]
      exact ⟨rfl, rfl, .inl ⟨rfl, hd, h1, .inl ⟨hd, by show D.ops + 1 = d + 1; omega, by show D.armed - 1 + (d + 1) = left; omega, by show 1 ≤ D.armed - 1; omega⟩⟩⟩
  · rw [hd] at h2; cases h2
theorem arm_write {left d : Nat} {D : DD} (h : ArmI left D d) (i : Nat) (hi : i < 32) (bs : List UInt8) (hb : bs.length ≤ 64) :
    (((D.write i bs).2 = 0 ∧ (D.write i bs).1.down = false ∧ ArmI left (D.write i bs).1 (d + 1)) ∨ ((D.write i bs).2 = 14 ∧ (D.write i bs).1.down = true ∧ ArmI left (D.write i bs).1 d)) ∧ (D.write i bs).1.wait.length ≤ D.wait.length + 1 := by
  cases hd : D.down
  · have h0 : D.ask i = 0 := by
      have : ¬ ((i : Int) < 0 ∨ (D.n : Int) ≤ i) := by rw [h.1]; omega
      unfold DD.ask
      rw [hd, if_neg (by simp), if_neg this]
    have e1 : D.write i bs = (({ D with wait := D.wait ++ [((i : Int).toNat, sec bs)] } : DD).done.1, if ({ D with wait := D.wait ++ [((i : Int).toNat, sec bs)] } : DD).done.2 then 0 else 14) := by
      unfold DD.write
      rw [if_neg (by simp [h0]), if_neg (by omega)]
    rw [e1]
    have hI : ArmI left { D with wait := D.wait ++ [((i : Int).toNat, sec bs)] } d := h
    obtain ⟨hw, _, ⟨h2, h3, h4⟩ | ⟨h2, h3, h4⟩⟩ := arm_done hI hd
    · exact ⟨.inl ⟨by rw [h2]; rfl, h3, h4⟩, by rw [hw]; simp⟩
    · exact ⟨.inr ⟨by rw [h2]; rfl, h3, h4⟩, by rw [hw]; simp⟩
  · have h0 : D.ask i = 14 := by simp [DD.ask, hd]
    have e1 : D.write i bs = (D, 14) := by
      unfold DD.write
      rw [if_pos (by simp [h0]), h0]
    rw [e1]
    exact ⟨.inr ⟨rfl, hd, h⟩, by simp⟩
theorem arm_flush {left d : Nat} {D : DD} (h : ArmI left D d) :
    ((D.flush.2 = 0 ∧ D.flush.1.down = false ∧ ArmI left D.flush.1 (d + 1)) ∨ (D.flush.2 = 14 ∧ D.flush.1.down = true ∧ ArmI left D.flush.1 d)) ∧ D.flush.1.wait.length ≤ D.wait.length := by
  cases hd : D.down
  · have h0 : D.ask 0 = 0 := by
      have : ¬ ((0 : Int) < 0 ∨ (D.n : Int) ≤ 0) := by rw [h.1]; omega
      unfold DD.ask
      rw [hd, if_neg (by simp), if_neg this]
    unfold DD.flush
    rw [if_neg (by simp [h0])]
    obtain ⟨hw, _, ⟨h2, h3, h4⟩ | ⟨h2, h3, h4⟩⟩ := arm_done h hd
    · rw [if_pos h2]
      exact ⟨.inl ⟨rfl, h3, h4⟩, by simp⟩
    · rw [if_neg (by simp [h2])]
      exact ⟨.inr ⟨rfl, h3, h4⟩, by rw [hw]; exact Nat.le_refl _⟩
  · have h0 : D.ask 0 = 14 := by simp [DD.ask, hd]
    unfold DD.flush
    rw [if_pos (by simp [h0]), h0]
    exact ⟨.inr ⟨rfl, hd, h⟩, Nat.le_refl _⟩
theorem down_flush {D : DD} (h : D.down = true) : D.flush = (D, 14) := by
  have h0 : D.ask 0 = 14 := by simp [DD.ask, h]
  unfold DD.flush
  rw [if_pos (by simp [h0]), h0]
theorem down_write {D : DD} (h : D.down = true) (i : Int) (bs : List UInt8) : D.write i bs = (D, 14) := by
  have h0 : D.ask i = 14 := by simp [DD.ask, h]
  unfold DD.write
  rw [if_pos (by simp [h0]), h0]
theorem down_read {D : DD} (h : D.down = true) (i : Int) : D.read i = ([], 14) := by
  have h0 : D.ask i = 14 := by simp [DD.ask, h]
  unfold DD.read
  rw [if_pos (by simp [h0]), h0]
theorem crash_flush {D : DD} (h : D.n = 32) (ks : List Int) : (D.crash ks).flush.2 = 0 := by
  simp [DD.flush, DD.ask, DD.crash, h, DD.done]
theorem load_rd {P : Program} {w : World} {T : TypeId} {z : Value} {n b p off : Nat} {d : TypeDesc} (vs : List Value) (hi : (P.info? T).map (fun i => (i.zero, i.size, i.bytes)) = some (some z, n, b)) (hu : P.underlying T = some d)
    (hd : d.isRow = true) (hn : vs.length = n) (hv : ∀ j u, vs[j]? = some u → w.cell? ⟨p, off + j, none⟩ = some u) :
    (Instr.loadAt T (.pointer (some ⟨p, off, none⟩))).run P w = .ok (.agg vs.toArray) w :=
  run_loadAt_mid w p off T vs d hv hu hd (by
    cases hq : P.info? T with
    | none => simp [hq] at hi
    | some i => simp [hq] at hi; simp [hi, hn])
theorem call_info : (Try.prog.info? 40).map (fun i => (i.zero, i.size, i.bytes)) = some (some (.agg #[.int .i64 0, .int .i64 0, .slice none 0 0, .slice none 0 0]), 4, 64) := by kernel_rfl
theorem req_at (l : List Req) (j : Nat) (x : Req) (hx : l[j]? = some x) (t : Nat) (u : Value) (hu : x.cells[t]? = some u) : (l.flatMap Req.cells)[j * 4 + t]? = some u := by
  induction l generalizing j with
  | nil => simp at hx
  | cons y l ih =>
    rw [List.flatMap_cons]
    cases j with
    | zero =>
      simp at hx
      subst hx
      have ht := (List.getElem?_eq_some_iff.1 hu).1
      rw [Nat.zero_mul, Nat.zero_add, List.getElem?_append_left ht]
      exact hu
    | succ j =>
      have hy : y.cells.length = 4 := rfl
      rw [List.getElem?_append_right (by omega), hy, show (j + 1) * 4 + t - 4 = j * 4 + t by omega]
      exact ih j (by simpa using hx)
set_option maxRecDepth 100000 in
set_option maxHeartbeats 4000000 in
theorem armed_spec (n : Int) (hn : 0 ≤ n) (hn2 : n < 256) (v vk : Value) (l : List Req) (ks : List Int) (R : SP) (w : World) (h : Sat w R) (hq : ∀ a ∈ l, a.In R) (hr : ∀ w', Sat w' R → RdC w' v l.length (l.flatMap Req.cells)) (hk : RdInts R vk ks) :
    Calls Try.prog 4 #[.int .u8 n, v, vk] w (Done w (.bool true) R) := by
  obtain ⟨a, c, rfl, hlm⟩ : ∃ a c, v = .slice a l.length c ∧ l.length ≤ maxLen := by obtain ⟨a, c, h, h1, h2, _⟩ := hr w h; exact ⟨a, c, h, by omega⟩
  unfold maxLen at hlm
  have hal := alive_spec R w h
  go_enter Try.func4, Try.ntmps4
  go_wp2_with (go_at_call 13; refine hal.mono ?_; rintro e w1 ⟨rfl, hS1, hF1⟩; have hnew := new_spec 32 (by decide) (by decide) R w1 hS1)
  clear hal
  by_cases hl : 100 < l.length
  · have hl' : (l.length : Int) > 100 := by omega
    clear hl
    go_wp2_with (go_at_call 14; refine hnew.mono ?_; rintro e w2 ⟨p, rfl, hS2, hF2⟩)
    go_ret
    exact Done.mk rfl hS2.right (hF1.trans hF2)
  have hl' : ¬ (l.length : Int) > 100 := by omega
  go_wp2_with (go_at_call 14; refine hnew.mono ?_; rintro e w2 ⟨p, rfl, hS2, hF2⟩)
  obtain ⟨m, hm, hm1, hm2⟩ : ∃ m : Nat, n % 100 + 1 = (m : Int) ∧ 1 ≤ m ∧ m ≤ 100 := ⟨(n % 100 + 1).toNat, by omega, by omega, by omega⟩
  rw [hm]
  have harm := arm_spec p (DD.new 32) m (by omega) R w2 hS2
  have hI0 : ArmI m ((DD.new 32).arm m) 0 := ⟨rfl, .inl ⟨rfl, rfl, by simp [DD.arm, DD.new], by simpa [DD.arm, DD.new] using hm1⟩⟩
  have hw0 : ((DD.new 32).arm m).wait.length = 0 := rfl
  generalize (DD.new 32).arm m = D0 at harm hI0 hw0
  clear hnew hm hn hn2 hl
  refine harm.mono ?_
  rintro e w3 ⟨rfl, hS3, hF3⟩
  clear harm
  go_wp2
  go_loopw [40, 10] (fun i dv wr => ∃ (j d : Nat) (D : DD), j ≤ l.length ∧ i = .int .i64 j ∧ dv = .int .i64 d ∧ ArmI m D d ∧ D.wait.length ≤ j ∧ Sat wr (diskS p D ^ R) ∧ Flow w wr) (fun i _ _ => l.length - (intOf i).toNat)
  case atStart => exact ⟨0, 0, D0, Nat.zero_le _, rfl, rfl, hI0, by omega, hS3, ((hF1.trans hF2).trans hF3)⟩
  case round =>
    clear hS1 hS2 hS3 hF1 hF2 hF3 hI0 hw0 D0
    obtain ⟨j, d, D, hj, rfl, rfl, hI, hwl, hS, hF⟩ := hrel
    by_cases hlt : j < l.length
    · obtain ⟨x, hx⟩ : ∃ x, l[j]? = some x := ⟨_, List.getElem?_eq_getElem hlt⟩
      obtain ⟨⟨_, wa⟩, hb, hks⟩ := hq x (List.mem_of_getElem? hx)
      obtain ⟨kd, at', vb, vk', bs, kp⟩ := x
      simp only at wa hb hks
      obtain ⟨ab, cb, rfl⟩ : ∃ a c, vb = .slice a bs.length c := by obtain ⟨a, c, h, _⟩ := hb wr hS.right; exact ⟨a, c, h⟩
      obtain ⟨ak, ck, rfl⟩ : ∃ a c, vk' = .slice a kp.length c := by obtain ⟨a, c, h, _⟩ := hks wr hS.right; exact ⟨a, c, h⟩
      obtain ⟨_, _, he, _, _, hcell⟩ := hr wr hS.right
      cases he
      obtain ⟨g, off, rfl, hcg⟩ := hcell (by omega)
      have hix := index_sl (P := Try.prog) Try.underlying37 call_info g off l.length c j hlt wr
      have hld := load_rd (P := Try.prog) (w := wr) (p := g) (off := off + j * 4) [.int .i64 kd, .int .i64 at', .slice ab bs.length cb, .slice ak kp.length ck] call_info Try.underlying40 rfl rfl (fun t u hu => by
        rw [Nat.add_assoc]
        exact hcg _ _ (req_at l j _ hx t u hu))
      obtain ⟨b12, w4, hr4, hS4, hF4⟩ := alloc_sl (P := Try.prog) call_info hS
      obtain ⟨w5, hr5, hS5, hF5⟩ := store_sl (P := Try.prog) (off := 0) [.int .i64 kd, .int .i64 at', .slice ab bs.length cb, .slice ak kp.length ck] call_info rfl (by
        intro u hu
        simp only [List.mem_cons, List.not_mem_nil, or_false] at hu
        rcases hu with rfl | rfl | rfl | rfl <;> rfl) (by show (4 : Nat) ≤ 4; exact Nat.le_refl 4) hS4
      change Sat w5 (own b12 (.cells #[.int .i64 kd, .int .i64 at', .slice ab bs.length cb, .slice ak kp.length ck] 40 (0, 0)) ^ diskS p D ^ R) at hS5
      have hc12 := hS5.cell
      have hF6 := (hF.trans hF4).trans hF5
      clear hcg hcell hS4 hF4 hF5
      by_cases hb64 : 64 < bs.length
      · have hb64' : (bs.length : Int) > 64 := by omega
        clear hb64
        go_wp2_with (first | (refine arm_indexAddr rfl rfl rfl rfl hix ?_) | (refine arm_load rfl rfl rfl hld ?_) | (refine arm_alloc rfl rfl hr4 ?_) | (refine arm_store rfl rfl rfl rfl hr5 ?_))
        go_roundw
        case rel => exact ⟨j + 1, d, D, by omega, by go_num, rfl, hI, by omega, hS5.right, hF6⟩
        case measure => simp [intOf]; omega
      · have hb64' : ¬ (bs.length : Int) > 64 := by omega
        go_wp2_with (first | (refine arm_indexAddr rfl rfl rfl rfl hix ?_) | (refine arm_load rfl rfl rfl hld ?_) | (refine arm_alloc rfl rfl hr4 ?_) | (refine arm_store rfl rfl rfl rfl hr5 ?_))
        rw [and31]
        obtain ⟨i, hi, hi2⟩ : ∃ i : Nat, at' % 32 = (i : Int) ∧ i < 32 := ⟨(at' % 32).toNat, by omega, by omega⟩
        rw [hi]
        have hops := hI.ops
        have hwr := write_spec p D i (.slice ab bs.length cb) bs (own b12 (.cells #[.int .i64 kd, .int .i64 at', .slice ab bs.length cb, .slice ak kp.length ck] 40 (0, 0)) ^ R) w5 (hS5.as (by ac_rfl)) (fun w h => hb w h.right) (by omega) (by omega)
        obtain ⟨hcase, hwl1⟩ := arm_write hI i hi2 bs (by omega)
        generalize D.write i bs = Y at hwr hcase hwl1
        obtain ⟨D1, r⟩ := Y
        simp only at hcase hwl1 hwr
        have hd100 : (d : Int) ≤ 100 := by
          obtain ⟨_, ⟨_, h2, h3, _⟩ | ⟨_, _, h3⟩⟩ := hI <;> omega
        have drop : ∀ (D' : DD) (w' : World), Sat w' (diskS p D' ^ own b12 (.cells #[.int .i64 kd, .int .i64 at', .slice ab bs.length cb, .slice ak kp.length ck] 40 (0, 0)) ^ R) → Sat w' (diskS p D' ^ R) :=
          fun D' w' hh => (hh.as (B := own b12 (.cells #[.int .i64 kd, .int .i64 at', .slice ab bs.length cb, .slice ak kp.length ck] 40 (0, 0)) ^ diskS p D' ^ R) (by ac_rfl)).right
        have Drop := Lib.hid drop
        clear drop
        clear hix hld hr4 hr5 hS5 hS hc12 hi hb hks hI hops hF
        refine hwr.mono ?_
        rintro e w6 ⟨rfl, hS6, hF7⟩
        have hc12 := hS6.right.cell
        have hF8 := hF6.trans hF7
        clear hwr hF6 hF7
        obtain ⟨rfl, hd1, hI1⟩ | ⟨rfl, hd1, hI1⟩ := hcase
        · by_cases hk3 : kd = 3
          · have hk3' : (kd == 3) = true := by simpa using hk3
            have hops := hI1.ops
            have hfl := flush_spec p D1 _ w6 hS6 (by omega) (by omega)
            obtain ⟨hcase2, hwl2⟩ := arm_flush hI1
            generalize D1.flush = Y at hfl hcase2 hwl2
            obtain ⟨D2, r2⟩ := Y
            simp only at hcase2 hwl2 hfl
            obtain ⟨rfl, hd2, hI2⟩ | ⟨rfl, hd2, hI2⟩ := hcase2
            · have HI := Lib.hid hI2
              have HD := Lib.hid hd2
              clear hk3 hd1 hI1 hops hI2 hd2
              go_wp2_with (first | (refine arm_max rfl rfl rfl rfl ?_) | (go_at_call 16; refine hfl.mono ?_; rintro e w7 ⟨rfl, hS7, hF9⟩; have hdn := down_spec p D2 _ w7 hS7; rw [HD.out] at hdn) | (go_at_call 20; refine hdn.mono ?_; rintro e w' ⟨rfl, rfl⟩))
              go_roundw
              case rel => exact ⟨j + 1, d + 1 + 1, D2, by omega, by go_num, by go_num, HI.out, by omega, Drop.out _ _ hS7, hF8.trans hF9⟩
              case measure => simp [intOf]; omega
            · have HI := Lib.hid (hI2.less hd2 (d' := d) (by omega))
              have HD := Lib.hid hd2
              clear hk3 hd1 hI1 hops hI2 hd2
              go_wp2_with (first | (refine arm_max rfl rfl rfl rfl ?_) | (go_at_call 16; refine hfl.mono ?_; rintro e w7 ⟨rfl, hS7, hF9⟩; have hdn := down_spec p D2 _ w7 hS7; rw [HD.out] at hdn) | (go_at_call 20; refine hdn.mono ?_; rintro e w' ⟨rfl, rfl⟩))
              go_roundw
              case rel => exact ⟨j + 1, d, D2, by omega, by go_num, by go_num, HI.out, by omega, Drop.out _ _ hS7, hF8.trans hF9⟩
              case measure => simp [intOf]; omega
          · have hk3' : (kd == 3) = false := by simpa using hk3
            have hdn := down_spec p D1 _ w6 hS6
            rw [hd1] at hdn
            have HI := Lib.hid hI1
            clear hk3 hd1 hI1
            go_wp2_with (first | (refine arm_max rfl rfl rfl rfl ?_) | (go_at_call 20; refine hdn.mono ?_; rintro e w' ⟨rfl, rfl⟩))
            go_roundw
            case rel => exact ⟨j + 1, d + 1, D1, by omega, by go_num, by go_num, HI.out, by omega, Drop.out _ _ hS6, hF8⟩
            case measure => simp [intOf]; omega
        · by_cases hk3 : kd = 3
          · have hk3' : (kd == 3) = true := by simpa using hk3
            have hops := hI1.ops
            have hfl := flush_spec p D1 _ w6 hS6 (by omega) (by omega)
            rw [down_flush hd1] at hfl
            have HI := Lib.hid hI1
            have HD := Lib.hid hd1
            clear hk3 hd1 hI1 hops
            go_wp2_with (first | (refine arm_max rfl rfl rfl rfl ?_) | (go_at_call 16; refine hfl.mono ?_; rintro e w7 ⟨rfl, hS7, hF9⟩; have hdn := down_spec p D1 _ w7 hS7; rw [HD.out] at hdn) | (go_at_call 20; refine hdn.mono ?_; rintro e w' ⟨rfl, rfl⟩))
            go_roundw
            case rel => exact ⟨j + 1, d, D1, by omega, by go_num, by go_num, HI.out, by omega, Drop.out _ _ hS7, hF8.trans hF9⟩
            case measure => simp [intOf]; omega
          · have hk3' : (kd == 3) = false := by simpa using hk3
            have hdn := down_spec p D1 _ w6 hS6
            rw [hd1] at hdn
            have HI := Lib.hid hI1
            clear hk3 hd1 hI1
            go_wp2_with (first | (refine arm_max rfl rfl rfl rfl ?_) | (go_at_call 20; refine hdn.mono ?_; rintro e w' ⟨rfl, rfl⟩))
            go_roundw
            case rel => exact ⟨j + 1, d, D1, by omega, by go_num, by go_num, HI.out, by omega, Drop.out _ _ hS6, hF8⟩
            case measure => simp [intOf]; omega
    · have hge : ¬ (j : Int) < l.length := by omega
      obtain ⟨hn32, ⟨hd, hop, ha, h1⟩ | ⟨hd, hop, hle⟩⟩ := hI
      · have hdm : (d : Int) ≤ (m : Int) - 1 := by omega
        have hdn := down_spec p D R wr hS
        have hops := ops_spec p D R wr hS
        have hcr := crash_spec p D vk ks R wr hS hk (by omega)
        rw [hd] at hdn
        rw [hop] at hops
        have HF := Lib.hid (crash_flush hn32 ks)
        have HO : Hid (D.ops = d) := hop
        clear hd hop ha h1 hn32 hlt
        go_wp2_with (first | (go_at_call 20; refine hdn.mono ?_; rintro e w' ⟨rfl, rfl⟩) | (go_at_call 21; refine hops.mono ?_; rintro e w' ⟨rfl, rfl⟩) | (go_at_call 18; refine hcr.mono ?_; rintro e w8 ⟨rfl, hS8, hF8⟩))
        have hdn2 := down_spec p (D.crash ks) R w8 hS8
        rw [show (D.crash ks).down = false from rfl] at hdn2
        have hpe := pending_spec p (D.crash ks) R w8 hS8
        rw [show (D.crash ks).wait.length = 0 from rfl] at hpe
        have hfl := flush_spec p (D.crash ks) R w8 hS8 (by show D.ops < _; have := HO.out; omega) (by show 0 < _; decide)
        rw [HF.out] at hfl
        go_wp2_with (first | (go_at_call 20; refine hdn2.mono ?_; rintro e w' ⟨rfl, rfl⟩) | (go_at_call 22; refine hpe.mono ?_; rintro e w' ⟨rfl, rfl⟩) | (go_at_call 16; refine hfl.mono ?_; rintro e w9 ⟨rfl, hS9, hF9⟩))
        go_ret
        exact Done.mk rfl hS9.right ((hF.trans hF8).trans hF9)
      · have hdm : (d : Int) ≤ (m : Int) - 1 := by omega
        have hoq : ((D.ops : Int) != (m : Int) - 1) = false := by
          simp
          omega
        have hdn := down_spec p D R wr hS
        have hops := ops_spec p D R wr hS
        have hrd := read_at p D 0 R wr hS (by omega) (down_read hd 0)
        have hfl0 : ∀ (X : SP) (w6 : World), Sat w6 (diskS p D ^ X) → Calls Try.prog 16 #[ptr p] w6 (Done w6 (.int .i64 14) (diskS p D ^ X)) := by
          intro X w6 hS6
          have := flush_spec p D X w6 hS6 (by omega) (by omega)
          rwa [down_flush hd] at this
        have hwr0 : ∀ (X : SP) (w6 : World), Sat w6 (diskS p D ^ X) → Calls Try.prog 15 #[ptr p, .int .i64 (-1), .slice none 0 0] w6 (Done w6 (.int .i64 14) (diskS p D ^ X)) := by
          intro X w6 hS6
          have := write_spec p D (-1) (.slice none 0 0) [] X w6 hS6 (fun w _ => ⟨none, 0, rfl, Nat.le_refl _, by unfold maxLen; omega, fun h => absurd h (Nat.lt_irrefl _)⟩) (by omega) (by omega)
          rwa [down_write hd] at this
        have hcr := fun (X : SP) (w6 : World) (hS6 : Sat w6 (diskS p D ^ X ^ R)) => crash_spec p D vk ks (X ^ R) w6 hS6 (fun w h => hk w h.right) (by omega)
        rw [hd] at hdn
        have HF := Lib.hid (crash_flush hn32 ks)
        have HO : Hid (D.ops + 1 = m ∧ m ≤ 100) := ⟨hop, hm2⟩
        clear hd hop hle hn32 hlt
        go_wp2_with (first | (go_at_call 20; refine hdn.mono ?_; rintro e w' ⟨rfl, rfl⟩) | (go_at_call 21; refine hops.mono ?_; rintro e w' ⟨rfl, rfl⟩) |
          (go_at_call 17; refine hrd.mono ?_; rintro e w5 ⟨s5, rfl, hS5, hF5⟩; have hm1' := hfl0 _ w5 (hS5.as (by ac_rfl : _ = diskS p D ^ (bytesS s5 [] ^ R)))) |
          (go_at_call 16; refine hm1'.mono ?_; rintro e w6 ⟨rfl, hS6, hF6⟩; have hm2' := hwr0 _ w6 hS6) |
          (go_at_call 15; refine hm2'.mono ?_; rintro e w7 ⟨rfl, hS7, hF7⟩; have hm3' := hcr _ w7 hS7) |
          (go_at_call 18; refine hm3'.mono ?_; rintro e w8 ⟨rfl, hS8, hF8⟩))
        have hdn2 := down_spec p (D.crash ks) (bytesS s5 [] ^ R) w8 hS8
        rw [show (D.crash ks).down = false from rfl] at hdn2
        have hpe := pending_spec p (D.crash ks) (bytesS s5 [] ^ R) w8 hS8
        rw [show (D.crash ks).wait.length = 0 from rfl] at hpe
        have hfl := flush_spec p (D.crash ks) (bytesS s5 [] ^ R) w8 hS8 (by show D.ops < _; have := HO.out; omega) (by show 0 < _; decide)
        rw [HF.out] at hfl
        go_wp2_with (first | (go_at_call 20; refine hdn2.mono ?_; rintro e w' ⟨rfl, rfl⟩) | (go_at_call 22; refine hpe.mono ?_; rintro e w' ⟨rfl, rfl⟩) | (go_at_call 16; refine hfl.mono ?_; rintro e w9 ⟨rfl, hS9, hF9⟩))
        go_ret
        exact Done.mk rfl hS9.right.right (((((hF.trans hF5).trans hF6).trans hF7).trans hF8).trans hF9)
end Go.Proofs.Ytehpdpdmjflddaa
