/-
  The walk of DiskFlushed.
-/
import Derived.Test.YtehpdpdmjflddaaPuts
import Derived.Test.YtehpdpdmjflddaaSame
namespace Go.Proofs.Ytehpdpdmjflddaa
open Go.RowKit

theorem tear_other : ∀ (l : List (Nat × List UInt8)) (ks : List Int) (f : Nat → List UInt8) (s : Nat), (∀ x ∈ l, x.1 ≠ s) → tear f l ks s = f s
  | [], _, _, _, _ => rfl
  | _ :: _, [], _, _, _ => rfl
  | x :: l, q :: ks, f, s, h => by
    show tear (tear1 f x q) l ks s = f s
    rw [tear_other l ks _ s fun y hy => h y (List.mem_cons_of_mem _ hy)]
    unfold tear1
    rw [if_neg (fun e => h x (List.mem_cons_self ..) e.symm)]
/-- Whether one of these writes goes to sector s. -/
def again (s : Nat) (l : List Req) : Bool := l.any fun x => decide (x.bytes.length ≤ 64) && decide (x.at' % 32 = (s : Int))
theorem again_not {s : Nat} {l : List Req} (h : again s l = false) : ∀ x ∈ putW l, x.1 ≠ s := by
  intro x hx e
  unfold putW at hx
  obtain ⟨y, hy, rfl⟩ := List.mem_map.1 hx
  obtain ⟨hy1, hy2⟩ := List.mem_filter.1 hy
  have h2 := List.any_eq_false.1 h y hy1
  simp at hy2 h2
  exact h2 hy2 (by simp at e; omega)
theorem again_snoc (s : Nat) (l : List Req) (x : Req) : again s (l ++ [x]) = (again s l || (decide (x.bytes.length ≤ 64) && decide (x.at' % 32 = (s : Int)))) := by
  simp [again]
theorem image_at (f : Nat → List UInt8) (hf : ∀ k, (f k).length = 64) (s : Nat) : ∀ n : Nat, s < n → (((List.range n).flatMap f).drop (s * 64)).take 64 = f s
  | 0, h => absurd h (Nat.not_lt_zero _)
  | n + 1, h => by
    rw [List.range_succ, List.flatMap_append]
    have hl := image_part f hf n
    by_cases he : s = n
    · subst he
      rw [List.drop_append, List.drop_of_length_le (by omega), hl, Nat.sub_self]
      simp
      exact List.take_of_length_le (by rw [hf]; exact Nat.le_refl _)
    · have hs : s < n := by omega
      rw [List.drop_append_of_le_length (by omega), List.take_append_of_le_length (by rw [List.length_drop, hl]; omega)]
      exact image_at f hf s n hs
/-- A part of a readable slice. -/
theorem Rd.part {w : World} {g off c n : Nat} {bs : List UInt8} (h : Rd w (.slice (some ⟨g, off, none⟩) n c) bs) (lo k : Nat) (hk : lo + k ≤ n) (c' : Nat) (hc' : k ≤ c' ∧ c' ≤ maxLen) :
    Rd w (.slice (some ⟨g, off + lo, none⟩) k c') ((bs.drop lo).take k) := by
  obtain ⟨a, c1, e, _, _, h1⟩ := h
  cases e
  have hl : ((bs.drop lo).take k).length = k := by simp; omega
  refine ⟨some ⟨g, off + lo, none⟩, c', by rw [hl], by rw [hl]; exact hc'.1, hc'.2, fun h0 => ⟨g, off + lo, rfl, fun j u hu => ?_⟩⟩
  obtain ⟨b, o, e, h2⟩ := h1 (by omega)
  cases e
  have hj : j < k := by
    have := (List.getElem?_eq_some_iff.1 hu).1
    simp at this
    omega
  rw [Nat.add_assoc]
  refine h2 (lo + j) u ?_
  rw [List.getElem?_map, List.getElem?_take, if_pos hj, List.getElem?_drop] at hu
  rw [List.getElem?_map]
  exact hu
theorem sliceSl_sl {P : Program} {T e : TypeId} {z : Value} {n b : Nat} (hT : P.underlying T = some (.slice e)) (hi : (P.info? e).map (fun i => (i.zero, i.size, i.bytes)) = some (some z, n, b)) (g off len c lo hi' : Nat) (l h : Int) (h1 : l = lo) (h2 : h = hi') (h3 : lo < hi') (h4 : hi' ≤ c) (w : World) :
    (Instr.sliceAt T (.slice (some ⟨g, off, none⟩) len c) (some (.int .i64 l)) (some (.int .i64 h)) none).run P w = .ok (.slice (some ⟨g, off + lo * n, none⟩) (hi' - lo) (c - lo)) w := by
  subst h1 h2
  have a0 : (0 : Int) ≤ lo ∧ (lo : Int) ≤ hi' := by omega
  have a1 : (0 : Int) ≤ hi' ∧ (hi' : Int) ≤ c := by omega
  unfold Instr.sliceAt
  rw [run_of (run_underlying hT w)]
  show (Instr.slice _ _ _ _ _).run P w = _
  unfold Instr.slice
  rw [run_of (run_underlying hT w)]
  simp only
  have hb : (Instr.sliceBounds true len c (some (.int .i64 (lo : Int))) (some (.int .i64 (hi' : Int))) none).run P w = .ok (lo, hi', c) w := by
    simp [Instr.sliceBounds, Instr.sliceBound, asIntOf, a0, a1, Nat.le_of_lt h3, h4]
  rw [run_of hb]
  simp only
  rw [run_of (info_zero hi w).2]
  have hne : c ≠ lo := by omega
  simp [Addr.add, hne]
theorem Req.In.more {R X : SP} {x : Req} (h : x.In R) : x.In (X ^ R) := ⟨h.1, fun w hw => h.2.1 w hw.right, fun w hw => h.2.2 w hw.right⟩
set_option maxRecDepth 100000 in
set_option maxHeartbeats 4000000 in
theorem flushed_spec (v1 v2 vk : Value) (l1 l2 : List Req) (ks : List Int) (R : SP) (w : World) (h : Sat w R) (hq1 : ∀ a ∈ l1, a.In R) (hr1 : ∀ w', Sat w' R → RdC w' v1 l1.length (l1.flatMap Req.cells))
    (hq2 : ∀ a ∈ l2, a.In R) (hr2 : ∀ w', Sat w' R → RdC w' v2 l2.length (l2.flatMap Req.cells)) (hk : RdInts R vk ks) :
    Calls Try.prog 5 #[v1, v2, vk] w (Done w (.bool true) R) := by
  obtain ⟨a2, c2, rfl, hlm⟩ : ∃ a c, v2 = .slice a l2.length c ∧ l2.length ≤ maxLen := by obtain ⟨a, c, h, h1, h2, _⟩ := hr2 w h; exact ⟨a, c, h, by omega⟩
  unfold maxLen at hlm
  have hal := alive_spec R w h
  go_enter Try.func5, Try.ntmps5
  go_wp2_with (first | (go_at_call 13; refine hal.mono ?_; rintro e w1 ⟨rfl, hS1, hF1⟩; have hnew := new_spec 32 (by decide) (by decide) R w1 hS1) |
    (go_at_call 14; refine hnew.mono ?_; rintro e w2 ⟨p, rfl, hS2, hF2⟩; have hpu := puts_spec p (DD.new 32) v1 l1 R w2 hS2 hq1 hr1 rfl rfl rfl (by decide) (by decide)) |
    (go_at_call 23; refine hpu.mono ?_; rintro e w3 ⟨o3, ho3, rfl, hS3, hF3⟩))
  clear hal hnew hpu
  have hwl := putW_length (l1.take 100)
  rw [List.length_take] at hwl
  have hfl := flush_spec p ((DD.new 32).puts (l1.take 100) o3) R w3 hS3 (by show o3 < _; have : o3 ≤ 0 + 100 := ho3; omega) (by show ([] ++ putW (l1.take 100)).length < _; rw [List.nil_append]; omega)
  obtain ⟨D2, e2, hn2, hd2, ha2, ho2, hw2⟩ : ∃ D2, ((DD.new 32).puts (l1.take 100) o3).flush = (D2, 0) ∧ D2.n = 32 ∧ D2.down = false ∧ D2.armed = 0 ∧ D2.ops ≤ 200 ∧ D2.wait = [] := by
    refine ⟨⟨32, commit (fun _ => zeros 64) ([] ++ putW (l1.take 100)), [], 0, false, o3 + 1⟩, ?_, rfl, rfl, rfl, by show o3 + 1 ≤ 200; have : o3 ≤ 0 + 100 := ho3; omega, rfl⟩
    simp [DD.flush, DD.ask, DD.puts, DD.new, DD.done]
  rw [e2] at hfl
  clear e2 hwl
  go_wp2_with (first | (go_at_call 16; refine hfl.mono ?_; rintro e w4 ⟨rfl, hS4, hF4⟩; have him := image_spec p D2 R w4 hS4) |
    (go_at_call 24; refine him.mono ?_; rintro e w5 ⟨s5, rfl, hS5, hF5⟩))
  have ok2 : D2.ok := by obtain ⟨_, _, ok, _⟩ := hS4.disk; exact ok
  have il2 : D2.image.length = 2048 := by
    have := image_part D2.sure ok2.sure 32
    unfold DD.image
    rw [hn2]
    exact this
  obtain ⟨g5, o5, c5, rfl⟩ : ∃ g off c, s5 = .slice (some ⟨g, off, none⟩) 2048 c := by
    obtain ⟨g, off, c, e, _⟩ := hS5.rdBytes.opens (by omega)
    rw [il2] at e
    exact ⟨g, off, c, e⟩
  have hpu2 := puts_spec p D2 (.slice a2 l2.length c2) l2 (bytesS (.slice (some ⟨g5, o5, none⟩) 2048 c5) D2.image ^ R) w5 (hS5.as (by ac_rfl)) (fun a ha => (hq2 a ha).more) (fun w h => hr2 w h.right) hn2 hd2 ha2 (by omega) (by rw [hw2]; decide)
  clear hfl him
  go_wp2_with (go_at_call 23; refine hpu2.mono ?_; rintro e w6 ⟨o6, ho6, rfl, hS6, hF6⟩)
  have hwl := putW_length (l2.take 100)
  rw [List.length_take] at hwl
  have hcr := crash_spec p (D2.puts (l2.take 100) o6) vk ks (bytesS (.slice (some ⟨g5, o5, none⟩) 2048 c5) D2.image ^ R) w6 hS6 (fun w h => hk w h.right) (by show (D2.wait ++ putW (l2.take 100)).length < _; rw [hw2, List.nil_append]; omega)
  obtain ⟨D4, e4⟩ : ∃ D4, D4 = (D2.puts (l2.take 100) o6).crash ks := ⟨_, rfl⟩
  rw [← e4] at hcr
  have hn4 : D4.n = 32 := by rw [e4]; exact hn2
  have hsame : ∀ s, again s (l2.take 100) = false → D4.sure s = D2.sure s := by
    intro s hs
    rw [e4]
    show tear D2.sure (D2.wait ++ putW (l2.take 100)) ks s = D2.sure s
    rw [hw2, List.nil_append]
    exact tear_other _ _ _ _ (again_not hs)
  clear hpu2 e4 hwl
  go_wp2_with (first | (go_at_call 18; refine hcr.mono ?_; rintro e w7 ⟨rfl, hS7, hF7⟩; have him := image_spec p D4 _ w7 hS7) |
    (go_at_call 24; refine him.mono ?_; rintro e w8 ⟨s8, rfl, hS8, hF8⟩))
  have ok4 : D4.ok := by obtain ⟨_, _, ok, _⟩ := hS7.disk; exact ok
  have il4 : D4.image.length = 2048 := by
    have := image_part D4.sure ok4.sure 32
    unfold DD.image
    rw [hn4]
    exact this
  obtain ⟨g8, o8, c8, rfl⟩ : ∃ g off c, s8 = .slice (some ⟨g, off, none⟩) 2048 c := by
    obtain ⟨g, off, c, e, _⟩ := hS8.rdBytes.opens (by omega)
    rw [il4] at e
    exact ⟨g, off, c, e⟩
  have hpart : ∀ s, s < 32 → again s (l2.take 100) = false → (D4.image.drop (s * 64)).take 64 = (D2.image.drop (s * 64)).take 64 := by
    intro s hs ha
    unfold DD.image
    rw [hn2, hn4, image_at _ ok2.sure _ _ hs, image_at _ ok4.sure _ _ hs, hsame s ha]
  have hF0 := (((((((hF1.trans hF2).trans hF3).trans hF4).trans hF5).trans hF6).trans hF7).trans hF8)
  have hS0 := (hS8.as (B := diskS p D4 ^ bytesS (.slice (some ⟨g8, o8, none⟩) 2048 c8) D4.image ^ bytesS (.slice (some ⟨g5, o5, none⟩) 2048 c5) D2.image ^ R) (by ac_rfl)).right
  generalize D4.image = im4 at hS0 il4 hpart
  generalize D2.image = im2 at hS0 il2 hpart
  clear hcr him hsame hn4 hn2 ok4 ok2 hS8 hS7 hS6 hS5 hS4 hS3 hS2 hS1 hF1 hF2 hF3 hF4 hF5 hF6 hF7 hF8 hd2 ha2 ho2 hw2 ho6 ho3 hq1 hr1
  go_loopw [11] (fun i wr => ∃ s : Nat, s ≤ 32 ∧ i = .int .i64 s ∧ Sat wr (bytesS (.slice (some ⟨g8, o8, none⟩) 2048 c8) im4 ^ bytesS (.slice (some ⟨g5, o5, none⟩) 2048 c5) im2 ^ R) ∧ Flow w wr) (fun i _ => 32 - (intOf i).toNat)
  case atStart => exact ⟨0, Nat.zero_le _, rfl, hS0, hF0⟩
  case round =>
    clear hS0 hF0
    obtain ⟨s, hs, rfl, hS, hF⟩ := hrel
    by_cases hlt : s < 32
    · have hlt' : (s : Int) < 32 := by omega
      go_wp2
      go_loopw [13, 12] (fun i b wi => ∃ (j : Nat) (bb : Bool), j ≤ l2.length ∧ j ≤ 100 ∧ i = .int .i64 j ∧ bb = again s (l2.take j) ∧ b = .bool bb ∧ wi = wr) (fun i _ _ => 100 - (intOf i).toNat)
      case atStart => exact ⟨0, false, Nat.zero_le _, Nat.zero_le _, rfl, rfl, rfl, rfl⟩
      case round =>
        obtain ⟨j, bb, hj, hj2, rfl, hbb, rfl, rfl⟩ := hrel
        by_cases hin : j < l2.length ∧ j < 100
        · obtain ⟨hl1, hl2⟩ := hin
          have hl1' : (j : Int) < l2.length := by omega
          have hl2' : (j : Int) < 100 := by omega
          obtain ⟨x, hx⟩ : ∃ x, l2[j]? = some x := ⟨_, List.getElem?_eq_getElem hl1⟩
          have htk : l2.take (j + 1) = l2.take j ++ [x] := by rw [List.take_add_one, hx]; rfl
          have hsn := again_snoc s (l2.take j) x
          rw [← htk, ← hbb] at hsn
          obtain ⟨_, hb, _⟩ := hq2 x (List.mem_of_getElem? hx)
          obtain ⟨kd, at', vb, vk', bs, kp⟩ := x
          simp only at hb hsn
          obtain ⟨ab, cb, rfl⟩ : ∃ a c, vb = .slice a bs.length c := by obtain ⟨a, c, h, _⟩ := hb _ hS.right.right; exact ⟨a, c, h⟩
          obtain ⟨_, _, he, _, _, hcell⟩ := hr2 _ hS.right.right
          cases he
          obtain ⟨g, off, rfl, hcg⟩ := hcell (by omega)
          have hix := fun w => index_sl (P := Try.prog) Try.underlying37 call_info g off l2.length c2 j hl1 w
          have hc1 : wr.cell? ⟨g, off + j * 4 + 1, none⟩ = some (.int .i64 at') := by
            rw [Nat.add_assoc]
            exact hcg _ _ (req_at l2 j _ hx 1 _ rfl)
          have hc2 : wr.cell? ⟨g, off + j * 4 + 2, none⟩ = some (.slice ab bs.length cb) := by
            rw [Nat.add_assoc]
            exact hcg _ _ (req_at l2 j _ hx 2 _ rfl)
          have HS := Lib.hid hS
          have HP := Lib.hid hpart
          have HN := Lib.hid hsn
          have hixr := hix wr
          clear hcg hcell hS hpart hsn hbb hix htk hx hb hq2 hr2 hk il2 il4 hlm
          cases bb
          · by_cases h1 : bs.length ≤ 64
            · have h1' : (bs.length : Int) ≤ 64 := by omega
              by_cases h2 : at' % 32 = (s : Int)
              · have hbit : (bits .and .i64 at' 31 == (s : Int)) = true := by rw [and31]; simpa using h2
                have HN2 : Hid (true = again s (l2.take (j + 1))) := by
                  have := HN.out
                  simp [h1, h2] at this
                  exact this.symm
                clear h1 h2 HN
                go_wp2_with (refine arm_indexAddr rfl rfl rfl rfl hixr ?_)
                go_roundw
                case rel => exact ⟨j + 1, true, by omega, by omega, by go_num, HN2.out, rfl, trivial⟩
                case measure => simp [intOf]; omega
              · have hbit : (bits .and .i64 at' 31 == (s : Int)) = false := by rw [and31]; simpa using h2
                have HN2 : Hid (false = again s (l2.take (j + 1))) := by
                  have := HN.out
                  simp [h1, h2] at this
                  exact this.symm
                clear h1 h2 HN
                go_wp2_with (refine arm_indexAddr rfl rfl rfl rfl hixr ?_)
                go_roundw
                case rel => exact ⟨j + 1, false, by omega, by omega, by go_num, HN2.out, rfl, trivial⟩
                case measure => simp [intOf]; omega
            · have h1' : ¬ (bs.length : Int) ≤ 64 := by omega
              have HN2 : Hid (false = again s (l2.take (j + 1))) := by
                have := HN.out
                simp [h1] at this
                exact this.symm
              clear h1 HN
              go_wp2_with (refine arm_indexAddr rfl rfl rfl rfl hixr ?_)
              go_roundw
              case rel => exact ⟨j + 1, false, by omega, by omega, by go_num, HN2.out, rfl, trivial⟩
              case measure => simp [intOf]; omega
          · have HN2 : Hid (true = again s (l2.take (j + 1))) := by
              have := HN.out
              simp at this
              exact this.symm
            clear hc1 HN
            go_wp2_with (refine arm_indexAddr rfl rfl rfl rfl hixr ?_)
            go_roundw
            case rel => exact ⟨j + 1, true, by omega, by omega, by go_num, HN2.out, rfl, trivial⟩
            case measure => simp [intOf]; omega
        · have hfin : bb = again s (l2.take 100) := by
            rw [hbb]
            by_cases hj3 : j = 100
            · rw [hj3]
            · rw [List.take_of_length_le (by omega), List.take_of_length_le (by omega)]
          have hpt := hpart s hlt
          rw [← hfin] at hpt
          have hS1 := hS.drew
          have hsm : bb = false → Calls Try.prog 25 #[.slice (some ⟨g8, o8 + s * 64, none⟩) 64 (c8 - s * 64), .slice (some ⟨g5, o5 + s * 64, none⟩) 64 (c5 - s * 64)] wr.drew (Same wr.drew (.bool true)) := by
            intro hb
            have r8 := hS1.rdBytes
            have r5 := hS1.right.rdBytes
            obtain ⟨_, _, e8, q8, m8, _⟩ := r8
            obtain ⟨_, _, e5, q5, m5, _⟩ := r5
            rw [il4] at e8 q8
            rw [il2] at e5 q5
            cases e8
            cases e5
            have := same_spec _ _ _ _ wr.drew ((hS1.rdBytes).part (s * 64) 64 (by omega) (c8 - s * 64) ⟨by omega, by omega⟩) ((hS1.right.rdBytes).part (s * 64) 64 (by omega) (c5 - s * 64) ⟨by omega, by omega⟩)
            rw [hpt hb] at this
            simpa using this
          have hcap : 2048 ≤ c8 ∧ 2048 ≤ c5 := by
            obtain ⟨_, _, e8, q8, _, _⟩ := hS1.rdBytes
            obtain ⟨_, _, e5, q5, _, _⟩ := hS1.right.rdBytes
            rw [il4] at e8 q8
            rw [il2] at e5 q5
            cases e8
            cases e5
            exact ⟨q8, q5⟩
          have hsl8 := sliceSl_sl (P := Try.prog) Try.underlying22 byte_info g8 o8 2048 c8 (s * 64) (s * 64 + 64) (64 * (s : Int)) (64 * (s : Int) + 64) (by omega) (by omega) (by omega) (by omega) wr.drew
          have hsl5 := sliceSl_sl (P := Try.prog) Try.underlying22 byte_info g5 o5 2048 c5 (s * 64) (s * 64 + 64) (64 * (s : Int)) (64 * (s : Int) + 64) (by omega) (by omega) (by omega) (by omega) wr.drew
          rw [Nat.mul_one, show s * 64 + 64 - s * 64 = 64 by omega] at hsl8 hsl5
          have HS := Lib.hid hS
          clear hS hS1 hpart hpt hfin hbb hq2 hr2 hk il2 il4
          by_cases hj3 : j < l2.length
          · have h1 : (j : Int) < l2.length := by omega
            have h2 : ¬ (j : Int) < 100 := by omega
            clear hin hj3
            go_wp2
            refine wp_free (by kernel_rfl) (by kernel_rfl) ?_
            cases bb
            · have hsm' := hsm rfl
              clear hsm
              go_wp2_with (first | (refine arm_slice rfl rfl rfl rfl rfl rfl hsl8 ?_) | (refine arm_slice rfl rfl rfl rfl rfl rfl hsl5 ?_) | (go_at_call 25; refine hsm'.mono ?_; rintro e w' ⟨rfl, rfl⟩))
              refine ⟨by rfl, ?_⟩
              go_wp2
              go_roundw
              case rel => exact ⟨s + 1, by omega, by go_num, HS.out.drew, hF.drew⟩
              case measure => simp [intOf]; omega
            · clear hsm
              go_wp2
              refine ⟨by rfl, ?_⟩
              go_wp2
              go_roundw
              case rel => exact ⟨s + 1, by omega, by go_num, HS.out.drew, hF.drew⟩
              case measure => simp [intOf]; omega
          · have h1 : ¬ (j : Int) < l2.length := by omega
            clear hin hj3
            go_wp2
            refine wp_free (by kernel_rfl) (by kernel_rfl) ?_
            cases bb
            · have hsm' := hsm rfl
              clear hsm
              go_wp2_with (first | (refine arm_slice rfl rfl rfl rfl rfl rfl hsl8 ?_) | (refine arm_slice rfl rfl rfl rfl rfl rfl hsl5 ?_) | (go_at_call 25; refine hsm'.mono ?_; rintro e w' ⟨rfl, rfl⟩))
              refine ⟨by rfl, ?_⟩
              go_wp2
              go_roundw
              case rel => exact ⟨s + 1, by omega, by go_num, HS.out.drew, hF.drew⟩
              case measure => simp [intOf]; omega
            · clear hsm
              go_wp2
              refine ⟨by rfl, ?_⟩
              go_wp2
              go_roundw
              case rel => exact ⟨s + 1, by omega, by go_num, HS.out.drew, hF.drew⟩
              case measure => simp [intOf]; omega
    · have hlt' : ¬ (s : Int) < 32 := by omega
      clear hlt
      go_wp2
      go_ret
      exact Done.mk rfl hS.right.right hF
end Go.Proofs.Ytehpdpdmjflddaa
