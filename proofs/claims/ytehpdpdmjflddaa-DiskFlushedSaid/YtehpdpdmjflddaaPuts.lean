/-
  law05's puts: some writes to a disk of 32 sectors.
-/
import Derived.Test.YtehpdpdmjflddaaArmed
import Derived.Test.YtehpdpdmjflddaaTorn
import Derived.Test.YtehpdpdmjflddaaDiskI
namespace Go.Proofs.Ytehpdpdmjflddaa
open Go.RowKit

def putW (l : List Req) : List (Nat × List UInt8) := (l.filter fun x => decide (x.bytes.length ≤ 64)).map fun x => ((x.at' % 32).toNat, sec x.bytes)
def DD.puts (D : DD) (l : List Req) (o : Nat) : DD := { D with wait := D.wait ++ putW l, armed := 0, ops := o }
theorem putW_snoc (l : List Req) (x : Req) : putW (l ++ [x]) = putW l ++ if x.bytes.length ≤ 64 then [((x.at' % 32).toNat, sec x.bytes)] else [] := by
  unfold putW
  rw [List.filter_append, List.map_append]
  congr 1
  by_cases h : x.bytes.length ≤ 64
  · simp [h]
  · simp [h]
theorem putW_length (l : List Req) : (putW l).length ≤ l.length := by
  unfold putW
  rw [List.length_map]
  exact List.length_filter_le _ _
set_option maxRecDepth 100000 in
set_option maxHeartbeats 2000000 in
theorem puts_spec (p : Nat) (D : DD) (v : Value) (l : List Req) (R : SP) (w : World) (h : Sat w (diskS p D ^ R)) (hq : ∀ a ∈ l, a.In R) (hr : ∀ w', Sat w' R → RdC w' v l.length (l.flatMap Req.cells))
    (hn : D.n = 32) (hd : D.down = false) (ha : D.armed = 0) (ho : D.ops ≤ 1000) (hw : D.wait.length ≤ 1000) :
    Calls Try.prog 23 #[ptr p, v] w fun e w' => ∃ o, o ≤ D.ops + 100 ∧ Done w (.bool true) (diskS p (D.puts (l.take 100) o) ^ R) e w' := by
  obtain ⟨a, c, rfl, hlm⟩ : ∃ a c, v = .slice a l.length c ∧ l.length ≤ maxLen := by obtain ⟨a, c, h, h1, h2, _⟩ := hr w h.right; exact ⟨a, c, h, by omega⟩
  unfold maxLen at hlm
  have hD0 : D.puts (l.take 0) D.ops = D := by
    cases D
    simp at ha
    simp [DD.puts, putW, ha]
  go_enter Try.func23, Try.ntmps23
  go_wp2
  go_loopw [5] (fun i wr => ∃ (j o : Nat), j ≤ l.length ∧ j ≤ 100 ∧ i = .int .i64 j ∧ o ≤ D.ops + j ∧ Sat wr (diskS p (D.puts (l.take j) o) ^ R) ∧ Flow w wr) (fun i _ => 100 - (intOf i).toNat)
  case atStart => exact ⟨0, D.ops, Nat.zero_le _, Nat.zero_le _, rfl, by omega, by rw [hD0]; exact h, Flow.refl w⟩
  case round =>
    clear hD0 h
    obtain ⟨j, o, hj, hj2, rfl, hoj, hS, hF⟩ := hrel
    by_cases hlt : j < l.length ∧ j < 100
    · obtain ⟨hl1, hl2⟩ := hlt
      have hl1' : (j : Int) < l.length := by omega
      have hl2' : (j : Int) < 100 := by omega
      obtain ⟨x, hx⟩ : ∃ x, l[j]? = some x := ⟨_, List.getElem?_eq_getElem hl1⟩
      have htk : l.take (j + 1) = l.take j ++ [x] := by rw [List.take_add_one, hx]; rfl
      have hsn := putW_snoc (l.take j) x
      rw [← htk] at hsn
      have hpl := putW_length (l.take j)
      rw [List.length_take] at hpl
      obtain ⟨⟨_, wa⟩, hb, hks⟩ := hq x (List.mem_of_getElem? hx)
      obtain ⟨kd, at', vb, vk', bs, kp⟩ := x
      simp only at wa hb hks hsn
      obtain ⟨ab, cb, rfl⟩ : ∃ a c, vb = .slice a bs.length c := by obtain ⟨a, c, h, _⟩ := hb wr hS.right; exact ⟨a, c, h⟩
      obtain ⟨_, _, he, _, _, hcell⟩ := hr wr.drew hS.drew.right
      cases he
      obtain ⟨g, off, rfl, hcg⟩ := hcell (by omega)
      have hix := index_sl (P := Try.prog) Try.underlying37 call_info g off l.length c j hl1 wr.drew
      have hc1 : wr.drew.cell? ⟨g, off + j * 4 + 1, none⟩ = some (.int .i64 at') := by
        rw [Nat.add_assoc]
        exact hcg _ _ (req_at l j _ hx 1 _ rfl)
      have hc2 : wr.drew.cell? ⟨g, off + j * 4 + 2, none⟩ = some (.slice ab bs.length cb) := by
        rw [Nat.add_assoc]
        exact hcg _ _ (req_at l j _ hx 2 _ rfl)
      clear hcg hcell hks
      by_cases hb64 : bs.length ≤ 64
      · obtain ⟨i, hi, hi2⟩ : ∃ i : Nat, at' % 32 = (i : Int) ∧ i < 32 := ⟨(at' % 32).toNat, by omega, by omega⟩
        have hwr := write_spec p (D.puts (l.take j) o) i (.slice ab bs.length cb) bs R wr.drew hS.drew hb (by show o < _; omega) (by show (D.wait ++ putW (l.take j)).length < _; rw [List.length_append]; omega)
        rw [write_ok (D.puts (l.take j) o) i bs hd (by show i < D.n; omega) hb64 rfl] at hwr
        have e2 : ({ D.puts (l.take j) o with wait := (D.puts (l.take j) o).wait ++ [(i, sec bs)], armed := 0, ops := (D.puts (l.take j) o).ops + 1 } : DD) = D.puts (l.take (j + 1)) (o + 1) := by
          rw [if_pos hb64, hi] at hsn
          simp [DD.puts, hsn]
        rw [e2, ← hi, ← and31] at hwr
        have HS := Lib.hid hS
        have hb64' : (bs.length : Int) ≤ 64 := by omega
        clear hS hsn e2 hb64 hpl htk hx hi hq hr
        go_wp2
        refine wp_free (by kernel_rfl) (by kernel_rfl) ?_
        go_wp2_with (first | (refine arm_indexAddr rfl rfl rfl rfl hix ?_) | (go_at_call 15; refine hwr.mono ?_; rintro e w6 ⟨rfl, hS6, hF7⟩))
        refine ⟨by rfl, ?_⟩
        go_wp2
        go_roundw
        case rel => exact ⟨j + 1, o + 1, by omega, by omega, by go_num, by omega, hS6, hF.drew.trans hF7⟩
        case measure => simp [intOf]; omega
      · rw [if_neg hb64, List.append_nil] at hsn
        have e2 : D.puts (l.take (j + 1)) o = D.puts (l.take j) o := by simp [DD.puts, hsn]
        have HS : Hid (Sat wr.drew (diskS p (D.puts (l.take (j + 1)) o) ^ R)) := by
          rw [e2]
          exact hS.drew
        have hb64' : ¬ (bs.length : Int) ≤ 64 := by omega
        clear hS hsn e2 hb64 hpl htk hx hq hr
        go_wp2
        refine wp_free (by kernel_rfl) (by kernel_rfl) ?_
        go_wp2_with (refine arm_indexAddr rfl rfl rfl rfl hix ?_)
        refine ⟨by rfl, ?_⟩
        go_wp2
        go_roundw
        case rel => exact ⟨j + 1, o, by omega, by omega, by go_num, by omega, HS.out, hF.drew⟩
        case measure => simp [intOf]; omega
    · have htk : l.take j = l.take 100 := by
        by_cases hj3 : j = 100
        · rw [hj3]
        · rw [List.take_of_length_le (by omega), List.take_of_length_le (by omega)]
      rw [htk] at hS
      have HS := Lib.hid hS
      clear hS hq hr htk
      by_cases hj3 : j < l.length
      · have h1 : (j : Int) < l.length := by omega
        have h2 : ¬ (j : Int) < 100 := by omega
        clear hlt hj3
        go_wp2
        go_ret
        exact ⟨o, by omega, Done.mk rfl HS.out hF⟩
      · have h1 : ¬ (j : Int) < l.length := by omega
        clear hlt hj3
        go_wp2
        go_ret
        exact ⟨o, by omega, Done.mk rfl HS.out hF⟩
end Go.Proofs.Ytehpdpdmjflddaa
