/-
  The reference's disk: what its calls come to, told by the same data as the program's.
-/
import Derived.Test.YtehpdpdmjflddaaB
import Derived.Test.YtehpdpdmjflddaaFR05
import Derived.Test.YtehpdpdmjflddaaDiskI
import Derived.Test.YtehpdpdmjflddaaDiskA
namespace Go.Proofs.Ytehpdpdmjflddaa
open Go.RowKit

abbrev sl64 (g : Nat) : Value := .slice (some ⟨g, 0, none⟩) 64 64
abbrev secS (g : Nat) (bs : List UInt8) : SP := row byteE (sl64 g) bs
theorem sector_spec {R : SP} {v : Value} {bs : List UInt8} (hb : Rds byteE R v bs) (hl : bs.length ≤ 64) :
    Spec Try.prog 47 #[v] R fun u => ex fun a : Nat => fact (u = sl64 a) ^ secS a (sec bs) ^ R := by
  refine Spec.mk fun w0 => t_shape hb fun a c hv _ _ => ?_
  subst hv
  refine Tri.use ?_ (F.hayloftref05_sector_ok a bs.length c _)
  unfold F.hayloftref05_sector
  refine t_makeN byteE 64 64 0 rfl rfl rfl (by decide) (by decide) (by decide) fun g => ?_
  refine rd ?_
  refine t_loop (fun k : Nat => [.int .i64 k]) (fun k => fact (k ≤ bs.length) ^ secS g (bs.take k ++ zeros (64 - k)) ^ R) (fun k => bs.length - k) 0 rfl (fun w h => sat_fact.2 ⟨Nat.zero_le _, h⟩) fun k => ?_
  refine t_fact fun hk => ?_
  repeat refine rd ?_
  refine t_brD (fun h => ?_) fun h => ?_
  · have hlt : k < bs.length := by omega
    refine t_ixld0 k hb.right rfl (List.getElem?_eq_getElem hlt) rfl ?_
    refine rd ?_
    refine t_ixst byteE k bs[k] rfl (by simp [zeros]; omega) rfl ?_
    refine tl64 (by omega) (by omega) ?_
    refine t_round (k + 1) (by simp) (by omega) fun w h => sat_fact.2 ⟨by omega, h.as ?_⟩
    have e : (bs.take k ++ zeros (64 - k)).set k bs[k] = bs.take (k + 1) ++ zeros (64 - (k + 1)) := by
      have e1 : 64 - k = (64 - (k + 1)) + 1 := by omega
      rw [List.set_append_right _ _ (by simp; omega), ← List.take_append_getElem hlt, e1]
      simp only [zeros, List.replicate_succ, List.length_take, Nat.min_eq_left (Nat.le_of_lt hlt), Nat.sub_self, List.set_cons_zero, List.append_assoc, List.singleton_append]
    rw [e]
  · have hk' : k = bs.length := by omega
    subst hk'
    refine t_post fun w h => sat_ex.2 ⟨g, sat_fact.2 ⟨rfl, h.as ?_⟩⟩
    rw [List.take_length, sec_short _ hl]

@[reducible] def slE : El Nat := ⟨22, 1, fun g => [sl64 g], fun _ => rfl, fun b u h => by simp at h; subst h; rfl, by decide⟩
@[reducible] def pnE : El (Nat × Nat) := ⟨96, 2, fun x => [.int .i64 x.1, sl64 x.2], fun _ => rfl, fun b u h => by simp at h; rcases h with rfl | rfl <;> rfl, by decide⟩
/-- Sectors, and where they lie. -/
abbrev secP (x : Nat × List UInt8) : SP := secS x.1 x.2
abbrev pndP (x : Nat × Nat × List UInt8) : SP := secS x.2.1 x.2.2
abbrev sectorsS (S : List (Nat × List UInt8)) : SP := bigS secP S
abbrev pendsS (W : List (Nat × Nat × List UInt8)) : SP := bigS pndP W
/-- The reference's disk at p. -/
def refS (p : Nat) (D : DD) : SP := ex fun x : (Option Addr × Nat) × (Option Addr × Nat) × List (Nat × List UInt8) × List (Nat × Nat × List UInt8) =>
  fact (D.ok ∧ x.2.2.1.map (·.2) = (List.range D.n).map D.sure ∧ x.2.2.2.map (fun y => (y.1, y.2.2)) = D.wait) ^
  blk p 55 [.slice x.1.1 x.2.2.1.length x.1.2, .slice x.2.1.1 x.2.2.2.length x.2.1.2, .int .i64 D.armed, .bool D.down, .int .i64 D.ops] ^
  row slE (.slice x.1.1 x.2.2.1.length x.1.2) (x.2.2.1.map (·.1)) ^ sectorsS x.2.2.1 ^ row pnE (.slice x.2.1.1 x.2.2.2.length x.2.1.2) (x.2.2.2.map fun y => (y.1, y.2.1)) ^ pendsS x.2.2.2
section
variable {p : Nat} {D : DD} {R : SP} {w0 : World} {X : WP}
theorem t_ref (k : ∀ sa sc wa wc S W, D.ok → S.map (·.2) = (List.range D.n).map D.sure → W.map (fun y => (y.1, y.2.2)) = D.wait →
    Tri (blk p 55 [.slice sa S.length sc, .slice wa W.length wc, .int .i64 D.armed, .bool D.down, .int .i64 D.ops] ^ row slE (.slice sa S.length sc) (S.map (·.1)) ^ sectorsS S ^ row pnE (.slice wa W.length wc) (W.map fun y => (y.1, y.2.1)) ^ pendsS W ^ R) w0 X) : Tri (refS p D ^ R) w0 X := by
  unfold refS
  refine t_exS fun x => ?_
  simp only [star_assoc]
  exact t_fact fun h => k _ _ _ _ _ _ h.1 h.2.1 h.2.2
theorem toRef {w : World} {D : DD} (sa : Option Addr) (sc : Nat) (wa : Option Addr) (wc : Nat) {S : List (Nat × List UInt8)} {W : List (Nat × Nat × List UInt8)} (ok : D.ok) (h1 : S.map (·.2) = (List.range D.n).map D.sure) (h2 : W.map (fun y => (y.1, y.2.2)) = D.wait)
    (h : Sat w (blk p 55 [.slice sa S.length sc, .slice wa W.length wc, .int .i64 D.armed, .bool D.down, .int .i64 D.ops] ^ row slE (.slice sa S.length sc) (S.map (·.1)) ^ sectorsS S ^ row pnE (.slice wa W.length wc) (W.map fun y => (y.1, y.2.1)) ^ pendsS W ^ R)) : Sat w (refS p D ^ R) := by
  unfold refS
  rw [ex_star, sat_ex]
  refine ⟨((sa, sc), (wa, wc), S, W), ?_⟩
  rw [star_assoc, sat_fact]
  exact ⟨⟨ok, h1, h2⟩, h.as (by simp only [star_assoc])⟩
theorem S_len {S : List (Nat × List UInt8)} (h : S.map (·.2) = (List.range D.n).map D.sure) : S.length = D.n := by
  have := congrArg List.length h
  simpa using this
theorem W_len {W : List (Nat × Nat × List UInt8)} (h : W.map (fun y => (y.1, y.2.2)) = D.wait) : W.length = D.wait.length := by
  have := congrArg List.length h
  simpa using this
theorem done_ok (h : D.ok) : D.done.1.ok := by
  have := h.armed
  unfold DD.done
  split
  · exact ⟨h.n, h.sure, h.wait, by show 0 < _; decide⟩
  · exact ⟨h.n, h.sure, h.wait, by show D.armed - 1 < _; omega⟩
theorem fails_spec (ho : D.ops < 9223372036854775807) : Spec Try.prog 48 #[ptr p] (refS p D ^ R) fun v => fact (v = .bool (!D.done.2)) ^ refS p D.done.1 ^ R := by
  refine Spec.mk fun w0 => t_ref fun sa sc wa wc S W ok hS hW => ?_
  have hd := done_ok ok
  have har := ok.armed
  refine Tri.use ?_ (F.hayloftref05_Disk_fails_ok _ _)
  unfold F.hayloftref05_Disk_fails
  repeat refine rd ?_
  refine t_brE (fun h => ?_) fun h => ?_
  · have e : D.done = ({ D with armed := 0, down := true }, false) := by unfold DD.done; rw [if_pos (by omega)]
    rw [e] at hd ⊢
    repeat refine rd ?_
    exact t_postV rfl fun w h => toRef sa sc wa wc hd hS hW h
  · have e : D.done = ({ D with armed := D.armed - 1, ops := D.ops + 1 }, true) := by unfold DD.done; rw [if_neg (by omega)]
    rw [e] at hd ⊢
    repeat refine rd ?_
    refine t_joinDup ?_
    refine t_brD (fun h => ?_) fun h => ?_
    · repeat refine rd ?_
      refine tl64 (by omega) (by omega) ?_
      repeat refine rd ?_
      refine tl64 (by omega) (by omega) ?_
      repeat refine rd ?_
      refine t_postV rfl fun w h => toRef (D := { D with armed := D.armed - 1, ops := D.ops + 1 }) sa sc wa wc hd hS hW (h.as ?_)
      rw [show ((D.armed : Int) - 1) = ((D.armed - 1 : Nat) : Int) by omega]
      rfl
    · repeat refine rd ?_
      refine tl64 (by omega) (by omega) ?_
      repeat refine rd ?_
      refine t_postV rfl fun w h => toRef (D := { D with armed := D.armed - 1, ops := D.ops + 1 }) sa sc wa wc hd hS hW (h.as ?_)
      rw [show ((D.armed : Int)) = ((D.armed - 1 : Nat) : Int) by omega]
      rfl
theorem new_ok (n : Nat) (hn : n ≤ 65536) : (DD.new n).ok := ⟨hn, fun _ => by simp [DD.new, zeros], (fun x hx => nomatch hx), by show 0 < _; decide⟩
theorem rnew_spec (n : Nat) (h8 : 8 ≤ n) (hn : n ≤ 65536) : Spec Try.prog 31 #[.int .i64 n] R fun v => ex fun p => fact (v = .tuple #[ptr p, .int .i64 0]) ^ refS p (DD.new n) ^ R := by
  refine Spec.mk fun w0 => Tri.use ?_ (F.hayloftref05_New_ok _ _)
  unfold F.hayloftref05_New
  refine t_brD (fun h => by omega) fun _ => ?_
  refine t_brD (fun h => by omega) fun _ => ?_
  refine rn fun p => ?_
  refine rd ?_
  refine t_loop (σ := List Nat × Option Addr × Nat) (fun s => [.int .i64 s.1.length])
    (fun s => fact (s.1.length ≤ n) ^ blk p 55 [.slice s.2.1 s.1.length s.2.2, .slice none 0 0, .int .i64 0, .bool false, .int .i64 0] ^ row slE (.slice s.2.1 s.1.length s.2.2) s.1 ^ sectorsS (s.1.map fun g => (g, zeros 64)) ^ R)
    (fun s => n - s.1.length) ([], none, 0) rfl (fun w h => sat_fact.2 ⟨Nat.zero_le _, h.as (by show _ = (_ ^ row slE (.slice none 0 0) [] ^ emp ^ R); rw [row_nil rfl, emp_star, emp_star]; rfl)⟩) fun s => ?_
  obtain ⟨S, sa, sc⟩ := s
  refine t_fact fun hk => ?_
  dsimp only at hk ⊢
  repeat refine rd ?_
  refine t_brD (fun h => ?_) fun h => ?_
  · refine rd ?_
    refine t_pin (b := p) ?_
    repeat refine rd ?_
    refine t_callX (sector_spec (bs := []) rds_nil (by decide)) fun a => ?_
    repeat refine rd ?_
    refine t_app1 slE a rfl (by decide) (by omega) (by omega) fun a' c' => ?_
    repeat refine rd ?_
    refine tl64 (by omega) (by omega) ?_
    refine t_round (S ++ [a], a', c') (by simp) (by simp; omega) fun w h => sat_fact.2 ⟨by simp; omega, h.as ?_⟩
    simp only [sectorsS, secP, List.map_append, List.map_cons, List.map_nil, bigS_snoc, List.length_append, List.length_singleton, show sec [] = zeros 64 from rfl]
    ac_rfl
  · have hl : S.length = n := by omega
    refine t_post fun w h => sat_ex.2 ⟨p, sat_fact.2 ⟨rfl, toRef (D := DD.new n) (S := S.map fun g => (g, zeros 64)) (W := []) sa sc none 0 (new_ok n hn) ?_ rfl (h.as ?_)⟩⟩
    · rw [List.map_map]
      show S.map (fun _ => zeros 64) = (List.range n).map (fun _ => zeros 64)
      rw [List.map_const', List.map_const', hl, List.length_range]
    · have e : (S.map fun g => (g, zeros 64)).map (·.1) = S := by simp [Function.comp_def]
      simp only [List.length_map, e, List.map_nil, List.length_nil, row_nil (E := pnE) rfl, pendsS, bigS, emp_star]
      rfl
theorem push_ok (ok : D.ok) {i : Nat} {bs : List UInt8} (hi : i < D.n) (hb : bs.length = 64) : ({ D with wait := D.wait ++ [(i, bs)] } : DD).ok := ⟨ok.n, ok.sure, fun x hx => by
  rcases List.mem_append.1 hx with h | h
  · exact ok.wait x h
  · obtain rfl := List.mem_singleton.1 h
    exact ⟨hi, hb⟩, ok.armed⟩
theorem rwrite_spec {i : Int} {v : Value} {bs : List UInt8} (hb : Rds byteE R v bs) (ho : D.ops < 9223372036854775807) (hw : D.wait.length < 1000000000) :
    Spec Try.prog 33 #[ptr p, .int .i64 i, v] (refS p D ^ R) fun u => fact (u = .int .i64 (D.write i bs).2) ^ refS p (D.write i bs).1 ^ R := by
  refine Spec.mk fun w0 => t_ref fun sa sc wa wc S W ok hS hW => t_shape hb.part fun a c hv _ _ => ?_
  subst hv
  have hn := S_len hS
  have hwl := W_len hW
  have fold : ∀ w, Sat w (blk p 55 [.slice sa S.length sc, .slice wa W.length wc, .int .i64 D.armed, .bool D.down, .int .i64 D.ops] ^ row slE (.slice sa S.length sc) (S.map (·.1)) ^ sectorsS S ^ row pnE (.slice wa W.length wc) (W.map fun y => (y.1, y.2.1)) ^ pendsS W ^ R) → Sat w (refS p D ^ R) := fun w h => toRef sa sc wa wc ok hS hW h
  refine Tri.use ?_ (F.hayloftref05_Disk_Write_ok _ _ _ _ _ _)
  unfold F.hayloftref05_Disk_Write
  repeat refine rd ?_
  refine t_br (fun h => ?_) fun h => ?_
  · have e : D.write i bs = (D, 14) := by simp [DD.write, DD.ask, h]
    rw [e]
    exact t_postV rfl fold
  refine t_brD (fun h1 => ?_) fun h1 => ?_
  · have e : D.write i bs = (D, 2) := by simp [DD.write, DD.ask, h, h1]
    rw [e]
    exact t_postV rfl fold
  repeat refine rd ?_
  refine t_brD (fun h2 => ?_) fun h2 => ?_
  · have e : D.write i bs = (D, 2) := by simp [DD.write, DD.ask, h, show (D.n : Int) ≤ i by omega]
    rw [e]
    exact t_postV rfl fold
  refine t_brD (fun h3 => ?_) fun h3 => ?_
  · have e : D.write i bs = (D, 6) := by simp [DD.write, DD.ask, h, show ¬ (i < 0 ∨ (D.n : Int) ≤ i) by omega, show 64 < bs.length by omega]
    rw [e]
    exact t_postV rfl fold
  have e : D.write i bs = (({ D with wait := D.wait ++ [(i.toNat, sec bs)] } : DD).done.1, if ({ D with wait := D.wait ++ [(i.toNat, sec bs)] } : DD).done.2 then 0 else 14) := by
    simp [DD.write, DD.ask, h, show ¬ (i < 0 ∨ (D.n : Int) ≤ i) by omega, show ¬ 64 < bs.length by omega]
  rw [e]
  obtain ⟨k, rfl⟩ : ∃ k : Nat, i = k := ⟨i.toNat, by omega⟩
  refine rd ?_
  refine t_pin (b := p) ?_
  repeat refine rd ?_
  refine t_callX (sector_spec hb.part (by omega)) fun g => ?_
  repeat refine rd ?_
  refine t_app1 pnE (k, g) rfl (by decide) (by simp; omega) (by simp; omega) fun a' c' => ?_
  repeat refine rd ?_
  refine Tri.imp (B := refS p { D with wait := D.wait ++ [(k, sec bs)] } ^ R) ?_ fun w h => ?_
  · refine t_callV (fails_spec (D := { D with wait := D.wait ++ [(k, sec bs)] }) ho) ?_
    refine rd ?_
    cases hd : ({ D with wait := D.wait ++ [(k, sec bs)] } : DD).done.2
    · refine t_brT rfl ?_
      refine t_postV (by simp [hd]) fun w h => ?_
      simpa using h
    · refine t_brF rfl ?_
      refine t_postV (by simp [hd]) fun w h => ?_
      simpa using h
  · refine toRef (D := { D with wait := D.wait ++ [(k, sec bs)] }) (S := S) (W := W ++ [(k, g, sec bs)]) sa sc a' c' (push_ok ok (by omega) (length_sec _)) hS (by simp [hW]) (h.as ?_)
    simp only [pendsS, pndP, List.map_append, List.map_cons, List.map_nil, bigS_snoc, List.length_append, List.length_singleton, List.length_map]
    ac_rfl
theorem set_range (n k : Nat) (f : Nat → List UInt8) (b : List UInt8) (hk : k < n) : ((List.range n).map f).set k b = (List.range n).map fun j => if j = k then b else f j := by
  apply List.ext_getElem?
  intro i
  rw [List.getElem?_set]
  by_cases h : k = i
  · subst h
    simp [hk]
  · simp only [h, if_false, List.getElem?_map]
    by_cases hi : i < n
    · simp [List.getElem?_range hi, Ne.symm h]
    · rw [List.getElem?_eq_none (by simpa using hi)]
      rfl
theorem sec_long (bs : List UInt8) (h : bs.length = 64) : sec bs = bs := by
  unfold sec
  rw [List.take_append, List.take_of_length_le (by omega), h]
  simp
theorem rflush_spec (ho : D.ops < 9223372036854775807) (h8 : 0 < D.n) (hw : D.wait.length < 1000000000) :
    Spec Try.prog 34 #[ptr p] (refS p D ^ R) fun u => fact (u = .int .i64 D.flush.2) ^ refS p D.flush.1 ^ R := by
  refine Spec.mk fun w0 => t_ref fun sa sc wa wc S W ok hS hW => ?_
  refine Tri.use ?_ (F.hayloftref05_Disk_Flush_ok _ _)
  unfold F.hayloftref05_Disk_Flush
  repeat refine rd ?_
  refine t_br (fun h => ?_) fun h => ?_
  · have e : D.flush = (D, 14) := by simp [DD.flush, DD.ask, h]
    rw [e]
    exact t_postV rfl fun w h => toRef sa sc wa wc ok hS hW h
  refine Tri.imp (B := refS p D ^ R) ?_ fun w h => toRef sa sc wa wc ok hS hW h
  clear hS hW S W sa sc wa wc
  refine t_callV (fails_spec ho) ?_
  refine rd ?_
  obtain ⟨e1, e2, e3⟩ := done_same D
  cases hd : D.done.2
  · refine t_brT rfl ?_
    have e : D.flush = (D.done.1, 14) := by simp [DD.flush, DD.ask, h, hd, show ¬ D.n = 0 by omega]
    rw [e]
    exact t_postV rfl fun w h => h
  refine t_brF rfl ?_
  have e : D.flush = ({ D.done.1 with sure := commit D.sure D.wait, wait := [] }, 0) := by simp [DD.flush, DD.ask, h, hd, show ¬ D.n = 0 by omega]
  rw [e]
  generalize hG : D.done.1 = G at e1 e2 e3
  refine t_ref fun sa sc wa wc S W ok hS hW => ?_
  have hn := S_len hS
  have hwl := W_len hW
  have hwG : G.wait.length < 1000000000 := by rw [e3]; exact hw
  rw [← e2, ← e3]
  repeat refine rd ?_
  refine t_loop (σ := Nat × List (Nat × List UInt8)) (fun s => [.int .i64 s.1])
    (fun s => fact (s.1 ≤ W.length ∧ s.2.map (·.2) = (List.range G.n).map (commit G.sure (G.wait.take s.1))) ^ blk p 55 [.slice sa S.length sc, .slice wa W.length wc, .int .i64 G.armed, .bool G.down, .int .i64 G.ops] ^ row slE (.slice sa S.length sc) (s.2.map (·.1)) ^ sectorsS s.2 ^ row pnE (.slice wa W.length wc) (W.map fun y => (y.1, y.2.1)) ^ pendsS W ^ R)
    (fun s => W.length - s.1) (0, S) rfl (fun w h => sat_fact.2 ⟨⟨Nat.zero_le _, by simpa [commit] using hS⟩, h⟩) fun s => ?_
  obtain ⟨j, S1⟩ := s
  refine t_fact fun hk => ?_
  obtain ⟨hj, hS1⟩ := hk
  dsimp only at hj hS1 ⊢
  have hl1 : S1.length = G.n := by simpa using congrArg List.length hS1
  repeat refine rd ?_
  refine t_brD (fun h => ?_) fun h => ?_
  · have hlt : j < W.length := by omega
    obtain ⟨y, hy⟩ : ∃ y, W[j]? = some y := ⟨_, List.getElem?_eq_getElem hlt⟩
    have hwy : G.wait[j]? = some (y.1, y.2.2) := by rw [← hW, List.getElem?_map, hy]; rfl
    have hok := ok.wait _ (List.mem_of_getElem? hwy)
    refine t_ixldR j rfl (rdR pnE) rfl (by rw [List.getElem?_map, hy]; rfl) ?_
    repeat refine rd ?_
    refine rn fun q => ?_
    repeat refine rd ?_
    refine t_pin2 (b := q) (d := p) ?_
    repeat refine rd ?_
    refine t_callX (sector_spec (rds_bigS (f := pndP) hy rds_self) (by rw [hok.2]; decide)) fun g => ?_
    repeat refine rd ?_
    refine t_ixst slE y.1 g rfl (by rw [List.length_map]; omega) rfl ?_
    repeat refine rd ?_
    refine tl64 (by omega) (by omega) ?_
    refine t_round (j + 1, S1.set y.1 (g, y.2.2)) rfl (by dsimp only; omega) fun w h => sat_fact.2 ⟨⟨by dsimp only; omega, ?_⟩, ?_⟩
    · have hx : G.wait.take (j + 1) = G.wait.take j ++ [(y.1, y.2.2)] := by rw [List.take_add_one, hwy]; rfl
      rw [List.map_set, hS1, hx, commit_snoc]
      exact set_range _ _ _ _ hok.1
    · refine (h.as (B := (secS (S1[y.1]'(by omega)).1 (S1[y.1]'(by omega)).2 ^ blk q 96 [.int .i64 y.1, sl64 y.2.1]) ^ _) ?_).right
      rw [List.map_set]
      simp only [sectorsS]
      rw [bigS_set _ _ _ _ (by omega), bigS_get secP S1 y.1 _ (List.getElem?_eq_getElem (by omega)), sec_long _ hok.2]
      simp only [secP, List.length_set]
      ac_rfl
  · have hj' : j = W.length := by omega
    subst hj'
    have hx : G.wait.take W.length = G.wait := by rw [hwl, List.take_length]
    rw [hx] at hS1
    repeat refine rd ?_
    refine t_postV rfl fun w h => ?_
    have hok' : ({ G with sure := commit G.sure G.wait, wait := [] } : DD).ok := ⟨ok.n, commit_length _ _ ok.sure fun x hx => (ok.wait x hx).2, (fun x hx => nomatch hx), ok.armed⟩
    refine toRef (D := { G with sure := commit G.sure G.wait, wait := [] }) (W := []) sa sc none 0 hok' hS1 rfl ?_
    rw [hl1, ← hn]
    refine (h.as (B := (row pnE (.slice wa W.length wc) (W.map fun y => (y.1, y.2.1)) ^ pendsS W) ^ _) ?_).right
    simp only [List.map_nil, List.length_nil, row_nil (E := pnE) rfl, pendsS, bigS, emp_star]
    ac_rfl
theorem rarm_spec {k : Int} (hk : k < 9223372036854775808) : Spec Try.prog 35 #[ptr p, .int .i64 k] (refS p D ^ R) fun u => fact (u = .tuple #[]) ^ refS p (D.arm k) ^ R := by
  refine Spec.mk fun w0 => t_ref fun sa sc wa wc S W ok hS hW => ?_
  refine Tri.use ?_ (F.hayloftref05_Disk_Arm_ok _ _ _)
  unfold F.hayloftref05_Disk_Arm
  repeat refine rd ?_
  refine t_joinDup ?_
  cases hd : D.down
  · have e : D.arm k = { D with armed := k.toNat } := by simp [DD.arm, hd]
    rw [e]
    refine rd ?_
    refine rd ?_
    refine tlE (y := (k.toNat : Int)) (by unfold maxI; split <;> omega) ?_
    repeat refine rd ?_
    exact t_postV rfl fun w h => toRef (D := { D with armed := k.toNat }) sa sc wa wc ⟨ok.n, ok.sure, ok.wait, by show k.toNat < _; omega⟩ hS hW (by rw [← hd] at h; exact h)
  · have e : D.arm k = D := by simp [DD.arm, hd]
    rw [e]
    repeat refine rd ?_
    exact t_postV rfl fun w h => toRef sa sc wa wc ok hS hW (by rw [← hd] at h; exact h)
theorem rread_spec {i : Int} (hw : D.wait.length < 1000000000) : Spec Try.prog 32 #[ptr p, .int .i64 i] (refS p D ^ R) fun u => ex fun x : Option Addr × Nat => fact (u = .tuple #[.slice x.1 (D.read i).1.length x.2, .int .i64 (D.read i).2]) ^ row byteE (.slice x.1 (D.read i).1.length x.2) (D.read i).1 ^ refS p D ^ R := by
  refine Spec.mk fun w0 => t_ref fun sa sc wa wc S W ok hS hW => ?_
  have hn := S_len hS
  have hwl := W_len hW
  have fold : ∀ w, Sat w (blk p 55 [.slice sa S.length sc, .slice wa W.length wc, .int .i64 D.armed, .bool D.down, .int .i64 D.ops] ^ row slE (.slice sa S.length sc) (S.map (·.1)) ^ sectorsS S ^ row pnE (.slice wa W.length wc) (W.map fun y => (y.1, y.2.1)) ^ pendsS W ^ R) → Sat w (refS p D ^ R) := fun w h => toRef sa sc wa wc ok hS hW h
  have err : ∀ c : Int, D.read i = ([], c) → Tri (blk p 55 [.slice sa S.length sc, .slice wa W.length wc, .int .i64 D.armed, .bool D.down, .int .i64 D.ops] ^ row slE (.slice sa S.length sc) (S.map (·.1)) ^ sectorsS S ^ row pnE (.slice wa W.length wc) (W.map fun y => (y.1, y.2.1)) ^ pendsS W ^ R) w0
      (Post (fun u => ex fun x : Option Addr × Nat => fact (u = .tuple #[.slice x.1 (D.read i).1.length x.2, .int .i64 (D.read i).2]) ^ row byteE (.slice x.1 (D.read i).1.length x.2) (D.read i).1 ^ refS p D ^ R) w0 (.tuple #[.slice none 0 0, .int .i64 c])) := fun c e => by
    rw [e]
    exact t_post fun w h => sat_ex.2 ⟨(none, 0), sat_fact.2 ⟨rfl, (fold w h).as (by rw [List.length_nil, row_nil rfl, emp_star])⟩⟩
  refine Tri.use ?_ (F.hayloftref05_Disk_Read_ok _ _ _)
  unfold F.hayloftref05_Disk_Read
  repeat refine rd ?_
  refine t_br (fun h => ?_) fun h => ?_
  · exact err 14 (by simp [DD.read, DD.ask, h])
  refine t_brD (fun h1 => ?_) fun h1 => ?_
  · exact err 2 (by simp [DD.read, DD.ask, h, h1])
  repeat refine rd ?_
  refine t_brD (fun h2 => ?_) fun h2 => ?_
  · exact err 2 (by simp [DD.read, DD.ask, h, show (D.n : Int) ≤ i by omega])
  obtain ⟨k, rfl⟩ : ∃ k : Nat, i = k := ⟨i.toNat, by omega⟩
  have e : D.read k = (D.at k, 0) := by simp [DD.read, DD.ask, h, show ¬ (D.n ≤ k) by omega]
  clear err
  rw [e]
  have hat : (D.at k).length = 64 := seen_length _ _ _ (ok.sure _) fun x hx => (ok.wait x hx).2
  have hk : k < S.length := by omega
  obtain ⟨y, hy⟩ : ∃ y, S[k]? = some y := ⟨_, List.getElem?_eq_getElem hk⟩
  have hys : y.2 = D.sure k := by
    have := congrArg (·[k]?) hS
    simp only [List.getElem?_map, hy, List.getElem?_range (show k < D.n by omega), Option.map_some] at this
    exact Option.some.inj this
  repeat refine rd ?_
  refine t_ixld0 k (rdR slE) rfl (by rw [List.getElem?_map, hy]; rfl) rfl ?_
  repeat refine rd ?_
  generalize hB : (blk p 55 [.slice sa S.length sc, .slice wa W.length wc, .int .i64 D.armed, .bool D.down, .int .i64 D.ops] ^ row slE (.slice sa S.length sc) (S.map (·.1)) ^ sectorsS S ^ row pnE (.slice wa W.length wc) (W.map fun y => (y.1, y.2.1)) ^ pendsS W ^ R) = B at fold ⊢
  have hp1 : Part B (sectorsS S) := by rw [← hB]; infer_instance
  have hp2 : Part B (pendsS W) := by rw [← hB]; infer_instance
  have hp3 : Rds pnE B (.slice wa W.length wc) (W.map fun y => (y.1, y.2.1)) := by rw [← hB]; exact rdR pnE
  refine t_loop (σ := Nat × Nat) (fun s => [sl64 s.2, .int .i64 s.1]) (fun s => fact (s.1 ≤ W.length ∧ Rds byteE B (sl64 s.2) (seen k (D.sure k) (D.wait.take s.1))) ^ B) (fun s => W.length - s.1) (0, y.1) rfl
    (fun w h => sat_fact.2 ⟨⟨Nat.zero_le _, by rw [List.take_zero]; show Rds byteE B (sl64 y.1) (D.sure k); rw [← hys]; exact rds_bigS (f := secP) hy rds_self⟩, h⟩) fun s => ?_
  obtain ⟨j, g⟩ := s
  refine t_fact fun hj => ?_
  obtain ⟨hj, hg⟩ := hj
  dsimp only at hj hg ⊢
  repeat refine rd ?_
  refine t_brD (fun h => ?_) fun h => ?_
  · have hlt : j < W.length := by omega
    obtain ⟨z, hz⟩ : ∃ z, W[j]? = some z := ⟨_, List.getElem?_eq_getElem hlt⟩
    have hwz : D.wait[j]? = some (z.1, z.2.2) := by rw [← hW, List.getElem?_map, hz]; rfl
    have hsn : D.wait.take (j + 1) = D.wait.take j ++ [(z.1, z.2.2)] := by rw [List.take_add_one, hwz]; rfl
    refine t_ixldR j rfl hp3 rfl (by rw [List.getElem?_map, hz]; rfl) ?_
    repeat refine rd ?_
    refine rn fun q => ?_
    repeat refine rd ?_
    refine t_joinDup ?_
    have next : ∀ g', Rds byteE B (sl64 g') (seen k (D.sure k) (D.wait.take (j + 1))) → ∀ w, Sat w (blk q 96 [.int .i64 z.1, sl64 z.2.1] ^ B) → Sat w (fact (j + 1 ≤ W.length ∧ Rds byteE B (sl64 g') (seen k (D.sure k) (D.wait.take (j + 1)))) ^ B) := fun g' hg' w h => sat_fact.2 ⟨⟨hlt, hg'⟩, h.right⟩
    refine t_brE (fun h2 => ?_) fun h2 => ?_
    · repeat refine rd ?_
      refine tl64 (by omega) (by omega) ?_
      refine t_round (j + 1, z.2.1) rfl (by dsimp only; omega) (next _ ?_)
      rw [hsn, seen_snoc, if_pos (by dsimp only at h2 ⊢; omega)]
      exact rds_bigS (f := pndP) hz rds_self
    · repeat refine rd ?_
      refine tl64 (by omega) (by omega) ?_
      refine t_round (j + 1, g) rfl (by dsimp only; omega) (next _ ?_)
      rw [hsn, seen_snoc, if_neg (by dsimp only at h2 ⊢; omega)]
      exact hg
  · have hj' : j = W.length := by omega
    subst hj'
    rw [hwl, List.take_length] at hg
    have hg' : Rds byteE B (sl64 g) (D.at k) := hg
    refine t_callX (sector_spec hg' (by rw [hat]; decide)) fun g2 => ?_
    repeat refine rd ?_
    refine t_post fun w h => sat_ex.2 ⟨(some ⟨g2, 0, none⟩, 64), sat_fact.2 ⟨by rw [hat], ?_⟩⟩
    rw [sec_long _ hat] at h
    rw [hat]
    rw [← hB] at h
    exact (toRef (R := secS g2 (D.at k) ^ R) sa sc wa wc ok hS hW (h.as (by ac_rfl))).as (by ac_rfl)
theorem tear_step (f : Nat → List UInt8) (l : List (Nat × List UInt8)) (ks : List Int) (j : Nat) (x : Nat × List UInt8) (hx : l[j]? = some x) (i : Nat) :
    tear f (l.take (j + 1)) ks i = if i = x.1 then x.2.take (clampTo (ks[j]?.getD 0)) ++ (tear f (l.take j) ks x.1).drop (clampTo (ks[j]?.getD 0)) else tear f (l.take j) ks i := by
  have h0 : clampTo 0 = 0 := rfl
  induction l generalizing f ks j with
  | nil => simp at hx
  | cons y l ih =>
    cases j with
    | zero =>
      have : y = x := by simpa using hx
      subst this
      cases ks with
      | nil =>
        simp only [List.take_succ_cons, List.take_zero, tear, List.getElem?_nil, Option.getD_none, h0, List.take_zero, List.nil_append, List.drop_zero]
        split
        · rename_i e; rw [e]
        · rfl
      | cons k ks => simp [List.take_succ_cons, tear, tear1]
    | succ j =>
      cases ks with
      | nil =>
        simp only [List.take_succ_cons, tear, List.getElem?_nil, Option.getD_none, h0, List.take_zero, List.nil_append, List.drop_zero]
        split
        · rename_i e; rw [e]
        · rfl
      | cons k ks =>
        simp only [List.take_succ_cons, tear]
        have := ih (tear1 f y k) ks j (by simpa using hx)
        simpa using this
theorem rcrash_spec {v : Value} {ks : List Int} (hk : Rds intE R v ks) (hw : D.wait.length < 1000000000) :
    Spec Try.prog 36 #[ptr p, v] (refS p D ^ R) fun u => fact (u = .tuple #[]) ^ refS p (D.crash ks) ^ R := by
  refine Spec.mk fun w0 => t_ref fun sa sc wa wc S W ok hS hW => t_shape hk.part fun a c hv _ _ => ?_
  subst hv
  have hn := S_len hS
  have hwl := W_len hW
  refine Tri.use ?_ (F.hayloftref05_Disk_Crash_ok _ _ _ _ _)
  unfold F.hayloftref05_Disk_Crash
  repeat refine rd ?_
  refine t_loop (σ := Nat × List (Nat × List UInt8)) (fun s => [.int .i64 s.1])
    (fun s => fact (s.1 ≤ W.length ∧ s.2.map (·.2) = (List.range D.n).map (tear D.sure (D.wait.take s.1) ks)) ^ blk p 55 [.slice sa S.length sc, .slice wa W.length wc, .int .i64 D.armed, .bool D.down, .int .i64 D.ops] ^ row slE (.slice sa S.length sc) (s.2.map (·.1)) ^ sectorsS s.2 ^ row pnE (.slice wa W.length wc) (W.map fun y => (y.1, y.2.1)) ^ pendsS W ^ R)
    (fun s => W.length - s.1) (0, S) rfl (fun w h => sat_fact.2 ⟨⟨Nat.zero_le _, by simpa [tear] using hS⟩, h⟩) fun s => ?_
  obtain ⟨j, S1⟩ := s
  refine t_fact fun hk => ?_
  obtain ⟨hj, hS1⟩ := hk
  dsimp only at hj hS1 ⊢
  have hl1 : S1.length = D.n := by simpa using congrArg List.length hS1
  repeat refine rd ?_
  refine t_brD (fun h => ?_) fun h => ?_
  · have hlt : j < W.length := by omega
    obtain ⟨y, hy⟩ : ∃ y, W[j]? = some y := ⟨_, List.getElem?_eq_getElem hlt⟩
    have hwy : D.wait[j]? = some (y.1, y.2.2) := by rw [← hW, List.getElem?_map, hy]; rfl
    have hok := ok.wait _ (List.mem_of_getElem? hwy)
    obtain ⟨at', g0, b⟩ := y
    dsimp only at hok hwy
    refine t_ixldR j rfl (rdR pnE) rfl (by rw [List.getElem?_map, hy]; rfl) ?_
    repeat refine rd ?_
    refine rn fun q => ?_
    repeat refine rd ?_
    generalize hC : clampTo (ks[j]?.getD 0) = C
    have hC64 : C ≤ 64 := by rw [← hC]; unfold clampTo; omega
    refine t_join (fun vs => fact (vs = [.int .i64 C]) ^ blk q 96 [.int .i64 at', sl64 g0] ^ blk p 55 [.slice sa S.length sc, .slice wa W.length wc, .int .i64 D.armed, .bool D.down, .int .i64 D.ops] ^ row slE (.slice sa S.length sc) (S1.map (·.1)) ^ sectorsS S1 ^ row pnE (.slice wa W.length wc) (W.map fun y => (y.1, y.2.1)) ^ pendsS W ^ R) (fun K hK => ?_) fun vs => ?_
    · refine t_brD (fun h2 => ?_) fun h2 => ?_
      · have hjk : j < ks.length := by omega
        refine t_ixld0 j hk.part rfl (List.getElem?_eq_getElem hjk) rfl ?_
        refine rd ?_
        refine tlE (y := minI ks[j] 64) rfl ?_
        refine tlE (y := (C : Int)) (by
          rw [← hC, List.getElem?_eq_getElem hjk]
          simp only [Option.getD_some, clampTo, minI, maxI]
          split <;> split <;> omega) ?_
        exact Tri.imp (hK _) fun w h => sat_fact.2 ⟨rfl, h⟩
      · have hC0 : C = 0 := by rw [← hC, List.getElem?_eq_none (by omega)]; rfl
        subst hC0
        exact Tri.imp (hK _) fun w h => sat_fact.2 ⟨rfl, h⟩
    refine t_fact fun hvs => ?_
    subst hvs
    obtain ⟨z, hz⟩ : ∃ z, S1[at']? = some z := ⟨_, List.getElem?_eq_getElem (by omega)⟩
    have hzs : z.2 = tear D.sure (D.wait.take j) ks at' := by
      have := congrArg (·[at']?) hS1
      simp only [List.getElem?_map, hz, List.getElem?_range hok.1, Option.map_some] at this
      exact Option.some.inj this
    have hz64 : z.2.length = 64 := by rw [hzs]; exact tear_length _ _ _ ok.sure (fun y hy => (ok.wait y (List.mem_of_mem_take hy)).2) _
    repeat refine rd ?_
    refine t_ixld0 at' (rdR slE) rfl (by rw [List.getElem?_map, hz]; rfl) rfl ?_
    refine rd ?_
    refine t_callX (sector_spec (rds_bigS (f := secP) hz rds_self) (by rw [hz64]; decide)) fun g => ?_
    repeat refine rd ?_
    rw [sec_long _ hz64]
    refine t_loop (σ := Nat) (fun t => [.int .i64 t]) (fun t => fact (t ≤ C) ^ secS g (b.take t ++ z.2.drop t) ^ blk q 96 [.int .i64 at', sl64 g0] ^ blk p 55 [.slice sa S.length sc, .slice wa W.length wc, .int .i64 D.armed, .bool D.down, .int .i64 D.ops] ^ row slE (.slice sa S.length sc) (S1.map (·.1)) ^ sectorsS S1 ^ row pnE (.slice wa W.length wc) (W.map fun y => (y.1, y.2.1)) ^ pendsS W ^ R) (fun t => C - t) 0 rfl (fun w h => sat_fact.2 ⟨Nat.zero_le _, h⟩) fun t => ?_
    refine t_fact fun ht => ?_
    have hb64 : b.length = 64 := hok.2
    repeat refine rd ?_
    refine t_brD (fun h3 => ?_) fun h3 => ?_
    · have htC : t < C := by omega
      repeat refine rd ?_
      have htl : t < b.length := by omega
      refine t_ixld0 t (rds_bigS (f := pndP) hy rds_self) rfl (show b[t]? = some b[t] from List.getElem?_eq_getElem htl) rfl ?_
      refine rd ?_
      refine t_ixst byteE t b[t] rfl (by simp; omega) rfl ?_
      refine tl64 (by omega) (by omega) ?_
      refine t_round (t + 1) rfl (by omega) fun w h => sat_fact.2 ⟨by omega, h.as ?_⟩
      have e : (b.take t ++ z.2.drop t).set t b[t] = b.take (t + 1) ++ z.2.drop (t + 1) := by
        have hd : z.2.drop t = z.2[t]'(by omega) :: z.2.drop (t + 1) := List.drop_eq_getElem_cons (by omega)
        rw [List.set_append_right _ _ (by simp; omega), ← List.take_append_getElem (show t < b.length by omega), hd]
        simp only [List.length_take, Nat.min_eq_left (show t ≤ b.length by omega), Nat.sub_self, List.set_cons_zero, List.append_assoc, List.singleton_append]
      rw [e]
    · have htC : t = C := by omega
      subst htC
      repeat refine rd ?_
      refine t_ixst slE at' g rfl (by rw [List.length_map]; omega) rfl ?_
      repeat refine rd ?_
      refine tl64 (by omega) (by omega) ?_
      refine t_round (j + 1, S1.set at' (g, b.take t ++ z.2.drop t)) rfl (by dsimp only; omega) fun w h => sat_fact.2 ⟨⟨by dsimp only; omega, ?_⟩, ?_⟩
      · rw [List.map_set, hS1]
        have e2 : tear D.sure (D.wait.take (j + 1)) ks = fun i => if i = at' then b.take t ++ z.2.drop t else tear D.sure (D.wait.take j) ks i := by
          funext i
          rw [tear_step _ _ _ _ _ hwy, hC, hzs]
        rw [e2]
        exact set_range _ _ _ _ hok.1
      · refine (h.as (B := (secS z.1 z.2 ^ blk q 96 [.int .i64 at', sl64 g0]) ^ _) ?_).right
        rw [List.map_set]
        simp only [sectorsS]
        rw [bigS_set _ _ _ _ (by omega), bigS_get secP S1 at' _ hz]
        simp only [secP]
        ac_rfl
  · have hj' : j = W.length := by omega
    subst hj'
    have hx : D.wait.take W.length = D.wait := by rw [hwl, List.take_length]
    rw [hx] at hS1
    repeat refine rd ?_
    refine t_postV rfl fun w h => ?_
    have hok' : (D.crash ks).ok := ⟨ok.n, tear_length _ _ _ ok.sure (fun y hy => (ok.wait y hy).2), (fun x hx => nomatch hx), by show 0 < _; decide⟩
    refine toRef (D := D.crash ks) (W := []) sa sc none 0 hok' hS1 rfl ?_
    rw [hl1, ← hn]
    refine (h.as (B := (row pnE (.slice wa W.length wc) (W.map fun y => (y.1, y.2.1)) ^ pendsS W) ^ _) ?_).right
    simp only [List.map_nil, List.length_nil, row_nil (E := pnE) rfl, pendsS, bigS, emp_star]
    show _ = _
    ac_rfl
theorem rimage_spec : Spec Try.prog 37 #[ptr p] (refS p D ^ R) fun u => ex fun x : Option Addr × Nat => fact (u = .slice x.1 D.image.length x.2) ^ row byteE (.slice x.1 D.image.length x.2) D.image ^ refS p D ^ R := by
  refine Spec.mk fun w0 => t_ref fun sa sc wa wc S W ok hS hW => ?_
  have hn := S_len hS
  have hn64 := ok.n
  refine Tri.use ?_ (F.hayloftref05_Disk_Image_ok _ _)
  unfold F.hayloftref05_Disk_Image
  repeat refine rd ?_
  generalize hB : (blk p 55 [.slice sa S.length sc, .slice wa W.length wc, .int .i64 D.armed, .bool D.down, .int .i64 D.ops] ^ row slE (.slice sa S.length sc) (S.map (·.1)) ^ sectorsS S ^ row pnE (.slice wa W.length wc) (W.map fun y => (y.1, y.2.1)) ^ pendsS W ^ R) = B
  have hp1 : Part B (sectorsS S) := by rw [← hB]; infer_instance
  have hp3 : Rds slE B (.slice sa S.length sc) (S.map (·.1)) := by rw [← hB]; exact rdR slE
  have him : ∀ j, ((List.range j).flatMap D.sure).length = j * 64 := fun j => by
    induction j with
    | zero => rfl
    | succ j ih => rw [List.range_succ, List.flatMap_append, List.length_append, ih]; simp [ok.sure]; omega
  refine t_loop (σ := Nat × Option Addr × Nat) (fun s => [.slice s.2.1 (s.1 * 64) s.2.2, .int .i64 s.1]) (fun s => fact (s.1 ≤ S.length) ^ row byteE (.slice s.2.1 (s.1 * 64) s.2.2) ((List.range s.1).flatMap D.sure) ^ B) (fun s => S.length - s.1) (0, none, 0) rfl
    (fun w h => sat_fact.2 ⟨Nat.zero_le _, h.as (by show _ = (row byteE (.slice none 0 0) [] ^ B); rw [row_nil rfl, emp_star])⟩) fun s => ?_
  obtain ⟨j, oa, oc⟩ := s
  refine t_fact fun hj => ?_
  dsimp only at hj ⊢
  repeat refine rd ?_
  refine t_brD (fun h => ?_) fun h => ?_
  · have hlt : j < S.length := by omega
    obtain ⟨y, hy⟩ : ∃ y, S[j]? = some y := ⟨_, List.getElem?_eq_getElem hlt⟩
    have hys : y.2 = D.sure j := by
      have := congrArg (·[j]?) hS
      simp only [List.getElem?_map, hy, List.getElem?_range (show j < D.n by omega), Option.map_some] at this
      exact Option.some.inj this
    refine t_ixld0 j hp3.part rfl (by rw [List.getElem?_map, hy]; rfl) rfl ?_
    refine rd ?_
    have hyl : y.2.length = 64 := by rw [hys]; exact ok.sure _
    have hrd : Rds byteE (row byteE (.slice oa (j * 64) oc) ((List.range j).flatMap D.sure) ^ B) (sl64 y.1) y.2 := (rds_bigS (f := secP) (A := B) hy rds_self).part
    refine t_append (E := byteE) (ys := y.2) hrd (by rw [him, hyl]; omega) (by rw [him, hyl]; omega) fun a' c' => ?_
    rw [him, hyl]
    refine rd ?_
    refine tl64 (by omega) (by omega) ?_
    refine t_round (j + 1, a', c') (by simp [Nat.add_mul]) (by dsimp only; omega) fun w h => sat_fact.2 ⟨by dsimp only; omega, h.as ?_⟩
    rw [List.range_succ, List.flatMap_append, hys]
    simp [Nat.add_mul]
  · have hj' : j = S.length := by omega
    subst hj'
    have hl : D.image.length = S.length * 64 := by rw [← him, hn]; rfl
    refine t_post fun w h => sat_ex.2 ⟨(oa, oc), sat_fact.2 ⟨by rw [hl], ?_⟩⟩
    rw [← hB] at h
    rw [hl]
    rw [hn] at h ⊢
    exact (toRef (R := row byteE (.slice oa (D.n * 64) oc) D.image ^ R) sa sc wa wc ok hS hW (h.as (by rw [hn]; unfold DD.image; ac_rfl))).as (by ac_rfl)
end
end Go.Proofs.Ytehpdpdmjflddaa
