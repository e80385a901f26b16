/-
  append of noughts; slices of several parts.
-/
import Derived.Test.YtehpdpdmjflddaaNum
import Derived.Lib.AppendZerosOnto
namespace Go.Proofs.Ytehpdpdmjflddaa
open Go.RowKit

theorem zeroCells_one (z : Value) (k : Nat) : (Builtin.zeroCells #[z] k).toList = List.replicate k z := by
  apply List.ext_getElem?
  intro j
  simp only [Builtin.zeroCells, Array.toList_map, Array.toList_range, List.getElem?_map, List.getElem?_replicate]
  by_cases h : j < k
  · rw [List.getElem?_range (by simpa using h), if_pos h]
    simp [Nat.mod_one]
  · rw [List.getElem?_eq_none (by simpa using h), if_neg h]
    rfl
theorem run_append_room_zeros {P : Program} (w : World) (t tn ty e : TypeId) (i : TypeInfo) (z z' : Value) (kq kn : IntKind) (ht : P.underlying t = some (.slice e)) (htn : P.underlying tn = some (.int kn)) (hi : P.info? e = some i) (hz : i.zero = some z)
    (hs : i.size = 1) (hzc : z.cells = #[z']) (h1 : z'.oneCell' = true) (g sLen sCap : Nat) (cur : Array Value) (hg : w.heap[g]? = some (.cells cur e (0, 0))) (k : Nat) (h0 : 0 < k) (hroom : sLen + k ≤ sCap) (h63 : (k : Int) ≤ 9223372036854775807) (h48 : k * i.bytes ≤ 281474976710656) (hfit : sLen + k ≤ cur.size) :
    (Builtin.append_ #[t, tn] ty #[.slice (some ⟨g, 0, none⟩) sLen sCap, .int kq k]).run P w =
      .ok (.slice (some ⟨g, 0, none⟩) (sLen + k) sCap) (w.setRow g (cur.toList.take sLen ++ List.replicate k z' ++ cur.toList.drop (sLen + k)).toArray) := by
  have hw : IntKind.i64.wrap (k : Int) = k := by rw [IntKind.wrap_i64]; omega
  have h48i : ¬ (281474976710656 < (k : Int) * (i.bytes : Int)) := by
    rw [← Int.natCast_mul]
    omega
  have hneg : ¬ ((k : Int) < 0) := by omega
  have hns : ¬ k = 0 := by omega
  have hst := run_storeCells_at P g sLen e (List.replicate k z') 0 cur w hg (by simpa using hfit) (fun u hu => by rw [(List.mem_replicate.1 hu).2]; exact h1)
  simp only [Nat.add_zero, List.length_replicate] at hst
  have hzl := zeroCells_one z' k
  simp [Builtin.append_, run_underlying ht, run_underlying htn, sizeOf, typeInfo, zeroValue, hi, hz, hs, asInt, asIntOf, hw, hneg, hns, h48i, hroom, hzc, hzl, Addr.add_lit, hst]
theorem run_appendZ_sl {P : Program} {w : World} {R : SP} (t tn ty e : TypeId) (i : TypeInfo) (z z' : Value) (kn : IntKind) (bytes : Nat) (ht : P.underlying t = some (.slice e)) (htn : P.underlying tn = some (.int kn)) (hi : P.info? e = some i) (hz : i.zero = some z)
    (hsize : i.size = 1) (hby : i.bytes = bytes) (hzc : z.cells = #[z']) (h1 : z'.oneCell' = true) (v : Value) (n : Nat) (xs : List Value) (hown : Sat w (rowS e 1 v n xs ^ R)) (k : Nat) (h0 : 0 < k) (h63 : n + k ≤ maxLen) (hbytes : (n + k) * bytes ≤ 140737488355328) :
    ∃ v' w', (Builtin.append_ #[t, tn] ty #[v, .int .i64 k]).run P w = .ok v' w' ∧ Sat w' (rowS e 1 v' (n + k) (xs ++ List.replicate k z') ^ R) ∧ Flow w w' := by
  subst hby
  have h63' : ((n + k : Nat) : Int) ≤ 9223372036854775807 := by simp only [maxLen] at h63; omega
  have hkb : k * i.bytes ≤ 281474976710656 := Nat.le_trans (Nat.le_trans (Nat.mul_le_mul_right _ (Nat.le_add_left k n)) hbytes) (by decide)
  have hzl := zeroCells_one z' k
  obtain ⟨hlen, hcase⟩ := hown.ofRow
  rcases hcase with ⟨rfl, rfl, hR⟩ | ⟨g, cap, cur, rfl, hnc, hcm, hcs, htake, hg⟩
  · have hx : xs = [] := List.eq_nil_of_length_eq_zero (by simpa using hlen)
    subst hx
    have hr := Go.Lib.run_append_nil_zeros (P := P) w t tn ty e i z .i64 kn ht htn hi hz k h0 (by omega) (by omega) hkb
    refine ⟨_, _, hr, ?_, (Flow.refl w).drew.alloc _⟩
    have hge := grownCap_ge w k 0 e
    have h2 := (Sat.drew hR).alloc (.cells (Builtin.zeroCells z.cells k ++ Builtin.zeroCells z.cells (grownCap w k 0 e - k)) e)
    simp only [Nat.zero_add, List.nil_append]
    refine Sat.toRow h2 hge (grownCap_le_maxLen w k 0 e (by omega)) ?_ ?_
    · simp only [Array.size_append, size_zeroCells, hzc, List.size_toArray, List.length_singleton]
      omega
    · rw [hzc, Array.toList_append, hzl, Nat.mul_one]
      exact List.take_left' (by simp)
  · simp only [Nat.mul_one] at hcs htake hlen
    by_cases hroom : n + k ≤ cap
    · have hr := run_append_room_zeros (P := P) w t tn ty e i z z' .i64 kn ht htn hi hz hsize hzc h1 g n cap cur hg.heap k h0 hroom (by omega) hkb (by omega)
      refine ⟨_, _, hr, Sat.toRow hg.setRow hroom hcm ?_ ?_, (Flow.refl w).setRow _ _⟩
      · simp only [List.size_toArray, List.length_append, List.length_take, List.length_drop, Array.length_toList, List.length_replicate]
        omega
      · rw [htake, Nat.mul_one]
        exact List.take_left' (by simp [hlen])
    · have holds : ∀ j u, xs[j]? = some u → w.drew.cell? ((⟨g, 0, none⟩ : Addr).add j) = some u := (Sat.drew hown).ownsRow.cells (g := g) rfl
      have hf := run_firstCells_some (P := P) w.drew i.size n ⟨g, 0, none⟩ n cap xs (by rw [hsize, Nat.mul_one]; exact hlen) holds
      have hr := Go.Lib.run_append_grow_zeros (P := P) w t tn ty e i z .i64 kn ht htn hi hz (some ⟨g, 0, none⟩) n cap xs hf k h0 (by omega) (by omega) h63' hkb (growslice_fits (by omega) hbytes)
      refine ⟨_, _, hr, ?_, (Flow.refl w).drew.alloc _⟩
      have hge := grownCap_ge w (n + k) cap e
      have h2 := (Sat.drew hg.right).alloc (.cells (xs.toArray ++ Builtin.zeroCells z.cells k ++ Builtin.zeroCells z.cells (grownCap w (n + k) cap e - (n + k))) e)
      refine Sat.toRow h2 hge (grownCap_le_maxLen w (n + k) cap e h63) ?_ ?_
      · simp only [Array.size_append, List.size_toArray, size_zeroCells, hzc, hlen, List.length_singleton, Nat.mul_one]
        omega
      · simp only [Array.toList_append, hzc, hzl, Nat.mul_one]
        exact List.take_left' (by simp [hlen])
section
variable {P : Program} {A R : SP} {w0 : World} {X : WP}
/-- append of so many noughts. -/
theorem t_appendZ {α : Type} {E : El α} {T tn ty b : Nat} {kn : IntKind} {z' : Value} {v : Value} {i : Int} {xs : List α} (k : Nat) (x : α) {next : Value → WP} [hT : SlT P T E.ty 1 b [z']] [hr : RowIn A E v xs R] (htn : P.underlying tn = some (.int kn)) (hi : i = k) (hx : E.enc x = [z']) (h0 : 0 < k) (h63 : xs.length + k ≤ maxLen) (hby : (xs.length + k) * b ≤ 140737488355328)
    (h : ∀ a' c', Tri (row E (.slice a' (xs.length + k) c') (xs ++ List.replicate k x) ^ R) w0 (next (.slice a' (xs.length + k) c'))) : Tri A w0 (sem P (Builtin.append_ #[T, tn] ty #[v, .int .i64 i]) next) := by
  subst hi
  obtain ⟨zv, hinf, hzc⟩ := hT.inf
  refine t_semX (v := fun x : Option Addr × Nat => Value.slice x.1 (xs.length + k) x.2) (B := fun y => row E (.slice y.1 (xs.length + k) y.2) (xs ++ List.replicate k x) ^ R) (fun w hw => ?_) fun x => h x.1 x.2
  obtain ⟨i, hi, hz, hz1, hz2⟩ := info_parts hinf
  have hsz : E.sz = 1 := by rw [← E.len x, hx]; rfl
  have hrow : Sat w (rowS E.ty 1 v xs.length (xs.flatMap E.enc) ^ R) := by have := hw; rw [hr.eq] at this; unfold row at this; rw [hsz] at this; exact this
  obtain ⟨v', w', h1, h2, h3⟩ := run_appendZ_sl (P := P) T tn ty E.ty i zv z' kn b hT.und htn hi hz hz1 hz2 hzc (E.one x z' (by rw [hx]; simp)) v xs.length (xs.flatMap E.enc) hrow k h0 h63 hby
  obtain ⟨va, vc, rfl⟩ := h2.shape
  refine ⟨(va, vc), w', h1, ?_, h3⟩
  unfold row
  have e : (List.replicate k x).flatMap E.enc = List.replicate k z' := by
    clear h h2 h1 hby h63 h0
    induction k with
    | zero => rfl
    | succ k ih => rw [List.replicate_succ, List.flatMap_cons, ih, hx]; rfl
  rw [List.length_append, List.length_replicate, List.flatMap_append, e, hsz]
  exact h2
/-- A new slice of three elements of one cell. -/
theorem t_build3 {α : Type} (E : El α) {T b : Nat} {z : List Value} {u0 u1 u2 : Value} (x0 x1 x2 : α) {next : Value → WP} [hT : SlT P T E.ty 1 b z] [c0 : Cells u0 [u0]] [c1 : Cells u1 [u1]] [c2 : Cells u2 [u2]] (h0 : E.enc x0 = [u0]) (h1 : E.enc x1 = [u1]) (h2 : E.enc x2 = [u2])
    (h : ∀ g, Tri (row E (.slice (some ⟨g, 0, none⟩) 3 3) [x0, x1, x2] ^ A) w0 (next (.slice (some ⟨g, 0, none⟩) 3 3))) : Tri A w0 (sem P (Instr.buildSlice T 3 #[(0, u0), (1, u1), (2, u2)]) next) := by
  obtain ⟨zv, hinf, hzc⟩ := hT.inf
  have hsz : E.sz = 1 := by rw [← E.len x0, h0]; rfl
  refine t_semX (v := fun g : Nat => Value.slice (some ⟨g, 0, none⟩) 3 3) (B := fun g => row E (.slice (some ⟨g, 0, none⟩) 3 3) [x0, x1, x2] ^ A) (fun w hs => ?_) h
  obtain ⟨i, hi, hz, hz1, hz2⟩ := info_parts hinf
  refine ⟨w.heap.size, w.alloc (.cells #[u0, u1, u2] E.ty), ?_, ?_, (Flow.refl w).alloc _⟩
  · have e0 : u0.cells = #[u0] := c0.eq
    have e1 : u1.cells = #[u1] := c1.eq
    have e2 : u2.cells = #[u2] := c2.eq
    have er : Array.range 3 = #[0, 1, 2] := rfl
    simp [Instr.buildSlice, run_underlying hT.und, sizeOf, typeInfo, zeroValue, hi, hz, hz1, Instr.fill, newRow, newObj, e0, e1, e2, er]
    rfl
  · unfold row
    exact Sat.toRow (hs.alloc _) (Nat.le_refl _) (by unfold maxLen; simp) (by rw [hsz]; rfl) (by simp [h0, h1, h2, hsz])
end
end Go.Proofs.Ytehpdpdmjflddaa
