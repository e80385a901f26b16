/-
  Rows of cells that a slice owns or reads, in the small separation logic; what append and copy do to them. Plain laws over any program.
-/
import Derived.Test.YtehpdpdmjflddaaMapI
import Derived.Laws.CopyOwn
import Derived.Deep.RegionLawGrows
namespace Go.Proofs.Ytehpdpdmjflddaa
open Go.RowKit

def u8v (b : UInt8) : Value := .int .u8 (b.toNat : Int)
abbrev ptr (p : Nat) : Value := .pointer (some ⟨p, 0, none⟩)
def zeros (n : Nat) : List UInt8 := List.replicate n 0
/-- The slice value v reads n elements, whose cells are xs. -/
def RdC (w : World) (v : Value) (n : Nat) (xs : List Value) : Prop :=
  ∃ a c, v = .slice a n c ∧ n ≤ c ∧ c ≤ maxLen ∧ (0 < n → ∃ b off, a = some ⟨b, off, none⟩ ∧ ∀ j u, xs[j]? = some u → w.cell? ⟨b, off + j, none⟩ = some u)
def Rd (w : World) (v : Value) (bs : List UInt8) : Prop := RdC w v bs.length (bs.map u8v)
/-- Whoever bears R can read it. -/
def RdIn (R : SP) (v : Value) (bs : List UInt8) : Prop := ∀ w, Sat w R → Rd w v bs
/-- The slice value v owns a row from its head on, with n elements of `size` cells each. -/
def rowS (e : TypeId) (size : Nat) (v : Value) (n : Nat) (xs : List Value) : SP := fun h =>
  xs.length = n * size ∧ ((v = .slice none 0 0 ∧ n = 0 ∧ h = Frag.none) ∨
    ∃ g cap cur, v = .slice (some ⟨g, 0, none⟩) n cap ∧ n ≤ cap ∧ cap ≤ maxLen ∧ cur.size = cap * size ∧ cur.toList.take (n * size) = xs ∧ h = Frag.one g (.cells cur e (0, 0)))

theorem rowS_nil (e size) : rowS e size (.slice none 0 0) 0 [] = emp := by
  funext h
  apply propext
  constructor
  · rintro ⟨_, ⟨_, _, rfl⟩ | ⟨g, cap, cur, hv, _⟩⟩
    · rfl
    · simp at hv
  · rintro rfl
    exact ⟨by simp, .inl ⟨rfl, rfl, rfl⟩⟩
/-- A row that is not nil. -/
theorem Sat.toRow {w : World} {g cap n e size : Nat} {cur : Array Value} {xs : List Value} {R : SP} (h : Sat w (own g (.cells cur e (0, 0)) ^ R)) (hn : n ≤ cap) (hc : cap ≤ maxLen) (hs : cur.size = cap * size)
    (hx : cur.toList.take (n * size) = xs) : Sat w (rowS e size (.slice (some ⟨g, 0, none⟩) n cap) n xs ^ R) := by
  refine h.imp fun h hh => ?_
  subst hh
  refine ⟨?_, .inr ⟨g, cap, cur, rfl, hn, hc, hs, hx, rfl⟩⟩
  rw [← hx, List.length_take, Array.length_toList, hs]
  exact Nat.min_eq_left (Nat.mul_le_mul_right _ hn)
theorem Sat.ofRow {w : World} {e size : Nat} {v : Value} {n : Nat} {xs : List Value} {R : SP} (h : Sat w (rowS e size v n xs ^ R)) :
    xs.length = n * size ∧ ((v = .slice none 0 0 ∧ n = 0 ∧ Sat w R) ∨
    ∃ g cap cur, v = .slice (some ⟨g, 0, none⟩) n cap ∧ n ≤ cap ∧ cap ≤ maxLen ∧ cur.size = cap * size ∧ cur.toList.take (n * size) = xs ∧ Sat w (own g (.cells cur e (0, 0)) ^ R)) := by
  obtain ⟨h, l, h1, h2, a, rfl, ⟨hl, hx⟩, y⟩ := h
  refine ⟨hl, ?_⟩
  rcases hx with ⟨rfl, rfl, rfl⟩ | ⟨g, cap, cur, rfl, h3, h4, h5, h6, rfl⟩
  · refine .inl ⟨rfl, rfl, h2, fun b o e => l b o ?_, y⟩
    simpa [Frag.join, Frag.none] using e
  · exact .inr ⟨g, cap, cur, rfl, h3, h4, h5, h6, _, l, _, h2, a, rfl, rfl, y⟩
theorem Sat.ownsRow {w : World} {e size : Nat} {v : Value} {n : Nat} {xs : List Value} {R : SP} (h : Sat w (rowS e size v n xs ^ R)) : w.ownsRow 0 e size v n xs := by
  obtain ⟨hl, ⟨rfl, rfl, _⟩ | ⟨g, cap, cur, rfl, h3, h4, h5, h6, h7⟩⟩ := h.ofRow
  · exact ⟨hl, .inl ⟨rfl, rfl⟩⟩
  · exact ⟨hl, .inr ⟨g, cap, cur, rfl, Nat.zero_le _, h7.heap, h3, h4, h5, h6⟩⟩
theorem Sat.rdRow {w : World} {e size : Nat} {v : Value} {n : Nat} {xs : List Value} {R : SP} (h : Sat w (rowS e size v n xs ^ R)) : RdC w v n xs := by
  obtain ⟨hl, ⟨rfl, rfl, _⟩ | ⟨g, cap, cur, rfl, h3, h4, h5, h6, h7⟩⟩ := h.ofRow
  · exact ⟨none, 0, rfl, Nat.le_refl _, by unfold maxLen; omega, fun h => absurd h (Nat.lt_irrefl _)⟩
  · refine ⟨_, cap, rfl, h3, h4, fun _ => ⟨g, 0, rfl, fun j u hu => ?_⟩⟩
    rw [h7.cell, Nat.zero_add, ← hu, ← h6, List.getElem?_take]
    split
    · simp
    · rename_i hj
      rw [← h6, List.getElem?_take, if_neg hj] at hu
      cases hu
theorem Sat.shape {w : World} {e size : Nat} {v : Value} {n : Nat} {xs : List Value} {R : SP} (h : Sat w (rowS e size v n xs ^ R)) : ∃ a c, v = .slice a n c := by
  obtain ⟨_, ⟨rfl, rfl, _⟩ | ⟨g, cap, cur, rfl, _⟩⟩ := h.ofRow
  · exact ⟨_, _, rfl⟩
  · exact ⟨_, _, rfl⟩
/-- append to an owned row, in the small logic. -/
theorem run_append_sl {P : Program} {w : World} {R : SP} (t ty e : TypeId) (i : TypeInfo) (z : Value) (size bytes : Nat) (ht : P.underlying t = some (.slice e)) (hi : P.info? e = some i) (hz : i.zero = some z)
    (hsize : i.size = size) (hby : i.bytes = bytes) (hzs : z.cells.size = size) (hsz : 0 < size)
    (v : Value) (n : Nat) (xs : List Value) (hown : Sat w (rowS e size v n xs ^ R))
    (a : Option Addr) (m c : Nat) (news : List Value) (hl : news.length = m * size) (hnews : ∀ j u, news[j]? = some u → ∃ ad, a = some ad ∧ w.cell? (ad.add j) = some u) (h1 : ∀ u ∈ news, u.oneCell' = true)
    (h63 : n + m ≤ maxLen) (hbytes : (n + m) * bytes ≤ 140737488355328) :
    ∃ v' w', (Builtin.append_ #[t, t] ty #[v, .slice a m c]).run P w = .ok v' w' ∧ Sat w' (rowS e size v' (n + m) (xs ++ news) ^ R) ∧ Flow w w' := by
  have hmn : m = 0 ∨ ∃ ad, a = some ad := by
    by_cases hm : m = 0
    · exact .inl hm
    · have hp : 0 < news.length := by rw [hl]; exact Nat.mul_pos (by omega) hsz
      obtain ⟨ad, h, _⟩ := hnews 0 news[0] (by simp)
      exact .inr ⟨ad, h⟩
  subst hsize
  subst hby
  obtain ⟨hlen, hcase⟩ := hown.ofRow
  rcases hmn with rfl | ⟨ad, rfl⟩
  · -- nothing is appended
    have hnn : news = [] := List.eq_nil_of_length_eq_zero (by simpa using hl)
    subst hnn
    refine ⟨v, w, ?_, by simpa using hown, Flow.refl w⟩
    rcases hcase with ⟨rfl, rfl, hR⟩ | ⟨g, cap, cur, rfl, hnc, hcm, hcs, htake, hg⟩
    · cases a <;> simp [Builtin.append_, run_underlying ht, sizeOf, typeInfo, hi, Builtin.lenOf, Builtin.firstCells, loadCells, loadCellsFrom]
    · cases a <;> simp [Builtin.append_, run_underlying ht, sizeOf, typeInfo, hi, Builtin.lenOf, Builtin.firstCells, loadCells, loadCellsFrom, hnc, storeCells]
  · have hnews' : ∀ j u, news[j]? = some u → w.cell? (ad.add j) = some u := fun j u hj => by
      obtain ⟨ad', h, h'⟩ := hnews j u hj
      cases h
      exact h'
    rcases hcase with ⟨rfl, rfl, hR⟩ | ⟨g, cap, cur, rfl, hnc, hcm, hcs, htake, hg⟩
    · have hx : xs = [] := List.eq_nil_of_length_eq_zero (by simpa using hlen)
      subst hx
      by_cases hm : m = 0
      · subst hm
        have hn : news = [] := List.eq_nil_of_length_eq_zero (by simpa using hl)
        subst hn
        refine ⟨.slice none 0 0, w, ?_, by simpa using hown, Flow.refl w⟩
        simp [Builtin.append_, run_underlying ht, sizeOf, typeInfo, hi, Builtin.lenOf, Builtin.firstCells, loadCells, loadCellsFrom]
      · have hr := run_append_nil (P := P) w t ty e i z ht hi hz ad m c news hl hnews' (by omega) (by simp only [maxLen] at h63; omega) (by simp only [Nat.zero_add] at hbytes; omega)
        refine ⟨_, _, hr, ?_, (Flow.refl w).drew.alloc _⟩
        have hge := grownCap_ge w m 0 e
        have h2 := (Sat.drew hR).alloc (.cells (news.toArray ++ Builtin.zeroCells z.cells (grownCap w m 0 e - m)) e)
        simp only [Nat.zero_add, List.nil_append]
        refine Sat.toRow h2 hge (grownCap_le_maxLen w m 0 e (by omega)) ?_ ?_
        · simp only [Array.size_append, List.size_toArray, size_zeroCells, hzs, hl, ← Nat.add_mul]
          congr 1
          omega
        · rw [← hl]
          simp
    · by_cases hroom : n + m ≤ cap
      · have hfit : n * i.size + news.length ≤ cur.size := by rw [hl, hcs, ← Nat.add_mul]; exact Nat.mul_le_mul_right _ hroom
        have hr := run_append_room (P := P) w t ty e i ht hi g n cap cur hg.heap ad m c news hl hnews' h1 hroom hfit
        refine ⟨_, _, hr, Sat.toRow hg.setRow hroom hcm ?_ ?_, (Flow.refl w).setRow _ _⟩
        · simp only [List.size_toArray, List.length_append, List.length_take, List.length_drop, Array.length_toList]
          omega
        · rw [htake, Nat.add_mul, ← hlen, ← hl, ← List.length_append]
          exact List.take_left
      · have holds : ∀ j u, xs[j]? = some u → w.cell? ((⟨g, 0, none⟩ : Addr).add j) = some u := hown.ownsRow.cells (g := g) rfl
        have hr := run_append_grow (P := P) w t ty e i z ht hi hz ⟨g, 0, none⟩ n cap xs hlen holds ad m c news hl hnews' (by omega) (by simp only [maxLen] at h63; omega) (growslice_fits (by omega) hbytes)
        refine ⟨_, _, hr, ?_, (Flow.refl w).drew.alloc _⟩
        have hge := grownCap_ge w (n + m) cap e
        have h2 := (Sat.drew hg.right).alloc (.cells (xs.toArray ++ news.toArray ++ Builtin.zeroCells z.cells (grownCap w (n + m) cap e - (n + m))) e)
        refine Sat.toRow h2 hge (grownCap_le_maxLen w (n + m) cap e h63) ?_ ?_
        · simp only [Array.size_append, List.size_toArray, size_zeroCells, hzs, hlen, hl, ← Nat.add_mul]
          congr 1
          omega
        · rw [Nat.add_mul, ← hlen, ← hl, ← List.length_append]
          simp only [Array.toList_append]
          exact List.take_left
theorem setRow_alloc (w : World) (Z cs : Array Value) (e : TypeId) : (w.alloc (.cells Z e)).setRow w.heap.size cs = w.alloc (.cells cs e) := by
  unfold World.setRow World.alloc
  congr 1
  apply Array.ext
  · simp
  · intro i h1 h2
    simp only [Array.getElem_modify, Array.getElem_push]
    by_cases e1 : i < w.heap.size
    · have : ¬ w.heap.size = i := by omega
      simp [e1, this]
    · have : w.heap.size = i := by simp at h2; omega
      subst this
      simp
/-- A whole block is written just behind its making. -/
theorem run_storeCells_new {P : Program} (w : World) (Z : Array Value) (e : TypeId) (vs : List Value) (hl : vs.length = Z.size) (h1 : ∀ u ∈ vs, u.oneCell' = true) :
    (storeCells ⟨w.heap.size, 0, none⟩ vs).run P (w.alloc (.cells Z e)) = .ok () (w.alloc (.cells vs.toArray e)) := by
  rw [run_storeCells_at P w.heap.size 0 e vs 0 Z (w.alloc (.cells Z e)) (heap_alloc_new w _) (by omega) h1, setRow_alloc]
  congr 3
  have : Z.toList.drop vs.length = [] := List.drop_eq_nil_of_le (by simp; omega)
  simp [this]
theorem RdC.keep {w w' : World} {v : Value} {n : Nat} {xs : List Value} (h : RdC w v n xs) (_hl : xs.length = n * 1 ∨ True) (hk : ∀ k, k < w.heap.size → w'.heap[k]? = w.heap[k]?) : RdC w' v n xs := by
  obtain ⟨a, c, rfl, h1, h2, h3⟩ := h
  refine ⟨a, c, rfl, h1, h2, fun hn => ?_⟩
  obtain ⟨b, off, rfl, hc⟩ := h3 hn
  refine ⟨b, off, rfl, fun j u hu => ?_⟩
  have := hc j u hu
  have hb := World.block_lt_of_cell? w _ this
  unfold World.cell? at this ⊢
  rw [hk b hb]
  exact this
/-- copy into a row that is known whole. -/
theorem run_copy_sl {P : Program} {w : World} (dT sT ty e : TypeId) (hu : P.underlying dT = some (.slice e)) (hsz : (P.info? e).map (·.size) = some 1)
    (g off dl dc : Nat) (cur : List Value) (t : TypeId) (hg : w.heap[g]? = some (.cells cur.toArray t (0, 0))) {v : Value} {n : Nat} {xs : List Value} (hr : RdC w v n xs) (hl : xs.length = n)
    (hfit : off + Nat.min n dl ≤ cur.length) (h1 : ∀ u ∈ xs, u.oneCell' = true) :
    (Builtin.copy_ #[dT, sT] ty #[.slice (some ⟨g, off, none⟩) dl dc, v]).run P w = .ok (.int .i64 (Nat.min n dl : Nat)) (w.setRow g (splice cur off (xs.take (Nat.min n dl))).toArray) := by
  obtain ⟨a, c, rfl, _, _, h3⟩ := hr
  have hlen : (xs.take (Nat.min n dl)).length = Nat.min n dl := by
    rw [List.length_take, hl]
    exact Nat.min_eq_left (Nat.min_le_left _ _)
  by_cases h0 : Nat.min n dl = 0
  · have := run_copy_none (P := P) w dT sT ty e (some ⟨g, off, none⟩) a dl dc n c hu hsz h0
    rw [this, h0]
    simp only [List.take_zero, splice, List.length_nil, Nat.add_zero, List.nil_append, List.take_append_drop]
    rw [setRow_self w g _ t (0, 0) hg]
    rfl
  · have hn : 0 < n := Nat.lt_of_lt_of_le (Nat.pos_of_ne_zero h0) (Nat.min_le_left _ _)
    obtain ⟨b, o, rfl, hc⟩ := h3 hn
    have := run_copy_row (P := P) w dT sT ty e g off dl dc ⟨b, o, none⟩ n c cur.toArray t (xs.take (Nat.min n dl)) hu hsz hg (by rw [hlen]) (fun j u hj => by
      have hx : xs[j]? = some u := by
        rw [List.getElem?_take] at hj
        split at hj
        · exact hj
        · cases hj
      have hadd : (⟨b, o, none⟩ : Addr).add j = ⟨b, o + j, none⟩ := by unfold Addr.add; split <;> simp_all
      rw [hadd]
      exact hc j u hx) (by rw [hlen]; simpa using hfit) (fun u hu => h1 u (List.mem_of_mem_take hu))
    rw [this]
    simp [splice, hlen, goInt]
theorem fold_set : ∀ (l : List Value) (k : Nat) (cs : Array Value), (((l.zipIdx k).foldl (fun cs (x : Value × Nat) => cs.setIfInBounds (0 + x.2) x.1) cs).toList = cs.toList.take k ++ l ++ cs.toList.drop (k + l.length)) ∨ cs.size < k + l.length
  | [], k, cs => .inl (by simp)
  | v :: l, k, cs => by
    by_cases h : cs.size < k + (v :: l).length
    · exact .inr h
    · simp only [List.length_cons] at h
      have ih := fold_set l (k + 1) (cs.setIfInBounds (0 + k) v)
      rcases ih with ih | ih
      · refine .inl ?_
        simp only [List.zipIdx_cons, List.foldl_cons]
        rw [ih]
        simp only [Nat.zero_add, Array.toList_setIfInBounds]
        have hk : k < cs.toList.length := by simp; omega
        rw [List.set_eq_take_append_cons_drop, if_pos hk]
        have ht : (cs.toList.take k).length = k := by rw [List.length_take]; omega
        have e1 : List.take (k + 1) (cs.toList.take k ++ v :: cs.toList.drop (k + 1)) = cs.toList.take k ++ [v] := by
          rw [List.take_append, ht, List.take_of_length_le (by rw [ht]; omega)]
          simp
        have e2 : List.drop (k + 1 + l.length) (cs.toList.take k ++ v :: cs.toList.drop (k + 1)) = cs.toList.drop (k + (v :: l).length) := by
          rw [List.drop_append, ht]
          have : k + 1 + l.length - k = l.length + 1 := by omega
          rw [this, List.drop_succ_cons, List.drop_drop]
          have h0 : List.drop (k + 1 + l.length) (cs.toList.take k) = [] := List.drop_eq_nil_of_le (by rw [ht]; omega)
          rw [h0, List.nil_append]
          congr 1
          simp
          omega
        rw [e1, e2]
        simp
      · simp at ih
        omega
theorem fold_whole (vs : Array Value) (cs : Array Value) (h : cs.size = vs.size) : (vs.zipIdx.foldl (fun cs (x : Value × Nat) => cs.setIfInBounds (0 + x.2) x.1) cs) = vs := by
  apply Array.toList_inj.1
  have := (fold_set vs.toList 0 cs).resolve_right (by simp; omega)
  simp only [List.take_zero, List.nil_append] at this
  rw [Nat.zero_add vs.toList.length] at this
  rw [← Array.foldl_toList, Array.toList_zipIdx, this]
  have : cs.toList.drop vs.toList.length = [] := List.drop_eq_nil_of_le (by simp; omega)
  rw [this, List.append_nil]
/-- A slice of one element, built. -/
theorem run_buildSlice_one {P : Program} (T e : TypeId) (i : TypeInfo) (z : Value) (hT : P.underlying T = some (.slice e)) (hi : P.info? e = some i) (hz : i.zero = some z) (hsz : 0 < i.size) (hsm : i.size ≤ 65536)
    (v : Value) (hv : v.cells.size = i.size) (w : World) :
    (Instr.buildSlice T 1 #[(0, v)]).run P w = .ok (.slice (some ⟨w.heap.size, 0, none⟩) 1 1) (w.alloc (.cells v.cells e)) := by
  have h1 : ¬ i.size > 16777216 := by omega
  have h2 : ¬ i.size = 0 := by omega
  have hf := fold_whole v.cells ((Array.range i.size).map (z.cells[· % z.cells.size]!)) (by simp [hv])
  have hv' : ¬ v.cells.size ≠ i.size := by omega
  simp [Instr.buildSlice, run_underlying hT, sizeOf, typeInfo, hi, h1, h2, zeroValue, hz, Instr.fill, hv]
  simp only [Nat.zero_add, Array.size_zipIdx, hv] at hf
  rw [hf]
  simp [newRow, newObj]
  rfl
end Go.Proofs.Ytehpdpdmjflddaa
