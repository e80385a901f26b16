/-
  What the model's operations on memory come to, in the small separation logic. Plain laws over any program.
-/
import Derived.Test.YtehpdpdmjflddaaRw
import Derived.Test.YtehpdpdmjflddaaArm
import Derived.Deep.MidRow
namespace Go.Proofs.Ytehpdpdmjflddaa
open Go.RowKit

section
variable {P : Program} {w : World} {A : SP}
theorem info_zero {P : Program} {e : TypeId} {z : Value} {n b : Nat} (h : (P.info? e).map (fun i => (i.zero, i.size, i.bytes)) = some (some z, n, b)) (w : World) : (zeroValue e).run P w = .ok z w ∧ (sizeOf e).run P w = .ok n w := by
  cases hi : P.info? e with
  | none => simp [hi] at h
  | some i =>
    simp [hi] at h
    simp [zeroValue, sizeOf, typeInfo, hi, h]
theorem alloc_sl {T : TypeId} {z : Value} {n b : Nat} (hi : (P.info? T).map (fun i => (i.zero, i.size, i.bytes)) = some (some z, n, b)) (h : Sat w A) :
    ∃ p w', (Instr.alloc T true (.tuple #[])).run P w = .ok (.pointer (some ⟨p, 0, none⟩)) w' ∧ Sat w' (own p (.cells z.cells T (0, 0)) ^ A) ∧ Flow w w' := by
  refine ⟨w.heap.size, w.alloc (.cells z.cells T), ?_, h.alloc _, (Flow.refl w).alloc _⟩
  simp [Instr.alloc, (info_zero hi w).1, newVar, newRow, newObj]
  rfl
theorem box_sl (T : TypeId) (v : Value) (h : Sat w A) :
    ∃ p w', (Instr.box T v).run P w = .ok (.pointer (some ⟨p, 0, none⟩)) w' ∧ Sat w' (own p (.cells v.cells T (0, 0)) ^ A) ∧ Flow w w' := by
  refine ⟨w.heap.size, w.alloc (.cells v.cells T), ?_, h.alloc _, (Flow.refl w).alloc _⟩
  simp [Instr.box, newVar, newRow, newObj]
  rfl
/-- A value of several cells is stored into a block, from a place on. -/
theorem store_sl {T : TypeId} {z : Value} {n b p off : Nat} {c : Array Value} {e : TypeId} (vs : List Value) (hi : (P.info? T).map (fun i => (i.zero, i.size, i.bytes)) = some (some z, n, b)) (hn : vs.length = n) (h1 : ∀ u ∈ vs, u.oneCell' = true)
    (hfit : off + vs.length ≤ c.size) (h : Sat w (own p (.cells c e (0, 0)) ^ A)) :
    ∃ w', (Instr.storeAt T (.pointer (some ⟨p, off, none⟩)) (.agg vs.toArray)).run P w = .ok () w' ∧ Sat w' (own p (.cells (splice c.toList off vs).toArray e (0, 0)) ^ A) ∧ Flow w w' := by
  have hst := run_storeCells_at P p off e vs 0 c w h.heap (by omega) h1
  refine ⟨_, ?_, h.setRow, (Flow.refl w).setRow _ _⟩
  simp only [Nat.add_zero] at hst
  unfold Instr.storeAt Instr.sureAddr storeVar
  rw [run_of (w1 := w) (a := (⟨p, off, none⟩ : Addr)) (by simp), run_of (info_zero hi w).2]
  simp [Value.cells, hst, splice, hn]
/-- A value of several cells is read out of a block, from a place on. -/
theorem load_sl {T : TypeId} {z : Value} {n b p off : Nat} {c : Array Value} {e : TypeId} {d : TypeDesc} {f : Nat × Nat} (vs : List Value) (hi : (P.info? T).map (fun i => (i.zero, i.size, i.bytes)) = some (some z, n, b)) (hu : P.underlying T = some d)
    (hd : d.isRow = true) (hn : vs.length = n) (hv : ∀ j u, vs[j]? = some u → c[off + j]? = some u) (h : Sat w (own p (.cells c e f) ^ A)) :
    (Instr.loadAt T (.pointer (some ⟨p, off, none⟩))).run P w = .ok (.agg vs.toArray) w :=
  run_loadAt_mid w p off T vs d (fun j u hu => by rw [h.cell]; exact hv j u hu) hu hd (by
    cases hq : P.info? T with
    | none => simp [hq] at hi
    | some i => simp [hq] at hi; simp [hi, hn])
theorem index_sl {T e : TypeId} {z : Value} {n b : Nat} (hT : P.underlying T = some (.slice e)) (hi : (P.info? e).map (fun i => (i.zero, i.size, i.bytes)) = some (some z, n, b)) (p off len cap k : Nat) (hk : k < len) (w : World) :
    (Instr.indexAt T (.slice (some ⟨p, off, none⟩) len cap) (.int .i64 (k : Int))).run P w = .ok (.pointer (some ⟨p, off + k * n, none⟩)) w := by
  have h0 : (0 : Int) ≤ k ∧ (k : Int) < len := by omega
  have hadd : (⟨p, off, none⟩ : Addr).add (k * n) = ⟨p, off + k * n, none⟩ := by unfold Addr.add; split <;> simp_all
  unfold Instr.indexAt
  simp [asIntOf, run_underlying hT, (info_zero hi w).2, h0, hadd, hk]
theorem mapUpdate_sl {T K E : TypeId} {m : Nat} {es : Array MapEntry} {c : Nat} (hT : P.underlying T = some (.map K E)) (hK : P.underlying K = some (.int .i64)) (hk : IntKeys es.toList) (k : Int) (v : Value) (h : Sat w (own m (.map es c) ^ A)) :
    ∃ w', (Instr.mapUpdate T (.map (some m)) (.int .i64 k) v).run P w = .ok () w' ∧ Sat w' (own m (.map (mput es c k v).1 (mput es c k v).2) ^ A) ∧ Flow w w' := by
  refine ⟨_, run_mapUpdate_int hT hK h.heap hk k v, h.turn ?_ ?_, ⟨rfl, rfl, rfl, by simp⟩⟩
  · simp [h.lt]
  · intro j _ hj
    simp [Array.getElem?_setIfInBounds_ne (Ne.symm hj)]
/-- A slice, read: where its cells lie. -/
theorem Sat.rowAt {w : World} {e size : Nat} {va : Option Addr} {vc n : Nat} {xs : List Value} {R : SP} (h : Sat w (rowS e size (.slice va n vc) n xs ^ R)) (hn : 0 < n) :
    ∃ g cur, va = some ⟨g, 0, none⟩ ∧ n ≤ vc ∧ vc ≤ maxLen ∧ cur.size = vc * size ∧ cur.toList.take (n * size) = xs ∧ Sat w (own g (.cells cur e (0, 0)) ^ R) := by
  obtain ⟨hl, ⟨h1, h2, _⟩ | ⟨g, cap, cur, hv, h3, h4, h5, h6, h7⟩⟩ := h.ofRow
  · omega
  · cases hv
    exact ⟨g, cur, rfl, h3, h4, h5, h6, h7⟩
theorem copy_sl {dT sT ty e : TypeId} (hu : P.underlying dT = some (.slice e)) (hsz : (P.info? e).map (·.size) = some 1) {g off dl dc : Nat} {cur : List Value} {t : TypeId} {v : Value} {n : Nat} {xs : List Value}
    (h : Sat w (own g (.cells cur.toArray t (0, 0)) ^ A)) (hr : RdC w v n xs) (hl : xs.length = n) (hfit : off + Nat.min n dl ≤ cur.length) (h1 : ∀ u ∈ xs, u.oneCell' = true) :
    ∃ w', (Builtin.copy_ #[dT, sT] ty #[.slice (some ⟨g, off, none⟩) dl dc, v]).run P w = .ok (.int .i64 (Nat.min n dl : Nat)) w' ∧ Sat w' (own g (.cells (splice cur off (xs.take (Nat.min n dl))).toArray t (0, 0)) ^ A) ∧ Flow w w' :=
  ⟨_, run_copy_sl dT sT ty e hu hsz g off dl dc cur t h.heap hr hl hfit h1, h.setRow, (Flow.refl w).setRow _ _⟩
/-- An array variable, sliced. -/
theorem sliceArr_sl {T e : TypeId} {N : Nat} {z : Value} {n b : Nat} (hT : P.underlying T = some (.array N e)) (hi : (P.info? e).map (fun i => (i.zero, i.size, i.bytes)) = some (some z, n, b)) (p off hi' : Nat) (hh : hi' ≤ N) (w : World) :
    (Instr.sliceAt T (.pointer (some ⟨p, off, none⟩)) none (some (.int .i64 (hi' : Int))) none).run P w = .ok (.slice (some ⟨p, off, none⟩) hi' N) w := by
  have h0 : (0 : Int) ≤ hi' ∧ (hi' : Int) ≤ N := by omega
  unfold Instr.sliceAt
  rw [run_of (run_underlying hT w)]
  simp only
  unfold Instr.sureAddr
  rw [run_of (w1 := w) (a := (⟨p, off, none⟩ : Addr)) (by simp)]
  have hb : (Instr.sliceBounds false N N none (some (.int .i64 (hi' : Int))) none).run P w = .ok (0, hi', N) w := by
    simp [Instr.sliceBounds, Instr.sliceBound, asIntOf, h0, hh]
  rw [run_of hb]
  simp only
  rw [run_of (info_zero hi w).2]
  simp [Addr.add]
theorem build1_sl {T e : TypeId} {k : IntKind} {b : Nat} (hT : P.underlying T = some (.slice e)) (hi : (P.info? e).map (fun i => (i.zero, i.size, i.bytes)) = some (some (.int k 0), 1, b)) (x : Int) (h : Sat w A) :
    ∃ g w', (Instr.buildSlice T 1 #[(0, .int k x)]).run P w = .ok (.slice (some ⟨g, 0, none⟩) 1 1) w' ∧ Sat w' (own g (.cells #[.int k x] e (0, 0)) ^ A) ∧ Flow w w' := by
  refine ⟨w.heap.size, w.alloc (.cells #[.int k x] e), ?_, h.alloc _, (Flow.refl w).alloc _⟩
  have e1 : (Array.map (fun x => [Value.int k 0][x % 1]?.getD default) (Array.range 1)).setIfInBounds 0 (.int k x) = #[.int k x] := by
    apply Array.ext'
    simp [List.range_succ]
  simp [Instr.buildSlice, run_underlying hT, (info_zero hi w).1, (info_zero hi w).2, Instr.fill, newRow, newObj, Value.cells, e1]
  rfl
theorem build2_sl {T e : TypeId} {k : IntKind} {b : Nat} (hT : P.underlying T = some (.slice e)) (hi : (P.info? e).map (fun i => (i.zero, i.size, i.bytes)) = some (some (.int k 0), 1, b)) (x y : Int) (h : Sat w A) :
    ∃ g w', (Instr.buildSlice T 2 #[(0, .int k x), (1, .int k y)]).run P w = .ok (.slice (some ⟨g, 0, none⟩) 2 2) w' ∧ Sat w' (own g (.cells #[.int k x, .int k y] e (0, 0)) ^ A) ∧ Flow w w' := by
  refine ⟨w.heap.size, w.alloc (.cells #[.int k x, .int k y] e), ?_, h.alloc _, (Flow.refl w).alloc _⟩
  have e1 : ((Array.map (fun x => [Value.int k 0][x % 1]?.getD default) (Array.range 2)).setIfInBounds 0 (.int k x)).setIfInBounds 1 (.int k y) = #[.int k x, .int k y] := by
    apply Array.ext'
    simp [List.range_succ]
  simp [Instr.buildSlice, run_underlying hT, (info_zero hi w).1, (info_zero hi w).2, Instr.fill, newRow, newObj, Value.cells, e1]
  rfl
end
end Go.Proofs.Ytehpdpdmjflddaa
