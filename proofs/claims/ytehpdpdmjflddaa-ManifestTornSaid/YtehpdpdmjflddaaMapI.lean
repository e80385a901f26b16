/-
  Maps whose keys are of the kind int: what a look-up and a store do to the list of entries. Plain laws over any program.
-/
import Derived.Test.YtehpdpdmjflddaaSL
namespace Go.Proofs.Ytehpdpdmjflddaa
open Go.RowKit

def isKey (k : Int) (e : MapEntry) : Bool :=
  match e.key with
  | .int .i64 j => k == j
  | _ => false
/-- The value at a key. -/
def mget : List MapEntry → Int → Option Value
  | [], _ => none
  | e :: es, k => if isKey k e then some e.val else mget es k
def IntKeys (es : List MapEntry) : Prop := ∀ e ∈ es, ∃ k, e.key = .int .i64 k
/-- Where a key stands. -/
def mfind (k : Int) : List MapEntry → Nat → Option (Nat × Value)
  | [], _ => none
  | e :: es, i => if isKey k e then some (i, e.val) else mfind k es (i + 1)
theorem mfind_get (k : Int) : ∀ (es : List MapEntry) (i : Nat), (mfind k es i).map (·.2) = mget es k
  | [], _ => rfl
  | e :: es, i => by
    unfold mfind mget
    split
    · rfl
    · exact mfind_get k es (i + 1)
theorem findNow_int (k : Int) : ∀ (es : List MapEntry) (i : Nat), IntKeys es → Instr.findNow (.int .i64) (.int .i64 k) es i = some (mfind k es i)
  | [], _, _ => rfl
  | e :: es, i, h => by
    obtain ⟨j, hj⟩ := h e (List.mem_cons_self ..)
    have ih := findNow_int k es (i + 1) (fun x hx => h x (List.mem_cons_of_mem _ hx))
    unfold Instr.findNow mfind
    by_cases hk : k = j
    · subst hk
      simp [hj, isKey, Instr.sameNow]
    · have : (k == j) = false := by simpa using hk
      simp [hj, isKey, Instr.sameNow, this, ih]
theorem run_findKey_int {P : Program} {K : TypeId} (hK : P.underlying K = some (.int .i64)) (k : Int) (es : List MapEntry) (h : IntKeys es) (w : World) :
    (Instr.findKey K (.int .i64 k) es).run P w = .ok (mfind k es 0) w := by
  simp [Instr.findKey, Sem.run_bind, run_underlying hK, findNow_int k es 0 h]
theorem run_checkKey_int {P : Program} {K : TypeId} (hK : P.underlying K = some (.int .i64)) (b : Bool) (n : Nat) (k : Int) (w : World) :
    (Instr.checkKey b (n + 1) K (.int .i64 k)).run P w = .ok () w := by
  simp [Instr.checkKey, Sem.run_bind, run_underlying hK]
/-- A look-up. -/
theorem run_lookup_int {P : Program} {T K E : TypeId} {m : Nat} {es : Array MapEntry} {c : Nat} {w : World} {z : Value} (hT : P.underlying T = some (.map K E)) (hK : P.underlying K = some (.int .i64))
    (hm : w.heap[m]? = some (.map es c)) (hk : IntKeys es.toList) (hz : ∀ w, (zeroValue E).run P w = .ok z w) (k : Int) :
    (Instr.lookup T (.map (some m)) (.int .i64 k) false).run P w = .ok ((mget es.toList k).getD z) w := by
  have hg := mfind_get k es.toList 0
  cases hf : mfind k es.toList 0 with
  | none =>
    rw [hf] at hg
    simp [Instr.lookup, Sem.run_bind, run_underlying hT, getObj, Sem.run, hm, run_checkKey_int hK, run_findKey_int hK k _ hk, hf, hz, ← hg]
  | some x =>
    rw [hf] at hg
    simp [Instr.lookup, Sem.run_bind, run_underlying hT, getObj, Sem.run, hm, run_checkKey_int hK, run_findKey_int hK k _ hk, hf, ← hg]
/-- The entries behind a store. -/
def mput (es : Array MapEntry) (c : Nat) (k : Int) (v : Value) : Array MapEntry × Nat :=
  match mfind k es.toList 0 with
  | some (i, _) => (es.modify i fun e => { e with key := .int .i64 k, val := v }, c)
  | none => (es.push { key := .int .i64 k, val := v, born := c }, c + 1)
theorem mfind_at (k : Int) : ∀ (es : List MapEntry) (i : Nat) (x : Nat × Value), mfind k es i = some x → ∃ j e, x.1 = i + j ∧ es[j]? = some e ∧ isKey k e = true
  | [], _, _, h => by cases h
  | e :: es, i, x, h => by
    unfold mfind at h
    split at h
    · rename_i hk
      cases h
      exact ⟨0, e, rfl, rfl, hk⟩
    · obtain ⟨j, e', h1, h2, h3⟩ := mfind_at k es (i + 1) x h
      exact ⟨j + 1, e', by omega, by simpa using h2, h3⟩
theorem isKey_eq {k : Int} {e : MapEntry} (h : isKey k e = true) : e.key = .int .i64 k := by
  unfold isKey at h
  split at h
  · rename_i j hj
    rw [hj]
    have : k = j := by simpa using h
    rw [this]
  · cases h
/-- A store. -/
theorem run_mapUpdate_int {P : Program} {T K E : TypeId} {m : Nat} {es : Array MapEntry} {c : Nat} {w : World} (hT : P.underlying T = some (.map K E)) (hK : P.underlying K = some (.int .i64))
    (hm : w.heap[m]? = some (.map es c)) (hk : IntKeys es.toList) (k : Int) (v : Value) :
    (Instr.mapUpdate T (.map (some m)) (.int .i64 k) v).run P w =
      .ok () { w with heap := w.heap.setIfInBounds m (.map (mput es c k v).1 (mput es c k v).2) } := by
  cases hf : mfind k es.toList 0 with
  | none =>
    simp [Instr.mapUpdate, Sem.run_bind, run_underlying hT, getObj, setObj, Sem.run, hm, run_checkKey_int hK, run_findKey_int hK k _ hk, hf, mput]
  | some x =>
    obtain ⟨j, e, h1, h2, h3⟩ := mfind_at k _ _ _ hf
    have h1' : x.1 = j := by omega
    have h2' : es[x.1]? = some e := by rw [h1']; simpa using h2
    have hs : ∀ w, (Instr.keyThatStays (.int .i64 k) (.int .i64 k)).run P w = .ok (.int .i64 k) w := fun w => by simp [Instr.keyThatStays, Instr.sameBits]
    simp [Instr.mapUpdate, Sem.run_bind, run_underlying hT, getObj, setObj, Sem.run, hm, run_checkKey_int hK, run_findKey_int hK k _ hk, hf, mput, h2', isKey_eq h3, hs]
theorem IntKeys.mput {es : Array MapEntry} {c : Nat} (h : IntKeys es.toList) (k : Int) (v : Value) : IntKeys (mput es c k v).1.toList := by
  unfold Ytehpdpdmjflddaa.mput
  split
  · rename_i i _ _
    intro e he
    rw [Array.toList_modify] at he
    obtain ⟨n, hn, rfl⟩ := List.getElem_of_mem he
    rw [List.getElem_modify]
    split
    · exact ⟨k, rfl⟩
    · exact h _ (List.getElem_mem _)
  · intro e he
    simp at he
    rcases he with he | rfl
    · exact h e (by simpa using he)
    · exact ⟨k, rfl⟩
theorem mget_append (a b : List MapEntry) (k : Int) : mget (a ++ b) k = (mget a k).or (mget b k) := by
  induction a with
  | nil => simp [mget]
  | cons e a ih =>
    simp only [List.cons_append, mget]
    split
    · rfl
    · exact ih
theorem mget_modify (k k' : Int) (v : Value) : ∀ (es : List MapEntry) (i : Nat) (x : Nat × Value), mfind k es i = some x →
    mget (es.modify (x.1 - i) fun e => { e with key := .int .i64 k, val := v }) k' = if k' = k then some v else mget es k'
  | [], _, _, h => by cases h
  | e :: es, i, x, h => by
    unfold mfind at h
    split at h
    · rename_i hk
      cases h
      simp only [Nat.sub_self, List.modify_zero_cons, mget, isKey]
      by_cases he : k' = k
      · simp [he]
      · have e1 : (k' == k) = false := by simpa using he
        have := isKey_eq hk
        simp [he, this]
    · rename_i hk
      obtain ⟨j, _, h1, _, _⟩ := mfind_at k es (i + 1) x h
      have ih := mget_modify k k' v es (i + 1) x h
      have e1 : x.1 - i = (x.1 - (i + 1)) + 1 := by omega
      rw [e1, List.modify_succ_cons]
      simp only [mget]
      rw [ih]
      by_cases he : k' = k
      · subst he
        simp only [hk]
        simp
      · simp [he]
theorem mget_mput (es : Array MapEntry) (c : Nat) (k k' : Int) (v : Value) : mget (mput es c k v).1.toList k' = if k' = k then some v else mget es.toList k' := by
  unfold mput
  cases hf : mfind k es.toList 0 with
  | some x => simpa using mget_modify k k' v es.toList 0 x hf
  | none =>
    have hg := mfind_get k es.toList 0
    rw [hf] at hg
    simp only [Array.toList_push, mget_append, mget, isKey]
    by_cases he : k' = k
    · subst he; simp [← hg]
    · simp [he]
end Go.Proofs.Ytehpdpdmjflddaa
