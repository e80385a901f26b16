/-
  Slices whose elements are data: reading, writing, making, appending, copying. Plain laws over any program.
-/
import Derived.Test.YtehpdpdmjflddaaRed
import Derived.Laws.MakeOwn
namespace Go.Proofs.Ytehpdpdmjflddaa
open Go.RowKit

/-- How elements lie in cells. -/
structure El (α : Type) where
  ty : TypeId
  sz : Nat
  enc : α → List Value
  len : ∀ x, (enc x).length = sz
  one : ∀ x, ∀ u ∈ enc x, u.oneCell' = true
  pos : 0 < sz
section
variable {α : Type} {E : El α} {P : Program} {A B R : SP} {w0 : World} {X Y : WP}
theorem El.length (E : El α) : ∀ xs : List α, (xs.flatMap E.enc).length = xs.length * E.sz
  | [] => by simp
  | x :: xs => by rw [List.flatMap_cons, List.length_append, E.len, El.length E xs, List.length_cons, Nat.add_mul, Nat.one_mul, Nat.add_comm]
theorem El.get (E : El α) : ∀ (xs : List α) (k f : Nat) (x : α) (v : Value), xs[k]? = some x → (E.enc x)[f]? = some v → (xs.flatMap E.enc)[k * E.sz + f]? = some v
  | [], k, _, _, _, h, _ => by simp at h
  | y :: xs, 0, f, x, v, h, hv => by
    cases h
    rw [List.flatMap_cons, Nat.zero_mul, Nat.zero_add, List.getElem?_append_left (by have := (List.getElem?_eq_some_iff.1 hv).1; exact this)]
    exact hv
  | y :: xs, k + 1, f, x, v, h, hv => by
    have h' : xs[k]? = some x := by simpa using h
    rw [List.flatMap_cons, List.getElem?_append_right (by rw [E.len, Nat.add_mul, Nat.one_mul]; omega), E.len]
    have e : (k + 1) * E.sz + f - E.sz = k * E.sz + f := by rw [Nat.add_mul, Nat.one_mul]; omega
    rw [e]
    exact El.get E xs k f x v h' hv
theorem El.ones (E : El α) (xs : List α) : ∀ u ∈ xs.flatMap E.enc, u.oneCell' = true := fun u hu => by
  obtain ⟨x, _, h⟩ := List.mem_flatMap.1 hu
  exact E.one x u h
theorem El.set (E : El α) : ∀ (xs : List α) (k : Nat) (x : α), k < xs.length → splice (xs.flatMap E.enc) (k * E.sz) (E.enc x) = (xs.set k x).flatMap E.enc
  | [], k, _, h => by simp at h
  | y :: xs, 0, x, h => by
    simp only [splice, Nat.zero_mul, List.take_zero, List.nil_append, Nat.zero_add, List.flatMap_cons, List.set_cons_zero, E.len]
    rw [List.drop_left' (E.len y)]
  | y :: xs, k + 1, x, h => by
    have ih := El.set E xs k x (by simpa using h)
    rw [List.set_cons_succ, List.flatMap_cons, List.flatMap_cons, ← ih]
    simp only [splice, E.len]
    rw [List.take_append, List.drop_append, E.len]
    have e1 : (k + 1) * E.sz - E.sz = k * E.sz := by rw [Nat.add_mul, Nat.one_mul]; omega
    have e2 : (k + 1) * E.sz + E.sz - E.sz = k * E.sz + E.sz := by rw [Nat.add_mul, Nat.one_mul]; omega
    rw [e1, e2, List.take_of_length_le (by rw [E.len, Nat.add_mul, Nat.one_mul]; omega), List.drop_eq_nil_of_le (as := E.enc y) (by rw [E.len, Nat.add_mul, Nat.one_mul]; omega)]
    simp
/-- A slice that owns its array from the head on. -/
def row (E : El α) (v : Value) (xs : List α) : SP := rowS E.ty E.sz v xs.length (xs.flatMap E.enc)
/-- Whoever bears R can read it. -/
def Rds (E : El α) (R : SP) (v : Value) (xs : List α) : Prop := ∀ w, Sat w R → RdC w v xs.length (xs.flatMap E.enc)
theorem rds_row {v : Value} {xs : List α} : Rds E (row E v xs ^ R) v xs := fun _ hs => Sat.rdRow hs
theorem Rds.sub {v : Value} {xs : List α} (h : Rds E R v xs) (i : ∀ w, Sat w A → Sat w R) : Rds E A v xs := fun w hs => h w (i w hs)
theorem Rds.right {v : Value} {xs : List α} (h : Rds E R v xs) : Rds E (A ^ R) v xs := h.sub fun _ hs => hs.right
theorem Rds.left {v : Value} {xs : List α} (h : Rds E R v xs) : Rds E (R ^ A) v xs := h.sub fun _ hs => hs.left
/-- R is a part of A. -/
class Part (A R : SP) : Prop where
  sub : ∀ w, Sat w A → Sat w R
instance : Part A A := ⟨fun _ h => h⟩
instance : Part (A ^ R) R := ⟨fun _ h => h.right⟩
instance : Part (R ^ A) R := ⟨fun _ h => h.left⟩
instance [h : Part B R] : Part (A ^ B) R := ⟨fun _ hs => h.sub _ hs.right⟩
theorem Rds.part {v : Value} {xs : List α} (h : Rds E R v xs) [p : Part A R] : Rds E A v xs := h.sub p.sub
theorem Rds.shape {v : Value} {xs : List α} (h : Rds E R v xs) {w : World} (hs : Sat w R) : ∃ a c, v = .slice a xs.length c ∧ xs.length ≤ c ∧ c ≤ maxLen := by
  obtain ⟨a, c, h1, h2, h3, _⟩ := h w hs
  exact ⟨a, c, h1, h2, h3⟩
/-- What a slice's row is, told with its length. -/
theorem t_shape {v : Value} {xs : List α} (h : Rds E A v xs) (k : ∀ a c, v = .slice a xs.length c → xs.length ≤ c → c ≤ maxLen → Tri A w0 X) : Tri A w0 X := fun w hs hf => by
  obtain ⟨a, c, h1, h2, h3⟩ := h.shape hs
  exact k a c h1 h2 h3 w hs hf
class RowIn (A : SP) (E : El α) (v : Value) (xs : outParam (List α)) (R : outParam SP) : Prop where
  eq : A = (row E v xs ^ R)
instance {v : Value} {xs : List α} : RowIn (row E v xs ^ R) E v xs R := ⟨rfl⟩
instance {v : Value} {xs : List α} : RowIn (row E v xs) E v xs emp := ⟨(star_emp _).symm⟩
instance {v : Value} {xs : List α} [h : RowIn A E v xs R] : RowIn (B ^ A) E v xs (B ^ R) := ⟨by rw [h.eq]; ac_rfl⟩
theorem rdR (E : El α) {v : Value} {xs : List α} [h : RowIn A E v xs R] : Rds E A v xs := by rw [h.eq]; exact rds_row
theorem slT_info {T e n b : Nat} {z : List Value} (h : SlT P T e n b z) : ∃ zv, (P.info? e).map (fun i => (i.zero, i.size, i.bytes)) = some (some zv, n, b) ∧ zv.cells = ⟨z⟩ := h.inf
/-- An element, read. -/
theorem t_ixld {T t et b f : Nat} (k : Nat) {z : List Value} {a : Option Addr} {n c : Nat} {i : Int} {xs : List α} {x : α} {u : Value} {next : Value → WP} [hT : SlT P T et E.sz b z] [ht : CellT P t] (hb : Rds E A (.slice a n c) xs) (hi : i = (k : Nat)) (hx : xs[k]? = some x) (hu : (E.enc x)[f]? = some u) (h : Tri A w0 (next u)) :
    Tri A w0 (sem P (Instr.indexAt T (.slice a n c) (.int .i64 i)) fun v => asA v fun p => sem P (Instr.loadAt t (.pointer (some (p.add f)))) next) := fun w hs hf => by
  obtain ⟨a', c', hv, h1, h2, h3⟩ := hb w hs
  cases hv
  have hk : k < xs.length := (List.getElem?_eq_some_iff.1 hx).1
  obtain ⟨g, off, rfl, hc⟩ := h3 (by omega)
  obtain ⟨zv, hinf, _⟩ := hT.inf
  subst hi
  refine ⟨_, w, index_sl hT.und hinf g off xs.length c k hk w, ⟨g, off + k * E.sz, none⟩, rfl, u, w, run_load_cell ht.ok.1 ?_, h w hs hf⟩
  have e : (⟨g, off + k * E.sz, none⟩ : Addr).add f = ⟨g, off + (k * E.sz + f), none⟩ := by unfold Addr.add; split <;> simp_all [Nat.add_assoc]
  rw [e]
  exact hc _ _ (E.get xs k f x u hx hu)
theorem t_ixld0 {T t et b : Nat} (k : Nat) {z : List Value} {a : Option Addr} {n c : Nat} {i : Int} {xs : List α} {x : α} {u : Value} {next : Value → WP} [hT : SlT P T et E.sz b z] [ht : CellT P t] (hb : Rds E A (.slice a n c) xs) (hi : i = (k : Nat)) (hx : xs[k]? = some x) (hu : (E.enc x)[0]? = some u) (h : Tri A w0 (next u)) :
    Tri A w0 (sem P (Instr.indexAt T (.slice a n c) (.int .i64 i)) fun v => asA v fun p => sem P (Instr.loadAt t (.pointer (some p))) next) := by
  have := t_ixld (P := P) (T := T) (t := t) (f := 0) (w0 := w0) (next := next) k hb hi hx hu h
  simpa [Addr.add] using this
/-- A whole element, read. -/
theorem t_ixldR {T t et b m : Nat} (k : Nat) {z : List Value} {a : Option Addr} {n c : Nat} {i : Int} {xs : List α} {x : α} {next : Value → WP} [hT : SlT P T et E.sz b z] [ht : RowT P t m] (hm : m = E.sz) (hb : Rds E A (.slice a n c) xs) (hi : i = (k : Nat)) (hx : xs[k]? = some x) (h : Tri A w0 (next (.agg ⟨E.enc x⟩))) :
    Tri A w0 (sem P (Instr.indexAt T (.slice a n c) (.int .i64 i)) fun v => asA v fun p => sem P (Instr.loadAt t (.pointer (some p))) next) := fun w hs hf => by
  obtain ⟨a', c', hv, h1, h2, h3⟩ := hb w hs
  cases hv
  have hk : k < xs.length := (List.getElem?_eq_some_iff.1 hx).1
  obtain ⟨g, off, rfl, hc⟩ := h3 (by omega)
  obtain ⟨zv, hinf, _⟩ := hT.inf
  subst hi
  refine ⟨_, w, index_sl hT.und hinf g off xs.length c k hk w, ⟨g, off + k * E.sz, none⟩, rfl, _, w, ?_, h w hs hf⟩
  have hr := ht.ok.1
  unfold isRowT at hr
  cases hu : P.underlying t with
  | none => rw [hu] at hr; cases hr
  | some d =>
    cases hinf2 : P.info? t with
    | none => rw [hu, hinf2] at hr; cases hr
    | some inf =>
      rw [hu, hinf2] at hr
      simp only [Bool.and_eq_true] at hr
      have hsz : inf.size = m := Nat.eq_of_beq_eq_true hr.2
      exact run_loadAt_mid w g (off + k * E.sz) t (E.enc x) d (fun j u hj => by
        have := hc _ _ (E.get xs k j x u hx hj)
        rwa [← Nat.add_assoc] at this) hu hr.1 (by simp [hinf2, hsz, hm, E.len])
/-- An element, written whole; its type has one cell. -/
theorem t_ixst (E : El α) {T t et b : Nat} {z : List Value} {a : Option Addr} {n c : Nat} {i : Int} {xs : List α} (k : Nat) (x : α) {u : Value} {next : Unit → WP} [hT : SlT P T et E.sz b z] [ht : CellT P t] [hr : RowIn A E (.slice a n c) xs R] (hi : i = (k : Nat)) (hk : k < xs.length) (hu : E.enc x = [u]) (h : Tri (row E (.slice a n c) (xs.set k x) ^ R) w0 (next ())) :
    Tri A w0 (sem P (Instr.indexAt T (.slice a n c) (.int .i64 i)) fun v => asA v fun p => sem P (Instr.storeAt t (.pointer (some p)) u) next) := fun w hs hf => by
  rw [hr.eq] at hs
  obtain ⟨hl, ⟨_, h0, _⟩ | ⟨g, cap, cur, hv, h1, h2, h3, h4, h5⟩⟩ := hs.ofRow
  · omega
  cases hv
  obtain ⟨zv, hinf, _⟩ := hT.inf
  subst hi
  have hsz1 : E.sz = 1 := by rw [← E.len x, hu]; rfl
  have hcur : cur = ⟨cur.toList⟩ := rfl
  have hkc : k * E.sz < cur.size := by rw [h3, hsz1]; omega
  obtain ⟨w', hr', hs', hf'⟩ := store_at (P := P) (t := t) (b := g) (i := k * E.sz) (l := cur.toList) (e := E.ty) (v := u) (vs := [u]) (n := 1) (R := R) (by
    have := E.one x u (by rw [hu]; simp)
    cases u <;> first | rfl | (cases this; done)) ht.ok.2 rfl (by
    have := E.one x u (by rw [hu]; simp)
    simpa using this) (by simp; omega) h5
  refine ⟨_, w, index_sl hT.und hinf g 0 xs.length c k hk w, ⟨g, k * E.sz, none⟩, by simp, (), w', hr', h w' ?_ (hf.trans hf')⟩
  unfold row
  rw [List.length_set]
  refine Sat.toRow hs' h1 h2 ?_ ?_
  · simp [splice, hsz1] at *; omega
  · rw [← E.set xs k x hk, hu, ← h4]
    simp only [splice]
    have e1 : (xs.length * E.sz) = xs.length := by rw [hsz1, Nat.mul_one]
    have e2 : k * E.sz = k := by rw [hsz1, Nat.mul_one]
    rw [e1, e2]
    simp only [List.length_singleton]
    rw [List.take_append, List.take_append, List.length_take]
    simp only [List.take_take, List.length_append, List.length_take, List.length_singleton]
    have hkl : k < cur.toList.length := by simpa [e2] using hkc
    have e3 : min k cur.toList.length = k := by omega
    have e4 : min xs.length k = k := by omega
    have e5 : min k xs.length = k := by omega
    rw [e3, e4, e5, List.take_of_length_le (l := [u]) (by simp; omega), List.drop_take, Nat.sub_sub]
theorem made_flat (E : El α) (x : α) : ∀ c : Nat, (madeCells ⟨E.enc x⟩ (c * E.sz)).toList = (List.replicate c x).flatMap E.enc := fun c => by
  apply List.ext_getElem?
  intro j
  have hE := E.pos
  by_cases hj : j < c * E.sz
  · have hq : j / E.sz < c := Nat.div_lt_of_lt_mul (by rw [Nat.mul_comm]; exact hj)
    have hm : j % E.sz < E.sz := Nat.mod_lt _ hE
    have hj' : (j / E.sz) * E.sz + j % E.sz = j := by rw [Nat.mul_comm]; exact Nat.div_add_mod j E.sz
    have hlt : j % E.sz < (E.enc x).length := by rw [E.len]; exact hm
    have h1 := E.get (List.replicate c x) (j / E.sz) (j % E.sz) x ((E.enc x)[j % E.sz]) (by rw [List.getElem?_replicate, if_pos hq]) (List.getElem?_eq_getElem hlt)
    rw [hj'] at h1
    rw [h1]
    unfold madeCells
    simp only [Array.toList_map, Array.toList_range, List.getElem?_map, List.getElem?_range hj, Option.map_some, List.size_toArray, E.len]
    congr 1
    simp [getElem!_pos, hlt]
  · have h2 : ((List.replicate c x).flatMap E.enc).length = c * E.sz := by rw [E.length, List.length_replicate]
    rw [List.getElem?_eq_none (by unfold madeCells; simpa using hj), List.getElem?_eq_none (by omega)]
/-- A slice is made. -/
theorem t_make {T b : Nat} {z : List Value} {n c : Int} (x : α) {next : Value → WP} [hT : SlT P T E.ty E.sz b z] (hz : E.enc x = z) (h0 : 0 ≤ n) (h1 : n ≤ c) (h2 : (b : Int) * c ≤ 281474976710656) (hc : c ≤ 9223372036854775807)
    (h : ∀ g, Tri (row E (.slice (some ⟨g, 0, none⟩) n.toNat c.toNat) (List.replicate n.toNat x) ^ A) w0 (next (.slice (some ⟨g, 0, none⟩) n.toNat c.toNat))) : Tri A w0 (sem P (Instr.makeSlice T (.int .i64 n) (.int .i64 c)) next) := by
  obtain ⟨zv, hinf, hzc⟩ := hT.inf
  refine t_semX (v := fun g : Nat => Value.slice (some ⟨g, 0, none⟩) n.toNat c.toNat) (B := fun g => row E (.slice (some ⟨g, 0, none⟩) n.toNat c.toNat) (List.replicate n.toNat x) ^ A) (fun w hs => ?_) h
  obtain ⟨i, hi⟩ : ∃ i, P.info? E.ty = some i := by
    cases hi : P.info? E.ty with
    | none => simp [hi] at hinf
    | some i => exact ⟨i, rfl⟩
  simp only [hi, Option.map_some, Option.some.injEq, Prod.mk.injEq] at hinf
  obtain ⟨hz1, hz2, hz3⟩ := hinf
  have hm := made_flat E x c.toNat
  rw [hz, ← hzc] at hm
  refine ⟨w.heap.size, _, run_make w T E.ty i zv hT.und hi hz1 .i64 .i64 n c h0 h1 (by rw [hz3]; exact h2) hc, ?_, (Flow.refl w).alloc _⟩
  rw [hz2]
  unfold row
  rw [List.length_replicate]
  refine Sat.toRow (hs.alloc _) (by omega) (by unfold maxLen; omega) ?_ ?_
  · rw [← Array.length_toList, hm, E.length, List.length_replicate]
  · rw [hm]
    have e : List.replicate c.toNat x = List.replicate n.toNat x ++ List.replicate (c.toNat - n.toNat) x := by
      rw [List.replicate_append_replicate]
      congr 1
      omega
    rw [e, List.flatMap_append, List.take_left' (by rw [E.length, List.length_replicate])]
theorem t_makeN (E : El α) {T b : Nat} {z : List Value} {n c : Int} (n' c' : Nat) (x : α) {next : Value → WP} [hT : SlT P T E.ty E.sz b z] (hn : n = n') (hc : c = c') (hz : E.enc x = z) (h1 : n' ≤ c') (h2 : b * c' ≤ 281474976710656) (h63 : c' ≤ 9223372036854775807)
    (h : ∀ g, Tri (row E (.slice (some ⟨g, 0, none⟩) n' c') (List.replicate n' x) ^ A) w0 (next (.slice (some ⟨g, 0, none⟩) n' c'))) : Tri A w0 (sem P (Instr.makeSlice T (.int .i64 n) (.int .i64 c)) next) := by
  subst hn hc
  exact t_make x hz (by omega) (by omega) (by rw [← Int.natCast_mul]; omega) (by omega) h
/-- A new slice of one element. -/
theorem t_build1 (E : El α) {T b : Nat} {z l : List Value} {u : Value} (x : α) {next : Value → WP} [hT : SlT P T E.ty E.sz b z] [hc : Cells u l] (hx : E.enc x = l) (hsm : E.sz ≤ 65536)
    (h : ∀ g, Tri (row E (.slice (some ⟨g, 0, none⟩) 1 1) [x] ^ A) w0 (next (.slice (some ⟨g, 0, none⟩) 1 1))) : Tri A w0 (sem P (Instr.buildSlice T 1 #[(0, u)]) next) := by
  obtain ⟨zv, hinf, hzc⟩ := hT.inf
  refine t_semX (v := fun g : Nat => Value.slice (some ⟨g, 0, none⟩) 1 1) (B := fun g => row E (.slice (some ⟨g, 0, none⟩) 1 1) [x] ^ A) (fun w hs => ?_) h
  obtain ⟨i, hi, hz, hz1, hz2⟩ := info_parts hinf
  have hlen : l.length = E.sz := by rw [← hx, E.len]
  refine ⟨w.heap.size, _, run_buildSlice_one T E.ty i zv hT.und hi hz (by rw [hz1]; exact E.pos) (by rw [hz1]; exact hsm) u (by rw [hc.eq, hz1]; simpa using hlen) w, ?_, (Flow.refl w).alloc _⟩
  unfold row
  refine Sat.toRow (hs.alloc _) (Nat.le_refl _) (by unfold maxLen; simp) ?_ ?_
  · rw [hc.eq]; simpa using hlen
  · rw [hc.eq]
    simp only [Nat.one_mul, List.length_singleton, List.flatMap_cons, List.flatMap_nil, List.append_nil, hx]
    exact List.take_of_length_le (by simpa using Nat.le_of_eq hlen)
theorem t_build0 {T b : Nat} {z : List Value} {next : Value → WP} (E : El α) [hT : SlT P T E.ty E.sz b z] (h : ∀ g, Tri (row E (.slice (some ⟨g, 0, none⟩) 0 0) [] ^ A) w0 (next (.slice (some ⟨g, 0, none⟩) 0 0))) : Tri A w0 (sem P (Instr.buildSlice T 0 #[]) next) := by
  obtain ⟨zv, hinf, hzc⟩ := hT.inf
  refine t_semX (v := fun g : Nat => Value.slice (some ⟨g, 0, none⟩) 0 0) (B := fun g => row E (.slice (some ⟨g, 0, none⟩) 0 0) [] ^ A) (fun w hs => ?_) h
  obtain ⟨i, hi, hz, hz1, hz2⟩ := info_parts hinf
  refine ⟨w.heap.size, w.alloc (.cells #[] E.ty), ?_, ?_, (Flow.refl w).alloc _⟩
  · have e0 : (Array.map (fun _ => (default : Value)) (Array.range 0)) = #[] := by rw [Array.range_zero']; simp
    simp [Instr.buildSlice, run_underlying hT.und, sizeOf, typeInfo, hi, Instr.fill, newRow, newObj, e0]
    rfl
  · unfold row
    exact Sat.toRow (hs.alloc _) (Nat.le_refl _) (by unfold maxLen; simp) (by simp) (by simp)
theorem row_nil {v : Value} (hv : v = .slice none 0 0) : row E v ([] : List α) = emp := by subst hv; exact rowS_nil _ _
theorem rds_cells {w : World} {v : Value} {n : Nat} {xs : List Value} (h : RdC w v n xs) (hl : xs.length = 0 ∨ 0 < n) : ∃ a c, v = .slice a n c ∧ ∀ j u, xs[j]? = some u → ∃ ad, a = some ad ∧ w.cell? (ad.add j) = some u := by
  obtain ⟨a, c, rfl, _, _, h3⟩ := h
  refine ⟨a, c, rfl, fun j u hu => ?_⟩
  have hn : 0 < n := by
    rcases hl with h0 | h0
    · have := (List.getElem?_eq_some_iff.1 hu).1; omega
    · exact h0
  obtain ⟨b, off, rfl, hc⟩ := h3 hn
  refine ⟨_, rfl, ?_⟩
  have hadd : (⟨b, off, none⟩ : Addr).add j = ⟨b, off + j, none⟩ := by unfold Addr.add; split <;> simp_all
  rw [hadd]
  exact hc j u hu
/-- append to an owned slice. -/
theorem t_append {T ty b : Nat} {z : List Value} {v : Value} {a : Option Addr} {m c : Nat} {xs ys : List α} {next : Value → WP} [hT : SlT P T E.ty E.sz b z] [hr : RowIn A E v xs R] (hs : Rds E A (.slice a m c) ys) (h63 : xs.length + ys.length ≤ 9223372036854775807) (hby : (xs.length + ys.length) * b ≤ 140737488355328)
    (h : ∀ a' c', Tri (row E (.slice a' (xs.length + ys.length) c') (xs ++ ys) ^ R) w0 (next (.slice a' (xs.length + ys.length) c'))) : Tri A w0 (sem P (Builtin.append_ #[T, T] ty #[v, .slice a m c]) next) := by
  obtain ⟨zv, hinf, hzc⟩ := hT.inf
  refine t_semX (v := fun x : Option Addr × Nat => Value.slice x.1 (xs.length + ys.length) x.2) (B := fun x => row E (.slice x.1 (xs.length + ys.length) x.2) (xs ++ ys) ^ R) (fun w hw => ?_) fun x => h x.1 x.2
  obtain ⟨i, hi, hz, hz1, hz2⟩ := info_parts hinf
  have hrd := hs w hw
  have hrow : Sat w (rowS E.ty E.sz v xs.length (xs.flatMap E.enc) ^ R) := by have := hw; rw [hr.eq] at this; exact this
  obtain ⟨a0, c0, hv0, hcells⟩ := rds_cells hrd (by by_cases h0 : ys.length = 0
                                                    · exact .inl (by rw [E.length, h0, Nat.zero_mul])
                                                    · exact .inr (by omega))
  cases hv0
  obtain ⟨v', w', h1, h2, h3⟩ := run_append_sl (P := P) T ty E.ty i zv E.sz b hT.und hi hz hz1 hz2 (by rw [hzc]; have := hz1; exact (by
    have hzsz : z.length = E.sz := hT.zlen
    simpa using hzsz)) E.pos v xs.length (xs.flatMap E.enc) hrow a ys.length c (ys.flatMap E.enc) (E.length ys) hcells (E.ones ys) (by unfold maxLen; omega) hby
  obtain ⟨va, vc, rfl⟩ := h2.shape
  refine ⟨(va, vc), w', h1, ?_, h3⟩
  unfold row
  rw [List.length_append, List.flatMap_append]
  exact h2
theorem rds_nil : Rds E A (.slice none 0 0) ([] : List α) := fun _ _ => ⟨none, 0, rfl, Nat.le_refl _, by unfold maxLen; omega, fun h => absurd h (Nat.lt_irrefl _)⟩
/-- append of one element. -/
theorem t_app1 (E : El α) {T ty b : Nat} {z l : List Value} {v u : Value} {xs : List α} (x : α) {next : Value → WP} [hT : SlT P T E.ty E.sz b z] [hc : Cells u l] [hr : RowIn A E v xs R] (hx : E.enc x = l) (hsm : E.sz ≤ 65536) (h63 : xs.length + 1 ≤ 9223372036854775807) (hby : (xs.length + 1) * b ≤ 140737488355328)
    (h : ∀ a' c', Tri (row E (.slice a' (xs.length + 1) c') (xs ++ [x]) ^ R) w0 (next (.slice a' (xs.length + 1) c'))) :
    Tri A w0 (sem P (Instr.buildSlice T 1 #[(0, u)]) fun v1 => asS v1 fun a n c => sem P (Builtin.append_ #[T, T] ty #[v, .slice a n c]) next) := by
  refine t_build1 E x hx hsm fun g => t_asS ?_
  refine t_append (E := E) (xs := xs) (ys := [x]) (R := row E (.slice (some ⟨g, 0, none⟩) 1 1) [x] ^ R) (hr := ⟨by rw [hr.eq]; ac_rfl⟩) rds_row h63 hby fun a' c' => ?_
  exact Tri.imp (h a' c') fun w hw => (hw.as (B := row E (.slice (some ⟨g, 0, none⟩) 1 1) [x] ^ (row E (.slice a' (xs.length + 1) c') (xs ++ [x]) ^ R)) (by rw [List.length_singleton]; ac_rfl)).right
/-- A part of a slice that is read. -/
theorem t_slice {T et b : Nat} {z : List Value} {a : Option Addr} {n c : Nat} {lo hi : Option Value} {xs : List α} (l h : Nat) {next : Value → WP} [hT : SlT P T et E.sz b z] (hs : Rds E A (.slice a n c) xs)
    (hlo : (lo = none ∧ l = 0) ∨ lo = some (.int .i64 (l : Int))) (hhi : (hi = none ∧ h = xs.length) ∨ hi = some (.int .i64 (h : Int))) (hlh : l ≤ h) (hhn : h ≤ xs.length)
    (k : ∀ a' c', Rds E A (.slice a' (h - l) c') ((xs.take h).drop l) → Tri A w0 (next (.slice a' (h - l) c'))) : Tri A w0 (sem P (Instr.sliceAt T (.slice a n c) lo hi none) next) := fun w hw hf => by
  obtain ⟨zv, hinf, hzc⟩ := hT.inf
  obtain ⟨a0, c0, hv0, hnc, hcm, hcell⟩ := hs w hw
  cases hv0
  have hb : (Instr.sliceBounds true xs.length c lo hi none).run P w = .ok (l, h, c) w := by
    rcases hlo with ⟨rfl, rfl⟩ | rfl <;> rcases hhi with ⟨rfl, rfl⟩ | rfl
    · simp [Instr.sliceBounds]
    · simp [Instr.sliceBounds, Instr.sliceBound, asIntOf, show (0 : Int) ≤ h ∧ (h : Int) ≤ c by omega, show h ≤ c by omega]
    · simp [Instr.sliceBounds, Instr.sliceBound, asIntOf, show (0 : Int) ≤ l ∧ (l : Int) ≤ (xs.length : Int) by omega, show l ≤ xs.length by omega]
    · simp [Instr.sliceBounds, Instr.sliceBound, asIntOf, show (0 : Int) ≤ h ∧ (h : Int) ≤ c by omega, show h ≤ c by omega, show (0 : Int) ≤ l ∧ (l : Int) ≤ (h : Int) by omega, hlh]
  have hrun : (Instr.sliceAt T (.slice a xs.length c) lo hi none).run P w = .ok (.slice (if c = l then a else a.map (·.add (l * E.sz))) (h - l) (c - l)) w := by
    unfold Instr.sliceAt
    rw [run_of (run_underlying hT.und w)]
    simp only
    unfold Instr.slice
    rw [run_of (run_underlying hT.und w)]
    simp only
    rw [run_of hb]
    simp only
    rw [run_of (info_zero hinf w).2]
    rfl
  refine ⟨_, w, hrun, k _ _ (fun w2 hw2 => ?_) w hw hf⟩
  obtain ⟨a2, c2, hv2, hnc2, hcm2, hcell2⟩ := hs w2 hw2
  cases hv2
  have hlen : ((xs.take h).drop l).length = h - l := by simp; omega
  rw [hlen]
  refine ⟨_, _, rfl, by omega, by omega, fun hpos => ?_⟩
  obtain ⟨bb, off, rfl, hc⟩ := hcell2 (by omega)
  have hcl : ¬ c = l := by omega
  refine ⟨bb, off + l * E.sz, ?_, fun j u hu => ?_⟩
  · rw [if_neg hcl]
    simp only [Option.map_some, Option.some.injEq]
    unfold Addr.add
    split
    · rename_i e; rw [e, Nat.add_zero]
    · rfl
  · have e : ((xs.take h).drop l).flatMap E.enc = ((xs.flatMap E.enc).take (h * E.sz)).drop (l * E.sz) := by
      conv => rhs; rw [← List.take_append_drop h xs, List.flatMap_append, List.take_left' (by rw [E.length, List.length_take, Nat.min_eq_left hhn])]
      conv => rhs; rw [← List.take_append_drop l (xs.take h), List.flatMap_append, List.drop_left' (by rw [E.length, List.length_take, List.length_take, Nat.min_eq_left (by omega)])]
    rw [e, List.getElem?_drop, List.getElem?_take] at hu
    split at hu
    · have := hc _ _ hu
      rwa [← Nat.add_assoc] at this
    · cases hu
/-- Division of what is not below nought. -/
theorem t_remN {t : TypeId} {q : IntKind} {i y : Int} (x m : Nat) {next : Value → WP} (hx : i = x) (hy : y = m) (hm : 0 < m) (k : Tri A w0 (next (.int q ((x % m : Nat) : Int)))) : Tri A w0 (sem P (binOp .rem t (.int q i) (.int q y)) next) := t_semQ (fun w _ => by
  subst hx hy
  have h0 : ¬ (m : Int) = 0 := by omega
  have h1 : ((x : Int).tmod (m : Int)) = ((x % m : Nat) : Int) := rfl
  unfold binOp Op.intDiv
  simp only [ne_eq, not_true_eq_false, if_false, if_neg h0, h1]
  rfl) k
theorem t_quoN {t : TypeId} {i y : Int} (x m : Nat) {next : Value → WP} (hx : i = x) (hy : y = m) (hm : 0 < m) (hx63 : x ≤ 9223372036854775807) (k : Tri A w0 (next (.int .i64 ((x / m : Nat) : Int)))) : Tri A w0 (sem P (binOp .quo t (.int .i64 i) (.int .i64 y)) next) := t_semQ (fun w _ => by
  subst hx hy
  have h0 : ¬ (m : Int) = 0 := by omega
  have h1 : ((x : Int).tdiv (m : Int)) = ((x / m : Nat) : Int) := rfl
  have h2 : x / m ≤ x := Nat.div_le_self _ _
  generalize x / m = q at h1 h2
  have h3 : IntKind.i64.wrap (q : Int) = q := wrap_in (k := .i64) (by simp [IntKind.min, IntKind.bits, IntKind.signed] <;> omega) (by simp [IntKind.max, IntKind.bits, IntKind.signed] <;> omega)
  unfold binOp Op.intDiv
  simp only [ne_eq, not_true_eq_false, if_false, if_neg h0, h1, h3]
  rfl) k
-- pinned regions
theorem t_pin {b : Nat} {c : Array Value} {e : TypeId} {fz : Nat × Nat} {f : Pins → WP} [h : Own A b (.cells c e fz) R] (k : Tri A w0 (f [(b, .cells c e fz)])) : Tri A w0 (pinW f) := fun w hs hf =>
  ⟨[(b, .cells c e fz)], fun x hx => by
    obtain rfl := List.mem_singleton.1 hx
    exact ⟨(own_sat (b := b) hs).heap, c, e, fz, rfl⟩, k w.drew hs.drew hf.drew⟩
theorem t_pin2 {b d : Nat} {c c2 : Array Value} {e e2 : TypeId} {fz fz2 : Nat × Nat} {R2 : SP} {f : Pins → WP} [h : Own A b (.cells c e fz) R] [h2 : Own A d (.cells c2 e2 fz2) R2] (k : Tri A w0 (f [(b, .cells c e fz), (d, .cells c2 e2 fz2)])) : Tri A w0 (pinW f) := fun w hs hf =>
  ⟨[(b, .cells c e fz), (d, .cells c2 e2 fz2)], fun x hx => by
    rcases List.mem_cons.1 hx with rfl | hx
    · exact ⟨(own_sat (b := b) hs).heap, c, e, fz, rfl⟩
    · obtain rfl := List.mem_singleton.1 hx
      exact ⟨(own_sat (b := d) hs).heap, c2, e2, fz2, rfl⟩, k w.drew hs.drew hf.drew⟩
instance : Red A (chkW [] X) A X := ⟨fun _ h => h.use fun _ h => ⟨fun _ hx => (by cases hx), h⟩⟩
instance {b : Nat} {o : Obj} {L : Pins} [h : Own A b o R] : Red A (chkW ((b, o) :: L) X) A (chkW L X) := ⟨fun _ k w hs hf => ⟨fun x hx => by
  rcases List.mem_cons.1 hx with rfl | hx
  · exact (own_sat (b := b) hs).heap
  · exact (k w hs hf).1 x hx, (k w hs hf).2⟩⟩
class InPins (L : Pins) (b : Nat) : Prop where
  mem : ∃ o, (b, o) ∈ L
instance {b : Nat} {o : Obj} {L : Pins} : InPins ((b, o) :: L) b := ⟨o, List.mem_cons_self ..⟩
instance {b : Nat} {x : Nat × Obj} {L : Pins} [h : InPins L b] : InPins (x :: L) b := ⟨by obtain ⟨o, h⟩ := h.mem; exact ⟨o, List.mem_cons_of_mem _ h⟩⟩
instance {L : Pins} : Red A (endW L [] X) A X := ⟨fun _ h => h.use fun _ h => ⟨fun _ hx => (by cases hx), h⟩⟩
instance {L : Pins} {p : Addr} {b i : Nat} {ads : List (Option Addr)} [ha : AddrIs p b i] [h : InPins L b] : Red A (endW L (some p :: ads) X) A (endW L ads X) := ⟨fun _ k => k.use fun _ hk => ⟨fun x hx => by
  rcases List.mem_cons.1 hx with rfl | hx
  · obtain ⟨o, h⟩ := h.mem
    exact ⟨p, o, rfl, by rw [ha.eq]; exact h⟩
  · exact hk.1 x hx, hk.2⟩⟩
-- many alike
def bigS (f : α → SP) : List α → SP
  | [] => emp
  | x :: l => f x ^ bigS f l
theorem bigS_append (f : α → SP) : ∀ a b : List α, bigS f (a ++ b) = (bigS f a ^ bigS f b)
  | [], b => by rw [List.nil_append]; exact (emp_star _).symm
  | x :: a, b => by
    show (f x ^ bigS f (a ++ b)) = ((f x ^ bigS f a) ^ bigS f b)
    rw [bigS_append f a b, star_assoc]
theorem bigS_one (f : α → SP) (x : α) : bigS f [x] = f x := star_emp _
theorem bigS_snoc (f : α → SP) (l : List α) (x : α) : bigS f (l ++ [x]) = (bigS f l ^ f x) := by rw [bigS_append, bigS_one]
theorem bigS_set (f : α → SP) : ∀ (l : List α) (k : Nat) (x : α), k < l.length → bigS f (l.set k x) = (f x ^ bigS f (l.eraseIdx k))
  | y :: l, 0, x, _ => rfl
  | y :: l, k + 1, x, h => by
    show (f y ^ bigS f (l.set k x)) = (f x ^ (f y ^ bigS f (l.eraseIdx k)))
    rw [bigS_set f l k x (by simpa using h)]
    ac_rfl
theorem bigS_get (f : α → SP) (l : List α) (k : Nat) (x : α) (h : l[k]? = some x) : bigS f l = (f x ^ bigS f (l.eraseIdx k)) := by
  obtain ⟨hk, e⟩ := List.getElem?_eq_some_iff.1 h
  have := bigS_set f l k x hk
  rw [← e, List.set_getElem_self] at this
  rw [this, e]
theorem rds_bigS {β : Type} {f : β → SP} {l : List β} {k : Nat} {x : β} {v : Value} {xs : List α} (h : l[k]? = some x) (hr : Rds E (f x) v xs) [p : Part A (bigS f l)] : Rds E A v xs := fun w hs => by
  have := p.sub w hs
  rw [bigS_get f l k x h] at this
  exact hr w this.left
theorem rds_self {v : Value} {xs : List α} : Rds E (row E v xs) v xs := fun w hs => Sat.rdRow (hs.as (star_emp _).symm)
/-- An array variable, sliced whole. -/
theorem t_sliceArr {T N e n : Nat} {a : Addr} {b i : Nat} {next : Value → WP} [hT : ArT P T N e n] [ha : AddrIs a b i] (k : Tri A w0 (next (.slice (some ⟨b, i, none⟩) N N))) : Tri A w0 (sem P (Instr.sliceAt T (.pointer (some a)) none none none) next) := t_semQ (fun w _ => by
  rw [ha.eq]
  unfold Instr.sliceAt
  rw [run_of (run_underlying hT.und w)]
  simp only
  unfold Instr.sureAddr
  rw [run_of (w1 := w) (a := (⟨b, i, none⟩ : Addr)) (by simp)]
  have hb : (Instr.sliceBounds false N N none none none).run P w = .ok (0, N, N) w := by simp [Instr.sliceBounds]
  rw [run_of hb]
  simp only
  rw [run_of (hasSize_run hT.siz w)]
  simp [Addr.add]) k
/-- copy into a block of known cells. -/
theorem t_copyB {T ty e' bb : Nat} {z : List Value} {b off n c : Nat} {l : List Value} {e : TypeId} {v : Value} {xs : List α} {next : Value → WP} [hT : SlT P T e' 1 bb z] [h : Own A b (.cells ⟨l⟩ e (0, 0)) R] (hE : E.sz = 1) (hs : Rds E A v xs) (hfit : off + Nat.min xs.length n ≤ l.length)
    (k : Tri (blk b e (splice l off ((xs.flatMap E.enc).take (Nat.min xs.length n))) ^ R) w0 (next (.int .i64 (Nat.min xs.length n : Nat)))) : Tri A w0 (sem P (Builtin.copy_ #[T, T] ty #[.slice (some ⟨b, off, none⟩) n c, v]) next) := by
  obtain ⟨zv, hinf, hzc⟩ := hT.inf
  refine t_sem (fun w hw => ?_) k
  have hl : (xs.flatMap E.enc).length = xs.length := by rw [E.length, hE, Nat.mul_one]
  have hsz : (P.info? e').map (·.size) = some 1 := by
    cases hi : P.info? e' with
    | none => simp [hi] at hinf
    | some i => simp [hi] at hinf; simp [hinf]
  exact copy_sl (P := P) hT.und hsz (own_sat (b := b) hw) (hs w hw) hl hfit (E.ones xs)
/-- Maps by whole numbers. -/
class MpT (P : Program) (T : TypeId) (K V : outParam TypeId) : Prop where
  und : P.underlying T = some (.map K V)
  key : P.underlying K = some (.int .i64)
theorem mpT_mk {T K V : TypeId} (h1 : P.underlying T = some (.map K V)) (h2 : P.underlying K = some (.int .i64)) : MpT P T K V := ⟨h1, h2⟩
theorem t_mapUpd {T K V : TypeId} {m : Nat} {es : Array MapEntry} {c : Nat} {i : Int} {v : Value} {next : Unit → WP} [hT : MpT P T K V] [h : Own A m (.map es c) R] (hk : IntKeys es.toList) (k : Tri (own m (.map (mput es c i v).1 (mput es c i v).2) ^ R) w0 (next ())) : Tri A w0 (sem P (Instr.mapUpdate T (.map (some m)) (.int .i64 i) v) next) :=
  t_sem (fun w hw => mapUpdate_sl hT.und hT.key hk i v (own_sat (b := m) hw)) k
theorem t_lookup {T K V : TypeId} {m : Nat} {es : Array MapEntry} {c : Nat} {i : Int} {z : Value} {next : Value → WP} [hT : MpT P T K V] [h : Own A m (.map es c) R] (hz : zeroIs P V z) (hk : IntKeys es.toList) (k : Tri A w0 (next ((mget es.toList i).getD z))) : Tri A w0 (sem P (Instr.lookup T (.map (some m)) (.int .i64 i) false) next) :=
  t_semQ (fun w hw => run_lookup_int hT.und hT.key (own_sat (b := m) hw).heap hk (zero_run hz) i) k
end
end Go.Proofs.Ytehpdpdmjflddaa
