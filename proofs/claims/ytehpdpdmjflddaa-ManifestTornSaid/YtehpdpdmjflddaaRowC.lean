/-
  A slice of structs as an argument; the calls of law05.
-/
import Derived.Test.YtehpdpdmjflddaaRowK
import Derived.Test.YtehpdpdmjflddaaProg
import Derived.Deep.Slices
namespace Go.Proofs.Ytehpdpdmjflddaa
open Go.ChangeShapes Go.WideShapes Go.ChangeAt Go.RowKit Go.Joins

section
variable {H : Type} {enc : TypeId × Value → H} {P : Program} {w : World}
/-- The cells of a row of equal pieces. -/
theorem getElem?_flatMap_const {α β : Type} (f : α → List β) (C : Nat) : ∀ (l : List α), (∀ a ∈ l, (f a).length = C) → ∀ j u, (l.flatMap f)[j]? = some u → ∃ i a, l[i]? = some a ∧ i * C ≤ j ∧ (f a)[j - i * C]? = some u
  | [], _, j, u, h => by simp at h
  | a :: l, hl, j, u, h => by
    have ha := hl a (List.mem_cons_self ..)
    rw [List.flatMap_cons] at h
    by_cases hj : j < (f a).length
    · rw [List.getElem?_append_left hj] at h
      exact ⟨0, a, rfl, by simp, by simpa using h⟩
    · rw [List.getElem?_append_right (by omega)] at h
      obtain ⟨i, b, h1, h2, h3⟩ := getElem?_flatMap_const f C l (fun a ha => hl a (List.mem_cons_of_mem _ ha)) _ _ h
      rw [ha] at h2 h3
      have e : (i + 1) * C = i * C + C := Nat.succ_mul i C
      exact ⟨i + 1, b, h1, by omega, by rw [e]; rwa [show j - (i * C + C) = j - C - i * C by omega]⟩
theorem list_of {α : Type} (R : Nat → α → Prop) : ∀ n : Nat, (∀ i, i < n → ∃ a, R i a) → ∃ l : List α, l.length = n ∧ ∀ i a, l[i]? = some a → R i a
  | 0, _ => ⟨[], rfl, fun i a h => by simp at h⟩
  | n + 1, h => by
    obtain ⟨l, hl, hr⟩ := list_of R n (fun i hi => h i (by omega))
    obtain ⟨a, ha⟩ := h n (by omega)
    refine ⟨l ++ [a], by simp [hl], fun i b hb => ?_⟩
    by_cases hi : i < l.length
    · rw [List.getElem?_append_left hi] at hb
      exact hr i b hb
    · rw [List.getElem?_append_right (by omega)] at hb
      have hi2 : i - l.length < 1 := (List.getElem?_eq_some_iff.1 hb).1
      obtain rfl : i = n := by omega
      rw [hl, Nat.sub_self] at hb
      simp at hb
      exact hb ▸ ha
theorem slice_of_trod {t e : TypeId} {C : Nat} {fuel : Nat} {c : Value} {x : DataW H × List MemPlace} (ht : P.underlying t = some (.slice e)) (hC : P.cellsOf e = C) (hC0 : 0 < C)
    (h : DataW.trod enc P w 0 (fun _ => true) true fuel t [c] = some x) {α : Type} (f : α → List Value) (Q : α → Prop) (hf : ∀ a, (f a).length = C)
    (each : ∀ n cs y, DataW.trod enc P w 0 (fun _ => true) true n e cs = some y → ∃ a : α, cs = f a ∧ Q a) : ∃ l : List α, (∀ a ∈ l, Q a) ∧ l.length ≤ maxLen ∧ ∀ w', Sat w' (asIs w) → RdC w' c l.length (l.flatMap f) := by
  rcases Go.Deep.open_slice ht h with ⟨hcs, _⟩ | ⟨a, len, cap, m, n, D, Pl, hcs, _, hl, hm, hz, _, hcell⟩
  · simp at hcs
    subst hcs
    exact ⟨[], by simp, by simp, fun w' _ => ⟨none, 0, rfl, Nat.le_refl _, by unfold maxLen; omega, fun h => absurd h (Nat.lt_irrefl _)⟩⟩
  · simp at hcs hz
    subst hcs
    obtain ⟨l, hll, hlr⟩ := list_of (fun i a' => w.cells? 0 (a.add (i * C)) C = some (f a') ∧ Q a') len (fun i hi => by
      obtain ⟨cs, h1, h2⟩ := hcell i (by omega)
      rw [hC] at h1
      obtain ⟨a', rfl, h3⟩ := each _ _ _ h2
      exact ⟨a', h1, h3⟩)
    refine ⟨l, fun b hb => ?_, by omega, fun w' hS => ⟨some a, cap, by rw [hll], by omega, hm, fun h0 => ?_⟩⟩
    · obtain ⟨i, hi⟩ := List.getElem?_of_mem hb
      exact (hlr i b hi).2
    · have key : ∀ i b, l[i]? = some b → ∀ j u, (f b)[j]? = some u → w.cell? (a.add (i * C + j)) = some u := by
        intro i b hb j u hu
        obtain ⟨h1, _⟩ := hlr i b hb
        obtain ⟨_, _, h3⟩ := World.cells?_some h1
        have hj : j < C := by
          have := (List.getElem?_eq_some_iff.1 hu).1
          rwa [hf] at this
        have := h3 j hj
        rwa [Go.Addr.add_add, hu] at this
      obtain ⟨b0, hb0⟩ : ∃ b0, l[0]? = some b0 := ⟨_, List.getElem?_eq_getElem h0⟩
      obtain ⟨u0, hu0⟩ : ∃ u0, (f b0)[0]? = some u0 := ⟨_, List.getElem?_eq_getElem (by rw [hf]; exact hC0)⟩
      have h00 := key 0 b0 hb0 0 u0 hu0
      obtain ⟨b, off, spot⟩ := a
      have hspot : spot = none := by simpa [Addr.add] using World.cell?_spot h00
      subst hspot
      refine ⟨b, off, rfl, fun j u hu => hS.oldCell ?_⟩
      obtain ⟨i, b', h1, h2, h3⟩ := getElem?_flatMap_const f C l (fun a _ => hf a) j u hu
      have := key i b' h1 _ u h3
      rwa [add_plain, show off + (i * C + (j - i * C)) = off + j by omega] at this
end
/-- A call of law05, as an argument. -/
structure Req where
  kind : Int
  at' : Int
  vb : Value
  vk : Value
  bytes : List UInt8
  keeps : List Int
def Req.cells (x : Req) : List Value := [.int .i64 x.kind, .int .i64 x.at', x.vb, x.vk]
def Req.In (R : SP) (x : Req) : Prop := ((Lit.int .i64 x.kind).wf = true ∧ (Lit.int .i64 x.at').wf = true) ∧ RdIn R x.vb x.bytes ∧ RdInts R x.vk x.keeps
theorem cellsCall : Try.prog.cellsOf 40 = 4 := by kernel_rfl
set_option maxRecDepth 100000 in
theorem reqs_of_trod {H : Type} {enc : TypeId × Value → H} {w : World} {fuel : Nat} {c : Value} {x : DataW H × List MemPlace} (h : DataW.trod enc Try.prog w 0 (fun _ => true) true fuel 37 [c] = some x) :
    ∃ l : List Req, (∀ a ∈ l, a.In (asIs w)) ∧ l.length ≤ maxLen ∧ ∀ w', Sat w' (asIs w) → RdC w' c l.length (l.flatMap Req.cells) := by
  refine slice_of_trod Try.underlying37 cellsCall (by decide) h Req.cells (Req.In (asIs w)) (fun _ => rfl) fun n cs y hy => ?_
  obtain ⟨y0, y1, y2, y3, m, _, hlen, h0, h1, h2, h3⟩ := trod_struct4 Try.underlying40 hy
  rw [cellsCall] at hlen
  match cs, hlen with
  | [c0, c1, c2, c3], _ =>
    obtain ⟨k, hk, _, wk⟩ := DataW.trod_int Try.underlying3 h0
    obtain ⟨a, ha, _, wa⟩ := DataW.trod_int Try.underlying3 h1
    have e2 : (([c0, c1, c2, c3].drop 2).take (Try.prog.cellsOf 22)) = [c2] := by
      rw [show Try.prog.cellsOf 22 = 1 by kernel_rfl]
      rfl
    have e3 : (([c0, c1, c2, c3].drop 3).take (Try.prog.cellsOf 35)) = [c3] := by
      rw [show Try.prog.cellsOf 35 = 1 by kernel_rfl]
      rfl
    have e0 : (([c0, c1, c2, c3].drop 0).take (Try.prog.cellsOf 3)) = [c0] := by
      rw [show Try.prog.cellsOf 3 = 1 by kernel_rfl]
      rfl
    have e1 : (([c0, c1, c2, c3].drop 1).take (Try.prog.cellsOf 3)) = [c1] := by
      rw [show Try.prog.cellsOf 3 = 1 by kernel_rfl]
      rfl
    have hk' := e0.symm.trans hk
    have ha' := e1.symm.trans ha
    simp only [List.cons.injEq, and_true] at hk' ha'
    subst hk' ha'
    obtain ⟨bs, hbs⟩ := bytes_of_trod (c := c2) Try.underlying22 Try.underlying5 (by kernel_rfl) (e2 ▸ h2)
    obtain ⟨ks, _, hks⟩ := ints_of_trod (c := c3) Try.underlying35 Try.underlying3 (by kernel_rfl) (e3 ▸ h3)
    exact ⟨⟨k, a, c2, c3, bs, ks⟩, rfl, ⟨wk, wa⟩, hbs, hks⟩
end Go.Proofs.Ytehpdpdmjflddaa
