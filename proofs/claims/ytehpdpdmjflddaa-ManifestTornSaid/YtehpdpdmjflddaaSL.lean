/-
  A small separation logic over the model's worlds: assertions on parts of a heap, the separating conjunction, and what an allocation, a store, a draw do to them. Plain; no program in sight.
-/
import Derived.WalkKit
import Derived.WalkSpells
import Derived.WalkLawsBesides
namespace Go.Proofs.Ytehpdpdmjflddaa
open Go.RowKit

/-- A part of a heap. -/
abbrev Frag := Nat → Option Obj
/-- An assertion on a part of a heap. -/
abbrev SP := Frag → Prop

def Frag.none : Frag := fun _ => Option.none
def Frag.one (b : Nat) (o : Obj) : Frag := fun k => if k = b then some o else Option.none
def Frag.apart (h k : Frag) : Prop := ∀ b, h b = Option.none ∨ k b = Option.none
def Frag.join (h k : Frag) : Frag := fun b => match h b with | some o => some o | Option.none => k b

theorem Frag.apart_comm {h k : Frag} (a : h.apart k) : k.apart h := fun b => (a b).symm
theorem Frag.join_comm {h k : Frag} (a : h.apart k) : h.join k = k.join h := by
  funext b
  unfold Frag.join
  cases hh : h b <;> cases hk : k b <;> simp_all
  have := a b
  simp_all
theorem Frag.join_assoc (h k l : Frag) : (h.join k).join l = h.join (k.join l) := by
  funext b
  unfold Frag.join
  cases h b <;> rfl
theorem Frag.join_none (h : Frag) : h.join Frag.none = h := by
  funext b
  unfold Frag.join Frag.none
  cases h b <;> rfl
theorem Frag.apart_none (h : Frag) : h.apart Frag.none := fun _ => .inr rfl
theorem Frag.apart_join {h k l : Frag} : h.apart (k.join l) ↔ (h.apart k ∧ h.apart l) ∨ False := by
  constructor
  · intro a
    refine .inl ⟨fun b => ?_, fun b => ?_⟩
    · rcases a b with e | e
      · exact .inl e
      · unfold Frag.join at e
        cases hk : k b with
        | none => exact .inr rfl
        | some o => rw [hk] at e; cases e
    · rcases a b with e | e
      · exact .inl e
      · unfold Frag.join at e
        cases hk : k b with
        | none => rw [hk] at e; exact .inr e
        | some o => rw [hk] at e; cases e
  · rintro (⟨a1, a2⟩ | f)
    · intro b
      rcases a1 b with e | e
      · exact .inl e
      · rcases a2 b with e' | e'
        · exact .inl e'
        · refine .inr ?_
          unfold Frag.join
          rw [e]
          exact e'
    · exact f.elim

def star (A B : SP) : SP := fun h => ∃ h1 h2, Frag.apart h1 h2 ∧ h = h1.join h2 ∧ A h1 ∧ B h2
instance : HPow SP SP SP := ⟨star⟩
def emp : SP := fun h => h = Frag.none
/-- Block b holds o. -/
def own (b : Nat) (o : Obj) : SP := fun h => h = Frag.one b o
def ex {α : Type} (f : α → SP) : SP := fun h => ∃ x, f x h
/-- A fact, and nothing of the heap. -/
def fact (p : Prop) : SP := fun h => h = Frag.none ∧ p

theorem star_comm (A B : SP) : (A ^ B) = (B ^ A) := by
  funext h
  apply propext
  constructor
  · rintro ⟨h1, h2, a, rfl, x, y⟩
    exact ⟨h2, h1, Frag.apart_comm a, Frag.join_comm a, y, x⟩
  · rintro ⟨h1, h2, a, rfl, x, y⟩
    exact ⟨h2, h1, Frag.apart_comm a, Frag.join_comm a, y, x⟩
theorem star_assoc (A B C : SP) : ((A ^ B) ^ C) = (A ^ (B ^ C)) := by
  funext h
  apply propext
  constructor
  · rintro ⟨h12, h3, a, rfl, ⟨h1, h2, a', rfl, x, y⟩, z⟩
    have b := (Frag.apart_join.1 (Frag.apart_comm a)).resolve_right id
    exact ⟨h1, h2.join h3, Frag.apart_join.2 (.inl ⟨a', Frag.apart_comm b.1⟩), Frag.join_assoc _ _ _, x, h2, h3, Frag.apart_comm b.2, rfl, y, z⟩
  · rintro ⟨h1, h23, a, rfl, x, ⟨h2, h3, a', rfl, y, z⟩⟩
    have b := (Frag.apart_join.1 a).resolve_right id
    exact ⟨h1.join h2, h3, Frag.apart_comm (Frag.apart_join.2 (.inl ⟨Frag.apart_comm b.2, Frag.apart_comm a'⟩)), (Frag.join_assoc _ _ _).symm, ⟨h1, h2, b.1, rfl, x, y⟩, z⟩
instance : Std.Commutative (HPow.hPow : SP → SP → SP) := ⟨star_comm⟩
instance : Std.Associative (HPow.hPow : SP → SP → SP) := ⟨star_assoc⟩
theorem star_emp (A : SP) : (A ^ emp) = A := by
  funext h
  apply propext
  constructor
  · rintro ⟨h1, h2, _, rfl, x, rfl⟩
    rw [Frag.join_none]
    exact x
  · intro x
    exact ⟨h, Frag.none, Frag.apart_none h, (Frag.join_none h).symm, x, rfl⟩
theorem emp_star (A : SP) : (emp ^ A) = A := by rw [star_comm, star_emp]
theorem ex_star {α : Type} (f : α → SP) (A : SP) : (ex f ^ A) = ex fun x => f x ^ A := by
  funext h
  apply propext
  constructor
  · rintro ⟨h1, h2, a, rfl, ⟨x, y⟩, z⟩
    exact ⟨x, h1, h2, a, rfl, y, z⟩
  · rintro ⟨x, h1, h2, a, rfl, y, z⟩
    exact ⟨h1, h2, a, rfl, ⟨x, y⟩, z⟩
theorem star_ex {α : Type} (f : α → SP) (A : SP) : (A ^ ex f) = ex fun x => A ^ f x := by
  rw [star_comm, ex_star]
  congr 1
  funext x
  rw [star_comm]

theorem fact_true {p : Prop} (h : p) : fact p = emp := by
  funext k
  exact propext ⟨fun x => x.1, fun x => ⟨x, h⟩⟩
/-- The world bears A (and whatever else). -/
def Sat (w : World) (A : SP) : Prop := ∃ h : Frag, (∀ b o, h b = some o → w.heap[b]? = some o) ∧ A h

theorem sat_ex {α : Type} {w : World} {f : α → SP} : Sat w (ex f) ↔ ∃ x, Sat w (f x) :=
  ⟨fun ⟨h, l, x, y⟩ => ⟨x, h, l, y⟩, fun ⟨x, h, l, y⟩ => ⟨h, l, x, y⟩⟩
theorem sat_fact {w : World} {p : Prop} {A : SP} : Sat w (fact p ^ A) ↔ p ∧ Sat w A := by
  constructor
  · rintro ⟨h, l, h1, h2, a, rfl, ⟨rfl, hp⟩, y⟩
    refine ⟨hp, h2, ?_, y⟩
    intro b o e
    exact l b o (by simpa [Frag.join, Frag.none] using e)
  · rintro ⟨hp, h, l, y⟩
    refine ⟨h, l, Frag.none, h, Frag.apart_comm (Frag.apart_none h), ?_, ⟨rfl, hp⟩, y⟩
    funext b
    simp [Frag.join, Frag.none]
theorem Sat.right {w : World} {A B : SP} (h : Sat w (A ^ B)) : Sat w B := by
  obtain ⟨h, l, h1, h2, a, rfl, x, y⟩ := h
  refine ⟨h2, fun b o e => l b o ?_, y⟩
  unfold Frag.join
  rcases a b with e' | e'
  · rw [e']; exact e
  · rw [e'] at e; cases e
theorem Sat.left {w : World} {A B : SP} (h : Sat w (A ^ B)) : Sat w A := by
  rw [star_comm] at h
  exact h.right
/-- The same assertion in another order. -/
theorem Sat.as {w : World} {A B : SP} (h : Sat w A) (e : A = B) : Sat w B := e ▸ h
theorem Sat.imp {w : World} {A B C : SP} (h : Sat w (A ^ C)) (i : ∀ h, A h → B h) : Sat w (B ^ C) := by
  obtain ⟨h, l, h1, h2, a, rfl, x, y⟩ := h
  exact ⟨_, l, h1, h2, a, rfl, i _ x, y⟩
theorem Sat.heap {w : World} {b : Nat} {o : Obj} {R : SP} (h : Sat w (own b o ^ R)) : w.heap[b]? = some o := by
  obtain ⟨h, l, h1, h2, a, rfl, rfl, y⟩ := h
  exact l b o (by simp [Frag.join, Frag.one])
theorem Sat.lt {w : World} {b : Nat} {o : Obj} {R : SP} (h : Sat w (own b o ^ R)) : b < w.heap.size := (Array.getElem?_eq_some_iff.1 h.heap).1
theorem Sat.ne {w : World} {b c : Nat} {o p : Obj} {R : SP} (h : Sat w (own b o ^ (own c p ^ R))) : b ≠ c := by
  obtain ⟨h, l, h1, h2, a, rfl, rfl, h3, h4, a', rfl, rfl, y⟩ := h
  intro e
  subst e
  have := a b
  simp [Frag.join, Frag.one] at this

/-- A part is taken for what it implies. -/
theorem Sat.re {w : World} {X Y A B : SP} (C : SP) (h : Sat w X) (i : ∀ h, A h → B h) (e1 : X = (A ^ C)) (e2 : (B ^ C) = Y) : Sat w Y := e2 ▸ (Sat.imp (e1 ▸ h) i)
/-- Nothing that was there has turned. -/
theorem Sat.grow {w w' : World} {R : SP} (h : Sat w R) (hk : ∀ k, k < w.heap.size → w'.heap[k]? = w.heap[k]?) : Sat w' R := by
  obtain ⟨h, l, y⟩ := h
  exact ⟨h, fun b o e => (hk b (Array.getElem?_eq_some_iff.1 (l b o e)).1).trans (l b o e), y⟩
/-- One block has turned, and new ones may have come. -/
theorem Sat.turn {w w' : World} {b : Nat} {o o' : Obj} {R : SP} (h : Sat w (own b o ^ R)) (hb : w'.heap[b]? = some o')
    (hk : ∀ k, k < w.heap.size → k ≠ b → w'.heap[k]? = w.heap[k]?) : Sat w' (own b o' ^ R) := by
  obtain ⟨h, l, h1, h2, a, rfl, rfl, y⟩ := h
  have hap : (Frag.one b o').apart h2 := fun k => by
    by_cases e : k = b
    · subst e
      refine .inr ((a k).resolve_left ?_)
      simp [Frag.one]
    · exact .inl (by simp [Frag.one, e])
  refine ⟨(Frag.one b o').join h2, fun k p e => ?_, _, h2, hap, rfl, rfl, y⟩
  by_cases ek : k = b
  · subst ek
    simp [Frag.join, Frag.one] at e
    exact e ▸ hb
  · have e2 : h2 k = some p := by simpa [Frag.join, Frag.one, ek] using e
    have e3 := l k p (by simp [Frag.join, Frag.one, ek, e2])
    exact (hk k (Array.getElem?_eq_some_iff.1 e3).1 ek).trans e3
/-- A block that is new. -/
theorem Sat.fresh {w w' : World} {b : Nat} {o : Obj} {R : SP} (h : Sat w R) (hb : w'.heap[b]? = some o) (hs : w.heap.size ≤ b)
    (hk : ∀ k, k < w.heap.size → w'.heap[k]? = w.heap[k]?) : Sat w' (own b o ^ R) := by
  obtain ⟨h, l, y⟩ := h
  have hn : h b = Option.none := by
    cases e : h b with
    | none => rfl
    | some p => have := (Array.getElem?_eq_some_iff.1 (l b p e)).1; omega
  refine ⟨(Frag.one b o).join h, fun k p e => ?_, _, h, fun k => ?_, rfl, rfl, y⟩
  · by_cases ek : k = b
    · subst ek
      simp [Frag.join, Frag.one] at e
      exact e ▸ hb
    · have e2 : h k = some p := by simpa [Frag.join, Frag.one, ek] using e
      exact (hk k (Array.getElem?_eq_some_iff.1 (l k p e2)).1).trans (l k p e2)
  · by_cases ek : k = b
    · subst ek; exact .inr hn
    · exact .inl (by simp [Frag.one, ek])
theorem Sat.alloc {w : World} {R : SP} (h : Sat w R) (o : Obj) : Sat (w.alloc o) (own w.heap.size o ^ R) :=
  h.fresh (heap_alloc_new w o) (Nat.le_refl _) fun k hk => Below.heap_alloc w o k hk
theorem Sat.setCell {w : World} {b i : Nat} {c : Array Value} {e : TypeId} {v : Value} {R : SP} (h : Sat w (own b (.cells c e (0, 0)) ^ R)) :
    Sat (w.setCell ⟨b, i, none⟩ v) (own b (.cells (c.setIfInBounds i v) e (0, 0)) ^ R) :=
  h.turn (heap_setCell_same w b i c e v h.heap) fun k _ hne => heap_setCell_other w _ k v hne
theorem Sat.setRow {w : World} {b : Nat} {c c' : Array Value} {e : TypeId} {R : SP} (h : Sat w (own b (.cells c e (0, 0)) ^ R)) :
    Sat (w.setRow b c') (own b (.cells c' e (0, 0)) ^ R) :=
  h.turn (setRow_heap w b _ _ e _ h.heap) fun k _ hne => setRow_other w b k c' hne
theorem Sat.drew {w : World} {R : SP} (h : Sat w R) : Sat w.drew R := h
theorem Sat.cell {w : World} {b : Nat} {c : Array Value} {e : TypeId} {f : Nat × Nat} {R : SP} (h : Sat w (own b (.cells c e f) ^ R)) (i : Nat) : w.cell? ⟨b, i, none⟩ = c[i]? :=
  cell_of_row w b i c e f h.heap
theorem Sat.free {w : World} {b : Nat} {c : Array Value} {e : TypeId} {R : SP} (h : Sat w (own b (.cells c e (0, 0)) ^ R)) (i : Nat) : w.frozen? ⟨b, i, none⟩ = false :=
  frozen_of_row w b i c e h.heap

/-- All of a world's heap. -/
def asIs (w : World) : SP := fun h => h = fun b => w.heap[b]?
theorem sat_asIs (w : World) : Sat w (asIs w) := ⟨_, fun _ _ e => e, rfl⟩
theorem Sat.old {w w0 : World} (h : Sat w (asIs w0)) (k : Nat) (hk : k < w0.heap.size) : w.heap[k]? = w0.heap[k]? := by
  obtain ⟨h, l, rfl⟩ := h
  have : w0.heap[k]? = some w0.heap[k] := Array.getElem?_eq_getElem hk
  rw [this]
  exact l k _ this

/-- What goes on beside the heap: nothing. -/
structure Flow (w w' : World) : Prop where
  os : w'.os = w.os
  tape : w'.tape = w.tape
  output : w'.output = w.output
  size : w.heap.size ≤ w'.heap.size
theorem Flow.refl (w : World) : Flow w w := ⟨rfl, rfl, rfl, Nat.le_refl _⟩
theorem Flow.trans {a b c : World} (h : Flow a b) (k : Flow b c) : Flow a c := ⟨k.os.trans h.os, k.tape.trans h.tape, k.output.trans h.output, Nat.le_trans h.size k.size⟩
theorem Flow.alloc {a w : World} (h : Flow a w) (o : Obj) : Flow a (w.alloc o) := h.trans ⟨rfl, rfl, rfl, by simp⟩
theorem Flow.setCell {a w : World} (h : Flow a w) (p : Addr) (v : Value) : Flow a (w.setCell p v) := h.trans ⟨rfl, rfl, rfl, by simp [World.setCell]⟩
theorem Flow.setRow {a w : World} (h : Flow a w) (g : Nat) (c : Array Value) : Flow a (w.setRow g c) := h.trans ⟨rfl, rfl, rfl, by simp⟩
theorem Flow.drew {a w : World} (h : Flow a w) : Flow a w.drew := ⟨h.os, h.tape, h.output, h.size⟩
theorem Flow.grown {a w w' : World} {r : Option Nat} (h : Flow a w) (g : w.grownBy w' r) : Flow a w' := h.trans ⟨g.os, g.tape, g.output, g.size⟩
theorem Flow.below {w w' : World} (h : Flow w w') (s : Sat w' (asIs w)) : Below w.heap.size w w' := ⟨h.os, h.tape, h.output, h.size, s.old⟩

/-- How a call ends: it hands v back, the heap bears A, and nothing has gone on beside. -/
def Done (w : World) (v : Value) (A : SP) (e : Ending) (w' : World) : Prop := e = .returned v ∧ Sat w' A ∧ Flow w w'
theorem Done.mk {w w' : World} {v v' : Value} {A : SP} (h : v' = v) (s : Sat w' A) (f : Flow w w') : Done w v A (.returned v') w' := ⟨by rw [h], s, f⟩
end Go.Proofs.Ytehpdpdmjflddaa
