/-
  Showing a reading of a world that bears an assertion: one rule an operation. Plain laws over any program.
-/
import Derived.Test.YtehpdpdmjflddaaGenT
namespace Go.Proofs.Ytehpdpdmjflddaa
open Go.RowKit

/-- X holds of every world that bears A and comes from w0. -/
def Tri (A : SP) (w0 : World) (X : WP) : Prop := ∀ w, Sat w A → Flow w0 w → X w
/-- What a call comes to. -/
def Spec (P : Program) (f : FuncId) (args : Array Value) (A : SP) (B : Value → SP) : Prop := ∀ w, Sat w A → callW P f args (fun v w' => Sat w' (B v) ∧ Flow w w') w
/-- The end of a function that is shown. -/
def Post (B : Value → SP) (w0 : World) (v : Value) : WP := fun w' => Sat w' (B v) ∧ Flow w0 w'

section
variable {P : Program} {A B R : SP} {w0 : World} {X Y : WP}
theorem Spec.mk {f : FuncId} {args : Array Value} {B : Value → SP} (h : ∀ w0, Tri A w0 (callW P f args (Post B w0))) : Spec P f args A B := fun w hw => h w w hw (Flow.refl w)
theorem Tri.use {X' : WP} (h : Tri A w0 X') (i : ∀ w, X' w → X w) : Tri A w0 X := fun w hs hf => i w (h w hs hf)
theorem Tri.imp (h : Tri B w0 X) (i : ∀ w, Sat w A → Sat w B) : Tri A w0 X := fun w hs hf => h w (i w hs) hf
theorem Tri.as (e : A = B) (h : Tri B w0 X) : Tri A w0 X := e ▸ h
theorem t_fact {p : Prop} (h : p → Tri A w0 X) : Tri (fact p ^ A) w0 X := fun w hs hf => by
  rw [sat_fact] at hs
  exact h hs.1 w hs.2 hf
theorem t_ex {α : Type} {f : α → SP} (h : ∀ x, Tri (f x) w0 X) : Tri (ex f) w0 X := fun w hs hf => by
  rw [sat_ex] at hs
  obtain ⟨x, hs⟩ := hs
  exact h x w hs hf
theorem t_exS {α : Type} {f : α → SP} (h : ∀ x, Tri (f x ^ A) w0 X) : Tri (ex f ^ A) w0 X := fun w hs hf => by
  rw [ex_star, sat_ex] at hs
  obtain ⟨x, hs⟩ := hs
  exact h x w hs hf
theorem t_starA {C : SP} (h : Tri (A ^ B ^ C) w0 X) : Tri ((A ^ B) ^ C) w0 X := by rw [star_assoc]; exact h
theorem t_empL (h : Tri A w0 X) : Tri (emp ^ A) w0 X := by rw [emp_star]; exact h
theorem t_drop (h : Tri A w0 X) : Tri (B ^ A) w0 X := fun w hs hf => h w hs.right hf
-- any of the first pieces to the front
theorem t_at1 {a b c : SP} (h : Tri (b ^ a ^ c) w0 X) : Tri (a ^ b ^ c) w0 X := Tri.as (by ac_rfl) h
theorem t_at2 {a b c d : SP} (h : Tri (c ^ a ^ b ^ d) w0 X) : Tri (a ^ b ^ c ^ d) w0 X := Tri.as (by ac_rfl) h
theorem t_at3 {a b c d e : SP} (h : Tri (d ^ a ^ b ^ c ^ e) w0 X) : Tri (a ^ b ^ c ^ d ^ e) w0 X := Tri.as (by ac_rfl) h
theorem t_at4 {a b c d e f : SP} (h : Tri (e ^ a ^ b ^ c ^ d ^ f) w0 X) : Tri (a ^ b ^ c ^ d ^ e ^ f) w0 X := Tri.as (by ac_rfl) h
theorem t_at5 {a b c d e f g : SP} (h : Tri (f ^ a ^ b ^ c ^ d ^ e ^ g) w0 X) : Tri (a ^ b ^ c ^ d ^ e ^ f ^ g) w0 X := Tri.as (by ac_rfl) h
theorem t_at6 {a b c d e f g h' : SP} (h : Tri (g ^ a ^ b ^ c ^ d ^ e ^ f ^ h') w0 X) : Tri (a ^ b ^ c ^ d ^ e ^ f ^ g ^ h') w0 X := Tri.as (by ac_rfl) h

-- values
theorem t_asI {k : IntKind} {x : Int} {f : Int → WP} (h : Tri A w0 (f x)) : Tri A w0 (asI k (.int k x) f) := h.use fun _ h => ⟨x, rfl, h⟩
theorem t_asB {x : Bool} {f : Bool → WP} (h : Tri A w0 (f x)) : Tri A w0 (asB (.bool x) f) := h.use fun _ h => ⟨x, rfl, h⟩
theorem t_asStr {x : ByteArray} {f : ByteArray → WP} (h : Tri A w0 (f x)) : Tri A w0 (asStr (.string x) f) := h.use fun _ h => ⟨x, rfl, h⟩
theorem t_asP {x : Option Addr} {f : Option Addr → WP} (h : Tri A w0 (f x)) : Tri A w0 (asP (.pointer x) f) := h.use fun _ h => ⟨x, rfl, h⟩
theorem t_asA {x : Addr} {f : Addr → WP} (h : Tri A w0 (f x)) : Tri A w0 (asA (.pointer (some x)) f) := h.use fun _ h => ⟨x, rfl, h⟩
theorem t_asS {a : Option Addr} {n c : Nat} {f : Option Addr → Nat → Nat → WP} (h : Tri A w0 (f a n c)) : Tri A w0 (asS (.slice a n c) f) := h.use fun _ h => ⟨a, n, c, rfl, h⟩
theorem t_asM {x : Option Nat} {f : Option Nat → WP} (h : Tri A w0 (f x)) : Tri A w0 (asM (.map x) f) := h.use fun _ h => ⟨x, rfl, h⟩
theorem t_asAgg {cs : List Value} {f : List Value → WP} (h : Tri A w0 (f cs)) : Tri A w0 (asAgg (.agg ⟨cs⟩) f) := h.use fun _ h => ⟨cs, rfl, h⟩
theorem t_asTup {cs : List Value} {f : List Value → WP} (h : Tri A w0 (f cs)) : Tri A w0 (asTup (.tuple ⟨cs⟩) f) := h.use fun _ h => ⟨cs, rfl, h⟩
theorem t_uncons {v : Value} {l : List Value} {f : Value → List Value → WP} (h : Tri A w0 (f v l)) : Tri A w0 (uncons (v :: l) f) := h.use fun _ h => ⟨v, l, rfl, h⟩
theorem t_unnil (h : Tri A w0 X) : Tri A w0 (unnil [] X) := h.use fun _ h => ⟨rfl, h⟩
-- control
theorem t_need (h : Tri A w0 X) : Tri A w0 (need true X) := h.use fun _ h => ⟨rfl, h⟩
theorem t_drewW (h : Tri A w0 X) : Tri A w0 (drewW X) := fun w hs hf => h w.drew hs.drew hf.drew
theorem t_br {c : Bool} (h1 : c = true → Tri A w0 X) (h2 : c = false → Tri A w0 Y) : Tri A w0 (br c X Y) := fun w hs hf => ⟨fun hc => h1 hc w hs hf, fun hc => h2 hc w hs hf⟩
theorem t_brT {c : Bool} (hc : c = true) (h : Tri A w0 X) : Tri A w0 (br c X Y) := t_br (fun _ => h) fun h' => by rw [hc] at h'; cases h'
theorem t_brF {c : Bool} (hc : c = false) (h : Tri A w0 Y) : Tri A w0 (br c X Y) := t_br (fun h' => by rw [hc] at h'; cases h') fun _ => h
theorem t_brD {p : Prop} [Decidable p] (h1 : p → Tri A w0 X) (h2 : ¬ p → Tri A w0 Y) : Tri A w0 (br (decide p) X Y) := t_br (fun h => h1 (of_decide_eq_true h)) fun h => h2 (of_decide_eq_false h)
theorem t_brE {x y : Int} (h1 : x = y → Tri A w0 X) (h2 : ¬ x = y → Tri A w0 Y) : Tri A w0 (br (x == y) X Y) := t_br (fun h => h1 (by simpa using h)) fun h => h2 (by simpa using h)
theorem t_brN {x y : Int} (h1 : ¬ x = y → Tri A w0 X) (h2 : x = y → Tri A w0 Y) : Tri A w0 (br (x != y) X Y) := t_br (fun h => h1 (by simpa using h)) fun h => h2 (by simpa using h)
theorem t_brNot {c : Bool} (h : Tri A w0 (br c Y X)) : Tri A w0 (br (!c) X Y) := h.use fun _ h => ⟨fun hc => h.2 (by simpa using hc), fun hc => h.1 (by simpa using hc)⟩
theorem t_both (h1 : Tri A w0 X) (h2 : Tri A w0 Y) : Tri A w0 (both X Y) := fun w hs hf => ⟨h1 w hs hf, h2 w hs hf⟩
theorem t_joinDup {x : (List Value → WP) → WP} {y : List Value → WP} (h : Tri A w0 (x y)) : Tri A w0 (joinW x y) := h
theorem t_join {x : (List Value → WP) → WP} {y : List Value → WP} (J : List Value → SP) (h : ∀ K : List Value → WP, (∀ vs, Tri (J vs) w0 (K vs)) → Tri A w0 (x K)) (hy : ∀ vs, Tri (J vs) w0 (y vs)) : Tri A w0 (joinW x y) := h y hy
/-- The end of a round, or of a way that meets others. -/
theorem t_hand {J : List Value → SP} {vs : List Value} (i : ∀ w, Sat w A → Sat w (J vs)) : Tri A w0 fun w => Sat w (J vs) ∧ Flow w0 w := fun w hs hf => ⟨i w hs, hf⟩
/-- A loop: its state σ tells the temporaries that are handed on, the assertion, and a measure. -/
theorem t_loop {σ : Type} (val : σ → List Value) (J : σ → SP) (μ : σ → Nat) {vs0 : List Value} {body : (List Value → WP) → List Value → WP} (s0 : σ) (h0 : vs0 = val s0) (hA : ∀ w, Sat w A → Sat w (J s0))
    (round : ∀ s, Tri (J s) w0 (body (fun vs' w' => ∃ s', vs' = val s' ∧ μ s' < μ s ∧ Sat w' (J s') ∧ Flow w0 w') (val s))) : Tri A w0 (loopW vs0 body) := fun w hs hf => by
  have key : ∀ (n : Nat) (vs : List Value) (w : World), (∃ s, n = μ s ∧ vs = val s ∧ Sat w (J s) ∧ Flow w0 w) → body (fun vs' w' => ∃ n', n' < n ∧ ∃ s', n' = μ s' ∧ vs' = val s' ∧ Sat w' (J s') ∧ Flow w0 w') vs w := by
    rintro n vs w ⟨s, rfl, rfl, h1, h2⟩
    have hb := round s w h1 h2
    have e : (fun (vs' : List Value) (w' : World) => ∃ n', n' < μ s ∧ ∃ s', n' = μ s' ∧ vs' = val s' ∧ Sat w' (J s') ∧ Flow w0 w') = (fun vs' w' => ∃ s', vs' = val s' ∧ μ s' < μ s ∧ Sat w' (J s') ∧ Flow w0 w') := by
      funext vs' w'
      apply propext
      constructor
      · rintro ⟨n', h3, s', rfl, h4, h5⟩; exact ⟨s', h4, h3, h5⟩
      · rintro ⟨s', h4, h3, h5⟩; exact ⟨_, h3, s', rfl, h4, h5⟩
    rw [e]
    exact hb
  exact ⟨fun n vs w => ∃ s, n = μ s ∧ vs = val s ∧ Sat w (J s) ∧ Flow w0 w, ⟨_, s0, rfl, h0, hA w hs, hf⟩, key⟩
theorem t_round {σ : Type} {val : σ → List Value} {J : σ → SP} {μ : σ → Nat} {n : Nat} {vs : List Value} (s' : σ) (h : vs = val s') (hμ : μ s' < n) (i : ∀ w, Sat w A → Sat w (J s')) :
    Tri A w0 fun w' => ∃ s', vs = val s' ∧ μ s' < n ∧ Sat w' (J s') ∧ Flow w0 w' := fun _ hs hf => ⟨s', h, hμ, i _ hs, hf⟩
theorem t_post {B : Value → SP} {v : Value} (i : ∀ w, Sat w A → Sat w (B v)) : Tri A w0 (Post B w0 v) := fun w hs hf => ⟨i w hs, hf⟩
theorem t_postV {C : SP} {v v' : Value} (e : v = v') (i : ∀ w, Sat w A → Sat w C) : Tri A w0 (Post (fun u => fact (u = v') ^ C) w0 v) := fun w hs hf => ⟨sat_fact.2 ⟨e, i w hs⟩, hf⟩
-- calls
theorem t_call {f : FuncId} {args : Array Value} {B : Value → SP} {next : Value → WP} (h : Spec P f args A B) (k : ∀ v, Tri (B v) w0 (next v)) : Tri A w0 (callW P f args next) := fun w hs hf =>
  Calls.mono (h w hs) fun _ w' => fun ⟨v, e, h1, h2⟩ => ⟨v, e, k v w' h1 (hf.trans h2)⟩
theorem t_callV {f : FuncId} {args : Array Value} {u : Value} {C : SP} {next : Value → WP} (h : Spec P f args A fun v => fact (v = u) ^ C) (k : Tri C w0 (next u)) : Tri A w0 (callW P f args next) :=
  t_call h fun v => t_fact fun e => by subst e; exact k
theorem t_callX {α : Type} {f : FuncId} {args : Array Value} {u : α → Value} {C : α → SP} {next : Value → WP} (h : Spec P f args A fun v => ex fun x => fact (v = u x) ^ C x) (k : ∀ x, Tri (C x) w0 (next (u x))) : Tri A w0 (callW P f args next) :=
  t_call h fun v => t_ex fun x => t_fact fun e => by subst e; exact k x
/-- The frame of a call is told by what it needs. -/
theorem Spec.as {f : FuncId} {args : Array Value} {A A' : SP} {B : Value → SP} (h : Spec P f args A B) (e : A' = A) : Spec P f args A' B := e ▸ h
theorem Spec.of {f : FuncId} {args : Array Value} {v : Value} {C : SP} (h : ∀ w, Sat w A → Calls P f args w (Done w v C)) : Spec P f args A fun u => fact (u = v) ^ C := fun w hs =>
  Calls.mono (h w hs) fun _ _ ⟨e, h1, h2⟩ => ⟨v, e, sat_fact.2 ⟨rfl, h1⟩, h2⟩
theorem Spec.done {f : FuncId} {args : Array Value} {v : Value} {C : SP} (h : Spec P f args A fun u => fact (u = v) ^ C) (w : World) (hs : Sat w A) : Calls P f args w (Done w v C) :=
  Calls.mono (h w hs) fun _ _ ⟨u, e, h1, h2⟩ => by
    rw [sat_fact] at h1
    exact ⟨by rw [e, h1.1], h1.2, h2⟩
-- operations
theorem t_sem {α : Type} {m : Sem α} {next : α → WP} {v : α} (h : ∀ w, Sat w A → ∃ w', m.run P w = .ok v w' ∧ Sat w' B ∧ Flow w w') (k : Tri B w0 (next v)) : Tri A w0 (sem P m next) := fun w hs hf => by
  obtain ⟨w', h1, h2, h3⟩ := h w hs
  exact ⟨v, w', h1, k w' h2 (hf.trans h3)⟩
theorem t_semX {α β : Type} {m : Sem α} {next : α → WP} {v : β → α} {B : β → SP} (h : ∀ w, Sat w A → ∃ x w', m.run P w = .ok (v x) w' ∧ Sat w' (B x) ∧ Flow w w') (k : ∀ x, Tri (B x) w0 (next (v x))) : Tri A w0 (sem P m next) := fun w hs hf => by
  obtain ⟨x, w', h1, h2, h3⟩ := h w hs
  exact ⟨v x, w', h1, k x w' h2 (hf.trans h3)⟩
theorem t_semQ {α : Type} {m : Sem α} {next : α → WP} {v : α} (h : ∀ w, Sat w A → m.run P w = .ok v w) (k : Tri A w0 (next v)) : Tri A w0 (sem P m next) :=
  t_sem (fun w hs => ⟨w, h w hs, hs, Flow.refl w⟩) k
theorem t_semR {α : Type} {m : Sem α} {next : α → WP} {v : α} (h : ∀ w, Sat w A → m.run P w = .ok v w) (k : Tri A w0 (next v)) : Tri A w0 (semR P m next) := fun w hs hf => ⟨v, h w hs, k w hs hf⟩

-- finding pieces
class Own (A : SP) (b : Nat) (o : outParam Obj) (R : outParam SP) : Prop where
  eq : A = (own b o ^ R)
instance (b : Nat) (o : Obj) (R : SP) : Own (own b o ^ R) b o R := ⟨rfl⟩
instance (b : Nat) (o : Obj) : Own (own b o) b o emp := ⟨(star_emp _).symm⟩
instance (X A : SP) (b : Nat) (o : Obj) (R : SP) [h : Own A b o R] : Own (X ^ A) b o (X ^ R) := ⟨by rw [h.eq]; ac_rfl⟩
theorem own_sat {b : Nat} {o : Obj} {R : SP} [h : Own A b o R] {w : World} (hs : Sat w A) : Sat w (own b o ^ R) := h.eq ▸ hs
/-- Whole blocks of known cells. -/
abbrev blk (b : Nat) (t : TypeId) (l : List Value) : SP := own b (.cells ⟨l⟩ t (0, 0))

def isCell (P : Program) (t : TypeId) : Bool := match P.underlying t with | some d => !d.isRow | none => false
def isRowT (P : Program) (t : TypeId) (n : Nat) : Bool := match P.underlying t, P.info? t with | some d, some i => d.isRow && Nat.beq i.size n | _, _ => false
theorem run_load_cell {t : TypeId} (ht : isCell P t = true) {w : World} {a : Addr} {v : Value} (h : w.cell? a = some v) : (Instr.loadAt t (.pointer (some a))).run P w = .ok v w := by
  unfold isCell at ht
  cases hu : P.underlying t with
  | none => rw [hu] at ht; cases ht
  | some d =>
    rw [hu] at ht
    have hd : d.isRow = false := by simpa using ht
    unfold Instr.loadAt
    rw [run_of (w1 := w) (a := a) rfl]
    have hagg : (isAgg t).run P w = .ok false w := by
      unfold isAgg
      rw [run_of (run_underlying hu w)]
      cases d <;> first | rfl | (cases hd; done)
    unfold loadVar
    rw [run_of hagg]
    simp [load, Sem.run, h]
theorem t_loadC {t : TypeId} {a : Addr} {b i : Nat} {c : Array Value} {e : TypeId} {fz : Nat × Nat} {R : SP} {v : Value} {next : Value → WP} [h : Own A b (.cells c e fz) R] (ha : a = ⟨b, i, none⟩) (ht : isCell P t = true) (hv : c[i]? = some v) (k : Tri A w0 (next v)) :
    Tri A w0 (sem P (Instr.loadAt t (.pointer (some a))) next) := t_semQ (fun w hs => by
  subst ha
  exact run_load_cell ht (by rw [(own_sat (b := b) hs).cell]; exact hv)) k
theorem t_loadR {t : TypeId} {n : Nat} {a : Addr} {b i : Nat} {l : List Value} {e : TypeId} {fz : Nat × Nat} {R : SP} {next : Value → WP} [h : Own A b (.cells ⟨l⟩ e fz) R] (ha : a = ⟨b, i, none⟩) (ht : isRowT P t n = true) (hn : i + n ≤ l.length) (k : Tri A w0 (next (.agg ⟨(l.drop i).take n⟩))) :
    Tri A w0 (sem P (Instr.loadAt t (.pointer (some a))) next) := t_semQ (fun w hs => by
  subst ha
  have hs := own_sat (b := b) hs
  unfold isRowT at ht
  cases hu : P.underlying t with
  | none => rw [hu] at ht; cases ht
  | some d =>
    cases hi : P.info? t with
    | none => rw [hu, hi] at ht; cases ht
    | some inf =>
      rw [hu, hi] at ht
      simp only [Bool.and_eq_true] at ht
      have hsz : inf.size = n := Nat.eq_of_beq_eq_true ht.2
      exact run_loadAt_mid w b i t ((l.drop i).take n) d (fun j u hj => by
        rw [hs.cell]
        rw [List.getElem?_take] at hj
        split at hj
        · rw [List.getElem?_drop] at hj
          simpa using hj
        · cases hj) hu ht.1 (by simp [hi, hsz]; omega)) k
def hasSize (P : Program) (t : TypeId) (n : Nat) : Bool := match P.info? t with | some i => Nat.beq i.size n | none => false
theorem hasSize_run {t : TypeId} {n : Nat} (h : hasSize P t n = true) (w : World) : (sizeOf t).run P w = .ok n w := by
  unfold hasSize at h
  cases hi : P.info? t with
  | none => rw [hi] at h; cases h
  | some i =>
    rw [hi] at h
    have : i.size = n := Nat.eq_of_beq_eq_true h
    simp [sizeOf, typeInfo, hi, this]
/-- A store, of one cell or more. -/
theorem store_at {t : TypeId} {b i : Nat} {l : List Value} {e : TypeId} {v : Value} {vs : List Value} {n : Nat} (hv : v.cells.toList = vs) (ht : hasSize P t n = true) (hn : vs.length = n) (h1 : ∀ u ∈ vs, u.oneCell' = true) (hfit : i + n ≤ l.length) {w : World} (hs : Sat w (blk b e l ^ R)) :
    ∃ w', (Instr.storeAt t (.pointer (some ⟨b, i, none⟩)) v).run P w = .ok () w' ∧ Sat w' (blk b e (splice l i vs) ^ R) ∧ Flow w w' := by
  have hst := run_storeCells_at P b i e vs 0 ⟨l⟩ w hs.heap (by simp; omega) h1
  refine ⟨_, ?_, hs.setRow, (Flow.refl w).setRow _ _⟩
  simp only [Nat.add_zero] at hst
  unfold Instr.storeAt Instr.sureAddr storeVar
  rw [run_of (w1 := w) (a := (⟨b, i, none⟩ : Addr)) (by simp), run_of (hasSize_run ht w)]
  have hsz : v.cells.size = n := by rw [← Array.length_toList, hv, hn]
  simp [hsz, hv, hst, splice]
/-- Cells of a known row, written over. -/
class SetL (l : List Value) (i : Nat) (v : Value) (l' : outParam (List Value)) : Prop where
  eq : l.set i v = l'
  lt : i < l.length
instance (a v : Value) (l : List Value) : SetL (a :: l) 0 v (v :: l) := ⟨rfl, by simp⟩
instance (a v : Value) (l : List Value) (i : Nat) (l' : List Value) [h : SetL l i v l'] : SetL (a :: l) (i + 1) v (a :: l') := ⟨by rw [← h.eq]; rfl, by simpa using h.lt⟩
theorem t_storeC {t : TypeId} {a : Addr} {b i : Nat} {l l' : List Value} {e : TypeId} {R : SP} {v : Value} {next : Unit → WP} [h : Own A b (.cells ⟨l⟩ e (0, 0)) R] (ha : a = ⟨b, i, none⟩) (ht : hasSize P t 1 = true) (h1 : v.oneCell' = true) (hi : i < l.length) [hl : SetL l i v l'] (k : Tri (blk b e l' ^ R) w0 (next ())) :
    Tri A w0 (sem P (Instr.storeAt t (.pointer (some a)) v) next) := t_sem (fun w hs => by
  subst ha
  have hv : v.cells.toList = [v] := by cases v <;> first | rfl | (cases h1; done)
  have := store_at (P := P) (t := t) (i := i) (n := 1) hv ht rfl (by simpa using h1) (by omega) (own_sat (b := b) hs)
  have e1 : splice l i [v] = l' := by
    rw [← hl.eq, List.set_eq_take_append_cons_drop, if_pos hi]
    simp [splice]
  rwa [e1] at this) k
/-- A store into a row of cells at a place that is computed. -/
theorem t_storeI {t : TypeId} {a : Addr} {b i : Nat} {l : List Value} {e : TypeId} {R : SP} {v : Value} {next : Unit → WP} [h : Own A b (.cells ⟨l⟩ e (0, 0)) R] (ha : a = ⟨b, i, none⟩) (ht : hasSize P t 1 = true) (h1 : v.oneCell' = true) (hi : i < l.length) (k : Tri (blk b e (l.set i v) ^ R) w0 (next ())) :
    Tri A w0 (sem P (Instr.storeAt t (.pointer (some a)) v) next) := t_sem (fun w hs => by
  subst ha
  have hv : v.cells.toList = [v] := by cases v <;> first | rfl | (cases h1; done)
  have := store_at (P := P) (t := t) (i := i) (n := 1) hv ht rfl (by simpa using h1) (by omega) (own_sat (b := b) hs)
  have e1 : splice l i [v] = l.set i v := by
    rw [List.set_eq_take_append_cons_drop, if_pos hi]
    simp [splice]
  rwa [e1] at this) k
theorem t_storeR {t : TypeId} {n : Nat} {a : Addr} {b i : Nat} {l vs : List Value} {e : TypeId} {R : SP} {next : Unit → WP} [h : Own A b (.cells ⟨l⟩ e (0, 0)) R] (ha : a = ⟨b, i, none⟩) (ht : hasSize P t n = true) (hn : vs.length = n) (h1 : ∀ u ∈ vs, u.oneCell' = true) (hfit : i + n ≤ l.length) (k : Tri (blk b e (splice l i vs) ^ R) w0 (next ())) :
    Tri A w0 (sem P (Instr.storeAt t (.pointer (some a)) (.agg ⟨vs⟩)) next) := t_sem (fun w hs => by
  subst ha
  exact store_at (P := P) (t := t) (v := .agg ⟨vs⟩) (vs := vs) rfl ht hn h1 hfit (own_sat (b := b) hs)) k
/-- A whole variable is written. -/
theorem t_storeW {t : TypeId} {n : Nat} {a : Addr} {b : Nat} {l vs : List Value} {e : TypeId} {R : SP} {next : Unit → WP} [h : Own A b (.cells ⟨l⟩ e (0, 0)) R] (ha : a = ⟨b, 0, none⟩) (ht : hasSize P t n = true) (hn : vs.length = n) (hl : l.length = n) (h1 : ∀ u ∈ vs, u.oneCell' = true) (k : Tri (blk b e vs ^ R) w0 (next ())) :
    Tri A w0 (sem P (Instr.storeAt t (.pointer (some a)) (.agg ⟨vs⟩)) next) := t_storeR ha ht hn h1 (by omega) (by
  have : splice l 0 vs = vs := by
    unfold splice
    rw [List.take_zero, List.nil_append, List.drop_eq_nil_of_le (by omega), List.append_nil]
  rwa [this])
def zeroIs (P : Program) (t : TypeId) (z : Value) : Prop := (P.info? t).bind (·.zero) = some z
theorem zero_run {t : TypeId} {z : Value} (h : zeroIs P t z) (w : World) : (zeroValue t).run P w = .ok z w := by
  unfold zeroIs at h
  cases hi : P.info? t with
  | none => simp [hi] at h
  | some i =>
    simp [hi] at h
    simp [zeroValue, typeInfo, hi, h]
theorem t_alloc {t : TypeId} {next : Value → WP} (z : Value) (l : List Value) (hz : zeroIs P t z) (hl : z.cells = ⟨l⟩) (k : ∀ b, Tri (blk b t l ^ A) w0 (next (.pointer (some ⟨b, 0, none⟩)))) :
    Tri A w0 (sem P (Instr.alloc t true (.tuple #[])) next) := t_semX (v := fun b : Nat => Value.pointer (some ⟨b, 0, none⟩)) (B := fun b => blk b t l ^ A) (fun w hs => by
  refine ⟨w.heap.size, w.alloc (.cells ⟨l⟩ t), ?_, hs.alloc _, (Flow.refl w).alloc _⟩
  simp [Instr.alloc, zero_run hz, newVar, newRow, newObj, hl]
  rfl) k
theorem t_box {t : TypeId} {v : Value} {next : Value → WP} (l : List Value) (hl : v.cells = ⟨l⟩) (k : ∀ b, Tri (blk b t l ^ A) w0 (next (.pointer (some ⟨b, 0, none⟩)))) :
    Tri A w0 (sem P (Instr.box t v) next) := t_semX (v := fun b : Nat => Value.pointer (some ⟨b, 0, none⟩)) (B := fun b => blk b t l ^ A) (fun w hs => by
  refine ⟨w.heap.size, w.alloc (.cells ⟨l⟩ t), ?_, hs.alloc _, (Flow.refl w).alloc _⟩
  simp [Instr.box, newVar, newRow, newObj, hl]
  rfl) k
end
end Go.Proofs.Ytehpdpdmjflddaa
