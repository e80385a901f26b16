/-
  Which operations of a region may be carried out in whatever order: what an operation reads and writes, told of the model's own run of it.
-/
import Derived.Test.YtehpdpdmjflddaaSL
import Derived.Orders
namespace Go.Proofs.Ytehpdpdmjflddaa
open Go.RowKit

section
variable {P : Program}

/-- Old blocks stand as they stood. -/
def Grows (w w' : World) : Prop := w.heap.size ≤ w'.heap.size ∧ ∀ k, k < w.heap.size → w'.heap[k]? = w.heap[k]?
theorem Grows.refl (w : World) : Grows w w := ⟨Nat.le_refl _, fun _ _ => rfl⟩
theorem Grows.trans {a b c : World} (h : Grows a b) (k : Grows b c) : Grows a c :=
  ⟨Nat.le_trans h.1 k.1, fun i hi => (k.2 i (Nat.lt_of_lt_of_le hi h.1)).trans (h.2 i hi)⟩
/-- It never comes to a value. -/
def Never {α : Type} (P : Program) (s : Sem α) : Prop := ∀ w a w1, s.run P w ≠ .ok a w1
/-- It reads no memory. -/
def PureS {α : Type} (P : Program) (s : Sem α) : Prop := ∀ w a w1, s.run P w = .ok a w1 → w1 = w ∧ ∀ w', s.run P w' = .ok a w'
/-- It writes no memory, and what it reads stands. -/
def StillS {α : Type} (P : Program) (s : Sem α) : Prop := ∀ w a w1, s.run P w = .ok a w1 → w1 = w ∧ ∀ w', Grows w w' → s.run P w' = .ok a w'
/-- It lays new blocks alone. -/
def NewS {α : Type} (P : Program) (s : Sem α) : Prop := ∀ w a w1, s.run P w = .ok a w1 → Grows w w1

theorem Never.pureS {α : Type} {s : Sem α} (h : Never P s) : PureS P s := fun w a w1 e => absurd e (h w a w1)
theorem PureS.stillS {α : Type} {s : Sem α} (h : PureS P s) : StillS P s := fun w a w1 e => ⟨(h w a w1 e).1, fun w' _ => (h w a w1 e).2 w'⟩
theorem StillS.newS {α : Type} {s : Sem α} (h : StillS P s) : NewS P s := fun w a w1 e => by rw [(h w a w1 e).1]; exact Grows.refl w

theorem PureS.pure {α : Type} (a : α) : PureS P (Pure.pure a : Sem α) := fun w b w1 e => by
  simp only [Sem.run_pure] at e
  cases e
  exact ⟨rfl, fun w' => by simp⟩
theorem Never.halt {α : Type} (h : Halt) : Never P (.halt h : Sem α) := fun w a w1 e => by simp [Sem.run] at e
theorem bind_ok {α β : Type} {s : Sem α} {f : α → Sem β} {w w2 : World} {b : β} (h : (s >>= f).run P w = .ok b w2) : ∃ a w1, s.run P w = .ok a w1 ∧ (f a).run P w1 = .ok b w2 := by
  rw [Sem.run_bind] at h
  cases hs : s.run P w with
  | ok a w1 => rw [hs] at h; exact ⟨a, w1, rfl, h⟩
  | halt x w1 => rw [hs] at h; cases h
theorem run_of {α β : Type} {s : Sem α} {f : α → Sem β} {w w1 : World} {a : α} (h : s.run P w = .ok a w1) : (s >>= f).run P w = (f a).run P w1 := by
  rw [Sem.run_bind, h]; rfl
theorem Never.bind_left {α β : Type} {s : Sem α} {f : α → Sem β} (h : Never P s) : Never P (s >>= f) := fun w b w2 e => by
  obtain ⟨a, w1, e1, _⟩ := bind_ok e
  exact h w a w1 e1
theorem Never.bind {α β : Type} {s : Sem α} {f : α → Sem β} (h : ∀ a, Never P (f a)) : Never P (s >>= f) := fun w b w2 e => by
  obtain ⟨a, w1, _, e2⟩ := bind_ok e
  exact h a w1 b w2 e2
theorem PureS.bind {α β : Type} {s : Sem α} {f : α → Sem β} (h : PureS P s) (k : ∀ a, PureS P (f a)) : PureS P (s >>= f) := fun w b w2 e => by
  obtain ⟨a, w1, e1, e2⟩ := bind_ok e
  obtain ⟨rfl, g1⟩ := h _ _ _ e1
  obtain ⟨rfl, g2⟩ := k a _ _ _ e2
  exact ⟨rfl, fun w' => by rw [run_of (g1 w')]; exact g2 w'⟩
theorem StillS.bind {α β : Type} {s : Sem α} {f : α → Sem β} (h : StillS P s) (k : ∀ a, StillS P (f a)) : StillS P (s >>= f) := fun w b w2 e => by
  obtain ⟨a, w1, e1, e2⟩ := bind_ok e
  obtain ⟨rfl, g1⟩ := h _ _ _ e1
  obtain ⟨rfl, g2⟩ := k a _ _ _ e2
  exact ⟨rfl, fun w' hw => by rw [run_of (g1 w' hw)]; exact g2 w' hw⟩
theorem NewS.bind {α β : Type} {s : Sem α} {f : α → Sem β} (h : NewS P s) (k : ∀ a, NewS P (f a)) : NewS P (s >>= f) := fun w b w2 e => by
  obtain ⟨a, w1, e1, e2⟩ := bind_ok e
  exact (h _ _ _ e1).trans (k a _ _ _ e2)
theorem PureS.program {α : Type} {k : Program → Sem α} (h : ∀ p, PureS P (k p)) : PureS P (.program k) := fun w b w2 e => by
  simp only [Sem.run] at e ⊢
  exact h P w b w2 e
theorem pureS_program : PureS P program := PureS.program fun p => PureS.pure p
theorem Never.stuck {α : Type} (m : String) : Never P (stuck m : Sem α) := Never.halt _
theorem Never.unsupported {α : Type} (u : Unsupported) : Never P (unsupported u : Sem α) := Never.halt _
theorem Never.goPanic {α : Type} (v : Value) : Never P (goPanic v : Sem α) := Never.halt _
theorem Never.runtimePanic {α : Type} (e : RuntimeError) : Never P (runtimePanic e : Sem α) := by
  unfold Go.runtimePanic
  refine Never.bind fun p => ?_
  cases e <;> first | exact Never.goPanic _ | (refine Never.bind fun _ => ?_; first | exact Never.goPanic _ | (refine Never.bind fun _ => ?_; exact Never.goPanic _))
theorem Never.boundsPanic {α : Type} (k : IntKind) (x y : Int) (c : BoundsCode) : Never P (boundsPanic k x y c : Sem α) := by
  unfold Go.boundsPanic
  dsimp only
  split <;> exact Never.bind fun _ => Never.runtimePanic _
theorem pureS_underlying (t : TypeId) : PureS P (underlying t) := by
  unfold underlying
  refine PureS.bind pureS_program fun p => ?_
  split
  · exact PureS.pure _
  · exact (Never.stuck _).pureS
theorem pureS_typeInfo (t : TypeId) : PureS P (typeInfo t) := by
  unfold typeInfo
  refine PureS.bind pureS_program fun p => ?_
  split
  · exact PureS.pure _
  · exact (Never.stuck _).pureS
theorem pureS_sizeOf (t : TypeId) : PureS P (sizeOf t) := PureS.bind (pureS_typeInfo t) fun _ => PureS.pure _
theorem pureS_isAgg (t : TypeId) : PureS P (isAgg t) := by
  unfold isAgg
  refine PureS.bind (pureS_underlying t) fun d => ?_
  split <;> exact PureS.pure _
theorem pureS_zeroValue (t : TypeId) : PureS P (zeroValue t) := by
  unfold zeroValue
  refine PureS.bind (pureS_typeInfo t) fun i => ?_
  split
  · exact PureS.pure _
  · exact (Never.unsupported _).pureS
theorem pureS_asIntOf (v : Value) : PureS P (asIntOf v) := by
  unfold asIntOf
  split
  · exact PureS.pure _
  · exact (Never.unsupported _).pureS
  · exact (Never.stuck _).pureS
theorem pureS_asInt (v : Value) : PureS P (asInt v) := PureS.bind (pureS_asIntOf v) fun _ => PureS.pure _
theorem pureS_asBool (v : Value) : PureS P (asBool v) := by
  unfold asBool
  split
  · exact PureS.pure _
  · exact (Never.stuck _).pureS
theorem pureS_asAgg (v : Value) : PureS P (asAgg v) := by
  unfold asAgg
  split
  · exact PureS.pure _
  · exact (Never.stuck _).pureS
theorem pureS_sureAddr (v : Value) : PureS P (Instr.sureAddr v) := by
  unfold Instr.sureAddr
  split
  · exact PureS.pure _
  · exact (Never.stuck _).pureS
theorem pureS_part (t : TypeId) (cs : Array Value) (o : Nat) : PureS P (part t cs o) := by
  unfold part
  refine PureS.bind (pureS_isAgg t) fun b => ?_
  split
  · exact PureS.bind (pureS_sizeOf t) fun _ => PureS.pure _
  · split
    · exact PureS.pure _
    · exact (Never.stuck _).pureS
theorem pureS_sliceBound (x : Value) (y : Nat) (c : BoundsCode) : PureS P (Instr.sliceBound x y c) := by
  unfold Instr.sliceBound
  refine PureS.bind (pureS_asIntOf x) fun a => ?_
  dsimp only
  split
  · exact PureS.pure _
  · exact (Never.boundsPanic _ _ _ _).pureS
theorem pureS_sliceBounds (b : Bool) (len cap : Nat) (lo hi mx : Option Value) : PureS P (Instr.sliceBounds b len cap lo hi mx) := by
  unfold Instr.sliceBounds
  cases mx <;> cases hi <;> cases lo <;>
    (repeat (first | exact PureS.pure _ | exact (Never.stuck _).pureS | exact pureS_sliceBound _ _ _ | exact (Never.bind_left (Never.stuck _)).pureS | (refine PureS.bind (pureS_sliceBound _ _ _) fun _ => ?_) | (refine PureS.bind (PureS.pure _) fun _ => ?_)))
theorem pureS_slice (t : TypeId) (x : Value) (lo hi mx : Option Value) : PureS P (Instr.sliceAt t x lo hi mx) := by
  unfold Instr.sliceAt
  refine PureS.bind (pureS_underlying t) fun d => ?_
  split
  · refine PureS.bind (pureS_sureAddr x) fun a => PureS.bind (pureS_sliceBounds _ _ _ _ _ _) fun b => ?_
    exact PureS.bind (pureS_sizeOf _) fun _ => PureS.pure _
  · unfold Instr.slice
    refine PureS.bind (pureS_underlying t) fun d => ?_
    split
    · split
      · exact (Never.bind_left (Never.stuck _)).pureS
      · exact PureS.bind (pureS_sliceBounds _ _ _ _ _ _) fun b => PureS.pure _
    · refine PureS.bind (pureS_sliceBounds _ _ _ _ _ _) fun b => ?_
      exact PureS.bind (pureS_sizeOf _) fun _ => PureS.pure _
    · refine PureS.bind ?_ fun a => ?_
      · unfold asAddr
        split
        · exact PureS.pure _
        · exact (Never.runtimePanic _).pureS
        · exact (Never.stuck _).pureS
      · refine PureS.bind (pureS_underlying _) fun d => ?_
        split
        · refine PureS.bind (pureS_sliceBounds _ _ _ _ _ _) fun b => ?_
          exact PureS.bind (pureS_sizeOf _) fun _ => PureS.pure _
        · exact (Never.stuck _).pureS
    · exact (Never.stuck _).pureS
theorem pureS_indexAt (t : TypeId) (x i : Value) : PureS P (Instr.indexAt t x i) := by
  unfold Instr.indexAt
  refine PureS.bind (pureS_asIntOf i) fun a => PureS.bind (pureS_underlying t) fun d => ?_
  dsimp only
  split
  · refine PureS.bind (pureS_sureAddr _) fun b => PureS.bind (PureS.pure _) fun c => PureS.bind (pureS_underlying t) fun d => ?_
    split
    · split
      · exact PureS.bind (pureS_sizeOf _) fun _ => PureS.pure _
      · split <;> (split <;> first | exact (Never.unsupported _).pureS | exact (Never.boundsPanic _ _ _ _).pureS)
    · exact (Never.boundsPanic _ _ _ _).pureS
  · refine PureS.bind (PureS.pure _) fun c => PureS.bind (pureS_underlying t) fun d => ?_
    split
    · split
      · exact PureS.bind (pureS_sizeOf _) fun _ => PureS.pure _
      · split <;> (split <;> first | exact (Never.unsupported _).pureS | exact (Never.boundsPanic _ _ _ _).pureS)
    · exact (Never.boundsPanic _ _ _ _).pureS
  · exact (Never.bind_left (Never.stuck _)).pureS
theorem pureS_index (t : TypeId) (x i : Value) : PureS P (Instr.index t x i) := by
  unfold Instr.index
  refine PureS.bind (pureS_asIntOf i) fun a => PureS.bind (pureS_underlying t) fun d => ?_
  split
  · split
    · exact PureS.bind (pureS_sizeOf _) fun _ => pureS_part _ _ _
    · exact (Never.boundsPanic _ _ _ _).pureS
  · split
    · exact PureS.pure _
    · exact (Never.boundsPanic _ _ _ _).pureS
  · exact (Never.stuck _).pureS
theorem pureS_field (t : TypeId) (x : Value) (f : Nat) : PureS P (Instr.field t x f) := by
  unfold Instr.field
  refine PureS.bind (pureS_underlying t) fun d => ?_
  split
  · split
    · exact PureS.bind (pureS_asAgg _) fun _ => pureS_part _ _ _
    · exact (Never.stuck _).pureS
  · exact (Never.stuck _).pureS
theorem pureS_binOp (op : BinOp) (t : TypeId) (k k' : IntKind) (a b : Int) : PureS P (binOp op t (.int k a) (.int k' b)) := by
  have hc : ∀ op, PureS P (Op.intCmp op a b) := fun op => by
    unfold Op.intCmp
    split <;> first | exact PureS.pure _ | exact (Never.stuck _).pureS
  have hb : ∀ op, PureS P (Op.intBits op k a b) := fun op => by
    unfold Op.intBits
    split <;> first | exact PureS.pure _ | exact (Never.stuck _).pureS
  have hd : ∀ op, PureS P (Op.intDiv op k a b) := fun op => by
    unfold Op.intDiv
    split
    · exact (Never.runtimePanic _).pureS
    · split <;> first | exact PureS.pure _ | exact (Never.stuck _).pureS
  have ha : ∀ op, PureS P (Op.intArith op k a b) := fun op => by
    unfold Op.intArith
    split <;> first | exact PureS.pure _ | exact (Never.stuck _).pureS
  have hs : ∀ op, PureS P (Op.shift op k a k' b) := fun op => by
    unfold Op.shift
    split
    · exact (Never.runtimePanic _).pureS
    · split <;> first | exact PureS.pure _ | exact (Never.stuck _).pureS
  unfold binOp
  cases op <;> dsimp only <;> first | exact hs _ | (split <;> first | exact (Never.stuck _).pureS | exact hc _ | exact hb _ | exact hd _ | exact ha _)
theorem pureS_binOp_string (op : BinOp) (t : TypeId) (a b : ByteArray) : PureS P (binOp op t (.string a) (.string b)) := by
  unfold binOp
  cases op <;> (dsimp only; unfold Op.stringOp; dsimp only; first | exact PureS.pure _ | exact (Never.stuck _).pureS | (split <;> first | exact PureS.pure _ | exact (Never.unsupported _).pureS | exact (Never.stuck _).pureS))
/-- Two values that '==' tells apart without a look at memory. -/
def plainPair : Value → Value → Bool
  | .int _ _, .int _ _ => true
  | .string _, .string _ => true
  | .bool _, .bool _ => true
  | .pointer _, .pointer none => true
  | .slice _ _ _, .slice none _ _ => true
  | .map _, .map none => true
  | .iface _ _, .nilIface => true
  | .nilIface, .nilIface => true
  | .func _ _ _, .nilFunc => true
  | .nilFunc, .nilFunc => true
  | _, _ => false
theorem pureS_samePointer_none (a : Option Addr) : PureS P (samePointer a none) := by cases a <;> exact PureS.pure _
theorem pureS_equal (t : TypeId) (x y : Value) (h : plainPair x y = true) : PureS P (Op.equal t x y) := by
  unfold Op.equal Op.maxDepth
  rw [show (10000 : Nat) = 9999 + 1 from rfl]
  unfold Op.equalIn
  refine PureS.bind (pureS_underlying t) fun d => ?_
  unfold plainPair at h
  split at h <;> first | (cases h; done) | skip
  all_goals (split <;> first | exact PureS.pure _ | exact (Never.stuck _).pureS | exact (Never.unsupported _).pureS | (split <;> first | exact PureS.pure _ | exact (Never.stuck _).pureS) | (simp_all; done) | (rename_i h1 h2; cases h1; cases h2; exact pureS_samePointer_none _))
/-- Operands at which an operator reads no memory. -/
def calmBin (op : BinOp) (x y : Value) : Bool :=
  match op with
  | .eql | .neq => plainPair x y
  | _ => match x, y with
    | .int _ _, .int _ _ => true
    | .string _, .string _ => true
    | _, _ => false
theorem pureS_bin (op : BinOp) (t : TypeId) (x y : Value) (h : calmBin op x y = true) : PureS P (binOp op t x y) := by
  by_cases hi : (∃ k a k' b, x = .int k a ∧ y = .int k' b) ∨ ∃ a b, x = .string a ∧ y = .string b
  · rcases hi with ⟨k, a, k', b, rfl, rfl⟩ | ⟨a, b, rfl, rfl⟩
    · exact pureS_binOp _ _ _ _ _ _
    · exact pureS_binOp_string _ _ _ _
  · have hn : op = .eql ∨ op = .neq := by
      unfold calmBin at h
      split at h
      · exact .inl rfl
      · exact .inr rfl
      · split at h
        · exact absurd (.inl ⟨_, _, _, _, rfl, rfl⟩) hi
        · exact absurd (.inr ⟨_, _, rfl, rfl⟩) hi
        · cases h
    have hp : plainPair x y = true := by rcases hn with rfl | rfl <;> exact h
    have he := pureS_equal (P := P) t x y hp
    clear h
    unfold plainPair at hp
    split at hp <;> first | (cases hp; done) | (exact absurd (.inl ⟨_, _, _, _, rfl, rfl⟩) hi) | (exact absurd (.inr ⟨_, _, rfl, rfl⟩) hi) | skip
    all_goals (rcases hn with rfl | rfl <;> (unfold binOp; dsimp only; exact PureS.bind he fun _ => PureS.pure _))
end
end Go.Proofs.Ytehpdpdmjflddaa
