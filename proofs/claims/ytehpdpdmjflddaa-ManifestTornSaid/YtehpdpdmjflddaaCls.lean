/-
  Of each operation of a region: its class, told off its text and, for some, off its operands.
-/
import Derived.Test.YtehpdpdmjflddaaOpc
namespace Go.Proofs.Ytehpdpdmjflddaa
open Go.RowKit

/-- pure · reads what stands · lays new blocks · loud -/
inductive Cls where
  | pure | still | new | loud
  deriving DecidableEq
def lenPure (P : Program) (c : Call) : Bool :=
  match c.argTypes[0]? with
  | some t => match P.underlying t with
    | some (.slice _) | some .string => true
    | _ => false
  | none => false
def intConv (P : Program) (s d : TypeId) : Bool :=
  match P.underlying s, P.underlying d with
  | some (.int _), some (.int _) => true
  | _, _ => false
def cls (P : Program) (o : Oper) : Cls :=
  match o.op with
  | .move _ | .assign _ | .pick .. | .build .. | .field .. | .index .. | .unOp .. | .extract .. | .makeInterface .. | .slice .. | .indexAddr .. | .nilCheck _ | .binOp .. => .pure
  | .convert s d _ => if intConv P s d then .pure else .loud
  | .fieldAddr s _ f => if sizedField P s f then .pure else .loud
  | .call c => match c.callee with
    | .builtin .len => if lenPure P c then .pure else .still
    | .builtin .min | .builtin .max => .pure
    | _ => .loud
  | .load .. | .lookup .. => .still
  | .alloc _ | .box .. | .buildSlice .. | .makeSlice .. | .makeMap .. => .new
  | _ => .loud
def isInt : Value → Bool
  | .int _ _ => true
  | _ => false
def calmAt (P : Program) (o : Oper) (e : Operand → Value) : Bool :=
  match o.op with
  | .binOp op _ x y _ => calmBin op (e x) (e y)
  | .nilCheck x => match e x with | .pointer _ => true | _ => false
  | .convert _ _ x => isInt (e x)
  | .lookup _ _ i _ => isInt (e i)
  | .call c => match c.callee with
    | .builtin .len => if lenPure P c then (match c.args.toList.map e with | [.slice ..] | [.string _] => true | _ => false) else true
    | .builtin .min | .builtin .max => (c.args.toList.map e).all isInt
    | _ => true
  | _ => true
section
variable {P : Program}
theorem pureS_unary (op : UnOp) (x : Value) : PureS P (Op.unary op x) := by
  have ha : ∀ k a b, PureS P (Op.intArith .sub k a b) := fun k a b => by
    unfold Op.intArith
    first | exact PureS.pure _ | (split <;> first | exact PureS.pure _ | exact (Never.stuck _).pureS)
  have hb : ∀ k a b, PureS P (Op.intBits .xor k a b) := fun k a b => by
    unfold Op.intBits
    first | exact PureS.pure _ | (split <;> first | exact PureS.pure _ | exact (Never.stuck _).pureS)
  unfold Op.unary
  split <;> first | exact ha _ _ _ | exact hb _ _ _ | exact PureS.pure _ | exact (Never.stuck _).pureS | exact (Never.unsupported _).pureS
theorem pureS_build (t : TypeId) (ps : Array (Nat × Value)) : PureS P (Instr.build t ps) := by
  have hm : ∀ (l : List Field), PureS P (l.mapM fun f => do Pure.pure (f.offset, ← sizeOf f.type)) := fun l => by
    induction l with
    | nil => exact PureS.pure _
    | cons f l ih =>
      rw [List.mapM_cons]
      exact PureS.bind (PureS.bind (pureS_sizeOf _) fun _ => PureS.pure _) fun _ => PureS.bind ih fun _ => PureS.pure _
  have hm' : ∀ (a : Array Field), PureS P (a.mapM fun f => do Pure.pure (f.offset, ← sizeOf f.type)) := fun a => by
    rw [Array.mapM_eq_mapM_toList]
    exact PureS.bind (hm _) fun _ => PureS.pure _
  unfold Instr.build
  refine PureS.bind (pureS_zeroValue _) fun z => PureS.bind (pureS_underlying _) fun d => ?_
  split
  · refine PureS.bind (hm' _) fun _ => ?_
    split
    · exact PureS.pure _
    · exact (Never.stuck _).pureS
  · refine PureS.bind (pureS_sizeOf _) fun _ => ?_
    split
    · exact PureS.pure _
    · exact (Never.stuck _).pureS
  · exact (Never.stuck _).pureS
theorem pureS_convert (s d : TypeId) (k : IntKind) (n : Int) (h : intConv P s d = true) : PureS P (convert s d (.int k n)) := by
  unfold intConv at h
  cases hs : P.underlying s with
  | none => rw [hs] at h; cases h
  | some a =>
    cases hd : P.underlying d with
    | none => rw [hs, hd] at h; cases a <;> cases h
    | some b =>
      rw [hs, hd] at h
      cases a <;> cases b <;> first | (cases h; done) | skip
      unfold convert
      exact PureS.at (run_underlying hs) (PureS.at (run_underlying hd) (PureS.pure _))
theorem all_int : ∀ (l : List Value), l.all isInt = true → ∃ l' : List (IntKind × Int), l = l'.map fun x => Value.int x.1 x.2
  | [], _ => ⟨[], rfl⟩
  | v :: l, h => by
    simp only [List.all_cons, Bool.and_eq_true] at h
    obtain ⟨l', rfl⟩ := all_int l h.2
    cases v <;> first | (exact ⟨(_, _) :: l', rfl⟩) | (have := h.1; cases this)
theorem vals_pure (v : Value) : Vals P (Pure.pure (.value v)) := fun w r w1 e => by
  simp only [Sem.run_pure] at e
  cases e
  exact ⟨v, rfl⟩
theorem vals_never {s : Sem Next} (h : Never P s) : Vals P s := fun _ _ _ e => absurd e (h _ _ _)
theorem op_pure (o : Oper) (e : Operand → Value) (hc : cls P o = .pure) (hk : calmAt P o e = true) : PureS P (execOp e o) ∧ Vals P (execOp e o) := by
  unfold cls at hc
  unfold calmAt at hk
  unfold execOp
  cases ho : o.op <;> rw [ho] at hc hk <;> dsimp only at hc hk ⊢ <;> first | (cases hc; done) | skip
  case move => exact ⟨PureS.pure _, vals_pure _⟩
  case assign => exact ⟨PureS.pure _, vals_pure _⟩
  case pick =>
    refine ⟨PureS.bind (pureS_asBool _) fun _ => PureS.pure _, fun w r w1 h => ?_⟩
    obtain ⟨b, w2, _, e2⟩ := bind_ok h
    exact vals_pure _ _ _ _ e2
  case build => exact ⟨pureS_of (pureS_build _ _), vals_of⟩
  case field => exact ⟨pureS_of (pureS_field _ _ _), vals_of⟩
  case index => exact ⟨pureS_of (pureS_index _ _ _), vals_of⟩
  case unOp => exact ⟨pureS_of (pureS_unary _ _), vals_of⟩
  case extract =>
    refine ⟨pureS_of ?_, vals_of⟩
    unfold Instr.extract
    repeat' (first | (with_reducible exact PureS.pure _) | (with_reducible exact (Never.stuck _).pureS) | split)
  case makeInterface =>
    refine ⟨pureS_of ?_, vals_of⟩
    unfold Instr.makeInterface
    refine PureS.bind (pureS_underlying _) fun _ => ?_
    split <;> first | exact PureS.pure _ | exact (Never.stuck _).pureS
  case slice => exact ⟨pureS_of (pureS_slice _ _ _ _ _), vals_of⟩
  case indexAddr => exact ⟨pureS_of (pureS_indexAt _ _ _), vals_of⟩
  case nilCheck x =>
    cases hx : e x <;> rw [hx] at hk <;> first | (cases hk; done) | skip
    rename_i a
    cases a
    · exact ⟨(Never.runtimePanic _).pureS, vals_never (Never.runtimePanic _)⟩
    · exact ⟨PureS.pure _, vals_pure _⟩
  case binOp => exact ⟨pureS_of (PureS.bind (pureS_eqGuard _ _ _ _ _ _ hk) fun _ => pureS_bin _ _ _ _ hk), vals_of⟩
  case convert s d x =>
    cases hx : e x <;> rw [hx] at hk <;> first | (cases hk; done) | skip
    refine ⟨pureS_of (pureS_convert _ _ _ _ ?_), vals_of⟩
    split at hc
    · assumption
    · cases hc
  case fieldAddr s x f =>
    refine ⟨pureS_of (pureS_fieldAt _ _ _ ?_), vals_of⟩
    split at hc
    · assumption
    · cases hc
  case call c =>
    unfold resolve
    cases hcc : c.callee <;> rw [hcc] at hc hk <;> first | (cases hc; done) | skip
    rename_i b
    have hmap : c.args.map e = (c.args.toList.map e).toArray := by rw [← Array.toList_map, Array.toArray_toList]
    have go : ∀ (s : Sem Value) (g : Deferred), (∀ w, (invoke g.target g.args).run P w = (do Pure.pure (Next.value (← s)) : Sem Next).run P w) → PureS P s →
        PureS P (do let d ← (Pure.pure g : Sem Deferred); invoke d.target d.args) ∧ Vals P (do let d ← (Pure.pure g : Sem Deferred); invoke d.target d.args) := fun s g hr hs => by
      have hrun : ∀ w, (do let d ← (Pure.pure g : Sem Deferred); invoke d.target d.args).run P w = (do Pure.pure (Next.value (← s)) : Sem Next).run P w := fun w => by
        rw [← hr w]
        exact run_of (a := g) (by simp)
      refine ⟨fun w r w1 h => ?_, fun w r w1 h => ?_⟩
      · rw [hrun] at h
        obtain ⟨h1, h2⟩ := pureS_of hs _ _ _ h
        exact ⟨h1, fun w' => by rw [hrun]; exact h2 w'⟩
      · rw [hrun] at h
        exact vals_of _ _ _ h
    cases b <;> dsimp only at hc hk <;> first | (cases hc; done) | skip
    case builtin.len =>
      split at hc
      · rename_i hl
        rw [if_pos hl] at hk
        refine go (Builtin.len_ c.argTypes o.type (c.args.map e)) _ (fun w => rfl) ?_
        rw [hmap]
        split at hk
        · rename_i h'; rw [h']; exact pureS_len _ _ _ trivial
        · rename_i h'; rw [h']; exact pureS_len _ _ _ trivial
        · cases hk
      · cases hc
    case builtin.max =>
      refine go (Builtin.max_ c.argTypes o.type (c.args.map e)) _ (fun w => rfl) ?_
      obtain ⟨l, hl⟩ := all_int _ hk
      rw [hmap, hl]
      exact pureS_max _ _ _
    case builtin.min =>
      refine go (Builtin.min_ c.argTypes o.type (c.args.map e)) _ (fun w => rfl) ?_
      obtain ⟨l, hl⟩ := all_int _ hk
      rw [hmap, hl]
      exact pureS_min _ _ _
theorem op_still (o : Oper) (e : Operand → Value) (hc : cls P o = .still) (hk : calmAt P o e = true) : StillS P (execOp e o) ∧ Vals P (execOp e o) := by
  unfold cls at hc
  unfold calmAt at hk
  unfold execOp
  cases ho : o.op <;> rw [ho] at hc hk <;> dsimp only at hc hk ⊢ <;> first | (cases hc; done) | (split at hc <;> cases hc; done) | skip
  case load => exact ⟨stillS_of (stillS_loadAt _ _), vals_of⟩
  case lookup t m i ok =>
    cases hx : e i <;> rw [hx] at hk <;> first | (cases hk; done) | skip
    exact ⟨stillS_of (stillS_lookup _ _ _ _ _), vals_of⟩
  case call c =>
    unfold resolve
    cases hcc : c.callee <;> rw [hcc] at hc hk <;> first | (cases hc; done) | skip
    rename_i b
    cases b <;> dsimp only at hc hk <;> first | (cases hc; done) | skip
    have go : ∀ (s : Sem Value) (g : Deferred), (∀ w, (invoke g.target g.args).run P w = (do Pure.pure (Next.value (← s)) : Sem Next).run P w) → StillS P s →
        StillS P (do let d ← (Pure.pure g : Sem Deferred); invoke d.target d.args) ∧ Vals P (do let d ← (Pure.pure g : Sem Deferred); invoke d.target d.args) := fun s g hr hs => by
      have hrun : ∀ w, (do let d ← (Pure.pure g : Sem Deferred); invoke d.target d.args).run P w = (do Pure.pure (Next.value (← s)) : Sem Next).run P w := fun w => by
        rw [← hr w]
        exact run_of (a := g) (by simp)
      refine ⟨fun w r w1 h => ?_, fun w r w1 h => ?_⟩
      · rw [hrun] at h
        obtain ⟨h1, h2⟩ := stillS_of hs _ _ _ h
        exact ⟨h1, fun w' hg => by rw [hrun]; exact h2 w' hg⟩
      · rw [hrun] at h
        exact vals_of _ _ _ h
    exact go (Builtin.len_ c.argTypes o.type (c.args.map e)) _ (fun w => rfl) (stillS_len _ _ _)
theorem op_new (o : Oper) (e : Operand → Value) (hc : cls P o = .new) : NewS P (execOp e o) ∧ Vals P (execOp e o) := by
  unfold cls at hc
  unfold execOp
  cases ho : o.op <;> rw [ho] at hc <;> dsimp only at hc ⊢ <;> first | (cases hc; done) | (split at hc <;> cases hc; done) | skip
  case alloc => exact ⟨newS_of (newS_alloc _), vals_of⟩
  case box => exact ⟨newS_of (newS_box _ _), vals_of⟩
  case buildSlice => exact ⟨newS_of (newS_buildSlice _ _ _), vals_of⟩
  case makeSlice => exact ⟨newS_of (newS_makeSlice _ _ _), vals_of⟩
  case makeMap => exact ⟨newS_of (newS_makeMap _ _), vals_of⟩
  case call c =>
    cases hcc : c.callee <;> rw [hcc] at hc <;> first | (cases hc; done) | skip
    rename_i b
    cases b <;> dsimp only at hc <;> first | (cases hc; done) | (split at hc <;> cases hc; done)
end
end Go.Proofs.Ytehpdpdmjflddaa
