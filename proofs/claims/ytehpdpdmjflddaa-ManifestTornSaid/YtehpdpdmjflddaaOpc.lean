/-
  The classes of operations: which read no memory, which read what stands, which lay new blocks alone.
-/
import Derived.Test.YtehpdpdmjflddaaSem
namespace Go.Proofs.Ytehpdpdmjflddaa
open Go.RowKit

section
variable {P : Program}

/-- It comes to values alone. -/
def Vals (P : Program) (s : Sem Next) : Prop := ∀ w r w1, s.run P w = .ok r w1 → ∃ v, r = .value v
theorem vals_of {s : Sem Value} : Vals P (do Pure.pure (.value (← s))) := fun w r w1 e => by
  obtain ⟨a, w2, _, e2⟩ := bind_ok e
  simp only [Sem.run_pure] at e2
  cases e2
  exact ⟨a, rfl⟩
theorem pureS_of {s : Sem Value} (h : PureS P s) : PureS P (do Pure.pure (Next.value (← s))) := PureS.bind h fun _ => PureS.pure _
theorem stillS_of {s : Sem Value} (h : StillS P s) : StillS P (do Pure.pure (Next.value (← s))) := StillS.bind h fun _ => (PureS.pure _).stillS
theorem newS_of {s : Sem Value} (h : NewS P s) : NewS P (do Pure.pure (Next.value (← s))) := NewS.bind h fun _ => (PureS.pure _).stillS.newS
theorem pureS_eqGuard (op : BinOp) (t : TypeId) (x y : Operand) (a b : Value) (h : calmBin op a b = true) : PureS P (eqGuard op t x y a b) := by
  have hg : PureS P (Op.eqGuardIn Op.maxDepth t .nilIface .nilIface) := by
    unfold Op.maxDepth
    rw [show (10000 : Nat) = 9999 + 1 from rfl]
    unfold Op.eqGuardIn
    refine PureS.bind (pureS_underlying t) fun d => ?_
    split <;> first | exact PureS.pure _ | (simp_all; done)
  have tail : (op = .eql ∨ op = .neq) → PureS P (eqGuard op t x y a b) := fun ho => by
    have hp : plainPair a b = true := by rcases ho with rfl | rfl <;> exact h
    clear h
    unfold plainPair at hp
    split at hp <;> first | (cases hp; done) | skip
    all_goals (rcases ho with rfl | rfl <;> (unfold eqGuard; simp only [Bool.not_true, Bool.false_eq_true, if_false]))
    all_goals first | exact PureS.pure _ | skip
    all_goals (repeat' (first | exact PureS.pure _ | exact (Never.unsupported _).pureS | (refine PureS.bind hg fun b => ?_) | split))
  cases op <;> first | exact tail (.inl rfl) | exact tail (.inr rfl) | (unfold eqGuard; simp only [Bool.not_false, if_true]; exact PureS.pure _)
/-- A field that has cells. -/
def sizedField (P : Program) (s : TypeId) (f : Nat) : Bool :=
  match P.underlying s with
  | some (.struct fields) => match fields[f]? with
    | some fd => match P.info? fd.type with
      | some i => i.size != 0
      | none => true
    | none => true
  | _ => true
theorem PureS.at {α β : Type} {s : Sem α} {f : α → Sem β} {a : α} (h : ∀ w, s.run P w = .ok a w) (k : PureS P (f a)) : PureS P (s >>= f) := fun w b w2 e => by
  rw [run_of (h w)] at e
  obtain ⟨rfl, g⟩ := k _ _ _ e
  exact ⟨rfl, fun w' => by rw [run_of (h w')]; exact g w'⟩
theorem never_underlying {t : TypeId} (h : P.underlying t = none) : Never P (underlying t) := by
  unfold underlying
  intro w a w1 e
  obtain ⟨p, w3, e3, e4⟩ := bind_ok e
  simp only [program, Sem.run] at e3
  cases e3
  rw [h] at e4
  exact absurd e4 (Never.stuck _ _ _ _)
theorem never_typeInfo {t : TypeId} (h : P.info? t = none) : Never P (typeInfo t) := by
  unfold typeInfo
  intro w a w1 e
  obtain ⟨p, w3, e3, e4⟩ := bind_ok e
  simp only [program, Sem.run] at e3
  cases e3
  rw [h] at e4
  exact absurd e4 (Never.stuck _ _ _ _)
theorem pureS_fieldAt (s : TypeId) (x : Value) (f : Nat) (h : sizedField P s f = true) : PureS P (Instr.fieldAt s x f) := by
  unfold Instr.fieldAt
  unfold sizedField at h
  cases hu : P.underlying s with
  | none => exact (Never.bind_left (never_underlying hu)).pureS
  | some d =>
    refine PureS.at (run_underlying hu) ?_
    rw [hu] at h
    split
    · rename_i fields
      dsimp only at h
      cases hf : fields[f]? with
      | none => exact (Never.stuck _).pureS
      | some fd =>
        rw [hf] at h
        dsimp only at h
        refine PureS.bind (pureS_sureAddr x) fun a => PureS.bind ?_ fun b => PureS.pure _
        unfold fieldPlace
        cases hi : P.info? fd.type with
        | none => exact (Never.bind_left (Never.bind_left (never_typeInfo hi))).pureS
        | some i =>
          rw [hi] at h
          have hs : ∀ w, (sizeOf fd.type).run P w = .ok i.size w := fun w => by simp [sizeOf, typeInfo, hi]
          refine PureS.at hs ?_
          have : ¬ i.size = 0 := by simpa using h
          rw [if_neg this]
          exact PureS.pure _
    · exact (Never.stuck _).pureS

/-! ### What reads memory that stands -/
theorem StillS.load (m : Mode) (a : Addr) : StillS P (load a m) := by
  unfold Go.load
  intro w v w1 e
  simp only [Sem.run] at e
  have hb : ∀ {o : Obj} {w' : World} {b : Nat}, Grows w w' → w.heap[b]? = some o → w'.heap[b]? = some o := fun hg h => (hg.2 _ (Array.getElem?_eq_some_iff.1 h).1).trans h
  cases hc : w.cell? a with
  | some u =>
    rw [hc] at e
    cases e
    refine ⟨rfl, fun w' hg => ?_⟩
    have : w'.cell? a = some v := by
      unfold World.cell? at hc ⊢
      cases hh : w.heap[a.block]? with
      | none => rw [hh] at hc; cases hc
      | some o => rw [hb hg hh]; rw [hh] at hc; exact hc
    simp only [Sem.run, this]
  | none =>
    rw [hc] at e
    dsimp only at e
    have hne : w.cell? a = none := hc
    cases hf : w.farLoad P a (m == .atomic) with
    | error x => rw [hf] at e; cases e
    | ok r =>
      rw [hf] at e
      cases e
      refine ⟨rfl, fun w' hg => ?_⟩
      unfold World.farLoad at hf
      cases hh : w.heap[a.block]? with
      | none => rw [hh] at hf; cases hf
      | some o =>
        rw [hh] at hf
        cases o <;> try (cases hf; done)
        rename_i at_ u
        have h' := hb hg hh
        have hcell : w'.cell? a = none := by simp [World.cell?, h']
        have hfar : w'.farLoad P a (m == .atomic) = .ok r := by
          unfold World.farLoad
          rw [h']
          dsimp only at hf ⊢
          cases hl : w.viewLoad P at_ u a (m == .atomic) with
          | error x => rw [hl] at hf; cases hf
          | ok r' =>
            rw [hl] at hf
            cases hf
            have : w'.viewLoad P at_ u a (m == .atomic) = .ok r := by
              rw [← hl]
              unfold World.viewLoad
              have hs : w.seen P at_ u a (m == .atomic) = w'.seen P at_ u a (m == .atomic) := by
                cases hx : w.heap[at_.block]? with
                | some o => unfold World.seen; rw [hb hg hx, hx]
                | none =>
                  exfalso
                  unfold World.viewLoad World.seen at hl
                  rw [hx] at hl
                  simp only [pure, Except.pure] at hl
                  repeat' (first | (cases hl; done) | (simp [MonadExcept.throw, throwThe, MonadExceptOf.throw] at hl; done) | split at hl)
              rw [hs]
            rw [this]
        simp only [Sem.run, hcell, hfar]
theorem stillS_loadCellsFrom (a : Addr) : ∀ (n i : Nat) (acc : Array Value), StillS P (loadCellsFrom a i n acc)
  | 0, _, _ => (PureS.pure _).stillS
  | n + 1, i, _ => StillS.bind (StillS.load _ _) fun _ => stillS_loadCellsFrom a n (i + 1) _
theorem stillS_loadAt (t : TypeId) (x : Value) : StillS P (Instr.loadAt t x) := by
  unfold Instr.loadAt
  refine StillS.bind (pureS_sureAddr x).stillS fun a => ?_
  unfold loadVar
  refine StillS.bind (pureS_isAgg t).stillS fun b => ?_
  split
  · refine StillS.bind (pureS_sizeOf t).stillS fun n => StillS.bind (stillS_loadCellsFrom a n 0 #[]) fun _ => (PureS.pure _).stillS
  · exact StillS.load _ _
theorem StillS.getObj (r : Nat) : StillS P (getObj r) := by
  unfold Go.getObj
  intro w v w1 e
  simp only [Sem.run] at e
  cases hh : w.heap[r]? with
  | none => rw [hh] at e; cases e
  | some o =>
    rw [hh] at e
    have hlt := (Array.getElem?_eq_some_iff.1 hh).1
    cases o <;> cases e
    all_goals exact ⟨rfl, fun w' hg => by simp only [Sem.run, hg.2 r hlt, hh]⟩
theorem stillS_len (ts : Array TypeId) (t : TypeId) (xs : Array Value) : StillS P (Builtin.len_ ts t xs) := by
  unfold Builtin.len_
  repeat' (first | exact (PureS.pure _).stillS | exact (Never.stuck _).pureS.stillS | (refine StillS.bind (pureS_underlying _).stillS fun _ => ?_) | (refine StillS.bind (StillS.getObj _) fun _ => ?_) | split)
theorem pureS_len (ts : Array TypeId) (t : TypeId) (x : Value) (h : match x with | .slice .. | .string _ => True | _ => False) : PureS P (Builtin.len_ ts t #[x]) := by
  unfold Builtin.len_
  cases x <;> first | exact h.elim | skip
  all_goals (repeat' (first | exact PureS.pure _ | exact (Never.stuck _).pureS | (refine PureS.bind (pureS_underlying _) fun _ => ?_) | (simp_all; done) | split))
theorem pureS_max (ts : Array TypeId) (t : TypeId) (l : List (IntKind × Int)) : PureS P (Builtin.max_ ts t (l.map fun x => Value.int x.1 x.2).toArray) := by
  have key : ∀ (l : List (IntKind × Int)) (k : IntKind) (x : Int), PureS P ((l.map fun x => Value.int x.1 x.2).foldlM Builtin.max2 (.int k x)) := by
    intro l
    induction l with
    | nil => exact fun k x => PureS.pure _
    | cons y l ih =>
      intro k x
      simp only [List.map_cons, List.foldlM_cons]
      exact PureS.at (a := .int k (if y.2 > x then y.2 else x)) (fun w => by simp [Builtin.max2]) (ih _ _)
  unfold Builtin.max_
  cases l with
  | nil => exact (Never.stuck _).pureS
  | cons y l => exact key l _ _
theorem pureS_min (ts : Array TypeId) (t : TypeId) (l : List (IntKind × Int)) : PureS P (Builtin.min_ ts t (l.map fun x => Value.int x.1 x.2).toArray) := by
  have key : ∀ (l : List (IntKind × Int)) (k : IntKind) (x : Int), PureS P ((l.map fun x => Value.int x.1 x.2).foldlM Builtin.min2 (.int k x)) := by
    intro l
    induction l with
    | nil => exact fun k x => PureS.pure _
    | cons y l ih =>
      intro k x
      simp only [List.map_cons, List.foldlM_cons]
      exact PureS.at (a := .int k (if y.2 < x then y.2 else x)) (fun w => by simp [Builtin.min2]) (ih _ _)
  unfold Builtin.min_
  cases l with
  | nil => exact (Never.stuck _).pureS
  | cons y l => exact key l _ _
/-- A look-up at a key of the kind int. -/
theorem stillS_lookup (t : TypeId) (x : Value) (k : IntKind) (n : Int) (ok : Bool) : StillS P (Instr.lookup t x (.int k n) ok) := by
  have heq : ∀ K v, PureS P (Op.equal K (.int k n) v) := fun K v => by
    unfold Op.equal Op.maxDepth
    rw [show (10000 : Nat) = 9999 + 1 from rfl]
    unfold Op.equalIn
    refine PureS.bind (pureS_underlying _) fun d => ?_
    repeat' (first | (with_reducible exact PureS.pure _) | (with_reducible exact (Never.stuck _).pureS) | (with_reducible exact (Never.unsupported _).pureS) | (simp_all; done) | split)
  have hfa : ∀ K (es : List MapEntry) i, PureS P (Instr.findAsking K (.int k n) es i) := fun K es => by
    induction es with
    | nil => exact fun i => PureS.pure _
    | cons e es ih =>
      intro i
      unfold Instr.findAsking
      refine PureS.bind (heq K e.key) fun b => ?_
      split
      · exact PureS.pure _
      · exact ih _
  have hck : ∀ b m K, PureS P (Instr.checkKey b m K (.int k n)) := fun b m K => by
    cases m with
    | zero => exact (Never.unsupported _).pureS
    | succ m =>
      unfold Instr.checkKey
      refine PureS.bind (pureS_underlying _) fun d => ?_
      split <;> first | (simp_all; done) | exact (Never.stuck _).pureS | exact PureS.pure _
  have hfk : ∀ K (es : List MapEntry), PureS P (Instr.findKey K (.int k n) es) := fun K es => by
    unfold Instr.findKey
    refine PureS.bind (pureS_underlying _) fun d => ?_
    split
    · exact PureS.pure _
    · exact hfa _ _ _
  unfold Instr.lookup
  cases ok <;> repeat' (first
    | (with_reducible exact (PureS.pure _).stillS)
    | (with_reducible exact (Never.stuck _).pureS.stillS)
    | (with_reducible exact (Never.bind_left (Never.stuck _)).pureS.stillS)
    | (with_reducible refine StillS.bind (pureS_underlying _).stillS fun _ => ?_)
    | (with_reducible refine StillS.bind (PureS.pure _).stillS fun _ => ?_)
    | (with_reducible refine StillS.bind (StillS.getObj _) fun _ => ?_)
    | (with_reducible refine StillS.bind (hck _ _ _).stillS fun _ => ?_)
    | (with_reducible refine StillS.bind (hfk _ _).stillS fun _ => ?_)
    | (with_reducible refine StillS.bind (pureS_zeroValue _).stillS fun _ => ?_)
    | split
    | dsimp only)

/-! ### What lays new blocks -/
theorem newS_newRow (e : TypeId) (cs : Array Value) : NewS P (newRow e cs) := by
  unfold newRow newObj
  intro w a w1 h
  obtain ⟨n, w2, e1, e2⟩ := bind_ok h
  simp only [Sem.run] at e1
  cases e1
  simp only [Sem.run_pure] at e2
  cases e2
  exact ⟨by simp, fun k hk => by rw [Array.getElem?_push, if_neg (by omega)]⟩
theorem newS_newObj (o : Obj) : NewS P (newObj o) := by
  unfold newObj
  intro w a w1 e1
  simp only [Sem.run] at e1
  cases e1
  exact ⟨by simp, fun k hk => by rw [Array.getElem?_push, if_neg (by omega)]⟩
theorem newS_alloc (t : TypeId) : NewS P (Instr.alloc t true (.tuple #[])) := by
  unfold Instr.alloc
  refine NewS.bind (pureS_zeroValue _).stillS.newS fun z => ?_
  exact NewS.bind (newS_newRow _ _) fun _ => (PureS.pure _).stillS.newS
theorem newS_box (t : TypeId) (v : Value) : NewS P (Instr.box t v) := by
  unfold Instr.box
  exact NewS.bind (newS_newRow _ _) fun _ => (PureS.pure _).stillS.newS
theorem newS_buildSlice (t : TypeId) (n : Nat) (ps : Array (Nat × Value)) : NewS P (Instr.buildSlice t n ps) := by
  unfold Instr.buildSlice
  repeat' (first
    | (with_reducible exact (PureS.pure _).stillS.newS)
    | (with_reducible exact (Never.stuck _).pureS.stillS.newS)
    | (with_reducible exact (Never.bind_left (Never.stuck _)).pureS.stillS.newS)
    | (with_reducible exact (Never.bind_left (Never.unsupported _)).pureS.stillS.newS)
    | (with_reducible refine NewS.bind (pureS_underlying _).stillS.newS fun _ => ?_)
    | (with_reducible refine NewS.bind (pureS_sizeOf _).stillS.newS fun _ => ?_)
    | (with_reducible refine NewS.bind (PureS.pure _).stillS.newS fun _ => ?_)
    | (with_reducible refine NewS.bind (pureS_zeroValue _).stillS.newS fun _ => ?_)
    | (with_reducible refine NewS.bind (newS_newRow _ _) fun _ => ?_)
    | split
    | dsimp only)
theorem newS_makeMap (t : TypeId) (r : Option Value) : NewS P (Instr.makeMap t r) := by
  unfold Instr.makeMap
  cases r <;> repeat' (first
    | (with_reducible exact (PureS.pure _).stillS.newS)
    | (with_reducible exact (Never.stuck _).pureS.stillS.newS)
    | (with_reducible exact (Never.bind_left (Never.stuck _)).pureS.stillS.newS)
    | (with_reducible refine NewS.bind (pureS_underlying _).stillS.newS fun _ => ?_)
    | (with_reducible refine NewS.bind (pureS_asInt _).stillS.newS fun _ => ?_)
    | (with_reducible refine NewS.bind (newS_newObj _) fun _ => ?_)
    | split
    | dsimp only)
theorem newS_choose (q : Question) : NewS P (choose q) := by
  unfold choose
  intro w a w1 e
  simp only [Sem.run] at e
  split at e <;> (cases e; exact ⟨Nat.le_refl _, fun _ _ => rfl⟩)
theorem newS_makeSlice (t : TypeId) (l c : Value) : NewS P (Instr.makeSlice t l c) := by
  have hroom : ∀ n, NewS P (askRoom n) := fun n => by
    unfold askRoom mark
    split
    · intro w a w1 e
      simp only [Sem.run] at e
      cases e
      exact Grows.refl w
    · exact (PureS.pure _).stillS.newS
  unfold Instr.makeSlice
  repeat' (first
    | (with_reducible exact (PureS.pure _).stillS.newS)
    | (with_reducible exact (Never.stuck _).pureS.stillS.newS)
    | (with_reducible exact (Never.bind_left (Never.stuck _)).pureS.stillS.newS)
    | (with_reducible exact (Never.bind_left (Never.runtimePanic _)).pureS.stillS.newS)
    | (with_reducible exact (Never.bind fun _ => Never.bind_left (Never.runtimePanic _)).pureS.stillS.newS)
    | (with_reducible refine NewS.bind (pureS_underlying _).stillS.newS fun _ => ?_)
    | (with_reducible refine NewS.bind (pureS_asInt _).stillS.newS fun _ => ?_)
    | (with_reducible refine NewS.bind (pureS_sizeOf _).stillS.newS fun _ => ?_)
    | (with_reducible refine NewS.bind (pureS_typeInfo _).stillS.newS fun _ => ?_)
    | (with_reducible refine NewS.bind (PureS.pure _).stillS.newS fun _ => ?_)
    | (with_reducible refine NewS.bind (pureS_zeroValue _).stillS.newS fun _ => ?_)
    | (with_reducible refine NewS.bind (newS_newRow _ _) fun _ => ?_)
    | (with_reducible refine NewS.bind (hroom _) fun _ => ?_)
    | split
    | dsimp only)
end
end Go.Proofs.Ytehpdpdmjflddaa
