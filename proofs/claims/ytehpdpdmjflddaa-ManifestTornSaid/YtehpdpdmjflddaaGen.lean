/-
  A reading of the model's code as a predicate on worlds: the temporaries are worked out on the way, what stays are the operations on memory, the calls, the tests and the loops. Whoever shows the reading has shown the code's run.
-/
import Derived.Test.YtehpdpdmjflddaaAny
import Derived.Scope
namespace Go.Proofs.Ytehpdpdmjflddaa
open Go.RowKit

abbrev WP := World → Prop
def stop : WP := fun _ => False
def sem {α : Type} (P : Program) (m : Sem α) (next : α → WP) : WP := fun w => ∃ v w', m.run P w = .ok v w' ∧ next v w'
def asI (k : IntKind) (v : Value) (f : Int → WP) : WP := fun w => ∃ x, v = .int k x ∧ f x w
def asB (v : Value) (f : Bool → WP) : WP := fun w => ∃ x, v = .bool x ∧ f x w
def asStr (v : Value) (f : ByteArray → WP) : WP := fun w => ∃ x, v = .string x ∧ f x w
def asP (v : Value) (f : Option Addr → WP) : WP := fun w => ∃ x, v = .pointer x ∧ f x w
def asA (v : Value) (f : Addr → WP) : WP := fun w => ∃ x, v = .pointer (some x) ∧ f x w
def asS (v : Value) (f : Option Addr → Nat → Nat → WP) : WP := fun w => ∃ x n c, v = .slice x n c ∧ f x n c w
def asM (v : Value) (f : Option Nat → WP) : WP := fun w => ∃ x, v = .map x ∧ f x w
def asAgg (v : Value) (f : List Value → WP) : WP := fun w => ∃ cs, v = .agg ⟨cs⟩ ∧ f cs w
def asTup (v : Value) (f : List Value → WP) : WP := fun w => ∃ cs, v = .tuple ⟨cs⟩ ∧ f cs w
def uncons (l : List Value) (f : Value → List Value → WP) : WP := fun w => ∃ v r, l = v :: r ∧ f v r w
def unnil (l : List Value) (X : WP) : WP := fun w => l = [] ∧ X w
def br (c : Bool) (X Y : WP) : WP := fun w => (c = true → X w) ∧ (c = false → Y w)
def need (b : Bool) (X : WP) : WP := fun w => b = true ∧ X w
def drewW (X : WP) : WP := fun w => X w.drew
def callW (P : Program) (f : FuncId) (args : Array Value) (next : Value → WP) : WP := fun w => Calls P f args w fun e w' => ∃ v, e = .returned v ∧ next v w'
def callable (P : Program) (g : FuncId) : Bool := match P.funcs[g]? with | some fn => !(fn.name == "runtime.NumGoroutine") && fn.body.isSome | none => false
def dynW (P : Program) (v : Value) (args : Array Value) (next : Value → WP) : WP := fun w =>
  ∃ g first captured, v = .func (.func g) first captured ∧ callable P g = true ∧ callW P g (first ++ args ++ captured) next w
def joinW (x : (List Value → WP) → WP) (y : List Value → WP) : WP := x y
def loopW (vs0 : List Value) (body : (List Value → WP) → List Value → WP) : WP := fun w =>
  ∃ I : Nat → List Value → World → Prop, (∃ n, I n vs0 w) ∧ ∀ n vs w, I n vs w → body (fun vs' w' => ∃ n', n' < n ∧ I n' vs' w') vs w

/-- The shapes of values, by types. -/
inductive Leaf where
  | int (k : IntKind) | bool | str | ptr | sl | mp | raw
inductive Shp where
  | leaf (l : Leaf) | agg (l : List Leaf) | big
def flatT (P : Program) : Nat → TypeId → List Leaf
  | 0, _ => []
  | n + 1, t => match P.underlying t with
    | some (.int k) => [.int k]
    | some .bool => [.bool]
    | some .string => [.str]
    | some (.pointer _) => [.ptr]
    | some (.slice _) => [.sl]
    | some (.map _ _) => [.mp]
    | some (.struct fs) => fs.toList.flatMap fun f => flatT P n f.type
    | some (.array m e) => (List.replicate m (flatT P n e)).flatten
    | _ => [.raw]
def small (P : Program) (t : TypeId) : Bool := match P.types[t]? with | some i => Nat.ble i.size 16 | none => false
def shp (P : Program) (t : TypeId) : Shp :=
  match P.underlying t with
  | some (.struct _) | some (.array _ _) => match small P t with | true => .agg (flatT P 12 t) | false => .big
  | _ => match flatT P 12 t with | l :: _ => .leaf l | [] => .leaf .raw
def asLeaf : Leaf → Value → (Value → WP) → WP
  | .int k, v, f => asI k v fun x => f (.int k x)
  | .bool, v, f => asB v fun x => f (.bool x)
  | .str, v, f => asStr v fun x => f (.string x)
  | .ptr, v, f => asP v fun x => f (.pointer x)
  | .sl, v, f => asS v fun x n c => f (.slice x n c)
  | .mp, v, f => asM v fun x => f (.map x)
  | .raw, v, f => f v
def asLeaves : List Leaf → List Value → (List Value → WP) → WP
  | [], l, f => unnil l (f [])
  | t :: ts, l, f => uncons l fun v r => asLeaf t v fun v' => asLeaves ts r fun r' => f (v' :: r')
def asShp : Shp → Value → (Value → WP) → WP
  | .leaf l, v, f => asLeaf l v f
  | .agg l, v, f => asAgg v fun cs => asLeaves l cs fun cs' => f (.agg ⟨cs'⟩)
  | .big, v, f => asAgg v fun cs => f (.agg ⟨cs⟩)
def asShps : List Shp → List Value → (List Value → WP) → WP
  | [], l, f => unnil l (f [])
  | t :: ts, l, f => uncons l fun v r => asShp t v fun v' => asShps ts r fun r' => f (v' :: r')
theorem asLeaf_out {l : Leaf} {v : Value} {f : Value → WP} {w : World} (h : asLeaf l v f w) : f v w := by
  cases l
  case sl => obtain ⟨_, _, _, rfl, h⟩ := h; exact h
  case raw => exact h
  all_goals (obtain ⟨_, rfl, h⟩ := h; exact h)
theorem asLeaves_out : ∀ {ts : List Leaf} {l : List Value} {f : List Value → WP} {w : World}, asLeaves ts l f w → f l w
  | [], _, _, _, ⟨e, h⟩ => by subst e; exact h
  | _ :: _, _, f, _, ⟨v, _, e, h⟩ => by subst e; exact asLeaves_out (f := fun r => f (v :: r)) (asLeaf_out h)
theorem asShp_out {t : Shp} {v : Value} {f : Value → WP} {w : World} (h : asShp t v f w) : f v w := by
  cases t
  case leaf l => exact asLeaf_out h
  case agg l => obtain ⟨cs, rfl, h⟩ := h; exact asLeaves_out h
  case big => obtain ⟨cs, rfl, h⟩ := h; exact h
theorem asShps_out : ∀ {ts : List Shp} {l : List Value} {f : List Value → WP} {w : World}, asShps ts l f w → f l w
  | [], _, _, _, ⟨e, h⟩ => by subst e; exact h
  | _ :: _, _, f, _, ⟨v, _, e, h⟩ => by subst e; exact asShps_out (f := fun r => f (v :: r)) (asShp_out h)
def asD (P : Program) (t : TypeId) (d : Option TypeDesc) (v : Value) (f : Value → WP) : WP :=
  match d with
  | some (.tuple ts) => asTup v fun cs => asShps (ts.toList.map (shp P)) cs fun cs' => f (.tuple ⟨cs'⟩)
  | _ => asShp (shp P t) v f
theorem asD_out {P : Program} {t : TypeId} {d : Option TypeDesc} {v : Value} {f : Value → WP} {w : World} (h : asD P t d v f w) : f v w := by
  rcases d with _ | d
  · exact asShp_out h
  · cases d
    case tuple ts => obtain ⟨cs, rfl, h⟩ := h; exact asShps_out (f := fun r => f (.tuple ⟨r⟩)) h
    all_goals exact asShp_out h
def asT (P : Program) (t : TypeId) (v : Value) (f : Value → WP) : WP := asD P t (P.underlying t) v f
theorem asT_out {P : Program} {t : TypeId} {v : Value} {f : Value → WP} {w : World} (h : asT P t v f w) : f v w := asD_out h

/-- What is known of the temporaries. -/
structure Sy where
  env : List (Nat × Value)
  kn : List (Nat × Bool)
def look {α : Type} : List (Nat × α) → Nat → Option α
  | [], _ => none
  | (d, v) :: e, t => match Nat.beq d t with | true => some v | false => look e t
def mem : List Nat → Nat → Bool
  | [], _ => false
  | d :: l, t => match Nat.beq d t with | true => true | false => mem l t
def dropL {α : Type} (l : List Nat) : List (Nat × α) → List (Nat × α)
  | [] => []
  | (d, v) :: e => match mem l d with | true => dropL l e | false => (d, v) :: dropL l e
def Sy.put (n : Nat) (s : Sy) (dst : Option Nat) (v : Value) : Sy :=
  match dst with
  | none => s
  | some d => match Nat.blt d n with
    | true => ⟨(d, v) :: s.env, dropL [d] s.kn⟩
    | false => s
/-- A truth value that is known. -/
def kb (s : Sy) : Operand → Option Bool
  | .const (.bool b) => some b
  | .tmp t => look s.kn t
  | _ => none
def Sy.putB (n : Nat) (s : Sy) (dst : Option Nat) (v : Value) (b : Option Bool) : Sy :=
  match b with
  | none => s.put n dst v
  | some b => match dst with
    | none => s
    | some d => match Nat.blt d n with
      | true => ⟨(d, .bool b) :: s.env, (d, b) :: dropL [d] s.kn⟩
      | false => s
def Sy.know (s : Sy) (t : Nat) (b : Bool) : Sy := ⟨(t, .bool b) :: s.env, (t, b) :: s.kn⟩
def Sy.forget (s : Sy) (l : List Nat) : Sy := ⟨dropL l s.env, dropL l s.kn⟩
def ev (e : List (Nat × Value)) : Operand → Option Value
  | .tmp t => look e t
  | .const v => some v
  | .global g => some (.pointer (some ⟨g, 0, none⟩))
  | .func f => some (.func (.func f) #[] #[])
def rho (e : List (Nat × Value)) (x : Operand) : Value := (ev e x).getD undef
structure Rep (n : Nat) (s : Sy) (a : Act) : Prop where
  defers : a.defers = []
  size : a.tmps.size = n
  env : ∀ t v, look s.env t = some v → a.tmps[t]? = some v
  kn : ∀ t b, look s.kn t = some b → a.tmps[t]? = some (.bool b)

theorem look_cons {α : Type} (d : Nat) (v : α) (e : List (Nat × α)) (t : Nat) : look ((d, v) :: e) t = if d = t then some v else look e t := by
  unfold look
  by_cases h : d = t
  · subst h; simp
  · have : Nat.beq d t = false := by cases hb : Nat.beq d t with | false => rfl | true => exact absurd (Nat.eq_of_beq_eq_true hb) h
    rw [this, if_neg h]
    cases e <;> rfl
theorem mem_iff : ∀ (l : List Nat) (t : Nat), mem l t = true ↔ t ∈ l
  | [], t => by simp [mem]
  | d :: l, t => by
    unfold mem
    by_cases h : d = t
    · subst h; simp
    · have : Nat.beq d t = false := by cases hb : Nat.beq d t with | false => rfl | true => exact absurd (Nat.eq_of_beq_eq_true hb) h
      rw [this]
      dsimp only
      rw [mem_iff l t, List.mem_cons]
      constructor
      · exact .inr
      · rintro (e | e)
        · exact absurd e.symm h
        · exact e
theorem look_dropL {α : Type} (l : List Nat) (t : Nat) (v : α) : ∀ (e : List (Nat × α)), look (dropL l e) t = some v → t ∉ l ∧ look e t = some v
  | [], h => by simp [dropL, look] at h
  | (d, u) :: e, h => by
    unfold dropL at h
    cases hm : mem l d with
    | true =>
      rw [hm] at h
      obtain ⟨h1, h2⟩ := look_dropL l t v e h
      refine ⟨h1, ?_⟩
      rw [look_cons, if_neg, h2]
      rintro rfl
      exact h1 ((mem_iff _ _).1 hm)
    | false =>
      rw [hm] at h
      dsimp only at h
      rw [look_cons] at h ⊢
      split at h
      · rename_i e1
        subst e1
        rw [if_pos rfl]
        refine ⟨fun hd => ?_, h⟩
        rw [(mem_iff _ _).2 hd] at hm
        cases hm
      · rename_i e1
        rw [if_neg e1]
        exact look_dropL l t v e h
theorem Rep.put {n : Nat} {s : Sy} {a : Act} (h : Rep n s a) (dst : Option Nat) (v : Value) : Rep n (s.put n dst v) (a.put dst v) := by
  cases dst with
  | none => exact h
  | some d =>
    have hsz : (a.put (some d) v).tmps.size = n := by simp [Act.put, h.size]
    have keep : ∀ t, t ≠ d → (a.put (some d) v).tmps[t]? = a.tmps[t]? := fun t ht => by
      unfold Act.put
      exact Array.getElem?_setIfInBounds_ne (Ne.symm ht)
    unfold Sy.put
    dsimp only
    cases hb : Nat.blt d n with
    | true =>
      have hd : d < n := by simpa [Nat.blt_eq] using hb
      refine ⟨h.defers, hsz, fun t u hu => ?_, fun t b hk => ?_⟩
      · rw [look_cons] at hu
        split at hu
        · rename_i e
          subst e
          cases hu
          simp [Act.put, h.size, hd]
        · rename_i e
          rw [keep t (Ne.symm e)]
          exact h.env t u hu
      · obtain ⟨h1, h2⟩ := look_dropL _ _ _ _ hk
        rw [keep t (by simpa using h1)]
        exact h.kn t b h2
    | false =>
      have hd : ¬ d < n := by
        intro hd
        have : Nat.blt d n = true := by simpa [Nat.blt_eq] using hd
        rw [this] at hb
        cases hb
      have same : ∀ t : Nat, (a.put (some d) v).tmps[t]? = a.tmps[t]? := fun t => by
        by_cases ht : t = d
        · subst ht
          rw [Array.getElem?_eq_none (by omega), Array.getElem?_eq_none (by rw [h.size]; omega)]
        · exact keep t ht
      exact ⟨h.defers, hsz, fun t u hu => (same t).trans (h.env t u hu), fun t b hk => (same t).trans (h.kn t b hk)⟩
theorem Rep.know {n : Nat} {s : Sy} {a : Act} (h : Rep n s a) {t : Nat} {b : Bool} (hb : a.tmps[t]? = some (.bool b)) : Rep n (s.know t b) a := by
  refine ⟨h.defers, h.size, fun u v hu => ?_, fun u c hu => ?_⟩
  · unfold Sy.know at hu
    rw [look_cons] at hu
    split at hu
    · rename_i e; subst e; cases hu; exact hb
    · exact h.env u v hu
  · unfold Sy.know at hu
    rw [look_cons] at hu
    split at hu
    · rename_i e; subst e; cases hu; exact hb
    · exact h.kn u c hu
theorem Rep.bool {n : Nat} {s : Sy} {a : Act} (h : Rep n s a) {x : Operand} {b : Bool} (hb : kb s x = some b) : a.eval x = .bool b := by
  unfold kb at hb
  split at hb
  · cases hb; rfl
  · rename_i t
    have := h.kn t b hb
    simp [Act.eval, Array.getD_eq_getD_getElem?, this]
  · cases hb
theorem Rep.putB {n : Nat} {s : Sy} {a : Act} (h : Rep n s a) (dst : Option Nat) (v : Value) (b : Option Bool) (hb : ∀ c, b = some c → v = .bool c) : Rep n (s.putB n dst v b) (a.put dst v) := by
  cases b with
  | none => exact h.put dst v
  | some c =>
    have hv := hb c rfl
    subst hv
    have hp := h.put dst (.bool c)
    unfold Sy.putB
    unfold Sy.put at hp
    cases dst with
    | none => exact hp
    | some d =>
      dsimp only at hp ⊢
      cases hd : Nat.blt d n with
      | false => rw [hd] at hp; exact hp
      | true =>
        rw [hd] at hp
        refine ⟨hp.defers, hp.size, hp.env, fun t e he => ?_⟩
        dsimp only at he
        rw [look_cons] at he
        split at he
        · rename_i e1
          subst e1
          cases he
          exact hp.env d _ (by rw [look_cons, if_pos rfl])
        · exact hp.kn t e he
def Keep (l : List Nat) (a a' : Act) : Prop := ∀ t, t ∉ l → a'.tmps[t]? = a.tmps[t]?
theorem Keep.refl (l : List Nat) (a : Act) : Keep l a a := fun _ _ => rfl
theorem Keep.trans {l : List Nat} {a b c : Act} (h : Keep l a b) (k : Keep l b c) : Keep l a c := fun t ht => (k t ht).trans (h t ht)
theorem Keep.mono {l l' : List Nat} {a b : Act} (h : Keep l a b) (hl : ∀ t ∈ l, t ∈ l') : Keep l' a b := fun t ht => h t fun hm => ht (hl t hm)
theorem Rep.forget {n : Nat} {s s' : Sy} {a a' : Act} (h : Rep n s a) (h' : Rep n s' a') {l : List Nat} (k : Keep l a a') : Rep n (s.forget l) a' :=
  ⟨h'.defers, h'.size, fun t v hv => by
    obtain ⟨h1, h2⟩ := look_dropL _ _ _ _ hv
    rw [k t h1]
    exact h.env t v h2, fun t v hv => by
    obtain ⟨h1, h2⟩ := look_dropL _ _ _ _ hv
    rw [k t h1]
    exact h.kn t v h2⟩
theorem Rep.eval {n : Nat} {s : Sy} {a : Act} (h : Rep n s a) {x : Operand} (hx : (ev s.env x).isSome = true) : a.eval x = rho s.env x := by
  cases x with
  | tmp t =>
    cases he : look s.env t with
    | none => simp [ev, he] at hx
    | some v =>
      have h1 := h.env t v he
      simp [Act.eval, rho, ev, he, Array.getD_eq_getD_getElem?, h1]
  | const v => rfl
  | global g => rfl
  | func f => rfl
def known (e : List (Nat × Value)) : List Operand → Bool
  | [] => true
  | x :: l => match ev e x with | some _ => known e l | none => false
theorem known_iff {e : List (Nat × Value)} : ∀ {l : List Operand}, known e l = true → ∀ x ∈ l, (ev e x).isSome = true
  | [], _, _, hx => by cases hx
  | y :: l, h, x, hx => by
    unfold known at h
    cases hy : ev e y with
    | none => rw [hy] at h; cases h
    | some v =>
      rw [hy] at h
      rcases List.mem_cons.1 hx with rfl | hx
      · simp [hy]
      · exact known_iff h x hx

def pureRun {α : Type} (P : Program) : Sem α → Option α
  | .pure a => some a
  | .program k => pureRun P (k P)
  | .mark _ k => pureRun P k
  | _ => none
theorem pureRun_run {α : Type} {P : Program} : ∀ {m : Sem α} {v : α}, pureRun P m = some v → ∀ w, m.run P w = .ok v w
  | .pure a, v, h, w => by cases h; rfl
  | .program k, v, h, w => by unfold pureRun at h; exact pureRun_run h w
  | .mark _ k, v, h, w => by unfold pureRun at h; exact pureRun_run h w

/-- Is a value nil? -/
def nilB : Value → Option Bool
  | .pointer q => some q.isNone
  | .slice q _ _ => some q.isNone
  | .map q => some q.isNone
  | _ => none
def isNil : Operand → Bool
  | .const (.pointer none) | .const (.slice none 0 0) | .const (.map none) => true
  | _ => false
/-- Which comparison with nil is it? -/
def nilCmp (P : Program) (t : TypeId) (v u : Value) : Option Bool :=
  match P.underlying t, v, u with
  | some (.pointer _), .pointer q, .pointer none => some q.isNone
  | some (.slice _), .slice q _ _, .slice none 0 0 => some q.isNone
  | some (.map _ _), .map q, .map none => some q.isNone
  | _, _, _ => none
theorem nilCmp_run {P : Program} {t : TypeId} {v u : Value} {b : Bool} (h : nilCmp P t v u = some b) (w : World) : (Op.equal t v u).run P w = .ok b w := by
  unfold nilCmp at h
  split at h <;> first | (cases h; done) | skip
  all_goals
    simp only [Option.some.injEq] at h
    subst h
    unfold Op.equal Op.maxDepth Op.equalIn
    first
      | (rename_i q n c hu
         simp only [Sem.run_bind, run_underlying hu]
         cases q <;> rfl)
      | (rename_i q hu
         simp only [Sem.run_bind, run_underlying hu]
         cases q <;> rfl)

/-- Which operations on whole numbers may fail. -/
def riskyBin : BinOp → Bool
  | .quo | .rem | .shl | .shr => true
  | _ => false
def genBin (P : Program) (op : BinOp) (t : TypeId) (x y : Operand) (v u : Value) (k : Value → WP) : WP :=
  match v with
  | .int _ _ => match riskyBin op with
    | true => sem P (binOp op t v u) fun r => asT P t r k
    | false => match pureRun P (binOp op t v u) with | some r => k r | none => stop
  | .bool _ => match pureRun P (binOp op t v u) with | some r => k r | none => stop
  | .string _ => match op with
    | .add => sem P (binOp op t v u) fun r => asT P t r k
    | _ => match pureRun P (binOp op t v u) with | some r => k r | none => stop
  | _ => match isNil y with
    | true => match op, nilCmp P t v u with
      | .eql, some b => k (.bool b)
      | .neq, some b => k (.bool (!b))
      | _, _ => stop
    | false => sem P (do eqGuard op t x y v u; binOp op t v u) fun r => asB r fun b => k (.bool b)
def lenPureT (P : Program) (ats : Array TypeId) : Bool :=
  match ats[0]? with
  | some t => match P.underlying t with
    | some (.slice _) | some .string | some (.array _ _) | some (.pointer _) => true
    | _ => false
  | none => false
def genBuiltin (P : Program) (b : Builtin) (ats : Array TypeId) (t : TypeId) (args : Array Value) (k : Value → WP) : WP :=
  match b with
  | .append => sem P (Builtin.append_ ats t args) fun r => asT P t r k
  | .copy => sem P (Builtin.copy_ ats t args) fun r => asI .i64 r fun x => k (.int .i64 x)
  | .len => match lenPureT P ats with
    | true => match pureRun P (Builtin.len_ ats t args) with | some r => k r | none => stop
    | false => sem P (Builtin.len_ ats t args) fun r => asI .i64 r fun x => k (.int .i64 x)
  | .cap => match pureRun P (Builtin.cap_ ats t args) with | some r => k r | none => stop
  | .min => match pureRun P (Builtin.min_ ats t args) with | some r => k r | none => stop
  | .max => match pureRun P (Builtin.max_ ats t args) with | some r => k r | none => stop
  | .clear => sem P (Builtin.clear_ ats t args) k
  | .delete => sem P (Builtin.delete_ ats t args) k
  | _ => stop
def pureOp (P : Program) (o : Oper) (e : List (Nat × Value)) (k : Value → WP) : WP :=
  match pureRun P (execOp (rho e) o) with
  | some (.value v) => k v
  | some .skip => k undef
  | _ => stop
def genRun (P : Program) (n : Nat) (o : Oper) (s : Sy) (k : Sy → WP) : WP :=
  match known s.env o.op.operands.toList with
  | false => stop
  | true =>
  match o.op with
  | .load t x => sem P (Instr.loadAt t (rho s.env x)) fun v => asT P t v fun v' => k (s.put n o.dst v')
  | .store t a x => sem P (Instr.storeAt t (rho s.env a) (rho s.env x)) fun _ => k (s.put n o.dst undef)
  | .alloc t => sem P (Instr.alloc t true (.tuple #[])) fun v => asA v fun a => k (s.put n o.dst (.pointer (some a)))
  | .box t x => sem P (Instr.box t (rho s.env x)) fun v => asA v fun a => k (s.put n o.dst (.pointer (some a)))
  | .nilCheck x => asA (rho s.env x) fun a => k (s.put n o.dst (.pointer (some a)))
  | .indexAddr t x i => sem P (Instr.indexAt t (rho s.env x) (rho s.env i)) fun v => asA v fun a => k (s.put n o.dst (.pointer (some a)))
  | .index t x i => sem P (Instr.index t (rho s.env x) (rho s.env i)) fun v => asT P o.type v fun v' => k (s.put n o.dst v')
  | .slice t x lo hi mx => sem P (Instr.sliceAt t (rho s.env x) (lo.map (rho s.env)) (hi.map (rho s.env)) (mx.map (rho s.env))) fun v => asT P o.type v fun v' => k (s.put n o.dst v')
  | .makeSlice t l c => sem P (Instr.makeSlice t (rho s.env l) (rho s.env c)) fun v => asT P t v fun v' => k (s.put n o.dst v')
  | .buildSlice t m ps => sem P (Instr.buildSlice t m (ps.map fun (i, x) => (i, rho s.env x))) fun v => asT P t v fun v' => k (s.put n o.dst v')
  | .makeMap t r => sem P (Instr.makeMap t (r.map (rho s.env))) fun v => asM v fun r => k (s.put n o.dst (.map r))
  | .lookup t x i ok => sem P (Instr.lookup t (rho s.env x) (rho s.env i) ok) fun v => asT P o.type v fun v' => k (s.put n o.dst v')
  | .mapUpdate t m i x => sem P (Instr.mapUpdate t (rho s.env m) (rho s.env i) (rho s.env x)) fun _ => k (s.put n o.dst undef)
  | .insert t m i x => sem P (Instr.mapUpdate t (rho s.env m) (rho s.env i) (rho s.env x)) fun _ => k (s.put n o.dst undef)
  | .mapEntry t m i => sem P (Instr.mapEntry t (rho s.env m) (rho s.env i)) fun v => k (s.put n o.dst v)
  | .entryStore t m i x => sem P (Instr.entryStore t (rho s.env m) (rho s.env i) (rho s.env x)) fun _ => k (s.put n o.dst undef)
  | .range t x => sem P (Instr.range t (rho s.env x)) fun v => asA v fun a => k (s.put n o.dst (.pointer (some a)))
  | .next x b => sem P (Instr.next (rho s.env x) b o.type) fun v => k (s.put n o.dst v)
  | .typeAssert x t u c => sem P (Instr.typeAssert (rho s.env x) t u c) fun v => asT P o.type v fun v' => k (s.put n o.dst v')
  | .field t x f => match small P t with
    | true => pureOp P o s.env fun v => k (s.put n o.dst v)
    | false => sem P (Instr.field t (rho s.env x) f) fun v => asT P o.type v fun v' => k (s.put n o.dst v')
  | .build t ps => match small P t with
    | true => pureOp P o s.env fun v => k (s.put n o.dst v)
    | false => sem P (Instr.build t (ps.map fun (i, x) => (i, rho s.env x))) fun v => asT P t v fun v' => k (s.put n o.dst v')
  | .convert a b x => match intConv P a b with
    | true => pureOp P o s.env fun v => k (s.put n o.dst v)
    | false => sem P (convert a b (rho s.env x)) fun v => asT P b v fun v' => k (s.put n o.dst v')
  | .binOp op t x y _ => genBin P op t x y (rho s.env x) (rho s.env y) fun v => k (s.put n o.dst v)
  | .call c => match c.callee with
    | .builtin b => genBuiltin P b c.argTypes o.type (c.args.map (rho s.env)) fun v => k (s.put n o.dst v)
    | .value (.func g) => match callable P g with
      | true => callW P g (c.args.map (rho s.env)) fun v => asT P o.type v fun v' => k (s.put n o.dst v')
      | false => stop
    | .value f => dynW P (rho s.env f) (c.args.map (rho s.env)) fun v => asT P o.type v fun v' => k (s.put n o.dst v')
    | .invoke _ _ => stop
  | .pick c x y => match c with
    | .tmp t => match look s.kn t with
      | some true => k (s.putB n o.dst (rho s.env x) (kb s x))
      | some false => k (s.putB n o.dst (rho s.env y) (kb s y))
      | none => match rho s.env c with
        | .bool b => br b (k ((s.know t true).putB n o.dst (rho (s.know t true).env x) (kb (s.know t true) x))) (k ((s.know t false).putB n o.dst (rho (s.know t false).env y) (kb (s.know t false) y)))
        | _ => stop
    | _ => stop
  | .move x => k (s.putB n o.dst (rho s.env x) (kb s x))
  | .assign x => k (s.putB n o.dst (rho s.env x) (kb s x))
  | .unOp op _ x => match op, kb s x with
    | .not, some b => k (s.putB n o.dst (.bool (!b)) (some (!b)))
    | _, _ => pureOp P o s.env fun v => k (s.put n o.dst v)
  | .select _ _ | .go _ | .defer _ | .panic _ | .send _ _ | .recv _ _ _ | .ready _ | .waits _ | .makeChan _ _ | .entry _ => stop
  | _ => pureOp P o s.env fun v => k (s.put n o.dst v)
def genOp (P : Program) (n : Nat) (ops : Array Oper) (o : Oper) (s : Sy) (k : Sy → WP) : WP :=
  match o.guard with
  | none => genRun P n o s k
  | some (j, want) => match (ops[j]?).bind (·.dst) with
    | none => stop
    | some t => match look s.kn t with
      | some b => match b, want with
        | true, true | false, false => genRun P n o s k
        | _, _ => k (s.put n o.dst undef)
      | none => match look s.env t with
        | some (.bool c) => match want with
          | true => br c (genRun P n o (s.know t true) k) (k ((s.know t false).put n o.dst undef))
          | false => br c (k ((s.know t true).put n o.dst undef)) (genRun P n o (s.know t false) k)
        | some (.tuple _) => k (s.put n o.dst undef)
        | _ => stop
def genOps (P : Program) (n : Nat) (ops : Array Oper) : List Oper → Sy → (Sy → WP) → WP
  | [], s, k => k s
  | o :: l, s, k => genOp P n ops o s fun s' => genOps P n ops l s' k
end Go.Proofs.Ytehpdpdmjflddaa
