/-
  A region that draws its order comes, in whatever order, to the end to which it comes in the order of its text, if the check `freeB` says so of its operations.
-/
import Derived.Test.YtehpdpdmjflddaaCls
import Derived.OrdersHeld
namespace Go.Proofs.Ytehpdpdmjflddaa
open Go.RowKit

structure Sane (Q : Exit → Act → World → Prop) : Prop where
  panic : ∀ c a w, ¬ Q (.panic c) a w
  out : ∀ a w, ¬ Q .outgrown a w
/-- What is known of a run of an operation of its class. -/
def Good (P : Program) (o : Oper) (e : Operand → Value) : Prop :=
  match cls P o with
  | .pure => PureS P (execOp e o) ∧ Vals P (execOp e o)
  | .still => StillS P (execOp e o) ∧ Vals P (execOp e o)
  | .new => NewS P (execOp e o) ∧ Vals P (execOp e o)
  | .loud => True
theorem good_of {P : Program} {o : Oper} {e : Operand → Value} (h : calmAt P o e = true) : Good P o e := by
  unfold Good
  split
  · exact op_pure o e ‹_› h
  · exact op_still o e ‹_› h
  · exact op_new o e ‹_›
  · trivial
def okCls : Cls → Cls → Bool
  | .pure, _ => true
  | _, .pure => true
  | .still, .still => true
  | .still, .new => true
  | _, _ => false

section
variable {P : Program} {ops : Array Oper} {Q : Exit → Act → World → Prop} {K : Act → World → Prop} {a : Act} {w : World}

/-- An operation that is carried out comes to something, and turns its own temporary alone. -/
theorem wpOp_out {i : Nat} (hQ : Sane Q) (h : wpOp P ops Q i K a w) : ∃ a' w', K a' w' ∧ ∀ t, (∀ o, ops[i]? = some o → o.dst ≠ some t) → a'.tmps[t]? = a.tmps[t]? := by
  unfold wpOp at h
  cases ho : ops[i]? with
  | none => rw [ho] at h; exact ⟨a, w, h, fun _ _ => rfl⟩
  | some o =>
    rw [ho] at h
    have hput : ∀ (b : Act) v t, o.dst ≠ some t → (b.put o.dst v).tmps[t]? = b.tmps[t]? := fun b v t ht => by
      unfold Act.put
      split
      · rename_i d hd
        exact Array.getElem?_setIfInBounds_ne (fun e => ht (by rw [hd, e]))
      · rfl
    dsimp only at h
    split at h
    · rcases h with h | ⟨_, a0, w0, h⟩
      case inr => exact absurd h (hQ.out _ _)
      unfold Oper.wp at h
      generalize (execOp a.eval o).run P w = r at h
      cases r with
      | ok n w' =>
        cases n <;> simp only [Oper.upon] at h
        case value u => exact ⟨_, _, h, fun t ht => hput _ _ _ (ht o rfl)⟩
        case skip => exact ⟨_, _, h, fun t ht => hput _ _ _ (ht o rfl)⟩
        case defer d => exact ⟨_, _, h, fun t ht => hput _ _ _ (ht o rfl)⟩
        case enter f args =>
          obtain ⟨e, w'', fr, hR, _⟩ := h []
          cases e with
          | returned u => exact ⟨_, _, hR, fun t ht => hput _ _ _ (ht o rfl)⟩
          | panicked c => exact absurd hR (hQ.panic _ _ _)
          | outgrown => obtain ⟨a0, w0, h0⟩ := hR; exact absurd h0 (hQ.out _ _)
        case row row args =>
          obtain ⟨v, w'', hR, _⟩ := h default []
          exact ⟨_, _, hR, fun t ht => hput _ _ _ (ht o rfl)⟩
      | halt x w' => cases x <;> simp only [Oper.upon] at h; exact absurd h (hQ.panic _ _ _)
    · exact ⟨_, _, h, fun t ht => hput _ _ _ (ht o rfl)⟩
theorem wpOps_out (hQ : Sane Q) : ∀ (l : List Nat) (a : Act) (w : World), wpOps P ops Q l a w →
    ∃ a' w', Q .normal a' w' ∧ ∀ t, (∀ i ∈ l, ∀ o, ops[i]? = some o → o.dst ≠ some t) → a'.tmps[t]? = a.tmps[t]?
  | [], a, w, h => ⟨a, w, h, fun _ _ => rfl⟩
  | i :: l, a, w, h => by
    rw [wpOps_cons] at h
    obtain ⟨a1, w1, h1, e1⟩ := wpOp_out hQ h
    obtain ⟨a2, w2, h2, e2⟩ := wpOps_out hQ l a1 w1 h1
    exact ⟨a2, w2, h2, fun t ht => (e2 t fun j hj => ht j (List.mem_cons_of_mem _ hj)).trans (e1 t fun o ho => ht i (List.mem_cons_self ..) o ho)⟩

/-- Of what an operation has come to, its class. -/
theorem wpOp_grows {j : Nat} {oj : Oper} (hj : ops[j]? = some oj) (hg : Region.wanted oj (yielded ops a.tmps) = true → NewS P (execOp a.eval oj) ∧ Vals P (execOp a.eval oj)) (hQ : Sane Q)
    (h : wpOp P ops Q j K a w) : wpOp P ops Q j (fun a' w' => Grows w w' ∧ K a' w') a w := by
  unfold wpOp at *
  simp only [hj] at *
  split
  · rename_i hw
    rw [if_pos hw] at h
    rcases h with h | ⟨_, a0, w0, h⟩
    case inr => exact absurd h (hQ.out _ _)
    refine .inl ?_
    unfold Oper.wp at *
    cases hr : (execOp a.eval oj).run P w with
    | ok n w' =>
      obtain ⟨v, rfl⟩ := (hg hw).2 _ _ _ hr
      rw [hr] at h
      exact ⟨(hg hw).1 _ _ _ hr, h⟩
    | halt x w' => rw [hr] at h; cases x <;> simp only [Oper.upon] at h ⊢; exact absurd h (hQ.panic _ _ _)
  · rename_i hw
    rw [if_neg hw] at h
    exact ⟨Grows.refl w, h⟩
/-- A put that another operation does not see may come ahead of it. -/
theorem wpOp_unput {i : Nat} {oi oj : Oper} {v : Value} (hi : ops[i]? = some oi) (hap : oj.apart ops oi = true) (hsi : ∀ cs b, oi.op ≠ .select cs b) (hQ : Sane Q)
    (h : wpOp P ops Q i (fun a' w' => K (a'.put oj.dst v) w') a w) : wpOp P ops Q i K (a.put oj.dst v) w := by
  obtain ⟨h1, h2, h3⟩ := Oper.apart_spec hap
  unfold wpOp at *
  simp only [hi] at *
  rw [wanted_put oi a oj.dst v h1]
  split
  · rename_i hw
    simp only [hw, if_true] at h
    rcases h with h | ⟨_, a0, w0, h⟩
    case inr => exact absurd h (hQ.out _ _)
    refine .inl ?_
    unfold Oper.wp at *
    rw [execOp_put oi hsi a oj.dst v h1]
    generalize (execOp a.eval oi).run P w = r at *
    cases r with
    | ok n w' =>
      cases n <;> simp only [Oper.upon] at h ⊢
      case value u => rw [Act.put_comm a v u h2]; exact h
      case skip => rw [Act.put_comm a v undef h2]; exact h
      case defer d => rw [Act.put_defers, Act.put_comm _ v undef h2]; exact h
      case enter f args =>
        refine Calls.mono h fun e w'' he => ?_
        cases e with
        | returned u => dsimp only at he ⊢; rw [Act.put_comm a v u h2]; exact he
        | panicked c => exact absurd he (hQ.panic _ _ _)
        | outgrown => exact he
      case row row args => exact Rows.mono h fun u w'' he => by rw [Act.put_comm a v u h2]; exact he
    | halt x w' =>
      cases x <;> simp only [Oper.upon] at h ⊢
      exact absurd h (hQ.panic _ _ _)
  · rename_i hw
    simp only [hw] at h
    rw [Act.put_comm a v undef h2]
    exact h
/-- An operation that yields here: what then holds. -/
theorem yields_of_wpOp {i : Nat} {oi : Oper} (hi : ops[i]? = some oi) (hQ : Sane Q) (hv : Region.wanted oi (yielded ops a.tmps) = true → Vals P (execOp a.eval oi))
    (hst : Region.wanted oi (yielded ops a.tmps) = true → ∀ r w1, (execOp a.eval oi).run P w = .ok r w1 → w1 = w) (h : wpOp P ops Q i K a w) :
    ∃ v, ((Region.wanted oi (yielded ops a.tmps) = true ∧ (execOp a.eval oi).run P w = .ok (.value v) w) ∨ (Region.wanted oi (yielded ops a.tmps) = false ∧ v = undef)) ∧ K (a.put oi.dst v) w := by
  unfold wpOp at h
  simp only [hi] at h
  split at h
  · rename_i hw
    rcases h with h | ⟨_, a0, w0, h⟩
    case inr => exact absurd h (hQ.out _ _)
    unfold Oper.wp at h
    cases hr : (execOp a.eval oi).run P w with
    | ok n w' =>
      obtain ⟨v, rfl⟩ := hv hw _ _ _ hr
      obtain rfl := hst hw _ _ hr
      rw [hr] at h
      exact ⟨v, .inl ⟨hw, rfl⟩, h⟩
    | halt x w' => rw [hr] at h; cases x <;> simp only [Oper.upon] at h; exact absurd h (hQ.panic _ _ _)
  · rename_i hw
    exact ⟨undef, .inr ⟨by simpa using hw, rfl⟩, h⟩
theorem put_look {o : Oper} (b : Act) (v : Value) (t : Tmp) (ht : o.dst ≠ some t) : (b.put o.dst v).tmps[t]? = b.tmps[t]? := by
  unfold Act.put
  split
  · rename_i d hd
    exact Array.getElem?_setIfInBounds_ne (fun e => ht (by rw [hd, e]))
  · rfl
/-- Behind an operation all temporaries but its own are as they were. -/
theorem wpOp_info {i : Nat} {oi : Oper} (hi : ops[i]? = some oi) (hQ : Sane Q) (h : wpOp P ops Q i K a w) :
    wpOp P ops Q i (fun a' w' => (∀ t, oi.dst ≠ some t → a'.tmps[t]? = a.tmps[t]?) ∧ K a' w') a w := by
  unfold wpOp at *
  simp only [hi] at *
  split
  · rename_i hw
    simp only [hw, if_true] at h
    rcases h with h | ⟨_, a0, w0, h⟩
    case inr => exact absurd h (hQ.out _ _)
    refine .inl ?_
    unfold Oper.wp at *
    generalize (execOp a.eval oi).run P w = r at *
    cases r with
    | ok n w' =>
      cases n <;> simp only [Oper.upon] at h ⊢
      case value u => exact ⟨fun t ht => put_look _ _ _ ht, h⟩
      case skip => exact ⟨fun t ht => put_look _ _ _ ht, h⟩
      case defer d => exact ⟨fun t ht => put_look _ _ _ ht, h⟩
      case enter f args =>
        refine Calls.mono h fun e w'' he => ?_
        cases e with
        | returned u => exact ⟨fun t ht => put_look _ _ _ ht, he⟩
        | panicked c => exact absurd he (hQ.panic _ _ _)
        | outgrown => exact he
      case row row args => exact Rows.mono h fun u w'' he => ⟨fun t ht => put_look _ _ _ ht, he⟩
    | halt x w' =>
      cases x <;> simp only [Oper.upon] at h ⊢
      exact absurd h (hQ.panic _ _ _)
  · rename_i hw
    simp only [hw] at h
    exact ⟨fun t ht => put_look _ _ _ ht, h⟩
theorem look_same {o : Oper} {a a' : Act} (hs : ∀ cs b, o.op ≠ .select cs b) (h : ∀ t ∈ o.looksAt ops, a'.tmps[t]? = a.tmps[t]?) :
    execOp a'.eval o = execOp a.eval o ∧ Region.wanted o (yielded ops a'.tmps) = Region.wanted o (yielded ops a.tmps) := by
  constructor
  · refine execOp_congr o hs fun x hx => ?_
    cases x with
    | tmp t =>
      have := h t (List.mem_append_left _ (List.mem_filterMap.2 ⟨.tmp t, by simpa using hx, rfl⟩))
      simp [Act.eval, this]
    | _ => rfl
  · unfold Region.wanted
    cases hg : o.guard with
    | none => rfl
    | some gw =>
      obtain ⟨g, want⟩ := gw
      have hy : yielded ops a'.tmps g = yielded ops a.tmps g := by
        unfold yielded
        cases ht : (ops[g]?).bind (·.dst) with
        | none => rfl
        | some t =>
          have := h t (List.mem_append_right _ (by simp [hg, ht]))
          simp [this]
      simp only [hy]
theorem apart_symm {x y : Oper} (h : x.apart ops y = true) : y.apart ops x = true := by
  obtain ⟨h1, h2, h3⟩ := Oper.apart_spec h
  unfold Oper.apart
  cases hx : x.dst with
  | none =>
    cases hy : y.dst with
    | none => rfl
    | some d => simp [h3 d hy]
  | some c =>
    cases hy : y.dst with
    | none => simp [h1 c hx]
    | some d =>
      have := h2 c hx
      rw [hy] at this
      have h4 : d ≠ c := fun e => this (by rw [e])
      simp [h1 c hx, h3 d hy, Ne.symm h4]

/-- It yields alike in all worlds that meet S. -/
def Stab (S : World → Prop) (P : Program) (o : Oper) (e : Operand → Value) : Prop :=
  ∀ w v w1, S w → (execOp e o).run P w = .ok (.value v) w1 → w1 = w ∧ ∀ w', S w' → (execOp e o).run P w' = .ok (.value v) w'
/-- i ahead of j, turned. -/
theorem swap {S : World → Prop} {i j : Nat} {oi oj : Oper} (hi : ops[i]? = some oi) (hj : ops[j]? = some oj) (hap : oi.apart ops oj = true) (hsi : ∀ cs b, oi.op ≠ .select cs b) (hsj : ∀ cs b, oj.op ≠ .select cs b) (hQ : Sane Q) (hSw : S w)
    (q : (Region.wanted oi (yielded ops a.tmps) = true → Stab S P oi a.eval ∧ Vals P (execOp a.eval oi)) ∨
      (Region.wanted oj (yielded ops a.tmps) = true → Stab S P oj a.eval ∧ Vals P (execOp a.eval oj)) ∨
      ((Region.wanted oi (yielded ops a.tmps) = true → StillS P (execOp a.eval oi) ∧ Vals P (execOp a.eval oi)) ∧ (Region.wanted oj (yielded ops a.tmps) = true → NewS P (execOp a.eval oj) ∧ Vals P (execOp a.eval oj))))
    (h : wpOp P ops Q i (fun a1 w1 => S w1 ∧ wpOp P ops Q j (fun a2 w2 => S w2 ∧ K a2 w2) a1 w1) a w) : wpOp P ops Q j (fun a1 w1 => S w1 ∧ wpOp P ops Q i (fun a2 w2 => S w2 ∧ K a2 w2) a1 w1) a w := by
  have hap' := apart_symm hap
  obtain ⟨k1, k2, k3⟩ := Oper.apart_spec hap
  rcases q with gi' | gj' | ⟨gi', gj'⟩
  · obtain ⟨v, hv, _, hk⟩ := yields_of_wpOp hi hQ (fun hw => (gi' hw).2) (fun hw r w1 hr => by obtain ⟨v, rfl⟩ := (gi' hw).2 _ _ _ hr; exact ((gi' hw).1 _ _ _ hSw hr).1) h
    have hQp : ∀ c b (w : World), Q (.panic c) (Act.put b oi.dst v) w → Q (.panic c) b w := fun c b w h => absurd h (hQ.panic _ _ _)
    have hy : YieldsIf P ops S oi v a := by
      rcases hv with ⟨hw, hr⟩ | ⟨hw, rfl⟩
      · exact .inl ⟨hw, fun w' hs' => ((gi' hw).1 _ _ _ hSw hr).2 w' hs'⟩
      · exact .inr ⟨hw, rfl⟩
    exact wpOp_mono (fun a' w' hk' => ⟨hk'.2.1, hk'.1.wpOp hi hk'.2.1 hk'.2⟩) (wpOp_putIf (K := fun a2 w2 => S w2 ∧ K a2 w2) hj hap hsi hsj hQp hy hk)
  · have same : ∀ a' : Act, (∀ t, oi.dst ≠ some t → a'.tmps[t]? = a.tmps[t]?) → execOp a'.eval oj = execOp a.eval oj ∧ Region.wanted oj (yielded ops a'.tmps) = Region.wanted oj (yielded ops a.tmps) := fun a' ha =>
      look_same hsj fun t ht => ha t fun e => k1 t e ht
    have hinfo := wpOp_info hi hQ h
    obtain ⟨a1, w1, ⟨e1, s1, h1⟩, _⟩ := wpOp_out hQ hinfo
    have use : ∀ a' w', (∀ t, oi.dst ≠ some t → a'.tmps[t]? = a.tmps[t]?) → S w' → wpOp P ops Q j (fun a2 w2 => S w2 ∧ K a2 w2) a' w' →
        ∃ v, YieldsIf P ops S oj v a ∧ S w' ∧ K (a'.put oj.dst v) w' := fun a' w' ha hs' hk => by
      obtain ⟨s1, s2⟩ := same a' ha
      obtain ⟨v, hv, hK⟩ := yields_of_wpOp hj hQ (fun hw => by rw [s1]; exact (gj' (s2 ▸ hw)).2) (fun hw r w1 hr => by
        rw [s1] at hr
        obtain ⟨v, rfl⟩ := (gj' (s2 ▸ hw)).2 _ _ _ hr
        exact ((gj' (s2 ▸ hw)).1 _ _ _ hs' hr).1) hk
      refine ⟨v, ?_, hK⟩
      rcases hv with ⟨hw, hr⟩ | ⟨hw, rfl⟩
      · rw [s2] at hw
        rw [s1] at hr
        exact .inl ⟨hw, ((gj' hw).1 _ _ _ hs' hr).2⟩
      · exact .inr ⟨s2 ▸ hw, rfl⟩
    obtain ⟨v, hy, _⟩ := use a1 w1 e1 s1 h1
    refine hy.wpOp hj hSw ⟨hSw, wpOp_unput hi hap' hsi hQ (wpOp_mono (fun a' w' hk => ?_) hinfo)⟩
    obtain ⟨v', hy', hK⟩ := use a' w' hk.1 hk.2.1 hk.2.2
    have : v' = v := by
      rcases hy with ⟨hw, hr⟩ | ⟨hw, rfl⟩ <;> rcases hy' with ⟨hw', hr'⟩ | ⟨hw', rfl⟩
      · have := (hr w hSw).symm.trans (hr' w hSw)
        cases this
        rfl
      · rw [hw] at hw'; cases hw'
      · rw [hw] at hw'; cases hw'
      · rfl
    exact this ▸ hK
  · obtain ⟨v, hv, _, hk⟩ := yields_of_wpOp hi hQ (fun hw => (gi' hw).2) (fun hw r w1 hr => ((gi' hw).1 _ _ _ hr).1) h
    have hQp : ∀ c b (w : World), Q (.panic c) (Act.put b oi.dst v) w → Q (.panic c) b w := fun c b w h => absurd h (hQ.panic _ _ _)
    have hy : YieldsIf P ops (fun w' => Grows w w') oi v a := by
      rcases hv with ⟨hw, hr⟩ | ⟨hw, rfl⟩
      · exact .inl ⟨hw, fun w' hg => ((gi' hw).1 _ _ _ hr).2 w' hg⟩
      · exact .inr ⟨hw, rfl⟩
    exact wpOp_mono (fun a' w' hk' => ⟨hk'.2.2.1, hk'.2.1.wpOp hi hk'.1 hk'.2.2⟩) (wpOp_grows hj gj' hQ (wpOp_putIf (K := fun a2 w2 => S w2 ∧ K a2 w2) hj hap hsi hsj hQp hy hk))

def W (ms : Array Nat) (j i : Nat) : Bool := (ms.getD j 0).testBit i
/-- An operation whose class hangs on its operands. -/
def dyn (o : Oper) : Bool :=
  match o.op with
  | .binOp .. | .nilCheck _ | .convert .. | .lookup .. | .load .. => true
  | .call c => match c.callee with
    | .builtin .len | .builtin .min | .builtin .max => true
    | _ => false
  | _ => false
theorem calm_of_not_dyn {o : Oper} {e : Operand → Value} (h : dyn o = false) : calmAt P o e = true := by
  unfold dyn at h
  unfold calmAt
  cases ho : o.op <;> rw [ho] at h <;> dsimp only at h ⊢ <;> first | (cases h; done) | skip
  rename_i c
  cases hc : c.callee <;> rw [hc] at h <;> (try dsimp only at h ⊢)
  rename_i b
  cases b <;> (try dsimp only at h ⊢) <;> first | rfl | (cases h; done)
/-- A load from a pinned block. -/
def pinned (pin : Nat → Bool) (o : Oper) (e : Operand → Value) : Bool :=
  match o.op with
  | .load _ x => match e x with
    | .pointer (some p) => pin p.block
    | _ => false
  | _ => false
def isLoad (o : Oper) : Bool := match o.op with | .load .. => true | _ => false
/-- An operation that must read pinned memory: a loud one may come ahead of it or behind. -/
def floats (P : Program) (ops : Array Oper) (ms : Array Nat) (k : Nat) (o : Oper) : Bool :=
  isLoad o && (List.range ops.size).any fun i => match ops[i]? with
    | some oi => (cls P oi == .loud || (cls P oi == .new && decide (i < k))) && !W ms k i && !W ms i k
    | none => false
/-- What the operands turned out to be. -/
def calmOps (P : Program) (ops : Array Oper) (ms : Array Nat) (pin : Nat → Bool) (tmps : Array Value) : Bool :=
  ops.toList.zipIdx.all fun (o, k) => !dyn o || !(Region.wanted o (yielded ops tmps)) || (calmAt P o (Act.eval ⟨tmps, []⟩) && (!floats P ops ms k o || pinned pin o (Act.eval ⟨tmps, []⟩)))
def EndS (P : Program) (ops : Array Oper) (ms : Array Nat) (pin : Nat → Bool) (Q : Exit → Act → World → Prop) : Exit → Act → World → Prop
  | .normal, a, w => calmOps P ops ms pin a.tmps = true ∧ Q .normal a w
  | _, _, _ => False
theorem endS_sane {ms : Array Nat} {pin : Nat → Bool} : Sane (EndS P ops ms pin Q) := ⟨fun _ _ _ h => h, fun _ _ h => h⟩
def notSelect (o : Oper) : Bool := match o.op with | .select .. => false | _ => true
def okPair (P : Program) (ops : Array Oper) (ms : Array Nat) (i j : Nat) (oi oj : Oper) : Bool :=
  okCls (cls P oi) (cls P oj) || (floats P ops ms i oi && isLoad oi) || (floats P ops ms j oj && isLoad oj)
def freeB (P : Program) (ops : Array Oper) (ms : Array Nat) : Bool :=
  (List.range ops.size).all fun j => match ops[j]? with
    | none => false
    | some oj =>
      oj.after.all (fun e => !Region.binds .any e || decide (e.on < j)) && notSelect oj &&
      (List.range ops.size).all fun i => match ops[i]? with
        | none => false
        | some oi =>
          (!W ms j i || oj.after.any (fun e => Region.binds .any e && (e.on == i || W ms e.on i))) &&
          (decide (j ≤ i) || W ms j i || (oi.apart ops oj && okPair P ops ms i j oi oj)) &&
          (!dyn oj || match oi.dst with | some d => !(oj.looksAt ops).contains d || W ms j i | none => true)
/-- What holds of any region whose edges go back in its text. -/
structure BaseOf (P : Program) (ops : Array Oper) (ms : Array Nat) : Prop where
  back : ∀ (j : Nat) (oj : Oper), ops[j]? = some oj → ∀ e ∈ oj.after, Region.binds .any e = true → e.on < j
  sel : ∀ (j : Nat) (oj : Oper), ops[j]? = some oj → ∀ cs b, oj.op ≠ .select cs b
  mask : ∀ (j : Nat) (oj : Oper) (i : Nat) (oi : Oper), ops[j]? = some oj → ops[i]? = some oi → W ms j i = true → ∃ e ∈ oj.after, Region.binds .any e = true ∧ (e.on = i ∨ W ms e.on i = true)
  seen : ∀ (j : Nat) (oj : Oper) (i : Nat) (oi : Oper), ops[j]? = some oj → ops[i]? = some oi → dyn oj = true → ∀ d, oi.dst = some d → d ∈ oj.looksAt ops → W ms j i = true
structure FreeOf (P : Program) (ops : Array Oper) (ms : Array Nat) : Prop where
  back : ∀ (j : Nat) (oj : Oper), ops[j]? = some oj → ∀ e ∈ oj.after, Region.binds .any e = true → e.on < j
  sel : ∀ (j : Nat) (oj : Oper), ops[j]? = some oj → ∀ cs b, oj.op ≠ .select cs b
  mask : ∀ (j : Nat) (oj : Oper) (i : Nat) (oi : Oper), ops[j]? = some oj → ops[i]? = some oi → W ms j i = true → ∃ e ∈ oj.after, Region.binds .any e = true ∧ (e.on = i ∨ W ms e.on i = true)
  pair : ∀ (j : Nat) (oj : Oper) (i : Nat) (oi : Oper), ops[j]? = some oj → ops[i]? = some oi → i < j → W ms j i = false → oi.apart ops oj = true ∧ okPair P ops ms i j oi oj = true
  seen : ∀ (j : Nat) (oj : Oper) (i : Nat) (oi : Oper), ops[j]? = some oj → ops[i]? = some oi → dyn oj = true → ∀ d, oi.dst = some d → d ∈ oj.looksAt ops → W ms j i = true
theorem FreeOf.base {ms : Array Nat} (F : FreeOf P ops ms) : BaseOf P ops ms := ⟨F.back, F.sel, F.mask, F.seen⟩
theorem freeOf {ms : Array Nat} (h : freeB P ops ms = true) : FreeOf P ops ms := by
  have hlt : ∀ {j : Nat} {o : Oper}, ops[j]? = some o → j < ops.size := fun h => (Array.getElem?_eq_some_iff.1 h).1
  unfold freeB at h
  rw [List.all_eq_true] at h
  have h1 := fun (j : Nat) (oj : Oper) (hj : ops[j]? = some oj) => by
    have := h j (List.mem_range.2 (hlt hj))
    rw [hj] at this
    dsimp only at this
    rw [Bool.and_eq_true, Bool.and_eq_true] at this
    exact this
  have h2 := fun (j : Nat) (oj : Oper) (i : Nat) (oi : Oper) (hj : ops[j]? = some oj) (hi : ops[i]? = some oi) => by
    have := (h1 j oj hj).2
    rw [List.all_eq_true] at this
    have := this i (List.mem_range.2 (hlt hi))
    rw [hi] at this
    dsimp only at this
    rw [Bool.and_eq_true, Bool.and_eq_true] at this
    exact this
  refine ⟨fun j oj hj e he hb => ?_, fun j oj hj cs b hs => ?_, fun j oj i oi hj hi hw => ?_, fun j oj i oi hj hi hij hw => ?_, fun j oj i oi hj hi hd d hdst hm => ?_⟩
  · have := Array.all_eq_true_iff_forall_mem.1 (h1 j oj hj).1.1 e he
    simpa [hb] using this
  · have := (h1 j oj hj).1.2
    simp [notSelect, hs] at this
  · have := (h2 j oj i oi hj hi).1.1
    rw [hw] at this
    simp only [Bool.not_true, Bool.false_or] at this
    obtain ⟨e, he, hb⟩ := Array.any_eq_true'.1 this
    simp only [Bool.and_eq_true, Bool.or_eq_true, beq_iff_eq] at hb
    exact ⟨e, he, hb.1, hb.2⟩
  · have := (h2 j oj i oi hj hi).1.2
    rw [hw] at this
    have hn : decide (j ≤ i) = false := by simp; omega
    simpa [hn] using this
  · have := (h2 j oj i oi hj hi).2
    rw [hd, hdst] at this
    simp only [Bool.not_true, Bool.false_or, Bool.or_eq_true, Bool.not_eq_true', List.contains_eq_mem, decide_eq_false_iff_not] at this
    exact this.resolve_left (fun h => h hm)

theorem getD_inb {listed : Array Bool} {i : Nat} (hi : i < listed.size) (d d' : Bool) : listed.getD i d = listed.getD i d' := by simp [hi]
/-- All that is listed had what it waits for listed. -/
def Closed (ops : Array Oper) (listed : Array Bool) : Prop := ∀ j oj, ops[j]? = some oj → listed.getD j false = true → ∀ e ∈ oj.after, Region.binds .any e = true → listed.getD e.on false = true
theorem waits_listed {ms : Array Nat} (F : BaseOf P ops ms) {listed : Array Bool} (hc : Closed ops listed) : ∀ (j : Nat) (oj : Oper) (i : Nat) (oi : Oper), ops[j]? = some oj → ops[i]? = some oi →
    (∀ e ∈ oj.after, Region.binds .any e = true → listed.getD e.on false = true) → W ms j i = true → listed.getD i false = true := by
  intro j
  induction j using Nat.strongRecOn with
  | _ j ih =>
    intro oj i oi hj hi hall hw
    obtain ⟨e, he, hb, h⟩ := F.mask j oj i oi hj hi hw
    rcases h with rfl | h
    · exact hall e he hb
    · have hlt := F.back j oj hj e he hb
      have hle := hall e he hb
      have hsz : e.on < ops.size := Nat.lt_trans hlt (Array.getElem?_eq_some_iff.1 hj).1
      exact ih e.on hlt ops[e.on] i oi (Array.getElem?_eq_getElem hsz) hi (fun e' he' hb' => hc e.on _ (Array.getElem?_eq_getElem hsz) hle e' he' hb') h
theorem waits_lt {ms : Array Nat} (F : BaseOf P ops ms) : ∀ (j : Nat) (oj : Oper) (i : Nat) (oi : Oper), ops[j]? = some oj → ops[i]? = some oi → W ms j i = true → i < j := by
  intro j
  induction j using Nat.strongRecOn with
  | _ j ih =>
    intro oj i oi hj hi hw
    obtain ⟨e, he, hb, h⟩ := F.mask j oj i oi hj hi hw
    have hlt := F.back j oj hj e he hb
    rcases h with rfl | h
    · exact hlt
    · have hsz : e.on < ops.size := Nat.lt_trans hlt (Array.getElem?_eq_some_iff.1 hj).1
      exact Nat.lt_trans (ih e.on hlt ops[e.on] i oi (Array.getElem?_eq_getElem hsz) hi h) hlt
/-- The worlds in which the pinned blocks stand. -/
def Pinned (pin : Nat → Bool) (w0 w : World) : Prop := ∀ k, pin k = true → (∃ c e f, w0.heap[k]? = some (.cells c e f)) → w.heap[k]? = w0.heap[k]?
theorem cells_of_load {w : World} {a : Addr} {m : Mode} {v : Value} {w1 : World} {c : Array Value} {e : TypeId} {f : Nat × Nat} (hc : w.heap[a.block]? = some (.cells c e f)) (h : (load a m).run P w = .ok v w1) :
    w1 = w ∧ ∀ w' : World, w'.heap[a.block]? = some (.cells c e f) → (load a m).run P w' = .ok v w' := by
  unfold load at *
  simp only [Sem.run] at h ⊢
  cases hv : w.cell? a with
  | some u =>
    rw [hv] at h
    cases h
    refine ⟨rfl, fun w' hc' => ?_⟩
    have : w'.cell? a = some v := by
      unfold World.cell? at hv ⊢
      rw [hc] at hv
      rw [hc']
      exact hv
    simp only [this]
  | none =>
    rw [hv] at h
    unfold World.farLoad at h
    rw [hc] at h
    cases h
theorem stab_load {pin : Nat → Bool} {w0 : World} (hp : ∀ k, pin k = true → ∃ c e f, w0.heap[k]? = some (.cells c e f)) {o : Oper} {e : Operand → Value} (h : pinned pin o e = true) : Stab (Pinned pin w0) P o e ∧ Vals P (execOp e o) := by
  unfold pinned at h
  unfold Stab execOp
  cases ho : o.op <;> rw [ho] at h <;> dsimp only at h ⊢ <;> first | (cases h; done) | skip
  rename_i T x
  cases hx : e x <;> rw [hx] at h <;> (try dsimp only at h) <;> first | (cases h; done) | skip
  rename_i p
  cases p <;> (try dsimp only at h) <;> first | (cases h; done) | skip
  rename_i p
  obtain ⟨c, el, f, hc⟩ := hp _ h
  refine ⟨fun w v w1 hS hr => ?_, vals_of⟩
  have hcw : w.heap[p.block]? = some (.cells c el f) := (hS _ h ⟨c, el, f, hc⟩).trans hc
  have hblock : ∀ n, (p.add n).block = p.block := fun n => by unfold Addr.add; split <;> rfl
  have hcells : ∀ (n i : Nat) (acc : Array Value) (w1 : World) (r : Array Value), (loadCellsFrom p i n acc).run P w = .ok r w1 → w1 = w ∧ ∀ w' : World, w'.heap[p.block]? = some (.cells c el f) → (loadCellsFrom p i n acc).run P w' = .ok r w' := by
    intro n
    induction n with
    | zero =>
      intro i acc w1 r hh
      simp only [loadCellsFrom, Sem.run_pure] at hh ⊢
      cases hh
      exact ⟨rfl, fun _ _ => rfl⟩
    | succ n ih =>
      intro i acc w1 r hh
      unfold loadCellsFrom at hh ⊢
      obtain ⟨u, w2, h1, h2⟩ := bind_ok hh
      obtain ⟨rfl, g⟩ := cells_of_load (by rw [hblock]; exact hcw) h1
      obtain ⟨rfl, g'⟩ := ih _ _ _ _ h2
      exact ⟨rfl, fun w' hw' => by rw [run_of (g w' (by rw [hblock]; exact hw'))]; exact g' w' hw'⟩
  have hload : ∀ (v : Value) (w1 : World), (Instr.loadAt T (.pointer (some p))).run P w = .ok v w1 → w1 = w ∧ ∀ w' : World, w'.heap[p.block]? = some (.cells c el f) → (Instr.loadAt T (.pointer (some p))).run P w' = .ok v w' := by
    intro v w1 hh
    unfold Instr.loadAt at hh ⊢
    obtain ⟨a, w2, h1, h2⟩ := bind_ok hh
    obtain ⟨rfl, g1⟩ := pureS_sureAddr _ _ _ _ h1
    have ha : a = p := by
      simp only [Instr.sureAddr, Sem.run_pure] at h1
      cases h1
      rfl
    subst ha
    unfold loadVar at h2
    obtain ⟨b, w3, h3, h4⟩ := bind_ok h2
    obtain ⟨rfl, g3⟩ := pureS_isAgg _ _ _ _ h3
    have fin : (w1 = w3 ∧ ∀ w' : World, w'.heap[a.block]? = some (.cells c el f) → (if b = true then do Pure.pure (Value.agg (← loadCells a (← sizeOf T))) else load a : Sem Value).run P w' = .ok v w') := by
      cases b with
      | true =>
        simp only [if_true] at h4 ⊢
        obtain ⟨n, w4, h5, h6⟩ := bind_ok h4
        obtain ⟨rfl, g5⟩ := pureS_sizeOf _ _ _ _ h5
        obtain ⟨r, w5, h7, h8⟩ := bind_ok h6
        obtain ⟨rfl, g7⟩ := hcells n 0 #[] w5 r h7
        simp only [Sem.run_pure] at h8
        cases h8
        exact ⟨rfl, fun w' hw' => by rw [run_of (g5 w'), run_of (show (loadCells a n).run P w' = .ok r w' from g7 w' hw')]; simp⟩
      | false =>
        simp only [Bool.false_eq_true, if_false] at h4 ⊢
        exact cells_of_load hcw h4
    refine ⟨fin.1, fun w' hw' => ?_⟩
    rw [run_of (g1 w')]
    unfold loadVar
    rw [run_of (g3 w')]
    exact fin.2 w' hw'
  obtain ⟨u, w2, h1, h2⟩ := bind_ok hr
  obtain ⟨rfl, g⟩ := hload u w2 h1
  simp only [Sem.run_pure] at h2
  cases h2
  exact ⟨rfl, fun w' hS' => by
    rw [run_of (g w' ((hS' _ h ⟨c, el, f, hc⟩).trans hc))]
    simp⟩
theorem stab_pure {S : World → Prop} {o : Oper} {e : Operand → Value} (h : PureS P (execOp e o)) : Stab S P o e := fun _ _ _ _ hr => ⟨(h _ _ _ hr).1, fun w' _ => (h _ _ _ hr).2 w'⟩

/-- As `wpOps`, and S holds behind each. -/
def wpOpsS (P : Program) (ops : Array Oper) (Q : Exit → Act → World → Prop) (S : World → Prop) : List Nat → Act → World → Prop
  | [], a, w => Q .normal a w
  | i :: l, a, w => wpOp P ops Q i (fun a' w' => S w' ∧ wpOpsS P ops Q S l a' w') a w
theorem wpOps_of_S {S : World → Prop} : ∀ (l : List Nat) (a : Act) (w : World), wpOpsS P ops Q S l a w → wpOps P ops Q l a w
  | [], _, _, h => h
  | i :: l, a, w, h => by rw [wpOps_cons]; exact wpOp_mono (fun a' w' h' => wpOps_of_S l a' w' h'.2) h
section
variable {ms : Array Nat} {pin : Nat → Bool}
/-- The operands of an operation that nothing ahead of it in the list writes are calm. -/
theorem good_at (F : BaseOf P ops ms) {l : List Nat} {a : Act} {w : World} (h : wpOps P ops (EndS P ops ms pin Q) l a w) {k : Nat} {ok : Oper} (hk : ops[k]? = some ok) (hl : ∀ m ∈ l, W ms k m = false) :
    Region.wanted ok (yielded ops a.tmps) = true → Good P ok a.eval ∧ (floats P ops ms k ok = true → pinned pin ok a.eval = true) := by
  intro hw
  cases hd : dyn ok with
  | false => exact ⟨good_of (calm_of_not_dyn hd), fun hf => by
      exfalso
      unfold floats isLoad at hf
      unfold dyn at hd
      cases ho : ok.op <;> rw [ho] at hd hf <;> first | (cases hd; done) | simp at hf⟩
  | true =>
    obtain ⟨a', w', ⟨hcalm, _⟩, hsame⟩ := wpOps_out endS_sane l a w h
    have hlook : ∀ t ∈ ok.looksAt ops, a'.tmps[t]? = a.tmps[t]? := fun t ht => hsame t fun i hi o ho hdst => by
      have := F.seen k ok i o hk ho hd t hdst ht
      rw [hl i hi] at this
      cases this
    obtain ⟨s1, s2⟩ := look_same (ops := ops) (F.sel k ok hk) (a := a) (a' := a') hlook
    have hc := List.all_eq_true.1 hcalm (ok, k) (List.mem_iff_getElem?.2 ⟨k, by rw [List.getElem?_zipIdx]; simp [hk]⟩)
    dsimp only at hc
    rw [hd, s2, hw] at hc
    simp only [Bool.not_true, Bool.false_or, Bool.and_eq_true, Bool.or_eq_true, Bool.not_eq_true'] at hc
    have hg : Good P ok a'.eval := good_of hc.1
    refine ⟨?_, fun hf => ?_⟩
    · unfold Good at hg ⊢
      rw [s1] at hg
      exact hg
    · have h2 := hc.2.resolve_left (by rw [hf]; simp)
      unfold pinned at h2 ⊢
      cases ho : ok.op <;> rw [ho] at h2 <;> dsimp only at h2 ⊢ <;> first | (cases h2; done) | skip
      rename_i T x
      have hx : a.eval x = Act.eval ⟨a'.tmps, []⟩ x := by
        cases x with
        | tmp t =>
          have := hlook t (List.mem_append_left _ (List.mem_filterMap.2 ⟨.tmp t, by simp [ho, Op.operands], rfl⟩))
          simp [Act.eval, this]
        | _ => rfl
      rw [hx]
      exact h2
/-- Two operations that no edge orders may be turned. -/
theorem turn {w0 : World} (hp : ∀ k, pin k = true → ∃ c e f, w0.heap[k]? = some (.cells c e f)) {i j : Nat} {oi oj : Oper} (hok : okPair P ops ms i j oi oj = true)
    (gi : Region.wanted oi (yielded ops a.tmps) = true → Good P oi a.eval ∧ (floats P ops ms i oi = true → pinned pin oi a.eval = true))
    (gj : Region.wanted oj (yielded ops a.tmps) = true → Good P oj a.eval ∧ (floats P ops ms j oj = true → pinned pin oj a.eval = true)) :
    (Region.wanted oi (yielded ops a.tmps) = true → Stab (Pinned pin w0) P oi a.eval ∧ Vals P (execOp a.eval oi)) ∨
      (Region.wanted oj (yielded ops a.tmps) = true → Stab (Pinned pin w0) P oj a.eval ∧ Vals P (execOp a.eval oj)) ∨
      ((Region.wanted oi (yielded ops a.tmps) = true → StillS P (execOp a.eval oi) ∧ Vals P (execOp a.eval oi)) ∧ (Region.wanted oj (yielded ops a.tmps) = true → NewS P (execOp a.eval oj) ∧ Vals P (execOp a.eval oj))) := by
  unfold okPair at hok
  simp only [Bool.or_eq_true, Bool.and_eq_true] at hok
  rcases hok with (hok | hf) | hf
  · cases hci : cls P oi <;> cases hcj : cls P oj <;> rw [hci, hcj] at hok <;> first | (cases hok; done) | skip
    all_goals first
      | (refine .inl fun hw => ?_; have := (gi hw).1; unfold Good at this; rw [hci] at this; exact ⟨stab_pure this.1, this.2⟩)
      | (refine .inr (.inl fun hw => ?_); have := (gj hw).1; unfold Good at this; rw [hcj] at this; exact ⟨stab_pure this.1, this.2⟩)
      | (refine .inr (.inr ⟨fun hw => ?_, fun hw => ?_⟩)
         · have := (gi hw).1; unfold Good at this; rw [hci] at this; exact this
         · have := (gj hw).1; unfold Good at this; rw [hcj] at this; first | exact this | exact ⟨this.1.newS, this.2⟩)
  · exact .inl fun hw => stab_load hp ((gi hw).2 hf.1)
  · exact .inr (.inl fun hw => stab_load hp ((gj hw).2 hf.1))
/-- What may come up next may come up now. -/
theorem bubble (F : FreeOf P ops ms) {w0 : World} (hp : ∀ k, pin k = true → ∃ c e f, w0.heap[k]? = some (.cells c e f)) {j : Nat} {oj : Oper} (hj : ops[j]? = some oj) : ∀ (pre post : List Nat) (a : Act) (w : World), Pinned pin w0 w → (pre ++ j :: post).Pairwise (· < ·) → (∀ m ∈ pre ++ j :: post, m < ops.size) → (∀ m ∈ pre ++ j :: post, W ms j m = false) →
    wpOpsS P ops (EndS P ops ms pin Q) (Pinned pin w0) (pre ++ j :: post) a w → wpOpsS P ops (EndS P ops ms pin Q) (Pinned pin w0) (j :: (pre ++ post)) a w
  | [], _, _, _, _, _, _, _, h => h
  | i :: pre, post, a, w, hS, hs, hsz, hn, h => by
    rw [List.cons_append] at h hs hsz hn
    have hs' := List.pairwise_cons.1 hs
    have hi : ops[i]? = some (ops[i]'(hsz i (List.mem_cons_self ..))) := Array.getElem?_eq_getElem _
    have h' : wpOpsS P ops (EndS P ops ms pin Q) (Pinned pin w0) (i :: j :: (pre ++ post)) a w := wpOp_mono (fun a w hh => ⟨hh.1, bubble F hp hj pre post a w hh.1 hs'.2 (fun m hm => hsz m (List.mem_cons_of_mem _ hm)) (fun m hm => hn m (List.mem_cons_of_mem _ hm)) hh.2⟩) h
    have hall := wpOps_of_S _ _ _ h'
    have hij : i < j := hs'.1 j (by simp)
    have hwi : ∀ m ∈ i :: j :: (pre ++ post), W ms i m = false := fun m hm => by
      have hm' : m ∈ i :: (pre ++ j :: post) := by simp at hm ⊢; rcases hm with h | h | h | h <;> simp [h]
      have hle : i ≤ m := by
        rcases List.mem_cons.1 hm' with rfl | hm'
        · exact Nat.le_refl _
        · exact Nat.le_of_lt (hs'.1 m hm')
      cases hw : W ms i m with
      | false => rfl
      | true =>
        have hmz := hsz m hm'
        have := waits_lt F.base i _ m _ hi (Array.getElem?_eq_getElem hmz) hw
        omega
    have hwj : ∀ m ∈ i :: j :: (pre ++ post), W ms j m = false := fun m hm => hn m (by simp at hm ⊢; rcases hm with h | h | h | h <;> simp [h])
    obtain ⟨hap, hok⟩ := F.pair j oj i _ hj hi hij (hn i (List.mem_cons_self ..))
    exact swap hi hj hap (F.sel i _ hi) (F.sel j _ hj) endS_sane hS (turn hp hok (good_at F.base hall hi hwi) (good_at F.base hall hj hwj)) h'
/-- What is not listed yet, in the order of the text. -/
def rem (n : Nat) (listed : Array Bool) : List Nat := (List.range n).filter fun i => !listed.getD i true
theorem rem_set {n j : Nat} {listed : Array Bool} {pre post : List Nat} (hr : rem n listed = pre ++ j :: post) (hjn : j < listed.size) : rem n (listed.setIfInBounds j true) = pre ++ post := by
  have hs : (rem n listed).Pairwise (· < ·) := List.Pairwise.filter _ List.pairwise_lt_range
  have h1 : rem n (listed.setIfInBounds j true) = (rem n listed).filter fun i => i != j := by
    unfold rem
    rw [List.filter_filter]
    refine List.filter_congr fun i _ => ?_
    by_cases e : j = i
    · subst e
      simp [hjn]
    · rw [getD_set_ne true e]
      have : (i != j) = true := by simpa using Ne.symm e
      rw [this, Bool.true_and]
  rw [hr] at h1 hs
  rw [h1]
  have hp := List.pairwise_append.1 hs
  have hq := List.pairwise_cons.1 hp.2.1
  rw [List.filter_append, List.filter_cons]
  simp only [bne_self_eq_false, Bool.false_eq_true, if_false]
  congr 1
  · refine List.filter_eq_self.2 fun i hi => ?_
    have := hp.2.2 i hi j (List.mem_cons_self ..)
    simp; omega
  · refine List.filter_eq_self.2 fun i hi => ?_
    have := hq.1 i hi
    simp; omega
theorem any_of_listed (F : FreeOf P ops ms) {w0 : World} (hp : ∀ k, pin k = true → ∃ c e f, w0.heap[k]? = some (.cells c e f)) : ∀ (fuel : Nat) (listed : Array Bool) (a : Act) (w : World), Pinned pin w0 w → listed.size = ops.size → Closed ops listed → (rem ops.size listed).length ≤ fuel →
    wpOpsS P ops (EndS P ops ms pin Q) (Pinned pin w0) (rem ops.size listed) a w → wpAny P .any ops Q fuel listed a w := by
  have none : ∀ (listed : Array Bool) (a : Act) (w : World), listed.size = ops.size → Region.ready .any ops listed = [] → wpOpsS P ops (EndS P ops ms pin Q) (Pinned pin w0) (rem ops.size listed) a w → Q .normal a w := fun listed a w hsz hr h => by
    have hnil : rem ops.size listed = [] := by
      cases hq : rem ops.size listed with
      | nil => rfl
      | cons i rest =>
        exfalso
        have hs : (rem ops.size listed).Pairwise (· < ·) := List.Pairwise.filter _ List.pairwise_lt_range
        have hmem : i ∈ rem ops.size listed := by rw [hq]; exact List.mem_cons_self ..
        have hi := List.mem_filter.1 hmem
        have hin := List.mem_range.1 hi.1
        have hgi : ops[i]? = some ops[i] := Array.getElem?_eq_getElem hin
        have : i ∈ Region.ready .any ops listed := mem_ready.2 ⟨by simpa using hi.2, ops[i], hgi, fun e he hb => by
          have hlt := F.back i _ hgi e he hb
          cases hl : listed.getD e.on false with
          | true => rfl
          | false =>
            exfalso
            have hm : e.on ∈ rem ops.size listed := List.mem_filter.2 ⟨List.mem_range.2 (by omega), by rw [getD_inb (by omega) true false, hl]; rfl⟩
            rw [hq] at hm hs
            rcases List.mem_cons.1 hm with h | h
            · omega
            · have := (List.pairwise_cons.1 hs).1 _ h
              omega⟩
        rw [hr] at this
        cases this
    rw [hnil] at h
    exact h.2
  intro fuel
  induction fuel with
  | zero =>
    intro listed a w hS hsz hc hle h
    have hnil : rem ops.size listed = [] := List.eq_nil_of_length_eq_zero (by omega)
    have hr : Region.ready .any ops listed = [] := by
      cases hq : Region.ready .any ops listed with
      | nil => rfl
      | cons j rest =>
        exfalso
        have hj : j ∈ Region.ready .any ops listed := by rw [hq]; exact List.mem_cons_self ..
        obtain ⟨h0, o, ho, _⟩ := mem_ready.1 hj
        have : j ∈ rem ops.size listed := List.mem_filter.2 ⟨List.mem_range.2 (Array.getElem?_eq_some_iff.1 ho).1, by rw [h0]; rfl⟩
        rw [hnil] at this
        cases this
    exact ⟨hr, none listed a w hsz hr h⟩
  | succ fuel ih =>
    intro listed a w hS hsz hc hle h
    refine ⟨fun hr => none listed a w hsz hr h, fun j hj => ?_⟩
    obtain ⟨h0, oj, hoj, hall⟩ := mem_ready.1 hj
    have hjn : j < ops.size := (Array.getElem?_eq_some_iff.1 hoj).1
    have hmem : j ∈ rem ops.size listed := List.mem_filter.2 ⟨List.mem_range.2 hjn, by rw [h0]; rfl⟩
    obtain ⟨pre, post, hr⟩ := List.append_of_mem hmem
    have hs : (rem ops.size listed).Pairwise (· < ·) := List.Pairwise.filter _ List.pairwise_lt_range
    have hin : ∀ m ∈ rem ops.size listed, m < ops.size ∧ listed.getD m true = false := fun m hm => by
      have := List.mem_filter.1 hm
      exact ⟨List.mem_range.1 this.1, by simpa using this.2⟩
    have hn : ∀ m ∈ rem ops.size listed, W ms j m = false := fun m hm => by
      cases hw : W ms j m with
      | false => rfl
      | true =>
        have hmz := (hin m hm).1
        have := waits_listed F.base hc j oj m _ hoj (Array.getElem?_eq_getElem hmz) hall hw
        rw [getD_inb (by omega) false true, (hin m hm).2] at this
        cases this
    have hset := rem_set hr (by omega)
    rw [hr] at h hs hin hn
    have hb : wpOp P ops (EndS P ops ms pin Q) j (fun a' w' => Pinned pin w0 w' ∧ wpOpsS P ops (EndS P ops ms pin Q) (Pinned pin w0) (pre ++ post) a' w') a w := bubble F hp hoj pre post a w hS hs (fun m hm => (hin m hm).1) hn h
    have hb' : wpOp P ops Q j (fun a' w' => Pinned pin w0 w' ∧ wpOpsS P ops (EndS P ops ms pin Q) (Pinned pin w0) (pre ++ post) a' w') a w := by
      unfold wpOp at hb ⊢
      rw [hoj] at hb ⊢
      dsimp only at hb ⊢
      split
      · rename_i hw
        rw [if_pos hw] at hb
        rcases hb with hb | ⟨_, a0, w0, hb⟩
        · refine .inl ?_
          unfold Oper.wp at hb ⊢
          generalize (execOp a.eval oj).run P w = r at hb ⊢
          cases r with
          | ok n w' =>
            cases n <;> simp only [Oper.upon] at hb ⊢ <;> first | exact hb | (refine Calls.mono hb fun e w'' he => ?_; cases e with | returned u => exact he | panicked c => exact he.elim | outgrown => obtain ⟨_, _, h⟩ := he; exact h.elim)
          | halt x w' => cases x <;> simp only [Oper.upon] at hb ⊢; exact hb.elim
        · exact hb.elim
      · rename_i hw
        rw [if_neg hw] at hb
        exact hb
    refine wpOp_mono (fun a' w' h' => ih (listed.setIfInBounds j true) a' w' h'.1 (by simpa using hsz) ?_ ?_ (by rw [hset]; exact h'.2)) hb'
    · intro k ok hk hkl e he hb
      by_cases e1 : j = k
      · subst e1
        rw [hoj] at hk
        cases hk
        exact getD_set_true (hall e he hb)
      · rw [getD_set_ne false e1] at hkl
        exact getD_set_true (hc k ok hk hkl e he hb)
    · rw [hset]
      rw [hr] at hle
      simp at hle ⊢
      omega
end
/-- No block is pinned: nothing need be shown on the way. -/
theorem wpOpsS_of {S : World → Prop} (hS : ∀ w, S w) : ∀ (l : List Nat) (a : Act) (w : World), wpOps P ops Q l a w → wpOpsS P ops Q S l a w
  | [], _, _, h => h
  | i :: l, a, w, h => by rw [wpOps_cons] at h; exact wpOp_mono (fun a' w' h' => ⟨hS w', wpOpsS_of hS l a' w' h'⟩) h
theorem rem_all (n : Nat) : rem n (Array.replicate n false) = List.range' 0 n := by
  unfold rem
  rw [← List.range_eq_range']
  refine List.filter_eq_self.2 fun i hi => ?_
  have := List.mem_range.1 hi
  simp [this]
theorem closed_none (n : Nat) : Closed ops (Array.replicate n false) := by
  intro j oj _ hl
  have : (Array.replicate n false).getD j false = false := by
    simp only [Array.getD_eq_getD_getElem?, Array.getElem?_replicate]
    split <;> rfl
  rw [this] at hl
  cases hl
def noPin : Nat → Bool := fun _ => false
/-- **A region that draws its order, walked in the order of its text.** -/
theorem wp_free {id : Nat} {l : List Oper} (hm : P.follows .mixedOrders = true) (hf : freeB P l.toArray (Region.before l.toArray) = true)
    (h : wpList P l.toArray (EndS P l.toArray (Region.before l.toArray) noPin Q) l a w.drew) : (Code.region id l.toArray true).wp P Q a w := by
  refine wp_region_any hm (any_of_listed (ms := Region.before l.toArray) (pin := noPin) (w0 := w) (freeOf hf) (fun k hk => by cases hk) _ _ a _ (fun k hk => by cases hk) (by simp) (closed_none _) (Nat.le_trans (List.length_filter_le _ _) (by simp)) ?_)
  rw [rem_all]
  refine wpOpsS_of (fun _ k hk => by cases hk) _ _ _ ?_
  have := wpOps_eq_wpList (P := P) (ops := l.toArray) (Q := EndS P l.toArray (Region.before l.toArray) noPin Q) l 0 (by simp)
  simp only [List.size_toArray]
  rw [this]
  exact h

/-- S is asked behind the loud operations alone. -/
def wpOpsL (P : Program) (ops : Array Oper) (Q : Exit → Act → World → Prop) (S : World → Prop) : List Nat → Act → World → Prop
  | [], a, w => Q .normal a w
  | i :: l, a, w => wpOp P ops Q i (fun a' w' => ((∀ o, ops[i]? = some o → cls P o = .loud → S w')) ∧ wpOpsL P ops Q S l a' w') a w
theorem wpOps_of_L {S : World → Prop} : ∀ (l : List Nat) (a : Act) (w : World), wpOpsL P ops Q S l a w → wpOps P ops Q l a w
  | [], _, _, h => h
  | i :: l, a, w, h => by rw [wpOps_cons]; exact wpOp_mono (fun a' w' h' => wpOps_of_L l a' w' h'.2) h
theorem wpOpsS_of_L {ms : Array Nat} {pin : Nat → Bool} (F : FreeOf P ops ms) {w0 : World} : ∀ (l : List Nat) (a : Act) (w : World), Pinned pin w0 w → l.Pairwise (· < ·) → (∀ m ∈ l, m < ops.size) →
    (∀ k, pin k = true → ∃ c e f, w0.heap[k]? = some (.cells c e f)) →
    wpOpsL P ops (EndS P ops ms pin Q) (Pinned pin w0) l a w → wpOpsS P ops (EndS P ops ms pin Q) (Pinned pin w0) l a w
  | [], _, _, _, _, _, _, h => h
  | i :: l, a, w, hS, hs, hsz, hp, h => by
    have hs' := List.pairwise_cons.1 hs
    have hi : ops[i]? = some (ops[i]'(hsz i (List.mem_cons_self ..))) := Array.getElem?_eq_getElem _
    have hwi : ∀ m ∈ i :: l, W ms i m = false := fun m hm => by
      have hle : i ≤ m := by
        rcases List.mem_cons.1 hm with rfl | hm
        · exact Nat.le_refl _
        · exact Nat.le_of_lt (hs'.1 m hm)
      cases hw : W ms i m with
      | false => rfl
      | true =>
        have := waits_lt F.base i _ m _ hi (Array.getElem?_eq_getElem (hsz m hm)) hw
        omega
    have hg := good_at F.base (wpOps_of_L _ _ _ h) hi hwi
    have rec' : ∀ a' w', Pinned pin w0 w' → wpOpsL P ops (EndS P ops ms pin Q) (Pinned pin w0) l a' w' → wpOpsS P ops (EndS P ops ms pin Q) (Pinned pin w0) l a' w' := fun a' w' hS' h' =>
      wpOpsS_of_L F l a' w' hS' hs'.2 (fun m hm => hsz m (List.mem_cons_of_mem _ hm)) hp h'
    by_cases hl : cls P (ops[i]'(hsz i (List.mem_cons_self ..))) = .loud
    · exact wpOp_mono (fun a' w' hh => ⟨hh.1 _ hi hl, rec' a' w' (hh.1 _ hi hl) hh.2⟩) h
    · have hn : Region.wanted (ops[i]'(hsz i (List.mem_cons_self ..))) (yielded ops a.tmps) = true → NewS P (execOp a.eval (ops[i]'(hsz i (List.mem_cons_self ..)))) ∧ Vals P (execOp a.eval (ops[i]'(hsz i (List.mem_cons_self ..)))) := fun hw => by
        have := (hg hw).1
        unfold Good at this
        cases hc : cls P (ops[i]'(hsz i (List.mem_cons_self ..))) <;> rw [hc] at this <;> first | exact absurd hc hl | exact ⟨this.1.stillS.newS, this.2⟩ | exact ⟨this.1.newS, this.2⟩ | exact this
      refine wpOp_mono (fun a' w' hh => ?_) (wpOp_grows hi hn endS_sane h)
      have hS' : Pinned pin w0 w' := fun k hk hc => by
        have h1 := hS k hk hc
        obtain ⟨c, e, f, hc⟩ := hc
        exact (hh.1.2 k (Array.getElem?_eq_some_iff.1 (h1.trans hc)).1).trans h1
      exact ⟨hS', rec' a' w' hS' hh.2.2⟩
/-- The same of a list of operations, written out. -/
def wpListL (P : Program) (ops : Array Oper) (Q : Exit → Act → World → Prop) (S : World → Prop) : List Oper → Act → World → Prop
  | [], a, w => Q .normal a w
  | o :: rest, a, w => if Region.wanted o (yielded ops a.tmps) then o.wp P a w (fun a' w' => (cls P o = .loud → S w') ∧ wpListL P ops Q S rest a' w') Q ∨ (o.asks P a w ∧ LetsOut Q)
      else (cls P o = .loud → S w) ∧ wpListL P ops Q S rest (a.put o.dst undef) w
theorem wpOpsL_of_list {S : World → Prop} : ∀ (l : List Oper) (k : Nat) (a : Act) (w : World), (∀ j, l[j]? = ops[k + j]?) → wpListL P ops Q S l a w → wpOpsL P ops Q S (List.range' k l.length) a w
  | [], _, _, _, _, h => h
  | o :: l, k, a, w, hl, h => by
    have h0 : ops[k]? = some o := by simpa using (hl 0).symm
    have hl' : ∀ j, l[j]? = ops[k + 1 + j]? := fun j => by have := hl (j + 1); simpa [Nat.add_assoc, Nat.add_comm 1 j] using this
    simp only [List.length_cons, List.range'_succ]
    show wpOp P ops Q k _ a w
    unfold wpListL at h
    unfold wpOp
    simp only [h0]
    split
    · rename_i hw
      rw [if_pos hw] at h
      exact h.imp (Oper.wp_mono fun a' w' hh => ⟨fun o' ho' hc => by cases ho'; exact hh.1 hc, wpOpsL_of_list l (k + 1) a' w' hl' hh.2⟩) id
    · rename_i hw
      rw [if_neg hw] at h
      exact ⟨fun o' ho' hc => by cases ho'; exact h.1 hc, wpOpsL_of_list l (k + 1) _ w hl' h.2⟩
/-- What follows, told as a post. -/
def MidL (P : Program) (ops : Array Oper) (Q : Exit → Act → World → Prop) (S : World → Prop) (rest : List Oper) : Exit → Act → World → Prop
  | .normal, a, w => wpListL P ops Q S rest a w
  | _, _, _ => False
theorem midL {S : World → Prop} {rest : List Oper} (h : wpListL P ops Q S rest a w) : MidL P ops Q S rest .normal a w := h
/-- A stretch without a loud operation. -/
theorem seg {S : World → Prop} : ∀ (pre : List Oper) {rest l : List Oper} {a : Act} {w : World}, pre ++ rest = l → (pre.all fun o => cls P o != .loud) = true → wpList P ops (MidL P ops Q S rest) pre a w → wpListL P ops Q S l a w
  | [], _, _, _, _, hl, _, h => by subst hl; exact h
  | o :: pre, rest, l, a, w, hl, hq, h => by
    subst hl
    rw [List.all_cons, Bool.and_eq_true] at hq
    have hc : cls P o ≠ .loud := by simpa using hq.1
    unfold wpList at h
    rw [List.cons_append]
    unfold wpListL
    split
    · rename_i hw
      rw [if_pos hw] at h
      rcases h with h | ⟨_, a0, w0, h⟩
      · refine .inl ?_
        unfold Oper.wp at h ⊢
        generalize (execOp a.eval o).run P w = r at h ⊢
        have go : ∀ a' w', wpList P ops (MidL P ops Q S rest) pre a' w' → (cls P o = .loud → S w') ∧ wpListL P ops Q S (pre ++ rest) a' w' := fun a' w' h' => ⟨fun h0 => absurd h0 hc, seg pre rfl hq.2 h'⟩
        cases r with
        | ok n w' =>
          cases n <;> simp only [Oper.upon] at h ⊢ <;> first | exact go _ _ h | (refine Calls.mono h fun e w'' he => ?_; cases e with | returned u => exact go _ _ he | panicked c => exact he.elim | outgrown => obtain ⟨_, _, h⟩ := he; exact h.elim) | exact Rows.mono h fun v w'' he => go _ _ he | exact h
        | halt x w' => cases x <;> simp only [Oper.upon] at h ⊢; exact h.elim
      · exact h.elim
    · rename_i hw
      rw [if_neg hw] at h
      exact ⟨fun h0 => absurd h0 hc, seg pre rfl hq.2 h⟩
/-- A loud operation. -/
theorem loudL {S : World → Prop} {o : Oper} {rest : List Oper} (hw : Region.wanted o (yielded ops a.tmps) = true) (h : o.wp P a w (fun a' w' => S w' ∧ wpListL P ops Q S rest a' w') Q) : wpListL P ops Q S (o :: rest) a w := by
  unfold wpListL
  rw [if_pos hw]
  exact .inl (Oper.wp_mono (fun a' w' h' => ⟨fun _ => h'.1, h'.2⟩) h)
/-- **A region that draws its order, some of whose loads may come ahead of loud operations or behind them: the blocks that `pin` names must stand behind each loud operation.** -/
theorem wp_pin {id : Nat} {l : List Oper} (pin : Nat → Bool) (hm : P.follows .mixedOrders = true) (hf : freeB P l.toArray (Region.before l.toArray) = true) (hp : ∀ k, pin k = true → ∃ c e f, w.heap[k]? = some (.cells c e f))
    (h : wpListL P l.toArray (EndS P l.toArray (Region.before l.toArray) pin Q) (Pinned pin w.drew) l a w.drew) : (Code.region id l.toArray true).wp P Q a w := by
  refine wp_region_any hm (any_of_listed (ms := Region.before l.toArray) (pin := pin) (w0 := w.drew) (freeOf hf) hp _ _ a _ (fun k _ _ => rfl) (by simp) (closed_none _) (Nat.le_trans (List.length_filter_le _ _) (by simp)) ?_)
  rw [rem_all]
  refine wpOpsS_of_L (freeOf hf) _ _ _ (fun k _ _ => rfl) (by rw [← List.range_eq_range']; exact List.pairwise_lt_range) (fun m hm => by rw [← List.range_eq_range'] at hm; exact List.mem_range.1 hm) hp ?_
  simp only [List.size_toArray]
  exact wpOpsL_of_list l 0 a _ (by simp) h
end
end Go.Proofs.Ytehpdpdmjflddaa
