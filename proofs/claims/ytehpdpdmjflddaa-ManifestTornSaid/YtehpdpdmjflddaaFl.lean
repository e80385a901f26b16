/-
  A region that draws its order, in which one operation (a new block of memory) may come anywhere among the others.
-/
import Derived.Test.YtehpdpdmjflddaaAnyM
namespace Go.Proofs.Ytehpdpdmjflddaa
open Go.RowKit

def heavy (P : Program) (o : Oper) : Bool := cls P o == .loud || cls P o == .new
section
variable {P : Program} {ops : Array Oper} {Q : Exit → Act → World → Prop} {K : Act → World → Prop} {a : Act} {w : World} {ms : Array Nat} {x : Nat} {pin : Nat → Bool} {w0 : World}
structure FloatOf (P : Program) (ops : Array Oper) (ms : Array Nat) (x : Nat) : Prop where
  base : BaseOf P ops ms
  pair : ∀ (j : Nat) (oj : Oper) (i : Nat) (oi : Oper), ops[j]? = some oj → ops[i]? = some oi → j ≠ x → i ≠ x → i < j → W ms j i = false → oi.apart ops oj = true ∧ okPair P ops ms i j oi oj = true
  calm : ∀ (j : Nat) (oj : Oper) (i : Nat) (oi : Oper), ops[j]? = some oj → ops[i]? = some oi → j ≠ x → i ≠ x → i < j → W ms j i = false → W ms j x = false → heavy P oi = true → cls P oj = .pure
  xsz : x < ops.size
  aft : ∀ ox, ops[x]? = some ox → ∀ e ∈ ox.after, Region.binds .any e = true → False
  new : ∀ ox, ops[x]? = some ox → cls P ox = .new
  tail : ∀ (j : Nat) (oj : Oper) (i : Nat) (oi : Oper), ops[j]? = some oj → ops[i]? = some oi → i < j → W ms i x = true → W ms j x = true
  far : ∀ (i : Nat) (oi ox : Oper), ops[i]? = some oi → ops[x]? = some ox → i ≠ x → W ms i x = false → heavy P oi = false → oi.apart ops ox = true
def floatB (P : Program) (ops : Array Oper) (ms : Array Nat) (x : Nat) : Bool :=
  (match ops[x]? with | none => false | some ox => cls P ox == .new && ox.after.all (fun e => !Region.binds .any e) &&
    (List.range ops.size).all fun i => match ops[i]? with
      | none => false
      | some oi => i == x || W ms i x || heavy P oi || oi.apart ops ox) &&
  (List.range ops.size).all fun j => match ops[j]? with
    | none => false
    | some oj =>
      oj.after.all (fun e => !Region.binds .any e || decide (e.on < j)) && notSelect oj &&
      (List.range ops.size).all fun i => match ops[i]? with
        | none => false
        | some oi =>
          (!W ms j i || oj.after.any (fun e => Region.binds .any e && (e.on == i || W ms e.on i))) &&
          (decide (j ≤ i) || j == x || i == x || W ms j i || (oi.apart ops oj && okPair P ops ms i j oi oj && (W ms j x || !heavy P oi || cls P oj == .pure))) &&
          (!dyn oj || match oi.dst with | some d => !(oj.looksAt ops).contains d || W ms j i | none => true) &&
          (decide (j ≤ i) || !W ms i x || W ms j x)
theorem floatOf (h : floatB P ops ms x = true) : FloatOf P ops ms x := by
  have hlt : ∀ {j : Nat} {o : Oper}, ops[j]? = some o → j < ops.size := fun h => (Array.getElem?_eq_some_iff.1 h).1
  unfold floatB at h
  rw [Bool.and_eq_true] at h
  obtain ⟨hx, h⟩ := h
  rw [List.all_eq_true] at h
  have h1 := fun (j : Nat) (oj : Oper) (hj : ops[j]? = some oj) => by
    have := h j (List.mem_range.2 (hlt hj))
    rw [hj] at this
    dsimp only at this
    rw [Bool.and_eq_true, Bool.and_eq_true] at this
    exact this
  have h2 := fun (j : Nat) (oj : Oper) (i : Nat) (oi : Oper) (hj : ops[j]? = some oj) (hi : ops[i]? = some oi) => by
    have := (h1 j oj hj).2
    rw [List.all_eq_true] at this
    have := this i (List.mem_range.2 (hlt hi))
    rw [hi] at this
    dsimp only at this
    rw [Bool.and_eq_true, Bool.and_eq_true, Bool.and_eq_true] at this
    exact this
  have hp := fun (j : Nat) (oj : Oper) (i : Nat) (oi : Oper) (hj : ops[j]? = some oj) (hi : ops[i]? = some oi) (hjx : j ≠ x) (hix : i ≠ x) (hij : i < j) (hw : W ms j i = false) => by
    have := (h2 j oj i oi hj hi).1.1.2
    rw [hw] at this
    have hn : decide (j ≤ i) = false := by simp; omega
    have n1 : (j == x) = false := by simpa using hjx
    have n2 : (i == x) = false := by simpa using hix
    simp only [hn, n1, n2, Bool.false_or, Bool.and_eq_true] at this
    exact this
  cases hox : ops[x]? with
  | none => rw [hox] at hx; cases hx
  | some ox =>
    rw [hox] at hx
    simp only [Bool.and_eq_true] at hx
    obtain ⟨⟨x1, x2⟩, x3⟩ := hx
    refine ⟨⟨fun j oj hj e he hb => ?_, fun j oj hj cs b hs => ?_, fun j oj i oi hj hi hw => ?_, fun j oj i oi hj hi hd d hdst hm => ?_⟩, fun j oj i oi hj hi hjx hix hij hw => ?_, fun j oj i oi hj hi hjx hix hij hw hwx hh => ?_, hlt hox, fun ox' ho e he hb => ?_, fun ox' ho => ?_, fun j oj i oi hj hi hij hw => ?_, fun i oi ox' hi ho hix hw hh => ?_⟩
    · have := Array.all_eq_true_iff_forall_mem.1 (h1 j oj hj).1.1 e he
      simpa [hb] using this
    · have := (h1 j oj hj).1.2
      simp [notSelect, hs] at this
    · have := (h2 j oj i oi hj hi).1.1.1
      rw [hw] at this
      simp only [Bool.not_true, Bool.false_or] at this
      obtain ⟨e, he, hb⟩ := Array.any_eq_true'.1 this
      simp only [Bool.and_eq_true, Bool.or_eq_true, beq_iff_eq] at hb
      exact ⟨e, he, hb.1, hb.2⟩
    · have := (h2 j oj i oi hj hi).1.2
      rw [hd, hdst] at this
      simp only [Bool.not_true, Bool.false_or, Bool.or_eq_true, Bool.not_eq_true', List.contains_eq_mem, decide_eq_false_iff_not] at this
      exact this.resolve_left (fun h => h hm)
    · exact ⟨(hp j oj i oi hj hi hjx hix hij hw).1.1, (hp j oj i oi hj hi hjx hix hij hw).1.2⟩
    · have := (hp j oj i oi hj hi hjx hix hij hw).2
      rw [hwx, hh] at this
      simpa using this
    · rw [hox] at ho
      cases ho
      have := Array.all_eq_true_iff_forall_mem.1 x2 e he
      rw [hb] at this
      cases this
    · rw [hox] at ho
      cases ho
      simpa using x1
    · have := (h2 j oj i oi hj hi).2
      have hn : decide (j ≤ i) = false := by simp; omega
      rw [hn, hw] at this
      simpa using this
    · rw [hox] at ho
      cases ho
      rw [List.all_eq_true] at x3
      have := x3 i (List.mem_range.2 (hlt hi))
      rw [hi] at this
      dsimp only at this
      have n2 : (i == x) = false := by simpa using hix
      rw [n2, hw, hh] at this
      simpa using this
theorem FloatOf.none (F : FloatOf P ops ms x) (i : Nat) (hi : i < ops.size) : W ms x i = false := by
  cases hw : W ms x i with
  | false => rfl
  | true =>
    obtain ⟨e, he, hb, _⟩ := F.base.mask x _ i _ (Array.getElem?_eq_getElem F.xsz) (Array.getElem?_eq_getElem hi) hw
    exact (F.aft _ (Array.getElem?_eq_getElem F.xsz) e he hb).elim
/-- As wpOp, and the pinned blocks stand behind it. -/
def wpO (P : Program) (ops : Array Oper) (ms : Array Nat) (pin : Nat → Bool) (w0 : World) (Q : Exit → Act → World → Prop) (j : Nat) (K : Act → World → Prop) (a : Act) (w : World) : Prop :=
  wpOp P ops (EndS P ops ms pin Q) j (fun a' w' => Pinned pin w0 w' ∧ K a' w') a w
theorem wpO_mono {j : Nat} {K K' : Act → World → Prop} (hm : ∀ a w, Pinned pin w0 w → K a w → K' a w) (h : wpO P ops ms pin w0 Q j K a w) : wpO P ops ms pin w0 Q j K' a w := wpOp_mono (fun a w g => ⟨g.1, hm a w g.1 g.2⟩) h
theorem swap0 {i j : Nat} {oi oj : Oper} (hi : ops[i]? = some oi) (hj : ops[j]? = some oj) (hap : oi.apart ops oj = true) (hsi : ∀ cs b, oi.op ≠ .select cs b) (hsj : ∀ cs b, oj.op ≠ .select cs b) (hS : Pinned pin w0 w)
    (q : (Region.wanted oi (yielded ops a.tmps) = true → Stab (Pinned pin w0) P oi a.eval ∧ Vals P (execOp a.eval oi)) ∨
      (Region.wanted oj (yielded ops a.tmps) = true → Stab (Pinned pin w0) P oj a.eval ∧ Vals P (execOp a.eval oj)) ∨
      ((Region.wanted oi (yielded ops a.tmps) = true → StillS P (execOp a.eval oi) ∧ Vals P (execOp a.eval oi)) ∧ (Region.wanted oj (yielded ops a.tmps) = true → NewS P (execOp a.eval oj) ∧ Vals P (execOp a.eval oj))))
    (h : wpO P ops ms pin w0 Q i (wpO P ops ms pin w0 Q j K) a w) : wpO P ops ms pin w0 Q j (wpO P ops ms pin w0 Q i K) a w :=
  swap hi hj hap hsi hsj endS_sane hS q h
theorem bubbleX (F : FloatOf P ops ms x) (hp : ∀ k, pin k = true → ∃ c e f, w0.heap[k]? = some (.cells c e f)) {j : Nat} {oj : Oper} (hj : ops[j]? = some oj) : ∀ (pre post : List Nat) (a : Act) (w : World), Pinned pin w0 w → (pre ++ j :: post).Pairwise (· < ·) → (∀ m ∈ pre ++ j :: post, m < ops.size ∧ m ≠ x) → (∀ m ∈ pre ++ j :: post, W ms j m = false) →
    wpOpsS P ops (EndS P ops ms pin Q) (Pinned pin w0) (pre ++ j :: post) a w → wpO P ops ms pin w0 Q j (wpOpsS P ops (EndS P ops ms pin Q) (Pinned pin w0) (pre ++ post)) a w
  | [], _, _, _, _, _, _, _, h => h
  | i :: pre, post, a, w, hS, hs, hsz, hn, h => by
    rw [List.cons_append] at h hs hsz hn
    have hs' := List.pairwise_cons.1 hs
    have hi : ops[i]? = some (ops[i]'(hsz i (List.mem_cons_self ..)).1) := Array.getElem?_eq_getElem _
    have h' : wpO P ops ms pin w0 Q i (wpO P ops ms pin w0 Q j (wpOpsS P ops (EndS P ops ms pin Q) (Pinned pin w0) (pre ++ post))) a w := wpO_mono (fun a w hS' hh => bubbleX F hp hj pre post a w hS' hs'.2 (fun m hm => hsz m (List.mem_cons_of_mem _ hm)) (fun m hm => hn m (List.mem_cons_of_mem _ hm)) hh) h
    have hall : wpOpsS P ops (EndS P ops ms pin Q) (Pinned pin w0) (i :: j :: (pre ++ post)) a w := h'
    have hall := wpOps_of_S _ _ _ hall
    have hij : i < j := hs'.1 j (by simp)
    have hwi : ∀ m ∈ i :: j :: (pre ++ post), W ms i m = false := fun m hm => by
      have hm' : m ∈ i :: (pre ++ j :: post) := by simp at hm ⊢; rcases hm with h | h | h | h <;> simp [h]
      have hle : i ≤ m := by
        rcases List.mem_cons.1 hm' with rfl | hm'
        · exact Nat.le_refl _
        · exact Nat.le_of_lt (hs'.1 m hm')
      cases hw : W ms i m with
      | false => rfl
      | true =>
        have hmz := (hsz m hm').1
        have := waits_lt F.base i _ m _ hi (Array.getElem?_eq_getElem hmz) hw
        omega
    have hwj : ∀ m ∈ i :: j :: (pre ++ post), W ms j m = false := fun m hm => hn m (by simp at hm ⊢; rcases hm with h | h | h | h <;> simp [h])
    obtain ⟨hap, hok⟩ := F.pair j oj i _ hj hi (hsz j (by simp)).2 (hsz i (List.mem_cons_self ..)).2 hij (hn i (List.mem_cons_self ..))
    exact swap0 hi hj hap (F.base.sel i _ hi) (F.base.sel j _ hj) hS (turn hp hok (good_at F.base hall hi hwi) (good_at F.base hall hj hwj)) h'
/-- x anywhere among what is left, in the order of the text: ahead of each heavy operation, and at the end. -/
def wpG (P : Program) (ops : Array Oper) (ms : Array Nat) (x : Nat) (pin : Nat → Bool) (w0 : World) (Q : Exit → Act → World → Prop) : List Nat → Act → World → Prop
  | [], a, w => wpO P ops ms pin w0 Q x (wpOpsS P ops (EndS P ops ms pin Q) (Pinned pin w0) []) a w
  | i :: r, a, w => match ops[i]? with
    | none => False
    | some o => match W ms i x with
      | true => wpO P ops ms pin w0 Q x (wpOpsS P ops (EndS P ops ms pin Q) (Pinned pin w0) (i :: r)) a w
      | false => match heavy P o with
        | true => wpO P ops ms pin w0 Q x (wpOpsS P ops (EndS P ops ms pin Q) (Pinned pin w0) (i :: r)) a w ∧ wpO P ops ms pin w0 Q i (wpG P ops ms x pin w0 Q r) a w
        | false => wpO P ops ms pin w0 Q i (wpG P ops ms x pin w0 Q r) a w
theorem good_x (F : FloatOf P ops ms x) {ox : Oper} (hx : ops[x]? = some ox) (e : Operand → Value) : NewS P (execOp e ox) ∧ Vals P (execOp e ox) := op_new ox e (F.new ox hx)
/-- x, now. -/
theorem nowG (F : FloatOf P ops ms x) : ∀ (r : List Nat) (a : Act) (w : World), Pinned pin w0 w → r.Pairwise (· < ·) → (∀ m ∈ r, m < ops.size ∧ m ≠ x) → wpG P ops ms x pin w0 Q r a w → wpO P ops ms pin w0 Q x (wpOpsS P ops (EndS P ops ms pin Q) (Pinned pin w0) r) a w
  | [], _, _, _, _, _, h => h
  | i :: r, a, w, hS, hs, hsz, h => by
    have hi : ops[i]? = some (ops[i]'(hsz i (List.mem_cons_self ..)).1) := Array.getElem?_eq_getElem _
    have hx : ops[x]? = some (ops[x]'F.xsz) := Array.getElem?_eq_getElem _
    unfold wpG at h
    rw [hi] at h
    dsimp only at h
    cases hw : W ms i x with
    | true => rw [hw] at h; exact h
    | false =>
      rw [hw] at h
      dsimp only at h
      cases hh : heavy P (ops[i]'(hsz i (List.mem_cons_self ..)).1) with
      | true => rw [hh] at h; exact h.1
      | false =>
        rw [hh] at h
        dsimp only at h
        have hs' := List.pairwise_cons.1 hs
        have h' : wpO P ops ms pin w0 Q i (wpO P ops ms pin w0 Q x (wpOpsS P ops (EndS P ops ms pin Q) (Pinned pin w0) r)) a w := wpO_mono (fun a w hS' g => nowG F r a w hS' hs'.2 (fun m hm => hsz m (List.mem_cons_of_mem _ hm)) g) h
        have hall : wpOpsS P ops (EndS P ops ms pin Q) (Pinned pin w0) (i :: x :: r) a w := h'
        have hall := wpOps_of_S _ _ _ hall
        have hwi : ∀ m ∈ i :: x :: r, W ms i m = false := fun m hm => by
          rcases List.mem_cons.1 hm with rfl | hm
          · cases hq : W ms m m with
            | false => rfl
            | true => have := waits_lt F.base m _ m _ hi hi hq; omega
          rcases List.mem_cons.1 hm with rfl | hm
          · exact hw
          · cases hq : W ms i m with
            | false => rfl
            | true =>
              have := waits_lt F.base i _ m _ hi (Array.getElem?_eq_getElem (hsz m (List.mem_cons_of_mem _ hm)).1) hq
              have := hs'.1 m hm
              omega
        have hg := good_at F.base hall hi hwi
        exact swap0 hi hx (F.far i _ _ hi hx (hsz i (List.mem_cons_self ..)).2 hw hh) (F.base.sel i _ hi) (F.base.sel x _ hx) hS (by
          cases hc : cls P (ops[i]'(hsz i (List.mem_cons_self ..)).1) with
          | pure =>
            refine .inl fun hwn => ?_
            have := (hg hwn).1
            unfold Good at this
            rw [hc] at this
            exact ⟨stab_pure this.1, this.2⟩
          | still =>
            refine .inr (.inr ⟨fun hwn => ?_, fun _ => good_x F hx _⟩)
            have := (hg hwn).1
            unfold Good at this
            rw [hc] at this
            exact this
          | new => unfold heavy at hh; rw [hc] at hh; cases hh
          | loud => unfold heavy at hh; rw [hc] at hh; cases hh) h'
theorem wpOp_and {j : Nat} {oj : Oper} {K1 K2 : Act → World → Prop} (hj : ops[j]? = some oj) (g : Region.wanted oj (yielded ops a.tmps) = true → PureS P (execOp a.eval oj) ∧ Vals P (execOp a.eval oj)) (h1 : wpO P ops ms pin w0 Q j K1 a w) (h2 : wpO P ops ms pin w0 Q j K2 a w) :
    wpO P ops ms pin w0 Q j (fun a w => K1 a w ∧ K2 a w) a w := by
  obtain ⟨v, hv, k1⟩ := yields_of_wpOp hj endS_sane (fun hw => (g hw).2) (fun hw r w1 hr => ((g hw).1 _ _ _ hr).1) h1
  obtain ⟨v', hv', k2⟩ := yields_of_wpOp hj endS_sane (fun hw => (g hw).2) (fun hw r w1 hr => ((g hw).1 _ _ _ hr).1) h2
  have e : v' = v := by
    rcases hv with ⟨hw, hr⟩ | ⟨hw, rfl⟩ <;> rcases hv' with ⟨hw', hr'⟩ | ⟨hw', rfl⟩
    · rw [hr] at hr'
      cases hr'
      rfl
    · rw [hw] at hw'; cases hw'
    · rw [hw] at hw'; cases hw'
    · rfl
  subst e
  have hy : YieldsIf P ops (fun _ => True) oj v' a := by
    rcases hv with ⟨hw, hr⟩ | ⟨hw, rfl⟩
    · exact .inl ⟨hw, fun w' _ => ((g hw).1 _ _ _ hr).2 w'⟩
    · exact .inr ⟨hw, rfl⟩
  exact hy.wpOp hj trivial ⟨k1.1, k1.2, k2.2⟩
theorem wpG_light {i : Nat} {o : Oper} {r : List Nat} (hi : ops[i]? = some o) (hw : W ms i x = false) (hh : heavy P o = false) (h : wpO P ops ms pin w0 Q i (wpG P ops ms x pin w0 Q r) a w) : wpG P ops ms x pin w0 Q (i :: r) a w := by
  unfold wpG
  rw [hi, hw]
  dsimp only
  rw [hh]
  exact h
theorem wpG_heavy {i : Nat} {o : Oper} {r : List Nat} (hi : ops[i]? = some o) (hw : W ms i x = false) (hh : heavy P o = true) (h : wpO P ops ms pin w0 Q x (wpOpsS P ops (EndS P ops ms pin Q) (Pinned pin w0) (i :: r)) a w ∧ wpO P ops ms pin w0 Q i (wpG P ops ms x pin w0 Q r) a w) : wpG P ops ms x pin w0 Q (i :: r) a w := by
  unfold wpG
  rw [hi, hw]
  dsimp only
  rw [hh]
  exact h
theorem wpG_next {i : Nat} {o : Oper} {r : List Nat} (hi : ops[i]? = some o) (hw : W ms i x = false) (h : wpG P ops ms x pin w0 Q (i :: r) a w) : wpO P ops ms pin w0 Q i (wpG P ops ms x pin w0 Q r) a w := by
  unfold wpG at h
  rw [hi, hw] at h
  dsimp only at h
  cases hh : heavy P o with
  | true => rw [hh] at h; exact h.2
  | false => rw [hh] at h; exact h
theorem bubbleG (F : FloatOf P ops ms x) (hp : ∀ k, pin k = true → ∃ c e f, w0.heap[k]? = some (.cells c e f)) {j : Nat} {oj : Oper} (hj : ops[j]? = some oj) (hjw : W ms j x = false) : ∀ (pre post : List Nat) (a : Act) (w : World), Pinned pin w0 w → (pre ++ j :: post).Pairwise (· < ·) → (∀ m ∈ pre ++ j :: post, m < ops.size ∧ m ≠ x) → (∀ m ∈ pre ++ j :: post, W ms j m = false) →
    wpG P ops ms x pin w0 Q (pre ++ j :: post) a w → wpO P ops ms pin w0 Q j (wpG P ops ms x pin w0 Q (pre ++ post)) a w
  | [], _, _, _, _, _, _, _, h => wpG_next hj hjw h
  | i :: pre, post, a, w, hS, hs, hsz, hn, h => by
    rw [List.cons_append] at h hs hsz hn
    have hs' := List.pairwise_cons.1 hs
    have hi : ops[i]? = some (ops[i]'(hsz i (List.mem_cons_self ..)).1) := Array.getElem?_eq_getElem _
    have hx : ops[x]? = some (ops[x]'F.xsz) := Array.getElem?_eq_getElem _
    have hij : i < j := hs'.1 j (by simp)
    have hjx := (hsz j (by simp)).2
    have hix := (hsz i (List.mem_cons_self ..)).2
    have hwx : W ms i x = false := by
      cases hq : W ms i x with
      | false => rfl
      | true => have := F.tail j oj i _ hj hi hij hq; rw [hjw] at this; cases this
    have hall : wpOpsS P ops (EndS P ops ms pin Q) (Pinned pin w0) (x :: i :: (pre ++ j :: post)) a w := nowG F _ a w hS hs hsz h
    have hall := wpOps_of_S _ _ _ hall
    have hwi : ∀ m ∈ x :: i :: (pre ++ j :: post), W ms i m = false := fun m hm => by
      rcases List.mem_cons.1 hm with rfl | hm
      · exact hwx
      · cases hq : W ms i m with
        | false => rfl
        | true =>
          have := waits_lt F.base i _ m _ hi (Array.getElem?_eq_getElem (hsz m hm).1) hq
          rcases List.mem_cons.1 hm with rfl | hm
          · omega
          · have := hs'.1 m hm
            omega
    have hwj : ∀ m ∈ x :: i :: (pre ++ j :: post), W ms j m = false := fun m hm => by
      rcases List.mem_cons.1 hm with rfl | hm
      · exact hjw
      · exact hn m hm
    have gi := good_at F.base hall hi hwi
    have gj := good_at F.base hall hj hwj
    obtain ⟨hap, hok⟩ := F.pair j oj i _ hj hi hjx hix hij (hn i (List.mem_cons_self ..))
    have B : wpO P ops ms pin w0 Q i (wpO P ops ms pin w0 Q j (wpG P ops ms x pin w0 Q (pre ++ post))) a w :=
      wpO_mono (fun a w hS' g => bubbleG F hp hj hjw pre post a w hS' hs'.2 (fun m hm => hsz m (List.mem_cons_of_mem _ hm)) (fun m hm => hn m (List.mem_cons_of_mem _ hm)) g) (wpG_next hi hwx h)
    have C := swap0 hi hj hap (F.base.sel i _ hi) (F.base.sel j _ hj) hS (turn hp hok gi gj) B
    rw [List.cons_append]
    cases hh : heavy P (ops[i]'(hsz i (List.mem_cons_self ..)).1) with
    | false => exact wpO_mono (fun _ _ _ g => wpG_light hi hwx hh g) C
    | true =>
      have hcj := F.calm j oj i _ hj hi hjx hix hij (hn i (List.mem_cons_self ..)) hjw hh
      have pj : Region.wanted oj (yielded ops a.tmps) = true → PureS P (execOp a.eval oj) ∧ Vals P (execOp a.eval oj) := fun hw => by
        have := (gj hw).1
        unfold Good at this
        rw [hcj] at this
        exact this
      have hA : wpO P ops ms pin w0 Q x (wpOpsS P ops (EndS P ops ms pin Q) (Pinned pin w0) (i :: (pre ++ j :: post))) a w := nowG F _ a w hS hs hsz h
      have hA' : wpO P ops ms pin w0 Q x (wpO P ops ms pin w0 Q j (wpOpsS P ops (EndS P ops ms pin Q) (Pinned pin w0) (i :: (pre ++ post)))) a w := wpO_mono (fun a w hS' g => bubbleX F hp hj (i :: pre) post a w hS' hs hsz hn g) hA
      have hhj : heavy P oj = false := by unfold heavy; rw [hcj]; rfl
      have D := swap0 hx hj (apart_symm (F.far j oj _ hj hx hjx hjw hhj)) (F.base.sel x _ hx) (F.base.sel j _ hj) hS (.inr (.inl fun hw => ⟨stab_pure (pj hw).1, (pj hw).2⟩)) hA'
      exact wpO_mono (fun _ _ _ g => wpG_heavy hi hwx hh g) (wpOp_and hj pj D C)
theorem wpOp_end {j : Nat} (h : wpO P ops ms pin w0 Q j K a w) : wpOp P ops Q j (fun a' w' => Pinned pin w0 w' ∧ K a' w') a w := by
  unfold wpO wpOp at h
  unfold wpOp
  cases hoj : ops[j]? with
  | none => rw [hoj] at h; exact h
  | some oj =>
    rw [hoj] at h
    dsimp only at h ⊢
    split
    · rename_i hw
      rw [if_pos hw] at h
      rcases h with hb | ⟨_, a0, w0, hb⟩
      · refine .inl ?_
        unfold Oper.wp at hb ⊢
        generalize (execOp a.eval oj).run P w = r at hb ⊢
        cases r with
        | ok n w' =>
          cases n <;> simp only [Oper.upon] at hb ⊢ <;> first | exact hb | (refine Calls.mono hb fun e w'' he => ?_; cases e with | returned u => exact he | panicked c => exact he.elim | outgrown => obtain ⟨_, _, h⟩ := he; exact h.elim)
        | halt x w' => cases x <;> simp only [Oper.upon] at hb ⊢; exact hb.elim
      · exact hb.elim
    · rename_i hw
      rw [if_neg hw] at h
      exact h
theorem rem_filter {n j : Nat} {listed : Array Bool} (hjn : j < listed.size) : rem n (listed.setIfInBounds j true) = (rem n listed).filter fun i => i != j := by
  unfold rem
  rw [List.filter_filter]
  refine List.filter_congr fun i _ => ?_
  by_cases e : j = i
  · subst e
    simp [hjn]
  · rw [getD_set_ne true e]
    have : (i != j) = true := by simpa using Ne.symm e
    rw [this, Bool.true_and]
theorem drop_mid {j : Nat} {pre post : List Nat} (hs : (pre ++ j :: post).Pairwise (· < ·)) : ((pre ++ j :: post).filter fun i => i != j) = pre ++ post := by
  have hp := List.pairwise_append.1 hs
  have hq := List.pairwise_cons.1 hp.2.1
  rw [List.filter_append, List.filter_cons]
  simp only [bne_self_eq_false, Bool.false_eq_true, if_false]
  congr 1
  · refine List.filter_eq_self.2 fun i hi => ?_
    have := hp.2.2 i hi j (List.mem_cons_self ..)
    simp; omega
  · refine List.filter_eq_self.2 fun i hi => ?_
    have := hq.1 i hi
    simp; omega
theorem closed_set {j : Nat} {oj : Oper} {listed : Array Bool} (hc : Closed ops listed) (hoj : ops[j]? = some oj) (hall : ∀ e ∈ oj.after, Region.binds .any e = true → listed.getD e.on false = true) : Closed ops (listed.setIfInBounds j true) := by
  intro k ok hk hkl e he hb
  by_cases e1 : j = k
  · subst e1
    rw [hoj] at hk
    cases hk
    exact getD_set_true (hall e he hb)
  · rw [getD_set_ne false e1] at hkl
    exact getD_set_true (hc k ok hk hkl e he hb)
/-- x is listed: the rest comes as it may. -/
theorem any_of_listedX (F : FloatOf P ops ms x) (hp : ∀ k, pin k = true → ∃ c e f, w0.heap[k]? = some (.cells c e f)) : ∀ (fuel : Nat) (listed : Array Bool) (a : Act) (w : World), Pinned pin w0 w → listed.size = ops.size → Closed ops listed → listed.getD x true = true → (rem ops.size listed).length ≤ fuel →
    wpOpsS P ops (EndS P ops ms pin Q) (Pinned pin w0) (rem ops.size listed) a w → wpAny P .any ops Q fuel listed a w := by
  have none : ∀ (listed : Array Bool) (a : Act) (w : World), listed.size = ops.size → Region.ready .any ops listed = [] → wpOpsS P ops (EndS P ops ms pin Q) (Pinned pin w0) (rem ops.size listed) a w → Q .normal a w := fun listed a w hsz hr h => by
    have hnil : rem ops.size listed = [] := by
      cases hq : rem ops.size listed with
      | nil => rfl
      | cons i rest =>
        exfalso
        have hs : (rem ops.size listed).Pairwise (· < ·) := List.Pairwise.filter _ List.pairwise_lt_range
        have hmem : i ∈ rem ops.size listed := by rw [hq]; exact List.mem_cons_self ..
        have hi := List.mem_filter.1 hmem
        have hin := List.mem_range.1 hi.1
        have hgi : ops[i]? = some ops[i] := Array.getElem?_eq_getElem hin
        have : i ∈ Region.ready .any ops listed := mem_ready.2 ⟨by simpa using hi.2, ops[i], hgi, fun e he hb => by
          have hlt := F.base.back i _ hgi e he hb
          cases hl : listed.getD e.on false with
          | true => rfl
          | false =>
            exfalso
            have hm : e.on ∈ rem ops.size listed := List.mem_filter.2 ⟨List.mem_range.2 (by omega), by rw [getD_inb (by omega) true false, hl]; rfl⟩
            rw [hq] at hm hs
            rcases List.mem_cons.1 hm with h | h
            · omega
            · have := (List.pairwise_cons.1 hs).1 _ h
              omega⟩
        rw [hr] at this
        cases this
    rw [hnil] at h
    exact h.2
  intro fuel
  induction fuel with
  | zero =>
    intro listed a w hS hsz hc hxl hle h
    have hnil : rem ops.size listed = [] := List.eq_nil_of_length_eq_zero (by omega)
    have hr : Region.ready .any ops listed = [] := by
      cases hq : Region.ready .any ops listed with
      | nil => rfl
      | cons j rest =>
        exfalso
        have hj : j ∈ Region.ready .any ops listed := by rw [hq]; exact List.mem_cons_self ..
        obtain ⟨h0, o, ho, _⟩ := mem_ready.1 hj
        have : j ∈ rem ops.size listed := List.mem_filter.2 ⟨List.mem_range.2 (Array.getElem?_eq_some_iff.1 ho).1, by rw [h0]; rfl⟩
        rw [hnil] at this
        cases this
    exact ⟨hr, none listed a w hsz hr h⟩
  | succ fuel ih =>
    intro listed a w hS hsz hc hxl hle h
    refine ⟨fun hr => none listed a w hsz hr h, fun j hj => ?_⟩
    obtain ⟨h0, oj, hoj, hall⟩ := mem_ready.1 hj
    have hjn : j < ops.size := (Array.getElem?_eq_some_iff.1 hoj).1
    have hmem : j ∈ rem ops.size listed := List.mem_filter.2 ⟨List.mem_range.2 hjn, by rw [h0]; rfl⟩
    obtain ⟨pre, post, hr⟩ := List.append_of_mem hmem
    have hs : (rem ops.size listed).Pairwise (· < ·) := List.Pairwise.filter _ List.pairwise_lt_range
    have hin : ∀ m ∈ rem ops.size listed, (m < ops.size ∧ m ≠ x) ∧ listed.getD m true = false := fun m hm => by
      have := List.mem_filter.1 hm
      have h2 : listed.getD m true = false := by simpa using this.2
      exact ⟨⟨List.mem_range.1 this.1, fun e => by rw [e, hxl] at h2; cases h2⟩, h2⟩
    have hn : ∀ m ∈ rem ops.size listed, W ms j m = false := fun m hm => by
      cases hw : W ms j m with
      | false => rfl
      | true =>
        have hmz := (hin m hm).1.1
        have := waits_listed F.base hc j oj m _ hoj (Array.getElem?_eq_getElem hmz) hall hw
        rw [getD_inb (by omega) false true, (hin m hm).2] at this
        cases this
    have hset : rem ops.size (listed.setIfInBounds j true) = pre ++ post := by
      rw [rem_filter (by omega), hr]
      exact drop_mid (hr ▸ hs)
    have hjx := (hin j hmem).1.2
    rw [hr] at h hs hin hn
    have hb := wpOp_end (bubbleX F hp hoj pre post a w hS hs (fun m hm => (hin m hm).1) hn h)
    refine wpOp_mono (fun a' w' h' => ih (listed.setIfInBounds j true) a' w' h'.1 (by simpa using hsz) (closed_set hc hoj hall) ?_ ?_ (by rw [hset]; exact h'.2)) hb
    · rw [getD_set_ne true hjx]
      exact hxl
    · rw [hset]
      rw [hr] at hle
      simp at hle ⊢
      omega
theorem any_of_float (F : FloatOf P ops ms x) (hp : ∀ k, pin k = true → ∃ c e f, w0.heap[k]? = some (.cells c e f)) : ∀ (fuel : Nat) (listed : Array Bool) (a : Act) (w : World), Pinned pin w0 w → listed.size = ops.size → Closed ops listed → listed.getD x true = false → (rem ops.size listed).length ≤ fuel →
    wpG P ops ms x pin w0 Q ((rem ops.size listed).filter fun i => i != x) a w → wpAny P .any ops Q fuel listed a w := by
  intro fuel
  induction fuel with
  | zero =>
    intro listed a w hS hsz hc hxl hle h
    have : x ∈ rem ops.size listed := List.mem_filter.2 ⟨List.mem_range.2 F.xsz, by rw [hxl]; rfl⟩
    rw [List.eq_nil_of_length_eq_zero (by omega : (rem ops.size listed).length = 0)] at this
    cases this
  | succ fuel ih =>
    intro listed a w hS hsz hc hxl hle h
    have hx : ops[x]? = some (ops[x]'F.xsz) := Array.getElem?_eq_getElem _
    have hs : (rem ops.size listed).Pairwise (· < ·) := List.Pairwise.filter _ List.pairwise_lt_range
    have hsf : ((rem ops.size listed).filter fun i => i != x).Pairwise (· < ·) := hs.filter _
    have hin : ∀ m ∈ (rem ops.size listed).filter fun i => i != x, (m < ops.size ∧ m ≠ x) ∧ listed.getD m true = false := fun m hm => by
      have h1 := List.mem_filter.1 hm
      have := List.mem_filter.1 h1.1
      exact ⟨⟨List.mem_range.1 this.1, by simpa using h1.2⟩, by simpa using this.2⟩
    refine ⟨fun hr => ?_, fun j hj => ?_⟩
    · exfalso
      have : x ∈ Region.ready .any ops listed := mem_ready.2 ⟨hxl, _, hx, fun e he hb => (F.aft _ hx e he hb).elim⟩
      rw [hr] at this
      cases this
    · by_cases hjx : j = x
      · subst hjx
        have hb := wpOp_end (nowG F _ a w hS hsf (fun m hm => (hin m hm).1) h)
        have hset := rem_filter (n := ops.size) (j := j) (listed := listed) (by have := F.xsz; omega)
        refine wpOp_mono (fun a' w' h' => any_of_listedX F hp fuel (listed.setIfInBounds j true) a' w' h'.1 (by simpa using hsz) (closed_set hc hx fun e he hb => (F.aft _ hx e he hb).elim) ?_ ?_ (by rw [hset]; exact h'.2)) hb
        · have : j < listed.size := by have := F.xsz; omega
          simp [this]
        · rw [hset]
          have hm : j ∈ rem ops.size listed := List.mem_filter.2 ⟨List.mem_range.2 F.xsz, by rw [hxl]; rfl⟩
          have := (List.length_filter_lt_length_iff_exists (p := fun i => i != j)).2 ⟨j, hm, by simp⟩
          omega
      · obtain ⟨h0, oj, hoj, hall⟩ := mem_ready.1 hj
        have hjn : j < ops.size := (Array.getElem?_eq_some_iff.1 hoj).1
        have hmem0 : j ∈ rem ops.size listed := List.mem_filter.2 ⟨List.mem_range.2 hjn, by rw [h0]; rfl⟩
        have hmem : j ∈ (rem ops.size listed).filter fun i => i != x := List.mem_filter.2 ⟨hmem0, by simpa using hjx⟩
        obtain ⟨pre, post, hr⟩ := List.append_of_mem hmem
        have wl : ∀ m, m < ops.size → listed.getD m true = false → W ms j m = false := fun m hmz hl => by
          cases hw : W ms j m with
          | false => rfl
          | true =>
            have := waits_listed F.base hc j oj m _ hoj (Array.getElem?_eq_getElem hmz) hall hw
            rw [getD_inb (by omega) false true, hl] at this
            cases this
        have hset : ((rem ops.size (listed.setIfInBounds j true)).filter fun i => i != x) = pre ++ post := by
          have ec : ∀ l : List Nat, ((l.filter fun i => i != j).filter fun i => i != x) = ((l.filter fun i => i != x).filter fun i => i != j) := fun l => by
            rw [List.filter_filter, List.filter_filter]
            exact List.filter_congr fun i _ => Bool.and_comm _ _
          rw [rem_filter (by omega), ec, hr]
          exact drop_mid (hr ▸ hsf)
        have hlen : (rem ops.size (listed.setIfInBounds j true)).length < (rem ops.size listed).length := by
          rw [rem_filter (by omega)]
          exact (List.length_filter_lt_length_iff_exists (p := fun i => i != j)).2 ⟨j, hmem0, by simp⟩
        rw [hr] at h hsf hin
        have hb := wpOp_end (bubbleG F hp hoj (wl x F.xsz hxl) pre post a w hS hsf (fun m hm => (hin m hm).1) (fun m hm => wl m (hin m hm).1.1 (hin m hm).2) h)
        refine wpOp_mono (fun a' w' h' => ih (listed.setIfInBounds j true) a' w' h'.1 (by simpa using hsz) (closed_set hc hoj hall) ?_ (by omega) (by rw [hset]; exact h'.2)) hb
        rw [getD_set_ne true hjx]
        exact hxl
/-- **A region that draws its order, in which x may come anywhere; what floats reads pinned memory.** -/
theorem wp_float {id : Nat} {l : List Oper} (pin : Nat → Bool) (x : Nat) (hm : P.follows .mixedOrders = true) (hf : floatB P l.toArray (Region.before l.toArray) x = true) (hp : ∀ k, pin k = true → ∃ c e f, w.heap[k]? = some (.cells c e f))
    (h : wpG P l.toArray (Region.before l.toArray) x pin w Q ((List.range l.length).filter fun i => i != x) a w.drew) : (Code.region id l.toArray true).wp P Q a w := by
  refine wp_region_any hm (any_of_float (ms := Region.before l.toArray) (x := x) (pin := pin) (w0 := w) (floatOf hf) hp _ _ a _ (fun k _ _ => rfl) (by simp) (closed_none _) ?_ (Nat.le_trans (List.length_filter_le _ _) (by simp)) ?_)
  · have := (floatOf hf).xsz
    simp at this
    simp [this]
  · rw [rem_all, ← List.range_eq_range']
    simpa using h
end
end Go.Proofs.Ytehpdpdmjflddaa
