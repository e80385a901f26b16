/-
  A region that draws its order, some of whose loads may come ahead of loud operations or behind them; the operations from the m-th on wait for all others, and may write what was read.
-/
import Derived.Test.YtehpdpdmjflddaaAny
namespace Go.Proofs.Ytehpdpdmjflddaa
open Go.RowKit

section
variable {P : Program} {ops : Array Oper} {Q : Exit → Act → World → Prop} {K : Act → World → Prop} {a : Act} {w : World} {ms : Array Nat} {pin : Nat → Bool} {m : Nat} {S : World → Prop}
/-- As `wpOps`, and S holds behind each of the first m. -/
def wpOpsM (P : Program) (ops : Array Oper) (Q : Exit → Act → World → Prop) (m : Nat) (S : World → Prop) : List Nat → Act → World → Prop
  | [], a, w => Q .normal a w
  | i :: l, a, w => wpOp P ops Q i (fun a' w' => (i < m → S w') ∧ wpOpsM P ops Q m S l a' w') a w
theorem wpOps_of_M : ∀ (l : List Nat) (a : Act) (w : World), wpOpsM P ops Q m S l a w → wpOps P ops Q l a w
  | [], _, _, h => h
  | i :: l, a, w, h => by rw [wpOps_cons]; exact wpOp_mono (fun a' w' h' => wpOps_of_M l a' w' h'.2) h
structure TailOf (P : Program) (ops : Array Oper) (ms : Array Nat) (m : Nat) : Prop where
  waits : ∀ j i, m ≤ j → j < ops.size → i < m → W ms j i = true
  still : ∀ j oj, m ≤ j → ops[j]? = some oj → floats P ops ms j oj = false
def tailB (P : Program) (ops : Array Oper) (ms : Array Nat) (m : Nat) : Bool :=
  (List.range ops.size).all fun j => Nat.blt j m || ((List.range m).all (fun i => W ms j i) && match ops[j]? with | some o => !floats P ops ms j o | none => false)
theorem tailOf (h : tailB P ops ms m = true) : TailOf P ops ms m := by
  unfold tailB at h
  rw [List.all_eq_true] at h
  have key : ∀ j, m ≤ j → j < ops.size → (List.range m).all (fun i => W ms j i) = true ∧ (match ops[j]? with | some o => !floats P ops ms j o | none => false) = true := fun j hm hj => by
    have := h j (List.mem_range.2 hj)
    have hb : Nat.blt j m = false := by
      cases hb : Nat.blt j m with
      | false => rfl
      | true => have : j < m := by simpa [Nat.blt_eq] using hb
                omega
    rw [hb, Bool.false_or, Bool.and_eq_true] at this
    exact this
  refine ⟨fun j i hm hj hi => ?_, fun j oj hm hj => ?_⟩
  · exact List.all_eq_true.1 (key j hm hj).1 i (List.mem_range.2 hi)
  · have := (key j hm (Array.getElem?_eq_some_iff.1 hj).1).2
    rw [hj] at this
    simpa using this
def StabM (P : Program) (ops : Array Oper) (ms : Array Nat) (pin : Nat → Bool) (S : World → Prop) : Prop :=
  ∀ (i : Nat) (oi : Oper) (e : Operand → Value), ops[i]? = some oi → floats P ops ms i oi = true → pinned pin oi e = true → Stab S P oi e ∧ Vals P (execOp e oi)
theorem turnM {U : World → Prop} {i j : Nat} {oi oj : Oper} (hok : okPair P ops ms i j oi oj = true)
    (hsi : ∀ e, floats P ops ms i oi = true → pinned pin oi e = true → Stab U P oi e ∧ Vals P (execOp e oi)) (hsj : ∀ e, floats P ops ms j oj = true → pinned pin oj e = true → Stab U P oj e ∧ Vals P (execOp e oj))
    (gi : Region.wanted oi (yielded ops a.tmps) = true → Good P oi a.eval ∧ (floats P ops ms i oi = true → pinned pin oi a.eval = true))
    (gj : Region.wanted oj (yielded ops a.tmps) = true → Good P oj a.eval ∧ (floats P ops ms j oj = true → pinned pin oj a.eval = true)) :
    (Region.wanted oi (yielded ops a.tmps) = true → Stab U P oi a.eval ∧ Vals P (execOp a.eval oi)) ∨
      (Region.wanted oj (yielded ops a.tmps) = true → Stab U P oj a.eval ∧ Vals P (execOp a.eval oj)) ∨
      ((Region.wanted oi (yielded ops a.tmps) = true → StillS P (execOp a.eval oi) ∧ Vals P (execOp a.eval oi)) ∧ (Region.wanted oj (yielded ops a.tmps) = true → NewS P (execOp a.eval oj) ∧ Vals P (execOp a.eval oj))) := by
  unfold okPair at hok
  simp only [Bool.or_eq_true, Bool.and_eq_true] at hok
  rcases hok with (hok | hf) | hf
  · cases hci : cls P oi <;> cases hcj : cls P oj <;> rw [hci, hcj] at hok <;> first | (cases hok; done) | skip
    all_goals first
      | (refine .inl fun hw => ?_; have := (gi hw).1; unfold Good at this; rw [hci] at this; exact ⟨stab_pure this.1, this.2⟩)
      | (refine .inr (.inl fun hw => ?_); have := (gj hw).1; unfold Good at this; rw [hcj] at this; exact ⟨stab_pure this.1, this.2⟩)
      | (refine .inr (.inr ⟨fun hw => ?_, fun hw => ?_⟩)
         · have := (gi hw).1; unfold Good at this; rw [hci] at this; exact this
         · have := (gj hw).1; unfold Good at this; rw [hcj] at this; first | exact this | exact ⟨this.1.newS, this.2⟩)
  · exact .inl fun hw => hsi _ hf.1 ((gi hw).2 hf.1)
  · exact .inr (.inl fun hw => hsj _ hf.1 ((gj hw).2 hf.1))
theorem bubbleM (F : FreeOf P ops ms) (T : TailOf P ops ms m) (hst : StabM P ops ms pin S) {j : Nat} {oj : Oper} (hj : ops[j]? = some oj) : ∀ (pre post : List Nat) (a : Act) (w : World), (j < m → S w) → (∀ i ∈ pre, (i < m ↔ j < m)) → (pre ++ j :: post).Pairwise (· < ·) → (∀ k ∈ pre ++ j :: post, k < ops.size) → (∀ k ∈ pre ++ j :: post, W ms j k = false) →
    wpOpsM P ops (EndS P ops ms pin Q) m S (pre ++ j :: post) a w → wpOpsM P ops (EndS P ops ms pin Q) m S (j :: (pre ++ post)) a w
  | [], _, _, _, _, _, _, _, _, h => h
  | i :: pre, post, a, w, hS, hm, hs, hsz, hn, h => by
    rw [List.cons_append] at h hs hsz hn
    have hs' := List.pairwise_cons.1 hs
    have hi : ops[i]? = some (ops[i]'(hsz i (List.mem_cons_self ..))) := Array.getElem?_eq_getElem _
    have him := hm i (List.mem_cons_self ..)
    have h' : wpOpsM P ops (EndS P ops ms pin Q) m S (i :: j :: (pre ++ post)) a w := wpOp_mono (fun a w hh => ⟨hh.1, bubbleM F T hst hj pre post a w (fun hjm => hh.1 (him.2 hjm)) (fun k hk => hm k (List.mem_cons_of_mem _ hk)) hs'.2 (fun k hk => hsz k (List.mem_cons_of_mem _ hk)) (fun k hk => hn k (List.mem_cons_of_mem _ hk)) hh.2⟩) h
    have hall := wpOps_of_M _ _ _ h'
    have hij : i < j := hs'.1 j (by simp)
    have hwi : ∀ k ∈ i :: j :: (pre ++ post), W ms i k = false := fun k hk => by
      have hk' : k ∈ i :: (pre ++ j :: post) := by simp at hk ⊢; rcases hk with h | h | h | h <;> simp [h]
      have hle : i ≤ k := by
        rcases List.mem_cons.1 hk' with rfl | hk'
        · exact Nat.le_refl _
        · exact Nat.le_of_lt (hs'.1 k hk')
      cases hw : W ms i k with
      | false => rfl
      | true =>
        have hkz := hsz k hk'
        have := waits_lt F.base i _ k _ hi (Array.getElem?_eq_getElem hkz) hw
        omega
    have hwj : ∀ k ∈ i :: j :: (pre ++ post), W ms j k = false := fun k hk => hn k (by simp at hk ⊢; rcases hk with h | h | h | h <;> simp [h])
    obtain ⟨hap, hok⟩ := F.pair j oj i _ hj hi hij (hn i (List.mem_cons_self ..))
    have hst' : ∀ (k : Nat) (ok : Oper) (e : Operand → Value), ops[k]? = some ok → (k < m ↔ j < m) → floats P ops ms k ok = true → pinned pin ok e = true → Stab (fun w => j < m → S w) P ok e ∧ Vals P (execOp e ok) := fun k ok e hk hkm hf hp => by
      by_cases hjm : j < m
      · have := hst k ok e hk hf hp
        refine ⟨fun w v w1 hSw hr => ?_, this.2⟩
        obtain ⟨h1, h2⟩ := this.1 w v w1 (hSw hjm) hr
        exact ⟨h1, fun w' hSw' => h2 w' (hSw' hjm)⟩
      · have := T.still k ok (by omega) hk
        rw [this] at hf
        cases hf
    have hq := turnM (U := fun w => j < m → S w) (a := a) hok (fun e => hst' i _ e hi him) (fun e => hst' j _ e hj Iff.rfl) (good_at F.base hall hi hwi) (good_at F.base hall hj hwj)
    have h2 : wpOp P ops (EndS P ops ms pin Q) i (fun a1 w1 => (j < m → S w1) ∧ wpOp P ops (EndS P ops ms pin Q) j (fun a2 w2 => (j < m → S w2) ∧ wpOpsM P ops (EndS P ops ms pin Q) m S (pre ++ post) a2 w2) a1 w1) a w :=
      wpOp_mono (fun a1 w1 hh => ⟨fun hjm => hh.1 (him.2 hjm), hh.2⟩) h'
    have h3 := swap (S := fun w => j < m → S w) hi hj hap (F.sel i _ hi) (F.sel j _ hj) endS_sane hS hq h2
    exact wpOp_mono (fun a1 w1 hh => ⟨hh.1, wpOp_mono (fun a2 w2 hh2 => ⟨fun h => hh2.1 (him.1 h), hh2.2⟩) hh.2⟩) h3
theorem any_of_listedM (F : FreeOf P ops ms) (T : TailOf P ops ms m) (hst : StabM P ops ms pin S) : ∀ (fuel : Nat) (listed : Array Bool) (a : Act) (w : World), ((∃ i ∈ rem ops.size listed, i < m) → S w) → listed.size = ops.size → Closed ops listed → (rem ops.size listed).length ≤ fuel →
    wpOpsM P ops (EndS P ops ms pin Q) m S (rem ops.size listed) a w → wpAny P .any ops Q fuel listed a w := by
  have none : ∀ (listed : Array Bool) (a : Act) (w : World), listed.size = ops.size → Region.ready .any ops listed = [] → wpOpsM P ops (EndS P ops ms pin Q) m S (rem ops.size listed) a w → Q .normal a w := fun listed a w hsz hr h => by
    have hnil : rem ops.size listed = [] := by
      cases hq : rem ops.size listed with
      | nil => rfl
      | cons i rest =>
        exfalso
        have hs : (rem ops.size listed).Pairwise (· < ·) := List.Pairwise.filter _ List.pairwise_lt_range
        have hmem : i ∈ rem ops.size listed := by rw [hq]; exact List.mem_cons_self ..
        have hi := List.mem_filter.1 hmem
        have hin := List.mem_range.1 hi.1
        have hgi : ops[i]? = some ops[i] := Array.getElem?_eq_getElem hin
        have : i ∈ Region.ready .any ops listed := mem_ready.2 ⟨by simpa using hi.2, ops[i], hgi, fun e he hb => by
          have hlt := F.back i _ hgi e he hb
          cases hl : listed.getD e.on false with
          | true => rfl
          | false =>
            exfalso
            have hm : e.on ∈ rem ops.size listed := List.mem_filter.2 ⟨List.mem_range.2 (by omega), by rw [getD_inb (by omega) true false, hl]; rfl⟩
            rw [hq] at hm hs
            rcases List.mem_cons.1 hm with h | h
            · omega
            · have := (List.pairwise_cons.1 hs).1 _ h
              omega⟩
        rw [hr] at this
        cases this
    rw [hnil] at h
    exact h.2
  intro fuel
  induction fuel with
  | zero =>
    intro listed a w hS hsz hc hle h
    have hnil : rem ops.size listed = [] := List.eq_nil_of_length_eq_zero (by omega)
    have hr : Region.ready .any ops listed = [] := by
      cases hq : Region.ready .any ops listed with
      | nil => rfl
      | cons j rest =>
        exfalso
        have hj : j ∈ Region.ready .any ops listed := by rw [hq]; exact List.mem_cons_self ..
        obtain ⟨h0, o, ho, _⟩ := mem_ready.1 hj
        have : j ∈ rem ops.size listed := List.mem_filter.2 ⟨List.mem_range.2 (Array.getElem?_eq_some_iff.1 ho).1, by rw [h0]; rfl⟩
        rw [hnil] at this
        cases this
    exact ⟨hr, none listed a w hsz hr h⟩
  | succ fuel ih =>
    intro listed a w hS hsz hc hle h
    refine ⟨fun hr => none listed a w hsz hr h, fun j hj => ?_⟩
    obtain ⟨h0, oj, hoj, hall⟩ := mem_ready.1 hj
    have hjn : j < ops.size := (Array.getElem?_eq_some_iff.1 hoj).1
    have hmem : j ∈ rem ops.size listed := List.mem_filter.2 ⟨List.mem_range.2 hjn, by rw [h0]; rfl⟩
    obtain ⟨pre, post, hr⟩ := List.append_of_mem hmem
    have hs : (rem ops.size listed).Pairwise (· < ·) := List.Pairwise.filter _ List.pairwise_lt_range
    have hin : ∀ k ∈ rem ops.size listed, k < ops.size ∧ listed.getD k true = false := fun k hk => by
      have := List.mem_filter.1 hk
      exact ⟨List.mem_range.1 this.1, by simpa using this.2⟩
    have hn : ∀ k ∈ rem ops.size listed, W ms j k = false := fun k hk => by
      cases hw : W ms j k with
      | false => rfl
      | true =>
        have hkz := (hin k hk).1
        have := waits_listed F.base hc j oj k _ hoj (Array.getElem?_eq_getElem hkz) hall hw
        rw [getD_inb (by omega) false true, (hin k hk).2] at this
        cases this
    -- a tail's operation comes only when all others are listed
    have htail : ∀ k ∈ rem ops.size listed, m ≤ j → m ≤ k := fun k hk hmj => by
      by_cases hkm : k < m
      · have h1 := T.waits j k hmj hjn hkm
        rw [hn k hk] at h1
        cases h1
      · omega
    have hset := rem_set hr (by omega)
    have hSj : j < m → S w := fun hjm => hS ⟨j, hmem, hjm⟩
    rw [hr] at h hs hin hn htail
    have hpre : ∀ i ∈ pre, (i < m ↔ j < m) := fun i hi => by
      have hij : i < j := (List.pairwise_append.1 hs).2.2 i hi j (List.mem_cons_self ..)
      have h1 := htail i (List.mem_append_left _ hi)
      constructor
      · intro hi'
        by_cases hjm : j < m
        · exact hjm
        · have := h1 (by omega)
          omega
      · intro; omega
    have hb : wpOp P ops (EndS P ops ms pin Q) j (fun a' w' => (j < m → S w') ∧ wpOpsM P ops (EndS P ops ms pin Q) m S (pre ++ post) a' w') a w := bubbleM F T hst hoj pre post a w hSj hpre hs (fun k hk => (hin k hk).1) hn h
    have hb' : wpOp P ops Q j (fun a' w' => (j < m → S w') ∧ wpOpsM P ops (EndS P ops ms pin Q) m S (pre ++ post) a' w') a w := by
      unfold wpOp at hb ⊢
      rw [hoj] at hb ⊢
      dsimp only at hb ⊢
      split
      · rename_i hw
        rw [if_pos hw] at hb
        rcases hb with hb | ⟨_, a0, w0, hb⟩
        · refine .inl ?_
          unfold Oper.wp at hb ⊢
          generalize (execOp a.eval oj).run P w = r at hb ⊢
          cases r with
          | ok n w' =>
            cases n <;> simp only [Oper.upon] at hb ⊢ <;> first | exact hb | (refine Calls.mono hb fun e w'' he => ?_; cases e with | returned u => exact he | panicked c => exact he.elim | outgrown => obtain ⟨_, _, h⟩ := he; exact h.elim)
          | halt x w' => cases x <;> simp only [Oper.upon] at hb ⊢; exact hb.elim
        · exact hb.elim
      · rename_i hw
        rw [if_neg hw] at hb
        exact hb
    refine wpOp_mono (fun a' w' h' => ih (listed.setIfInBounds j true) a' w' ?_ (by simpa using hsz) ?_ ?_ (by rw [hset]; exact h'.2)) hb'
    · rintro ⟨i, hi, him⟩
      rw [hset] at hi
      have hi' : i ∈ pre ++ j :: post := by
        rcases List.mem_append.1 hi with h | h
        · exact List.mem_append_left _ h
        · exact List.mem_append_right _ (List.mem_cons_of_mem _ h)
      refine h'.1 ?_
      by_cases hjm : j < m
      · exact hjm
      · have := htail i hi' (by omega)
        omega
    · intro k ok hk hkl e he hb
      by_cases e1 : j = k
      · subst e1
        rw [hoj] at hk
        cases hk
        exact getD_set_true (hall e he hb)
      · rw [getD_set_ne false e1] at hkl
        exact getD_set_true (hc k ok hk hkl e he hb)
    · rw [hset]
      rw [hr] at hle
      simp at hle ⊢
      omega
/-- S is asked behind the loud ones of the first m alone. -/
def wpOpsML (P : Program) (ops : Array Oper) (Q : Exit → Act → World → Prop) (m : Nat) (S : World → Prop) : List Nat → Act → World → Prop
  | [], a, w => Q .normal a w
  | i :: l, a, w => wpOp P ops Q i (fun a' w' => (i < m → ∀ o, ops[i]? = some o → cls P o = .loud → S w') ∧ wpOpsML P ops Q m S l a' w') a w
theorem wpOps_of_ML : ∀ (l : List Nat) (a : Act) (w : World), wpOpsML P ops Q m S l a w → wpOps P ops Q l a w
  | [], _, _, h => h
  | i :: l, a, w, h => by rw [wpOps_cons]; exact wpOp_mono (fun a' w' h' => wpOps_of_ML l a' w' h'.2) h
theorem wpOpsM_of_ML (F : FreeOf P ops ms) {w0 : World} (hp : ∀ k, pin k = true → ∃ c e f, w0.heap[k]? = some (.cells c e f)) : ∀ (l : List Nat) (a : Act) (w : World), ((∃ i ∈ l, i < m) → Pinned pin w0 w) → l.Pairwise (· < ·) → (∀ k ∈ l, k < ops.size) →
    wpOpsML P ops (EndS P ops ms pin Q) m (Pinned pin w0) l a w → wpOpsM P ops (EndS P ops ms pin Q) m (Pinned pin w0) l a w
  | [], _, _, _, _, _, h => h
  | i :: l, a, w, hS, hs, hsz, h => by
    have hs' := List.pairwise_cons.1 hs
    have hi : ops[i]? = some (ops[i]'(hsz i (List.mem_cons_self ..))) := Array.getElem?_eq_getElem _
    have hwi : ∀ k ∈ i :: l, W ms i k = false := fun k hk => by
      have hle : i ≤ k := by
        rcases List.mem_cons.1 hk with rfl | hk
        · exact Nat.le_refl _
        · exact Nat.le_of_lt (hs'.1 k hk)
      cases hw : W ms i k with
      | false => rfl
      | true =>
        have := waits_lt F.base i _ k _ hi (Array.getElem?_eq_getElem (hsz k hk)) hw
        omega
    have hg := good_at F.base (wpOps_of_ML _ _ _ h) hi hwi
    have next : ∀ a' w', (i < m → Pinned pin w0 w') → wpOpsML P ops (EndS P ops ms pin Q) m (Pinned pin w0) l a' w' → wpOpsM P ops (EndS P ops ms pin Q) m (Pinned pin w0) l a' w' := fun a' w' hS' h' =>
      wpOpsM_of_ML F hp l a' w' (fun ⟨k, hk, hkm⟩ => hS' (Nat.lt_trans (hs'.1 k hk) hkm)) hs'.2 (fun k hk => hsz k (List.mem_cons_of_mem _ hk)) h'
    by_cases him : i < m
    · have hSw := hS ⟨i, List.mem_cons_self .., him⟩
      by_cases hl : cls P (ops[i]'(hsz i (List.mem_cons_self ..))) = .loud
      · exact wpOp_mono (fun a' w' hh => ⟨fun h => hh.1 h _ hi hl, next a' w' (fun h => hh.1 h _ hi hl) hh.2⟩) h
      · have hn : Region.wanted (ops[i]'(hsz i (List.mem_cons_self ..))) (yielded ops a.tmps) = true → NewS P (execOp a.eval (ops[i]'(hsz i (List.mem_cons_self ..)))) ∧ Vals P (execOp a.eval (ops[i]'(hsz i (List.mem_cons_self ..)))) := fun hw => by
          have := (hg hw).1
          unfold Good at this
          cases hc : cls P (ops[i]'(hsz i (List.mem_cons_self ..))) <;> rw [hc] at this <;> first | exact absurd hc hl | exact ⟨this.1.stillS.newS, this.2⟩ | exact ⟨this.1.newS, this.2⟩ | exact this
        refine wpOp_mono (fun a' w' hh => ?_) (wpOp_grows hi hn endS_sane h)
        have hS' : Pinned pin w0 w' := fun k hk hc => by
          have h1 := hSw k hk hc
          obtain ⟨c, e, f, hc⟩ := hc
          exact (hh.1.2 k (Array.getElem?_eq_some_iff.1 (h1.trans hc)).1).trans h1
        exact ⟨fun _ => hS', next a' w' (fun _ => hS') hh.2.2⟩
    · exact wpOp_mono (fun a' w' hh => ⟨fun h => absurd h him, next a' w' (fun h => absurd h him) hh.2⟩) h
/-- The same of a list of operations, written out; m counts down. -/
def wpListM (P : Program) (ops : Array Oper) (Q : Exit → Act → World → Prop) (S : World → Prop) : Nat → List Oper → Act → World → Prop
  | _, [], a, w => Q .normal a w
  | m, o :: rest, a, w => if Region.wanted o (yielded ops a.tmps) then o.wp P a w (fun a' w' => (0 < m → cls P o = .loud → S w') ∧ wpListM P ops Q S (m - 1) rest a' w') Q ∨ (o.asks P a w ∧ LetsOut Q)
      else (0 < m → cls P o = .loud → S w) ∧ wpListM P ops Q S (m - 1) rest (a.put o.dst undef) w
theorem wpOpsML_of_list : ∀ (l : List Oper) (k r : Nat) (a : Act) (w : World), (∀ j, l[j]? = ops[k + j]?) → (∀ i, k ≤ i → (i < m ↔ i < k + r)) → wpListM P ops Q S r l a w → wpOpsML P ops Q m S (List.range' k l.length) a w
  | [], _, _, _, _, _, _, h => h
  | o :: l, k, r, a, w, hl, hr, h => by
    have h0 : ops[k]? = some o := by simpa using (hl 0).symm
    have hl' : ∀ j, l[j]? = ops[k + 1 + j]? := fun j => by have := hl (j + 1); simpa [Nat.add_assoc, Nat.add_comm 1 j] using this
    have hr' : ∀ i, k + 1 ≤ i → (i < m ↔ i < (k + 1) + (r - 1)) := fun i hi => by
      have := hr i (by omega)
      omega
    have hk : k < m → 0 < r := fun h => by have := (hr k (Nat.le_refl _)).1 h; omega
    simp only [List.length_cons, List.range'_succ]
    show wpOp P ops Q k _ a w
    unfold wpListM at h
    unfold wpOp
    simp only [h0]
    split
    · rename_i hw
      rw [if_pos hw] at h
      exact h.imp (Oper.wp_mono fun a' w' hh => ⟨fun hkm o' ho' hc => by cases ho'; exact hh.1 (hk hkm) hc, wpOpsML_of_list l (k + 1) (r - 1) a' w' hl' hr' hh.2⟩) id
    · rename_i hw
      rw [if_neg hw] at h
      exact ⟨fun hkm o' ho' hc => by cases ho'; exact h.1 (hk hkm) hc, wpOpsML_of_list l (k + 1) (r - 1) _ w hl' hr' h.2⟩
theorem wp_pinM {id : Nat} {l : List Oper} (pin : Nat → Bool) (m : Nat) (hm : P.follows .mixedOrders = true) (hf : freeB P l.toArray (Region.before l.toArray) = true) (ht : tailB P l.toArray (Region.before l.toArray) m = true) (hp : ∀ k, pin k = true → ∃ c e f, w.heap[k]? = some (.cells c e f))
    (h : wpListM P l.toArray (EndS P l.toArray (Region.before l.toArray) pin Q) (Pinned pin w.drew) m l a w.drew) : (Code.region id l.toArray true).wp P Q a w := by
  refine wp_region_any hm (any_of_listedM (ms := Region.before l.toArray) (pin := pin) (m := m) (S := Pinned pin w.drew) (freeOf hf) (tailOf ht) (fun i oi e _ _ h => stab_load (w0 := w.drew) hp h) _ _ a _ (fun _ k _ _ => rfl) (by simp) (closed_none _) (Nat.le_trans (List.length_filter_le _ _) (by simp)) ?_)
  rw [rem_all]
  refine wpOpsM_of_ML (freeOf hf) (w0 := w.drew) hp _ _ _ (fun _ k _ _ => rfl) (by rw [← List.range_eq_range']; exact List.pairwise_lt_range) (fun m hm => by rw [← List.range_eq_range'] at hm; exact List.mem_range.1 hm) ?_
  simp only [List.size_toArray]
  exact wpOpsML_of_list l 0 m a _ (by simp) (fun i _ => by omega) h
end
end Go.Proofs.Ytehpdpdmjflddaa
