/-
  The reading of whole functions, and that it is sound.
-/
import Derived.Test.YtehpdpdmjflddaaGenS
import Derived.Test.YtehpdpdmjflddaaFl
namespace Go.Proofs.Ytehpdpdmjflddaa
open Go.RowKit

abbrev Slots := List (Nat × TypeId)
/-- Where loops and meeting ways begin (told by their first region), and which temporaries they hand on. -/
structure Ann where
  loops : List (Nat × Slots)
  joins : List (Nat × Slots)
  blocks : List (Nat × Slots)
  regs : List (Nat × Slots)
  pins : List (Nat × Nat)
  fls : List (Nat × Nat)
def key : Code → Option Nat
  | .region id _ _ => some id
  | .seq a b | .cond _ a b => match key a with | some i => some i | none => key b
  | .block _ b | .loop b | .scope b => key b
  | _ => none
def at? (l : List (Nat × Slots)) (i : Option Nat) : Option Slots := match i with | some i => look l i | none => none
def sets : Code → List Nat
  | .region _ ops _ => ops.toList.filterMap (·.dst)
  | .seq a b | .cond _ a b => sets a ++ sets b
  | .block _ b | .loop b | .scope b => sets b
  | _ => []
/-- As asT; the highest type: the address of a variable. -/
def asV (P : Program) (t : TypeId) (v : Value) (f : Value → WP) : WP := match t == 4294967295 with
  | true => asA v fun p => f (.pointer (some p))
  | false => asT P t v f
theorem asV_out {P : Program} {t : TypeId} {v : Value} {f : Value → WP} {w : World} (h : asV P t v f w) : f v w := by
  unfold asV at h
  cases hb : (t == 4294967295) with
  | true =>
    rw [hb] at h
    obtain ⟨p, rfl, h⟩ := h
    exact h
  | false =>
    rw [hb] at h
    exact asT_out h
def bindS (P : Program) : Slots → List Value → Sy → (Sy → WP) → WP
  | [], l, s, k => unnil l (k s)
  | (d, t) :: r, l, s, k => uncons l fun v l' => asV P t v fun v' => bindS P r l' ⟨(d, v') :: s.env, s.kn⟩ k
def valsOf : Slots → Sy → Option (List Value)
  | [], _ => some []
  | (d, _) :: r, s => match look s.env d with
    | some v => match valsOf r s with | some l => some (v :: l) | none => none
    | none => none
def handOn (L : Slots) (s : Sy) (K : List Value → WP) : WP := match valsOf L s with | some l => K l | none => stop
def wantedE (ops : Array Oper) (o : Oper) (s : Sy) : Option Bool :=
  match o.guard with
  | none => some true
  | some (j, want) => match (ops[j]?).bind (·.dst) with
    | none => none
    | some t => match look s.kn t with
      | some b => some (b == want)
      | none => match look s.env t with
        | some (.tuple _) => some false
        | _ => none
def calmE (P : Program) (ops : Array Oper) (ms : Array Nat) (s : Sy) : Bool :=
  ops.toList.zipIdx.all fun (o, k) => match dyn o with
    | false => true
    | true => match wantedE ops o s with
      | some false => true
      | some true => known s.env o.op.operands.toList && calmAt P o (rho s.env) && !floats P ops ms k o
      | none => false
/-- As calmE, but for the loads that must read pinned memory; and these. -/
def calmP (P : Program) (ops : Array Oper) (s : Sy) : Bool :=
  ops.toList.all fun o => match dyn o with
    | false => true
    | true => match wantedE ops o s with
      | some false => true
      | some true => known s.env o.op.operands.toList && calmAt P o (rho s.env)
      | none => false
def padr : Value → Option Addr
  | .pointer q => q
  | _ => none
def pinAds (P : Program) (ops : Array Oper) (ms : Array Nat) (s : Sy) : List (Oper × Nat) → List (Option Addr) → List (Option Addr)
  | [], acc => acc
  | (o, k) :: l, acc => match floats P ops ms k o with
    | false => pinAds P ops ms s l acc
    | true => match wantedE ops o s with
      | some false => pinAds P ops ms s l acc
      | _ => match o.op with
        | .load _ x => pinAds P ops ms s l (padr (rho s.env x) :: acc)
        | _ => pinAds P ops ms s l (none :: acc)
abbrev Pins := List (Nat × Obj)
def pinW (f : Pins → WP) : WP := fun w => ∃ L : Pins, (∀ x ∈ L, w.heap[x.1]? = some x.2 ∧ ∃ c e f, x.2 = .cells c e f) ∧ f L w.drew
def chkW (L : Pins) (X : WP) : WP := fun w => (∀ x ∈ L, w.heap[x.1]? = some x.2) ∧ X w
def endW (L : Pins) (ads : List (Option Addr)) (X : WP) : WP := fun w => (∀ a ∈ ads, ∃ p o, a = some p ∧ (p.block, o) ∈ L) ∧ X w
def genOpsP (P : Program) (n : Nat) (ops : Array Oper) (L : Pins) : Nat → List Oper → Sy → (Sy → WP) → WP
  | _, [], s, k => k s
  | m, o :: l, s, k => genOp P n ops o s fun s' => match m with
    | 0 => genOpsP P n ops L 0 l s' k
    | m + 1 => match cls P o with
      | .loud => chkW L (genOpsP P n ops L m l s' k)
      | _ => genOpsP P n ops L m l s' k
def condW (s : Sy) (c : Operand) (X Y : Sy → WP) : WP :=
  match c with
  | .const (.bool b) => match b with | true => X s | false => Y s
  | .tmp t => match look s.kn t with
    | some true => X s
    | some false => Y s
    | none => match look s.env t with
      | some (.bool b) => br b (X (s.know t true)) (Y (s.know t false))
      | _ => stop
  | _ => stop
def both (X Y : WP) : WP := fun w => X w ∧ Y w
def opsAt (ops : Array Oper) (l : List Nat) : List Oper := l.filterMap fun i => ops[i]?
/-- x may come anywhere. -/
def genOpsC (P : Program) (n : Nat) (ops : Array Oper) (chk : WP → WP) : List Oper → Sy → (Sy → WP) → WP
  | [], s, k => k s
  | o :: l, s, k => genOp P n ops o s fun s' => chk (genOpsC P n ops chk l s' k)
def genG (P : Program) (n : Nat) (ops : Array Oper) (ms : Array Nat) (x : Nat) (ox : Oper) (chk : WP → WP) : List Nat → Sy → (Sy → WP) → WP
  | [], s, k => genOp P n ops ox s fun s' => chk (k s')
  | i :: r, s, k => match ops[i]? with
    | none => stop
    | some o => match W ms i x with
      | true => genOp P n ops ox s fun s' => chk (genOpsC P n ops chk (o :: opsAt ops r) s' k)
      | false => match heavy P o with
        | true => both (genOp P n ops ox s fun s' => chk (genOpsC P n ops chk (o :: opsAt ops r) s' k)) (genOp P n ops o s fun s' => chk (genG P n ops ms x ox chk r s' k))
        | false => genOp P n ops o s fun s' => chk (genG P n ops ms x ox chk r s' k)
def genReg (P : Program) (n : Nat) (ops : Array Oper) (draw : Bool) (pins fl : Option Nat) (s : Sy) (k : Sy → WP) : WP :=
  match draw with
  | false => genOps P n ops ops.toList s k
  | true => match fl with
    | some x => match ops[x]? with
      | none => stop
      | some ox => match pins with
        | none => need (P.follows .mixedOrders && floatB P ops (Region.before ops) x) (drewW (genG P n ops (Region.before ops) x ox (fun X => X) ((List.range ops.size).filter fun i => i != x) s fun s' => need (calmE P ops (Region.before ops) s') (k s')))
        | some _ => need (P.follows .mixedOrders && floatB P ops (Region.before ops) x) (pinW fun L => genG P n ops (Region.before ops) x ox (chkW L) ((List.range ops.size).filter fun i => i != x) s fun s' =>
            need (calmP P ops s') (endW L (pinAds P ops (Region.before ops) s' ops.toList.zipIdx []) (k s')))
    | none => match pins with
      | none => need (P.follows .mixedOrders && freeB P ops (Region.before ops)) (drewW (genOps P n ops ops.toList s fun s' => need (calmE P ops (Region.before ops) s') (k s')))
      | some m => need (P.follows .mixedOrders && freeB P ops (Region.before ops) && tailB P ops (Region.before ops) m) (pinW fun L => genOpsP P n ops L m ops.toList s fun s' =>
          need (calmP P ops s') (endW L (pinAds P ops (Region.before ops) s' ops.toList.zipIdx []) (k s')))
def gen (P : Program) (n : Nat) (A : Ann) : Code → Sy → (Exit → Sy → WP) → WP
  | .skip, s, Q => Q .normal s
  | .label _, s, Q => Q .normal s
  | .exit id, s, Q => Q (.exit id) s
  | .ret, s, Q => Q .ret s
  | .region id ops draw, s, Q => match look A.regs id with
    | none => genReg P n ops draw (look A.pins id) (look A.fls id) s (Q .normal)
    | some L => joinW (fun K => genReg P n ops draw (look A.pins id) (look A.fls id) s fun s' => handOn L s' K) (fun vs => bindS P L vs (s.forget (ops.toList.filterMap (·.dst))) fun s2 => Q .normal s2)
  | .seq x y, s, Q => gen P n A x s fun e s' => match e with | .normal => gen P n A y s' Q | e => Q e s'
  | .cond c x y, s, Q => match at? A.joins (key (.cond c x y)) with
    | none => condW s c (fun s1 => gen P n A x s1 Q) (fun s1 => gen P n A y s1 Q)
    | some L => joinW (fun K => condW s c (fun s1 => gen P n A x s1 fun e s' => match e with | .normal => handOn L s' K | e => Q e s') (fun s1 => gen P n A y s1 fun e s' => match e with | .normal => handOn L s' K | e => Q e s'))
      (fun vs => bindS P L vs (s.forget (sets x ++ sets y)) fun s2 => Q .normal s2)
  | .block id b, s, Q => match look A.blocks id with
    | none => gen P n A b s fun e s' => match e with
      | .exit i => match Nat.beq i id with | true => Q .normal s' | false => Q (.exit i) s'
      | e => Q e s'
    | some L => joinW (fun K => gen P n A b s fun e s' => match e with
        | .exit i => match Nat.beq i id with | true => handOn L s' K | false => Q (.exit i) s'
        | .normal => handOn L s' K
        | e => Q e s')
      (fun vs => bindS P L vs (s.forget (sets b)) fun s2 => Q .normal s2)
  | .loop b, s, Q => match at? A.loops (key b) with
    | none => stop
    | some L => match valsOf L s with
      | none => stop
      | some vs0 => loopW vs0 fun K vs => bindS P L vs (s.forget (sets b)) fun s2 => gen P n A b s2 fun e s' => match e with | .normal => handOn L s' K | e => Q e s'
  | .scope b, s, Q => gen P n A b s fun e s' => match e with | .goto _ => stop | e => Q e s'
  | _, _, _ => stop

section
variable {P : Program} {n : Nat} {A : Ann}
theorem wp_loopN {c : Code} {Q : Exit → Act → World → Prop} {a : Act} {w : World} (I : Nat → Act → World → Prop) {m : Nat} (h0 : I m a w)
    (round : ∀ m a w, I m a w → c.wp P (Exit.then (fun a' w' => ∃ m', m' < m ∧ I m' a' w') Q) a w) : (Code.loop c).wp P Q a w := by
  intro b k cs
  have key : ∀ m a w, I m a w → ∃ e a' w', Q e a' w' ∧ Arrives P (lone (b.at a (.code c :: .inLoop c :: k)) cs w) b k cs e a' w' := by
    intro m
    induction m using Nat.strongRecOn with
    | _ m ih =>
      intro a w hI
      obtain ⟨e, a₁, w₁, hq, harr⟩ := round m a w hI b (.inLoop c :: k) cs
      cases e with
      | normal =>
        obtain ⟨m', hlt, hI₁⟩ := hq
        obtain ⟨e₂, a₂, w₂, hq₂, harr₂⟩ := ih m' hlt a₁ w₁ hI₁
        exact ⟨e₂, a₂, w₂, hq₂, .of_steps (Steps.trans harr (.one step_inLoop)) harr₂⟩
      | exit id => exact ⟨_, a₁, w₁, hq, .pass (x := .inLoop c) rfl (fun _ _ => .inl (by simp)) harr⟩
      | goto l => exact ⟨_, a₁, w₁, hq, .pass (x := .inLoop c) rfl (fun _ _ => .inl (by simp)) harr⟩
      | ret => exact ⟨_, a₁, w₁, hq, .pass (x := .inLoop c) rfl (fun _ _ => .inl (by simp)) harr⟩
      | panic ch => exact ⟨_, a₁, w₁, hq, .pass (x := .inLoop c) rfl (fun _ _ => .inl (by simp)) harr⟩
      | outgrown => exact ⟨_, a₁, w₁, hq, .pass (x := .inLoop c) rfl (fun _ _ => .inl (by simp)) harr⟩
  obtain ⟨e, a', w', hq, harr⟩ := key _ a w h0
  exact ⟨e, a', w', hq, .of_steps (.one step_loop) harr⟩

theorem calmAt_congr {ρ ρ' : Operand → Value} {o : Oper} (h : ∀ x ∈ o.op.operands, ρ x = ρ' x) : calmAt P o ρ = calmAt P o ρ' := by
  unfold calmAt
  cases ho : o.op <;> rw [ho] at h <;> simp only [Op.operands] at h <;> first | rfl | skip
  case binOp => dsimp only; rw [h _ (by simp), h _ (by simp)]
  case nilCheck => dsimp only; rw [h _ (by simp)]
  case convert => dsimp only; rw [h _ (by simp)]
  case lookup => dsimp only; rw [h _ (List.mem_toArray.2 (by simp))]
  case call c =>
    have hm : c.args.toList.map ρ = c.args.toList.map ρ' := List.map_congr_left fun x hx => h x (by
      unfold Call.operands
      exact Array.mem_append.2 (.inr (by simpa using hx)))
    dsimp only
    cases c.callee <;> first | rfl | skip
    rename_i b
    cases b <;> first | rfl | (dsimp only; rw [hm])
theorem wantedE_sound {ops : Array Oper} {o : Oper} {s : Sy} {a : Act} (hr : Rep n s a) {b : Bool} (hb : wantedE ops o s = some b) : Region.wanted o (yielded ops a.tmps) = b := by
  unfold wantedE at hb
  unfold Region.wanted
  cases hg : o.guard with
  | none => rw [hg] at hb; cases hb; rfl
  | some jw =>
    obtain ⟨j, want⟩ := jw
    rw [hg] at hb
    dsimp only at hb ⊢
    cases hd : (ops[j]?).bind (·.dst) with
    | none => rw [hd] at hb; cases hb
    | some t =>
      rw [hd] at hb
      dsimp only at hb
      cases hk : look s.kn t with
      | some c =>
        rw [hk] at hb
        cases hb
        simp only [yielded, hd, Option.bind_some, hr.kn t c hk]
        cases c <;> cases want <;> rfl
      | none =>
        rw [hk] at hb
        dsimp only at hb
        cases he : look s.env t with
        | none => rw [he] at hb; cases hb
        | some v =>
          rw [he] at hb
          cases v <;> first | (cases hb; done) | skip
          cases hb
          simp only [yielded, hd, Option.bind_some, hr.env t _ he]
          cases want <;> rfl
theorem calm_one {ops : Array Oper} {s : Sy} {a : Act} (hr : Rep n s a) {o : Oper} (h : (match dyn o with
    | false => true
    | true => match wantedE ops o s with
      | some false => true
      | some true => known s.env o.op.operands.toList && calmAt P o (rho s.env)
      | none => false) = true) : dyn o = false ∨ Region.wanted o (yielded ops a.tmps) = false ∨ (wantedE ops o s = some true ∧ known s.env o.op.operands.toList = true ∧ calmAt P o (Act.eval ⟨a.tmps, []⟩) = true) := by
  cases hd : dyn o with
  | false => exact .inl rfl
  | true =>
    rw [hd] at h
    dsimp only at h
    cases hwe : wantedE ops o s with
    | none => rw [hwe] at h; cases h
    | some b =>
      rw [hwe] at h
      cases b with
      | false => exact .inr (.inl (wantedE_sound hr hwe))
      | true =>
        dsimp only at h
        rw [Bool.and_eq_true] at h
        have hev : Act.eval ⟨a.tmps, []⟩ = a.eval := by funext x; cases x <;> rfl
        refine .inr (.inr ⟨rfl, h.1, ?_⟩)
        rw [hev, calmAt_congr (ρ' := rho s.env) fun x hx => hr.eval (known_iff h.1 x (by simpa using hx))]
        exact h.2
theorem calmE_sound {ops : Array Oper} {ms : Array Nat} {s : Sy} {a : Act} (hr : Rep n s a) (h : calmE P ops ms s = true) : calmOps P ops ms noPin a.tmps = true := by
  unfold calmOps
  unfold calmE at h
  rw [List.all_eq_true] at h ⊢
  rintro ⟨o, k⟩ hx
  have h0 := h ⟨o, k⟩ hx
  dsimp only at h0 ⊢
  have h1 : (match dyn o with
    | false => true
    | true => match wantedE ops o s with
      | some false => true
      | some true => known s.env o.op.operands.toList && calmAt P o (rho s.env)
      | none => false) = true ∧ (dyn o = true → wantedE ops o s = some true → floats P ops ms k o = false) := by
    cases hd : dyn o with
    | false => exact ⟨rfl, fun h => by cases h⟩
    | true =>
      rw [hd] at h0
      dsimp only at h0 ⊢
      cases hwe : wantedE ops o s with
      | none => rw [hwe] at h0; cases h0
      | some b =>
        rw [hwe] at h0
        cases b with
        | false => exact ⟨rfl, fun _ h => by cases h⟩
        | true =>
          dsimp only at h0 ⊢
          simp only [Bool.and_eq_true, Bool.not_eq_true'] at h0
          exact ⟨by rw [h0.1.1, h0.1.2]; rfl, fun _ _ => h0.2⟩
  rcases calm_one (P := P) (ops := ops) hr h1.1 with e | e | ⟨e, _, e2⟩
  · rw [e]; rfl
  · rw [e]; simp
  · cases hd : dyn o with
    | false => rfl
    | true => rw [e2, h1.2 hd e]; simp
theorem pinAds_acc {ops : Array Oper} {ms : Array Nat} {s : Sy} : ∀ (l : List (Oper × Nat)) (acc : List (Option Addr)) (p : Option Addr), p ∈ acc → p ∈ pinAds P ops ms s l acc
  | [], _, _, h => h
  | (o, k) :: l, acc, p, h => by
    unfold pinAds
    cases floats P ops ms k o with
    | false => exact pinAds_acc l acc p h
    | true =>
      dsimp only
      split
      · exact pinAds_acc l acc p h
      · split
        · exact pinAds_acc l _ p (List.mem_cons_of_mem _ h)
        · exact pinAds_acc l _ p (List.mem_cons_of_mem _ h)
theorem pinAds_mem {ops : Array Oper} {ms : Array Nat} {s : Sy} : ∀ (l : List (Oper × Nat)) (acc : List (Option Addr)) (o : Oper) (k : Nat) (t : TypeId) (x : Operand), (o, k) ∈ l → floats P ops ms k o = true → wantedE ops o s = some true → o.op = .load t x → padr (rho s.env x) ∈ pinAds P ops ms s l acc
  | [], _, _, _, _, _, h, _, _, _ => by cases h
  | (o', k') :: l, acc, o, k, t, x, h, hf, hw, ho => by
    unfold pinAds
    rcases List.mem_cons.1 h with e | h
    · cases e
      rw [hf]
      dsimp only
      rw [hw]
      dsimp only
      rw [ho]
      exact pinAds_acc l _ _ (List.mem_cons_self ..)
    · cases floats P ops ms k' o' with
      | false => exact pinAds_mem l acc o k t x h hf hw ho
      | true =>
        dsimp only
        split
        · exact pinAds_mem l acc o k t x h hf hw ho
        · split
          · exact pinAds_mem l _ o k t x h hf hw ho
          · exact pinAds_mem l _ o k t x h hf hw ho
theorem calmP_sound {ops : Array Oper} {ms : Array Nat} {s : Sy} {a : Act} {L : Pins} (hr : Rep n s a) (h : calmP P ops s = true) (he : ∀ x ∈ pinAds P ops ms s ops.toList.zipIdx [], ∃ p o, x = some p ∧ (p.block, o) ∈ L) : calmOps P ops ms (fun k => L.any fun x => x.1 == k) a.tmps = true := by
  unfold calmOps
  unfold calmP at h
  rw [List.all_eq_true] at h ⊢
  rintro ⟨o, k⟩ hx
  have hmem : o ∈ ops.toList := List.mem_of_getElem? (List.mem_zipIdx_iff_getElem?.1 hx)
  have h0 := h o hmem
  dsimp only
  rcases calm_one (P := P) (ops := ops) hr h0 with e | e | ⟨e, ek, e2⟩
  · rw [e]; rfl
  · rw [e]; simp
  · rw [e2]
    cases hf : floats P ops ms k o with
    | false => simp
    | true =>
      have hl : ∃ t x, o.op = .load t x := by
        unfold floats isLoad at hf
        cases ho : o.op <;> rw [ho] at hf <;> first | (simp at hf; done) | skip
        exact ⟨_, _, rfl⟩
      obtain ⟨t, x, ho⟩ := hl
      have hev : Act.eval ⟨a.tmps, []⟩ x = rho s.env x := by
        rw [← hr.eval (known_iff ek x (by rw [ho]; simp [Op.operands]))]
        cases x <;> rfl
      obtain ⟨p, ob, hp, hL⟩ := he _ (pinAds_mem _ [] o k t x hx hf e ho)
      have hv : rho s.env x = .pointer (some p) := by
        unfold padr at hp
        split at hp
        · rename_i q hq; rw [hq, hp]
        · cases hp
      have hany : (L.any fun x => x.1 == p.block) = true := List.any_eq_true.2 ⟨_, hL, by simp⟩
      simp [pinned, ho, hev, hv, hany]
theorem genOpsP_sound {ops : Array Oper} {L : Pins} {Q : Exit → Act → World → Prop} {S : World → Prop} (hS : ∀ w : World, (∀ x ∈ L, w.heap[x.1]? = some x.2) → S w) : ∀ (l : List Oper) (m : Nat) {s : Sy} {k : Sy → WP} {a : Act} {w : World}, Rep n s a → genOpsP P n ops L m l s k w →
    (∀ s' a' w', Rep n s' a' → Keep (l.filterMap (·.dst)) a a' → k s' w' → Q .normal a' w') → wpListM P ops Q S m l a w
  | [], _, s, k, a, w, hr, h, hk => hk s a w hr (Keep.refl _ _) (by unfold genOpsP at h; exact h)
  | o :: l, m, s, k, a, w, hr, h, hk => by
    have next : ∀ s' v w', Rep n s' (a.put o.dst v) → (match m with
        | 0 => genOpsP P n ops L 0 l s' k
        | m + 1 => match cls P o with
          | .loud => chkW L (genOpsP P n ops L m l s' k)
          | _ => genOpsP P n ops L m l s' k) w' → (0 < m → cls P o = .loud → S w') ∧ wpListM P ops Q S (m - 1) l (a.put o.dst v) w' := fun s' v w' hs' h' => by
      have go : ∀ r, genOpsP P n ops L r l s' k w' → wpListM P ops Q S r l (a.put o.dst v) w' := fun r h' => genOpsP_sound hS l r hs' h' fun s2 a2 w2 hs2 k2 h2 => by
        refine hk s2 a2 w2 hs2 ?_ h2
        have k1 : Keep ((o :: l).filterMap (·.dst)) a (a.put o.dst v) := fun t ht => by
          unfold Act.put
          split
          · rename_i d hd
            refine Array.getElem?_setIfInBounds_ne ?_
            rintro rfl
            exact ht (List.mem_filterMap.2 ⟨o, List.mem_cons_self .., hd⟩)
          · rfl
        exact k1.trans (k2.mono fun t ht => by
          obtain ⟨x, hx, he⟩ := List.mem_filterMap.1 ht
          exact List.mem_filterMap.2 ⟨x, List.mem_cons_of_mem _ hx, he⟩)
      cases m with
      | zero => exact ⟨fun h => absurd h (Nat.lt_irrefl _), go 0 h'⟩
      | succ m =>
        dsimp only at h'
        by_cases hc : cls P o = .loud
        · rw [hc] at h'
          exact ⟨fun _ _ => hS _ h'.1, go m h'.2⟩
        · refine ⟨fun _ h => absurd h hc, go m ?_⟩
          cases hc' : cls P o
          case loud => exact absurd hc' hc
          all_goals (rw [hc'] at h'; exact h')
    unfold genOpsP at h
    have run : ∀ s', Rep n s' a → Region.wanted o (yielded ops a.tmps) = true → genRun P n o s' _ w → wpListM P ops Q S m (o :: l) a w := fun s' hs hw h => by
      unfold wpListM
      rw [if_pos hw]
      exact .inl (genRun_sound hs h next)
    have skip : ∀ s', Rep n s' a → Region.wanted o (yielded ops a.tmps) = false → _ → wpListM P ops Q S m (o :: l) a w := fun s' hs hw h => by
      unfold wpListM
      rw [if_neg (by rw [hw]; exact Bool.false_ne_true)]
      exact next _ _ _ (hs.put _ _) h
    exact genOp_cases hr h run skip
def bound : Slots → List Value → Sy → Sy
  | (d, _) :: r, v :: l, s => bound r l ⟨(d, v) :: s.env, s.kn⟩
  | _, _, s => s
theorem bindS_out : ∀ {L : Slots} {vs : List Value} {s : Sy} {k : Sy → WP} {w : World}, bindS P L vs s k w → k (bound L vs s) w
  | [], vs, s, k, w, h => by obtain ⟨rfl, h⟩ := h; exact h
  | (d, t) :: r, vs, s, k, w, h => by
    obtain ⟨v, l, rfl, h⟩ := h
    have h' := asV_out h
    exact bindS_out (L := r) h'
theorem Rep.bound {s2 : Sy} {a : Act} (h2 : Rep n s2 a) : ∀ {L : Slots} {vs : List Value} {s : Sy}, Rep n s a → valsOf L s2 = some vs → Rep n (bound L vs s) a
  | [], vs, s, h, hv => by unfold Ytehpdpdmjflddaa.bound; exact h
  | (d, t) :: r, vs, s, h, hv => by
    unfold valsOf at hv
    cases he : look s2.env d with
    | none => rw [he] at hv; cases hv
    | some v =>
      rw [he] at hv
      dsimp only at hv
      cases hl : valsOf r s2 with
      | none => rw [hl] at hv; cases hv
      | some l =>
        rw [hl] at hv
        cases hv
        refine Rep.bound h2 (L := r) (vs := l) ⟨h.defers, h.size, fun u x hu => ?_, h.kn⟩ hl
        rw [look_cons] at hu
        split at hu
        · rename_i e; subst e; cases hu; exact h2.env _ _ he
        · exact h.env u x hu
theorem handOn_out {L : Slots} {s : Sy} {K : List Value → WP} {w : World} (h : handOn L s K w) : ∃ vs, valsOf L s = some vs ∧ K vs w := by
  unfold handOn at h
  cases hv : valsOf L s with
  | none => rw [hv] at h; exact h.elim
  | some l => rw [hv] at h; exact ⟨l, rfl, h⟩
theorem condW_sound {s : Sy} {c : Operand} {X Y : Sy → WP} {a : Act} {w : World} (hr : Rep n s a) (h : condW s c X Y w) :
    ∃ b s1, a.eval c = .bool b ∧ Rep n s1 a ∧ (if b then X else Y) s1 w := by
  have ht : ∀ t b, a.tmps[t]? = some (.bool b) → a.eval (.tmp t) = .bool b := fun t b h => by simp [Act.eval, Array.getD_eq_getD_getElem?, h]
  unfold condW at h
  cases c with
  | const v =>
    cases v <;> first | exact h.elim | skip
    rename_i b
    cases b <;> exact ⟨_, s, rfl, hr, h⟩
  | tmp t =>
    dsimp only at h
    cases hk : look s.kn t with
    | some b =>
      rw [hk] at h
      cases b <;> exact ⟨_, s, ht _ _ (hr.kn _ _ hk), hr, h⟩
    | none =>
      rw [hk] at h
      dsimp only at h
      cases he : look s.env t with
      | none => rw [he] at h; exact h.elim
      | some v =>
        rw [he] at h
        cases v <;> first | exact h.elim | skip
        rename_i b
        have hv := hr.env _ _ he
        obtain ⟨h1, h2⟩ := h
        cases b
        · exact ⟨false, _, ht _ _ hv, hr.know hv, h2 rfl⟩
        · exact ⟨true, _, ht _ _ hv, hr.know hv, h1 rfl⟩
  | global g => exact h.elim
  | func f => exact h.elim

/-- How a piece of code ends. -/
def EndQ (n : Nat) (l : List Nat) (a : Act) (Q : Exit → Sy → WP) : Exit → Act → World → Prop := fun e a' w' => ∃ s', Rep n s' a' ∧ Keep l a a' ∧ Q e s' w'
theorem EndQ.mono {l l' : List Nat} {a : Act} {Q : Exit → Sy → WP} (hl : ∀ t ∈ l, t ∈ l') : ∀ e a' w', EndQ n l a Q e a' w' → EndQ n l' a Q e a' w' :=
  fun _ _ _ ⟨s, h1, h2, h3⟩ => ⟨s, h1, h2.mono hl, h3⟩
theorem genOp_sound1 {ops : Array Oper} {K : Act → World → Prop} {Q : Exit → Act → World → Prop} {i : Nat} {o : Oper} {s : Sy} {k : Sy → WP} {a : Act} {w : World} (hi : ops[i]? = some o) (hr : Rep n s a) (h : genOp P n ops o s k w) (hk : ∀ s' v w', Rep n s' (a.put o.dst v) → k s' w' → K (a.put o.dst v) w') : wpOp P ops Q i K a w := by
  unfold wpOp
  rw [hi]
  dsimp only
  refine genOp_cases hr h (fun s' hs hw h => ?_) (fun s' hs hw h => ?_)
  · rw [if_pos hw]
    exact .inl (genRun_sound hs h hk)
  · rw [if_neg (by rw [hw]; exact Bool.false_ne_true)]
    exact hk _ _ _ (hs.put _ _) h
theorem keep_put {ops : Array Oper} {i : Nat} {o : Oper} (hi : ops[i]? = some o) (a : Act) (v : Value) : Keep (ops.toList.filterMap (·.dst)) a (a.put o.dst v) := fun t ht => by
  unfold Act.put
  split
  · rename_i d hd
    refine Array.getElem?_setIfInBounds_ne ?_
    rintro rfl
    exact ht (List.mem_filterMap.2 ⟨o, List.mem_iff_getElem?.2 ⟨i, by simpa using hi⟩, hd⟩)
  · rfl
theorem pinN (w0 w : World) : Pinned noPin w0 w := fun k hk => by cases hk
theorem genOpsI_sound {ops : Array Oper} {Q : Exit → Act → World → Prop} {S : World → Prop} {chk : WP → WP} (hchk : ∀ X w, chk X w → S w ∧ X w) {a0 : Act} {k : Sy → WP} : ∀ (l : List Nat) {s : Sy} {a : Act} {w : World}, (∀ i ∈ l, i < ops.size) → Rep n s a → genOpsC P n ops chk (opsAt ops l) s k w → Keep (ops.toList.filterMap (·.dst)) a0 a →
    (∀ s' a' w', Rep n s' a' → Keep (ops.toList.filterMap (·.dst)) a0 a' → k s' w' → Q .normal a' w') → wpOpsS P ops Q S l a w
  | [], s, a, w, _, hr, h, h0, hk => hk s a w hr h0 h
  | i :: l, s, a, w, hl, hr, h, h0, hk => by
    have hi : ops[i]? = some (ops[i]'(hl i (List.mem_cons_self ..))) := Array.getElem?_eq_getElem _
    unfold opsAt at h
    rw [List.filterMap_cons, hi] at h
    exact genOp_sound1 hi hr h fun s' v w' hs' h' => ⟨(hchk _ _ h').1, genOpsI_sound hchk l (fun m hm => hl m (List.mem_cons_of_mem _ hm)) hs' (hchk _ _ h').2 (h0.trans (keep_put hi _ _)) hk⟩
theorem genG_sound {ops : Array Oper} {ms : Array Nat} {x : Nat} {ox : Oper} (hx : ops[x]? = some ox) {pin : Nat → Bool} {w0 : World} {Q : Exit → Act → World → Prop} {chk : WP → WP} (hchk : ∀ X w, chk X w → Pinned pin w0 w ∧ X w) {a0 : Act} {k : Sy → WP} : ∀ (l : List Nat) {s : Sy} {a : Act} {w : World}, Rep n s a → genG P n ops ms x ox chk l s k w → Keep (ops.toList.filterMap (·.dst)) a0 a →
    (∀ s' a' w', Rep n s' a' → Keep (ops.toList.filterMap (·.dst)) a0 a' → k s' w' → EndS P ops ms pin Q .normal a' w') → (∀ i ∈ l, i < ops.size) → wpG P ops ms x pin w0 Q l a w
  | [], s, a, w, hr, h, h0, hk, _ => by
    unfold wpG wpO
    exact genOp_sound1 hx hr h fun s' v w' hs' h' => ⟨(hchk _ _ h').1, hk _ _ _ hs' (h0.trans (keep_put hx _ _)) (hchk _ _ h').2⟩
  | i :: r, s, a, w, hr, h, h0, hk, hl => by
    have hi : ops[i]? = some (ops[i]'(hl i (List.mem_cons_self ..))) := Array.getElem?_eq_getElem _
    have hl' : ∀ m ∈ r, m < ops.size := fun m hm => hl m (List.mem_cons_of_mem _ hm)
    have now : ∀ {w : World}, genOp P n ops ox s (fun s' => chk (genOpsC P n ops chk (ops[i]'(hl i (List.mem_cons_self ..)) :: opsAt ops r) s' k)) w → wpO P ops ms pin w0 Q x (wpOpsS P ops (EndS P ops ms pin Q) (Pinned pin w0) (i :: r)) a w := fun h =>
      genOp_sound1 hx hr h fun s' v w' hs' h' => ⟨(hchk _ _ h').1, genOpsI_sound hchk (i :: r) hl hs' (by have h2 := (hchk _ _ h').2; unfold opsAt at h2 ⊢; rw [List.filterMap_cons, hi]; exact h2) (h0.trans (keep_put hx _ _)) hk⟩
    have next : ∀ {w : World}, genOp P n ops (ops[i]'(hl i (List.mem_cons_self ..))) s (fun s' => chk (genG P n ops ms x ox chk r s' k)) w → wpO P ops ms pin w0 Q i (wpG P ops ms x pin w0 Q r) a w := fun h =>
      genOp_sound1 hi hr h fun s' v w' hs' h' => ⟨(hchk _ _ h').1, genG_sound hx hchk r hs' (hchk _ _ h').2 (h0.trans (keep_put hi _ _)) hk hl'⟩
    unfold genG at h
    unfold wpG
    rw [hi] at h ⊢
    dsimp only at h ⊢
    cases hw : W ms i x with
    | true => rw [hw] at h; exact now h
    | false =>
      rw [hw] at h
      dsimp only at h ⊢
      cases hh : heavy P (ops[i]'(hl i (List.mem_cons_self ..))) with
      | true => rw [hh] at h; exact ⟨now h.1, next h.2⟩
      | false => rw [hh] at h; exact next h
theorem gen_sound : ∀ (c : Code) {s : Sy} {Q : Exit → Sy → WP} {a : Act} {w : World}, Rep n s a → gen P n A c s Q w → c.wp P (EndQ n (sets c) a Q) a w
  | .skip, s, Q, a, w, hr, h => wp_skip ⟨s, hr, Keep.refl _ _, h⟩
  | .label _, s, Q, a, w, hr, h => wp_label ⟨s, hr, Keep.refl _ _, h⟩
  | .exit id, s, Q, a, w, hr, h => wp_exit ⟨s, hr, Keep.refl _ _, h⟩
  | .ret, s, Q, a, w, hr, h => wp_ret ⟨s, hr, Keep.refl _ _, h⟩
  | .goto _, s, Q, a, w, hr, h => h.elim
  | .refuse _, s, Q, a, w, hr, h => h.elim
  | .rangeFunc _ _ _ _, s, Q, a, w, hr, h => h.elim
  | .scope b, s, Q, a, w, hr, h => by
    refine wp_scope_straight (Code.wp_mono ?_ (gen_sound b hr h))
    rintro e a' w' ⟨s', h1, h2, h3⟩
    cases e <;> first | exact h3.elim | exact ⟨s', h1, h2, h3⟩
  | .region id ops draw, s, Q, a, w, hr, h => by
    have reg : ∀ (k : Sy → WP) (R : Exit → Act → World → Prop), genReg P n ops draw (look A.pins id) (look A.fls id) s k w → (∀ s' a' w', Rep n s' a' → Keep (ops.toList.filterMap (·.dst)) a a' → k s' w' → R .normal a' w') → (Code.region id ops draw).wp P R a w := fun k R h hk => by
      unfold genReg at h
      cases draw with
      | false => exact wp_region_list (genOps_sound _ hr h hk)
      | true =>
       cases hfl : look A.fls id with
       | some x =>
        rw [hfl] at h
        dsimp only at h
        cases hox : ops[x]? with
        | none => rw [hox] at h; exact h.elim
        | some ox =>
        rw [hox] at h
        have he : ops.toList.toArray = ops := by simp
        cases hpin : look A.pins id with
        | none =>
          rw [hpin] at h
          obtain ⟨h0, h⟩ := h
          rw [Bool.and_eq_true] at h0
          have := wp_float (P := P) (id := id) (l := ops.toList) (Q := R) (a := a) (w := w) noPin x h0.1 (by rw [he]; exact h0.2) (fun k hk => by cases hk) (by
            rw [he, Array.length_toList]
            exact genG_sound (pin := noPin) (chk := fun X => X) hox (fun X w h => ⟨pinN _ _, h⟩) _ hr h (Keep.refl _ _) (fun s' a' w' h1 h2 h3 => ⟨calmE_sound h1 h3.1, hk _ _ _ h1 h2 h3.2⟩) fun i hi => List.mem_range.1 (List.mem_filter.1 hi).1)
          rw [he] at this
          exact this
        | some m =>
          rw [hpin] at h
          obtain ⟨h0, L, hL, h⟩ := h
          rw [Bool.and_eq_true] at h0
          have := wp_float (P := P) (id := id) (l := ops.toList) (Q := R) (a := a) (w := w) (fun k => L.any fun x => x.1 == k) x h0.1 (by rw [he]; exact h0.2) (fun k hk => by
            obtain ⟨x, hx, e⟩ := List.any_eq_true.1 hk
            have e' : x.1 = k := by simpa using e
            subst e'
            obtain ⟨h1, c, e, f, h2⟩ := hL x hx
            exact ⟨c, e, f, by rw [h1, h2]⟩) (by
            rw [he, Array.length_toList]
            refine genG_sound (pin := fun k => L.any fun x => x.1 == k) (chk := chkW L) hox (fun X w' h => ⟨fun k hk _ => ?_, h.2⟩) _ hr h (Keep.refl _ _) (fun s' a' w' h1 h2 h3 => ⟨calmP_sound h1 h3.1 h3.2.1, hk _ _ _ h1 h2 h3.2.2⟩) fun i hi => List.mem_range.1 (List.mem_filter.1 hi).1
            obtain ⟨x, hx, e⟩ := List.any_eq_true.1 hk
            have e' : x.1 = k := by simpa using e
            subst e'
            rw [h.1 x hx]
            exact (hL x hx).1.symm)
          rw [he] at this
          exact this
       | none =>
       rw [hfl] at h
       dsimp only at h
       cases hpin : look A.pins id with
       | some m =>
        rw [hpin] at h
        obtain ⟨h0, L, hL, h⟩ := h
        simp only [Bool.and_eq_true] at h0
        have he : ops.toList.toArray = ops := by simp
        have := wp_pinM (P := P) (id := id) (l := ops.toList) (Q := R) (a := a) (w := w) (fun k => L.any fun x => x.1 == k) m h0.1.1 (by rw [he]; exact h0.1.2) (by rw [he]; exact h0.2) (fun k hk => by
          obtain ⟨x, hx, e⟩ := List.any_eq_true.1 hk
          have e' : x.1 = k := by simpa using e
          subst e'
          obtain ⟨h1, c, e, f, h2⟩ := hL x hx
          exact ⟨c, e, f, by rw [h1, h2]⟩) (by
          rw [he]
          refine genOpsP_sound (L := L) (fun w' hw' k hk _ => ?_) _ m hr h fun s' a' w' h1 h2 h3 => ⟨calmP_sound h1 h3.1 h3.2.1, hk _ _ _ h1 h2 h3.2.2⟩
          obtain ⟨x, hx, e⟩ := List.any_eq_true.1 hk
          have e' : x.1 = k := by simpa using e
          subst e'
          rw [hw' x hx]
          exact (hL x hx).1.symm)
        rw [he] at this
        exact this
       | none =>
        rw [hpin] at h
        obtain ⟨h0, h⟩ := h
        rw [Bool.and_eq_true] at h0
        have he : ops.toList.toArray = ops := by simp
        have := wp_free (P := P) (id := id) (l := ops.toList) (Q := R) (a := a) (w := w) h0.1 (by rw [he]; exact h0.2) (by
          rw [he]
          exact genOps_sound _ hr h fun s' a' w' h1 h2 h3 => ⟨calmE_sound h1 h3.1, hk _ _ _ h1 h2 h3.2⟩)
        rw [he] at this
        exact this
    unfold gen at h
    cases hl : look A.regs id with
    | none =>
      rw [hl] at h
      exact reg _ _ h fun s' a' w' h1 h2 h3 => ⟨s', h1, h2, h3⟩
    | some L =>
      rw [hl] at h
      refine reg _ _ h fun s' a' w' g1 g2 g3 => ?_
      obtain ⟨vs, hv, g3⟩ := handOn_out g3
      exact ⟨_, Rep.bound g1 (hr.forget g1 g2) hv, g2, bindS_out g3⟩
  | .seq x y, s, Q, a, w, hr, h => by
    refine wp_seq (Code.wp_mono ?_ (gen_sound x hr h))
    rintro e a' w' ⟨s', h1, h2, h3⟩
    have kx : Keep (sets (.seq x y)) a a' := h2.mono fun t ht => by unfold sets; exact List.mem_append_left _ ht
    cases e <;> first | exact ⟨s', h1, kx, h3⟩ | skip
    refine Code.wp_mono ?_ (gen_sound y h1 h3)
    rintro e2 a2 w2 ⟨s2, g1, g2, g3⟩
    exact ⟨s2, g1, kx.trans (g2.mono fun t ht => by unfold sets; exact List.mem_append_right _ ht), g3⟩
  | .cond c x y, s, Q, a, w, hr, h => by
    have hx : ∀ t ∈ sets x, t ∈ sets (.cond c x y) := fun t ht => by unfold sets; exact List.mem_append_left _ ht
    have hy : ∀ t ∈ sets y, t ∈ sets (.cond c x y) := fun t ht => by unfold sets; exact List.mem_append_right _ ht
    unfold gen at h
    cases hj : at? A.joins (key (.cond c x y)) with
    | none =>
      rw [hj] at h
      obtain ⟨b, s1, hb, hr1, h⟩ := condW_sound hr h
      refine wp_cond hb ?_
      cases b
      · exact Code.wp_mono (EndQ.mono hy) (gen_sound y hr1 h)
      · exact Code.wp_mono (EndQ.mono hx) (gen_sound x hr1 h)
    | some L =>
      rw [hj] at h
      dsimp only at h
      unfold joinW at h
      obtain ⟨b, s1, hb, hr1, h⟩ := condW_sound hr h
      refine wp_cond hb ?_
      have fin : ∀ e a' w' s', Rep n s' a' → Keep (sets (.cond c x y)) a a' → (match e with | .normal => handOn L s' (fun vs => bindS P L vs (s.forget (sets x ++ sets y)) fun s2 => Q .normal s2) | e => Q e s') w' →
          EndQ n (sets (.cond c x y)) a Q e a' w' := fun e a' w' s' g1 g2 g3 => by
        cases e <;> first | exact ⟨s', g1, g2, g3⟩ | skip
        obtain ⟨vs, hv, g3⟩ := handOn_out g3
        exact ⟨_, Rep.bound g1 (hr.forget g1 (l := sets x ++ sets y) g2) hv, g2, bindS_out g3⟩
      cases b
      · refine Code.wp_mono ?_ (gen_sound y hr1 h)
        rintro e a' w' ⟨s', g1, g2, g3⟩
        exact fin e a' w' s' g1 (g2.mono hy) g3
      · refine Code.wp_mono ?_ (gen_sound x hr1 h)
        rintro e a' w' ⟨s', g1, g2, g3⟩
        exact fin e a' w' s' g1 (g2.mono hx) g3
  | .block id b, s, Q, a, w, hr, h => by
    unfold gen at h
    refine wp_block ?_
    cases hj : look A.blocks id with
    | none =>
      rw [hj] at h
      refine Code.wp_mono ?_ (gen_sound b hr h)
      rintro e a' w' ⟨s', g1, g2, g3⟩
      cases e <;> first | exact ⟨s', g1, g2, g3⟩ | skip
      rename_i i
      unfold Exit.inBlock
      dsimp only at g3 ⊢
      by_cases hi : i = id
      · subst hi
        rw [Nat.beq_refl] at g3
        rw [if_pos rfl]
        exact ⟨s', g1, g2, g3⟩
      · have : Nat.beq i id = false := by cases hb : Nat.beq i id with | false => rfl | true => exact absurd (Nat.eq_of_beq_eq_true hb) hi
        rw [this] at g3
        rw [if_neg hi]
        exact ⟨s', g1, g2, g3⟩
    | some L =>
      rw [hj] at h
      refine Code.wp_mono ?_ (gen_sound b hr h)
      rintro e a' w' ⟨s', g1, g2, g3⟩
      have fin : handOn L s' (fun vs => bindS P L vs (s.forget (sets b)) fun s2 => Q .normal s2) w' → EndQ n (sets (.block id b)) a Q .normal a' w' := fun g3 => by
        obtain ⟨vs, hv, g3⟩ := handOn_out g3
        exact ⟨_, Rep.bound g1 (hr.forget g1 (l := sets b) g2) hv, g2, bindS_out g3⟩
      cases e <;> first | exact ⟨s', g1, g2, g3⟩ | exact fin g3 | skip
      rename_i i
      unfold Exit.inBlock
      dsimp only at g3 ⊢
      by_cases hi : i = id
      · subst hi
        rw [Nat.beq_refl] at g3
        rw [if_pos rfl]
        exact fin g3
      · have : Nat.beq i id = false := by cases hb : Nat.beq i id with | false => rfl | true => exact absurd (Nat.eq_of_beq_eq_true hb) hi
        rw [this] at g3
        rw [if_neg hi]
        exact ⟨s', g1, g2, g3⟩
  | .loop b, s, Q, a, w, hr, h => by
    unfold gen at h
    cases hj : at? A.loops (key b) with
    | none => rw [hj] at h; exact h.elim
    | some L =>
      rw [hj] at h
      dsimp only at h
      cases hv : valsOf L s with
      | none => rw [hv] at h; exact h.elim
      | some vs0 =>
        rw [hv] at h
        obtain ⟨I, ⟨m, h0⟩, hround⟩ := h
        refine wp_loopN (fun m a' w' => ∃ s' vs, Rep n s' a' ∧ Keep (sets b) a a' ∧ valsOf L s' = some vs ∧ I m vs w') (m := m) ⟨s, vs0, hr, Keep.refl _ _, hv, h0⟩ ?_
        rintro m a' w' ⟨s', vs, g1, g2, g3, g4⟩
        have := bindS_out (hround m vs w' g4)
        have hrb := Rep.bound g1 (hr.forget g1 (l := sets b) g2) g3
        refine Code.wp_mono ?_ (gen_sound b hrb this)
        rintro e a2 w2 ⟨s2, k1, k2, k3⟩
        cases e <;> first | exact ⟨s2, k1, g2.trans k2, k3⟩ | skip
        obtain ⟨vs2, hv2, m', hlt, hI⟩ := handOn_out k3
        exact ⟨m', hlt, s2, vs2, k1, g2.trans k2, hv2, hI⟩

def semR {α : Type} (P : Program) (m : Sem α) (next : α → WP) : WP := fun w => ∃ v, m.run P w = .ok v w ∧ next v w
def packV : List Value → Value
  | [v] => v
  | l => .tuple ⟨l⟩
def fin (P : Program) : List ResultVar → Sy → (List Value → WP) → WP
  | [], _, K => K []
  | .tmp t :: r, s, K => match look s.env t with | some v => fin P r s fun l => K (v :: l) | none => stop
  | .cell c t :: r, s, K => match look s.env c with
    | some (.pointer (some ad)) => semR P (Instr.loadAt t (.pointer (some ad))) fun v => asT P t v fun v' => fin P r s fun l => K (v' :: l)
    | _ => stop
def rv (tmps : Array Value) : ResultVar → Sem Value
  | .tmp t => pure (tmps.getD t undef)
  | .cell c t => do loadVar t (← asAddr (tmps.getD c undef))
theorem results_rv (fn : Func) (tmps : Array Value) : results fn tmps = (do let vs ← fn.results.mapM (rv tmps); pure (if h : vs.size = 1 then vs[0] else .tuple vs)) := by
  unfold results
  exact congrArg (fun g => (do let vs ← fn.results.mapM g; pure (if h : vs.size = 1 then vs[0] else .tuple vs) : Sem Value)) (funext fun x => by cases x <;> rfl)
theorem fin_sound {s : Sy} {a : Act} (hr : Rep n s a) : ∀ {l : List ResultVar} {K : List Value → WP} {w : World}, fin P l s K w →
    ∃ vs, (l.mapM (rv a.tmps)).run P w = .ok vs w ∧ K vs w
  | [], K, w, h => ⟨[], rfl, h⟩
  | .tmp t :: r, K, w, h => by
    unfold fin at h
    cases he : look s.env t with
    | none => rw [he] at h; exact h.elim
    | some v =>
      rw [he] at h
      obtain ⟨vs, h1, h2⟩ := fin_sound hr h
      have hv : a.tmps.getD t undef = v := by simp [Array.getD_eq_getD_getElem?, hr.env _ _ he]
      refine ⟨v :: vs, ?_, h2⟩
      rw [List.mapM_cons]
      rw [run_of (w1 := w) (a := v) (by show (pure (a.tmps.getD t undef) : Sem Value).run P w = _; rw [hv]; rfl), run_of h1]
      rfl
  | .cell c t :: r, K, w, h => by
    unfold fin at h
    cases he : look s.env c with
    | none => rw [he] at h; exact h.elim
    | some v =>
      rw [he] at h
      cases v <;> first | exact h.elim | skip
      rename_i q
      cases q with
      | none => exact h.elim
      | some ad =>
        obtain ⟨v, h1, h2⟩ := h
        obtain ⟨vs, h3, h4⟩ := fin_sound hr (asT_out h2)
        have hv : a.tmps.getD c undef = .pointer (some ad) := by simp [Array.getD_eq_getD_getElem?, hr.env _ _ he]
        have hl : (loadVar t ad).run P w = .ok v w := by
          unfold Instr.loadAt at h1
          rw [run_of (w1 := w) (a := ad) rfl] at h1
          exact h1
        refine ⟨v :: vs, ?_, h4⟩
        rw [List.mapM_cons]
        rw [run_of (w1 := w) (a := v) (by
          show (asAddr (a.tmps.getD c undef) >>= loadVar t).run P w = _
          rw [hv, run_of (w1 := w) (a := ad) rfl]
          exact hl), run_of h3]
        rfl
def argsE : Nat → List Value → List (Nat × Value)
  | _, [] => []
  | i, v :: l => (i, v) :: argsE (i + 1) l
theorem look_argsE (t : Nat) (v : Value) : ∀ (l : List Value) (i : Nat), look (argsE i l) t = some v → i ≤ t ∧ l[t - i]? = some v
  | [], _, h => by simp [argsE, look] at h
  | u :: l, i, h => by
    unfold argsE at h
    rw [look_cons] at h
    split at h
    · rename_i e; subst e; cases h; simp
    · obtain ⟨h1, h2⟩ := look_argsE t v l (i + 1) h
      have e : t - i = (t - (i + 1)) + 1 := by omega
      exact ⟨by omega, by rw [e, List.getElem?_cons_succ]; exact h2⟩
/-- A function, read. -/
def genF (P : Program) (fn : Func) (A : Ann) (args : List Value) (K : Value → WP) : WP :=
  match fn.body with
  | none => stop
  | some c => match Nat.ble args.length fn.ntmps with
    | false => stop
    | true => gen P fn.ntmps A c ⟨argsE 0 args, []⟩ fun e s => match e with
      | .normal => fin P fn.results.toList s fun l => K (packV l)
      | .ret => fin P fn.results.toList s fun l => K (packV l)
      | _ => stop
theorem genF_calls {f : FuncId} {fn : Func} {args : List Value} {K : Value → WP} {w : World} (hf : P.funcs[f]? = some fn) (h : genF P fn A args K w) : callW P f ⟨args⟩ K w := by
  unfold genF at h
  cases hb : fn.body with
  | none => rw [hb] at h; exact h.elim
  | some c =>
    rw [hb] at h
    dsimp only at h
    cases hl : Nat.ble args.length fn.ntmps with
    | false => rw [hl] at h; exact h.elim
    | true =>
      rw [hl] at h
      have hle := Nat.le_of_ble_eq_true hl
      refine calls_of_wp hf hb (Code.wp_mono ?_ (gen_sound (n := fn.ntmps) c ?_ h))
      · rintro e a' w' ⟨s', h1, _, h3⟩
        have out : fin P fn.results.toList s' (fun l => K (packV l)) w' → a'.defers = [] ∧ ∃ v, (results fn a'.tmps).run P w' = .ok v w' ∧ ∃ u, Ending.returned v = .returned u ∧ K u w' := fun h3 => by
          obtain ⟨vs, h4, h5⟩ := fin_sound h1 h3
          refine ⟨h1.defers, packV vs, ?_, _, rfl, h5⟩
          rw [results_rv, Array.mapM_eq_mapM_toList]
          rw [run_of (w1 := w') (a := (⟨vs⟩ : Array Value)) (by rw [Sem.run_map, h4]; rfl)]
          rcases vs with _ | ⟨v, _ | ⟨u, l⟩⟩
          · rfl
          · rfl
          · rfl
        cases e <;> first | exact h3.elim | exact out h3
      · refine ⟨rfl, ?_, fun t v hv => ?_, fun t b hk => by cases hk⟩
        · simp; omega
        · obtain ⟨_, h2⟩ := look_argsE t v args 0 hv
          have hlt : t < args.length := by
            have := (List.getElem?_eq_some_iff.1 h2).1
            omega
          simp only [Nat.sub_zero] at h2
          rw [Array.getElem?_append_left (by simpa using hlt)]
          simpa using h2
end
end Go.Proofs.Ytehpdpdmjflddaa
