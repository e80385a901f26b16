/-
  The reading of operations is sound.
-/
import Derived.Test.YtehpdpdmjflddaaGen
namespace Go.Proofs.Ytehpdpdmjflddaa
open Go.RowKit

section
variable {P : Program} {n : Nat} {o : Oper} {s : Sy} {k : Sy → WP} {a : Act} {w : World} {next : Act → World → Prop} {Q : Exit → Act → World → Prop} {ρ : Operand → Value}
theorem val_of {m : Sem Value} {v : Value} {w' : World} (he : execOp ρ o = (do pure (.value (← m)))) (hm : m.run P w = .ok v w') (hk : next (a.put o.dst v) w') :
    o.upon P a next Q ((execOp ρ o).run P w) := by
  rw [he, run_of hm]
  exact hk
theorem skip_of {m : Sem Unit} {w' : World} {u : Unit} (he : execOp ρ o = (do m; pure .skip)) (hm : m.run P w = .ok u w') (hk : next (a.put o.dst undef) w') :
    o.upon P a next Q ((execOp ρ o).run P w) := by
  rw [he, run_of hm]
  exact hk
theorem run_upon {v : Value} {w' : World} (hm : (execOp ρ o).run P w = .ok (.value v) w') (hk : next (a.put o.dst v) w') :
    o.upon P a next Q ((execOp ρ o).run P w) := by
  rw [hm]
  exact hk
theorem skip_upon {w' : World} (hm : (execOp ρ o).run P w = .ok .skip w') (hk : next (a.put o.dst undef) w') :
    o.upon P a next Q ((execOp ρ o).run P w) := by
  rw [hm]
  exact hk
theorem eqGuard_int (op : BinOp) (t : TypeId) (x y : Operand) (i : IntKind) (z : Int) (u : Value) : (eqGuard op t x y (.int i z) u).run P w = .ok () w := by
  cases op <;> rfl
theorem eqGuard_bool (op : BinOp) (t : TypeId) (x y : Operand) (z : Bool) (u : Value) : (eqGuard op t x y (.bool z) u).run P w = .ok () w := by
  cases op <;> rfl
theorem eqGuard_str (op : BinOp) (t : TypeId) (x y : Operand) (z : ByteArray) (u : Value) : (eqGuard op t x y (.string z) u).run P w = .ok () w := by
  cases op <;> rfl
theorem genBin_sound {op : BinOp} {t : TypeId} {x y : Operand} {v u : Value} {k : Value → WP} (h : genBin P op t x y v u k w) :
    ∃ r w', (do eqGuard op t x y v u; binOp op t v u : Sem Value).run P w = .ok r w' ∧ k r w' := by
  have pure_case : ∀ (hg : (eqGuard op t x y v u).run P w = .ok () w), (match pureRun P (binOp op t v u) with | some r => k r | none => stop) w →
      ∃ r w', (do eqGuard op t x y v u; binOp op t v u : Sem Value).run P w = .ok r w' ∧ k r w' := fun hg h => by
    cases hp : pureRun P (binOp op t v u) with
    | none => rw [hp] at h; exact h.elim
    | some r =>
      rw [hp] at h
      exact ⟨r, w, by rw [run_of hg]; exact pureRun_run hp w, h⟩
  have sem_case : ∀ (hg : (eqGuard op t x y v u).run P w = .ok () w), (sem P (binOp op t v u) fun r => asT P t r k) w →
      ∃ r w', (do eqGuard op t x y v u; binOp op t v u : Sem Value).run P w = .ok r w' ∧ k r w' := fun hg h => by
    obtain ⟨r, w', h1, h2⟩ := h
    exact ⟨r, w', by rw [run_of hg]; exact h1, asT_out h2⟩
  have rest_case : (match isNil y with
    | true => match op, nilCmp P t v u with
      | .eql, some b => k (.bool b)
      | .neq, some b => k (.bool (!b))
      | _, _ => stop
    | false => sem P (do eqGuard op t x y v u; binOp op t v u) fun r => asB r fun b => k (.bool b)) w →
      ∃ r w', (do eqGuard op t x y v u; binOp op t v u : Sem Value).run P w = .ok r w' ∧ k r w' := fun h => by
    cases hn : isNil y with
    | false =>
      rw [hn] at h
      obtain ⟨r, w', h1, b, rfl, h2⟩ := h
      exact ⟨_, w', h1, h2⟩
    | true =>
      rw [hn] at h
      dsimp only at h
      cases hc : nilCmp P t v u with
      | none => rw [hc] at h; cases op <;> exact h.elim
      | some b =>
        rw [hc] at h
        have he := nilCmp_run hc w
        have hg : (eqGuard op t x y v u).run P w = .ok () w := by
          unfold nilCmp at hc
          split at hc <;> first | (cases hc; done) | (cases op <;> rfl)
        have hb : ∀ neg : Bool, op = (if neg then .neq else .eql) → (binOp op t v u).run P w = .ok (.bool (if neg then !b else b)) w := fun neg ho => by
          have e1 : binOp op t v u = (if neg then (do pure (.bool (!(← Op.equal t v u)))) else (do pure (.bool (← Op.equal t v u)))) := by
            unfold nilCmp at hc
            subst ho
            split at hc <;> first | (cases hc; done) | (cases neg <;> rfl)
          rw [e1]
          cases neg
          · simp only [Bool.false_eq_true, if_false]; rw [run_of he]; rfl
          · simp only [if_true]; rw [run_of he]; rfl
        cases op <;> first | exact h.elim | skip
        · exact ⟨_, w, by rw [run_of hg]; exact hb false rfl, h⟩
        · exact ⟨_, w, by rw [run_of hg]; exact hb true rfl, h⟩
  unfold genBin at h
  cases v
  case int i z =>
    dsimp only at h
    cases hr : riskyBin op with
    | true => rw [hr] at h; exact sem_case (eqGuard_int ..) h
    | false => rw [hr] at h; exact pure_case (eqGuard_int ..) h
  case bool z => exact pure_case (eqGuard_bool ..) h
  case string z =>
    dsimp only at h
    cases op
    case add => exact sem_case (eqGuard_str ..) h
    all_goals exact pure_case (eqGuard_str ..) h
  all_goals exact rest_case h
theorem genBuiltin_sound {b : Builtin} {ats : Array TypeId} {t : TypeId} {cs : Array Bool} {args : Array Value} {k : Value → WP} (h : genBuiltin P b ats t args k w) :
    ∃ r w', (builtin b ats t cs args).run P w = .ok (.value r) w' ∧ k r w' := by
  have one : ∀ (m : Sem Value), builtin b ats t cs args = (do pure (.value (← m))) → (∃ r w', m.run P w = .ok r w' ∧ k r w') → ∃ r w', (builtin b ats t cs args).run P w = .ok (.value r) w' ∧ k r w' := fun m e ⟨r, w', h1, h2⟩ =>
    ⟨r, w', by rw [e, run_of h1]; rfl, h2⟩
  have pu : ∀ (m : Sem Value), (match pureRun P m with | some r => k r | none => stop) w → ∃ r w', m.run P w = .ok r w' ∧ k r w' := fun m h => by
    cases hp : pureRun P m with
    | none => rw [hp] at h; exact h.elim
    | some r => rw [hp] at h; exact ⟨r, w, pureRun_run hp w, h⟩
  unfold genBuiltin at h
  cases b <;> first | exact h.elim | skip
  case append => exact one _ rfl (by obtain ⟨r, w', h1, h2⟩ := h; exact ⟨r, w', h1, asT_out h2⟩)
  case copy => exact one _ rfl (by obtain ⟨r, w', h1, x, rfl, h2⟩ := h; exact ⟨_, w', h1, h2⟩)
  case cap => exact one _ rfl (pu _ h)
  case min => exact one _ rfl (pu _ h)
  case max => exact one _ rfl (pu _ h)
  case clear => exact one _ rfl h
  case delete => exact one _ rfl h
  case len =>
    dsimp only at h
    cases hl : lenPureT P ats with
    | true => rw [hl] at h; exact one _ rfl (pu _ h)
    | false => rw [hl] at h; exact one _ rfl (by obtain ⟨r, w', h1, x, rfl, h2⟩ := h; exact ⟨_, w', h1, h2⟩)
theorem callFunc_run {g : FuncId} {args : Array Value} (h : callable P g = true) : (callFunc g args).run P w = .ok (.enter g args) w := by
  unfold callable at h
  cases hf : P.funcs[g]? with
  | none => rw [hf] at h; cases h
  | some fn =>
    rw [hf] at h
    simp only [Bool.and_eq_true, Bool.not_eq_true'] at h
    unfold callFunc
    have hb : fn.body.isNone = false := by cases hh : fn.body <;> simp_all
    have hp : (program).run P w = .ok P w := rfl
    rw [run_of hp, hf]
    simp [h.1, hb]
theorem upon_call {g : FuncId} {args : Array Value} {kk : Value → WP} {w0 : World} (hr : (execOp ρ o).run P w0 = .ok (.enter g args) w) (h : callW P g args kk w) (hk : ∀ v w', kk v w' → next (a.put o.dst v) w') :
    o.upon P a next Q ((execOp ρ o).run P w0) := by
  rw [hr]
  show Calls P g args w _
  refine Calls.mono h fun e w' => ?_
  rintro ⟨v, rfl, hv⟩
  exact hk v w' hv
theorem genRun_sound (hr : Rep n s a) (h : genRun P n o s k w) (hk : ∀ s' v w', Rep n s' (a.put o.dst v) → k s' w' → next (a.put o.dst v) w') : o.wp P a w next Q := by
  unfold genRun at h
  cases hkn : known s.env o.op.operands.toList with
  | false => rw [hkn] at h; exact h.elim
  | true =>
  rw [hkn] at h
  dsimp only at h
  have hev : ∀ x ∈ o.op.operands, a.eval x = rho s.env x := fun x hx => hr.eval (known_iff hkn x (by simpa using hx))
  have hput : ∀ v, Rep n (s.put n o.dst v) (a.put o.dst v) := fun v => hr.put o.dst v
  have hpure : pureOp P o s.env (fun v => k (s.put n o.dst v)) w → o.upon P a next Q ((execOp (rho s.env) o).run P w) := fun h => by
    unfold pureOp at h
    cases hp : pureRun P (execOp (rho s.env) o) with
    | none => rw [hp] at h; exact h.elim
    | some r =>
      rw [hp] at h
      have := pureRun_run hp w
      cases r <;> first | exact h.elim | skip
      · exact run_upon this (hk _ _ _ (hput _) h)
      · exact skip_upon this (hk _ _ _ (hput _) h)
  unfold Oper.wp
  cases ho : o.op <;> rw [ho] at h <;> dsimp only at h <;> first | exact h.elim | skip
  all_goals rw [execOp_congr o (by intro cs b e; rw [ho] at e; cases e) hev]
  case unOp op t x =>
    have hx : a.eval x = rho s.env x := hev x (by rw [ho]; simp [Op.operands])
    cases hb : kb s x with
    | none =>
      rw [hb] at h
      cases op <;> exact hpure h
    | some b =>
      rw [hb] at h
      cases op
      case not =>
        refine run_upon (v := .bool (!b)) ?_ (hk _ _ _ (hr.putB o.dst _ _ fun c hc => by cases hc; rfl) h)
        simp only [execOp, ho]
        rw [← hx, hr.bool hb]
        rfl
      all_goals exact hpure h
  case sliceToArrayPointer => exact hpure h
  case makeInterface => exact hpure h
  case makeFunc => exact hpure h
  case fieldAddr => exact hpure h
  case extract => exact hpure h
  case move x =>
    have hx : a.eval x = rho s.env x := hev x (by rw [ho]; simp [Op.operands])
    exact run_upon (by simp only [execOp, ho]; rfl) (hk _ _ _ (hr.putB o.dst _ _ fun c hc => by rw [← hx]; exact hr.bool hc) h)
  case assign x =>
    have hx : a.eval x = rho s.env x := hev x (by rw [ho]; simp [Op.operands])
    exact run_upon (by simp only [execOp, ho]; rfl) (hk _ _ _ (hr.putB o.dst _ _ fun c hc => by rw [← hx]; exact hr.bool hc) h)
  case load t x =>
    obtain ⟨v, w', h1, h2⟩ := h
    exact val_of (by simp only [execOp, ho]) h1 (hk _ _ _ (hput _) (asT_out h2))
  case store t x y =>
    obtain ⟨v, w', h1, h2⟩ := h
    exact skip_of (by simp only [execOp, ho]) h1 (hk _ _ _ (hput _) h2)
  case alloc t =>
    obtain ⟨v, w', h1, x, rfl, h2⟩ := h
    exact val_of (by simp only [execOp, ho]) h1 (hk _ _ _ (hput _) h2)
  case box t x =>
    obtain ⟨v, w', h1, x, rfl, h2⟩ := h
    exact val_of (by simp only [execOp, ho]) h1 (hk _ _ _ (hput _) h2)
  case indexAddr t x i =>
    obtain ⟨v, w', h1, x, rfl, h2⟩ := h
    exact val_of (by simp only [execOp, ho]) h1 (hk _ _ _ (hput _) h2)
  case nilCheck x =>
    obtain ⟨p, hp, h2⟩ := h
    exact run_upon (by simp only [execOp, ho, hp]; rfl) (hk _ _ _ (hput _) h2)
  case index t x i =>
    obtain ⟨v, w', h1, h2⟩ := h
    exact val_of (by simp only [execOp, ho]) h1 (hk _ _ _ (hput _) (asT_out h2))
  case slice t x lo hi mx =>
    obtain ⟨v, w', h1, h2⟩ := h
    exact val_of (by simp only [execOp, ho]) h1 (hk _ _ _ (hput _) (asT_out h2))
  case makeSlice t l c =>
    obtain ⟨v, w', h1, h2⟩ := h
    exact val_of (by simp only [execOp, ho]) h1 (hk _ _ _ (hput _) (asT_out h2))
  case buildSlice t m ps =>
    obtain ⟨v, w', h1, h2⟩ := h
    exact val_of (by simp only [execOp, ho]) h1 (hk _ _ _ (hput _) (asT_out h2))
  case makeMap t r =>
    obtain ⟨v, w', h1, x, rfl, h2⟩ := h
    exact val_of (by simp only [execOp, ho]) h1 (hk _ _ _ (hput _) h2)
  case lookup t x i c =>
    obtain ⟨v, w', h1, h2⟩ := h
    exact val_of (by simp only [execOp, ho]) h1 (hk _ _ _ (hput _) (asT_out h2))
  case mapUpdate t m i x =>
    obtain ⟨v, w', h1, h2⟩ := h
    exact skip_of (by simp only [execOp, ho]) h1 (hk _ _ _ (hput _) h2)
  case insert t m i x =>
    obtain ⟨v, w', h1, h2⟩ := h
    exact skip_of (by simp only [execOp, ho]) h1 (hk _ _ _ (hput _) h2)
  case mapEntry t m i =>
    obtain ⟨v, w', h1, h2⟩ := h
    exact val_of (by simp only [execOp, ho]) h1 (hk _ _ _ (hput _) h2)
  case entryStore t m i x =>
    obtain ⟨v, w', h1, h2⟩ := h
    exact skip_of (by simp only [execOp, ho]) h1 (hk _ _ _ (hput _) h2)
  case range t x =>
    obtain ⟨v, w', h1, x, rfl, h2⟩ := h
    exact val_of (by simp only [execOp, ho]) h1 (hk _ _ _ (hput _) h2)
  case next x b =>
    obtain ⟨v, w', h1, h2⟩ := h
    exact val_of (by simp only [execOp, ho]) h1 (hk _ _ _ (hput _) h2)
  case typeAssert x t u c =>
    obtain ⟨v, w', h1, h2⟩ := h
    exact val_of (by simp only [execOp, ho]) h1 (hk _ _ _ (hput _) (asT_out h2))
  case field t x f =>
    cases hs : small P t with
    | true => rw [hs] at h; exact hpure h
    | false =>
      rw [hs] at h
      obtain ⟨v, w', h1, h2⟩ := h
      exact val_of (by simp only [execOp, ho]) h1 (hk _ _ _ (hput _) (asT_out h2))
  case build t ps =>
    cases hs : small P t with
    | true => rw [hs] at h; exact hpure h
    | false =>
      rw [hs] at h
      obtain ⟨v, w', h1, h2⟩ := h
      exact val_of (by simp only [execOp, ho]) h1 (hk _ _ _ (hput _) (asT_out h2))
  case convert t u x =>
    cases hs : intConv P t u with
    | true => rw [hs] at h; exact hpure h
    | false =>
      rw [hs] at h
      obtain ⟨v, w', h1, h2⟩ := h
      exact val_of (by simp only [execOp, ho]) h1 (hk _ _ _ (hput _) (asT_out h2))
  case binOp op t x y u =>
    obtain ⟨v, w', h1, h2⟩ := genBin_sound h
    exact val_of (by simp only [execOp, ho]) h1 (hk _ _ _ (hput _) h2)
  case pick c x y =>
    have hc : a.eval c = rho s.env c := hev c (by rw [ho]; simp [Op.operands])
    have hx : a.eval x = rho s.env x := hev x (by rw [ho]; simp [Op.operands])
    have hy : a.eval y = rho s.env y := hev y (by rw [ho]; simp [Op.operands])
    have go : ∀ (b : Bool) (s' : Sy) (u : Value), rho s.env c = .bool b → Rep n s' a → a.eval (if b then x else y) = u → k (s'.putB n o.dst u (kb s' (if b then x else y))) w → o.upon P a next Q ((execOp (rho s.env) o).run P w) := fun b s' u hb hs' hu h => by
      refine run_upon ?_ (hk _ _ _ (hs'.putB _ _ _ fun c hc => by rw [← hu]; exact hs'.bool hc) h)
      simp only [execOp, ho, hb]
      subst hu
      cases b
      · exact congrArg (fun v => Result.ok (Next.value v) w) hy.symm
      · exact congrArg (fun v => Result.ok (Next.value v) w) hx.symm
    cases c
    case tmp t =>
      have htm : ∀ b, a.tmps[t]? = some (.bool b) → rho s.env (.tmp t) = .bool b := fun b hb => by
        rw [← hc]
        simp [Act.eval, Array.getD_eq_getD_getElem?, hb]
      have hat : ∀ b, rho s.env (.tmp t) = .bool b → a.tmps[t]? = some (.bool b) := fun b hb => by
        have hx := known_iff hkn (.tmp t) (by rw [ho]; simp [Op.operands])
        cases he : look s.env t with
        | none => simp [ev, he] at hx
        | some v =>
          have h1 := hr.env t v he
          have : rho s.env (.tmp t) = v := by simp [rho, ev, he]
          rw [this] at hb
          rw [h1, hb]
      have hkw : ∀ (b : Bool) (z : Operand), (ev s.env z).isSome = true → (ev (s.know t b).env z).isSome = true := fun b z hz => by
        cases z with
        | tmp u =>
          show (look ((t, Value.bool b) :: s.env) u).isSome = true
          rw [look_cons]
          split
          · rfl
          · exact hz
        | _ => rfl
      have hsome : ∀ z ∈ o.op.operands, (ev s.env z).isSome = true := fun z hz => known_iff hkn z (by simpa using hz)
      dsimp only at h
      cases hl : look s.kn t with
      | some b =>
        rw [hl] at h
        have hb := hr.kn t b hl
        cases b
        · exact go false s _ (htm _ hb) hr hy h
        · exact go true s _ (htm _ hb) hr hx h
      | none =>
        rw [hl] at h
        dsimp only at h
        cases hv : rho s.env (.tmp t) <;> rw [hv] at h <;> first | exact h.elim | skip
        rename_i b
        obtain ⟨h1, h2⟩ := h
        cases b
        · exact go false (s.know t false) _ hv (hr.know (hat _ hv)) ((hr.know (hat _ hv)).eval (hkw _ _ (hsome y (by rw [ho]; simp [Op.operands])))) (h2 rfl)
        · exact go true (s.know t true) _ hv (hr.know (hat _ hv)) ((hr.know (hat _ hv)).eval (hkw _ _ (hsome x (by rw [ho]; simp [Op.operands])))) (h1 rfl)
    all_goals exact h.elim
  case call c =>
    cases hcal : c.callee with
    | builtin b =>
      rw [hcal] at h
      obtain ⟨v, w', h1, h2⟩ := genBuiltin_sound (cs := c.args.map fun | .const _ => true | _ => false) h
      refine run_upon ?_ (hk _ _ _ (hput _) h2)
      simp only [execOp, ho, resolve, hcal]
      exact h1
    | invoke r m => rw [hcal] at h; exact h.elim
    | value f =>
      rw [hcal] at h
      have dyn : (dynW P (rho s.env f) (c.args.map (rho s.env)) fun v => asT P o.type v fun v' => k (s.put n o.dst v')) w → o.upon P a next Q ((execOp (rho s.env) o).run P w) := fun h => by
        obtain ⟨g, first, captured, hv, hcb, h⟩ := h
        refine upon_call (w := w) (g := g) (args := first ++ c.args.map (rho s.env) ++ captured) ?_ h fun v w' hv => hk _ _ _ (hput _) (asT_out hv)
        simp only [execOp, ho, resolve, hcal, hv, Deferred.ofValue]
        exact callFunc_run hcb
      cases f
      case func g =>
        dsimp only at h
        cases hcb : callable P g with
        | false => rw [hcb] at h; exact h.elim
        | true =>
          rw [hcb] at h
          refine upon_call (w := w) (g := g) (args := c.args.map (rho s.env)) ?_ h fun v w' hv => hk _ _ _ (hput _) (asT_out hv)
          simp only [execOp, ho, resolve, hcal, rho, ev, Option.getD_some, Deferred.ofValue]
          have := callFunc_run (w := w) (args := c.args.map (rho s.env)) hcb
          simpa [invoke, rho] using this
      all_goals exact dyn h
theorem genOp_cases {ops : Array Oper} {G : Prop} (hr : Rep n s a) (h : genOp P n ops o s k w)
    (run : ∀ s', Rep n s' a → Region.wanted o (yielded ops a.tmps) = true → genRun P n o s' k w → G)
    (skip : ∀ s', Rep n s' a → Region.wanted o (yielded ops a.tmps) = false → k (s'.put n o.dst undef) w → G) : G := by
  unfold genOp at h
  cases hg : o.guard with
  | none =>
    rw [hg] at h
    exact run s hr (by simp [Region.wanted, hg]) h
  | some jw =>
    obtain ⟨j, want⟩ := jw
    rw [hg] at h
    dsimp only at h
    cases hd : (ops[j]?).bind (·.dst) with
    | none => rw [hd] at h; exact h.elim
    | some t =>
      rw [hd] at h
      dsimp only at h
      have hwb : ∀ b, a.tmps[t]? = some (.bool b) → Region.wanted o (yielded ops a.tmps) = (b == want) := fun b hb => by
        simp only [Region.wanted, hg, yielded, hd, Option.bind_some, hb]
        cases b <;> cases want <;> rfl
      cases hkn : look s.kn t with
      | some b =>
        rw [hkn] at h
        have hb := hwb b (hr.kn t b hkn)
        cases b <;> cases want <;> dsimp only at h
        · exact run s hr hb h
        · exact skip s hr hb h
        · exact skip s hr hb h
        · exact run s hr hb h
      | none =>
        rw [hkn] at h
        dsimp only at h
        cases he : look s.env t with
        | none => rw [he] at h; exact h.elim
        | some v =>
          rw [he] at h
          have hv := hr.env t v he
          cases v <;> dsimp only at h <;> first | exact h.elim | skip
          case bool c =>
            cases want <;> obtain ⟨h1, h2⟩ := h
            · cases c
              · exact run _ (hr.know hv) (hwb _ hv) (h2 rfl)
              · exact skip _ (hr.know hv) (hwb _ hv) (h1 rfl)
            · cases c
              · exact skip _ (hr.know hv) (hwb _ hv) (h2 rfl)
              · exact run _ (hr.know hv) (hwb _ hv) (h1 rfl)
          case tuple vs =>
            refine skip s hr ?_ h
            simp only [Region.wanted, hg, yielded, hd, Option.bind_some, hv]
            cases want <;> rfl
theorem genOp_sound {ops : Array Oper} {l : List Oper} (hr : Rep n s a) (h : genOp P n ops o s k w) (hk : ∀ s' v w', Rep n s' (a.put o.dst v) → k s' w' → wpList P ops Q l (a.put o.dst v) w') : wpList P ops Q (o :: l) a w := by
  refine genOp_cases hr h (fun s' hs hw h => ?_) (fun s' hs hw h => ?_)
  · unfold wpList
    rw [if_pos hw]
    exact .inl (genRun_sound hs h hk)
  · unfold wpList
    rw [if_neg (by rw [hw]; exact Bool.false_ne_true)]
    exact hk _ _ _ (hs.put _ _) h
theorem genOps_sound {ops : Array Oper} : ∀ (l : List Oper) {s : Sy} {k : Sy → WP} {a : Act} {w : World}, Rep n s a → genOps P n ops l s k w →
    (∀ s' a' w', Rep n s' a' → Keep (l.filterMap (·.dst)) a a' → k s' w' → Q .normal a' w') → wpList P ops Q l a w
  | [], s, k, a, w, hr, h, hk => hk s a w hr (Keep.refl _ _) h
  | o :: l, s, k, a, w, hr, h, hk => genOp_sound hr h fun s' v w' hs' h' => genOps_sound l hs' h' fun s2 a2 w2 hs2 k2 h2 => by
    refine hk s2 a2 w2 hs2 ?_ h2
    have k1 : Keep ((o :: l).filterMap (·.dst)) a (a.put o.dst v) := fun t ht => by
      unfold Act.put
      split
      · rename_i d hd
        refine Array.getElem?_setIfInBounds_ne ?_
        rintro rfl
        exact ht (List.mem_filterMap.2 ⟨o, List.mem_cons_self .., hd⟩)
      · rfl
    exact k1.trans (k2.mono fun t ht => by
      obtain ⟨x, hx, he⟩ := List.mem_filterMap.1 ht
      exact List.mem_filterMap.2 ⟨x, List.mem_cons_of_mem _ hx, he⟩)
end
end Go.Proofs.Ytehpdpdmjflddaa
