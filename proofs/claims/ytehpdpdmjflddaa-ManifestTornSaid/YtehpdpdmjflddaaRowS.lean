/-
  Arguments that fit the addresses: their lengths are bounded.
-/
import Derived.Test.YtehpdpdmjflddaaRowC
import Derived.Test.YtehpdpdmjflddaaB
import Derived.SizedLaws
namespace Go.Proofs.Ytehpdpdmjflddaa
open Go.ChangeShapes Go.WideShapes Go.ChangeAt Go.RowKit Go.Joins

theorem rds_of_in {R : SP} {v : Value} {bs : List UInt8} (h : RdIn R v bs) : Rds byteE R v bs := fun w hw => by
  rw [flat_bytes _ rfl]
  exact h w hw
theorem rds_of_ints {R : SP} {v : Value} {ks : List Int} (h : RdInts R v ks) : Rds intE R v ks := fun w hw => by
  rw [flat_ints]
  exact h w hw
section
variable {H : Type} {enc : TypeId × Value → H} {P : Program} {w : World}
theorem weightsAll_mem {e : TypeId} : ∀ {l : List (DataW H)} {d : DataW H}, d ∈ l → ∀ n ∈ d.weights P e, n ∈ DataW.weightsAll P e l
  | x :: l, d, h, n, hn => by
    simp only [DataW.weightsAll, List.mem_append]
    rcases List.mem_cons.1 h with rfl | h
    · exact .inl hn
    · exact .inr (weightsAll_mem h n hn)
/-- No part of it is larger than the addresses. -/
def Fits (P : Program) (t : TypeId) (d : DataW H) : Prop := ∀ n ∈ d.weights P t, n ≤ reachBytes
theorem fits_each {ts : List TypeId} {ds : List (DataW H)} (h : (DataW.weightsEach P ts ds).all (· ≤ reachBytes) = true) (j : Nat) {t : TypeId} {d : DataW H} (ht : ts[j]? = some t) (hd : ds[j]? = some d) : Fits P t d := fun n hn => by
  have := List.all_eq_true.1 h _ (DataW.weights_mem_each ht hd n hn)
  simpa using this
theorem fits_len {t e : TypeId} {fuel : Nat} {c : Value} {x : DataW H × List MemPlace} (ht : P.underlying t = some (.slice e)) (h : DataW.trod enc P w 0 (fun _ => true) true fuel t [c] = some x) (hx : Fits P t x.1) {a : Option Addr} {n cap : Nat} (hc : c = .slice a n cap) : n * P.bytesOf e ≤ reachBytes := by
  subst hc
  rcases Go.Deep.open_slice ht h with ⟨hcs, _⟩ | ⟨a, len, cap, m, n, D, Pl, hcs, _, hl, hm, hz, rfl, _⟩
  · simp at hcs
    rw [hcs.2.1]
    simp
  · simp at hcs
    rw [hcs.2.1]
    refine Nat.le_trans (Nat.mul_le_mul_right _ ?_) (hx ((((List.range len).map D).length + ((List.range (m - len)).map fun j => D (len + j)).length) * P.bytesOf e) (by simp only [DataW.weights, ht]; exact List.mem_cons_self ..))
    simp
theorem ints_of_trodW {t e : TypeId} {k : IntKind} {fuel : Nat} {c : Value} {x : DataW H × List MemPlace} {B : Nat} (ht : P.underlying t = some (.slice e)) (he : P.underlying e = some (.int k)) (hc : P.cellsOf e = 1) (hB : P.bytesOf e = B)
    (h : DataW.trod enc P w 0 (fun _ => true) true fuel t [c] = some x) (hx : Fits P t x.1) : ∃ zs : List Int, (∀ z ∈ zs, (Lit.int k z).wf = true) ∧ (∀ w', Sat w' (asIs w) → RdC w' c zs.length (zs.map (.int k))) ∧ zs.length * B ≤ reachBytes := by
  obtain ⟨zs, h1, h2⟩ := ints_of_trod ht he hc h
  obtain ⟨a, cp, h3, _⟩ := h2 w (sat_asIs w)
  exact ⟨zs, h1, h2, hB ▸ fits_len ht h hx h3⟩
theorem bytes_of_trodW {t e : TypeId} {fuel : Nat} {c : Value} {x : DataW H × List MemPlace} (ht : P.underlying t = some (.slice e)) (he : P.underlying e = some (.int .u8)) (hc : P.cellsOf e = 1) (hB : P.bytesOf e = 1)
    (h : DataW.trod enc P w 0 (fun _ => true) true fuel t [c] = some x) (hx : Fits P t x.1) : ∃ bs : List UInt8, RdIn (asIs w) c bs ∧ bs.length ≤ reachBytes := by
  obtain ⟨bs, h1⟩ := bytes_of_trod ht he hc h
  obtain ⟨a, cp, h3, _⟩ := h1 w (sat_asIs w)
  have := fits_len ht h hx h3
  exact ⟨bs, h1, by rw [hB] at this; omega⟩
theorem slice_of_trodW {t e : TypeId} {C : Nat} {fuel : Nat} {c : Value} {x : DataW H × List MemPlace} (ht : P.underlying t = some (.slice e)) (hC : P.cellsOf e = C) (hC0 : 0 < C) 
    (h : DataW.trod enc P w 0 (fun _ => true) true fuel t [c] = some x) {α : Type} (f : α → List Value) (Q : α → Prop) (hf : ∀ a, (f a).length = C)
    (hx : Fits P t x.1)
    (each : ∀ n cs y, DataW.trod enc P w 0 (fun _ => true) true n e cs = some y → Fits P e y.1 → ∃ a : α, cs = f a ∧ Q a) : ∃ l : List α, (∀ a ∈ l, Q a) ∧ l.length ≤ maxLen ∧ ∀ w', Sat w' (asIs w) → RdC w' c l.length (l.flatMap f) := by
  rcases Go.Deep.open_slice ht h with ⟨hcs, _⟩ | ⟨a, len, cap, m, n, D, Pl, hcs, _, hl, hm, hz, rfl, hcell⟩
  · simp at hcs
    subst hcs
    exact ⟨[], by simp, by simp, fun w' _ => ⟨none, 0, rfl, Nat.le_refl _, by unfold maxLen; omega, fun h => absurd h (Nat.lt_irrefl _)⟩⟩
  · simp at hcs hz
    subst hcs
    obtain ⟨l, hll, hlr⟩ := list_of (fun i a' => w.cells? 0 (a.add (i * C)) C = some (f a') ∧ Q a') len (fun i hi => by
      obtain ⟨cs, h1, h2⟩ := hcell i (by omega)
      rw [hC] at h1
      obtain ⟨a', rfl, h3⟩ := each _ _ _ h2 fun q hq => hx q (by
        simp only [DataW.weights, ht]
        exact List.mem_cons_of_mem _ (List.mem_append_left _ (weightsAll_mem (List.mem_map.2 ⟨i, List.mem_range.2 hi, rfl⟩) q hq)))
      exact ⟨a', h1, h3⟩)
    refine ⟨l, fun b hb => ?_, by omega, fun w' hS => ⟨some a, cap, by rw [hll], by omega, hm, fun h0 => ?_⟩⟩
    · obtain ⟨i, hi⟩ := List.getElem?_of_mem hb
      exact (hlr i b hi).2
    · have key : ∀ i b, l[i]? = some b → ∀ j u, (f b)[j]? = some u → w.cell? (a.add (i * C + j)) = some u := by
        intro i b hb j u hu
        obtain ⟨h1, _⟩ := hlr i b hb
        obtain ⟨_, _, h3⟩ := World.cells?_some h1
        have hj : j < C := by
          have := (List.getElem?_eq_some_iff.1 hu).1
          rwa [hf] at this
        have := h3 j hj
        rwa [Go.Addr.add_add, hu] at this
      obtain ⟨b0, hb0⟩ : ∃ b0, l[0]? = some b0 := ⟨_, List.getElem?_eq_getElem h0⟩
      obtain ⟨u0, hu0⟩ : ∃ u0, (f b0)[0]? = some u0 := ⟨_, List.getElem?_eq_getElem (by rw [hf]; exact hC0)⟩
      have h00 := key 0 b0 hb0 0 u0 hu0
      obtain ⟨b, off, spot⟩ := a
      have hspot : spot = none := by simpa [Addr.add] using World.cell?_spot h00
      subst hspot
      refine ⟨b, off, rfl, fun j u hu => hS.oldCell ?_⟩
      obtain ⟨i, b', h1, h2, h3⟩ := getElem?_flatMap_const f C l (fun a _ => hf a) j u hu
      have := key i b' h1 _ u h3
      rwa [add_plain, show off + (i * C + (j - i * C)) = off + j by omega] at this
end
set_option maxRecDepth 100000 in
theorem reqs_of_trodW {H : Type} {enc : TypeId × Value → H} {w : World} {fuel : Nat} {c : Value} {x : DataW H × List MemPlace} (h : DataW.trod enc Try.prog w 0 (fun _ => true) true fuel 37 [c] = some x) (hx : Fits Try.prog 37 x.1) :
    ∃ l : List Req, (∀ a ∈ l, a.In (asIs w) ∧ a.bytes.length ≤ reachBytes ∧ a.keeps.length * 8 ≤ reachBytes) ∧ l.length ≤ maxLen ∧ ∀ w', Sat w' (asIs w) → RdC w' c l.length (l.flatMap Req.cells) := by
  refine slice_of_trodW Try.underlying37 cellsCall (by decide) h Req.cells (fun a => a.In (asIs w) ∧ a.bytes.length ≤ reachBytes ∧ a.keeps.length * 8 ≤ reachBytes) (fun _ => rfl) hx fun n cs y hy hf => ?_
  obtain ⟨y0, y1, y2, y3, m, rfl, hlen, h0, h1, h2, h3⟩ := trod_struct4 Try.underlying40 hy
  rw [cellsCall] at hlen
  match cs, hlen with
  | [c0, c1, c2, c3], _ =>
    obtain ⟨k, hk, _, wk⟩ := DataW.trod_int Try.underlying3 h0
    obtain ⟨a, ha, _, wa⟩ := DataW.trod_int Try.underlying3 h1
    have e2 : (([c0, c1, c2, c3].drop 2).take (Try.prog.cellsOf 22)) = [c2] := by
      rw [show Try.prog.cellsOf 22 = 1 by kernel_rfl]
      rfl
    have e3 : (([c0, c1, c2, c3].drop 3).take (Try.prog.cellsOf 35)) = [c3] := by
      rw [show Try.prog.cellsOf 35 = 1 by kernel_rfl]
      rfl
    have e0 : (([c0, c1, c2, c3].drop 0).take (Try.prog.cellsOf 3)) = [c0] := by
      rw [show Try.prog.cellsOf 3 = 1 by kernel_rfl]
      rfl
    have e1 : (([c0, c1, c2, c3].drop 1).take (Try.prog.cellsOf 3)) = [c1] := by
      rw [show Try.prog.cellsOf 3 = 1 by kernel_rfl]
      rfl
    have hk' := e0.symm.trans hk
    have ha' := e1.symm.trans ha
    simp only [List.cons.injEq, and_true] at hk' ha'
    subst hk' ha'
    obtain ⟨bs, hbs, hbl⟩ := bytes_of_trodW (c := c2) Try.underlying22 Try.underlying5 (by kernel_rfl) (by kernel_rfl) (e2 ▸ h2) fun q hq => hf q (by simp [DataW.weights, DataW.weightsEach, Try.underlying40, hq])
    obtain ⟨ks, _, hks, hkl⟩ := ints_of_trodW (c := c3) Try.underlying35 Try.underlying3 (by kernel_rfl) (B := 8) (by kernel_rfl) (e3 ▸ h3) fun q hq => hf q (by simp [DataW.weights, DataW.weightsEach, Try.underlying40, hq])
    exact ⟨⟨k, a, c2, c3, bs, ks⟩, rfl, ⟨⟨wk, wa⟩, hbs, hks⟩, hbl, hkl⟩
end Go.Proofs.Ytehpdpdmjflddaa
