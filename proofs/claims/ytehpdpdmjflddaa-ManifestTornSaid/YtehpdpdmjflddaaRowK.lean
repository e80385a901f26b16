/-
  What the arguments read as, for the walks.
-/
import Derived.Test.YtehpdpdmjflddaaRw
import Derived.WalkKit
import Derived.ProofKit
import Derived.OpenShut
import Derived.ShutString
import Derived.ChangeOld
import Derived.Below
import Derived.Lib.SmallJoins
namespace Go.Proofs.Ytehpdpdmjflddaa
open Go.ChangeShapes Go.WideShapes Go.ChangeAt Go.RowKit Go.Joins

def RdInts (R : SP) (v : Value) (ks : List Int) : Prop := ∀ w, Sat w R → RdC w v ks.length (ks.map (Value.int .i64))
/-- What was there is there still. -/
theorem Sat.oldCell {w w0 : World} (h : Sat w (asIs w0)) {a : Addr} {v : Value} (hc : w0.cell? a = some v) : w.cell? a = some v := by
  have hb : a.block < w0.heap.size := by
    apply Classical.byContradiction
    intro hn
    have : w0.heap[a.block]? = none := by simp; omega
    simp [World.cell?, this] at hc
  rw [← hc]
  simp [World.cell?, h.old _ hb]
section
variable {H : Type} {enc : TypeId × Value → H} {P : Program} {w : World}
theorem ints_of_trod {t e : TypeId} {k : IntKind} {fuel : Nat} {c : Value} {x : DataW H × List MemPlace} (ht : P.underlying t = some (.slice e)) (he : P.underlying e = some (.int k)) (hc : P.cellsOf e = 1)
    (h : DataW.trod enc P w 0 (fun _ => true) true fuel t [c] = some x) : ∃ zs : List Int, (∀ z ∈ zs, (Lit.int k z).wf = true) ∧ ∀ w', Sat w' (asIs w) → RdC w' c zs.length (zs.map (.int k)) := by
  rcases open_ints ht he hc h with ⟨hcs, _⟩ | ⟨a, len, cap, zs, hcs, _, hl, hm, hz, _, hcell, hw⟩
  · simp at hcs
    subst hcs
    exact ⟨[], by simp, fun w' _ => ⟨none, 0, rfl, Nat.le_refl _, by unfold maxLen; omega, fun h => absurd h (Nat.lt_irrefl _)⟩⟩
  · simp at hcs hz
    subst hcs
    have hlen : (zs.take len).length = len := by simp; omega
    refine ⟨zs.take len, fun z hz => hw z (List.mem_of_mem_take hz), fun w' hS => ⟨some a, cap, by rw [hlen], by omega, hm, fun h0 => ?_⟩⟩
    obtain ⟨b, off, rfl, hc2⟩ := ints_at hcell (by omega)
    refine ⟨b, off, rfl, fun j u hu => hS.oldCell ?_⟩
    have hj : j < len := by
      have := (List.getElem?_eq_some_iff.1 hu).1
      simp at this
      omega
    have := hc2 j (by omega)
    rw [this]
    rw [List.getElem?_map, List.getElem?_take, if_pos hj, List.getElem?_eq_getElem (by omega)] at hu
    simp at hu
    rw [← hu, List.getD_eq_getElem?_getD, List.getElem?_eq_getElem (by omega)]
    rfl
theorem bytes_of_trod {t e : TypeId} {fuel : Nat} {c : Value} {x : DataW H × List MemPlace} (ht : P.underlying t = some (.slice e)) (he : P.underlying e = some (.int .u8)) (hc : P.cellsOf e = 1)
    (h : DataW.trod enc P w 0 (fun _ => true) true fuel t [c] = some x) : ∃ bs : List UInt8, RdIn (asIs w) c bs := by
  obtain ⟨zs, hw, hr⟩ := ints_of_trod ht he hc h
  have e1 : zs.map (Value.int .u8) = (zs.map fun z => UInt8.ofNat z.toNat).map u8v := by
    rw [List.map_map]
    refine List.map_congr_left fun z hz => ?_
    obtain ⟨h1, h2⟩ := bounds_u8 (hw z hz)
    have : (z.toNat % 256 : Nat) = z.toNat := Nat.mod_eq_of_lt (by omega)
    simp [u8v, this, Int.toNat_of_nonneg h1]
  refine ⟨zs.map fun z => UInt8.ofNat z.toNat, fun w' hS => ?_⟩
  have := hr w' hS
  rw [e1] at this
  simpa [Rd] using this
end
end Go.Proofs.Ytehpdpdmjflddaa
