/-
  hayloftref01.Same: two slices of bytes are compared as strings.
-/
import Derived.Test.YtehpdpdmjflddaaNil
import Derived.Laws.BytesArg
namespace Go.Proofs.Ytehpdpdmjflddaa
open Go.RowKit

def strOf (bs : List UInt8) : ByteArray := ⟨bs.toArray⟩
theorem strOf_inj {a b : List UInt8} (h : strOf a = strOf b) : a = b := by
  have : a.toArray = b.toArray := congrArg ByteArray.data h
  simpa using this
theorem foldl_push : ∀ (bs : List UInt8) (r : ByteArray), (bs.map fun b => (b.toNat : Int)).foldl (fun r n => r.push (UInt8.ofNat n.toNat)) r = ⟨r.data ++ bs.toArray⟩
  | [], r => by cases r; simp
  | b :: bs, r => by
    rw [List.map_cons, List.foldl_cons, foldl_push bs]
    cases r
    simp [ByteArray.push]
theorem convert_rd {P : Program} {w : World} {src dst e : TypeId} (hs : P.underlying src = some (.slice e)) (he : P.underlying e = some (.int .u8)) (hd : P.underlying dst = some .string) {v : Value} {bs : List UInt8} (h : Rd w v bs) :
    (convert src dst v).run P w = .ok (.string (strOf bs)) w := by
  obtain ⟨a, c, rfl, _, _, hc⟩ := h
  rw [run_convert_bytes_string w src dst e a bs.length c hs he hd]
  have hmm : bs.map u8v = (bs.map fun b => (b.toNat : Int)).map (Value.int .u8) := by rw [List.map_map]; rfl
  by_cases h0 : 0 < bs.length
  · obtain ⟨b, off, rfl, h1⟩ := hc h0
    have hl : (loadCells ⟨b, off, none⟩ bs.length).run P w = .ok ((bs.map fun b => (b.toNat : Int)).map (Value.int .u8)).toArray w := by
      rw [← hmm]
      have := run_loadCells_list (P := P) w ⟨b, off, none⟩ (bs.map u8v) (fun j u hj => by
        rw [show (⟨b, off, none⟩ : Addr).add j = ⟨b, off + j, none⟩ by unfold Addr.add; split <;> simp_all]
        exact h1 j u hj)
      simpa using this
    rw [run_bytesToString w _ _ c _ hl, foldl_push]
    simp [strOf]
  · have hb : bs = [] := List.eq_nil_of_length_eq_zero (by omega)
    subst hb
    cases a with
    | none => rfl
    | some ad =>
      rw [run_bytesToString w ad _ c [] (by rfl)]
      rfl
theorem same_spec (v1 v2 : Value) (b1 b2 : List UInt8) (w : World) (h1 : Rd w v1 b1) (h2 : Rd w v2 b2) :
    Calls Try.prog 25 #[v1, v2] w (Same w (.bool (decide (b1 = b2)))) := by
  have hc1 := convert_rd (P := Try.prog) Try.underlying22 Try.underlying5 Try.underlying9 h1
  have hc2 := convert_rd (P := Try.prog) Try.underlying22 Try.underlying5 Try.underlying9 h2
  clear h1 h2
  go_enter Try.func25, Try.ntmps25
  go_wp2
  go_ret
  refine ⟨?_, rfl⟩
  have e1 : ((strOf b1).toList == (strOf b2).toList) = decide (b1 = b2) := by
    rw [ByteArray.toList_eq, ByteArray.toList_eq]
    show (b1.toArray.toList == b2.toArray.toList) = _
    by_cases h : b1 = b2
    · simp [h]
    · simp [h]
  rw [← e1]
  rfl
end Go.Proofs.Ytehpdpdmjflddaa
