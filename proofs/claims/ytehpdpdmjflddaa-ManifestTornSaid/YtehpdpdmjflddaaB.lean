/-
  Bytes and whole numbers as elements; the reference's Copy.
-/
import Derived.Test.YtehpdpdmjflddaaRow
import Derived.Test.YtehpdpdmjflddaaTy
import Derived.Test.YtehpdpdmjflddaaFR01
import Derived.Laws.BytesArg
namespace Go.Proofs.Ytehpdpdmjflddaa
open Go.RowKit

@[reducible] def byteE : El UInt8 := ⟨5, 1, fun b => [u8v b], fun _ => rfl, fun b u h => by simp at h; subst h; rfl, by decide⟩
@[reducible] def intE : El Int := ⟨3, 1, fun b => [.int .i64 b], fun _ => rfl, fun b u h => by simp at h; subst h; rfl, by decide⟩
/-- Bytes in a block of whatever type. -/
@[reducible] def byteT (e : TypeId) : El UInt8 := ⟨e, 1, fun b => [u8v b], fun _ => rfl, fun b u h => by simp at h; subst h; rfl, by decide⟩
theorem flat_bytes (e : UInt8 → List Value) (he : e = fun b => [u8v b]) (bs : List UInt8) : bs.flatMap e = bs.map u8v := by
  subst he
  induction bs with
  | nil => rfl
  | cons b bs ih => rw [List.flatMap_cons, ih]; rfl
theorem flat_ints (ks : List Int) : ks.flatMap intE.enc = ks.map (Value.int .i64) := by
  induction ks with
  | nil => rfl
  | cons b bs ih => rw [List.flatMap_cons, ih]; rfl
def strOf (bs : List UInt8) : ByteArray := ⟨bs.toArray⟩
theorem strOf_inj {a b : List UInt8} (h : strOf a = strOf b) : a = b := by
  have : a.toArray = b.toArray := congrArg ByteArray.data h
  simpa using this
theorem foldl_push : ∀ (bs : List UInt8) (r : ByteArray), (bs.map fun b => (b.toNat : Int)).foldl (fun r n => r.push (UInt8.ofNat n.toNat)) r = ⟨r.data ++ bs.toArray⟩
  | [], r => by cases r; simp
  | b :: bs, r => by
    rw [List.map_cons, List.foldl_cons, foldl_push bs]
    cases r
    simp [ByteArray.push]
theorem convert_rd {P : Program} {w : World} {src dst e : TypeId} (hs : P.underlying src = some (.slice e)) (he : P.underlying e = some (.int .u8)) (hd : P.underlying dst = some .string) {v : Value} {bs : List UInt8} (h : Rd w v bs) :
    (convert src dst v).run P w = .ok (.string (strOf bs)) w := by
  obtain ⟨a, c, rfl, _, _, hc⟩ := h
  rw [run_convert_bytes_string w src dst e a bs.length c hs he hd]
  have hmm : bs.map u8v = (bs.map fun b => (b.toNat : Int)).map (Value.int .u8) := by rw [List.map_map]; rfl
  by_cases h0 : 0 < bs.length
  · obtain ⟨b, off, rfl, h1⟩ := hc h0
    have hl : (loadCells ⟨b, off, none⟩ bs.length).run P w = .ok ((bs.map fun b => (b.toNat : Int)).map (Value.int .u8)).toArray w := by
      rw [← hmm]
      have := run_loadCells_list (P := P) w ⟨b, off, none⟩ (bs.map u8v) (fun j u hj => by
        rw [show (⟨b, off, none⟩ : Addr).add j = ⟨b, off + j, none⟩ by unfold Addr.add; split <;> simp_all]
        exact h1 j u hj)
      simpa using this
    rw [run_bytesToString w _ _ c _ hl, foldl_push]
    simp [strOf]
  · have hb : bs = [] := List.eq_nil_of_length_eq_zero (by omega)
    subst hb
    cases a with
    | none => rfl
    | some ad =>
      rw [run_bytesToString w ad _ c [] (by rfl)]
      rfl
theorem str_eq (b1 b2 : List UInt8) : ((strOf b1).toList == (strOf b2).toList) = decide (b1 = b2) := by
  rw [ByteArray.toList_eq, ByteArray.toList_eq]
  show (b1.toArray.toList == b2.toArray.toList) = _
  by_cases h : b1 = b2
  · simp [h]
  · simp [h]
theorem u8_up (b : UInt8) : IntKind.u8.wrap ((b.toNat : Int) + 1) = ((b + 1).toNat : Int) := by
  rw [IntKind.wrap_u8, UInt8.toNat_add]
  simp
/-- A piece, wherever it stands. -/
class Has (A B : SP) (R : outParam SP) : Prop where
  eq : A = (B ^ R)
instance {B R : SP} : Has (B ^ R) B R := ⟨rfl⟩
instance {B : SP} : Has B B emp := ⟨(star_emp _).symm⟩
instance {A B X R : SP} [h : Has A B R] : Has (X ^ A) B (X ^ R) := ⟨by rw [h.eq]; ac_rfl⟩
theorem t_front {A R : SP} {w0 : World} {X : WP} (B : SP) [h : Has A B R] (k : Tri (B ^ R) w0 X) : Tri A w0 X := Tri.as h.eq k

theorem sat_keep1 {a X R G : SP} {w : World} [h : Has X R G] (hs : Sat w (a ^ X)) : Sat w (a ^ R) := by
  rw [h.eq] at hs
  exact (hs.as (B := (a ^ R) ^ G) (by ac_rfl)).left
theorem sat_keep2 {a b X R G : SP} {w : World} [h : Has X R G] (hs : Sat w (a ^ b ^ X)) : Sat w (a ^ b ^ R) := by
  rw [h.eq] at hs
  exact (hs.as (B := (a ^ b ^ R) ^ G) (by ac_rfl)).left
section
variable {R : SP} {w0 : World} {X : WP}
theorem Spec.ofX {P : Program} {A : SP} {f : FuncId} {args : Array Value} {α : Type} {u : α → Value} {C : α → SP} (h : ∀ w, Sat w A → Calls P f args w fun e w' => ∃ x, Done w (u x) (C x) e w') : Spec P f args A fun v => ex fun x => fact (v = u x) ^ C x := fun w hs =>
  Calls.mono (h w hs) fun _ _ ⟨x, e, h1, h2⟩ => ⟨u x, e, sat_ex.2 ⟨x, sat_fact.2 ⟨rfl, h1⟩⟩, h2⟩
theorem Spec.ofQ {P : Program} {A : SP} {f : FuncId} {args : Array Value} {u : Value} (h : ∀ w, Sat w A → Calls P f args w fun e w' => e = .returned u ∧ w = w') : Spec P f args A fun v => fact (v = u) ^ A := fun w hs =>
  Calls.mono (h w hs) fun _ _ ⟨e, h1⟩ => ⟨u, e, by subst h1; exact ⟨sat_fact.2 ⟨rfl, hs⟩, Flow.refl w⟩⟩
theorem copy_spec {R : SP} {v : Value} {bs : List UInt8} (hb : Rds byteE R v bs) (hl : bs.length ≤ 140737488355328) :
    Spec Try.prog 27 #[v] R fun u => ex fun x : Option Addr × Nat => fact (u = .slice x.1 bs.length x.2) ^ row byteE (.slice x.1 bs.length x.2) bs ^ R := by
  refine Spec.mk fun w0 => t_shape hb fun a c hv _ _ => ?_
  subst hv
  refine Tri.use ?_ (F.hayloftref01_Copy_ok a bs.length c _)
  unfold F.hayloftref01_Copy
  refine t_build0 byteE fun g => ?_
  refine rd ?_
  refine t_append hb.right (by simp; omega) (by simp; omega) fun a' c' => ?_
  simp only [List.length_nil, Nat.zero_add, List.nil_append]
  refine rd ?_
  exact t_post fun w h => sat_ex.2 ⟨(a', c'), sat_fact.2 ⟨rfl, h⟩⟩
/-- Two slices of bytes are compared as strings. -/
theorem same_specS {e1 e2 : TypeId} {v1 v2 : Value} {b1 b2 : List UInt8} (h1 : Rds (byteT e1) R v1 b1) (h2 : Rds (byteT e2) R v2 b2) : Spec Try.prog 25 #[v1, v2] R fun u => fact (u = .bool (decide (b1 = b2))) ^ R := by
  refine Spec.mk fun w0 => t_shape h1 fun a1 c1 hv1 _ _ => t_shape h2 fun a2 c2 hv2 _ _ => ?_
  subst hv1 hv2
  refine Tri.use ?_ (F.hayloftref01_Same_ok _ _ _ _ _ _ _)
  unfold F.hayloftref01_Same
  refine t_semQ (v := .string (strOf b1)) (fun w hw => convert_rd Try.underlying22 Try.underlying5 Try.underlying9 (by have := h1 w hw; rw [flat_bytes _ rfl] at this; exact this)) ?_
  refine rd ?_
  refine t_semQ (v := .string (strOf b2)) (fun w hw => convert_rd Try.underlying22 Try.underlying5 Try.underlying9 (by have := h2 w hw; rw [flat_bytes _ rfl] at this; exact this)) ?_
  refine rd ?_
  rw [str_eq]
  exact t_postV rfl fun _ h => h
/-- Every byte of a slice is raised. -/
theorem t_bump {e : TypeId} {a : Option Addr} {n c : Nat} {xs : List UInt8} (hn : xs.length = n) (k : ∀ xs', xs'.length = n → Tri (row (byteT e) (.slice a n c) xs' ^ R) w0 X) :
    Tri (row (byteT e) (.slice a n c) xs ^ R) w0 (loopW [.int .i64 0] fun K vs => uncons vs fun v r => asI .i64 v fun x => unnil r (br (decide (x < ((n : Nat) : Int)))
      (sem Try.prog (Instr.indexAt 22 (.slice a n c) (.int .i64 x)) fun v => asA v fun p => sem Try.prog (Instr.loadAt 5 (.pointer (some p))) fun v => asI .u8 v fun y => letv (IntKind.u8.wrap (y + 1)) fun z =>
        sem Try.prog (Instr.indexAt 22 (.slice a n c) (.int .i64 x)) fun v => asA v fun p => sem Try.prog (Instr.storeAt 5 (.pointer (some p)) (.int .u8 z)) fun _ => letv (IntKind.i64.wrap (x + 1)) fun x' => K [.int .i64 x']) X)) := by
  refine t_shape rds_row fun _ _ _ h1 h2 => ?_
  unfold maxLen at h2
  refine t_loop (σ := Nat × List UInt8) (fun s => [.int .i64 s.1]) (fun s => fact (s.1 ≤ n ∧ s.2.length = n) ^ row (byteT e) (.slice a n c) s.2 ^ R) (fun s => n - s.1) (0, xs) rfl (fun w h => sat_fact.2 ⟨⟨Nat.zero_le _, hn⟩, h⟩) fun s => ?_
  obtain ⟨j, ys⟩ := s
  refine t_fact fun hk => ?_
  obtain ⟨hj, hxl⟩ := hk
  dsimp only at hj hxl ⊢
  repeat refine rd ?_
  refine t_brD (fun h => ?_) fun h => k ys hxl
  have hlt : j < ys.length := by omega
  refine t_ixld0 j (rdR (byteT e)) rfl (List.getElem?_eq_getElem hlt) rfl ?_
  refine rd ?_
  refine tlE (u8_up _) ?_
  refine t_ixst (byteT e) j (ys[j] + 1) rfl hlt rfl ?_
  refine tl64 (by omega) (by omega) ?_
  exact t_round (j + 1, ys.set j (ys[j] + 1)) rfl (by dsimp only; omega) fun w h => sat_fact.2 ⟨⟨by dsimp only; omega, by simpa using hxl⟩, h⟩
end
end Go.Proofs.Ytehpdpdmjflddaa
