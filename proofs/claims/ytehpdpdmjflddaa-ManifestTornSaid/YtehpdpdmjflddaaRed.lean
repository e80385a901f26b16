/-
  The steps of a reading that go by themselves: found by instances. Plain laws over any program.
-/
import Derived.Test.YtehpdpdmjflddaaTri
namespace Go.Proofs.Ytehpdpdmjflddaa
open Go.RowKit

/-- One step. -/
class Red (A : SP) (X : WP) (A' : outParam SP) (X' : outParam WP) : Prop where
  red : ∀ w0, Tri A' w0 X' → Tri A w0 X
/-- One step that brings something new. -/
class RedN (A : SP) (X : WP) (α : outParam Type) (A' : outParam (α → SP)) (X' : outParam (α → WP)) : Prop where
  red : ∀ w0, (∀ a, Tri (A' a) w0 (X' a)) → Tri A w0 X
section
variable {P : Program} {A : SP} {w0 : World} {X Y : WP}
theorem rd {X' : WP} {A' : SP} [h : Red A X A' X'] (k : Tri A' w0 X') : Tri A w0 X := h.red w0 k
theorem rn {α : Type} {X' : α → WP} {A' : α → SP} [h : RedN A X α A' X'] (k : ∀ a, Tri (A' a) w0 (X' a)) : Tri A w0 X := h.red w0 k
instance {k : IntKind} {x : Int} {f : Int → WP} : Red A (asI k (.int k x) f) A (f x) := ⟨fun _ => t_asI⟩
instance {x : UInt8} {f : Int → WP} : Red A (asI .u8 (u8v x) f) A (f x.toNat) := ⟨fun _ => t_asI⟩
instance {x : Bool} {f : Bool → WP} : Red A (asB (.bool x) f) A (f x) := ⟨fun _ => t_asB⟩
instance {x : ByteArray} {f : ByteArray → WP} : Red A (asStr (.string x) f) A (f x) := ⟨fun _ => t_asStr⟩
instance {x : Option Addr} {f : Option Addr → WP} : Red A (asP (.pointer x) f) A (f x) := ⟨fun _ => t_asP⟩
instance {x : Addr} {f : Addr → WP} : Red A (asA (.pointer (some x)) f) A (f x) := ⟨fun _ => t_asA⟩
instance {a : Option Addr} {n c : Nat} {f : Option Addr → Nat → Nat → WP} : Red A (asS (.slice a n c) f) A (f a n c) := ⟨fun _ => t_asS⟩
instance {x : Option Nat} {f : Option Nat → WP} : Red A (asM (.map x) f) A (f x) := ⟨fun _ => t_asM⟩
instance {cs : List Value} {f : List Value → WP} : Red A (asAgg (.agg ⟨cs⟩) f) A (f cs) := ⟨fun _ => t_asAgg⟩
instance {cs : List Value} {f : List Value → WP} : Red A (asAgg (.agg (List.toArray cs)) f) A (f cs) := ⟨fun _ => t_asAgg⟩
instance {cs : List Value} {f : List Value → WP} : Red A (asTup (.tuple ⟨cs⟩) f) A (f cs) := ⟨fun _ => t_asTup⟩
instance {cs : List Value} {f : List Value → WP} : Red A (asTup (.tuple (List.toArray cs)) f) A (f cs) := ⟨fun _ => t_asTup⟩
instance {v : Value} {l : List Value} {f : Value → List Value → WP} : Red A (uncons (v :: l) f) A (f v l) := ⟨fun _ => t_uncons⟩
instance : Red A (unnil [] X) A X := ⟨fun _ => t_unnil⟩
instance : Red A (need true X) A X := ⟨fun _ => t_need⟩
instance : Red A (drewW X) A X := ⟨fun _ => t_drewW⟩
instance : Red A (br true X Y) A X := ⟨fun _ => t_brT rfl⟩
instance : Red A (br false X Y) A Y := ⟨fun _ => t_brF rfl⟩
instance {c : Bool} : Red A (br (!c) X Y) A (br c Y X) := ⟨fun _ => t_brNot⟩
instance {B C : SP} : Red ((B ^ C) ^ A) X (B ^ C ^ A) X := ⟨fun _ h => by rw [star_assoc]; exact h⟩
instance : Red (emp ^ A) X A X := ⟨fun _ => t_empL⟩

/-- Where an address lies. -/
class AddrIs (a : Addr) (b i : outParam Nat) : Prop where
  eq : a = ⟨b, i, none⟩
instance {b i : Nat} : AddrIs ⟨b, i, none⟩ b i := ⟨rfl⟩
instance {a : Addr} {b n : Nat} [h : AddrIs a b 0] : AddrIs (a.add n) b n := ⟨by rw [h.eq]; unfold Addr.add; split <;> simp_all⟩
instance (priority := low) {a : Addr} {b i n : Nat} [h : AddrIs a b i] : AddrIs (a.add n) b (i + n) := ⟨by rw [h.eq]; unfold Addr.add; split <;> simp_all⟩
/-- The i-th of known cells. -/
class GetL (l : List Value) (i : Nat) (v : outParam Value) : Prop where
  eq : l[i]? = some v
instance (a : Value) (l : List Value) : GetL (a :: l) 0 a := ⟨rfl⟩
instance (a v : Value) (l : List Value) (i : Nat) [h : GetL l i v] : GetL (a :: l) (i + 1) v := ⟨by rw [List.getElem?_cons_succ]; exact h.eq⟩
class One (v : Value) : Prop where
  one : v.oneCell' = true
instance {k : IntKind} {x : Int} : One (.int k x) := ⟨rfl⟩
instance {x : Bool} : One (.bool x) := ⟨rfl⟩
instance {x : UInt8} : One (u8v x) := ⟨rfl⟩
instance {x : ByteArray} : One (.string x) := ⟨rfl⟩
instance {x : Option Addr} : One (.pointer x) := ⟨rfl⟩
instance {x : Option Addr} {n c : Nat} : One (.slice x n c) := ⟨rfl⟩
instance {x : Option Nat} : One (.map x) := ⟨rfl⟩
instance {f : Fn} {x y : Array Value} : One (.func f x y) := ⟨rfl⟩
instance : One .nilFunc := ⟨rfl⟩
instance {t : TypeId} {v : Value} : One (.iface t v) := ⟨rfl⟩
instance : One .nilIface := ⟨rfl⟩
class Ones (l : List Value) : Prop where
  ones : ∀ u ∈ l, u.oneCell' = true
instance : Ones [] := ⟨fun _ h => by cases h⟩
instance {v : Value} {l : List Value} [h : One v] [k : Ones l] : Ones (v :: l) := ⟨fun u hu => by
  rcases List.mem_cons.1 hu with rfl | hu
  · exact h.one
  · exact k.ones u hu⟩
instance {n : Nat} {v : Value} [h : One v] : Ones (List.replicate n v) := ⟨fun u hu => by rw [(List.mem_replicate.1 hu).2]; exact h.one⟩
instance {a b : List Value} [h : Ones a] [k : Ones b] : Ones (a ++ b) := ⟨fun u hu => (List.mem_append.1 hu).elim (h.ones u) (k.ones u)⟩
instance {α : Type} {k : IntKind} {f : α → Int} {l : List α} : Ones (l.map fun x => .int k (f x)) := ⟨fun u hu => by obtain ⟨x, _, rfl⟩ := List.mem_map.1 hu; rfl⟩
instance {l : List UInt8} : Ones (l.map u8v) := ⟨fun u hu => by obtain ⟨x, _, rfl⟩ := List.mem_map.1 hu; rfl⟩
/-- Types of one cell; types of rows. -/
class CellT (P : Program) (t : TypeId) : Prop where
  ok : isCell P t = true ∧ hasSize P t 1 = true
class RowT (P : Program) (t : TypeId) (n : outParam Nat) : Prop where
  ok : isRowT P t n = true ∧ hasSize P t n = true
class ZeroT (P : Program) (t : TypeId) (l : outParam (List Value)) : Prop where
  ok : ∃ z, zeroIs P t z ∧ z.cells = ⟨l⟩
instance {t : TypeId} {a : Addr} {b i : Nat} {l : List Value} {e : TypeId} {fz : Nat × Nat} {R : SP} {v : Value} {next : Value → WP} [ha : AddrIs a b i] [Own A b (.cells ⟨l⟩ e fz) R] [ht : CellT P t] [hv : GetL l i v] :
    Red A (sem P (Instr.loadAt t (.pointer (some a))) next) A (next v) := ⟨fun _ => t_loadC ha.eq ht.ok.1 (by simpa using hv.eq)⟩
instance {t : TypeId} {a : Addr} {b i : Nat} {l l' : List Value} {e : TypeId} {R : SP} {v : Value} {next : Unit → WP} [ha : AddrIs a b i] [Own A b (.cells ⟨l⟩ e (0, 0)) R] [ht : CellT P t] [h1 : One v] [hl : SetL l i v l'] :
    Red A (sem P (Instr.storeAt t (.pointer (some a)) v) next) (blk b e l' ^ R) (next ()) := ⟨fun _ => t_storeC ha.eq ht.ok.2 h1.one hl.lt⟩
instance {t : TypeId} {l : List Value} {next : Value → WP} [h : ZeroT P t l] :
    RedN A (sem P (Instr.alloc t true (.tuple #[])) next) Nat (fun b => blk b t l ^ A) (fun b => next (.pointer (some ⟨b, 0, none⟩))) := ⟨fun _ k => by obtain ⟨z, h1, h2⟩ := h.ok; exact t_alloc z l h1 h2 k⟩
class Cells (v : Value) (l : outParam (List Value)) : Prop where
  eq : v.cells = ⟨l⟩
instance {l : List Value} : Cells (.agg ⟨l⟩) l := ⟨rfl⟩
instance {l : List Value} : Cells (.agg (List.toArray l)) l := ⟨rfl⟩
instance {k : IntKind} {x : Int} : Cells (.int k x) [.int k x] := ⟨rfl⟩
instance {x : Bool} : Cells (.bool x) [.bool x] := ⟨rfl⟩
instance {x : ByteArray} : Cells (.string x) [.string x] := ⟨rfl⟩
instance {x : Option Addr} : Cells (.pointer x) [.pointer x] := ⟨rfl⟩
instance {x : Option Addr} {n c : Nat} : Cells (.slice x n c) [.slice x n c] := ⟨rfl⟩
instance {x : Option Nat} : Cells (.map x) [.map x] := ⟨rfl⟩
instance {f : Fn} {x y : Array Value} : Cells (.func f x y) [.func f x y] := ⟨rfl⟩
instance {t : TypeId} {v : Value} {l : List Value} {next : Value → WP} [h : Cells v l] :
    RedN A (sem P (Instr.box t v) next) Nat (fun b => blk b t l ^ A) (fun b => next (.pointer (some ⟨b, 0, none⟩))) := ⟨fun _ k => t_box l h.eq k⟩

theorem cellT_mk {t : TypeId} (h1 : isCell P t = true) (h2 : hasSize P t 1 = true) : CellT P t := ⟨h1, h2⟩
theorem rowT_mk {t : TypeId} {n : Nat} (h1 : isRowT P t n = true) (h2 : hasSize P t n = true) : RowT P t n := ⟨h1, h2⟩
theorem zeroT_mk {t : TypeId} {z : Value} {l : List Value} (h : (P.info? t).bind (·.zero) = some z) (hl : z.cells = ⟨l⟩) : ZeroT P t l := ⟨z, h, hl⟩
/-- How long a list of cells is. -/
class LenIs (l : List Value) (n : Nat) : Prop where
  eq : l.length = n
instance : LenIs [] 0 := ⟨rfl⟩
instance {v : Value} {l : List Value} {n : Nat} [h : LenIs l n] : LenIs (v :: l) (n + 1) := ⟨by rw [List.length_cons, h.eq]⟩
instance {n : Nat} {v : Value} : LenIs (List.replicate n v) n := ⟨List.length_replicate⟩
instance {t : TypeId} {a : Addr} {b n : Nat} {l vs : List Value} {e : TypeId} {R : SP} {next : Unit → WP} [ha : AddrIs a b 0] [Own A b (.cells ⟨l⟩ e (0, 0)) R] [ht : RowT P t n] [hl : LenIs l n] [hv : LenIs vs n] [h1 : Ones vs] :
    Red A (sem P (Instr.storeAt t (.pointer (some a)) (.agg (List.toArray vs))) next) (blk b e vs ^ R) (next ()) := ⟨fun _ => t_storeW ha.eq ht.ok.2 hv.eq hl.eq h1.ones⟩
instance {t : TypeId} {a : Addr} {b n : Nat} {l : List Value} {e : TypeId} {fz : Nat × Nat} {R : SP} {next : Value → WP} [ha : AddrIs a b 0] [Own A b (.cells ⟨l⟩ e fz) R] [ht : RowT P t n] [hl : LenIs l n] :
    Red A (sem P (Instr.loadAt t (.pointer (some a))) next) A (next (.agg ⟨l⟩)) := ⟨fun _ k => t_loadR (n := n) ha.eq ht.ok.1 (by rw [hl.eq]; omega) (by rw [List.drop_zero, List.take_of_length_le (Nat.le_of_eq hl.eq)]; exact k)⟩
/-- Slice types: the element's type, cells, bytes, and its zero. -/
class SlT (P : Program) (T : TypeId) (e n by_ : outParam Nat) (z : outParam (List Value)) : Prop where
  und : P.underlying T = some (.slice e)
  inf : ∃ zv, (P.info? e).map (fun i => (i.zero, i.size, i.bytes)) = some (some zv, n, by_) ∧ zv.cells = ⟨z⟩
  zlen : z.length = n
theorem slT_mk {T e n by_ : Nat} {zv : Value} {z : List Value} (h1 : P.underlying T = some (.slice e)) (h2 : (P.info? e).map (fun i => (i.zero, i.size, i.bytes)) = some (some zv, n, by_)) (h3 : zv.cells = ⟨z⟩) (h4 : z.length = n) : SlT P T e n by_ z := ⟨h1, ⟨zv, h2, h3⟩, h4⟩
/-- Array types. -/
class ArT (P : Program) (T : TypeId) (N e n : outParam Nat) : Prop where
  und : P.underlying T = some (.array N e)
  siz : hasSize P e n = true
theorem arT_mk {T N e n : Nat} (h1 : P.underlying T = some (.array N e)) (h2 : hasSize P e n = true) : ArT P T N e n := ⟨h1, h2⟩

/-- Sums that stay in their kind. -/
theorem wrap_in {k : IntKind} {x : Int} (h1 : k.min ≤ x) (h2 : x ≤ k.max) : k.wrap x = x := by
  cases k <;> simp [IntKind.min, IntKind.max, IntKind.wrap, IntKind.bits, IntKind.signed] at * <;> omega
theorem tl64 {x : Int} {f : Int → WP} (h1 : -9223372036854775808 ≤ x) (h2 : x ≤ 9223372036854775807) (k : Tri A w0 (f x)) : Tri A w0 (letv (IntKind.i64.wrap x) f) := by
  unfold letv; rwa [wrap_in (k := .i64) (by simp [IntKind.min, IntKind.bits, IntKind.signed]; omega) (by simp [IntKind.max, IntKind.bits, IntKind.signed]; omega)]
theorem tl {x : Int} {f : Int → WP} (k : Tri A w0 (f x)) : Tri A w0 (letv x f) := k
theorem tlE {x y : Int} {f : Int → WP} (h : x = y) (k : Tri A w0 (f y)) : Tri A w0 (letv x f) := h ▸ k
end
end Go.Proofs.Ytehpdpdmjflddaa
