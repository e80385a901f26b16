/-
  Steps of a walk: an operation whose run is known is passed over in one step.
-/
import Derived.Test.YtehpdpdmjflddaaRw
import Derived.Test.YtehpdpdmjflddaaSem
namespace Go.Proofs.Ytehpdpdmjflddaa
open Go.RowKit

section
variable {P : Program} {ops : Array Oper} {rest : List Oper} {o : Oper} {a : Act} {w w' : World} {Q : Exit → Act → World → Prop}
theorem wpList_val {v : Value} (hgd : Region.wanted o (yielded ops a.tmps) = true) (hr : (execOp a.eval o).run P w = .ok (.value v) w') (h : wpList P ops Q rest (a.put o.dst v) w') : wpList P ops Q (o :: rest) a w := by
  unfold wpList
  rw [if_pos hgd]
  refine .inl ?_
  unfold Oper.wp
  rw [hr]
  exact h
theorem wpList_skp (hgd : Region.wanted o (yielded ops a.tmps) = true) (hr : (execOp a.eval o).run P w = .ok .skip w') (h : wpList P ops Q rest (a.put o.dst undef) w') : wpList P ops Q (o :: rest) a w := by
  unfold wpList
  rw [if_pos hgd]
  refine .inl ?_
  unfold Oper.wp
  rw [hr]
  exact h
theorem arm_buildSlice (hgd : Region.wanted o (yielded ops a.tmps) = true) {T n : Nat} {parts : Array (Nat × Operand)} (ho : o.op = .buildSlice T n parts) {ps : List (Nat × Value)} {v : Value} (hr : (Instr.buildSlice T n ps.toArray).run P w = .ok v w') (hp : (parts.toList.map fun x => (x.1, a.eval x.2)) = ps)
    (h : wpList P ops Q rest (a.put o.dst v) w') : wpList P ops Q (o :: rest) a w :=
  wpList_val hgd (by
    simp only [execOp, ho]
    subst hp
    rw [← Array.toList_map, Array.toArray_toList] at hr
    rw [run_of hr]
    simp) h
theorem arm_append (hgd : Region.wanted o (yielded ops a.tmps) = true) {s x : Operand} {t u : TypeId} (ho : o.op = .call { callee := .builtin .append, args := #[s, x], argTypes := #[t, u] }) {v y : Value} (hs : a.eval s = v) (hx : a.eval x = y)
    {z : Value} (hr : (Builtin.append_ #[t, u] o.type #[v, y]).run P w = .ok z w') (h : wpList P ops Q rest (a.put o.dst z) w') : wpList P ops Q (o :: rest) a w :=
  wpList_val hgd (by subst hs hx; simp only [execOp, ho, resolve, invoke, builtin]; simp [hr, Result.andThen]) h
theorem arm_copy (hgd : Region.wanted o (yielded ops a.tmps) = true) {s x : Operand} {t u : TypeId} (ho : o.op = .call { callee := .builtin .copy, args := #[s, x], argTypes := #[t, u] }) {v y : Value} (hs : a.eval s = v) (hx : a.eval x = y)
    {z : Value} (hr : (Builtin.copy_ #[t, u] o.type #[v, y]).run P w = .ok z w') (h : wpList P ops Q rest (a.put o.dst z) w') : wpList P ops Q (o :: rest) a w :=
  wpList_val hgd (by subst hs hx; simp only [execOp, ho, resolve, invoke, builtin]; simp [hr, Result.andThen]) h
theorem arm_min (hgd : Region.wanted o (yielded ops a.tmps) = true) {s x : Operand} {t u : TypeId} (ho : o.op = .call { callee := .builtin .min, args := #[s, x], argTypes := #[t, u] }) {k k' : IntKind} {v y : Int} (hs : a.eval s = .int k v) (hx : a.eval x = .int k' y)
    (h : wpList P ops Q rest (a.put o.dst (.int k (min v y))) w) : wpList P ops Q (o :: rest) a w :=
  wpList_val (v := .int k (min v y)) (w' := w) hgd (by
    simp only [execOp, ho, resolve, invoke, builtin]
    have : (if y < v then y else v) = min v y := by split <;> omega
    simp [hs, hx, Builtin.min_, Builtin.min2, this]) h
theorem arm_max (hgd : Region.wanted o (yielded ops a.tmps) = true) {s x : Operand} {t u : TypeId} (ho : o.op = .call { callee := .builtin .max, args := #[s, x], argTypes := #[t, u] }) {k k' : IntKind} {v y : Int} (hs : a.eval s = .int k v) (hx : a.eval x = .int k' y)
    (h : wpList P ops Q rest (a.put o.dst (.int k (max v y))) w) : wpList P ops Q (o :: rest) a w :=
  wpList_val (v := .int k (max v y)) (w' := w) hgd (by
    simp only [execOp, ho, resolve, invoke, builtin]
    have : (if y > v then y else v) = max v y := by split <;> omega
    simp [hs, hx, Builtin.max_, Builtin.max2, this]) h
theorem arm_slice (hgd : Region.wanted o (yielded ops a.tmps) = true) {T : TypeId} {x : Operand} {lo hi mx : Option Operand} (ho : o.op = .slice T x lo hi mx) {v : Value} (hx : a.eval x = v) {l h' m : Option Value} (hl : lo.map a.eval = l) (hh : hi.map a.eval = h') (hm : mx.map a.eval = m)
    {z : Value} (hr : (Instr.sliceAt T v l h' m).run P w = .ok z w') (h : wpList P ops Q rest (a.put o.dst z) w') : wpList P ops Q (o :: rest) a w :=
  wpList_val hgd (by subst hx hl hh hm; simp only [execOp, ho]; rw [run_of hr]; simp) h
theorem arm_lookup (hgd : Region.wanted o (yielded ops a.tmps) = true) {T : TypeId} {x i : Operand} {ok : Bool} (ho : o.op = .lookup T x i ok) {v y : Value} (hs : a.eval x = v) (hx : a.eval i = y)
    {z : Value} (hr : (Instr.lookup T v y ok).run P w = .ok z w') (h : wpList P ops Q rest (a.put o.dst z) w') : wpList P ops Q (o :: rest) a w :=
  wpList_val hgd (by subst hs hx; simp only [execOp, ho]; rw [run_of hr]; simp) h
theorem arm_mapUpdate (hgd : Region.wanted o (yielded ops a.tmps) = true) {T : TypeId} {m k x : Operand} (ho : o.op = .mapUpdate T m k x) {v y u : Value} (hm : a.eval m = v) (hk : a.eval k = y) (hx : a.eval x = u)
    (hr : (Instr.mapUpdate T v y u).run P w = .ok () w') (h : wpList P ops Q rest (a.put o.dst undef) w') : wpList P ops Q (o :: rest) a w :=
  wpList_skp hgd (by subst hm hk hx; simp only [execOp, ho]; rw [run_of hr]; simp) h
theorem arm_makeSlice (hgd : Region.wanted o (yielded ops a.tmps) = true) {T : TypeId} {l c : Operand} (ho : o.op = .makeSlice T l c) {v y : Value} (hs : a.eval l = v) (hx : a.eval c = y)
    {z : Value} (hr : (Instr.makeSlice T v y).run P w = .ok z w') (h : wpList P ops Q rest (a.put o.dst z) w') : wpList P ops Q (o :: rest) a w :=
  wpList_val hgd (by subst hs hx; simp only [execOp, ho]; rw [run_of hr]; simp) h
theorem arm_alloc (hgd : Region.wanted o (yielded ops a.tmps) = true) {T : TypeId} (ho : o.op = .alloc T) {z : Value} (hr : (Instr.alloc T true (.tuple #[])).run P w = .ok z w') (h : wpList P ops Q rest (a.put o.dst z) w') : wpList P ops Q (o :: rest) a w :=
  wpList_val hgd (by simp only [execOp, ho]; rw [run_of hr]; simp) h
theorem arm_box (hgd : Region.wanted o (yielded ops a.tmps) = true) {T : TypeId} {x : Operand} (ho : o.op = .box T x) {v : Value} (hx : a.eval x = v) {z : Value} (hr : (Instr.box T v).run P w = .ok z w') (h : wpList P ops Q rest (a.put o.dst z) w') : wpList P ops Q (o :: rest) a w :=
  wpList_val hgd (by subst hx; simp only [execOp, ho]; rw [run_of hr]; simp) h
theorem arm_load (hgd : Region.wanted o (yielded ops a.tmps) = true) {T : TypeId} {x : Operand} (ho : o.op = .load T x) {v : Value} (hx : a.eval x = v) {z : Value} (hr : (Instr.loadAt T v).run P w = .ok z w') (h : wpList P ops Q rest (a.put o.dst z) w') : wpList P ops Q (o :: rest) a w :=
  wpList_val hgd (by subst hx; simp only [execOp, ho]; rw [run_of hr]; simp) h
theorem arm_indexAddr (hgd : Region.wanted o (yielded ops a.tmps) = true) {T : TypeId} {x i : Operand} (ho : o.op = .indexAddr T x i) {v y : Value} (hx : a.eval x = v) (hi : a.eval i = y) {z : Value} (hr : (Instr.indexAt T v y).run P w = .ok z w') (h : wpList P ops Q rest (a.put o.dst z) w') : wpList P ops Q (o :: rest) a w :=
  wpList_val hgd (by subst hx hi; simp only [execOp, ho]; rw [run_of hr]; simp) h
theorem arm_store (hgd : Region.wanted o (yielded ops a.tmps) = true) {T : TypeId} {x y : Operand} (ho : o.op = .store T x y) {v u : Value} (hx : a.eval x = v) (hy : a.eval y = u) (hr : (Instr.storeAt T v u).run P w = .ok () w') (h : wpList P ops Q rest (a.put o.dst undef) w') : wpList P ops Q (o :: rest) a w :=
  wpList_skp hgd (by subst hx hy; simp only [execOp, ho]; rw [run_of hr]; simp) h
end
end Go.Proofs.Ytehpdpdmjflddaa
