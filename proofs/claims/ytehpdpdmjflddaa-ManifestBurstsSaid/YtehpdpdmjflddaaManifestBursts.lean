/-
  For every input hayloftlaw21.ManifestBursts returns true, and each argument reads behind the call as it read before. Conditions: none but the given row's own.
-/
import Derived.Test.YtehpdpdmjflddaaRows
import Derived.Test.YtehpdpdmjflddaaRowS
import Derived.Test.YtehpdpdmjflddaaMb
namespace Go.Proofs.Ytehpdpdmjflddaa.manifestBursts
open Go.ChangeShapes Go.WideShapes Go.ChangeAt Go.RowKit Go.Joins

theorem own' : ownKnob Try.prog.godebug = none := by kernel_rfl
theorem laidOut : laidOutB Try.prog = true := by kernel_rfl
set_option maxRecDepth 100000 in
theorem lifted (os : Os) (started : os.Started) (H : Type) (enc : TypeId × Value → H) :
    ReturnsInHanded {} Try.checked os 12 .any (Rows.manifestBurstsSpec.pre6 enc Try.prog Try.f12 Rows.manifestBurstsRow.domain false) (Rows.manifestBurstsSpec.post enc Try.prog Try.f12 false true false false) := by
  refine returnsInHanded_of_change_sized (C := Try.checked) own' started (by kernel_rfl) Try.func12
    (ChangeSpec.witness6 (enc := enc) (C := Try.checked) false ⟨#[], #[.agg #[.int .i64 0, .int .i64 0, .int .i64 0], .agg #[.int .u16 0, .int .u32 0]], []⟩ 8 (by kernel_rfl) (by kernel_rfl) (by kernel_rfl) (by kernel_rfl)) ?_
  intro W base args ds gs before hval0 hW hcnd hsz0 _
  have hval : ∀ (j : Nat) t v, Try.f12.params[j]? = some t → args[j]? = some v → Value.okWide Try.prog W .any base t v := hval0
  have hW' := hW
  obtain ⟨p, q, hA0, hV, rfl, hfz, hnd⟩ := hW
  have hA : DataW.TrodAll enc Try.prog W 0 (fun _ => true) true Try.f12.params.toList args.toList ds p := hA0
  rw [Try.params12] at hA hval
  obtain ⟨v0, vs0, d0, ds0, p0, q0, hargs, rfl, rfl, h0, r0⟩ := trodAll_cons hA
  obtain ⟨v1, vs1, d1, ds1, p1, q1, rfl, rfl, rfl, h1, r1⟩ := trodAll_cons r0
  obtain ⟨rfl, rfl, rfl⟩ := trodAll_nil r1
  obtain rfl : args = #[v0, v1] := by cases args; simp_all
  obtain ⟨rfl, rfl⟩ := trodVars_none hV
  have k0 := h0
  have lt0 : ∀ x ∈ p0, x.block < W.heap.size := by obtain ⟨m, hm⟩ := k0; exact DataW.trod_lt m _ _ _ hm
  have k1 := h1
  have lt1 : ∀ x ∈ p1, x.block < W.heap.size := by obtain ⟨m, hm⟩ := k1; exact DataW.trod_lt m _ _ _ hm
  obtain ⟨c0_0, c0_1, c0_2, y0_0, y0_1, y0_2, m0, rfl, _, _, hy0_0, hy0_1, hy0_2⟩ := open_agg3 Try.underlying65 (by kernel_rfl) (by kernel_rfl) (hval 0 65 v0 rfl rfl) h0
  obtain ⟨x0_0, hk0_0, _, wk0_0⟩ := DataW.trod_int Try.underlying3 hy0_0
  simp only [List.cons.injEq, and_true] at hk0_0
  subst hk0_0
  have bd0_0 := bounds_i64 wk0_0
  obtain ⟨x0_1, hk0_1, _, wk0_1⟩ := DataW.trod_int Try.underlying3 hy0_1
  simp only [List.cons.injEq, and_true] at hk0_1
  subst hk0_1
  have bd0_1 := bounds_i64 wk0_1
  obtain ⟨x0_2, hk0_2, _, wk0_2⟩ := DataW.trod_int Try.underlying3 hy0_2
  simp only [List.cons.injEq, and_true] at hk0_2
  subst hk0_2
  have bd0_2 := bounds_i64 wk0_2
  obtain ⟨c1_0, c1_1, y1_0, y1_1, m1, rfl, _, _, hy1_0, hy1_1⟩ := open_agg2 Try.underlying83 (by kernel_rfl) (by kernel_rfl) (hval 1 83 v1 rfl rfl) h1
  obtain ⟨x1_0, hk1_0, _, wk1_0⟩ := DataW.trod_int Try.underlying80 hy1_0
  simp only [List.cons.injEq, and_true] at hk1_0
  subst hk1_0
  have bd1_0 := bounds_u16 wk1_0
  obtain ⟨x1_1, hk1_1, _, wk1_1⟩ := DataW.trod_int Try.underlying81 hy1_1
  simp only [List.cons.injEq, and_true] at hk1_1
  subst hk1_1
  have bd1_1 := bounds_u32 wk1_1
  obtain ⟨at', rfl⟩ : ∃ k : Nat, x1_0 = k := ⟨x1_0.toNat, by omega⟩
  obtain ⟨bits, rfl⟩ : ∃ k : Nat, x1_1 = k := ⟨x1_1.toNat, by omega⟩
  clear hA0 hval0
  refine (((bursts_spec (by omega) (by omega))).done W (sat_asIs W)).mono fun e W' ⟨he, hS, hF⟩ => ?_
  subst he
  have bel := hF.below hS
  exact ⟨_, rfl, _, _, _, [], _, [], hW', trodAll_mk1 (shut_bool Try.underlying4 _), (trodAll_cons_mk (Below.trod laidOut (by kernel_rfl) (of_decide_eq_true (by kernel_rfl)) k0 bel lt0) (trodAll_cons_mk (Below.trod laidOut (by kernel_rfl) (of_decide_eq_true (by kernel_rfl)) k1 bel lt1) trodAll_mk0)), rfl, bel.frame _, fun h => by cases h⟩

theorem over : Rows.manifestBurstsRow.holds Try.pinned (OpenSpec.ofChange Rows.manifestBurstsSpec) :=
  OpenClaim.holds_of_wide 12 Try.f12 rfl rfl rfl rfl rfl rfl rfl ⟨rfl, rfl, rfl, rfl, rfl⟩ rfl rfl rfl rfl rfl (by kernel_rfl) Try.func12 (by kernel_rfl)
    (of_decide_eq_true (by kernel_rfl)) (by unfold Func.isWrapper; first | (rw [if_pos (by decide +kernel)]; kernel_rfl) | (rw [if_neg (by decide +kernel)]; exact ⟨rfl, rfl⟩))
    (fun os started H enc _ => lifted os started H enc)

theorem proved : Rows.ManifestBurstsSaid := over
#print axioms proved
end Go.Proofs.Ytehpdpdmjflddaa.manifestBursts
