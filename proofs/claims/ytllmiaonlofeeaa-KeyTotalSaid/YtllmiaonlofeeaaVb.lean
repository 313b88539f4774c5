/-
  KeyTotal is true for every input. No conditions: whatever the input.
-/
import Derived.Test.YtllmiaonlofeeaaRows
import Derived.Test.YtllmiaonlofeeaaLb
import Derived.WalkKit
import Derived.ProofKit
import Derived.OpenShut
import Derived.ShutString
import Derived.ChangeOld
import Derived.Below
import Derived.SizedLaws
import Derived.Lib.SmallJoins
namespace Go.Proofs.Ytllmiaonlofeeaa
namespace keyTotalRow
open Go.ChangeShapes Go.WideShapes Go.ChangeAt Go.RowKit
open Go.ChangeMaps (open_string shut_string)
open Go.Joins (open_agg2)
theorem own : ownKnob Try.prog.godebug = none := by kernel_rfl
theorem laidOut : laidOutB Try.prog = true := by kernel_rfl
set_option maxRecDepth 100000 in
set_option maxHeartbeats 1000000 in
theorem lifted (os : Os) (started : os.Started) (H : Type) (enc : TypeId × Value → H) :
    ReturnsInHanded {} Try.checked os 4 .any (Rows.keyTotalSpec.pre6 enc Try.prog Try.f4 Rows.keyTotalRow.domain false) (Rows.keyTotalSpec.post enc Try.prog Try.f4 false true false false) := by
  refine returnsInHanded_of_change_sized (C := Try.checked) own started (by kernel_rfl) Try.func4
    (ChangeSpec.witness6 (enc := enc) (C := Try.checked) false ⟨#[], #[.agg #[.int .u64 0, .int .i64 0], .agg #[.int .u64 0, .int .i64 0], .agg #[.int .u64 0, .int .i64 0], .agg #[.int .u64 0, .int .i64 0], .agg #[.int .u64 0, .int .i64 0], .agg #[.int .u64 0, .int .i64 0]], []⟩ 8 (by kernel_rfl) (by kernel_rfl) (by kernel_rfl) (by kernel_rfl)) ?_
  intro W base args ds gs before hval0 hW hcnd hsz0 _
  have hsz : (DataW.weightsEach Try.prog (Try.f4.params.toList ++ Rows.keyTotalSpec.plain.varTypes Try.prog) (ds ++ gs)).all (· ≤ reachBytes) = true := hsz0
  have hval : ∀ (j : Nat) t v, Try.f4.params[j]? = some t → args[j]? = some v → Value.okWide Try.prog W .any base t v := hval0
  have hW' := hW
  obtain ⟨p, q, hA0, hV, rfl, hfz, hnd⟩ := hW
  have hA : DataW.TrodAll enc Try.prog W 0 (fun _ => true) true Try.f4.params.toList args.toList ds p := hA0
  rw [Try.params4] at hA hval hsz
  obtain ⟨v0, vs0, d0, ds0, p0, q0, hargs, rfl, rfl, h0, r0⟩ := trodAll_cons hA
  obtain ⟨v1, vs1, d1, ds1, p1, q1, rfl, rfl, rfl, h1, r1⟩ := trodAll_cons r0
  obtain ⟨v2, vs2, d2, ds2, p2, q2, rfl, rfl, rfl, h2, r2⟩ := trodAll_cons r1
  obtain ⟨v3, vs3, d3, ds3, p3, q3, rfl, rfl, rfl, h3, r3⟩ := trodAll_cons r2
  obtain ⟨v4, vs4, d4, ds4, p4, q4, rfl, rfl, rfl, h4, r4⟩ := trodAll_cons r3
  obtain ⟨v5, vs5, d5, ds5, p5, q5, rfl, rfl, rfl, h5, r5⟩ := trodAll_cons r4
  obtain ⟨rfl, rfl, rfl⟩ := trodAll_nil r5
  obtain rfl : args = #[v0, v1, v2, v3, v4, v5] := by cases args; simp_all
  obtain ⟨rfl, rfl⟩ := trodVars_none hV
  have k0 := h0
  have lt0 : ∀ x ∈ p0, x.block < W.heap.size := by obtain ⟨m, hm⟩ := k0; exact DataW.trod_lt m _ _ _ hm
  obtain ⟨u0, x0, _, _, _, rfl, _, _, t0, s0⟩ := open_agg2 Try.underlying29 (by kernel_rfl) (by kernel_rfl) (hval 0 29 v0 rfl rfl) h0
  obtain ⟨a0, e0, _, g0⟩ := DataW.trod_int Try.underlying27 t0
  obtain ⟨c0, o0, _, b0⟩ := DataW.trod_int Try.underlying3 s0
  simp only [List.cons.injEq, and_true] at e0 o0
  subst e0; subst o0
  have k1 := h1
  have lt1 : ∀ x ∈ p1, x.block < W.heap.size := by obtain ⟨m, hm⟩ := k1; exact DataW.trod_lt m _ _ _ hm
  obtain ⟨u1, x1, _, _, _, rfl, _, _, t1, s1⟩ := open_agg2 Try.underlying29 (by kernel_rfl) (by kernel_rfl) (hval 1 29 v1 rfl rfl) h1
  obtain ⟨a1, e1, _, g1⟩ := DataW.trod_int Try.underlying27 t1
  obtain ⟨c1, o1, _, b1⟩ := DataW.trod_int Try.underlying3 s1
  simp only [List.cons.injEq, and_true] at e1 o1
  subst e1; subst o1
  have k2 := h2
  have lt2 : ∀ x ∈ p2, x.block < W.heap.size := by obtain ⟨m, hm⟩ := k2; exact DataW.trod_lt m _ _ _ hm
  obtain ⟨u2, x2, _, _, _, rfl, _, _, t2, s2⟩ := open_agg2 Try.underlying29 (by kernel_rfl) (by kernel_rfl) (hval 2 29 v2 rfl rfl) h2
  obtain ⟨a2, e2, _, g2⟩ := DataW.trod_int Try.underlying27 t2
  obtain ⟨c2, o2, _, b2⟩ := DataW.trod_int Try.underlying3 s2
  simp only [List.cons.injEq, and_true] at e2 o2
  subst e2; subst o2
  have k3 := h3
  have lt3 : ∀ x ∈ p3, x.block < W.heap.size := by obtain ⟨m, hm⟩ := k3; exact DataW.trod_lt m _ _ _ hm
  obtain ⟨u3, x3, _, _, _, rfl, _, _, t3, s3⟩ := open_agg2 Try.underlying31 (by kernel_rfl) (by kernel_rfl) (hval 3 31 v3 rfl rfl) h3
  obtain ⟨a3, e3, _, g3⟩ := DataW.trod_int Try.underlying27 t3
  obtain ⟨c3, o3, _, b3⟩ := DataW.trod_int Try.underlying3 s3
  simp only [List.cons.injEq, and_true] at e3 o3
  subst e3; subst o3
  have k4 := h4
  have lt4 : ∀ x ∈ p4, x.block < W.heap.size := by obtain ⟨m, hm⟩ := k4; exact DataW.trod_lt m _ _ _ hm
  obtain ⟨u4, x4, _, _, _, rfl, _, _, t4, s4⟩ := open_agg2 Try.underlying31 (by kernel_rfl) (by kernel_rfl) (hval 4 31 v4 rfl rfl) h4
  obtain ⟨a4, e4, _, g4⟩ := DataW.trod_int Try.underlying27 t4
  obtain ⟨c4, o4, _, b4⟩ := DataW.trod_int Try.underlying3 s4
  simp only [List.cons.injEq, and_true] at e4 o4
  subst e4; subst o4
  have k5 := h5
  have lt5 : ∀ x ∈ p5, x.block < W.heap.size := by obtain ⟨m, hm⟩ := k5; exact DataW.trod_lt m _ _ _ hm
  obtain ⟨u5, x5, _, _, _, rfl, _, _, t5, s5⟩ := open_agg2 Try.underlying31 (by kernel_rfl) (by kernel_rfl) (hval 5 31 v5 rfl rfl) h5
  obtain ⟨a5, e5, _, g5⟩ := DataW.trod_int Try.underlying27 t5
  obtain ⟨c5, o5, _, b5⟩ := DataW.trod_int Try.underlying3 s5
  simp only [List.cons.injEq, and_true] at e5 o5
  subst e5; subst o5
  clear hA0 hval0 hsz0 hsz
  refine (w_KeyTotal a0 c0 a1 c1 a2 c2 a3 c3 a4 c4 a5 c5 W ).mono fun e W' ⟨he, bel⟩ => ?_
  subst he
  exact ⟨_, rfl, _, _, _, [], _, [], hW', trodAll_mk1 (shut_bool Try.underlying4 _), (trodAll_cons_mk (Below.trod laidOut (by kernel_rfl) (of_decide_eq_true (by kernel_rfl)) k0 bel lt0) (trodAll_cons_mk (Below.trod laidOut (by kernel_rfl) (of_decide_eq_true (by kernel_rfl)) k1 bel lt1) (trodAll_cons_mk (Below.trod laidOut (by kernel_rfl) (of_decide_eq_true (by kernel_rfl)) k2 bel lt2) (trodAll_cons_mk (Below.trod laidOut (by kernel_rfl) (of_decide_eq_true (by kernel_rfl)) k3 bel lt3) (trodAll_cons_mk (Below.trod laidOut (by kernel_rfl) (of_decide_eq_true (by kernel_rfl)) k4 bel lt4) (trodAll_cons_mk (Below.trod laidOut (by kernel_rfl) (of_decide_eq_true (by kernel_rfl)) k5 bel lt5) trodAll_mk0)))))), rfl, bel.frame _, fun h => by cases h⟩
theorem over : Rows.keyTotalRow.holds Try.pinned (OpenSpec.ofChange Rows.keyTotalSpec) :=
  OpenClaim.holds_of_wide 4 Try.f4 rfl rfl rfl rfl rfl rfl rfl ⟨rfl, rfl, rfl, rfl, rfl⟩ rfl rfl rfl rfl rfl (by kernel_rfl) Try.func4 (by kernel_rfl)
    (of_decide_eq_true (by kernel_rfl)) (by unfold Func.isWrapper; first | (rw [if_pos (by decide +kernel)]; kernel_rfl) | (rw [if_neg (by decide +kernel)]; exact ⟨rfl, rfl⟩))
    (fun os started H enc _ => lifted os started H enc)
end keyTotalRow
/-- The given statement. -/
theorem keyTotal_holds : Rows.KeyTotalSaid := keyTotalRow.over
end Go.Proofs.Ytllmiaonlofeeaa
