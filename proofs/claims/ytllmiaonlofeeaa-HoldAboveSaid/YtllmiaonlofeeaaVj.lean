/-
  HoldAbove is true for every input. No conditions: whatever the input.
-/
import Derived.Test.YtllmiaonlofeeaaRows
import Derived.Test.YtllmiaonlofeeaaHu
import Derived.WalkKit
import Derived.ProofKit
import Derived.OpenShut
import Derived.ShutString
import Derived.ChangeOld
import Derived.Below
import Derived.SizedLaws
import Derived.Lib.SmallJoins
namespace Go.Proofs.Ytllmiaonlofeeaa
namespace holdAboveRow
open Go.ChangeShapes Go.WideShapes Go.ChangeAt Go.RowKit
open Go.ChangeMaps (open_string shut_string)
open Go.Joins (open_agg2)
theorem own : ownKnob Try.prog.godebug = none := by kernel_rfl
theorem laidOut : laidOutB Try.prog = true := by kernel_rfl
set_option maxRecDepth 100000 in
set_option maxHeartbeats 1000000 in
theorem lifted (os : Os) (started : os.Started) (H : Type) (enc : TypeId × Value → H) :
    ReturnsInHanded {} Try.checked os 11 .any (Rows.holdAboveSpec.pre6 enc Try.prog Try.f11 Rows.holdAboveRow.domain false) (Rows.holdAboveSpec.post enc Try.prog Try.f11 false true false false) := by
  refine returnsInHanded_of_change_sized (C := Try.checked) own started (by kernel_rfl) Try.func11
    (ChangeSpec.witness6 (enc := enc) (C := Try.checked) false ⟨#[], #[.slice none 0 0, .agg #[.int .u64 0, .int .i64 0]], []⟩ 8 (by kernel_rfl) (by kernel_rfl) (by kernel_rfl) (by kernel_rfl)) ?_
  intro W base args ds gs before hval0 hW hcnd hsz0 _
  have hsz : (DataW.weightsEach Try.prog (Try.f11.params.toList ++ Rows.holdAboveSpec.plain.varTypes Try.prog) (ds ++ gs)).all (· ≤ reachBytes) = true := hsz0
  have hval : ∀ (j : Nat) t v, Try.f11.params[j]? = some t → args[j]? = some v → Value.okWide Try.prog W .any base t v := hval0
  have hW' := hW
  obtain ⟨p, q, hA0, hV, rfl, hfz, hnd⟩ := hW
  have hA : DataW.TrodAll enc Try.prog W 0 (fun _ => true) true Try.f11.params.toList args.toList ds p := hA0
  rw [Try.params11] at hA hval hsz
  obtain ⟨v0, vs0, d0, ds0, p0, q0, hargs, rfl, rfl, h0, r0⟩ := trodAll_cons hA
  obtain ⟨v1, vs1, d1, ds1, p1, q1, rfl, rfl, rfl, h1, r1⟩ := trodAll_cons r0
  obtain ⟨rfl, rfl, rfl⟩ := trodAll_nil r1
  obtain rfl : args = #[v0, v1] := by cases args; simp_all
  obtain ⟨rfl, rfl⟩ := trodVars_none hV
  have k0 := h0
  have lt0 : ∀ x ∈ p0, x.block < W.heap.size := by obtain ⟨m, hm⟩ := k0; exact DataW.trod_lt m _ _ _ hm
  obtain ⟨a0, len0, cap0, rfl⟩ := okWide_slice Try.underlying53 (hval 0 53 v0 rfl rfl)
  obtain ⟨fuel0, hf0⟩ := h0
  obtain ⟨l0, L0, m0, e0, g0, b0, z0⟩ := read_acts hf0
  have y0 : l0.length ≤ 4611686018427387904 := by
    rcases z0 with ⟨_, rfl⟩ | ⟨es, sp, hd, hes⟩
    · simp
    · have z := sized_slice hsz (j := 0) (t := 53) (elems := es) (spare := sp) rfl (by rw [← hd]; rfl) Try.underlying53
      have hz : 72 ≤ Try.prog.bytesOf 61 := of_decide_eq_true (by kernel_rfl)
      have : reachBytes = 140737488351232 := rfl
      have h2 := Nat.mul_le_mul (Nat.le_add_right es.length sp.length) hz
      omega
  have k1 := h1
  have lt1 : ∀ x ∈ p1, x.block < W.heap.size := by obtain ⟨m, hm⟩ := k1; exact DataW.trod_lt m _ _ _ hm
  obtain ⟨u1, x1, _, _, _, rfl, _, _, t1, s1⟩ := open_agg2 Try.underlying29 (by kernel_rfl) (by kernel_rfl) (hval 1 29 v1 rfl rfl) h1
  obtain ⟨a1, e1, _, g1⟩ := DataW.trod_int Try.underlying27 t1
  obtain ⟨c1, o1, _, b1⟩ := DataW.trod_int Try.underlying3 s1
  simp only [List.cons.injEq, and_true] at e1 o1
  subst e1; subst o1
  clear hA0 hval0 hsz0 hsz
  refine (w_HoldAbove (.slice a0 len0 cap0) l0 L0 a1 c1 W m0 e0 g0 b0 y0).mono fun e W' ⟨he, bel⟩ => ?_
  subst he
  exact ⟨_, rfl, _, _, _, [], _, [], hW', trodAll_mk1 (shut_bool Try.underlying4 _), (trodAll_cons_mk (Below.trod laidOut (by kernel_rfl) (of_decide_eq_true (by kernel_rfl)) k0 bel lt0) (trodAll_cons_mk (Below.trod laidOut (by kernel_rfl) (of_decide_eq_true (by kernel_rfl)) k1 bel lt1) trodAll_mk0)), rfl, bel.frame _, fun h => by cases h⟩
theorem over : Rows.holdAboveRow.holds Try.pinned (OpenSpec.ofChange Rows.holdAboveSpec) :=
  OpenClaim.holds_of_wide 11 Try.f11 rfl rfl rfl rfl rfl rfl rfl ⟨rfl, rfl, rfl, rfl, rfl⟩ rfl rfl rfl rfl rfl (by kernel_rfl) Try.func11 (by kernel_rfl)
    (of_decide_eq_true (by kernel_rfl)) (by unfold Func.isWrapper; first | (rw [if_pos (by decide +kernel)]; kernel_rfl) | (rw [if_neg (by decide +kernel)]; exact ⟨rfl, rfl⟩))
    (fun os started H enc _ => lifted os started H enc)
end holdAboveRow
/-- The given statement. -/
theorem holdAbove_holds : Rows.HoldAboveSaid := holdAboveRow.over
end Go.Proofs.Ytllmiaonlofeeaa
