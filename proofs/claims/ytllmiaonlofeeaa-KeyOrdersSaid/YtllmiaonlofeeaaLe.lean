/-
  KeyOrders, walked. No conditions beyond what each theorem states.
-/
import Derived.Test.YtllmiaonlofeeaaPw
import Derived.Test.YtllmiaonlofeeaaLd
namespace Go.Proofs.Ytllmiaonlofeeaa
open Go.RowKit Go.Sort

theorem sign_kc (s f s' f' : Int) : signZ (lessB s f s' f') (lessB s' f' s f) = keyCmp s f s' f' := by
  unfold signZ lessB
  rcases kc_all s f s' f' with ⟨h, k⟩ | ⟨h, k1, k2⟩ | ⟨h, k⟩
  · rw [h, if_pos (by simpa using k)]
  · rw [h, if_neg (by simp; omega), if_neg (by simp; omega)]
  · rw [h, if_neg (by simp; omega), if_pos (by simp; omega)]
theorem c_rCompare' (s f s' f' : Int) (w : World) :
    Calls Try.prog 24 #[.agg #[.int .u64 s, .int .i64 f], .agg #[.int .u64 s', .int .i64 f']] w fun e w' => e = .returned (.int .i64 (keyCmp s f s' f')) ∧ Gr w w' := by
  have := c_rCompare s f s' f' w
  rwa [sign_kc] at this
theorem c_rConfs' (s f s' f' : Int) (w : World) :
    Calls Try.prog 25 #[.agg #[.int .u64 s, .int .i64 f], .agg #[.int .u64 s', .int .i64 f']] w fun e w' => e = .returned (.int .i64 (keyCmp s f s' f')) ∧ Gr w w' := by
  have := c_rConfs s f s' f' w
  rwa [sign_kc] at this

attribute [local go_sem high] run_eqKey run_eqConf
set_option maxRecDepth 100000 in
set_option maxHeartbeats 2000000 in
theorem w_KeyOrders (a0 c0 a1 c1 a2 c2 a3 c3 : Int) (v4 : Value) (l4 : List (Int × Int)) (v5 : Value) (l5 : List (Int × Int)) (v6 : Value) (l6 : List Int) (w : World)
    (h4 : PAt w v4 l4) (_ : ∀ p ∈ l4, (0 ≤ p.1 ∧ p.1 ≤ 18446744073709551615) ∧ (-9223372036854775808 ≤ p.2 ∧ p.2 ≤ 9223372036854775807)) (y4 : l4.length ≤ 9223372036854775807)
    (h5 : PAt w v5 l5) (_ : ∀ p ∈ l5, (0 ≤ p.1 ∧ p.1 ≤ 18446744073709551615) ∧ (-9223372036854775808 ≤ p.2 ∧ p.2 ≤ 9223372036854775807)) (y5 : l5.length ≤ 9223372036854775807)
    (h6 : UAt w v6 l6) (g6 : ∀ p ∈ l6, 0 ≤ p ∧ p ≤ 18446744073709551615) (y6 : l6.length ≤ 9223372036854775807) :
    Calls Try.prog 7 #[.agg #[.int .u64 a0, .int .i64 c0], .agg #[.int .u64 a1, .int .i64 c1], .agg #[.int .u64 a2, .int .i64 c2], .agg #[.int .u64 a3, .int .i64 c3], v4, v5, v6] w fun e w' => e = .returned (.bool true) ∧ Bw w w' := by
  have mixed : Try.prog.follows .mixedOrders = true := by kernel_rfl
  obtain ⟨s4, t4, rfl⟩ := h4.form
  obtain ⟨s5, t5, rfl⟩ := h5.form
  obtain ⟨s6, t6, rfl⟩ := h6.form
  have H4 := Lib.hid h4
  have H5 := Lib.hid h5
  have H6 := Lib.hid h6
  have G6 := Lib.hid g6
  clear h4 h5 h6 g6
  obtain ⟨W0, hW0, hB0, k0, k1, k2, k3⟩ := boxes4 w (.cells #[.int .u64 a0, .int .i64 c0] 29) (.cells #[.int .u64 a1, .int .i64 c1] 29) (.cells #[.int .u64 a2, .int .i64 c2] 31) (.cells #[.int .u64 a3, .int .i64 c3] 31)
  have HW0 := Lib.hid hW0
  have HB0 := Lib.hid hB0
  have K0 := Lib.hid k0
  have K1 := Lib.hid k1
  have K2 := Lib.hid k2
  have K3 := Lib.hid k3
  clear hW0 hB0 k0 k1 k2 k3
  go_enter Try.func7, Try.ntmps7
  go_wp2_with fail
  rw [← HW0.out]
  refine (c_awake3 _).mono ?_
  rintro e w1 ⟨rfl, hb1⟩
  have B1 := Lib.hid hb1
  have BW := Lib.hid (HB0.out.trans hb1)
  clear hb1
  by_cases n4 : l4.length ≤ 200
  case neg =>
    have n4z : (200 : Int) < (l4.length : Int) := by omega
    go_wp2_with fail
    go_ret
    exact ⟨rfl, BW.out⟩
  have n4z : (l4.length : Int) ≤ (200 : Int) := by omega
  have n4d : decide ((200 : Int) < (l4.length : Int)) = false := decide_eq_false (by omega)
  by_cases n5 : l5.length ≤ 200
  case neg =>
    have n5z : (200 : Int) < (l5.length : Int) := by omega
    go_wp2_with fail
    go_ret
    exact ⟨rfl, BW.out⟩
  have n5z : (l5.length : Int) ≤ (200 : Int) := by omega
  have n5d : decide ((200 : Int) < (l5.length : Int)) = false := decide_eq_false (by omega)
  by_cases n6 : l6.length ≤ 5000
  case neg =>
    have n6z : (5000 : Int) < (l6.length : Int) := by omega
    go_wp2_with fail
    go_ret
    exact ⟨rfl, BW.out⟩
  have n6z : (l6.length : Int) ≤ (5000 : Int) := by omega
  have n6d : decide ((5000 : Int) < (l6.length : Int)) = false := decide_eq_false (by omega)
  go_upto_region 5 with fail
  have x0 : ∀ n os, (grow (w1.drewN n) os).cell? ⟨w.heap.size, 0, none⟩ = some (.int .u64 a0) := fun n os => cell_blk (((B1.out).trans (Gr.bw ⟨n, os, rfl⟩)).blk K0.out)
  have x1 : ∀ n os, (grow (w1.drewN n) os).cell? ⟨w.heap.size, 1, none⟩ = some (.int .i64 c0) := fun n os => cell_blk (((B1.out).trans (Gr.bw ⟨n, os, rfl⟩)).blk K0.out)
  have y0 : ∀ n os, (grow (w1.drewN n) os).cell? ⟨w.heap.size + 1, 0, none⟩ = some (.int .u64 a1) := fun n os => cell_blk (((B1.out).trans (Gr.bw ⟨n, os, rfl⟩)).blk K1.out)
  have y1 : ∀ n os, (grow (w1.drewN n) os).cell? ⟨w.heap.size + 1, 1, none⟩ = some (.int .i64 c1) := fun n os => cell_blk (((B1.out).trans (Gr.bw ⟨n, os, rfl⟩)).blk K1.out)
  have z0 : ∀ n os, (grow (w1.drewN n) os).cell? ⟨w.heap.size + 2, 0, none⟩ = some (.int .u64 a2) := fun n os => cell_blk (((B1.out).trans (Gr.bw ⟨n, os, rfl⟩)).blk K2.out)
  have z1 : ∀ n os, (grow (w1.drewN n) os).cell? ⟨w.heap.size + 2, 1, none⟩ = some (.int .i64 c2) := fun n os => cell_blk (((B1.out).trans (Gr.bw ⟨n, os, rfl⟩)).blk K2.out)
  have u0 : ∀ n os, (grow (w1.drewN n) os).cell? ⟨w.heap.size + 3, 0, none⟩ = some (.int .u64 a3) := fun n os => cell_blk (((B1.out).trans (Gr.bw ⟨n, os, rfl⟩)).blk K3.out)
  have u1 : ∀ n os, (grow (w1.drewN n) os).cell? ⟨w.heap.size + 3, 1, none⟩ = some (.int .i64 c3) := fun n os => cell_blk (((B1.out).trans (Gr.bw ⟨n, os, rfl⟩)).blk K3.out)
  go_quiet_grown (first
    | (go_at_call 18; with_reducible exact grown_of_Gr (c_Compare _ _ _ _ _))
    | (go_at_call 24; with_reducible exact grown_of_Gr (c_rCompare' _ _ _ _ _))
    | (go_at_call 19; with_reducible exact grown_of_Gr (c_Confs _ _ _ _ _))
    | (go_at_call 25; with_reducible exact grown_of_Gr (c_rConfs' _ _ _ _ _)))
  have hB2 : Bw w (grow (w1.drewN nq) osq) := BW.out.trans (Gr.bw ⟨nq, osq, rfl⟩)
  generalize grow (w1.drewN nq) osq = w2 at hB2 ⊢
  have B2 := Lib.hid hB2
  clear hB2 x0 x1 y0 y1 z0 z1 u0 u1
  have e4 := kc_self (gk l4 l4.length).1 (gk l4 l4.length).2
  have e5 := kc_self (gk l5 l5.length).1 (gk l5 l5.length).2
  go_wp2_with fail
  refine (c_Last _ l4 w2 (H4.out.bw B2.out) (by omega)).mono ?_
  rintro e w3 ⟨rfl, hb3⟩
  have B3 := Lib.hid (B2.out.trans hb3)
  clear hb3 B2
  go_wp2_with fail
  refine (c_rLast _ l4 w3 (H4.out.bw B3.out) (by omega)).mono ?_
  rintro e w4 ⟨rfl, hb4⟩
  have B4 := Lib.hid (B3.out.trans hb4)
  clear hb4 B3
  go_wp2_with fail
  refine (c_Newest _ l5 w4 (H5.out.bw B4.out) (by omega)).mono ?_
  rintro e w5 ⟨rfl, hb5⟩
  have B5 := Lib.hid (B4.out.trans hb5)
  clear hb5 B4
  go_wp2_with fail
  refine (c_rNewest _ l5 w5 (H5.out.bw B5.out) (by omega)).mono ?_
  rintro e w6 ⟨rfl, hb6⟩
  have B6 := Lib.hid (B5.out.trans hb6)
  clear hb6 B5
  go_wp2_with fail
  refine (c_Above _ l6 w6 (H6.out.bw B6.out) (by omega) (gu_range G6.out).1 (gu_range G6.out).2).mono ?_
  rintro e w7 ⟨rfl, rfl⟩
  rw [show sumU (gu l6 l6.length) 1 = aboveU l6 from rfl]
  go_wp2_with fail
  refine (c_rAbove _ l6 _ (H6.out.bw B6.out) (by omega) G6.out).mono ?_
  rintro e w8 ⟨rfl, rfl⟩
  go_wp2
  go_ret
  exact ⟨rfl, B6.out⟩
end Go.Proofs.Ytllmiaonlofeeaa
