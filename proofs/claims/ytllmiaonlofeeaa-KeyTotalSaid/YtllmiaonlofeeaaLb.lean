/-
  KeyTotal, walked. No conditions beyond what each theorem states.
-/
import Derived.Test.YtllmiaonlofeeaaPw
import Derived.Deep.DeepCutAuto
namespace Go.Proofs.Ytllmiaonlofeeaa
open Go.RowKit Go.Sort

attribute [local go_sem high] run_eqKey run_eqConf
set_option maxRecDepth 100000 in
set_option maxHeartbeats 2000000 in
theorem w_KeyTotal (a0 c0 a1 c1 a2 c2 a3 c3 a4 c4 a5 c5 : Int) (w : World) :
    Calls Try.prog 4 #[.agg #[.int .u64 a0, .int .i64 c0], .agg #[.int .u64 a1, .int .i64 c1], .agg #[.int .u64 a2, .int .i64 c2], .agg #[.int .u64 a3, .int .i64 c3], .agg #[.int .u64 a4, .int .i64 c4], .agg #[.int .u64 a5, .int .i64 c5]] w fun e w' => e = .returned (.bool true) ∧ Bw w w' := by
  have mixed : Try.prog.follows .mixedOrders = true := by kernel_rfl
  obtain ⟨W0, hW0, hB0, k0, k1, k2, k3, k4, k5⟩ := boxes6 w (.cells #[.int .u64 a0, .int .i64 c0] 29) (.cells #[.int .u64 a1, .int .i64 c1] 29) (.cells #[.int .u64 a2, .int .i64 c2] 29) (.cells #[.int .u64 a3, .int .i64 c3] 31) (.cells #[.int .u64 a4, .int .i64 c4] 31) (.cells #[.int .u64 a5, .int .i64 c5] 31)
  have HW0 := Lib.hid hW0
  have HB0 := Lib.hid hB0
  have K0 := Lib.hid k0
  have K1 := Lib.hid k1
  have K2 := Lib.hid k2
  have K3 := Lib.hid k3
  have K4 := Lib.hid k4
  have K5 := Lib.hid k5
  clear hW0 hB0 k0 k1 k2 k3 k4 k5
  go_enter Try.func4, Try.ntmps4
  go_wp2_with fail
  rw [← HW0.out]
  refine (c_awake3 _).mono ?_
  rintro e w1 ⟨rfl, hb1⟩
  have B1 := Lib.hid hb1
  clear hb1
  go_upto_region 3 with fail
  go_cut [51] from 16 (fun s51 wx => s51 = .bool false ∧ Hid (Bw w1 wx))
  case first =>
    have x0 : ∀ n os, (grow (w1.drewN n) os).cell? ⟨w.heap.size, 0, none⟩ = some (.int .u64 a0) := fun n os => cell_blk (((B1.out).trans (Gr.bw ⟨n, os, rfl⟩)).blk K0.out)
    have x1 : ∀ n os, (grow (w1.drewN n) os).cell? ⟨w.heap.size, 1, none⟩ = some (.int .i64 c0) := fun n os => cell_blk (((B1.out).trans (Gr.bw ⟨n, os, rfl⟩)).blk K0.out)
    have y0 : ∀ n os, (grow (w1.drewN n) os).cell? ⟨w.heap.size + 1, 0, none⟩ = some (.int .u64 a1) := fun n os => cell_blk (((B1.out).trans (Gr.bw ⟨n, os, rfl⟩)).blk K1.out)
    have y1 : ∀ n os, (grow (w1.drewN n) os).cell? ⟨w.heap.size + 1, 1, none⟩ = some (.int .i64 c1) := fun n os => cell_blk (((B1.out).trans (Gr.bw ⟨n, os, rfl⟩)).blk K1.out)
    have z0 : ∀ n os, (grow (w1.drewN n) os).cell? ⟨w.heap.size + 2, 0, none⟩ = some (.int .u64 a2) := fun n os => cell_blk (((B1.out).trans (Gr.bw ⟨n, os, rfl⟩)).blk K2.out)
    have z1 : ∀ n os, (grow (w1.drewN n) os).cell? ⟨w.heap.size + 2, 1, none⟩ = some (.int .i64 c2) := fun n os => cell_blk (((B1.out).trans (Gr.bw ⟨n, os, rfl⟩)).blk K2.out)
    have hneg := kc_neg_wrap a0 c0 a1 c1
    by_cases h1 : keyCmp a0 c0 a1 c1 < 0
    · by_cases h2 : keyCmp a1 c1 a2 c2 < 0
      · have h3 : ¬ 0 ≤ keyCmp a0 c0 a2 c2 := by have := kc_neg_trans h1 h2; omega
        have h4 : decide (0 ≤ keyCmp a0 c0 a2 c2) = false := decide_eq_false h3
        go_quiet_grown (first | (go_at_call 18; with_reducible exact grown_of_Gr (c_Compare _ _ _ _ _)))
        go_wp2_with fail
        go_meet
        exact ⟨rfl, Gr.bw ⟨nq, osq, rfl⟩⟩
      · have h4 : decide (keyCmp a1 c1 a2 c2 < 0) = false := decide_eq_false h2
        go_quiet_grown (first | (go_at_call 18; with_reducible exact grown_of_Gr (c_Compare _ _ _ _ _)))
        go_wp2_with fail
        go_meet
        exact ⟨rfl, Gr.bw ⟨nq, osq, rfl⟩⟩
    · have h4 : decide (keyCmp a0 c0 a1 c1 < 0) = false := decide_eq_false h1
      go_quiet_grown (first | (go_at_call 18; with_reducible exact grown_of_Gr (c_Compare _ _ _ _ _)))
      go_wp2_with fail
      go_meet
      exact ⟨rfl, Gr.bw ⟨nq, osq, rfl⟩⟩
  case rest =>
  obtain ⟨rfl, hb⟩ := hcut
  have B2 := Lib.hid (B1.out.trans hb.out)
  clear hb
  go_upto_region 5 with fail
  go_cut [87] from 52 (fun s87 wx => s87 = .bool false ∧ Hid (Bw wc wx))
  case first =>
    have x0 : ∀ n os, (grow (wc.drewN n) os).cell? ⟨w.heap.size + 3, 0, none⟩ = some (.int .u64 a3) := fun n os => cell_blk (((B2.out).trans (Gr.bw ⟨n, os, rfl⟩)).blk K3.out)
    have x1 : ∀ n os, (grow (wc.drewN n) os).cell? ⟨w.heap.size + 3, 1, none⟩ = some (.int .i64 c3) := fun n os => cell_blk (((B2.out).trans (Gr.bw ⟨n, os, rfl⟩)).blk K3.out)
    have y0 : ∀ n os, (grow (wc.drewN n) os).cell? ⟨w.heap.size + 4, 0, none⟩ = some (.int .u64 a4) := fun n os => cell_blk (((B2.out).trans (Gr.bw ⟨n, os, rfl⟩)).blk K4.out)
    have y1 : ∀ n os, (grow (wc.drewN n) os).cell? ⟨w.heap.size + 4, 1, none⟩ = some (.int .i64 c4) := fun n os => cell_blk (((B2.out).trans (Gr.bw ⟨n, os, rfl⟩)).blk K4.out)
    have z0 : ∀ n os, (grow (wc.drewN n) os).cell? ⟨w.heap.size + 5, 0, none⟩ = some (.int .u64 a5) := fun n os => cell_blk (((B2.out).trans (Gr.bw ⟨n, os, rfl⟩)).blk K5.out)
    have z1 : ∀ n os, (grow (wc.drewN n) os).cell? ⟨w.heap.size + 5, 1, none⟩ = some (.int .i64 c5) := fun n os => cell_blk (((B2.out).trans (Gr.bw ⟨n, os, rfl⟩)).blk K5.out)
    have hneg := kc_neg_wrap a3 c3 a4 c4
    by_cases h1 : keyCmp a3 c3 a4 c4 < 0
    · by_cases h2 : keyCmp a4 c4 a5 c5 < 0
      · have h3 : ¬ 0 ≤ keyCmp a3 c3 a5 c5 := by have := kc_neg_trans h1 h2; omega
        have h4 : decide (0 ≤ keyCmp a3 c3 a5 c5) = false := decide_eq_false h3
        go_quiet_grown (first | (go_at_call 19; with_reducible exact grown_of_Gr (c_Confs _ _ _ _ _)))
        go_wp2_with fail
        go_meet
        exact ⟨rfl, Gr.bw ⟨nq, osq, rfl⟩⟩
      · have h4 : decide (keyCmp a4 c4 a5 c5 < 0) = false := decide_eq_false h2
        go_quiet_grown (first | (go_at_call 19; with_reducible exact grown_of_Gr (c_Confs _ _ _ _ _)))
        go_wp2_with fail
        go_meet
        exact ⟨rfl, Gr.bw ⟨nq, osq, rfl⟩⟩
    · have h4 : decide (keyCmp a3 c3 a4 c4 < 0) = false := decide_eq_false h1
      go_quiet_grown (first | (go_at_call 19; with_reducible exact grown_of_Gr (c_Confs _ _ _ _ _)))
      go_wp2_with fail
      go_meet
      exact ⟨rfl, Gr.bw ⟨nq, osq, rfl⟩⟩
  case rest =>
  obtain ⟨rfl, hb⟩ := hcut
  have B3 := Lib.hid (B2.out.trans hb.out)
  clear hb
  have hPA : Hid (PAt (wc.alloc (.cells #[.int .u64 a0, .int .i64 c0, .int .u64 a1, .int .i64 c1, .int .u64 a2, .int .i64 c2] 29)) (.slice (some ⟨wc.heap.size, 0, none⟩) 3 3) [(a0, c0), (a1, c1), (a2, c2)]) := Or.inr ⟨_, 0, 3, rfl, lt_blk (heap_alloc_new _ _), fun i hi => by
    rw [cell_blk (heap_alloc_new _ _), cell_blk (heap_alloc_new _ _)]
    match i, hi with
    | 0, _ => exact ⟨rfl, rfl⟩
    | 1, _ => exact ⟨rfl, rfl⟩
    | 2, _ => exact ⟨rfl, rfl⟩⟩
  have q0 : wc.cell? ⟨w.heap.size, 0, none⟩ = some (.int .u64 a0) := cell_blk (B3.out.blk K0.out)
  have q1 : wc.cell? ⟨w.heap.size, 1, none⟩ = some (.int .i64 c0) := cell_blk (B3.out.blk K0.out)
  have q2 : wc.cell? ⟨w.heap.size + 1, 0, none⟩ = some (.int .u64 a1) := cell_blk (B3.out.blk K1.out)
  have q3 : wc.cell? ⟨w.heap.size + 1, 1, none⟩ = some (.int .i64 c1) := cell_blk (B3.out.blk K1.out)
  have q4 : wc.cell? ⟨w.heap.size + 2, 0, none⟩ = some (.int .u64 a2) := cell_blk (B3.out.blk K2.out)
  have q5 : wc.cell? ⟨w.heap.size + 2, 1, none⟩ = some (.int .i64 c2) := cell_blk (B3.out.blk K2.out)
  go_wp2_with fail
  refine (c_Last _ _ _ hPA.out (by simp)).mono ?_
  rintro e w5 ⟨rfl, hb5⟩
  have B5 := Lib.hid ((B3.out.trans (Bw.alloc _ _)).trans hb5)
  obtain ⟨hm, hmm⟩ := gk_three (a0, c0) (a1, c1) (a2, c2)
  rw [show [(a0, c0), (a1, c1), (a2, c2)].length = 3 from rfl]
  clear hb5 hPA q0 q1 q2 q3 q4 q5
  generalize gk [(a0, c0), (a1, c1), (a2, c2)] 3 = M at hm hmm ⊢
  obtain ⟨m, r⟩ := M
  have HMM := Lib.hid hmm
  have HM := Lib.hid hm
  clear hm hmm
  go_upto_region 8 with fail
  have hB8 := B5.out.trans (Bw.alloc w5 (.cells #[.int .u64 m, .int .i64 r] 29))
  have hN8 := heap_alloc_new w5 (.cells #[.int .u64 m, .int .i64 r] 29)
  generalize w5.alloc (.cells #[.int .u64 m, .int .i64 r] 29) = W at hB8 hN8 ⊢
  have B8 := Lib.hid hB8
  have N8 := Lib.hid hN8
  clear hB8 hN8
  have x0 : ∀ n os, (grow (W.drewN n) os).cell? ⟨w.heap.size, 0, none⟩ = some (.int .u64 a0) := fun n os => cell_blk (((B8.out).trans (Gr.bw ⟨n, os, rfl⟩)).blk K0.out)
  have x0' : W.cell? ⟨w.heap.size, 0, none⟩ = some (.int .u64 a0) := by have := x0 0 #[]; simpa using this
  have x1 : ∀ n os, (grow (W.drewN n) os).cell? ⟨w.heap.size, 1, none⟩ = some (.int .i64 c0) := fun n os => cell_blk (((B8.out).trans (Gr.bw ⟨n, os, rfl⟩)).blk K0.out)
  have x1' : W.cell? ⟨w.heap.size, 1, none⟩ = some (.int .i64 c0) := by have := x1 0 #[]; simpa using this
  have y0 : ∀ n os, (grow (W.drewN n) os).cell? ⟨w.heap.size + 1, 0, none⟩ = some (.int .u64 a1) := fun n os => cell_blk (((B8.out).trans (Gr.bw ⟨n, os, rfl⟩)).blk K1.out)
  have y0' : W.cell? ⟨w.heap.size + 1, 0, none⟩ = some (.int .u64 a1) := by have := y0 0 #[]; simpa using this
  have y1 : ∀ n os, (grow (W.drewN n) os).cell? ⟨w.heap.size + 1, 1, none⟩ = some (.int .i64 c1) := fun n os => cell_blk (((B8.out).trans (Gr.bw ⟨n, os, rfl⟩)).blk K1.out)
  have y1' : W.cell? ⟨w.heap.size + 1, 1, none⟩ = some (.int .i64 c1) := by have := y1 0 #[]; simpa using this
  have z0 : ∀ n os, (grow (W.drewN n) os).cell? ⟨w.heap.size + 2, 0, none⟩ = some (.int .u64 a2) := fun n os => cell_blk (((B8.out).trans (Gr.bw ⟨n, os, rfl⟩)).blk K2.out)
  have z0' : W.cell? ⟨w.heap.size + 2, 0, none⟩ = some (.int .u64 a2) := by have := z0 0 #[]; simpa using this
  have z1 : ∀ n os, (grow (W.drewN n) os).cell? ⟨w.heap.size + 2, 1, none⟩ = some (.int .i64 c2) := fun n os => cell_blk (((B8.out).trans (Gr.bw ⟨n, os, rfl⟩)).blk K2.out)
  have z1' : W.cell? ⟨w.heap.size + 2, 1, none⟩ = some (.int .i64 c2) := by have := z1 0 #[]; simpa using this
  have v0 : ∀ n os, (grow (W.drewN n) os).cell? ⟨w5.heap.size, 0, none⟩ = some (.int .u64 m) := fun n os => cell_blk (((Bw.refl W).trans (Gr.bw ⟨n, os, rfl⟩)).blk N8.out)
  have v0' : W.cell? ⟨w5.heap.size, 0, none⟩ = some (.int .u64 m) := by have := v0 0 #[]; simpa using this
  have v1 : ∀ n os, (grow (W.drewN n) os).cell? ⟨w5.heap.size, 1, none⟩ = some (.int .i64 r) := fun n os => cell_blk (((Bw.refl W).trans (Gr.bw ⟨n, os, rfl⟩)).blk N8.out)
  have v1' : W.cell? ⟨w5.heap.size, 1, none⟩ = some (.int .i64 r) := by have := v1 0 #[]; simpa using this
  have g0 : 0 ≤ keyCmp m r a0 c0 := (kcmp_ge (m, r) (a0, c0)).2 HM.out.1
  have g1 : 0 ≤ keyCmp m r a1 c1 := (kcmp_ge (m, r) (a1, c1)).2 HM.out.2.1
  have g2 : 0 ≤ keyCmp m r a2 c2 := (kcmp_ge (m, r) (a2, c2)).2 HM.out.2.2
  by_cases e0 : keyCmp m r a0 c0 = 0
  · have f0 : (keyCmp m r a0 c0 == 0) = true := by simpa using e0
    go_wp2_with fail
    refine (c_Compare _ _ _ _ _).mono ?_
    rintro e w9 ⟨rfl, hg9⟩
    obtain ⟨q9, o9, rfl⟩ := hg9
    go_wp2_with fail
    refine (c_Compare _ _ _ _ _).mono ?_
    rintro e w10 ⟨rfl, hg10⟩
    obtain ⟨q10, o10, rfl⟩ := Gr.trans ⟨q9, o9, rfl⟩ hg10
    clear hg10
    go_wp2_with fail
    refine (c_Compare _ _ _ _ _).mono ?_
    rintro e w11 ⟨rfl, hg11⟩
    obtain ⟨q11, o11, rfl⟩ := Gr.trans ⟨q10, o10, rfl⟩ hg11
    clear hg11
    go_wp2
    go_ret
    exact ⟨rfl, HB0.out.trans (B8.out.trans (Gr.bw ⟨q11, o11, rfl⟩))⟩
  · have f0 : (keyCmp m r a0 c0 == 0) = false := by simpa using e0
    by_cases e1 : keyCmp m r a1 c1 = 0
    · have f1 : (keyCmp m r a1 c1 == 0) = true := by simpa using e1
      go_wp2_with fail
      refine (c_Compare _ _ _ _ _).mono ?_
      rintro e w9 ⟨rfl, hg9⟩
      obtain ⟨q9, o9, rfl⟩ := hg9
      go_wp2_with fail
      refine (c_Compare _ _ _ _ _).mono ?_
      rintro e w10 ⟨rfl, hg10⟩
      obtain ⟨q10, o10, rfl⟩ := Gr.trans ⟨q9, o9, rfl⟩ hg10
      clear hg10
      go_wp2_with fail
      refine (c_Compare _ _ _ _ _).mono ?_
      rintro e w11 ⟨rfl, hg11⟩
      obtain ⟨q11, o11, rfl⟩ := Gr.trans ⟨q10, o10, rfl⟩ hg11
      clear hg11
      go_wp2
      go_ret
      exact ⟨rfl, HB0.out.trans (B8.out.trans (Gr.bw ⟨q11, o11, rfl⟩))⟩
    · have f1 : (keyCmp m r a1 c1 == 0) = false := by simpa using e1
      have f2 : (keyCmp m r a2 c2 == 0) = true := by
        rcases HMM.out with h | h | h
        · exact absurd ((kcmp_eq (m, r) (a0, c0)).2 h) e0
        · exact absurd ((kcmp_eq (m, r) (a1, c1)).2 h) e1
        · have h7 : keyCmp m r a2 c2 = 0 := (kcmp_eq (m, r) (a2, c2)).2 h
          simpa using h7
      go_wp2_with fail
      refine (c_Compare _ _ _ _ _).mono ?_
      rintro e w9 ⟨rfl, hg9⟩
      obtain ⟨q9, o9, rfl⟩ := hg9
      go_wp2_with fail
      refine (c_Compare _ _ _ _ _).mono ?_
      rintro e w10 ⟨rfl, hg10⟩
      obtain ⟨q10, o10, rfl⟩ := Gr.trans ⟨q9, o9, rfl⟩ hg10
      clear hg10
      go_wp2_with fail
      refine (c_Compare _ _ _ _ _).mono ?_
      rintro e w11 ⟨rfl, hg11⟩
      obtain ⟨q11, o11, rfl⟩ := Gr.trans ⟨q10, o10, rfl⟩ hg11
      clear hg11
      go_wp2
      go_ret
      exact ⟨rfl, HB0.out.trans (B8.out.trans (Gr.bw ⟨q11, o11, rfl⟩))⟩
end Go.Proofs.Ytllmiaonlofeeaa
