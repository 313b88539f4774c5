/-
  The reference's hold: Put, where it is put. No conditions beyond what each theorem states.
-/
import Derived.Test.YtllmiaonlofeeaaId
namespace Go.Proofs.Ytllmiaonlofeeaa
open Go.RowKit Go.Sort
set_option linter.unusedSimpArgs false
set_option linter.unusedVariables false

/-- A message's six cells. -/
theorem six_of {w : World} {k : Nat} {x : Msg} (h : w.heap[k]? = some (.cells #[.int .i64 x.frm, .int .u32 x.seq, .int .u64 x.stamp, .int .i64 x.svc, .slice x.da x.dl x.dc, .string x.pay] 43 (0, 0))) :
    w.cell? ⟨k, 0, none⟩ = some (.int .i64 x.frm) ∧ w.cell? ⟨k, 1, none⟩ = some (.int .u32 x.seq) ∧ w.cell? ⟨k, 2, none⟩ = some (.int .u64 x.stamp) ∧ w.cell? ⟨k, 3, none⟩ = some (.int .i64 x.svc) ∧ w.cell? ⟨k, 4, none⟩ = some (.slice x.da x.dl x.dc) ∧ w.cell? ⟨k, 5, none⟩ = some (.string x.pay) :=
  ⟨cell_blk h, cell_blk h, cell_blk h, cell_blk h, cell_blk h, cell_blk h⟩
theorem Keep.setRow {P : Nat → Prop} {w w' : World} (h : Keep P w w') {g : Nat} (hg : ¬ P g) (cs : Array Value) : Keep P w (w'.setRow g cs) :=
  h.trans ⟨rfl, rfl, rfl, by rw [setRow_size]; exact Nat.le_refl _, fun k hk _ => setRow_other _ _ _ _ (fun e => hg (e ▸ hk))⟩
theorem own_lit {b : Nat} (w : World) (hb : b ≤ w.heap.size) : Own6 b (w.alloc (.cells #[] 43)) (.slice (some ⟨w.heap.size, 0, none⟩) 0 0) [] :=
  World.ownsRow_lit (e := 43) (size := 6) w #[] 0 hb (by unfold maxLen; omega) rfl
theorem put_fin {w w1 w4 : World} {v : Value} {l : List Msg} (hs : w.heap.size + 2 < w1.heap.size) (ho : Own6 w1.heap.size w4 v l) (hb : Bw w w1) (hb4 : Bw w1 w4) (u : Value) (cs : Array Value) :
    Own6 w.heap.size ((w4.setCell ⟨w.heap.size, 0, none⟩ u).setRow (w.heap.size + 2) cs) v l ∧ Bw w ((w4.setCell ⟨w.heap.size, 0, none⟩ u).setRow (w.heap.size + 2) cs) := by
  have hn1 : ¬ (fun k => w1.heap.size ≤ k) w.heap.size := by show ¬ _ ≤ _; omega
  have hn2 : ¬ (fun k => w1.heap.size ≤ k) (w.heap.size + 2) := by show ¬ _ ≤ _; omega
  refine ⟨Own6.keep (ho.mono (by omega)) (P := fun k => w1.heap.size ≤ k) (((Keep.refl _ _).setCell (p := ⟨w.heap.size, 0, none⟩) hn1 _).setRow hn2 _) (fun g hg => (World.ownsRow.lt ho g hg).1), ?_⟩
  exact Bw.setRow (Below.setCell (hb.trans hb4) (p := ⟨w.heap.size, 0, none⟩) (Nat.le_refl _) _) (by omega) _
set_option maxRecDepth 100000 in
set_option maxHeartbeats 4000000 in
theorem c_rhPut_ok (va : Value) (la : List Msg) (LA : List DM) (low : Nat → Int) (x : Msg) (w : World) (h : Own6 0 w va la) (hD : DL w la LA) (hn : la.length ≤ 999999) (hp : InP x.frm) (hok : 0 ≤ x.seq ∧ x.seq ≤ 4294967295) (hs : x.seq = ((ofP LA x.frm).length : Int) + 1) :
    Calls Try.prog 36 #[.agg (refCells va low), .agg #[.int .i64 x.frm, .int .u32 x.seq, .int .u64 x.stamp, .int .i64 x.svc, .slice x.da x.dl x.dc, .string x.pay]] w fun e w' => ∃ va', e = .returned (.tuple #[.agg (refCells va' low), .int .i64 0]) ∧ Own6 w.heap.size w' va' (la ++ [x]) ∧ Bw w w' := by
  have mixed : Try.prog.follows .mixedOrders = true := by kernel_rfl
  have hv : va.oneCell' = true := by obtain ⟨a, c, rfl⟩ := h.at.form; rfl
  obtain ⟨wa, hwa⟩ : ∃ wa, wa = w.alloc (.cells (refCells va low) 59) := ⟨_, rfl⟩
  obtain ⟨wb, hwb⟩ : ∃ wb, wb = wa.alloc (.cells #[.int .i64 x.frm, .int .u32 x.seq, .int .u64 x.stamp, .int .i64 x.svc, .slice x.da x.dl x.dc, .string x.pay] 43) := ⟨_, rfl⟩
  obtain ⟨wc, hwc⟩ : ∃ wc, wc = wb.alloc (.cells (refCells (.slice none 0 0) (fun _ => 0)) 59) := ⟨_, rfl⟩
  have hza : wa.heap.size = w.heap.size + 1 := by rw [hwa]; simp
  have hzb : wb.heap.size = w.heap.size + 2 := by rw [hwb]; simp [hza]
  have hBa : Gr w wa := hwa ▸ Gr.alloc _ _
  have hBb : Gr wa wb := hwb ▸ Gr.alloc _ _
  have hBc : Gr wb wc := hwc ▸ Gr.alloc _ _
  have hB : Gr w wc := (hBa.trans hBb).trans hBc
  have hra : RefBlk wa w.heap.size va low := hwa ▸ heap_alloc_new _ _
  have hmb : wb.heap[w.heap.size + 1]? = some (.cells #[.int .i64 x.frm, .int .u32 x.seq, .int .u64 x.stamp, .int .i64 x.svc, .slice x.da x.dl x.dc, .string x.pay] 43 (0, 0)) := by rw [← hza, hwb]; exact msg_alloc _ _
  have hrz : RefBlk wc (w.heap.size + 2) (.slice none 0 0) (fun _ => 0) := by rw [← hzb, hwc]; exact heap_alloc_new _ _
  have hrc : RefBlk wc w.heap.size va low := hBc.bw.blk (hBb.bw.blk hra)
  have hmc := hBc.bw.blk hmb
  have HWA := Lib.hid hwa
  have HWB := Lib.hid hwb
  have HWC := Lib.hid hwc
  have HZA := Lib.hid hza
  have HZB := Lib.hid hzb
  have HB := Lib.hid hB
  have HRC := Lib.hid hrc
  have HRZ := Lib.hid hrz
  have HMC := Lib.hid hmc
  clear hwa hwb hwc hza hzb hBa hBb hBc hB hra hmb
  have x0 : wc.cell? ⟨w.heap.size + 1, 0, none⟩ = some (.int .i64 x.frm) := cell_blk hmc
  have hz1 : w.heap.size + 1 < wc.heap.size := lt_blk hmc
  have hl0 : 0 ≤ x.frm := hp.1
  have hl1 : x.frm < 64 := hp.2
  have g0 : ∀ n os, (grow (wc.drewN n) os).cell? ⟨w.heap.size + 1, 0, none⟩ = some (.int .i64 x.frm) := fun n os => cell_blk ((Gr.bw ⟨n, os, rfl⟩).blk hmc)
  have g1 : ∀ n os, (grow (wc.drewN n) os).cell? ⟨w.heap.size + 1, 1, none⟩ = some (.int .u32 x.seq) := fun n os => cell_blk ((Gr.bw ⟨n, os, rfl⟩).blk hmc)
  have GL : Hid (∀ w', (∃ p : GrownBy, w' = grow (wc.drewN p.n) p.os) → RefBlk w' w.heap.size va low) := (show _ from by rintro _ ⟨p, rfl⟩; exact (Gr.bw ⟨p.n, p.os, rfl⟩).blk hrc)
  have HC : Hid (∀ (k : Nat) (os : Array Obj), Calls Try.prog 41 #[.agg (refCells va low), .int .i64 x.frm] (grow (wc.drewN k) os) fun e w' => e = .returned (.int .u32 ((ofP LA x.frm).length : Int)) ∧ Gr (grow (wc.drewN k) os) w') :=
    fun k os => c_rhCount va la LA low x.frm _ (h.at.bw (HB.out.bw.trans (Gr.bw ⟨k, os, rfl⟩))) (hD.bw (HB.out.bw.trans (Gr.bw ⟨k, os, rfl⟩))) (by omega)
  obtain ⟨n, hnn⟩ : ∃ n : Int, n = ((ofP LA x.frm).length : Int) := ⟨_, rfl⟩
  have hnb : 0 ≤ n ∧ n ≤ 1000000 := by
    have h1 := ofP_len LA x.frm
    have h2 := hD.1
    omega
  rw [← hnn] at HC hs
  obtain ⟨hnb0, hnb1⟩ := hnb
  have e1 : IntKind.u64.wrap x.seq = x.seq := by rw [IntKind.wrap_u64]; omega
  have e2 : IntKind.u64.wrap n = n := by rw [IntKind.wrap_u64]; omega
  have e3 : IntKind.u64.wrap (n + 1) = n + 1 := by rw [IntKind.wrap_u64]; omega
  have eb : (x.seq != n + 1) = false := by simpa using hs
  have HV := Lib.hid hv
  have HO := Lib.hid h
  have HNL := Lib.hid hn
  clear hmc hs hnn h hD hok hp hrc hrz hv hn
  go_enter Try.func36, Try.ntmps36
  go_upto_region 1 with (refine wpList_alloc_ref ?_)
  rw [← HWA.out, ← HWB.out, ← HWC.out, show w.heap.size + 1 + 1 = w.heap.size + 2 from rfl]
  go_wp2_with fail
  refine wp_region_quiet_grown (by assumption) (by kernel_rfl) ?_
  iterate 3 (quiet_step (fail))
  refine wpQuiet_load_ref (by rfl) GL.out ?_
  simp only [Act.put, List.setIfInBounds_toArray, List.set_cons_zero, List.set_cons_succ]
  repeat (quiet_step (first | (go_at_call 41; with_reducible exact grown_of_Gr (HC.out _ _))))
  refine wpQuiet_nil ?_
  intro _ hw'
  obtain ⟨⟨nq, osq⟩, hw2⟩ := hw'
  subst hw2
  have hrc := (Gr.bw ⟨nq, osq, rfl⟩ : Bw wc (grow (wc.drewN nq) osq)).blk HRC.out
  have hrz := (Gr.bw ⟨nq, osq, rfl⟩ : Bw wc (grow (wc.drewN nq) osq)).blk HRZ.out
  have hmc := (Gr.bw ⟨nq, osq, rfl⟩ : Bw wc (grow (wc.drewN nq) osq)).blk HMC.out
  have hbw := HB.out.bw.trans (Gr.bw ⟨nq, osq, rfl⟩ : Bw wc (grow (wc.drewN nq) osq))
  clear g0 g1 x0 GL HC
  generalize grow (wc.drewN nq) osq = w1 at hrc hrz hbw hmc ⊢
  go_upto_region 5 with fail
  have HB1 := Lib.hid hbw
  have HR1 := Lib.hid hrc
  have HZ1 := Lib.hid hrz
  have HM1 := Lib.hid hmc
  have hs1 : w.heap.size + 2 < w1.heap.size := lt_blk hrz
  have HMA := Lib.hid (HO.out.at.bw hbw)
  have KP : Hid (∀ w', Bw w1 w' → (fun w' => w'.cell? ⟨w.heap.size, 0, none⟩ = some va ∧ w'.cell? ⟨w.heap.size + 1, 0, none⟩ = some (.int .i64 x.frm) ∧ w'.cell? ⟨w.heap.size + 1, 1, none⟩ = some (.int .u32 x.seq) ∧ w'.cell? ⟨w.heap.size + 1, 2, none⟩ = some (.int .u64 x.stamp) ∧ w'.cell? ⟨w.heap.size + 1, 3, none⟩ = some (.int .i64 x.svc) ∧ w'.cell? ⟨w.heap.size + 1, 4, none⟩ = some (.slice x.da x.dl x.dc) ∧ w'.cell? ⟨w.heap.size + 1, 5, none⟩ = some (.string x.pay)) w') := (show _ from fun w' hb => ⟨ref_all_cell (hb.blk hrc), six_of (hb.blk hmc)⟩)
  have r0 : ∀ w', Bw w1 w' → w'.cell? ⟨w.heap.size, 0, none⟩ = some va := fun w' hb => ref_all_cell (hb.blk HR1.out)
  have f0 : ∀ w', Bw w1 w' → w'.frozen? ⟨w.heap.size, 0, none⟩ = false := fun w' hb => soft_blk (hb.blk HR1.out)
  have HR0 := Lib.hid r0
  have HF0 := Lib.hid f0
  have hz1' := hs1
  clear hbw hrc hrz hmc r0 f0
  refine wp_region_noPanic ?_
  refine wp_region_last (S := (fun w' => w'.cell? ⟨w.heap.size, 0, none⟩ = some va ∧ w'.cell? ⟨w.heap.size + 1, 0, none⟩ = some (.int .i64 x.frm) ∧ w'.cell? ⟨w.heap.size + 1, 1, none⟩ = some (.int .u32 x.seq) ∧ w'.cell? ⟨w.heap.size + 1, 2, none⟩ = some (.int .u64 x.stamp) ∧ w'.cell? ⟨w.heap.size + 1, 3, none⟩ = some (.int .i64 x.svc) ∧ w'.cell? ⟨w.heap.size + 1, 4, none⟩ = some (.slice x.da x.dl x.dc) ∧ w'.cell? ⟨w.heap.size + 1, 5, none⟩ = some (.string x.pay))) (by kernel_rfl) (by kernel_rfl) (by simp) (KP.out _ (Bw.drew _)) (fun hHeld => ?_)
  simp only [List.pop_toArray, List.dropLast_cons_cons, List.dropLast_singleton]
  refine wpAnyH_take (i := 1) (oi := _) (v := ?v1) rfl (by kernel_rfl) (by kernel_rfl) (by kernel_rfl) (fun _ _ _ h => h) (Or.inl ⟨by rfl, ?hy1⟩) (by assumption) ?rest1
  case hy1 => intro wS hSw; (try dsimp only at hSw); go_simp; (try with_reducible rfl)
  try simp only [Act.put, List.setIfInBounds_toArray, List.set_cons_zero, List.set_cons_succ]
  refine wpAnyH_take (i := 2) (oi := _) (v := ?v2) rfl (by kernel_rfl) (by kernel_rfl) (by kernel_rfl) (fun _ _ _ h => h) (Or.inl ⟨by rfl, ?hy2⟩) (by assumption) ?rest2
  case hy2 => intro wS hSw; (try dsimp only at hSw); go_simp; (try with_reducible rfl)
  try simp only [Act.put, List.setIfInBounds_toArray, List.set_cons_zero, List.set_cons_succ]
  refine wpAnyH_take (i := 4) (oi := _) (v := ?v3) rfl (by kernel_rfl) (by kernel_rfl) (by kernel_rfl) (fun _ _ _ h => h) (Or.inl ⟨by rfl, ?hy3⟩) (by assumption) ?rest3
  case hy3 => intro wS hSw; (try dsimp only at hSw); go_simp; (try with_reducible rfl)
  try simp only [Act.put, List.setIfInBounds_toArray, List.set_cons_zero, List.set_cons_succ]
  refine wpAnyH_ready (rs := [0, 5]) (by kernel_rfl) (by simp) ?_
  refine AllReadyH.cons (o := _) rfl (fun K hK => ?_) ?_
  · go_simp
    refine hK.out _ _ (KP.out _ ((Bw.drew _).trans (Bw.alloc _ _))) (fun hHeld2 => ?_)
    clear hK K hHeld
    have hHeld := hHeld2
    clear hHeld2
    try simp only [Act.put, List.setIfInBounds_toArray, List.set_cons_zero, List.set_cons_succ]
    refine wpAnyH_ready (rs := [3, 5]) (by kernel_rfl) (by simp) ?_
    refine AllReadyH.cons (o := _) rfl (fun K hK => ?_) ?_
    · (refine step_app6 rfl _ _ (by rfl) w1.heap.size _ va [] la (by rfl) (by rfl) (own_lit w1.drew (Nat.le_refl _)) (HMA.out.bw ((Bw.drew _).trans (Bw.alloc _ _))) (by have := HNL.out; simp; omega) (by simp) ?_; intro v3 w3 ho3 hg3 hb3; rw [List.nil_append] at ho3; have O3 := Lib.hid ho3; have B3 : Hid (Bw w1 w3) := (show _ from Below.grown ((Bw.drew _).trans (Bw.alloc _ _)) hg3 (by simp) (by intro k hk; cases hk; exact Nat.le_refl _)); clear ho3 hg3 hb3)
      refine hK.out _ _ (KP.out _ B3.out) (fun hHeld2 => ?_)
      clear hK K hHeld
      have hHeld := hHeld2
      clear hHeld2
      try simp only [Act.put, List.setIfInBounds_toArray, List.set_cons_zero, List.set_cons_succ]
      refine wpAnyH_ready (rs := [5]) (by kernel_rfl) (by simp) ?_
      refine AllReadyH.cons (o := _) rfl (fun K hK => ?_) ?_
      · go_simp
        refine hK.out _ _ (KP.out _ (B3.out.trans (Bw.alloc _ _))) (fun hHeld2 => ?_)
        clear hK K hHeld
        have hHeld := hHeld2
        clear hHeld2
        try simp only [Act.put, List.setIfInBounds_toArray, List.set_cons_zero, List.set_cons_succ]
        refine wpAnyH_ready (rs := [6]) (by kernel_rfl) (by simp) ?_
        refine AllReadyH.cons (o := _) rfl (fun K hK => ?_) ?_
        · (refine step_app6 rfl _ _ (by rfl) w1.heap.size _ _ la [x] (by rfl) (by rfl) (O3.out.bw (Bw.alloc _ _)) (MAt.one x (msg_alloc _ x)) (by have := HNL.out; simp; omega) (by have := B3.out.size; simp; omega) ?_; intro v4 w4 ho4 hg4 hb4; have O4 := Lib.hid ho4; have B4 : Hid (Bw w1 w4) := (show _ from Below.grown (B3.out.trans (Bw.alloc _ _)) hg4 (by have := B3.out.size; simp; omega) (Own6.row O3.out)); clear ho4 hg4 hb4)
          refine hK.out _ _ (KP.out _ B4.out) (fun hHeld2 => ?_)
          clear hK K hHeld
          have hHeld := hHeld2
          clear hHeld2
          try simp only [Act.put, List.setIfInBounds_toArray, List.set_cons_zero, List.set_cons_succ]
          refine wpAnyH_take (i := 7) (oi := _) (v := ?v4) rfl (by kernel_rfl) (by kernel_rfl) (by kernel_rfl) (fun _ _ _ h => h) (Or.inl ⟨by rfl, ?hy4⟩) (by assumption) ?rest4
          case hy4 => intro wS hSw; (try dsimp only at hSw); go_simp; (try with_reducible rfl)
          try simp only [Act.put, List.setIfInBounds_toArray, List.set_cons_zero, List.set_cons_succ]
          refine wpAnyH_done (by kernel_rfl) ?_ _
          refine lastQ_done rfl ?_
          obtain ⟨a4, c4, h4v⟩ := O4.out.at.form
          rw [List.length_append, List.length_singleton] at h4v
          subst h4v
          have r4 := HR0.out _ B4.out
          have f4 := HF0.out _ B4.out
          have z4 : w.heap.size + 2 < w4.heap.size := Nat.lt_of_lt_of_le hs1 B4.out.size
          go_simp
          refine NoPanic.normal ?_
          have hr5 := RefBlk.setAll (B4.out.blk HR1.out) (.slice a4 (la.length + 1) c4)
          have hz5 : RefBlk (w4.setCell ⟨w.heap.size, 0, none⟩ (.slice a4 (la.length + 1) c4)) (w.heap.size + 2) (.slice none 0 0) (fun _ => 0) := (set_other _ (by omega)).trans (B4.out.blk HZ1.out)
          have HZ5 := Lib.hid hz5
          have hone : (Value.slice a4 (la.length + 1) c4).oneCell' = true := rfl
          go_wp2_with (first | refine wpList_load_ref (by rfl) hr5 ?_ | (refine wpList_store_ref (by rfl) (by rfl) hz5 hone ?_; clear hz5 hr5))
          refine bodyPost_ret (ref_ret2 rfl _ _ (w.heap.size + 2) rfl rfl (setRow_ref HZ5.out)) rfl ⟨_, rfl, ?_⟩
          exact put_fin hs1 O4.out HB1.out B4.out _ _
        exact AllReadyH.nil
      exact AllReadyH.nil
    refine AllReadyH.cons (o := _) rfl (fun K hK => ?_) ?_
    · go_simp
      refine hK.out _ _ (KP.out _ (((Bw.drew _).trans (Bw.alloc _ _)).trans (Bw.alloc _ _))) (fun hHeld2 => ?_)
      clear hK K hHeld
      have hHeld := hHeld2
      clear hHeld2
      try simp only [Act.put, List.setIfInBounds_toArray, List.set_cons_zero, List.set_cons_succ]
      refine wpAnyH_ready (rs := [3]) (by kernel_rfl) (by simp) ?_
      refine AllReadyH.cons (o := _) rfl (fun K hK => ?_) ?_
      · (refine step_app6 rfl _ _ (by rfl) w1.heap.size _ va [] la (by rfl) (by rfl) ((own_lit w1.drew (Nat.le_refl _)).bw (Bw.alloc _ _)) (HMA.out.bw (((Bw.drew _).trans (Bw.alloc _ _)).trans (Bw.alloc _ _))) (by have := HNL.out; simp; omega) (by simp; omega) ?_; intro v3 w3 ho3 hg3 hb3; rw [List.nil_append] at ho3; have O3 := Lib.hid ho3; have B3 : Hid (Bw w1 w3) := (show _ from Below.grown (((Bw.drew _).trans (Bw.alloc _ _)).trans (Bw.alloc _ _)) hg3 (by simp; omega) (by intro k hk; cases hk; exact Nat.le_refl _)); have M3 : Hid (MAt w3 (.slice (some ⟨w1.heap.size + 1, 0, none⟩) 1 1) [x]) := (show _ from MAt.one x ((grown_keep hg3).blk (by intro k hk e; cases hk; simp at e) (by have := msg_alloc (w1.drew.alloc (.cells #[] 43)) x; rwa [show (w1.drew.alloc (.cells #[] 43)).heap.size = w1.heap.size + 1 by simp] at this))); clear ho3 hg3 hb3)
        refine hK.out _ _ (KP.out _ B3.out) (fun hHeld2 => ?_)
        clear hK K hHeld
        have hHeld := hHeld2
        clear hHeld2
        try simp only [Act.put, List.setIfInBounds_toArray, List.set_cons_zero, List.set_cons_succ]
        refine wpAnyH_ready (rs := [6]) (by kernel_rfl) (by simp) ?_
        refine AllReadyH.cons (o := _) rfl (fun K hK => ?_) ?_
        · (refine step_app6 rfl _ _ (by rfl) w1.heap.size _ _ la [x] (by rfl) (by rfl) O3.out M3.out (by have := HNL.out; simp; omega) B3.out.size ?_; intro v4 w4 ho4 hg4 hb4; have O4 := Lib.hid ho4; have B4 : Hid (Bw w1 w4) := (show _ from Below.grown B3.out hg4 B3.out.size (Own6.row O3.out)); clear ho4 hg4 hb4)
          refine hK.out _ _ (KP.out _ B4.out) (fun hHeld2 => ?_)
          clear hK K hHeld
          have hHeld := hHeld2
          clear hHeld2
          try simp only [Act.put, List.setIfInBounds_toArray, List.set_cons_zero, List.set_cons_succ]
          refine wpAnyH_take (i := 7) (oi := _) (v := ?v5) rfl (by kernel_rfl) (by kernel_rfl) (by kernel_rfl) (fun _ _ _ h => h) (Or.inl ⟨by rfl, ?hy5⟩) (by assumption) ?rest5
          case hy5 => intro wS hSw; (try dsimp only at hSw); go_simp; (try with_reducible rfl)
          try simp only [Act.put, List.setIfInBounds_toArray, List.set_cons_zero, List.set_cons_succ]
          refine wpAnyH_done (by kernel_rfl) ?_ _
          refine lastQ_done rfl ?_
          obtain ⟨a4, c4, h4v⟩ := O4.out.at.form
          rw [List.length_append, List.length_singleton] at h4v
          subst h4v
          have r4 := HR0.out _ B4.out
          have f4 := HF0.out _ B4.out
          have z4 : w.heap.size + 2 < w4.heap.size := Nat.lt_of_lt_of_le hs1 B4.out.size
          go_simp
          refine NoPanic.normal ?_
          have hr5 := RefBlk.setAll (B4.out.blk HR1.out) (.slice a4 (la.length + 1) c4)
          have hz5 : RefBlk (w4.setCell ⟨w.heap.size, 0, none⟩ (.slice a4 (la.length + 1) c4)) (w.heap.size + 2) (.slice none 0 0) (fun _ => 0) := (set_other _ (by omega)).trans (B4.out.blk HZ1.out)
          have HZ5 := Lib.hid hz5
          have hone : (Value.slice a4 (la.length + 1) c4).oneCell' = true := rfl
          go_wp2_with (first | refine wpList_load_ref (by rfl) hr5 ?_ | (refine wpList_store_ref (by rfl) (by rfl) hz5 hone ?_; clear hz5 hr5))
          refine bodyPost_ret (ref_ret2 rfl _ _ (w.heap.size + 2) rfl rfl (setRow_ref HZ5.out)) rfl ⟨_, rfl, ?_⟩
          exact put_fin hs1 O4.out HB1.out B4.out _ _
        exact AllReadyH.nil
      exact AllReadyH.nil
    exact AllReadyH.nil
  refine AllReadyH.cons (o := _) rfl (fun K hK => ?_) ?_
  · go_simp
    refine hK.out _ _ (KP.out _ ((Bw.drew _).trans (Bw.alloc _ _))) (fun hHeld2 => ?_)
    clear hK K hHeld
    have hHeld := hHeld2
    clear hHeld2
    try simp only [Act.put, List.setIfInBounds_toArray, List.set_cons_zero, List.set_cons_succ]
    refine wpAnyH_ready (rs := [0]) (by kernel_rfl) (by simp) ?_
    refine AllReadyH.cons (o := _) rfl (fun K hK => ?_) ?_
    · go_simp
      refine hK.out _ _ (KP.out _ (((Bw.drew _).trans (Bw.alloc _ _)).trans (Bw.alloc _ _))) (fun hHeld2 => ?_)
      clear hK K hHeld
      have hHeld := hHeld2
      clear hHeld2
      try simp only [Act.put, List.setIfInBounds_toArray, List.set_cons_zero, List.set_cons_succ]
      refine wpAnyH_ready (rs := [3]) (by kernel_rfl) (by simp) ?_
      refine AllReadyH.cons (o := _) rfl (fun K hK => ?_) ?_
      · (refine step_app6 rfl _ _ (by rfl) w1.heap.size _ va [] la (by rfl) (by rfl) (by have := own_lit (b := w1.heap.size) (w1.drew.alloc (.cells #[.int .i64 x.frm, .int .u32 x.seq, .int .u64 x.stamp, .int .i64 x.svc, .slice x.da x.dl x.dc, .string x.pay] 43)) (by simp); rwa [show (w1.drew.alloc (.cells #[.int .i64 x.frm, .int .u32 x.seq, .int .u64 x.stamp, .int .i64 x.svc, .slice x.da x.dl x.dc, .string x.pay] 43)).heap.size = w1.heap.size + 1 by simp] at this) (HMA.out.bw (((Bw.drew _).trans (Bw.alloc _ _)).trans (Bw.alloc _ _))) (by have := HNL.out; simp; omega) (by simp; omega) ?_; intro v3 w3 ho3 hg3 hb3; rw [List.nil_append] at ho3; have O3 := Lib.hid ho3; have B3 : Hid (Bw w1 w3) := (show _ from Below.grown (((Bw.drew _).trans (Bw.alloc _ _)).trans (Bw.alloc _ _)) hg3 (by simp; omega) (by intro k hk; cases hk; simp)); have M3 : Hid (MAt w3 (.slice (some ⟨w1.heap.size, 0, none⟩) 1 1) [x]) := (show _ from MAt.one x ((grown_keep hg3).blk (by intro k hk e; cases hk; simp at e) ((Bw.alloc _ _).blk (msg_alloc w1.drew x)))); clear ho3 hg3 hb3)
        refine hK.out _ _ (KP.out _ B3.out) (fun hHeld2 => ?_)
        clear hK K hHeld
        have hHeld := hHeld2
        clear hHeld2
        try simp only [Act.put, List.setIfInBounds_toArray, List.set_cons_zero, List.set_cons_succ]
        refine wpAnyH_ready (rs := [6]) (by kernel_rfl) (by simp) ?_
        refine AllReadyH.cons (o := _) rfl (fun K hK => ?_) ?_
        · (refine step_app6 rfl _ _ (by rfl) w1.heap.size _ _ la [x] (by rfl) (by rfl) O3.out M3.out (by have := HNL.out; simp; omega) B3.out.size ?_; intro v4 w4 ho4 hg4 hb4; have O4 := Lib.hid ho4; have B4 : Hid (Bw w1 w4) := (show _ from Below.grown B3.out hg4 B3.out.size (Own6.row O3.out)); clear ho4 hg4 hb4)
          refine hK.out _ _ (KP.out _ B4.out) (fun hHeld2 => ?_)
          clear hK K hHeld
          have hHeld := hHeld2
          clear hHeld2
          try simp only [Act.put, List.setIfInBounds_toArray, List.set_cons_zero, List.set_cons_succ]
          refine wpAnyH_take (i := 7) (oi := _) (v := ?v6) rfl (by kernel_rfl) (by kernel_rfl) (by kernel_rfl) (fun _ _ _ h => h) (Or.inl ⟨by rfl, ?hy6⟩) (by assumption) ?rest6
          case hy6 => intro wS hSw; (try dsimp only at hSw); go_simp; (try with_reducible rfl)
          try simp only [Act.put, List.setIfInBounds_toArray, List.set_cons_zero, List.set_cons_succ]
          refine wpAnyH_done (by kernel_rfl) ?_ _
          refine lastQ_done rfl ?_
          obtain ⟨a4, c4, h4v⟩ := O4.out.at.form
          rw [List.length_append, List.length_singleton] at h4v
          subst h4v
          have r4 := HR0.out _ B4.out
          have f4 := HF0.out _ B4.out
          have z4 : w.heap.size + 2 < w4.heap.size := Nat.lt_of_lt_of_le hs1 B4.out.size
          go_simp
          refine NoPanic.normal ?_
          have hr5 := RefBlk.setAll (B4.out.blk HR1.out) (.slice a4 (la.length + 1) c4)
          have hz5 : RefBlk (w4.setCell ⟨w.heap.size, 0, none⟩ (.slice a4 (la.length + 1) c4)) (w.heap.size + 2) (.slice none 0 0) (fun _ => 0) := (set_other _ (by omega)).trans (B4.out.blk HZ1.out)
          have HZ5 := Lib.hid hz5
          have hone : (Value.slice a4 (la.length + 1) c4).oneCell' = true := rfl
          go_wp2_with (first | refine wpList_load_ref (by rfl) hr5 ?_ | (refine wpList_store_ref (by rfl) (by rfl) hz5 hone ?_; clear hz5 hr5))
          refine bodyPost_ret (ref_ret2 rfl _ _ (w.heap.size + 2) rfl rfl (setRow_ref HZ5.out)) rfl ⟨_, rfl, ?_⟩
          exact put_fin hs1 O4.out HB1.out B4.out _ _
        exact AllReadyH.nil
      exact AllReadyH.nil
    exact AllReadyH.nil
  exact AllReadyH.nil
end Go.Proofs.Ytllmiaonlofeeaa
