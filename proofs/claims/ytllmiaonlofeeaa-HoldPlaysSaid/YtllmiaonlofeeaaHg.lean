/-
  The hold's Put, where it is put. No conditions beyond what each theorem states.
-/
import Derived.Test.YtllmiaonlofeeaaHh
import Derived.Deep.RegionHeld3
import Derived.Deep.AppendLies
namespace Go.Proofs.Ytllmiaonlofeeaa
open Go.RowKit Go.Sort

theorem both7 {a b c d e f g : Prop} (h : a ∧ b ∧ c ∧ d ∧ e ∧ f) (k : g) : a ∧ b ∧ c ∧ d ∧ e ∧ f ∧ g := ⟨h.1, h.2.1, h.2.2.1, h.2.2.2.1, h.2.2.2.2.1, h.2.2.2.2.2, k⟩
theorem msg_cells {w : World} {k : Nat} {x : Msg} {i : Nat} (hp : x.frm = i) (h : w.heap[k]? = some (.cells #[.int .i64 x.frm, .int .u32 x.seq, .int .u64 x.stamp, .int .i64 x.svc, .slice x.da x.dl x.dc, .string x.pay] 43 (0, 0))) :
    w.cell? ⟨k, 0, none⟩ = some (.int .i64 (i : Int)) ∧ w.cell? ⟨k, 1, none⟩ = some (.int .u32 x.seq) ∧ w.cell? ⟨k, 2, none⟩ = some (.int .u64 x.stamp) ∧ w.cell? ⟨k, 3, none⟩ = some (.int .i64 x.svc) ∧ w.cell? ⟨k, 4, none⟩ = some (.slice x.da x.dl x.dc) ∧ w.cell? ⟨k, 5, none⟩ = some (.string x.pay) :=
  ⟨by rw [← hp]; exact cell_blk h, cell_blk h, cell_blk h, cell_blk h, cell_blk h, cell_blk h⟩

theorem put_end {w w2 w3 : World} {b i s g3 c3 : Nat} {low : Nat → Int} {v : Nat → Value} {l : List Msg} {x2 : Msg} {D : DM} (h : HoldBlk w b low v) (hi : i < 64) (hv : Own6 0 w (v i) l) (hB : Bw w w2) (hs : w.heap.size ≤ s) (hL : DL w2 [x2] [D])
    (hP : DepsAll (fun k => s ≤ k) w2 [x2]) (hQ : ∀ x ∈ [x2], x.dl ≤ 1000000) (n3 : HoldBlk w3 b low v) (k3 : Keep (fun k => ∀ g, (v i).ownBlock = some g → k ≠ g) w2 w3)
    (o3 : w3.ownsRow 0 43 6 (.slice (some ⟨g3, 0, none⟩) (l.length + 1) c3) (l.length + 1) (flatM l ++ encM x2)) (a3 : (v i).ownBlock = some g3 ∨ g3 = w2.heap.size) :
    ∃ v' x', Ending.returned (.int .i64 0) = .returned (.int .i64 0) ∧ HoldBlk (w3.setCell ⟨b, 64 + i, none⟩ (.slice (some ⟨g3, 0, none⟩) (l.length + 1) c3)) b low (upd v i v') ∧
      Own6 0 (w3.setCell ⟨b, 64 + i, none⟩ (.slice (some ⟨g3, 0, none⟩) (l.length + 1) c3)) v' (l ++ [x']) ∧ Reads (w3.setCell ⟨b, 64 + i, none⟩ (.slice (some ⟨g3, 0, none⟩) (l.length + 1) c3)) x' D ∧
      DepsIn (fun k => w.heap.size ≤ k) (w3.setCell ⟨b, 64 + i, none⟩ (.slice (some ⟨g3, 0, none⟩) (l.length + 1) c3)) x'.da x'.dl ∧ x'.dl ≤ 1000000 ∧
      (∀ g, v'.ownBlock = some g → (v i).ownBlock = some g ∨ w.heap.size ≤ g) ∧ Keep (fun k => k ≠ b ∧ ∀ g, (v i).ownBlock = some g → k ≠ g) w (w3.setCell ⟨b, 64 + i, none⟩ (.slice (some ⟨g3, 0, none⟩) (l.length + 1) c3)) := by
  have hb : b < w.heap.size := lt_blk h
  have hbg := hold_apart h hv
  have hne : b ≠ g3 := by
    rcases a3 with a3 | a3
    · exact hbg _ a3
    · have := hB.size; omega
  have hnp : ¬ (fun k => k ≠ b ∧ ∀ g, (v i).ownBlock = some g → k ≠ g) b := fun e => e.1 rfl
  have hnb : ¬ (fun k => k ≠ b) b := fun e => e rfl
  have kk : Keep (fun k => k ≠ b ∧ ∀ g, (v i).ownBlock = some g → k ≠ g) w2 (w3.setCell ⟨b, 64 + i, none⟩ (.slice (some ⟨g3, 0, none⟩) (l.length + 1) c3)) := (k3.mono fun k hk => hk.2).setCell hnp _
  have ho : Own6 0 w3 (.slice (some ⟨g3, 0, none⟩) (l.length + 1) c3) (l ++ [x2]) := by
    unfold Own6
    rw [List.length_append, List.length_singleton, show flatM (l ++ [x2]) = flatM l ++ encM x2 by simp [flatM]]
    exact o3
  have hd : DepsIn (fun k => s ≤ k) w2 x2.da x2.dl := hP x2 (by simp)
  have hd2 : DepsIn (fun k => w.heap.size ≤ k ∧ k ≠ b ∧ ∀ g, (v i).ownBlock = some g → k ≠ g) w2 x2.da x2.dl := hd.mono fun k hk => ⟨by omega, by omega, fun g hg e => by have := (World.ownsRow.lt hv g hg).2; omega⟩
  have hr : Reads w2 x2 D := hL.2 0 (by simp)
  refine ⟨.slice (some ⟨g3, 0, none⟩) (l.length + 1) c3, x2, rfl, HoldBlk.setRow n3 hi _, ?_, hr.keep (hd2.mono fun k hk => hk.2) kk, ?_, hQ x2 (by simp), ?_, (hB.keep _).trans kk⟩
  · exact Own6.keep ho ((Keep.refl (fun k => k ≠ b) _).setCell hnb _) fun g hg => by simp only [Value.ownBlock, Option.some.injEq] at hg; subst hg; exact fun e => hne e.symm
  · exact (hd2.keep (kk.mono fun k hk => hk.2)).mono fun k hk => hk.1
  · intro g hg
    simp only [Value.ownBlock, Option.some.injEq] at hg
    subst hg
    rcases a3 with a3 | a3
    · exact Or.inl a3
    · right; have := hB.size; omega

set_option linter.unusedSimpArgs false in
set_option maxRecDepth 100000 in
set_option maxHeartbeats 4000000 in
theorem c_hPut_ok (b i : Nat) (x : Msg) (D : DM) (low : Nat → Int) (v : Nat → Value) (l : List Msg) (w : World) (h : HoldBlk w b low v) (hp : x.frm = i) (hi : i < 64) (hv : Own6 0 w (v i) l) (h0 : 0 ≤ low i) (h1 : low i + l.length ≤ 1000000)
    (hs : x.seq = low i + l.length + 1) (hx : Reads w x D) (hd : x.dl ≤ 1000000) :
    Calls Try.prog 35 #[.pointer (some ⟨b, 0, none⟩), .agg #[.int .i64 x.frm, .int .u32 x.seq, .int .u64 x.stamp, .int .i64 x.svc, .slice x.da x.dl x.dc, .string x.pay]] w fun e w' =>
      ∃ v' x', e = .returned (.int .i64 0) ∧ HoldBlk w' b low (upd v i v') ∧ Own6 0 w' v' (l ++ [x']) ∧ Reads w' x' D ∧ DepsIn (fun k => w.heap.size ≤ k) w' x'.da x'.dl ∧ x'.dl ≤ 1000000 ∧
        (∀ g, v'.ownBlock = some g → (v i).ownBlock = some g ∨ w.heap.size ≤ g) ∧ Keep (fun k => k ≠ b ∧ ∀ g, (v i).ownBlock = some g → k ≠ g) w w' := by
  have mixed : Try.prog.follows .mixedOrders = true := by kernel_rfl
  obtain ⟨a, c, hvf⟩ := hv.at.form
  have hz : 0 ≤ x.frm ∧ x.frm < 64 := by omega
  have hll : l.length ≤ 1000000 := by omega
  have HZ := Lib.hid hz
  obtain ⟨W, hW⟩ : ∃ W, W = w.alloc (.cells #[.int .i64 x.frm, .int .u32 x.seq, .int .u64 x.stamp, .int .i64 x.svc, .slice x.da x.dl x.dc, .string x.pay] 43) := ⟨_, rfl⟩
  have hB : Bw w W := hW ▸ Bw.alloc _ _
  have hN : W.heap[w.heap.size]? = some (.cells #[.int .i64 x.frm, .int .u32 x.seq, .int .u64 x.stamp, .int .i64 x.svc, .slice x.da x.dl x.dc, .string x.pay] 43 (0, 0)) := hW ▸ msg_blk w x
  have HW := Lib.hid hW
  have HN := Lib.hid hN
  have HB := Lib.hid hB
  have HH := Lib.hid h
  have HV := Lib.hid hv
  have HVF := Lib.hid hvf
  have HX := Lib.hid hx
  have HC : Hid (∀ (k : Nat) (os : Array Obj), Calls Try.prog 40 #[.pointer (some ⟨b, 0, none⟩), .int .i64 x.frm] (grow (W.drewN k) os) fun e w' => e = .returned (.int .u32 (low i + l.length)) ∧ Gr (grow (W.drewN k) os) w') :=
    fun k os => c_hCount_in b i x.frm low v a l.length c _ ((hB.trans (Gr.bw ⟨k, os, rfl⟩)).blk h) hp hi hvf h0 (by omega)
  have y0 : ∀ q os, (grow (W.drewN q) os).cell? ⟨w.heap.size, 0, none⟩ = some (.int .i64 x.frm) := fun q os => cell_blk ((Gr.bw ⟨q, os, rfl⟩).blk hN)
  have y1 : ∀ q os, (grow (W.drewN q) os).cell? ⟨w.heap.size, 1, none⟩ = some (.int .u32 x.seq) := fun q os => cell_blk ((Gr.bw ⟨q, os, rfl⟩).blk hN)
  obtain ⟨q, hq⟩ : ∃ q, q = low i + l.length := ⟨_, rfl⟩
  rw [← hq] at HC h1 hs
  have eb : (x.seq == 0) = false := by rw [beq_eq_false_iff_ne]; omega
  have e1 : IntKind.u32.wrap (x.seq - 1) = q := by rw [IntKind.wrap_u32]; omega
  have e2 : (q != q) = false := by simp
  have HP := Lib.hid hp
  clear hz h hp hv hvf hB hN hW hx hq hs
  go_enter Try.func35, Try.ntmps35
  go_wp2_with fail
  rw [← HW.out]
  refine (c_process_in HZ.out _).mono ?_
  rintro e w' ⟨rfl, rfl⟩
  go_wp2_with fail
  go_quiet_grown (first | (go_at_call 40; with_reducible exact grown_of_Gr (HC.out _ _)))
  have hB1 : Bw w (grow (W.drewN nq) osq) := HB.out.trans (Gr.bw ⟨nq, osq, rfl⟩)
  have hN1 := (Gr.bw ⟨nq, osq, rfl⟩ : Bw W (grow (W.drewN nq) osq)).blk HN.out
  clear y0 y1 eb e1 e2 HC
  generalize grow (W.drewN nq) osq = w1 at hB1 hN1 ⊢
  have B1 := Lib.hid hB1
  have N1 := Lib.hid hN1
  have x0 : w1.cell? ⟨w.heap.size, 0, none⟩ = some (.int .i64 x.frm) := cell_blk hN1
  have x1 : w1.cell? ⟨w.heap.size, 1, none⟩ = some (.int .u32 x.seq) := cell_blk hN1
  have x2 : w1.cell? ⟨w.heap.size, 2, none⟩ = some (.int .u64 x.stamp) := cell_blk hN1
  have x3 : w1.cell? ⟨w.heap.size, 3, none⟩ = some (.int .i64 x.svc) := cell_blk hN1
  have x4 : w1.cell? ⟨w.heap.size, 4, none⟩ = some (.slice x.da x.dl x.dc) := cell_blk hN1
  have x5 : w1.cell? ⟨w.heap.size, 5, none⟩ = some (.string x.pay) := cell_blk hN1
  have hb1 : b < w1.heap.size := Nat.lt_of_lt_of_le (lt_blk HH.out) hB1.size
  have r0 : w1.cell? ⟨b, 64 + i, none⟩ = some (v i) := by rw [cell_blk (hB1.blk HH.out), hold_row hi]
  have f0 : w1.frozen? ⟨b, 64 + i, none⟩ = false := soft_blk (hB1.blk HH.out)
  have hfi := HP.out
  rw [hfi] at x0
  have iz0 : (0 : Int) ≤ (i : Int) := by omega
  have iz1 : (i : Int) < 64 := by omega
  clear hB1 hN1 hfi
  go_upto_region 5 with fail
  obtain ⟨i0, hi0, hz0, hz1, hz2⟩ := info_parts info_M
  have hxr : Reads w ⟨(i : Int), x.seq, x.stamp, x.svc, x.da, x.dl, x.dc, x.pay⟩ D := ⟨by rw [← HP.out]; exact HX.out.frm, HX.out.seq, HX.out.stamp, HX.out.svc, HX.out.deps, HX.out.pay⟩
  have hbA : Bw w1 (w1.alloc (.cells #[.int .i64 (i : Int), .int .u32 x.seq, .int .u64 x.stamp, .int .i64 x.svc, .slice x.da x.dl x.dc, .string x.pay] 43)).drew := (Bw.alloc _ _).trans (Bw.drew _)
  have hMA : MAt (w1.alloc (.cells #[.int .i64 (i : Int), .int .u32 x.seq, .int .u64 x.stamp, .int .i64 x.svc, .slice x.da x.dl x.dc, .string x.pay] 43)).drew (.slice (some ⟨w1.heap.size, 0, none⟩) 1 1) [⟨(i : Int), x.seq, x.stamp, x.svc, x.da, x.dl, x.dc, x.pay⟩] := (MAt.one ⟨(i : Int), x.seq, x.stamp, x.svc, x.da, x.dl, x.dc, x.pay⟩ (heap_alloc_new _ _)).bw (Bw.drew _)
  have hDL : DL (w1.alloc (.cells #[.int .i64 (i : Int), .int .u32 x.seq, .int .u64 x.stamp, .int .i64 x.svc, .slice x.da x.dl x.dc, .string x.pay] 43)).drew [⟨(i : Int), x.seq, x.stamp, x.svc, x.da, x.dl, x.dc, x.pay⟩] [D] := (DL.nil _).snoc (hxr.bw (B1.out.trans hbA))
  have HCP := Lib.hid (c_copies _ _ _ _ hMA hDL (by simp) (fun y hy => by rw [List.mem_singleton.1 hy]; exact hd))
  have HBA := Lib.hid hbA
  clear hxr hMA hDL hbA x0 x1 x2 x3 x4 x5 r0 f0
  have x0 : w1.cell? ⟨w.heap.size, 0, none⟩ = some (.int .i64 (i : Int)) := by rw [← HP.out]; exact cell_blk N1.out
  have x1 : w1.cell? ⟨w.heap.size, 1, none⟩ = some (.int .u32 x.seq) := cell_blk N1.out
  have x2 : w1.cell? ⟨w.heap.size, 2, none⟩ = some (.int .u64 x.stamp) := cell_blk N1.out
  have x3 : w1.cell? ⟨w.heap.size, 3, none⟩ = some (.int .i64 x.svc) := cell_blk N1.out
  have x4 : w1.cell? ⟨w.heap.size, 4, none⟩ = some (.slice x.da x.dl x.dc) := cell_blk N1.out
  have x5 : w1.cell? ⟨w.heap.size, 5, none⟩ = some (.string x.pay) := cell_blk N1.out
  have r0 : w1.cell? ⟨b, 64 + i, none⟩ = some (v i) := by rw [cell_blk (B1.out.blk HH.out), hold_row hi]
  have f0 : w1.frozen? ⟨b, 64 + i, none⟩ = false := soft_blk (B1.out.blk HH.out)
  have HAP3 : Hid (∀ g, (v i).ownBlock = some g → b ≠ g) := hold_apart HH.out HV.out
  have HBM : Hid (w.heap.size ≠ b) := fun e => by have := lt_blk HH.out; omega
  have hwz1 : w.heap.size < w1.heap.size := lt_blk N1.out
  have HAQ : Hid (∀ g, (v i).ownBlock = some g → w.heap.size ≠ g) := fun g hg e => by have := (World.ownsRow.lt HV.out g hg).2; omega
  have r0d : w1.drew.cell? ⟨b, 64 + i, none⟩ = some (v i) := r0
  refine wp_region_noPanic ?_
  refine wp_region_held_drew (S := (fun w' => w'.cell? ⟨w.heap.size, 0, none⟩ = some (.int .i64 (i : Int)) ∧ w'.cell? ⟨w.heap.size, 1, none⟩ = some (.int .u32 x.seq) ∧ w'.cell? ⟨w.heap.size, 2, none⟩ = some (.int .u64 x.stamp) ∧ w'.cell? ⟨w.heap.size, 3, none⟩ = some (.int .i64 x.svc) ∧ w'.cell? ⟨w.heap.size, 4, none⟩ = some (.slice x.da x.dl x.dc) ∧ w'.cell? ⟨w.heap.size, 5, none⟩ = some (.string x.pay))) (by kernel_rfl) (msg_cells HP.out ((Bw.drew _).blk N1.out)) (fun hHeld => ?_)
  refine wpAnyH_take (i := 0) (oi := _) (v := ?v1) rfl (by kernel_rfl) (by kernel_rfl) (by kernel_rfl) (fun _ _ _ h => h) (Or.inl ⟨by rfl, ?hy1⟩) (by assumption) ?rest1
  case hy1 => intro wS hSw; (try dsimp only at hSw); go_simp; (try with_reducible rfl)
  try simp only [Act.put, List.setIfInBounds_toArray, List.set_cons_zero, List.set_cons_succ]
  refine wpAnyH_take (i := 1) (oi := _) (v := ?v2) rfl (by kernel_rfl) (by kernel_rfl) (by kernel_rfl) (fun _ _ _ h => h) (Or.inl ⟨by rfl, ?hy2⟩) (by assumption) ?rest2
  case hy2 => intro wS hSw; (try dsimp only at hSw); go_simp; (try with_reducible rfl)
  try simp only [Act.put, List.setIfInBounds_toArray, List.set_cons_zero, List.set_cons_succ]
  refine wpAnyH_take (i := 2) (oi := _) (v := ?v3) rfl (by kernel_rfl) (by kernel_rfl) (by kernel_rfl) (fun _ _ _ h => h) (Or.inl ⟨by rfl, ?hy3⟩) (by assumption) ?rest3
  case hy3 => intro wS hSw; (try dsimp only at hSw); go_simp; (try with_reducible rfl)
  try simp only [Act.put, List.setIfInBounds_toArray, List.set_cons_zero, List.set_cons_succ]
  refine wpAnyH_take (i := 3) (oi := _) (v := ?v4) rfl (by kernel_rfl) (by kernel_rfl) (by kernel_rfl) (fun _ _ _ h => h) (Or.inl ⟨by rfl, ?hy4⟩) (by assumption) ?rest4
  case hy4 => intro wS hSw; (try dsimp only at hSw); go_simp; (try with_reducible rfl)
  try simp only [Act.put, List.setIfInBounds_toArray, List.set_cons_zero, List.set_cons_succ]
  refine wpAnyH_take (i := 4) (oi := _) (v := ?v5) rfl (by kernel_rfl) (by kernel_rfl) (by kernel_rfl) (fun _ _ _ h => h) (Or.inl ⟨by rfl, ?hy5⟩) (by assumption) ?rest5
  case hy5 => intro wS hSw; (try dsimp only at hSw); go_simp; (try with_reducible rfl)
  try simp only [Act.put, List.setIfInBounds_toArray, List.set_cons_zero, List.set_cons_succ]
  refine wpAnyH_take (i := 5) (oi := _) (v := ?v6) rfl (by kernel_rfl) (by kernel_rfl) (by kernel_rfl) (fun _ _ _ h => h) (Or.inl ⟨by rfl, ?hy6⟩) (by assumption) ?rest6
  case hy6 => intro wS hSw; (try dsimp only at hSw); go_simp; (try with_reducible rfl)
  try simp only [Act.put, List.setIfInBounds_toArray, List.set_cons_zero, List.set_cons_succ]
  refine wpAnyH_take (i := 6) (oi := _) (v := ?v7) rfl (by kernel_rfl) (by kernel_rfl) (by kernel_rfl) (fun _ _ _ h => h) (Or.inl ⟨by rfl, ?hy7⟩) (by assumption) ?rest7
  case hy7 => intro wS hSw; (try dsimp only at hSw); go_simp; (try with_reducible rfl)
  try simp only [Act.put, List.setIfInBounds_toArray, List.set_cons_zero, List.set_cons_succ]
  refine wpAnyH_take (i := 7) (oi := _) (v := ?v8) rfl (by kernel_rfl) (by kernel_rfl) (by kernel_rfl) (fun _ _ _ h => h) (Or.inl ⟨by rfl, ?hy8⟩) (by assumption) ?rest8
  case hy8 => intro wS hSw; (try dsimp only at hSw); go_simp; (try with_reducible rfl)
  try simp only [Act.put, List.setIfInBounds_toArray, List.set_cons_zero, List.set_cons_succ]
  refine wpAnyH_take (i := 8) (oi := _) (v := ?v9) rfl (by kernel_rfl) (by kernel_rfl) (by kernel_rfl) (fun _ _ _ h => h) (Or.inl ⟨by rfl, ?hy9⟩) (by assumption) ?rest9
  case hy9 => intro wS hSw; (try dsimp only at hSw); go_simp; (try with_reducible rfl)
  try simp only [Act.put, List.setIfInBounds_toArray, List.set_cons_zero, List.set_cons_succ]
  refine wpAnyH_take (i := 10) (oi := _) (v := ?v10) rfl (by kernel_rfl) (by kernel_rfl) (by kernel_rfl) (fun _ _ _ h => h) (Or.inl ⟨by rfl, ?hy10⟩) (by assumption) ?rest10
  case hy10 => intro wS hSw; (try dsimp only at hSw); go_simp; (try with_reducible rfl)
  try simp only [Act.put, List.setIfInBounds_toArray, List.set_cons_zero, List.set_cons_succ]
  refine wpAnyH_take (i := 14) (oi := _) (v := ?v11) rfl (by kernel_rfl) (by kernel_rfl) (by kernel_rfl) (fun _ _ _ h => h) (Or.inl ⟨by rfl, ?hy11⟩) (by assumption) ?rest11
  case hy11 => intro wS hSw; (try dsimp only at hSw); go_simp; (try with_reducible rfl)
  try simp only [Act.put, List.setIfInBounds_toArray, List.set_cons_zero, List.set_cons_succ]
  refine wpAnyH_take (i := 15) (oi := _) (v := ?v12) rfl (by kernel_rfl) (by kernel_rfl) (by kernel_rfl) (fun _ _ _ h => h) (Or.inl ⟨by rfl, ?hy12⟩) (by assumption) ?rest12
  case hy12 => intro wS hSw; (try dsimp only at hSw); go_simp; (try with_reducible rfl)
  try simp only [Act.put, List.setIfInBounds_toArray, List.set_cons_zero, List.set_cons_succ]
  refine wpAnyH_ready (rs := [9, 11]) (by kernel_rfl) (by simp) ?_
  refine AllReadyH.cons (o := _) rfl (fun K hK => ?_) ?_
  · go_simp
    refine hK.out _ _ (msg_cells HP.out ((Bw.drew _).blk N1.out)) (fun hHeld2 => ?_)
    clear hK K hHeld
    have hHeld := hHeld2
    clear hHeld2
    try simp only [Act.put, List.setIfInBounds_toArray, List.set_cons_zero, List.set_cons_succ]
    refine wpAnyH_ready (rs := [11]) (by kernel_rfl) (by simp) ?_
    refine AllReadyH.cons (o := _) rfl (fun K hK => ?_) ?_
    · go_simp
      refine hK.out _ _ (msg_cells HP.out (((Bw.alloc _ _).trans (Bw.drew _)).blk N1.out)) (fun hHeld2 => ?_)
      clear hK K hHeld
      have hHeld := hHeld2
      clear hHeld2
      try simp only [Act.put, List.setIfInBounds_toArray, List.set_cons_zero, List.set_cons_succ]
      refine wpAnyH_ready (rs := [12]) (by kernel_rfl) (by simp) ?_
      refine AllReadyH.cons (o := _) rfl (fun K hK => ?_) ?_
      · (go_simp; go_at_call 65; refine HCP.out.mono ?_; rintro e w2 ⟨v2, l2, rfl, ho2, hl2, hp2, hq2, hb2⟩; obtain ⟨x2, rfl⟩ : ∃ y, l2 = [y] := (by (have := hl2.1; match l2, this with | [y], _ => exact ⟨y, rfl⟩)); obtain ⟨g2, c2, rfl, hg2, hg3⟩ := World.ownsRow.form ho2 (by simp); have HO2 := Lib.hid ho2; have HL2 := Lib.hid hl2; have HP2 := Lib.hid hp2; have HQ2 := Lib.hid hq2; have HB2 := Lib.hid ((B1.out.trans HBA.out).trans hb2); have HB2' := Lib.hid hb2; have r2 : w2.cell? ⟨b, 64 + i, none⟩ = some (v i) := (by rw [cell_blk (HB2.out.blk HH.out), hold_row hi]); have hbb2 : b < w2.heap.size := lt_blk (HB2.out.blk HH.out); have n20 := (HBA.out.trans hb2).blk N1.out; have x02 : w2.cell? ⟨w.heap.size, 0, none⟩ = some (.int .i64 (i : Int)) := (by rw [← HP.out]; exact cell_blk n20); have hsz2 : w.heap.size < w2.heap.size := lt_blk n20; have N20 := Lib.hid n20; clear n20 ho2 hl2 hp2 hq2 hb2; dsimp only)
        refine hK.out _ _ (msg_cells HP.out N20.out) (fun hHeld2 => ?_)
        clear hK K hHeld
        have hHeld := hHeld2
        clear hHeld2
        try simp only [Act.put, List.setIfInBounds_toArray, List.set_cons_zero, List.set_cons_succ]
        refine wpAnyH_ready (rs := [13]) (by kernel_rfl) (by simp) ?_
        refine AllReadyH.cons (o := _) rfl (fun K hK => ?_) ?_
        · (refine step_append_lies _ (by rfl) _ _ 22 (by rfl) 0 43 i0 _ 6 72 Try.underlying22 hi0 hz0 hz1 hz2 rfl (by omega) (v i) l.length (flatM l) (by rfl) (HV.out.bw HB2.out) ⟨g2, 0, none⟩ 1 c2 (encM x2) (by rfl) (by rfl) (own_one HO2.out) (encM_one x2) (by omega) (by unfold maxLen; omega) (by omega) (Nat.zero_le _) w2.heap.size (by rfl) ?_; intro g3 c3 w3 hown3 hgrow3 hat3 hlt3; have hk3 := grown_keep hgrow3; have n3 := hk3.blk HAP3.out (HB2.out.blk HH.out); have r3 : w3.cell? ⟨b, 64 + i, none⟩ = some (v i) := (by rw [cell_blk n3, hold_row hi]); have f3 : w3.frozen? ⟨b, 64 + i, none⟩ = false := soft_blk n3; have hb3 : b < w3.heap.size := lt_blk n3; have n30 := hk3.blk HAQ.out N20.out; have N30 := Lib.hid n30; have N31 : Hid ((w3.setCell ⟨b, 64 + i, none⟩ (.slice (some ⟨g3, 0, none⟩) (l.length + 1) c3)).heap[w.heap.size]? = some (.cells #[.int .i64 x.frm, .int .u32 x.seq, .int .u64 x.stamp, .int .i64 x.svc, .slice x.da x.dl x.dc, .string x.pay] 43 (0, 0))) := (by show _ = _; rw [set_other _ HBM.out]; exact n30); have x03 : w3.cell? ⟨w.heap.size, 0, none⟩ = some (.int .i64 (i : Int)) := (by rw [← HP.out]; exact cell_blk n30); have hsz3 : w.heap.size < w3.heap.size := lt_blk n30; clear n30; have N3 := Lib.hid n3; have K3 := Lib.hid hk3; have O3 := Lib.hid hown3; have A3 := Lib.hid hat3; clear hown3 hgrow3 hat3 hk3 n3)
          refine hK.out _ _ (msg_cells HP.out N30.out) (fun hHeld2 => ?_)
          clear hK K hHeld
          have hHeld := hHeld2
          clear hHeld2
          try simp only [Act.put, List.setIfInBounds_toArray, List.set_cons_zero, List.set_cons_succ]
          refine wpAnyH_take (i := 16) (oi := _) (v := ?v13) rfl (by kernel_rfl) (by kernel_rfl) (by kernel_rfl) (fun _ _ _ h => h) (Or.inl ⟨by rfl, ?hy13⟩) (by assumption) ?rest13
          case hy13 => intro wS hSw; (try dsimp only at hSw); go_simp; (try with_reducible rfl)
          try simp only [Act.put, List.setIfInBounds_toArray, List.set_cons_zero, List.set_cons_succ]
          refine wpAnyH_ready (rs := [17]) (by kernel_rfl) (by simp) ?_
          refine AllReadyH.cons (o := _) rfl (fun K hK => ?_) ?_
          · go_simp
            refine hK.out _ _ (msg_cells HP.out N31.out) (fun hHeld2 => ?_)
            clear hK K hHeld
            have hHeld := hHeld2
            clear hHeld2
            try simp only [Act.put, List.setIfInBounds_toArray, List.set_cons_zero, List.set_cons_succ]
            refine wpAnyH_done (by kernel_rfl) ?_ _
            refine NoPanic.normal ?_
            go_wp2_with fail
            go_ret
            exact put_end HH.out hi HV.out HB2.out (by have := B1.out.size; show w.heap.size ≤ (w1.alloc _).heap.size; simp; omega) HL2.out HP2.out HQ2.out N3.out K3.out O3.out A3.out
          exact AllReadyH.nil
        exact AllReadyH.nil
      exact AllReadyH.nil
    exact AllReadyH.nil
  refine AllReadyH.cons (o := _) rfl (fun K hK => ?_) ?_
  · go_simp
    refine hK.out _ _ (msg_cells HP.out (((Bw.alloc _ _).trans (Bw.drew _)).blk N1.out)) (fun hHeld2 => ?_)
    clear hK K hHeld
    have hHeld := hHeld2
    clear hHeld2
    try simp only [Act.put, List.setIfInBounds_toArray, List.set_cons_zero, List.set_cons_succ]
    refine wpAnyH_ready (rs := [9, 12]) (by kernel_rfl) (by simp) ?_
    refine AllReadyH.cons (o := _) rfl (fun K hK => ?_) ?_
    · go_simp
      refine hK.out _ _ (msg_cells HP.out (((Bw.alloc _ _).trans (Bw.drew _)).blk N1.out)) (fun hHeld2 => ?_)
      clear hK K hHeld
      have hHeld := hHeld2
      clear hHeld2
      try simp only [Act.put, List.setIfInBounds_toArray, List.set_cons_zero, List.set_cons_succ]
      refine wpAnyH_ready (rs := [12]) (by kernel_rfl) (by simp) ?_
      refine AllReadyH.cons (o := _) rfl (fun K hK => ?_) ?_
      · (go_simp; go_at_call 65; refine HCP.out.mono ?_; rintro e w2 ⟨v2, l2, rfl, ho2, hl2, hp2, hq2, hb2⟩; obtain ⟨x2, rfl⟩ : ∃ y, l2 = [y] := (by (have := hl2.1; match l2, this with | [y], _ => exact ⟨y, rfl⟩)); obtain ⟨g2, c2, rfl, hg2, hg3⟩ := World.ownsRow.form ho2 (by simp); have HO2 := Lib.hid ho2; have HL2 := Lib.hid hl2; have HP2 := Lib.hid hp2; have HQ2 := Lib.hid hq2; have HB2 := Lib.hid ((B1.out.trans HBA.out).trans hb2); have HB2' := Lib.hid hb2; have r2 : w2.cell? ⟨b, 64 + i, none⟩ = some (v i) := (by rw [cell_blk (HB2.out.blk HH.out), hold_row hi]); have hbb2 : b < w2.heap.size := lt_blk (HB2.out.blk HH.out); have n20 := (HBA.out.trans hb2).blk N1.out; have x02 : w2.cell? ⟨w.heap.size, 0, none⟩ = some (.int .i64 (i : Int)) := (by rw [← HP.out]; exact cell_blk n20); have hsz2 : w.heap.size < w2.heap.size := lt_blk n20; have N20 := Lib.hid n20; clear n20 ho2 hl2 hp2 hq2 hb2; dsimp only)
        refine hK.out _ _ (msg_cells HP.out N20.out) (fun hHeld2 => ?_)
        clear hK K hHeld
        have hHeld := hHeld2
        clear hHeld2
        try simp only [Act.put, List.setIfInBounds_toArray, List.set_cons_zero, List.set_cons_succ]
        refine wpAnyH_ready (rs := [13]) (by kernel_rfl) (by simp) ?_
        refine AllReadyH.cons (o := _) rfl (fun K hK => ?_) ?_
        · (refine step_append_lies _ (by rfl) _ _ 22 (by rfl) 0 43 i0 _ 6 72 Try.underlying22 hi0 hz0 hz1 hz2 rfl (by omega) (v i) l.length (flatM l) (by rfl) (HV.out.bw HB2.out) ⟨g2, 0, none⟩ 1 c2 (encM x2) (by rfl) (by rfl) (own_one HO2.out) (encM_one x2) (by omega) (by unfold maxLen; omega) (by omega) (Nat.zero_le _) w2.heap.size (by rfl) ?_; intro g3 c3 w3 hown3 hgrow3 hat3 hlt3; have hk3 := grown_keep hgrow3; have n3 := hk3.blk HAP3.out (HB2.out.blk HH.out); have r3 : w3.cell? ⟨b, 64 + i, none⟩ = some (v i) := (by rw [cell_blk n3, hold_row hi]); have f3 : w3.frozen? ⟨b, 64 + i, none⟩ = false := soft_blk n3; have hb3 : b < w3.heap.size := lt_blk n3; have n30 := hk3.blk HAQ.out N20.out; have N30 := Lib.hid n30; have N31 : Hid ((w3.setCell ⟨b, 64 + i, none⟩ (.slice (some ⟨g3, 0, none⟩) (l.length + 1) c3)).heap[w.heap.size]? = some (.cells #[.int .i64 x.frm, .int .u32 x.seq, .int .u64 x.stamp, .int .i64 x.svc, .slice x.da x.dl x.dc, .string x.pay] 43 (0, 0))) := (by show _ = _; rw [set_other _ HBM.out]; exact n30); have x03 : w3.cell? ⟨w.heap.size, 0, none⟩ = some (.int .i64 (i : Int)) := (by rw [← HP.out]; exact cell_blk n30); have hsz3 : w.heap.size < w3.heap.size := lt_blk n30; clear n30; have N3 := Lib.hid n3; have K3 := Lib.hid hk3; have O3 := Lib.hid hown3; have A3 := Lib.hid hat3; clear hown3 hgrow3 hat3 hk3 n3)
          refine hK.out _ _ (msg_cells HP.out N30.out) (fun hHeld2 => ?_)
          clear hK K hHeld
          have hHeld := hHeld2
          clear hHeld2
          try simp only [Act.put, List.setIfInBounds_toArray, List.set_cons_zero, List.set_cons_succ]
          refine wpAnyH_take (i := 16) (oi := _) (v := ?v14) rfl (by kernel_rfl) (by kernel_rfl) (by kernel_rfl) (fun _ _ _ h => h) (Or.inl ⟨by rfl, ?hy14⟩) (by assumption) ?rest14
          case hy14 => intro wS hSw; (try dsimp only at hSw); go_simp; (try with_reducible rfl)
          try simp only [Act.put, List.setIfInBounds_toArray, List.set_cons_zero, List.set_cons_succ]
          refine wpAnyH_ready (rs := [17]) (by kernel_rfl) (by simp) ?_
          refine AllReadyH.cons (o := _) rfl (fun K hK => ?_) ?_
          · go_simp
            refine hK.out _ _ (msg_cells HP.out N31.out) (fun hHeld2 => ?_)
            clear hK K hHeld
            have hHeld := hHeld2
            clear hHeld2
            try simp only [Act.put, List.setIfInBounds_toArray, List.set_cons_zero, List.set_cons_succ]
            refine wpAnyH_done (by kernel_rfl) ?_ _
            refine NoPanic.normal ?_
            go_wp2_with fail
            go_ret
            exact put_end HH.out hi HV.out HB2.out (by have := B1.out.size; show w.heap.size ≤ (w1.alloc _).heap.size; simp; omega) HL2.out HP2.out HQ2.out N3.out K3.out O3.out A3.out
          exact AllReadyH.nil
        exact AllReadyH.nil
      exact AllReadyH.nil
    refine AllReadyH.cons (o := _) rfl (fun K hK => ?_) ?_
    · (go_simp; go_at_call 65; refine HCP.out.mono ?_; rintro e w2 ⟨v2, l2, rfl, ho2, hl2, hp2, hq2, hb2⟩; obtain ⟨x2, rfl⟩ : ∃ y, l2 = [y] := (by (have := hl2.1; match l2, this with | [y], _ => exact ⟨y, rfl⟩)); obtain ⟨g2, c2, rfl, hg2, hg3⟩ := World.ownsRow.form ho2 (by simp); have HO2 := Lib.hid ho2; have HL2 := Lib.hid hl2; have HP2 := Lib.hid hp2; have HQ2 := Lib.hid hq2; have HB2 := Lib.hid ((B1.out.trans HBA.out).trans hb2); have HB2' := Lib.hid hb2; have r2 : w2.cell? ⟨b, 64 + i, none⟩ = some (v i) := (by rw [cell_blk (HB2.out.blk HH.out), hold_row hi]); have hbb2 : b < w2.heap.size := lt_blk (HB2.out.blk HH.out); have n20 := (HBA.out.trans hb2).blk N1.out; have x02 : w2.cell? ⟨w.heap.size, 0, none⟩ = some (.int .i64 (i : Int)) := (by rw [← HP.out]; exact cell_blk n20); have hsz2 : w.heap.size < w2.heap.size := lt_blk n20; have N20 := Lib.hid n20; clear n20 ho2 hl2 hp2 hq2 hb2; dsimp only)
      refine hK.out _ _ (msg_cells HP.out N20.out) (fun hHeld2 => ?_)
      clear hK K hHeld
      have hHeld := hHeld2
      clear hHeld2
      try simp only [Act.put, List.setIfInBounds_toArray, List.set_cons_zero, List.set_cons_succ]
      refine wpAnyH_ready (rs := [9]) (by kernel_rfl) (by simp) ?_
      refine AllReadyH.cons (o := _) rfl (fun K hK => ?_) ?_
      · go_simp
        refine hK.out _ _ (msg_cells HP.out N20.out) (fun hHeld2 => ?_)
        clear hK K hHeld
        have hHeld := hHeld2
        clear hHeld2
        try simp only [Act.put, List.setIfInBounds_toArray, List.set_cons_zero, List.set_cons_succ]
        refine wpAnyH_ready (rs := [13]) (by kernel_rfl) (by simp) ?_
        refine AllReadyH.cons (o := _) rfl (fun K hK => ?_) ?_
        · (refine step_append_lies _ (by rfl) _ _ 22 (by rfl) 0 43 i0 _ 6 72 Try.underlying22 hi0 hz0 hz1 hz2 rfl (by omega) (v i) l.length (flatM l) (by rfl) (HV.out.bw HB2.out) ⟨g2, 0, none⟩ 1 c2 (encM x2) (by rfl) (by rfl) (own_one HO2.out) (encM_one x2) (by omega) (by unfold maxLen; omega) (by omega) (Nat.zero_le _) w2.heap.size (by rfl) ?_; intro g3 c3 w3 hown3 hgrow3 hat3 hlt3; have hk3 := grown_keep hgrow3; have n3 := hk3.blk HAP3.out (HB2.out.blk HH.out); have r3 : w3.cell? ⟨b, 64 + i, none⟩ = some (v i) := (by rw [cell_blk n3, hold_row hi]); have f3 : w3.frozen? ⟨b, 64 + i, none⟩ = false := soft_blk n3; have hb3 : b < w3.heap.size := lt_blk n3; have n30 := hk3.blk HAQ.out N20.out; have N30 := Lib.hid n30; have N31 : Hid ((w3.setCell ⟨b, 64 + i, none⟩ (.slice (some ⟨g3, 0, none⟩) (l.length + 1) c3)).heap[w.heap.size]? = some (.cells #[.int .i64 x.frm, .int .u32 x.seq, .int .u64 x.stamp, .int .i64 x.svc, .slice x.da x.dl x.dc, .string x.pay] 43 (0, 0))) := (by show _ = _; rw [set_other _ HBM.out]; exact n30); have x03 : w3.cell? ⟨w.heap.size, 0, none⟩ = some (.int .i64 (i : Int)) := (by rw [← HP.out]; exact cell_blk n30); have hsz3 : w.heap.size < w3.heap.size := lt_blk n30; clear n30; have N3 := Lib.hid n3; have K3 := Lib.hid hk3; have O3 := Lib.hid hown3; have A3 := Lib.hid hat3; clear hown3 hgrow3 hat3 hk3 n3)
          refine hK.out _ _ (msg_cells HP.out N30.out) (fun hHeld2 => ?_)
          clear hK K hHeld
          have hHeld := hHeld2
          clear hHeld2
          try simp only [Act.put, List.setIfInBounds_toArray, List.set_cons_zero, List.set_cons_succ]
          refine wpAnyH_take (i := 16) (oi := _) (v := ?v15) rfl (by kernel_rfl) (by kernel_rfl) (by kernel_rfl) (fun _ _ _ h => h) (Or.inl ⟨by rfl, ?hy15⟩) (by assumption) ?rest15
          case hy15 => intro wS hSw; (try dsimp only at hSw); go_simp; (try with_reducible rfl)
          try simp only [Act.put, List.setIfInBounds_toArray, List.set_cons_zero, List.set_cons_succ]
          refine wpAnyH_ready (rs := [17]) (by kernel_rfl) (by simp) ?_
          refine AllReadyH.cons (o := _) rfl (fun K hK => ?_) ?_
          · go_simp
            refine hK.out _ _ (msg_cells HP.out N31.out) (fun hHeld2 => ?_)
            clear hK K hHeld
            have hHeld := hHeld2
            clear hHeld2
            try simp only [Act.put, List.setIfInBounds_toArray, List.set_cons_zero, List.set_cons_succ]
            refine wpAnyH_done (by kernel_rfl) ?_ _
            refine NoPanic.normal ?_
            go_wp2_with fail
            go_ret
            exact put_end HH.out hi HV.out HB2.out (by have := B1.out.size; show w.heap.size ≤ (w1.alloc _).heap.size; simp; omega) HL2.out HP2.out HQ2.out N3.out K3.out O3.out A3.out
          exact AllReadyH.nil
        exact AllReadyH.nil
      exact AllReadyH.nil
    exact AllReadyH.nil
  exact AllReadyH.nil
end Go.Proofs.Ytllmiaonlofeeaa
