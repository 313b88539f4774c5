/-
  The reference's hold: Put, walked. No conditions beyond what each theorem states.
-/
import Derived.Test.YtllmiaonlofeeaaIc
import Derived.Deep.RegionHeld3
import Derived.Test.YtllmiaonlofeeaaPx
namespace Go.Proofs.Ytllmiaonlofeeaa
open Go.RowKit Go.Sort
set_option linter.unusedSimpArgs false
set_option linter.unusedVariables false

theorem ref_ret2 {fn : Func} {p q : Tmp} (h : fn.results = #[.cell p 59, .tmp q]) (tmps : Array Value) (w : World) (g : Nat) {va v : Value} {low : Nat → Int} (hp : tmps.getD p undef = .pointer (some ⟨g, 0, none⟩)) (hq : tmps.getD q undef = v) (hg : RefBlk w g va low) :
    (results fn tmps).run Try.prog w = .ok (.tuple #[.agg (refCells va low), v]) w := by
  have hp' : tmps[p]?.getD undef = .pointer (some ⟨g, 0, none⟩) := by simpa using hp
  have hq' : tmps[q]?.getD undef = v := by simpa using hq
  simp [results, h, hp', hq', asAddr, run_loadVar_row w g 59 59 (refCells va low) (0, 0) _ hg Try.underlying59 rfl (by rw [ref_size, refCells_size])]
theorem msg_alloc (w : World) (x : Msg) : (w.alloc (.cells #[.int .i64 x.frm, .int .u32 x.seq, .int .u64 x.stamp, .int .i64 x.svc, .slice x.da x.dl x.dc, .string x.pay] 43)).heap[w.heap.size]? = some (.cells #[.int .i64 x.frm, .int .u32 x.seq, .int .u64 x.stamp, .int .i64 x.svc, .slice x.da x.dl x.dc, .string x.pay] 43 (0, 0)) := heap_alloc_new _ _
theorem ref_all_cell {w : World} {b : Nat} {va : Value} {low : Nat → Int} (h : RefBlk w b va low) : w.cell? ⟨b, 0, none⟩ = some va := by rw [cell_blk h]; exact ref_all va low
/-- A load of the whole, in a region that draws its order. -/
theorem wpQuiet_load_ref {C : World → Prop} {Q : Act → Prop} {rest : List Oper} {ops : Array Oper} {a : Act} {dst : Option Tmp} {x : Operand} {ty : TypeId} {pos : String} {af : Array Edge} {b : Nat} {va : Value} {low : Nat → Int} (hx : a.eval x = .pointer (some ⟨b, 0, none⟩)) (h : ∀ w, C w → RefBlk w b va low)
    (hw : wpQuiet Try.prog ops C Q rest (a.put dst (.agg (refCells va low)))) : wpQuiet Try.prog ops C Q ({ dst := dst, op := .load 59 x, type := ty, pos := pos, after := af, guard := none } :: rest) a := by
  refine wpQuiet_step fun K hK => ?_
  rw [if_pos (wanted_open rfl _)]
  refine ⟨.agg (refCells va low), fun w hC => ?_, hK _ hw⟩
  unfold Oper.quietAt execOp
  simp only [hx, Sem.run_bind, run_load_ref (h w hC), Result.andThen_ok]
  exact ⟨rfl, rfl⟩
/-- The list's slice alone. -/
theorem ref_set_all (va va' : Value) (low : Nat → Int) : (refCells va low).setIfInBounds 0 va' = refCells va' low := by
  apply Array.ext_getElem?
  intro j
  rw [Array.getElem?_setIfInBounds, refCells_get, refCells_get]
  by_cases e : 0 = j
  · subst e
    rw [if_pos rfl, if_pos (by rw [refCells_size]; omega), if_pos rfl]
  · rw [if_neg e, if_neg (fun h : j = 0 => e h.symm), if_neg (fun h : j = 0 => e h.symm)]
theorem RefBlk.setAll {w : World} {b : Nat} {va : Value} {low : Nat → Int} (h : RefBlk w b va low) (va' : Value) : RefBlk (w.setCell ⟨b, 0, none⟩ va') b va' low := by
  have := set_blk (i := 0) h va'
  rwa [ref_set_all va va' low] at this

set_option maxRecDepth 100000 in
set_option maxHeartbeats 2000000 in
theorem c_rhPut_range (va : Value) (hv : va.oneCell' = true) (low : Nat → Int) (x : Msg) (w : World) (hp : ¬ InP x.frm) :
    Calls Try.prog 36 #[.agg (refCells va low), .agg #[.int .i64 x.frm, .int .u32 x.seq, .int .u64 x.stamp, .int .i64 x.svc, .slice x.da x.dl x.dc, .string x.pay]] w fun e w' => e = .returned (.tuple #[.agg (refCells va low), .int .i64 1]) ∧ Bw w w' := by
  obtain ⟨wa, hwa⟩ : ∃ wa, wa = w.alloc (.cells (refCells va low) 59) := ⟨_, rfl⟩
  obtain ⟨wb, hwb⟩ : ∃ wb, wb = wa.alloc (.cells #[.int .i64 x.frm, .int .u32 x.seq, .int .u64 x.stamp, .int .i64 x.svc, .slice x.da x.dl x.dc, .string x.pay] 43) := ⟨_, rfl⟩
  obtain ⟨wc, hwc⟩ : ∃ wc, wc = wb.alloc (.cells (refCells (.slice none 0 0) (fun _ => 0)) 59) := ⟨_, rfl⟩
  have hza : wa.heap.size = w.heap.size + 1 := by rw [hwa]; simp
  have hzb : wb.heap.size = w.heap.size + 2 := by rw [hwb]; simp [hza]
  have hBa : Gr w wa := hwa ▸ Gr.alloc _ _
  have hBb : Gr wa wb := hwb ▸ Gr.alloc _ _
  have hBc : Gr wb wc := hwc ▸ Gr.alloc _ _
  have hB : Gr w wc := (hBa.trans hBb).trans hBc
  have hra : RefBlk wa w.heap.size va low := hwa ▸ heap_alloc_new _ _
  have hmb : wb.heap[w.heap.size + 1]? = some (.cells #[.int .i64 x.frm, .int .u32 x.seq, .int .u64 x.stamp, .int .i64 x.svc, .slice x.da x.dl x.dc, .string x.pay] 43 (0, 0)) := by rw [← hza, hwb]; exact msg_alloc _ _
  have hrz : RefBlk wc (w.heap.size + 2) (.slice none 0 0) (fun _ => 0) := by rw [← hzb, hwc]; exact heap_alloc_new _ _
  have hrc : RefBlk wc w.heap.size va low := hBc.bw.blk (hBb.bw.blk hra)
  have hmc := hBc.bw.blk hmb
  have HWA := Lib.hid hwa
  have HWB := Lib.hid hwb
  have HWC := Lib.hid hwc
  have HZA := Lib.hid hza
  have HZB := Lib.hid hzb
  have HB := Lib.hid hB
  have HRC := Lib.hid hrc
  have HRZ := Lib.hid hrz
  have HMC := Lib.hid hmc
  clear hwa hwb hwc hza hzb hBa hBb hBc hB hra hmb
  have x0 : wc.cell? ⟨w.heap.size + 1, 0, none⟩ = some (.int .i64 x.frm) := cell_blk hmc
  have hz1 : w.heap.size + 1 < wc.heap.size := lt_blk hmc
  clear hmc
  by_cases h0 : x.frm < 0
  · go_enter Try.func36, Try.ntmps36
    go_upto_region 1 with (refine wpList_alloc_ref ?_)
    rw [← HWA.out, ← HWB.out, ← HWC.out, show w.heap.size + 1 + 1 = w.heap.size + 2 from rfl]
    go_wp2_with (first | refine wpList_load_ref (by rfl) hrc ?_ | (refine wpList_store_ref (by rfl) (by rfl) hrz hv ?_; clear hrz hrc))
    refine bodyPost_ret (ref_ret2 rfl _ _ (w.heap.size + 2) rfl rfl (setRow_ref HRZ.out)) rfl ⟨rfl, HB.out.bw.setRow (by omega) _⟩
  · have h0d : decide (x.frm < 0) = false := decide_eq_false h0
    have h1 : 63 < x.frm := by unfold InP at hp; omega
    go_enter Try.func36, Try.ntmps36
    go_upto_region 1 with (refine wpList_alloc_ref ?_)
    rw [← HWA.out, ← HWB.out, ← HWC.out, show w.heap.size + 1 + 1 = w.heap.size + 2 from rfl]
    go_wp2_with (first | refine wpList_load_ref (by rfl) hrc ?_ | (refine wpList_store_ref (by rfl) (by rfl) hrz hv ?_; clear hrz hrc))
    refine bodyPost_ret (ref_ret2 rfl _ _ (w.heap.size + 2) rfl rfl (setRow_ref HRZ.out)) rfl ⟨rfl, HB.out.bw.setRow (by omega) _⟩

set_option maxRecDepth 100000 in
set_option maxHeartbeats 2000000 in
theorem c_rhPut_order (va : Value) (la : List Msg) (LA : List DM) (low : Nat → Int) (x : Msg) (w : World) (h : Own6 0 w va la) (hD : DL w la LA) (hn : la.length ≤ 999999) (hp : InP x.frm) (hok : 0 ≤ x.seq ∧ x.seq ≤ 4294967295) (hs : x.seq ≠ ((ofP LA x.frm).length : Int) + 1) :
    Calls Try.prog 36 #[.agg (refCells va low), .agg #[.int .i64 x.frm, .int .u32 x.seq, .int .u64 x.stamp, .int .i64 x.svc, .slice x.da x.dl x.dc, .string x.pay]] w fun e w' => e = .returned (.tuple #[.agg (refCells va low), .int .i64 13]) ∧ Bw w w' := by
  have mixed : Try.prog.follows .mixedOrders = true := by kernel_rfl
  have hv : va.oneCell' = true := by obtain ⟨a, c, rfl⟩ := h.at.form; rfl
  obtain ⟨wa, hwa⟩ : ∃ wa, wa = w.alloc (.cells (refCells va low) 59) := ⟨_, rfl⟩
  obtain ⟨wb, hwb⟩ : ∃ wb, wb = wa.alloc (.cells #[.int .i64 x.frm, .int .u32 x.seq, .int .u64 x.stamp, .int .i64 x.svc, .slice x.da x.dl x.dc, .string x.pay] 43) := ⟨_, rfl⟩
  obtain ⟨wc, hwc⟩ : ∃ wc, wc = wb.alloc (.cells (refCells (.slice none 0 0) (fun _ => 0)) 59) := ⟨_, rfl⟩
  have hza : wa.heap.size = w.heap.size + 1 := by rw [hwa]; simp
  have hzb : wb.heap.size = w.heap.size + 2 := by rw [hwb]; simp [hza]
  have hBa : Gr w wa := hwa ▸ Gr.alloc _ _
  have hBb : Gr wa wb := hwb ▸ Gr.alloc _ _
  have hBc : Gr wb wc := hwc ▸ Gr.alloc _ _
  have hB : Gr w wc := (hBa.trans hBb).trans hBc
  have hra : RefBlk wa w.heap.size va low := hwa ▸ heap_alloc_new _ _
  have hmb : wb.heap[w.heap.size + 1]? = some (.cells #[.int .i64 x.frm, .int .u32 x.seq, .int .u64 x.stamp, .int .i64 x.svc, .slice x.da x.dl x.dc, .string x.pay] 43 (0, 0)) := by rw [← hza, hwb]; exact msg_alloc _ _
  have hrz : RefBlk wc (w.heap.size + 2) (.slice none 0 0) (fun _ => 0) := by rw [← hzb, hwc]; exact heap_alloc_new _ _
  have hrc : RefBlk wc w.heap.size va low := hBc.bw.blk (hBb.bw.blk hra)
  have hmc := hBc.bw.blk hmb
  have HWA := Lib.hid hwa
  have HWB := Lib.hid hwb
  have HWC := Lib.hid hwc
  have HZA := Lib.hid hza
  have HZB := Lib.hid hzb
  have HB := Lib.hid hB
  have HRC := Lib.hid hrc
  have HRZ := Lib.hid hrz
  have HMC := Lib.hid hmc
  clear hwa hwb hwc hza hzb hBa hBb hBc hB hra hmb
  have x0 : wc.cell? ⟨w.heap.size + 1, 0, none⟩ = some (.int .i64 x.frm) := cell_blk hmc
  have hz1 : w.heap.size + 1 < wc.heap.size := lt_blk hmc
  have hl0 : 0 ≤ x.frm := hp.1
  have hl1 : x.frm < 64 := hp.2
  have g0 : ∀ n os, (grow (wc.drewN n) os).cell? ⟨w.heap.size + 1, 0, none⟩ = some (.int .i64 x.frm) := fun n os => cell_blk ((Gr.bw ⟨n, os, rfl⟩).blk hmc)
  have g1 : ∀ n os, (grow (wc.drewN n) os).cell? ⟨w.heap.size + 1, 1, none⟩ = some (.int .u32 x.seq) := fun n os => cell_blk ((Gr.bw ⟨n, os, rfl⟩).blk hmc)
  have GL : Hid (∀ w', (∃ p : GrownBy, w' = grow (wc.drewN p.n) p.os) → RefBlk w' w.heap.size va low) := (show _ from by rintro _ ⟨p, rfl⟩; exact (Gr.bw ⟨p.n, p.os, rfl⟩).blk hrc)
  have HC : Hid (∀ (k : Nat) (os : Array Obj), Calls Try.prog 41 #[.agg (refCells va low), .int .i64 x.frm] (grow (wc.drewN k) os) fun e w' => e = .returned (.int .u32 ((ofP LA x.frm).length : Int)) ∧ Gr (grow (wc.drewN k) os) w') :=
    fun k os => c_rhCount va la LA low x.frm _ (h.at.bw (HB.out.bw.trans (Gr.bw ⟨k, os, rfl⟩))) (hD.bw (HB.out.bw.trans (Gr.bw ⟨k, os, rfl⟩))) (by omega)
  obtain ⟨n, hnn⟩ : ∃ n : Int, n = ((ofP LA x.frm).length : Int) := ⟨_, rfl⟩
  have hnb : 0 ≤ n ∧ n ≤ 1000000 := by
    have h1 := ofP_len LA x.frm
    have h2 := hD.1
    omega
  rw [← hnn] at HC hs
  obtain ⟨hnb0, hnb1⟩ := hnb
  have e1 : IntKind.u64.wrap x.seq = x.seq := by rw [IntKind.wrap_u64]; omega
  have e2 : IntKind.u64.wrap n = n := by rw [IntKind.wrap_u64]; omega
  have e3 : IntKind.u64.wrap (n + 1) = n + 1 := by rw [IntKind.wrap_u64]; omega
  have eb : (x.seq != n + 1) = true := by simpa using hs
  have HV := Lib.hid hv
  clear hmc hs hnn h hD hok hp hrc hrz hv
  go_enter Try.func36, Try.ntmps36
  go_upto_region 1 with (refine wpList_alloc_ref ?_)
  rw [← HWA.out, ← HWB.out, ← HWC.out, show w.heap.size + 1 + 1 = w.heap.size + 2 from rfl]
  go_wp2_with fail
  refine wp_region_quiet_grown (by assumption) (by kernel_rfl) ?_
  iterate 3 (quiet_step (fail))
  refine wpQuiet_load_ref (by rfl) GL.out ?_
  simp only [Act.put, List.setIfInBounds_toArray, List.set_cons_zero, List.set_cons_succ]
  repeat (quiet_step (first | (go_at_call 41; with_reducible exact grown_of_Gr (HC.out _ _))))
  refine wpQuiet_nil ?_
  intro _ hw'
  obtain ⟨⟨nq, osq⟩, hw2⟩ := hw'
  subst hw2
  have hrc := (Gr.bw ⟨nq, osq, rfl⟩ : Bw wc (grow (wc.drewN nq) osq)).blk HRC.out
  have hrz := (Gr.bw ⟨nq, osq, rfl⟩ : Bw wc (grow (wc.drewN nq) osq)).blk HRZ.out
  have hbw := HB.out.bw.trans (Gr.bw ⟨nq, osq, rfl⟩ : Bw wc (grow (wc.drewN nq) osq))
  clear g0 g1
  generalize grow (wc.drewN nq) osq = w1 at hrc hrz hbw ⊢
  have HB1 := Lib.hid hbw
  have HR1 := Lib.hid hrz
  clear hbw
  go_wp2_with (first | refine wpList_load_ref (by rfl) hrc ?_ | (refine wpList_store_ref (by rfl) (by rfl) hrz HV.out ?_; clear hrz hrc))
  refine bodyPost_ret (ref_ret2 rfl _ _ (w.heap.size + 2) rfl rfl (setRow_ref HR1.out)) rfl ⟨rfl, HB1.out.setRow (by omega) _⟩
end Go.Proofs.Ytllmiaonlofeeaa
