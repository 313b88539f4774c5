/-
  The hold's Put. No conditions beyond what each theorem states.
-/
import Derived.Test.YtllmiaonlofeeaaHe
namespace Go.Proofs.Ytllmiaonlofeeaa
open Go.RowKit Go.Sort

theorem msg_blk (w : World) (x : Msg) : (w.alloc (.cells #[.int .i64 x.frm, .int .u32 x.seq, .int .u64 x.stamp, .int .i64 x.svc, .slice x.da x.dl x.dc, .string x.pay] 43)).heap[w.heap.size]? = some (.cells #[.int .i64 x.frm, .int .u32 x.seq, .int .u64 x.stamp, .int .i64 x.svc, .slice x.da x.dl x.dc, .string x.pay] 43 (0, 0)) := heap_alloc_new _ _

set_option maxRecDepth 100000 in
set_option maxHeartbeats 1000000 in
theorem c_hPut_range (b : Nat) (x : Msg) (w : World) (hp : ¬ (0 ≤ x.frm ∧ x.frm < 64)) :
    Calls Try.prog 35 #[.pointer (some ⟨b, 0, none⟩), .agg #[.int .i64 x.frm, .int .u32 x.seq, .int .u64 x.stamp, .int .i64 x.svc, .slice x.da x.dl x.dc, .string x.pay]] w fun e w' => e = .returned (.int .i64 1) ∧ Bw w w' := by
  have HP := Lib.hid hp
  clear hp
  go_enter Try.func35, Try.ntmps35
  go_wp2_with fail
  refine (c_process_out HP.out _).mono ?_
  rintro e w' ⟨rfl, rfl⟩
  go_wp2
  go_ret
  exact ⟨rfl, Bw.alloc _ _⟩

set_option maxRecDepth 100000 in
set_option maxHeartbeats 1000000 in
theorem c_hPut_order (b i : Nat) (x : Msg) (low : Nat → Int) (v : Nat → Value) (a : Option Addr) (n c : Nat) (w : World) (h : HoldBlk w b low v) (hp : x.frm = i) (hi : i < 64) (hv : v i = .slice a n c) (h0 : 0 ≤ low i) (h1 : low i + n ≤ 1000000)
    (hs0 : 0 ≤ x.seq) (hs1 : x.seq ≤ 4294967295) (hs : ¬ x.seq = low i + n + 1) :
    Calls Try.prog 35 #[.pointer (some ⟨b, 0, none⟩), .agg #[.int .i64 x.frm, .int .u32 x.seq, .int .u64 x.stamp, .int .i64 x.svc, .slice x.da x.dl x.dc, .string x.pay]] w fun e w' => e = .returned (.int .i64 13) ∧ Bw w w' := by
  have mixed : Try.prog.follows .mixedOrders = true := by kernel_rfl
  have hz : 0 ≤ x.frm ∧ x.frm < 64 := by omega
  have HZ := Lib.hid hz
  obtain ⟨W, hW⟩ : ∃ W, W = w.alloc (.cells #[.int .i64 x.frm, .int .u32 x.seq, .int .u64 x.stamp, .int .i64 x.svc, .slice x.da x.dl x.dc, .string x.pay] 43) := ⟨_, rfl⟩
  have hB : Bw w W := hW ▸ Bw.alloc _ _
  have hN : W.heap[w.heap.size]? = some (.cells #[.int .i64 x.frm, .int .u32 x.seq, .int .u64 x.stamp, .int .i64 x.svc, .slice x.da x.dl x.dc, .string x.pay] 43 (0, 0)) := hW ▸ msg_blk w x
  have HW := Lib.hid hW
  clear hW
  have HC : Hid (∀ (k : Nat) (os : Array Obj), Calls Try.prog 40 #[.pointer (some ⟨b, 0, none⟩), .int .i64 x.frm] (grow (W.drewN k) os) fun e w' => e = .returned (.int .u32 (low i + n)) ∧ Gr (grow (W.drewN k) os) w') :=
    fun k os => c_hCount_in b i x.frm low v a n c _ ((hB.trans (Gr.bw ⟨k, os, rfl⟩)).blk h) hp hi hv h0 (by omega)
  have y0 : ∀ q os, (grow (W.drewN q) os).cell? ⟨w.heap.size, 0, none⟩ = some (.int .i64 x.frm) := fun q os => cell_blk ((Gr.bw ⟨q, os, rfl⟩).blk hN)
  have y1 : ∀ q os, (grow (W.drewN q) os).cell? ⟨w.heap.size, 1, none⟩ = some (.int .u32 x.seq) := fun q os => cell_blk ((Gr.bw ⟨q, os, rfl⟩).blk hN)
  have HB := Lib.hid hB
  clear hz h hp hv hB hN
  obtain ⟨q, hq⟩ : ∃ q, q = low i + n := ⟨_, rfl⟩
  rw [← hq] at HC h1 hs
  clear hq
  have HS := Lib.hid hs
  by_cases e0 : x.seq = 0
  · have eb : (x.seq == 0) = true := by simpa using e0
    have HE := Lib.hid e0
    clear e0 hs
    go_enter Try.func35, Try.ntmps35
    go_wp2_with fail
    rw [← HW.out]
    refine (c_process_in HZ.out _).mono ?_
    rintro e w' ⟨rfl, rfl⟩
    go_wp2_with fail
    have y0' : ∀ q, (W.drewN q).cell? ⟨w.heap.size, 0, none⟩ = some (.int .i64 x.frm) := fun q => by have := y0 q #[]; simpa using this
    have y1' : ∀ q, (W.drewN q).cell? ⟨w.heap.size, 1, none⟩ = some (.int .u32 x.seq) := fun q => by have := y1 q #[]; simpa using this
    go_quiet (fail)
    go_wp2
    go_ret
    exact ⟨rfl, HB.out.trans (Bw.drewN _ _)⟩
  · have eb : (x.seq == 0) = false := by simpa using e0
    have e1 : IntKind.u32.wrap (x.seq - 1) = x.seq - 1 := by rw [IntKind.wrap_u32]; omega
    have e2 : (x.seq - 1 != q) = true := by rw [bne_iff_ne]; omega
    clear hs e0
    go_enter Try.func35, Try.ntmps35
    go_wp2_with fail
    rw [← HW.out]
    refine (c_process_in HZ.out _).mono ?_
    rintro e w' ⟨rfl, rfl⟩
    go_wp2_with fail
    go_quiet_grown (first | (go_at_call 40; with_reducible exact grown_of_Gr (HC.out _ _)))
    go_wp2
    go_ret
    exact ⟨rfl, HB.out.trans (Gr.bw ⟨nq, osq, rfl⟩)⟩
theorem hold_apart {w : World} {b base : Nat} {low : Nat → Int} {v : Nat → Value} {u : Value} {l : List Msg} (h : HoldBlk w b low v) (ho : Own6 base w u l) : ∀ g, u.ownBlock = some g → b ≠ g := by
  intro g hg e
  subst e
  rcases ho.2 with ⟨rfl, _⟩ | ⟨g', cap, cur, rfl, _, hg', _⟩
  · simp [Value.ownBlock] at hg
  · simp only [Value.ownBlock, Option.some.injEq] at hg
    subst hg
    unfold HoldBlk at h
    rw [hg'] at h
    simp at h
theorem own_one {base g c : Nat} {w : World} {x : Msg} (h : Own6 base w (.slice (some ⟨g, 0, none⟩) [x].length c) [x]) : ∀ j u, (encM x)[j]? = some u → w.cell? ((⟨g, 0, none⟩ : Addr).add j) = some u := by
  intro j u hu
  exact World.ownsRow.cells h (g := g) rfl j u (by simpa [flatM] using hu)
theorem encM_one (x : Msg) : ∀ u ∈ encM x, u.oneCell' = true := by
  have := flatM_one [x]
  simpa [flatM] using this
end Go.Proofs.Ytllmiaonlofeeaa
