/-
  The reference's hold: Drop, of what is no process. No conditions beyond what each theorem states.
-/
import Derived.Test.YtllmiaonlofeeaaHy
namespace Go.Proofs.Ytllmiaonlofeeaa
open Go.RowKit Go.Sort

theorem Bw.setRow {w0 w : World} (h : Bw w0 w) {g : Nat} (hg : w0.heap.size ≤ g) (cs : Array Value) : Bw w0 (w.setRow g cs) :=
  ⟨h.os, h.tape, h.output, by rw [setRow_size]; exact h.size, fun k hk => by rw [setRow_other _ _ _ _ (by omega)]; exact h.block k hk⟩
theorem ref_ret {fn : Func} {p : Tmp} (h : fn.results = #[.cell p 59]) (tmps : Array Value) (w : World) (g : Nat) {va : Value} {low : Nat → Int} (hp : tmps.getD p undef = .pointer (some ⟨g, 0, none⟩)) (hg : RefBlk w g va low) :
    (results fn tmps).run Try.prog w = .ok (.agg (refCells va low)) w :=
  results_cell_row h tmps w g 59 (refCells va low) (0, 0) _ hp hg Try.underlying59 rfl (by rw [ref_size, refCells_size])

set_option maxRecDepth 100000 in
set_option maxHeartbeats 2000000 in
theorem c_rhDrop_out (a : Option Addr) (n cap : Nat) (low : Nat → Int) (p upto : Int) (w : World) (hp : ¬ InP p) :
    Calls Try.prog 34 #[.agg (refCells (.slice a n cap) low), .int .i64 p, .int .u32 upto] w fun e w' => e = .returned (.agg (refCells (.slice a n cap) low)) ∧ Bw w w' := by
  obtain ⟨wa, hwa⟩ : ∃ wa, wa = w.alloc (.cells (refCells (.slice a n cap) low) 59) := ⟨_, rfl⟩
  obtain ⟨wb, hwb⟩ : ∃ wb, wb = wa.alloc (.cells (refCells (.slice none 0 0) (fun _ => 0)) 59) := ⟨_, rfl⟩
  have hBa : Bw w wa := hwa ▸ Bw.alloc _ _
  have hza : wa.heap.size = w.heap.size + 1 := by rw [hwa]; simp
  have hBb : Bw wa wb := hwb ▸ Bw.alloc _ _
  have hna : RefBlk wa w.heap.size (.slice a n cap) low := hwa ▸ heap_alloc_new _ _
  have hzb : RefBlk wb (w.heap.size + 1) (.slice none 0 0) (fun _ => 0) := by rw [← hza, hwb]; exact heap_alloc_new _ _
  have hrb : RefBlk wb w.heap.size (.slice a n cap) low := hBb.blk hna
  have hB := hBa.trans hBb
  have hone : (Value.slice a n cap).oneCell' = true := rfl
  have HB := Lib.hid hB
  have HWA := Lib.hid hwa
  have HWB := Lib.hid hwb
  have HS := Lib.hid (setRow_ref (va := .slice a n cap) (low := low) hzb)
  have HZA := Lib.hid hza
  clear hBa hBb hna hza hB hwa hwb
  by_cases h0 : p < 0
  · go_enter Try.func34, Try.ntmps34
    go_upto_region 1 with (refine wpList_alloc_ref ?_)
    rw [← HWA.out, ← HWB.out, HZA.out]
    go_wp2_with (first | refine wpList_load_ref (by rfl) hrb ?_ | (refine wpList_store_ref (by rfl) (by rfl) hzb hone ?_; clear hzb hrb))
    refine bodyPost_ret (ref_ret rfl _ _ (w.heap.size + 1) rfl HS.out) rfl ⟨rfl, HB.out.setRow (Nat.le_succ _) _⟩
  · have h0d : decide (p < 0) = false := decide_eq_false h0
    have h1 : 63 < p := by unfold InP at hp; omega
    go_enter Try.func34, Try.ntmps34
    go_upto_region 1 with (refine wpList_alloc_ref ?_)
    rw [← HWA.out, ← HWB.out, HZA.out]
    go_wp2_with (first | refine wpList_load_ref (by rfl) hrb ?_ | (refine wpList_store_ref (by rfl) (by rfl) hzb hone ?_; clear hzb hrb))
    refine bodyPost_ret (ref_ret rfl _ _ (w.heap.size + 1) rfl HS.out) rfl ⟨rfl, HB.out.setRow (Nat.le_succ _) _⟩
end Go.Proofs.Ytllmiaonlofeeaa
