/-
  The reference's hold: Drop. No conditions beyond what each theorem states.
-/
import Derived.Test.YtllmiaonlofeeaaIa
namespace Go.Proofs.Ytllmiaonlofeeaa
open Go.RowKit Go.Sort

theorem refCells_get (va : Value) (low : Nat → Int) (j : Nat) : (refCells va low)[j]? = if j = 0 then some va else if j < 65 then some (.int .u32 (low (j - 1))) else none := by
  cases j with
  | zero => rfl
  | succ j =>
    rw [if_neg (by omega)]
    by_cases h : j < 64
    · rw [if_pos (by omega), show j + 1 = 1 + j by omega, ref_low h, show 1 + j - 1 = j by omega]
    · rw [if_neg (by omega)]
      exact Array.getElem?_eq_none (by rw [refCells_size]; omega)
theorem ref_set_low (va : Value) (low : Nat → Int) {p : Nat} (h : p < 64) (x : Int) : (refCells va low).setIfInBounds (1 + p) (.int .u32 x) = refCells va (upd low p x) := by
  apply Array.ext_getElem?
  intro j
  rw [Array.getElem?_setIfInBounds, refCells_get, refCells_get]
  by_cases e : 1 + p = j
  · subst e
    rw [if_pos rfl, if_pos (by rw [refCells_size]; omega), if_neg (by omega), if_pos (by omega), show 1 + p - 1 = p by omega, upd_at]
  · rw [if_neg e]
    by_cases h2 : j = 0
    · rw [if_pos h2, if_pos h2]
    · rw [if_neg h2, if_neg h2]
      by_cases h3 : j < 65
      · rw [if_pos h3, if_pos h3, upd_ne _ _ (by omega)]
      · rw [if_neg h3, if_neg h3]
theorem RefBlk.setLow {w : World} {b p : Nat} {va : Value} {low : Nat → Int} (h : RefBlk w b va low) (hp : p < 64) (x : Int) : RefBlk (w.setCell ⟨b, 1 + p, none⟩ (.int .u32 x)) b va (upd low p x) := by
  have := set_blk (i := 1 + p) h (.int .u32 x)
  rwa [ref_set_low va low hp x] at this

/-- The reference's Drop. -/
def rLow (LA : List DM) (low : Nat → Int) (p upto : Int) : Nat → Int := if InP p ∧ low p.toNat < min upto ((ofP LA p).length : Int) then upd low p.toNat (min upto ((ofP LA p).length : Int)) else low
theorem Lk.rLowE {low : Nat → Int} {R : Nat → List DM} {LA : List DM} (h : Lk low R LA) (p upto : Int) : rLow LA low p upto = dropLow low R p upto := by
  unfold rLow dropLow dropU
  by_cases hp : InP p
  · obtain ⟨e1, e2⟩ := hp.nat
    have hs := h.sum e2
    rw [← e1] at hs
    rw [hs]
  · rw [if_neg fun e => hp e.1, if_neg fun e => hp e.1]

set_option linter.unusedSimpArgs false
set_option maxRecDepth 100000 in
set_option maxHeartbeats 2000000 in
theorem c_rhDrop_in (va : Value) (la : List Msg) (LA : List DM) (low : Nat → Int) (p upto : Int) (i : Nat) (w : World) (h : MAt w va la) (hD : DL w la LA) (hn : la.length ≤ 1000000) (hp : InP p) (hi : i = p.toNat) (u : Int) (hu : u = min upto ((ofP LA p).length : Int)) (low' : Nat → Int) (hl : low' = if low i < u then upd low i u else low) :
    Calls Try.prog 34 #[.agg (refCells va low), .int .i64 p, .int .u32 upto] w fun e w' => e = .returned (.agg (refCells va low')) ∧ Bw w w' := by
  obtain ⟨a, cap, rfl⟩ := h.form
  obtain ⟨wa, hwa⟩ : ∃ wa, wa = w.alloc (.cells (refCells (.slice a la.length cap) low) 59) := ⟨_, rfl⟩
  obtain ⟨wb, hwb⟩ : ∃ wb, wb = wa.alloc (.cells (refCells (.slice none 0 0) (fun _ => 0)) 59) := ⟨_, rfl⟩
  have hBa : Bw w wa := hwa ▸ Bw.alloc _ _
  have hza : wa.heap.size = w.heap.size + 1 := by rw [hwa]; simp
  have hBb : Bw wa wb := hwb ▸ Bw.alloc _ _
  have hna : RefBlk wa w.heap.size (.slice a la.length cap) low := hwa ▸ heap_alloc_new _ _
  have hzb : RefBlk wb (w.heap.size + 1) (.slice none 0 0) (fun _ => 0) := by rw [← hza, hwb]; exact heap_alloc_new _ _
  have hrb : RefBlk wb w.heap.size (.slice a la.length cap) low := hBb.blk hna
  have hB := hBa.trans hBb
  have hone : (Value.slice a la.length cap).oneCell' = true := rfl
  have HC := Lib.hid (c_rhCount (.slice a la.length cap) la LA low p wb (h.bw hB) (hD.bw hB) hn)
  have HB := Lib.hid hB
  have HWA := Lib.hid hwa
  have HWB := Lib.hid hwb
  have HZA := Lib.hid hza
  have HZB := Lib.hid hzb
  have HL := Lib.hid hl
  obtain ⟨n, hnn⟩ : ∃ n : Int, n = ((ofP LA p).length : Int) := ⟨_, rfl⟩
  rw [← hnn] at HC hu
  have hl0 : 0 ≤ p := hp.1
  have hl1 : p < 64 := hp.2
  have hi64 : p.toNat < 64 := by omega
  have HI := Lib.hid hi
  obtain ⟨lo, hlo⟩ : ∃ lo, lo = low p.toNat := ⟨_, rfl⟩
  have HLO := Lib.hid hlo
  have HU := Lib.hid hu
  clear hBa hBb hna hza hB hwa hwb hl h hD hp hnn hi hlo hu
  by_cases c1 : n < upto
  · have hun : u = n := by rw [HU.out]; omega
    by_cases c2 : lo < n
    · have hlow : low' = upd low p.toNat n := by rw [HL.out, HI.out, ← HLO.out, hun, if_pos c2]
      have HLW := Lib.hid hlow
      clear hlow hun
      go_enter Try.func34, Try.ntmps34
      go_upto_region 1 with (refine wpList_alloc_ref ?_)
      rw [← HWA.out, ← HWB.out, HZA.out]
      go_wp2_with (refine wpList_load_ref (by rfl) hrb ?_; clear hrb hzb)
      refine HC.out.mono ?_
      rintro e w1 ⟨rfl, hg1⟩
      have hb1 := hg1.bw
      have hr1 : RefBlk w1 w.heap.size (.slice a la.length cap) low := hb1.blk (by rw [HWB.out, HWA.out]; exact (Bw.alloc _ _).blk (heap_alloc_new _ _))
      have hz1 : RefBlk w1 (w.heap.size + 1) (.slice none 0 0) (fun _ => 0) := hb1.blk HZB.out
      have cl : w1.cell? ⟨w.heap.size, 1 + p.toNat, none⟩ = some (.int .u32 lo) := by rw [cell_blk hr1, HLO.out]; exact ref_low hi64
      have hzz : w.heap.size + 1 < w1.heap.size := lt_blk hz1
      have fl : w1.frozen? ⟨w.heap.size, 1 + p.toNat, none⟩ = false := soft_blk hr1
      have hr2 := hr1.setLow hi64 n
      have hz2 : RefBlk (w1.setCell ⟨w.heap.size, 1 + p.toNat, none⟩ (.int .u32 n)) (w.heap.size + 1) (.slice none 0 0) (fun _ => 0) := (set_other _ (by omega)).trans hz1
      have B1 := Lib.hid (HB.out.trans hb1)
      clear hb1 hg1 hr1 hz1
      go_wp2_with (first | refine wpList_load_ref (by rfl) hr2 ?_ | (refine wpList_store_ref (by rfl) (by rfl) hz2 hone ?_))
      refine bodyPost_ret (ref_ret rfl _ _ (w.heap.size + 1) rfl (setRow_ref hz2)) rfl ⟨by rw [HLW.out], ?_⟩
      exact Bw.setRow (Below.setCell B1.out (p := ⟨w.heap.size, 1 + p.toNat, none⟩) (Nat.le_refl _) _) (Nat.le_succ _) _
    · have hlow : low' = low := by rw [HL.out, HI.out, ← HLO.out, hun, if_neg c2]
      have HLW := Lib.hid hlow
      clear hlow hun
      have c2d : decide (lo < n) = false := decide_eq_false c2
      go_enter Try.func34, Try.ntmps34
      go_upto_region 1 with (refine wpList_alloc_ref ?_)
      rw [← HWA.out, ← HWB.out, HZA.out]
      go_wp2_with (refine wpList_load_ref (by rfl) hrb ?_; clear hrb hzb)
      refine HC.out.mono ?_
      rintro e w1 ⟨rfl, hg1⟩
      have hb1 := hg1.bw
      have hr1 : RefBlk w1 w.heap.size (.slice a la.length cap) low := hb1.blk (by rw [HWB.out, HWA.out]; exact (Bw.alloc _ _).blk (heap_alloc_new _ _))
      have hz1 : RefBlk w1 (w.heap.size + 1) (.slice none 0 0) (fun _ => 0) := hb1.blk HZB.out
      have cl : w1.cell? ⟨w.heap.size, 1 + p.toNat, none⟩ = some (.int .u32 lo) := by rw [cell_blk hr1, HLO.out]; exact ref_low hi64
      have hzz : w.heap.size + 1 < w1.heap.size := lt_blk hz1
      have hr2 := hr1
      have hz2 := hz1
      have B1 := Lib.hid (HB.out.trans hb1)
      clear hb1 hg1 hr1 hz1
      go_wp2_with (first | refine wpList_load_ref (by rfl) hr2 ?_ | (refine wpList_store_ref (by rfl) (by rfl) hz2 hone ?_))
      refine bodyPost_ret (ref_ret rfl _ _ (w.heap.size + 1) rfl (setRow_ref hz2)) rfl ⟨by rw [HLW.out], ?_⟩
      exact B1.out.setRow (Nat.le_succ _) _
  · have hun : u = upto := by rw [HU.out]; omega
    by_cases c2 : lo < upto
    · have hlow : low' = upd low p.toNat upto := by rw [HL.out, HI.out, ← HLO.out, hun, if_pos c2]
      have HLW := Lib.hid hlow
      clear hlow hun
      have c1d : decide (n < upto) = false := decide_eq_false c1
      go_enter Try.func34, Try.ntmps34
      go_upto_region 1 with (refine wpList_alloc_ref ?_)
      rw [← HWA.out, ← HWB.out, HZA.out]
      go_wp2_with (refine wpList_load_ref (by rfl) hrb ?_; clear hrb hzb)
      refine HC.out.mono ?_
      rintro e w1 ⟨rfl, hg1⟩
      have hb1 := hg1.bw
      have hr1 : RefBlk w1 w.heap.size (.slice a la.length cap) low := hb1.blk (by rw [HWB.out, HWA.out]; exact (Bw.alloc _ _).blk (heap_alloc_new _ _))
      have hz1 : RefBlk w1 (w.heap.size + 1) (.slice none 0 0) (fun _ => 0) := hb1.blk HZB.out
      have cl : w1.cell? ⟨w.heap.size, 1 + p.toNat, none⟩ = some (.int .u32 lo) := by rw [cell_blk hr1, HLO.out]; exact ref_low hi64
      have hzz : w.heap.size + 1 < w1.heap.size := lt_blk hz1
      have fl : w1.frozen? ⟨w.heap.size, 1 + p.toNat, none⟩ = false := soft_blk hr1
      have hr2 := hr1.setLow hi64 upto
      have hz2 : RefBlk (w1.setCell ⟨w.heap.size, 1 + p.toNat, none⟩ (.int .u32 upto)) (w.heap.size + 1) (.slice none 0 0) (fun _ => 0) := (set_other _ (by omega)).trans hz1
      have B1 := Lib.hid (HB.out.trans hb1)
      clear hb1 hg1 hr1 hz1
      go_wp2_with (first | refine wpList_load_ref (by rfl) hr2 ?_ | (refine wpList_store_ref (by rfl) (by rfl) hz2 hone ?_))
      refine bodyPost_ret (ref_ret rfl _ _ (w.heap.size + 1) rfl (setRow_ref hz2)) rfl ⟨by rw [HLW.out], ?_⟩
      exact Bw.setRow (Below.setCell B1.out (p := ⟨w.heap.size, 1 + p.toNat, none⟩) (Nat.le_refl _) _) (Nat.le_succ _) _
    · have hlow : low' = low := by rw [HL.out, HI.out, ← HLO.out, hun, if_neg c2]
      have HLW := Lib.hid hlow
      clear hlow hun
      have c2d : decide (lo < upto) = false := decide_eq_false c2
      have c1d : decide (n < upto) = false := decide_eq_false c1
      go_enter Try.func34, Try.ntmps34
      go_upto_region 1 with (refine wpList_alloc_ref ?_)
      rw [← HWA.out, ← HWB.out, HZA.out]
      go_wp2_with (refine wpList_load_ref (by rfl) hrb ?_; clear hrb hzb)
      refine HC.out.mono ?_
      rintro e w1 ⟨rfl, hg1⟩
      have hb1 := hg1.bw
      have hr1 : RefBlk w1 w.heap.size (.slice a la.length cap) low := hb1.blk (by rw [HWB.out, HWA.out]; exact (Bw.alloc _ _).blk (heap_alloc_new _ _))
      have hz1 : RefBlk w1 (w.heap.size + 1) (.slice none 0 0) (fun _ => 0) := hb1.blk HZB.out
      have cl : w1.cell? ⟨w.heap.size, 1 + p.toNat, none⟩ = some (.int .u32 lo) := by rw [cell_blk hr1, HLO.out]; exact ref_low hi64
      have hzz : w.heap.size + 1 < w1.heap.size := lt_blk hz1
      have hr2 := hr1
      have hz2 := hz1
      have B1 := Lib.hid (HB.out.trans hb1)
      clear hb1 hg1 hr1 hz1
      go_wp2_with (first | refine wpList_load_ref (by rfl) hr2 ?_ | (refine wpList_store_ref (by rfl) (by rfl) hz2 hone ?_))
      refine bodyPost_ret (ref_ret rfl _ _ (w.heap.size + 1) rfl (setRow_ref hz2)) rfl ⟨by rw [HLW.out], ?_⟩
      exact B1.out.setRow (Nat.le_succ _) _
theorem c_rhDrop (va : Value) (la : List Msg) (LA : List DM) (low : Nat → Int) (p upto : Int) (w : World) (h : MAt w va la) (hD : DL w la LA) (hn : la.length ≤ 1000000) :
    Calls Try.prog 34 #[.agg (refCells va low), .int .i64 p, .int .u32 upto] w fun e w' => e = .returned (.agg (refCells va (rLow LA low p upto))) ∧ Bw w w' := by
  unfold rLow
  by_cases hp : InP p
  · refine c_rhDrop_in va la LA low p upto p.toNat w h hD hn hp rfl _ rfl _ ?_
    by_cases c : low p.toNat < min upto ((ofP LA p).length : Int)
    · rw [if_pos ⟨hp, c⟩, if_pos c]
    · rw [if_neg fun e => c e.2, if_neg c]
  · obtain ⟨a, cap, rfl⟩ := h.form
    rw [if_neg fun e => hp e.1]
    exact c_rhDrop_out a la.length cap low p upto w hp
end Go.Proofs.Ytllmiaonlofeeaa
