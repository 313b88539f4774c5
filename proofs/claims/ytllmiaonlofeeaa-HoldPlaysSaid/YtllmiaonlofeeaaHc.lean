/-
  The hold in memory; process, Count, Low, New. No conditions beyond what each theorem states.
-/
import Derived.Test.YtllmiaonlofeeaaHb
namespace Go.Proofs.Ytllmiaonlofeeaa
open Go.RowKit Go.Sort

/-- The cells of a hold: 64 marks, 64 slices. -/
def holdCells (low : Nat → Int) (v : Nat → Value) : Array Value := ((List.range 64).map (fun p => Value.int .u32 (low p)) ++ (List.range 64).map v).toArray
theorem hold_low {low : Nat → Int} {v : Nat → Value} {p : Nat} (h : p < 64) : (holdCells low v)[p]? = some (.int .u32 (low p)) := by
  unfold holdCells
  rw [List.getElem?_toArray, List.getElem?_append_left (by simpa using h)]
  simp [h]
theorem hold_row {low : Nat → Int} {v : Nat → Value} {p : Nat} (h : p < 64) : (holdCells low v)[64 + p]? = some (v p) := by
  unfold holdCells
  rw [List.getElem?_toArray, List.getElem?_append_right (by simp)]
  simp [h]
def upd {α : Type} (f : Nat → α) (p : Nat) (x : α) : Nat → α := fun q => if q = p then x else f q
theorem upd_at {α : Type} (f : Nat → α) (p : Nat) (x : α) : upd f p x p = x := if_pos rfl
theorem upd_ne {α : Type} (f : Nat → α) {p q : Nat} (x : α) (h : q ≠ p) : upd f p x q = f q := if_neg h
theorem holdCells_get (low : Nat → Int) (v : Nat → Value) (j : Nat) : (holdCells low v)[j]? = if j < 64 then some (.int .u32 (low j)) else if j < 128 then some (v (j - 64)) else none := by
  by_cases h : j < 64
  · rw [if_pos h, hold_low h]
  · rw [if_neg h]
    by_cases h2 : j < 128
    · rw [if_pos h2, show j = 64 + (j - 64) by omega, hold_row (by omega), show 64 + (j - 64) - 64 = j - 64 by omega]
    · rw [if_neg h2]
      unfold holdCells
      rw [List.getElem?_toArray]
      exact List.getElem?_eq_none (by simp; omega)
theorem set_low (low : Nat → Int) (v : Nat → Value) {p : Nat} (h : p < 64) (x : Int) : (holdCells low v).setIfInBounds p (.int .u32 x) = holdCells (upd low p x) v := by
  apply Array.ext_getElem?
  intro j
  rw [Array.getElem?_setIfInBounds, holdCells_get, holdCells_get]
  by_cases e : p = j
  · subst e
    rw [if_pos rfl, if_pos h, if_pos (by simp [holdCells]; omega), upd_at]
  · rw [if_neg e]
    by_cases h2 : j < 64
    · rw [if_pos h2, if_pos h2, upd_ne _ _ (fun e2 => e e2.symm)]
    · rw [if_neg h2, if_neg h2]
theorem set_row (low : Nat → Int) (v : Nat → Value) {p : Nat} (h : p < 64) (x : Value) : (holdCells low v).setIfInBounds (64 + p) x = holdCells low (upd v p x) := by
  apply Array.ext_getElem?
  intro j
  rw [Array.getElem?_setIfInBounds, holdCells_get, holdCells_get]
  by_cases e : 64 + p = j
  · subst e
    rw [if_pos rfl, if_pos (by simp [holdCells]; omega), if_neg (by omega), if_pos (by omega), show 64 + p - 64 = p by omega, upd_at]
  · rw [if_neg e]
    by_cases h2 : j < 64
    · rw [if_pos h2, if_pos h2]
    · rw [if_neg h2, if_neg h2]
      by_cases h3 : j < 128
      · rw [if_pos h3, if_pos h3, upd_ne _ _ (by omega)]
      · rw [if_neg h3, if_neg h3]

theorem c_process (p : Int) (w : World) : Calls Try.prog 64 #[.int .i64 p] w fun e w' => e = .returned (.bool (decide (0 ≤ p ∧ p < 64))) ∧ w = w' := by
  by_cases h : 0 ≤ p
  · go_enter Try.func64, Try.ntmps64
    go_wp2
    go_ret
    exact ⟨ret_bool (by simp [h]), rfl⟩
  · have hd : decide (0 ≤ p) = false := decide_eq_false h
    go_enter Try.func64, Try.ntmps64
    go_wp2
    go_ret
    exact ⟨ret_bool (by simp), rfl⟩
theorem c_process_in {p : Int} (h : 0 ≤ p ∧ p < 64) (w : World) : Calls Try.prog 64 #[.int .i64 p] w fun e w' => e = .returned (.bool true) ∧ w = w' := by
  have := c_process p w
  rwa [decide_eq_true h] at this
theorem c_process_out {p : Int} (h : ¬ (0 ≤ p ∧ p < 64)) (w : World) : Calls Try.prog 64 #[.int .i64 p] w fun e w' => e = .returned (.bool false) ∧ w = w' := by
  have := c_process p w
  rwa [decide_eq_false h] at this

/-- The hold at block b: marks low, slices v. -/
def HoldBlk (w : World) (b : Nat) (low : Nat → Int) (v : Nat → Value) : Prop := w.heap[b]? = some (.cells (holdCells low v) 98 (0, 0))

set_option maxHeartbeats 1000000 in
theorem c_hCount_in (b i : Nat) (p : Int) (low : Nat → Int) (v : Nat → Value) (a : Option Addr) (n c : Nat) (w : World) (h : HoldBlk w b low v) (hp : p = i) (hi : i < 64) (hv : v i = .slice a n c) (h0 : 0 ≤ low i) (h1 : low i + n ≤ 4294967295) :
    Calls Try.prog 40 #[.pointer (some ⟨b, 0, none⟩), .int .i64 p] w fun e w' => e = .returned (.int .u32 (low i + n)) ∧ Gr w w' := by
  have mixed : Try.prog.follows .mixedOrders = true := by kernel_rfl
  have hb := lt_blk h
  have x0 : ∀ q os, (grow (w.drewN q) os).cell? ⟨b, i, none⟩ = some (.int .u32 (low i)) := fun q os => by rw [cell_blk ((Gr.bw ⟨q, os, rfl⟩).blk h)]; exact hold_low hi
  have x1 : ∀ q os, (grow (w.drewN q) os).cell? ⟨b, 64 + i, none⟩ = some (.slice a n c) := fun q os => by rw [cell_blk ((Gr.bw ⟨q, os, rfl⟩).blk h), hold_row hi, hv]
  have hz : (i : Int) < 64 := by omega
  have hz0 : (0 : Int) ≤ (i : Int) := by omega
  have e1 : IntKind.u32.wrap (n : Int) = (n : Int) := by rw [IntKind.wrap_u32]; omega
  have e2 : IntKind.u32.wrap (low i + (n : Int)) = low i + n := by rw [IntKind.wrap_u32]; omega
  have HH := Lib.hid h
  have HV := Lib.hid hv
  subst hp
  clear h hv
  go_enter Try.func40, Try.ntmps40
  go_wp2_with fail
  refine (c_process_in ⟨hz0, hz⟩ _).mono ?_
  rintro e w' ⟨rfl, rfl⟩
  go_wp2_with fail
  go_quiet_grown (fail)
  go_wp2
  go_ret
  exact ⟨rfl, ⟨nq, osq, rfl⟩⟩

theorem c_hCount_out (b : Nat) (p : Int) (w : World) (hp : ¬ (0 ≤ p ∧ p < 64)) :
    Calls Try.prog 40 #[.pointer (some ⟨b, 0, none⟩), .int .i64 p] w fun e w' => e = .returned (.int .u32 0) ∧ w = w' := by
  have HP := Lib.hid hp
  clear hp
  go_enter Try.func40, Try.ntmps40
  go_wp2_with fail
  refine (c_process_out HP.out _).mono ?_
  rintro e w' ⟨rfl, rfl⟩
  go_wp2
  go_ret
  exact ⟨rfl, rfl⟩
theorem c_hLow_in (b i : Nat) (p : Int) (low : Nat → Int) (v : Nat → Value) (w : World) (h : HoldBlk w b low v) (hp : p = i) (hi : i < 64) :
    Calls Try.prog 47 #[.pointer (some ⟨b, 0, none⟩), .int .i64 p] w fun e w' => e = .returned (.int .u32 (low i)) ∧ w = w' := by
  have hb := lt_blk h
  have x0 : w.cell? ⟨b, i, none⟩ = some (.int .u32 (low i)) := by rw [cell_blk h]; exact hold_low hi
  have hz : (i : Int) < 64 := by omega
  have hz0 : (0 : Int) ≤ (i : Int) := by omega
  have HH := Lib.hid h
  subst hp
  clear h
  go_enter Try.func47, Try.ntmps47
  go_wp2_with fail
  refine (c_process_in ⟨hz0, hz⟩ _).mono ?_
  rintro e w' ⟨rfl, rfl⟩
  go_wp2
  go_ret
  exact ⟨rfl, rfl⟩
theorem c_hLow_out (b : Nat) (p : Int) (w : World) (hp : ¬ (0 ≤ p ∧ p < 64)) :
    Calls Try.prog 47 #[.pointer (some ⟨b, 0, none⟩), .int .i64 p] w fun e w' => e = .returned (.int .u32 0) ∧ w = w' := by
  have HP := Lib.hid hp
  clear hp
  go_enter Try.func47, Try.ntmps47
  go_wp2_with fail
  refine (c_process_out HP.out _).mono ?_
  rintro e w' ⟨rfl, rfl⟩
  go_wp2
  go_ret
  exact ⟨rfl, rfl⟩

set_option maxRecDepth 100000 in
theorem c_hNew (w : World) : Calls Try.prog 32 #[] w fun e w' => e = .returned (.pointer (some ⟨w.heap.size, 0, none⟩)) ∧ HoldBlk w' w.heap.size (fun _ => 0) (fun _ => .slice none 0 0) ∧ w' = w.alloc (.cells (holdCells (fun _ => 0) (fun _ => .slice none 0 0)) 98) := by
  go_enter Try.func32, Try.ntmps32
  go_wp2
  go_ret
  exact ⟨rfl, heap_alloc_new _ _, rfl⟩
end Go.Proofs.Ytllmiaonlofeeaa
