/-
  The reference's hold in memory: one list, 64 marks; its loads, stores, allocs as a whole. No conditions beyond what each theorem states.
-/
import Derived.Test.YtllmiaonlofeeaaHt
namespace Go.Proofs.Ytllmiaonlofeeaa
open Go.RowKit Go.Sort

/-- The 65 cells of the reference's hold. -/
def refCells (va : Value) (low : Nat → Int) : Array Value := (va :: (List.range 64).map (fun p => Value.int .u32 (low p))).toArray
theorem ref_all (va : Value) (low : Nat → Int) : (refCells va low)[0]? = some va := rfl
theorem ref_low {va : Value} {low : Nat → Int} {p : Nat} (h : p < 64) : (refCells va low)[1 + p]? = some (.int .u32 (low p)) := by
  unfold refCells
  rw [List.getElem?_toArray, show 1 + p = p + 1 by omega, List.getElem?_cons_succ]
  simp [h]
theorem refCells_size (va : Value) (low : Nat → Int) : (refCells va low).size = 65 := by simp [refCells]
theorem refCells_one {va : Value} (low : Nat → Int) (h : va.oneCell' = true) : (refCells va low).all (·.oneCell') = true := by
  rw [Array.all_eq_true_iff_forall_mem]
  intro u hu
  unfold refCells at hu
  rw [List.mem_toArray, List.mem_cons, List.mem_map] at hu
  rcases hu with rfl | ⟨p, _, rfl⟩
  · exact h
  · rfl
def RefBlk (w : World) (b : Nat) (va : Value) (low : Nat → Int) : Prop := w.heap[b]? = some (.cells (refCells va low) 59 (0, 0))
theorem ref_size : (Try.prog.info? 59).map (·.size) = some 65 := by kernel_rfl
theorem ref_zero : (Try.prog.info? 59).map (·.zero) = some (some (.agg (refCells (.slice none 0 0) (fun _ => 0)))) := by kernel_rfl
theorem run_load_ref {w : World} {b : Nat} {va : Value} {low : Nat → Int} (h : RefBlk w b va low) : (Instr.loadAt 59 (.pointer (some ⟨b, 0, none⟩))).run Try.prog w = .ok (.agg (refCells va low)) w := by
  have := run_loadAt_mid (P := Try.prog) w b 0 59 (refCells va low).toList _ (fun j u hu => by rw [Nat.zero_add, cell_blk h]; simpa using hu) Try.underlying59 rfl (by rw [ref_size, Array.length_toList, refCells_size])
  simpa using this
theorem run_alloc_ref (w : World) : (Instr.alloc 59 true (.tuple #[])).run Try.prog w = .ok (.pointer (some ⟨w.heap.size, 0, none⟩)) (w.alloc (.cells (refCells (.slice none 0 0) (fun _ => 0)) 59)) := by
  have h := ref_zero
  cases hq : Try.prog.info? 59 with
  | none => rw [hq] at h; simp at h
  | some i =>
    rw [hq] at h
    simp only [Option.map_some, Option.some.injEq] at h
    simp [Instr.alloc, zeroValue, typeInfo, hq, h, Sem.run_bind, newVar, newRow, Value.cells]
theorem run_store_ref {w : World} {g : Nat} {va va' : Value} {low low' : Nat → Int} (h : RefBlk w g va' low') (hv : va.oneCell' = true) :
    (Instr.storeAt 59 (.pointer (some ⟨g, 0, none⟩)) (.agg (refCells va low))).run Try.prog w = .ok () (w.setRow g (refCells va low)) := by
  have := run_storeVar_row (P := Try.prog) w g 59 59 (refCells va' low') (refCells va low) h (by rw [ref_size, refCells_size]) (by rw [refCells_size, refCells_size]) (refCells_one low hv)
  simp only [Instr.storeAt, Instr.sureAddr, Sem.run_bind, Sem.run_pure, Result.andThen_ok, this]
section
variable {ops : Array Oper} {rest : List Oper} {a : Act} {Q : Exit → Act → World → Prop} {w : World} {dst : Option Tmp} {x y : Operand} {ty : TypeId} {pos : String} {af : Array Edge}
theorem wpList_load_ref {b : Nat} {va : Value} {low : Nat → Int} (hx : a.eval x = .pointer (some ⟨b, 0, none⟩)) (h : RefBlk w b va low) (hw : wpList Try.prog ops Q rest (a.put dst (.agg (refCells va low))) w) :
    wpList Try.prog ops Q ({ dst := dst, op := .load 59 x, type := ty, pos := pos, after := af, guard := none } :: rest) a w := by
  refine wpList_plain rfl fun K hK => ?_
  unfold Oper.wp execOp
  simp only [hx, Sem.run_bind, run_load_ref h, Result.andThen_ok]
  exact hK _ _ hw
theorem wpList_alloc_ref (hw : wpList Try.prog ops Q rest (a.put dst (.pointer (some ⟨w.heap.size, 0, none⟩))) (w.alloc (.cells (refCells (.slice none 0 0) (fun _ => 0)) 59))) :
    wpList Try.prog ops Q ({ dst := dst, op := .alloc 59, type := ty, pos := pos, after := af, guard := none } :: rest) a w := by
  refine wpList_plain rfl fun K hK => ?_
  unfold Oper.wp execOp
  simp only [Sem.run_bind, run_alloc_ref, Result.andThen_ok]
  exact hK _ _ hw
theorem wpList_store_ref {g : Nat} {va va' : Value} {low low' : Nat → Int} (hx : a.eval x = .pointer (some ⟨g, 0, none⟩)) (hy : a.eval y = .agg (refCells va low)) (h : RefBlk w g va' low') (hv : va.oneCell' = true)
    (hw : wpList Try.prog ops Q rest (a.put dst undef) (w.setRow g (refCells va low))) :
    wpList Try.prog ops Q ({ dst := dst, op := .store 59 x y, type := ty, pos := pos, after := af, guard := none } :: rest) a w := by
  refine wpList_plain rfl fun K hK => ?_
  unfold Oper.wp execOp
  simp only [hx, hy, Sem.run_bind, run_store_ref h hv, Result.andThen_ok]
  exact hK _ _ hw
end
theorem setRow_ref {w : World} {g : Nat} {va va' : Value} {low low' : Nat → Int} (h : RefBlk w g va' low') : RefBlk (w.setRow g (refCells va low)) g va low := setRow_heap w g _ _ _ _ h
end Go.Proofs.Ytllmiaonlofeeaa
