/-
  The hold's Vector and Copy. No conditions beyond what each theorem states.
-/
import Derived.Test.YtllmiaonlofeeaaHj
namespace Go.Proofs.Ytllmiaonlofeeaa
open Go.RowKit Go.Sort

/-- The call owns the row v: the numbers us. -/
def OwnU (base : Nat) (w : World) (v : Value) (us : List Int) : Prop := w.ownsRow base 40 1 v us.length (flatU us)
theorem OwnU.bw {base : Nat} {w w' : World} {v : Value} {us : List Int} (h : OwnU base w v us) (k : Bw w w') : OwnU base w' v us := by
  refine ⟨h.1, ?_⟩
  rcases h.2 with hn | ⟨g, cap, cur, rfl, hb, hgg, rest⟩
  · exact .inl hn
  · exact .inr ⟨g, cap, cur, rfl, hb, k.blk hgg, rest⟩
theorem OwnU.row {base : Nat} {w : World} {v : Value} {us : List Int} (h : OwnU base w v us) : ∀ k, v.ownBlock = some k → base ≤ k := fun k hk => (World.ownsRow.lt h k hk).1
theorem OwnU.form {base : Nat} {w : World} {v : Value} {us : List Int} (h : OwnU base w v us) : ∃ a c, v = .slice a us.length c := by
  rcases h.2 with ⟨rfl, hn⟩ | ⟨g, cap, cur, rfl, _⟩
  · exact ⟨none, 0, by rw [hn]⟩
  · exact ⟨_, _, rfl⟩
/-- append of a number. -/
theorem appU {ops : Array Oper} {rest : List Oper} {o : Oper} {a : Act} {Q : Exit → Act → World → Prop} {w : World} (hgd : o.guard = none) (s x : Operand)
    (ho : o.op = .call { callee := .builtin .append, args := #[s, x], argTypes := #[41, 41] }) (base g : Nat) (v : Value) (us : List Int) (q : Int) (hs : a.eval s = v) (hx : a.eval x = .slice (some ⟨g, 0, none⟩) 1 1)
    (hown : OwnU base w v us) (hsrc : w.cell? ⟨g, 0, none⟩ = some (.int .u32 q)) (hn : us.length ≤ 1000000) (hbase : base ≤ w.heap.size)
    (h : ∀ v' w', OwnU base w' v' (us ++ [q]) → w.grownBy w' v.ownBlock → wpList Try.prog ops Q rest (a.put o.dst v') w') : wpList Try.prog ops Q (o :: rest) a w := by
  obtain ⟨i0, hi, hz0, hz1, hz2⟩ := info_parts info_U32
  refine wpList_append_own w hgd s x 41 ho base 40 i0 _ 1 4 Try.underlying41 hi hz0 hz1 hz2 rfl (by decide) v us.length (flatU us) hs hown ⟨g, 0, none⟩ 1 1 [.int .u32 q] hx rfl (fun j u hu => ?_) (by simp [Value.oneCell']) (by unfold maxLen; omega) (by omega) hbase ?_
  · match j, hu with
    | 0, hu => simp only [List.getElem?_cons_zero, Option.some.injEq] at hu; subst hu; rw [add_off]; exact hsrc
  · intro v' w' h1 h2 _
    refine h v' w' ?_ h2
    unfold OwnU
    rw [List.length_append, List.length_singleton, show flatU (us ++ [q]) = flatU us ++ [.int .u32 q] by simp [flatU]]
    exact h1

set_option maxRecDepth 100000 in
set_option maxHeartbeats 2000000 in
theorem c_hVector (b m : Nat) (n : Int) (low : Nat → Int) (v : Nat → Value) (l : Nat → List Msg) (w : World) (h : HoldBlk w b low v) (hv : ∀ i, i < 64 → Own6 0 w (v i) (l i)) (h0 : ∀ i, i < 64 → 0 ≤ low i ∧ low i + (l i).length ≤ 1000000) (hm : max 0 (min n 64) = (m : Int)) :
    Calls Try.prog 46 #[.pointer (some ⟨b, 0, none⟩), .int .i64 n] w fun e w' =>
      ∃ v', e = .returned v' ∧ OwnU w.heap.size w' v' ((List.range m).map fun i => low i + ((l i).length : Int)) ∧ Bw w w' := by
  have HH := Lib.hid h
  have HV := Lib.hid hv
  have H0 := Lib.hid h0
  have hm64 : m ≤ 64 := by omega
  obtain ⟨q, hq⟩ : ∃ q, min n 64 = q := ⟨_, rfl⟩
  rw [hq] at hm
  clear h hv h0
  go_enter Try.func46, Try.ntmps46
  go_wp2_with fail
  clear hq hm
  go_loopw [5, 10] (fun vo vi wr => ∃ (i : Nat) (us : List Int), vi = .int .i64 i ∧ i ≤ m ∧ Hid (us = (List.range i).map fun i => low i + ((l i).length : Int)) ∧ Hid (OwnU w.heap.size wr vo us) ∧ Hid (Bw w wr)) (fun _ vi _ => m - (intOf vi).toNat)
  case atStart => exact ⟨0, [], rfl, by omega, rfl, World.ownsRow_nil _ _ _ _, Bw.refl _⟩
  case round =>
    obtain ⟨i, us, rfl, hi, hU, hO, hB⟩ := hrel
    by_cases hlt : i < m
    · have hltz : (i : Int) < (m : Int) := by omega
      have hi64 : i < 64 := by omega
      obtain ⟨a, c, hvf⟩ := (HV.out i hi64).at.form
      have HC := Lib.hid (c_hCount_in b i i low v a (l i).length c wr (hB.out.blk HH.out) rfl hi64 hvf (H0.out i hi64).1 (by have := (H0.out i hi64).2; omega))
      obtain ⟨q, hq⟩ : ∃ q, q = low i + ((l i).length : Int) := ⟨_, rfl⟩
      rw [← hq] at HC
      have HQ := Lib.hid hq
      have HLN : Hid (us.length ≤ 1000000) := by rw [hU.out]; show _ ≤ _; simp; omega
      clear hvf hq
      go_wp2_with fail
      refine HC.out.mono ?_
      rintro e w1 ⟨rfl, hg⟩
      have B1 := Lib.hid hg.bw
      have HO1 := Lib.hid (hO.out.bw (hg.bw.trans (Bw.alloc w1 (.cells #[.int .u32 q] 40))))
      have wz : w.heap.size ≤ w1.heap.size := Nat.le_trans hB.out.size hg.bw.size
      clear hg
      go_wp2_with (at_builtin; refine appU rfl _ _ rfl w.heap.size _ _ us q rfl rfl HO1.out (cell_blk (heap_alloc_new _ _)) HLN.out (by simp; omega) ?_; intro v4 w4 ho4 hg4; have HO4 := Lib.hid ho4; have HG4 := Lib.hid hg4; clear ho4 hg4)
      go_wp2_with fail
      go_roundw
      case rel =>
        refine ⟨i + 1, us ++ [q], by go_num, by omega, (show _ = _ from ?_), HO4.out, ?_⟩
        · rw [List.range_succ, List.map_append, ← hU.out, HQ.out]; rfl
        · exact Below.trans hB.out ((B1.out.trans (Bw.alloc _ _)).below_of hB.out.size |>.trans (Below.grown (Below.refl _ _) HG4.out (by simp; omega) (OwnU.row hO.out)))
      case measure => first | (simp [intOf]; done) | (simp [intOf]; omega)
    · obtain rfl : i = m := by omega
      go_wp2
      go_ret
      refine ⟨_, rfl, ?_, hB.out⟩
      have := hO.out
      rwa [hU.out] at this

/-! ### Copy -/
def noRow : Nat → Value := fun _ => .slice none 0 0
theorem hold_size : (Try.prog.info? 98).map (·.size) = some 128 := by kernel_rfl
theorem hold_zero : (Try.prog.info? 98).map (·.zero) = some (some (.agg (holdCells (fun _ => 0) noRow))) := by kernel_rfl
theorem holdCells_size (low : Nat → Int) (v : Nat → Value) : (holdCells low v).size = 128 := by simp [holdCells]
theorem holdCells_one {low : Nat → Int} {v : Nat → Value} (h : ∀ i, i < 64 → (v i).oneCell' = true) : (holdCells low v).all (·.oneCell') = true := by
  rw [Array.all_eq_true_iff_forall_mem]
  intro u hu
  unfold holdCells at hu
  rw [List.mem_toArray, List.mem_append, List.mem_map, List.mem_map] at hu
  rcases hu with ⟨p, _, rfl⟩ | ⟨p, hp, rfl⟩
  · rfl
  · exact h p (List.mem_range.1 hp)
theorem run_load_hold {w : World} {b : Nat} {low : Nat → Int} {v : Nat → Value} (h : HoldBlk w b low v) : (Instr.loadAt 98 (.pointer (some ⟨b, 0, none⟩))).run Try.prog w = .ok (.agg (holdCells low v)) w := by
  have := run_loadAt_mid (P := Try.prog) w b 0 98 (holdCells low v).toList _ (fun j u hu => by rw [Nat.zero_add, cell_blk h]; simpa using hu) Try.underlying98 rfl (by rw [hold_size, Array.length_toList, holdCells_size])
  simpa using this
theorem run_alloc_hold (w : World) : (Instr.alloc 98 true (.tuple #[])).run Try.prog w = .ok (.pointer (some ⟨w.heap.size, 0, none⟩)) (w.alloc (.cells (holdCells (fun _ => 0) noRow) 98)) := by
  have h := hold_zero
  cases hq : Try.prog.info? 98 with
  | none => rw [hq] at h; simp at h
  | some i =>
    rw [hq] at h
    simp only [Option.map_some, Option.some.injEq] at h
    simp [Instr.alloc, zeroValue, typeInfo, hq, h, Sem.run_bind, newVar, newRow, Value.cells]
theorem run_store_hold {w : World} {g : Nat} {low low' : Nat → Int} {v v' : Nat → Value} (h : HoldBlk w g low' v') (hv : ∀ i, i < 64 → (v i).oneCell' = true) :
    (Instr.storeAt 98 (.pointer (some ⟨g, 0, none⟩)) (.agg (holdCells low v))).run Try.prog w = .ok () (w.setRow g (holdCells low v)) := by
  have := run_storeVar_row (P := Try.prog) w g 98 98 (holdCells low' v') (holdCells low v) h (by rw [hold_size, holdCells_size]) (by rw [holdCells_size, holdCells_size]) (holdCells_one hv)
  simp only [Instr.storeAt, Instr.sureAddr, Sem.run_bind, Sem.run_pure, Result.andThen_ok, this]
section
variable {ops : Array Oper} {rest : List Oper} {a : Act} {Q : Exit → Act → World → Prop} {w : World} {dst : Option Tmp} {x y : Operand} {ty : TypeId} {pos : String} {af : Array Edge}
theorem wpList_load_hold {b : Nat} {low : Nat → Int} {v : Nat → Value} (hx : a.eval x = .pointer (some ⟨b, 0, none⟩)) (h : HoldBlk w b low v) (hw : wpList Try.prog ops Q rest (a.put dst (.agg (holdCells low v))) w) :
    wpList Try.prog ops Q ({ dst := dst, op := .load 98 x, type := ty, pos := pos, after := af, guard := none } :: rest) a w := by
  refine wpList_plain rfl fun K hK => ?_
  unfold Oper.wp execOp
  simp only [hx, Sem.run_bind, run_load_hold h, Result.andThen_ok]
  exact hK _ _ hw
theorem wpList_alloc_hold (hw : wpList Try.prog ops Q rest (a.put dst (.pointer (some ⟨w.heap.size, 0, none⟩))) (w.alloc (.cells (holdCells (fun _ => 0) noRow) 98))) :
    wpList Try.prog ops Q ({ dst := dst, op := .alloc 98, type := ty, pos := pos, after := af, guard := none } :: rest) a w := by
  refine wpList_plain rfl fun K hK => ?_
  unfold Oper.wp execOp
  simp only [Sem.run_bind, run_alloc_hold, Result.andThen_ok]
  exact hK _ _ hw
theorem wpList_store_hold {g : Nat} {low low' : Nat → Int} {v v' : Nat → Value} (hx : a.eval x = .pointer (some ⟨g, 0, none⟩)) (hy : a.eval y = .agg (holdCells low v)) (h : HoldBlk w g low' v') (hv : ∀ i, i < 64 → (v i).oneCell' = true)
    (hw : wpList Try.prog ops Q rest (a.put dst undef) (w.setRow g (holdCells low v))) :
    wpList Try.prog ops Q ({ dst := dst, op := .store 98 x y, type := ty, pos := pos, after := af, guard := none } :: rest) a w := by
  refine wpList_plain rfl fun K hK => ?_
  unfold Oper.wp execOp
  simp only [hx, hy, Sem.run_bind, run_store_hold h hv, Result.andThen_ok]
  exact hK _ _ hw
end
theorem rows_one {base : Nat} {w : World} {v : Value} {l : List Msg} (h : Own6 base w v l) : v.oneCell' = true := by
  obtain ⟨a, c, rfl⟩ := h.at.form
  rfl
theorem setRow_hold {w : World} {g : Nat} {low low' : Nat → Int} {v v' : Nat → Value} (h : HoldBlk w g low' v') : HoldBlk (w.setRow g (holdCells low v)) g low v := setRow_heap w g _ _ _ _ h

set_option maxRecDepth 100000 in
set_option maxHeartbeats 2000000 in
theorem c_hCopy (b : Nat) (low : Nat → Int) (v : Nat → Value) (l : Nat → List Msg) (w : World) (h : HoldBlk w b low v) (hv : ∀ i, i < 64 → Own6 0 w (v i) (l i)) (hn : ∀ i, i < 64 → (l i).length ≤ 1000000) :
    Calls Try.prog 51 #[.pointer (some ⟨b, 0, none⟩)] w fun e w' =>
      ∃ v', e = .returned (.pointer (some ⟨w.heap.size, 0, none⟩)) ∧ HoldBlk w' w.heap.size low v' ∧ (∀ i, i < 64 → Own6 w.heap.size w' (v' i) (l i)) ∧ (∀ i j, i < 64 → j < 64 → i ≠ j → ∀ g, (v' i).ownBlock = some g → (v' j).ownBlock ≠ some g) ∧ Bw w w' := by
  have h1c : ∀ i, i < 64 → (v i).oneCell' = true := fun i hi => rows_one (hv i hi)
  obtain ⟨wa, hwa⟩ : ∃ wa, wa = (w.alloc (.cells (holdCells (fun _ => 0) noRow) 98)).setRow w.heap.size (holdCells low v) := ⟨_, rfl⟩
  have hn0 : HoldBlk (w.alloc (.cells (holdCells (fun _ => 0) noRow) 98)) w.heap.size (fun _ => 0) noRow := heap_alloc_new _ _
  have hg : HoldBlk wa w.heap.size low v := hwa ▸ setRow_hold hn0
  have hBa : Bw w wa := by
    rw [hwa]
    exact ⟨rfl, rfl, rfl, by simp, fun k hk => by rw [setRow_other _ _ _ _ (by omega)]; exact heap_alloc_old w _ hk⟩
  have hba : HoldBlk wa b low v := hBa.blk h
  have hsz : w.heap.size < wa.heap.size := lt_blk hg
  have HWA := Lib.hid hwa
  have HV := Lib.hid hv
  have HN := Lib.hid hn
  have HBA := Lib.hid hBa
  have HG := Lib.hid hg
  clear hv hn hwa hBa hg
  go_enter Try.func51, Try.ntmps51
  go_wp2_with (first | refine wpList_load_hold (by rfl) h ?_ | refine wpList_alloc_hold ?_ | (refine wpList_store_hold (by rfl) (by rfl) hn0 h1c ?_; rw [← HWA.out]; clear h hn0 h1c) | refine wpList_load_rows (by rfl) hba ?_)
  clear hba
  go_loopw [13] (fun vi wr => ∃ (i : Nat) (vv : Nat → Value), vi = .int .i64 i ∧ i ≤ 64 ∧ Hid (HoldBlk wr w.heap.size low vv) ∧ Hid (∀ j, j < i → Own6 (w.heap.size + 1) wr (vv j) (l j)) ∧ Hid (∀ p q, p < i → q < i → p ≠ q → ∀ g, (vv p).ownBlock = some g → (vv q).ownBlock ≠ some g) ∧ Hid (Bw w wr)) (fun vi _ => 64 - (intOf vi).toNat)
  case atStart => exact ⟨0, v, rfl, by omega, HG.out, fun j hj => by omega, fun p q hp => by omega, HBA.out⟩
  case round =>
    obtain ⟨i, vv, rfl, hi, hH, hO, hA, hB⟩ := hrel
    by_cases hlt : i < 64
    · have hltz : (i : Int) < 64 := by omega
      have hltz0 : (0 : Int) ≤ (i : Int) := by omega
      go_wp2_with (first | refine wpList_index_rows (by rfl) (by rfl) hlt ?_ | fail)
      refine (c_CloneM (v i) (l i) wr ((HV.out i hlt).at.bw hB.out) (by have := HN.out i hlt; omega)).mono ?_
      rintro e w2 ⟨v2, rfl, ho2, hb2⟩
      obtain ⟨a2, c2, rfl⟩ := ho2.at.form
      have hg2 := hb2.blk hH.out
      have r2 : w2.cell? ⟨w.heap.size, 64 + i, none⟩ = some (vv i) := HoldBlk.rowCell hg2 hlt
      have f2 : w2.frozen? ⟨w.heap.size, 64 + i, none⟩ = false := soft_blk hg2
      have hz2 : w.heap.size < w2.heap.size := lt_blk hg2
      have hzr : w.heap.size < wr.heap.size := lt_blk hH.out
      have HG2 := Lib.hid hg2
      have HO2 := Lib.hid ho2
      have HB2 := Lib.hid hb2
      clear hg2 ho2 hb2
      go_wp2_with fail
      go_roundw
      case rel =>
        have hn : ¬ (fun k => k ≠ w.heap.size) w.heap.size := fun e => e rfl
        have kk : Keep (fun k => k ≠ w.heap.size) w2 (w2.setCell ⟨w.heap.size, 64 + i, none⟩ (.slice a2 (l i).length c2)) := (Keep.refl _ _).setCell hn _
        refine ⟨i + 1, upd vv i (.slice a2 (l i).length c2), by go_num, by omega, HoldBlk.setRow HG2.out hlt _, fun j hj => ?_, fun p q hp hq hpq g h1 h2 => ?_, ?_⟩
        · by_cases e : j = i
          · subst e
            rw [upd_at]
            exact (Own6.keep HO2.out kk fun g hg => by have := (World.ownsRow.lt HO2.out g hg).1; show g ≠ _; omega).mono (by omega)
          · rw [upd_ne _ _ e]
            have h1 := hO.out j (by omega)
            exact Own6.keep (h1.bw HB2.out) kk fun g hg => by have := (World.ownsRow.lt h1 g hg).1; show g ≠ _; omega
        · by_cases e1 : p = i
          · subst e1
            rw [upd_at] at h1
            rw [upd_ne _ _ (fun e => hpq e.symm)] at h2
            have h3 := (World.ownsRow.lt HO2.out g h1).1
            have h4 := (World.ownsRow.lt (hO.out q (by omega)) g h2).2
            omega
          · rw [upd_ne _ _ e1] at h1
            by_cases e2 : q = i
            · subst e2
              rw [upd_at] at h2
              have h3 := (World.ownsRow.lt HO2.out g h2).1
              have h4 := (World.ownsRow.lt (hO.out p (by omega)) g h1).2
              omega
            · rw [upd_ne _ _ e2] at h2
              exact hA.out p q (by omega) (by omega) hpq g h1 h2
        · exact Below.setCell (hB.out.trans HB2.out) (Nat.le_refl _) _
      case measure => first | (simp [intOf]; done) | (simp [intOf]; omega)
    · obtain rfl : i = 64 := by omega
      go_wp2
      go_ret
      exact ⟨vv, rfl, hH.out, fun i hi => (hO.out i hi).mono (by omega), hA.out, hB.out⟩
end Go.Proofs.Ytllmiaonlofeeaa
