/-
  The hold's rows as a whole: the array's load, one of its slices. No conditions beyond what each theorem states.
-/
import Derived.Test.YtllmiaonlofeeaaHi
import Derived.Deep.MidRow
namespace Go.Proofs.Ytllmiaonlofeeaa
open Go.RowKit Go.Sort

/-- The 64 slices, as a value. -/
def rowsV (v : Nat → Value) : Array Value := ((List.range 64).map v).toArray
theorem rows_under : Try.prog.underlying 96 = some (.array 64 22) := by kernel_rfl
theorem rows_size : (Try.prog.info? 96).map (·.size) = some 64 := by kernel_rfl
theorem run_load_rows {w : World} {b : Nat} {low : Nat → Int} {v : Nat → Value} (h : HoldBlk w b low v) : (Instr.loadAt 96 (.pointer (some ⟨b, 64, none⟩))).run Try.prog w = .ok (.agg (rowsV v)) w := by
  refine run_loadAt_mid w b 64 96 ((List.range 64).map v) (.array 64 22) (fun j u hu => ?_) rows_under rfl (by rw [rows_size]; simp)
  obtain ⟨hj, rfl⟩ := List.getElem?_eq_some_iff.1 hu
  simp only [List.length_map, List.length_range] at hj
  rw [HoldBlk.rowCell h hj]
  simp
theorem rows_elem : Try.prog.underlying 22 = some (.slice 43) := by kernel_rfl
theorem rows_elem_size : (Try.prog.info? 22).map (·.size) = some 1 := by kernel_rfl
theorem run_index_rows {w : World} {v : Nat → Value} {i : Nat} (h : i < 64) : (Instr.index 96 (.agg (rowsV v)) (.int .i64 i)).run Try.prog w = .ok (v i) w := by
  have h2 : (0 : Int) ≤ i ∧ (i : Int) < 64 := by omega
  have hs : (sizeOf 22).run Try.prog w = .ok 1 w := by
    unfold sizeOf typeInfo
    have := rows_elem_size
    cases hq : Try.prog.info? 22 with
    | none => rw [hq] at this; simp at this
    | some i => rw [hq] at this; simp at this; simp [Sem.run_bind, hq, this]
  have hr : (rowsV v)[i]? = some (v i) := by simp [rowsV, h]
  simp [Instr.index, Sem.run_bind, run_underlying rows_under, run_underlying rows_elem, hs, asIntOf, h2, part, isAgg, hr]
  intro h'
  omega

theorem wpList_load_rows {ops : Array Oper} {rest : List Oper} {a : Act} {Q : Exit → Act → World → Prop} {w : World} {dst : Option Tmp} {x : Operand} {ty : TypeId} {pos : String} {af : Array Edge} {b : Nat} {low : Nat → Int} {v : Nat → Value}
    (hx : a.eval x = .pointer (some ⟨b, 64, none⟩)) (h : HoldBlk w b low v) (hw : wpList Try.prog ops Q rest (a.put dst (.agg (rowsV v))) w) :
    wpList Try.prog ops Q ({ dst := dst, op := .load 96 x, type := ty, pos := pos, after := af, guard := none } :: rest) a w := by
  refine wpList_plain rfl fun K hK => ?_
  unfold Oper.wp execOp
  simp only [hx, Sem.run_bind, run_load_rows h, Result.andThen_ok]
  exact hK _ _ hw
theorem wpList_index_rows {ops : Array Oper} {rest : List Oper} {a : Act} {Q : Exit → Act → World → Prop} {w : World} {dst : Option Tmp} {x y : Operand} {ty : TypeId} {pos : String} {af : Array Edge} {v : Nat → Value} {i : Nat}
    (hx : a.eval x = .agg (rowsV v)) (hy : a.eval y = .int .i64 i) (hi : i < 64) (hw : wpList Try.prog ops Q rest (a.put dst (v i)) w) :
    wpList Try.prog ops Q ({ dst := dst, op := .index 96 x y, type := ty, pos := pos, after := af, guard := none } :: rest) a w := by
  refine wpList_plain rfl fun K hK => ?_
  unfold Oper.wp execOp
  simp only [hx, hy, Sem.run_bind, run_index_rows hi, Result.andThen_ok]
  exact hK _ _ hw

/-! ### Above -/
theorem DLs.append {w : World} : ∀ {l : List Msg} {L : List DM} {r : List Msg} {R : List DM}, DLs w l L → DLs w r R → DLs w (l ++ r) (L ++ R)
  | [], [], _, _, _, k => k
  | _ :: _, _ :: _, _, _, h, k => ⟨h.1, DLs.append h.2 k⟩
theorem DLs.filter {w : World} {p : Msg → Bool} {q : DM → Bool} (hpq : ∀ x D, Reads w x D → p x = q D) : ∀ {l : List Msg} {L : List DM}, DLs w l L → DLs w (l.filter p) (L.filter q)
  | [], [], _ => trivial
  | x :: l, D :: L, h => by
    rw [List.filter_cons, List.filter_cons, hpq x D h.1]
    split
    · exact ⟨h.1, DLs.filter hpq h.2⟩
    · exact DLs.filter hpq h.2
theorem DL.filter {w : World} {p : Msg → Bool} {q : DM → Bool} (hpq : ∀ x D, Reads w x D → p x = q D) {l : List Msg} {L : List DM} (h : DL w l L) : DL w (l.filter p) (L.filter q) := DL.toDLs.2 (DLs.filter hpq (DL.toDLs.1 h))
theorem DL.flat {w : World} {l : Nat → List Msg} {L : Nat → List DM} : ∀ n, (∀ i, i < n → DL w (l i) (L i)) → DL w ((List.range n).flatMap l) ((List.range n).flatMap L)
  | 0, _ => DL.nil _
  | n + 1, h => by
    rw [List.range_succ, List.flatMap_append, List.flatMap_append]
    refine DL.toDLs.2 (DLs.append (DL.toDLs.1 (DL.flat n fun i hi => h i (by omega))) ?_)
    simpa using DL.toDLs.1 (h n (by omega))
theorem mem_foldl_ins {z : Msg} : ∀ {l o : List Msg}, z ∈ l.foldl (fun o x => insM x o) o ↔ z ∈ l ∨ z ∈ o
  | [], o => by simp
  | x :: l, o => by
    rw [List.foldl_cons, mem_foldl_ins, mem_insM, List.mem_cons]
    constructor
    · rintro (h | h | h)
      · exact Or.inl (Or.inr h)
      · exact Or.inl (Or.inl h)
      · exact Or.inr h
    · rintro ((h | h) | h)
      · exact Or.inr (Or.inl h)
      · exact Or.inl h
      · exact Or.inr (Or.inr h)
theorem mem_ssort {z : Msg} {l : List Msg} : z ∈ ssort l ↔ z ∈ l := by unfold ssort; rw [mem_foldl_ins]; simp

/-- Behind the key. -/
def over (s f : Int) (x : Msg) : Bool := decide (0 < keyCmp x.stamp x.frm s f)
def overD (s f : Int) (D : DM) : Bool := decide (0 < keyCmp D.stamp D.frm s f)
def accM (l : Nat → List Msg) (s f : Int) (i : Nat) : List Msg := ((List.range i).flatMap l).filter (over s f)
def aboveD (L : Nat → List DM) (s f : Int) : List DM := dsort (((List.range 64).flatMap L).filter (overD s f))
theorem over_reads {w : World} (s f : Int) (x : Msg) (D : DM) (h : Reads w x D) : over s f x = overD s f D := by unfold over overD; rw [h.stamp, h.frm]
def off (l : Nat → List Msg) (i : Nat) : Nat := ((List.range i).flatMap l).length
theorem off_succ (l : Nat → List Msg) (i : Nat) : off l (i + 1) = off l i + (l i).length := by unfold off; rw [List.range_succ, List.flatMap_append, List.length_append]; simp
theorem off_le (l : Nat → List Msg) {i j : Nat} (h : i ≤ j) : off l i ≤ off l j := by
  induction j with
  | zero => rw [show i = 0 by omega]; exact Nat.le_refl _
  | succ j ih =>
    by_cases e : i = j + 1
    · rw [e]; exact Nat.le_refl _
    · have := ih (by omega); rw [off_succ]; omega
theorem accM_succ (l : Nat → List Msg) (s f : Int) (i : Nat) : accM l s f (i + 1) = accM l s f i ++ (l i).filter (over s f) := by unfold accM; rw [List.range_succ, List.flatMap_append, List.filter_append]; simp
theorem filter_step {l : List Msg} {s f : Int} {j : Nat} (h : j < l.length) : (l.take (j + 1)).filter (over s f) = (l.take j).filter (over s f) ++ if over s f l[j]! then [l[j]!] else [] := by
  rw [List.take_succ_eq_append_getElem h, List.filter_append, getElem!_pos l j h]
  congr 1
  by_cases e : over s f l[j] = true <;> simp [e]

theorem acc_len (l : Nat → List Msg) (s f : Int) (i j : Nat) : (accM l s f i ++ ((l i).take j).filter (over s f)).length ≤ off l i + j := by
  rw [List.length_append]
  have h1 := List.length_filter_le (over s f) ((List.range i).flatMap l)
  have h2 := List.length_filter_le (over s f) ((l i).take j)
  have h3 : ((l i).take j).length ≤ j := by rw [List.length_take]; omega
  unfold accM off
  omega

set_option maxRecDepth 100000 in
set_option maxHeartbeats 4000000 in
theorem c_hAbove (b : Nat) (s f : Int) (low : Nat → Int) (v : Nat → Value) (l : Nat → List Msg) (L : Nat → List DM) (w : World) (h : HoldBlk w b low v) (hv : ∀ i, i < 64 → Own6 0 w (v i) (l i)) (hL : ∀ i, i < 64 → DL w (l i) (L i))
    (hd : ∀ i, i < 64 → ∀ x ∈ l i, x.dl ≤ 1000000) (hn : off l 64 ≤ 1000000) :
    Calls Try.prog 43 #[.pointer (some ⟨b, 0, none⟩), .agg #[.int .u64 s, .int .i64 f]] w fun e w' =>
      ∃ v' l', e = .returned v' ∧ Own6 w.heap.size w' v' l' ∧ DL w' l' (aboveD L s f) ∧ DepsAll (fun k => w.heap.size ≤ k) w' l' ∧ (∀ x ∈ l', x.dl ≤ 1000000) ∧ Bw w w' := by
  have mixed : Try.prog.follows .mixedOrders = true := by kernel_rfl
  obtain ⟨wk, hwk⟩ : ∃ wk, wk = w.alloc (.cells #[.int .u64 s, .int .i64 f] 29) := ⟨_, rfl⟩
  have hBk : Bw w wk := hwk ▸ Bw.alloc _ _
  have hnk : wk.heap[w.heap.size]? = some (.cells #[.int .u64 s, .int .i64 f] 29 (0, 0)) := hwk ▸ heap_alloc_new _ _
  have HWK := Lib.hid hwk
  have hk : HoldBlk wk b low v := hBk.blk h
  have HV := Lib.hid (fun i hi => (hv i hi).bw hBk)
  have HL := Lib.hid (fun i hi => (hL i hi).bw hBk)
  have HD := Lib.hid hd
  have HN := Lib.hid hn
  have HBK := Lib.hid hBk
  have HNK := Lib.hid hnk
  clear h hv hL hd hn hwk hBk hnk
  have wzk : w.heap.size < wk.heap.size := lt_blk HNK.out
  go_enter Try.func43, Try.ntmps43
  go_upto_region 2 with fail
  rw [← HWK.out]
  go_wp2_with (refine wpList_load_rows (by rfl) hk ?_)
  clear hk
  go_loopw [5, 14] (fun vo vi wr => ∃ (i : Nat) (o : List Msg), vi = .int .i64 i ∧ i ≤ 64 ∧ Hid (o = accM l s f i) ∧ Hid (Own6 wk.heap.size wr vo o) ∧ Hid (Bw wk wr)) (fun _ vi _ => 64 - (intOf vi).toNat)
  case atStart => exact ⟨0, [], rfl, by omega, rfl, World.ownsRow_nil _ _ _ _, Bw.refl _⟩
  case round =>
    obtain ⟨i, o, rfl, hi, hO, hW, hB⟩ := hrel
    by_cases hlt : i < 64
    · have hltz : (i : Int) < 64 := by omega
      obtain ⟨a, c, hvf⟩ := (HV.out i hlt).at.form
      obtain ⟨n, hnn⟩ : ∃ n, n = (l i).length := ⟨_, rfl⟩
      rw [← hnn] at hvf
      have HNN := Lib.hid hnn
      have HVF := Lib.hid hvf
      have hnb : n ≤ 1000000 := by have h1 := off_le l (show i + 1 ≤ 64 by omega); rw [off_succ] at h1; have h2 := HN.out; omega
      clear hnn
      go_wp2_with (refine wpList_index_rows (by rfl) (by rfl) hlt ?_)
      go_loopw [5, 19] (fun vo vi wr => ∃ (j : Nat) (o : List Msg), vi = .int .i64 j ∧ j ≤ n ∧ Hid (o = accM l s f i ++ ((l i).take j).filter (over s f)) ∧ Hid (Own6 wk.heap.size wr vo o) ∧ Hid (Bw wk wr)) (fun _ vi _ => n - (intOf vi).toNat)
      case atStart => exact ⟨0, o, rfl, by omega, (show o = _ by rw [hO.out]; simp), hW.out, hB.out⟩
      case round =>
        obtain ⟨j, o2, rfl, hj, hO2, hW2, hB2⟩ := hrel
        by_cases hjt : j < n
        · have hjtz : (j : Int) < (n : Int) := by omega
          have hjl : j < (l i).length := by rw [← HNN.out]; exact hjt
          have m1 := ((HV.out i hlt).at).bw hB2.out
          rw [HVF.out] at m1
          obtain ⟨bl, of, c1, q1⟩ := m1.nil (by omega)
          simp only [Value.slice.injEq] at q1
          obtain ⟨rfl, q2, rfl⟩ := q1
          clear q2
          have gx := (m1.six (by omega)).2.2 j hjt
          obtain ⟨x, hx⟩ : ∃ x, x = (l i)[j]! := ⟨_, rfl⟩
          rw [← hx] at gx
          have HX := Lib.hid hx
          have HJL := Lib.hid hjl
          clear hx m1 hjl
          obtain ⟨x0, x1, x2, x3, x4, x5⟩ := gx
          go_upto_region 8 with fail
          have n1 := heap_alloc_new wr (.cells #[.int .i64 x.frm, .int .u32 x.seq, .int .u64 x.stamp, .int .i64 x.svc, .slice x.da x.dl x.dc, .string x.pay] 43)
          have b1 := Bw.alloc wr (.cells #[.int .i64 x.frm, .int .u32 x.seq, .int .u64 x.stamp, .int .i64 x.svc, .slice x.da x.dl x.dc, .string x.pay] 43)
          generalize wr.alloc (.cells #[.int .i64 x.frm, .int .u32 x.seq, .int .u64 x.stamp, .int .i64 x.svc, .slice x.da x.dl x.dc, .string x.pay] 43) = wa at n1 b1 ⊢
          have nk1 := (hB2.out.trans b1).blk HNK.out
          have y0 : ∀ q os, (grow (wa.drewN q) os).cell? ⟨wr.heap.size, 0, none⟩ = some (.int .i64 x.frm) := fun q os => cell_blk ((Gr.bw ⟨q, os, rfl⟩).blk n1)
          have y1 : ∀ q os, (grow (wa.drewN q) os).cell? ⟨wr.heap.size, 1, none⟩ = some (.int .u32 x.seq) := fun q os => cell_blk ((Gr.bw ⟨q, os, rfl⟩).blk n1)
          have y2 : ∀ q os, (grow (wa.drewN q) os).cell? ⟨wr.heap.size, 2, none⟩ = some (.int .u64 x.stamp) := fun q os => cell_blk ((Gr.bw ⟨q, os, rfl⟩).blk n1)
          have y3 : ∀ q os, (grow (wa.drewN q) os).cell? ⟨wr.heap.size, 3, none⟩ = some (.int .i64 x.svc) := fun q os => cell_blk ((Gr.bw ⟨q, os, rfl⟩).blk n1)
          have y4 : ∀ q os, (grow (wa.drewN q) os).cell? ⟨wr.heap.size, 4, none⟩ = some (.slice x.da x.dl x.dc) := fun q os => cell_blk ((Gr.bw ⟨q, os, rfl⟩).blk n1)
          have y5 : ∀ q os, (grow (wa.drewN q) os).cell? ⟨wr.heap.size, 5, none⟩ = some (.string x.pay) := fun q os => cell_blk ((Gr.bw ⟨q, os, rfl⟩).blk n1)
          have k0 : ∀ q os, (grow (wa.drewN q) os).cell? ⟨w.heap.size, 0, none⟩ = some (.int .u64 s) := fun q os => cell_blk ((Gr.bw ⟨q, os, rfl⟩).blk nk1)
          have k1 : ∀ q os, (grow (wa.drewN q) os).cell? ⟨w.heap.size, 1, none⟩ = some (.int .i64 f) := fun q os => cell_blk ((Gr.bw ⟨q, os, rfl⟩).blk nk1)
          have HCC : Hid (∀ (k : Nat) (os : Array Obj), Calls Try.prog 18 #[.agg #[.int .u64 x.stamp, .int .i64 x.frm], .agg #[.int .u64 s, .int .i64 f]] (grow (wa.drewN k) os) fun e w' => e = .returned (.int .i64 (keyCmp x.stamp x.frm s f)) ∧ Gr (grow (wa.drewN k) os) w') := fun k os => c_Compare _ _ _ _ _
          obtain ⟨kc, hkc⟩ : ∃ kc, kc = keyCmp x.stamp x.frm s f := ⟨_, rfl⟩
          rw [← hkc] at HCC
          have HKC := Lib.hid hkc
          have N1 := Lib.hid n1
          have B1 := Lib.hid b1
          have LN : Hid (o2.length + 1 ≤ 1000000000) := by
            have h1 := acc_len l s f i j
            rw [← hO2.out] at h1
            have h2 := off_le l (show i + 1 ≤ 64 by omega)
            rw [off_succ] at h2
            have h3 := HN.out
            have h4 := HJL.out
            show _ ≤ _
            omega
          clear hkc n1 b1 nk1
          by_cases hk : 0 < kc
          · have HK := Lib.hid hk
            go_quiet_grown (first | (go_at_call 22; with_reducible exact grown_of_Gr (c_Of _ _ _ _ _ _ _)) | (go_at_call 18; with_reducible exact grown_of_Gr (HCC.out _ _)))
            have n3 := (Gr.bw ⟨nq, osq, rfl⟩ : Bw wa (grow (wa.drewN nq) osq)).blk N1.out
            have b3 : Bw wr (grow (wa.drewN nq) osq) := B1.out.trans (Gr.bw ⟨nq, osq, rfl⟩)
            clear y0 y1 y2 y3 y4 y5 k0 k1 x0 x1 x2 x3 x4 x5 HCC
            generalize grow (wa.drewN nq) osq = w3 at n3 b3 ⊢
            have y0 : w3.cell? ⟨wr.heap.size, 0, none⟩ = some (.int .i64 x.frm) := cell_blk n3
            have y1 : w3.cell? ⟨wr.heap.size, 1, none⟩ = some (.int .u32 x.seq) := cell_blk n3
            have y2 : w3.cell? ⟨wr.heap.size, 2, none⟩ = some (.int .u64 x.stamp) := cell_blk n3
            have y3 : w3.cell? ⟨wr.heap.size, 3, none⟩ = some (.int .i64 x.svc) := cell_blk n3
            have y4 : w3.cell? ⟨wr.heap.size, 4, none⟩ = some (.slice x.da x.dl x.dc) := cell_blk n3
            have y5 : w3.cell? ⟨wr.heap.size, 5, none⟩ = some (.string x.pay) := cell_blk n3
            have wz3 : wk.heap.size ≤ w3.heap.size := by have h1 := b3.size; have h2 := hB2.out.size; omega
            have HO3 := Lib.hid (hW2.out.bw (b3.trans (Bw.alloc w3 (.cells #[.int .i64 x.frm, .int .u32 x.seq, .int .u64 x.stamp, .int .i64 x.svc, .slice x.da x.dl x.dc, .string x.pay] 43))))
            have B3 := Lib.hid b3
            clear n3 b3
            go_wp2_with (at_builtin; refine app6 rfl _ _ rfl wk.heap.size _ (.slice _ 1 1) o2 [(⟨x.frm, x.seq, x.stamp, x.svc, x.da, x.dl, x.dc, x.pay⟩ : Msg)] rfl rfl HO3.out (MAt.one (⟨x.frm, x.seq, x.stamp, x.svc, x.da, x.dl, x.dc, x.pay⟩ : Msg) (heap_alloc_new _ _)) LN.out (by simp; omega) ?_; intro v4 w4 ho4 hg4; have HO4 := Lib.hid ho4; have HG4 := Lib.hid hg4; clear ho4 hg4)
            go_wp2_with fail
            go_roundw
            case rel =>
              refine ⟨j + 1, o2 ++ [x], by go_num, by omega, (show _ = _ from ?_), HO4.out, ?_⟩
              · have he : over s f (l i)[j]! = true := by rw [← HX.out]; unfold over; rw [← HKC.out]; exact decide_eq_true HK.out
                rw [filter_step HJL.out, if_pos he, ← List.append_assoc, ← hO2.out, ← HX.out]
              · have ba := Bw.alloc w3 (.cells #[.int .i64 x.frm, .int .u32 x.seq, .int .u64 x.stamp, .int .i64 x.svc, .slice x.da x.dl x.dc, .string x.pay] 43)
                exact Below.trans hB2.out (((B3.out.trans ba).below_of hB2.out.size).trans (Below.grown (Below.refl _ _) HG4.out (by simp; omega) (Own6.row hW2.out)))
            case measure => first | (simp [intOf]; done) | (simp [intOf]; omega)
          · have hkd : decide (0 < kc) = false := decide_eq_false hk
            have hk' : kc ≤ 0 := by omega
            go_quiet_grown (first | (go_at_call 22; with_reducible exact grown_of_Gr (c_Of _ _ _ _ _ _ _)) | (go_at_call 18; with_reducible exact grown_of_Gr (HCC.out _ _)))
            have b3 : Bw wr (grow (wa.drewN nq) osq) := B1.out.trans (Gr.bw ⟨nq, osq, rfl⟩)
            have B3 := Lib.hid b3
            clear b3
            go_wp2_with fail
            go_roundw
            case rel =>
              refine ⟨j + 1, o2, by go_num, by omega, (show _ = _ from ?_), hW2.out.bw B3.out, hB2.out.trans B3.out⟩
              have he : ¬ over s f (l i)[j]! = true := by rw [← HX.out]; unfold over; rw [← HKC.out, hkd]; simp
              rw [filter_step HJL.out, if_neg he, List.append_nil, ← hO2.out]
            case measure => first | (simp [intOf]; done) | (simp [intOf]; omega)
        · obtain rfl : j = n := by omega
          go_wp2_with fail
          go_roundw
          case rel =>
            refine ⟨i + 1, o2, by go_num, by omega, (show _ = _ from ?_), hW2.out, hB2.out⟩
            rw [accM_succ, hO2.out, HNN.out, List.take_length]
          case measure => first | (simp [intOf]; done) | (simp [intOf]; omega)
    · obtain rfl : i = 64 := by omega
      have hol : o.length ≤ 1000000 := by
        have h1 := acc_len l s f 64 0
        have h2 := HN.out
        rw [hO.out]
        simp at h1
        omega
      have hdl : DL wr o (((List.range 64).flatMap L).filter (overD s f)) := by
        rw [hO.out]
        exact (DL.filter (over_reads s f) (DL.flat 64 HL.out)).bw hB.out
      have hdd : ∀ x ∈ ssort o, x.dl ≤ 1000000 := fun x hx => by
        rw [mem_ssort, hO.out] at hx
        obtain ⟨p, hp, hxp⟩ := List.mem_flatMap.1 (List.mem_filter.1 hx).1
        exact HD.out p (List.mem_range.1 hp) x hxp
      have HDL := Lib.hid hdl
      have HDD := Lib.hid hdd
      have HOL := Lib.hid hol
      clear hdl hdd hol
      go_wp2_with fail
      refine (c_Sort _ o wr hW.out.at HOL.out).mono ?_
      rintro e w1 ⟨v1, rfl, ho1, hb1⟩
      have HO1 := Lib.hid ho1
      have HB1 := Lib.hid hb1
      have HDL1 := Lib.hid ((HDL.out.sort).bw hb1)
      clear ho1 hb1
      go_wp2_with fail
      refine (c_copies v1 (ssort o) _ w1 HO1.out.at HDL1.out (by rw [ssort_length]; exact HOL.out) HDD.out).mono ?_
      rintro e w2 ⟨v2, l2, rfl, t1, t2, t3, t4, t5⟩
      have T := Lib.hid (And.intro t1 (And.intro t2 (And.intro t3 (And.intro t4 t5))))
      clear t1 t2 t3 t4 t5
      go_wp2
      go_ret
      obtain ⟨t1, t2, t3, t4, t5⟩ := T.out
      have hs : w.heap.size ≤ w1.heap.size := by have h1 := HBK.out.size; have h2 := hB.out.size; have h3 := HB1.out.size; omega
      exact ⟨v2, l2, rfl, t1.mono hs, t2, t3.mono fun k hk => Nat.le_trans hs hk, t4, ((HBK.out.trans hB.out).trans HB1.out).trans t5⟩
end Go.Proofs.Ytllmiaonlofeeaa
