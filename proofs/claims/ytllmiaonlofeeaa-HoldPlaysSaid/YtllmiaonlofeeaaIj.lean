/-
  HoldPlays, walked. No conditions beyond what each theorem states.
-/
import Derived.Test.YtllmiaonlofeeaaIi
import Derived.Deep.RegionHeld3
import Derived.Deep.DeepCutAuto
import Derived.BigQuiet
namespace Go.Proofs.Ytllmiaonlofeeaa
open Go.RowKit Go.Sort
set_option linter.unusedVariables false
set_option linter.unusedSimpArgs false

theorem nine_alloc (w : World) (x : ActM) : (w.alloc (.cells #[.bool x.drop, .int .i64 x.p, .int .u32 x.upto, .int .i64 x.m.frm, .int .u32 x.m.seq, .int .u64 x.m.stamp, .int .i64 x.m.svc, .slice x.m.da x.m.dl x.m.dc, .string x.m.pay] 61)).heap[w.heap.size]? = some (.cells #[.bool x.drop, .int .i64 x.p, .int .u32 x.upto, .int .i64 x.m.frm, .int .u32 x.m.seq, .int .u64 x.m.stamp, .int .i64 x.m.svc, .slice x.m.da x.m.dl x.m.dc, .string x.m.pay] 61 (0, 0)) := heap_alloc_new _ _

theorem fromH_len {low : Nat → Int} {R : Nat → List DM} {N : Nat} (h : HBnd low R N) (p seq most : Int) : (fromH low R p seq most).length ≤ N := by
  unfold fromH
  split
  · next c =>
    obtain ⟨e1, e2⟩ := c.1.nat
    have := h _ e2
    unfold fromL
    rw [List.length_take, List.length_drop]
    omega
  · simp
theorem aboveD_len {low : Nat → Int} {R : Nat → List DM} {N : Nat} (h : HBnd low R N) (s f : Int) : (aboveD R s f).length ≤ 64 * N := by
  rw [above_cnt]
  exact cntR_le h 64 (by omega)
theorem exec_load_ref {w : World} {a : Act} {dst : Option Tmp} {x : Operand} {ty : TypeId} {pos : String} {af : Array Edge} {gd : Option (Nat × Bool)} {b : Nat} {va : Value} {low : Nat → Int} (hx : a.eval x = .pointer (some ⟨b, 0, none⟩)) (h : RefBlk w b va low) :
    (execOp a.eval { dst := dst, op := .load 59 x, type := ty, pos := pos, after := af, guard := gd }).run Try.prog w = .ok (.value (.agg (refCells va low))) w := by
  unfold execOp
  simp only [hx, Sem.run_bind, run_load_ref h, Result.andThen_ok]
  rfl
/-- A load of the whole, under a guard that lets it. -/
theorem wpQuiet_load_refg {C : World → Prop} {Q : Act → Prop} {rest : List Oper} {ops : Array Oper} {a : Act} {dst : Option Tmp} {x : Operand} {ty : TypeId} {pos : String} {af : Array Edge} {gd : Option (Nat × Bool)} {b : Nat} {va : Value} {low : Nat → Int} (hx : a.eval x = .pointer (some ⟨b, 0, none⟩))
    (hgd : Region.wanted { dst := dst, op := .load 59 x, type := ty, pos := pos, after := af, guard := gd } (yielded ops a.tmps) = true) (h : ∀ w, C w → RefBlk w b va low)
    (hw : wpQuiet Try.prog ops C Q rest (a.put dst (.agg (refCells va low)))) : wpQuiet Try.prog ops C Q ({ dst := dst, op := .load 59 x, type := ty, pos := pos, after := af, guard := gd } :: rest) a := by
  refine wpQuiet_step fun K hK => ?_
  rw [if_pos hgd]
  refine ⟨.agg (refCells va low), fun w hC => ?_, hK _ hw⟩
  unfold Oper.quietAt execOp
  simp only [hx, Sem.run_bind, run_load_ref (h w hC), Result.andThen_ok]
  exact ⟨rfl, rfl⟩
theorem wpList_load_refg {ops : Array Oper} {rest : List Oper} {a : Act} {Q : Exit → Act → World → Prop} {w : World} {dst : Option Tmp} {x : Operand} {ty : TypeId} {pos : String} {af : Array Edge} {gd : Option (Nat × Bool)} {b : Nat} {va : Value} {low : Nat → Int} (hx : a.eval x = .pointer (some ⟨b, 0, none⟩))
    (hgd : Region.wanted { dst := dst, op := .load 59 x, type := ty, pos := pos, after := af, guard := gd } (yielded ops a.tmps) = true) (h : RefBlk w b va low)
    (hw : wpList Try.prog ops Q rest (a.put dst (.agg (refCells va low))) w) : wpList Try.prog ops Q ({ dst := dst, op := .load 59 x, type := ty, pos := pos, after := af, guard := gd } :: rest) a w := by
  unfold wpList
  rw [if_pos hgd]
  left
  unfold Oper.wp execOp
  simp only [hx, Sem.run_bind, run_load_ref h, Result.andThen_ok]
  exact hw
/-- A message's numbers are appended to a slice of the call's own that is empty. -/
theorem appU2 {ops : Array Oper} {rest : List Oper} {o : Oper} {a : Act} {Q : Exit → Act → World → Prop} {w : World} (hgd : o.guard = none) (s x : Operand)
    (ho : o.op = .call { callee := .builtin .append, args := #[s, x], argTypes := #[41, 41] }) (base : Nat) (v : Value) (a0 : Option Addr) (n c : Nat) (ds : List Int) (hs : a.eval s = v) (hx : a.eval x = .slice a0 n c)
    (hown : w.ownsRow base 40 1 v 0 []) (hd : DepsAt w a0 n ds) (hn : n ≤ 1000000000) (hbase : base ≤ w.heap.size)
    (h : ∀ v' w', w'.ownsRow base 40 1 v' n (flatU ds) → w.grownBy w' v.ownBlock → wpList Try.prog ops Q rest (a.put o.dst v') w') : wpList Try.prog ops Q (o :: rest) a w := by
  obtain ⟨i0, hi, hz0, hz1, hz2⟩ := info_parts info_U32
  obtain ⟨rfl, hcase⟩ := hd
  cases a0 with
  | none =>
    have hd : ds = [] := by
      rcases hcase with h | ⟨b, o, h, _⟩
      · exact h
      · cases h
    subst hd
    refine wpList_plain hgd fun K hK => ?_
    have hrun : (Builtin.append_ #[41, 41] o.type #[v, .slice none 0 c]).run Try.prog w = .ok v w := by
      rcases hown.2 with ⟨rfl, _⟩ | ⟨g, cap, cur, rfl, _, _, hnc, _⟩
      · simp [Builtin.append_, run_underlying Try.underlying41, sizeOf, typeInfo, hi, Builtin.lenOf, Builtin.firstCells]
      · simp [Builtin.append_, run_underlying Try.underlying41, sizeOf, typeInfo, hi, Builtin.lenOf, Builtin.firstCells, hnc, storeCells]
    unfold Oper.wp execOp
    simp only [ho, resolve, invoke, builtin, Sem.run_bind, Sem.run_pure, Result.andThen_ok, List.map_toArray, List.map_cons, List.map_nil, hs, hx, List.length_nil, hrun]
    exact hK _ _ (h v w hown ⟨rfl, rfl, rfl, Nat.le_refl _, fun _ _ _ => rfl⟩)
  | some sa =>
    have hcell : ∀ j u, (flatU ds)[j]? = some u → w.cell? (sa.add j) = some u := by
      rcases hcase with rfl | ⟨b, o, e, hb, hc⟩
      · intro j u hu; simp [flatU] at hu
      · cases e
        intro j u hu
        obtain ⟨hj, rfl⟩ := List.getElem?_eq_some_iff.1 hu
        simp only [flatU, List.length_map] at hj
        rw [add_off, hc j hj, getElem!_pos ds j hj]
        simp [flatU]
    refine wpList_append_own w hgd s x 41 ho base 40 i0 _ 1 4 Try.underlying41 hi hz0 hz1 hz2 rfl (by decide) v 0 [] hs hown sa ds.length c (flatU ds) hx (by simp [flatU]) hcell (flatU_one ds) (by unfold maxLen; omega) (by omega) hbase ?_
    intro v' w' h1 h2 _
    rw [Nat.zero_add, List.nil_append] at h1
    exact h v' w' h1 h2
/-- What such a slice holds. -/
theorem ownU_deps {w : World} {base : Nat} {v : Value} {ds : List Int} (h : w.ownsRow base 40 1 v ds.length (flatU ds)) : ∃ a c, v = .slice a ds.length c ∧ DepsAt w a ds.length ds ∧ DepsIn (fun k => base ≤ k) w a ds.length ∧ ∀ g o, a = some ⟨g, o, none⟩ → base ≤ g ∧ g < w.heap.size := by
  have hcs := fun g hg => World.ownsRow.cells h (g := g) hg
  rcases h.2 with ⟨rfl, hz⟩ | ⟨g, cap, cur, rfl, hb, hg, _⟩
  · have hd : ds = [] := by simpa using hz
    subst hd
    exact ⟨none, 0, rfl, ⟨rfl, Or.inl rfl⟩, Or.inl rfl, fun g o e => by cases e⟩
  · refine ⟨some ⟨g, 0, none⟩, cap, rfl, ⟨rfl, Or.inr ⟨g, 0, rfl, lt_blk hg, fun i hi => ?_⟩⟩, Or.inr ⟨g, 0, cur, rfl, hb, hg⟩, fun g' o e => ?_⟩
    · have := hcs g rfl i (.int .u32 ds[i]!) (by simp [flatU, getElem!_pos ds i hi])
      rwa [add_off] at this
    · cases e
      exact ⟨hb, lt_blk hg⟩
theorem ownU_deps2 {w : World} {base n : Nat} {v : Value} {ds : List Int} (h : w.ownsRow base 40 1 v n (flatU ds)) (hn : n = ds.length) : ∃ a c, v = .slice a n c ∧ DepsAt w a n ds ∧ DepsIn (fun k => base ≤ k) w a n ∧ ∀ g o, a = some ⟨g, o, none⟩ → base ≤ g ∧ g < w.heap.size := by
  subst hn
  exact ownU_deps h
theorem litU {b : Nat} (w : World) (hb : b ≤ w.heap.size) : (w.alloc (.cells #[] 40)).ownsRow b 40 1 (.slice (some ⟨w.heap.size, 0, none⟩) 0 0) 0 [] := World.ownsRow_lit w #[] 0 hb (by unfold maxLen; omega) rfl
theorem own_one_lit {b : Nat} (w : World) (x : Msg) (hb : b ≤ w.heap.size) : Own6 b (w.alloc (.cells #[.int .i64 x.frm, .int .u32 x.seq, .int .u64 x.stamp, .int .i64 x.svc, .slice x.da x.dl x.dc, .string x.pay] 43)) (.slice (some ⟨w.heap.size, 0, none⟩) 1 1) [x] :=
  World.ownsRow_lit (e := 43) (size := 6) w (encM x).toArray 1 hb (by unfold maxLen; omega) rfl

set_option maxRecDepth 100000 in
set_option maxHeartbeats 4000000 in
theorem w_HoldPlays (v : Value) (l : List ActM) (L : List ActD) (p seq most s f : Int) (w : World) (h : AAt w v l) (hL : AL w l L) (ho : ∀ X ∈ L, ADok X) (hd : ∀ x ∈ l, x.m.dl ≤ 9223372036854775807 ∧ x.m.pay.size ≤ 9223372036854775807) (hn : l.length ≤ 4611686018427387904) (_ : -9223372036854775808 ≤ p ∧ p ≤ 9223372036854775807) (hsq : 0 ≤ seq ∧ seq ≤ 4294967295) (hmo : -9223372036854775808 ≤ most ∧ most ≤ 9223372036854775807) :
    Calls Try.prog 9 #[v, .int .i64 p, .int .u32 seq, .int .i64 most, .agg #[.int .u64 s, .int .i64 f]] w fun e w' => e = .returned (.bool true) ∧ Bw w w' := by
  have mixed : Try.prog.follows .mixedOrders = true := by kernel_rfl
  obtain ⟨a, cap, rfl⟩ := h.form
  obtain ⟨wk, hwk⟩ : ∃ wk, wk = w.alloc (.cells #[.int .u64 s, .int .i64 f] 29) := ⟨_, rfl⟩
  have hBk : Bw w wk := hwk ▸ Bw.alloc _ _
  have hnk : wk.heap[w.heap.size]? = some (.cells #[.int .u64 s, .int .i64 f] 29 (0, 0)) := hwk ▸ heap_alloc_new _ _
  have HWK := Lib.hid hwk
  have HBK := Lib.hid hBk
  have HNK := Lib.hid hnk
  have HM1 := Lib.hid (h.bw hBk)
  have HL1 := Lib.hid (hL.bw hBk)
  have HS := Lib.hid hd
  have HOK := Lib.hid ho
  have hzk : w.heap.size < wk.heap.size := lt_blk hnk
  have HSQ := Lib.hid hsq
  have HMO := Lib.hid hmo
  clear h hL hd ho hwk hBk hnk hsq hmo
  go_enter Try.func9, Try.ntmps9
  go_upto_region 1 with fail
  rw [← HWK.out]
  go_wp2_with fail
  refine (c_awake12 wk).mono ?_
  rintro e w1 ⟨rfl, hb1⟩
  have B1 := Lib.hid hb1
  clear hb1
  go_wp2_with fail
  refine (c_Few12 _ l w1 (HM1.out.bw B1.out) hn HS.out).mono ?_
  rintro e w2 ⟨few, rfl, hf, hb2⟩
  have B2 := Lib.hid (B1.out.trans hb2)
  have HF2 := Lib.hid hf
  clear B1 hb2 hf hn
  cases few with
  | false =>
    go_wp2
    go_ret
    exact ⟨rfl, HBK.out.trans B2.out⟩
  | true =>
    obtain ⟨hn3, hdl⟩ := HF2.out rfl
    have HDL := Lib.hid hdl
    have hLl : L.length ≤ 200 := by rw [← HL1.out.1]; exact hn3
    clear hdl HF2
    go_wp2_with fail
    refine (h_New w2).mono ?_
    rintro e w3 ⟨rfl, h3, hb3⟩
    go_upto_region 7 with (refine wpList_alloc_ref ?_)
    obtain ⟨b, hb⟩ : ∃ b, b = w2.heap.size := ⟨_, rfl⟩
    obtain ⟨r, hr⟩ : ∃ r, r = w3.heap.size := ⟨_, rfl⟩
    rw [← hb] at h3 ⊢
    obtain ⟨w4, hw4⟩ : ∃ w4, w4 = w3.alloc (.cells (refCells (.slice none 0 0) (fun _ => 0)) 59) := ⟨_, rfl⟩
    rw [← hw4, ← hr]
    have hb4 : Bw w3 w4 := hw4 ▸ Bw.alloc _ _
    have hwb : wk.heap.size ≤ b := by rw [hb]; exact B2.out.size
    have hbr : b < r := by rw [hr]; exact h3.lt (Or.inl rfl)
    have hP4 : Pl (fun _ => True) wk w4 b r low0 (fun _ => []) low0 (.slice none 0 0) [] [] := by
      refine ⟨⟨fun _ => False, noRow, h3.bw hb4, fun _ h => h.elim, ?_⟩, by rw [hr, hw4]; exact heap_alloc_new _ _, World.ownsRow_nil _ _ _ _, fun g hg => by simp [Value.ownBlock] at hg, DL.nil _, fun x hx => (by cases hx), (B2.out.trans hb3).trans hb4, trivial, by omega⟩
      rintro k (rfl | ⟨i, hi, hg⟩)
      · exact ⟨trivial, hwb, by omega, by simp [Value.ownBlock]⟩
      · simp [noRow, Value.ownBlock] at hg
    have HP4 := Lib.hid hP4
    clear h3 hb3 hb hr hw4 hb4 hP4
    go_wp2_with fail
    go_loopw [13] (fun vi wr => ∃ (i : Nat) (low : Nat → Int) (R : Nat → List DM) (va : Value) (la : List Msg) (LA : List DM), vi = .int .i64 i ∧ i ≤ l.length ∧ Hid (Pl (fun _ => True) wk wr b r low R low va la LA) ∧ Hid (Lk low R LA) ∧ Hid (LA.length ≤ i)) (fun vi _ => l.length - (intOf vi).toNat)
    case atStart => exact ⟨0, low0, fun _ => [], .slice none 0 0, [], [], rfl, by omega, HP4.out, lk0, Nat.zero_le _⟩
    case round =>
      obtain ⟨i, low, R, va, la, LA, rfl, hi, hP, hK, hN⟩ := hrel
      by_cases hlt : i < l.length
      · have hltz : (i : Int) < (l.length : Int) := by omega
        have hBo := hP.out.old
        obtain ⟨bl, of, c1, q1, hbl, h9⟩ := (HM1.out.bw hBo).nine (by omega)
        simp only [Value.slice.injEq, true_and] at q1
        obtain ⟨rfl, rfl⟩ := q1
        have gx := h9 i hlt
        have rx := HL1.out.2 i hlt
        have dx := HDL.out l[i]! (by rw [getElem!_pos l i hlt]; exact List.getElem_mem hlt)
        have ox := HOK.out L[i]! (by rw [getElem!_pos L i (by rw [← HL1.out.1]; exact hlt)]; exact List.getElem_mem _)
        obtain ⟨x, hx⟩ : ∃ x, x = l[i]! := ⟨_, rfl⟩
        obtain ⟨X, hX⟩ : ∃ X, X = L[i]! := ⟨_, rfl⟩
        rw [← hx] at gx rx dx
        rw [← hX] at rx ox
        have HX := Lib.hid rx
        have HOX := Lib.hid ox
        have hbn : HBnd low R 200 := hK.out.bnd.mono (by have := hN.out; omega)
        have hla : la.length ≤ 200 := by have := hP.out.all.1; have := hN.out; omega
        have HBN := Lib.hid hbn
        have HLA := Lib.hid hla
        obtain ⟨x0, x1, x2, x3, x4, x5, x6, x7, x8⟩ := gx
        clear hx hX h9 rx ox hBo hbn hla
        go_upto_region 11 with fail
        obtain ⟨wa, hwa⟩ : ∃ wa, wa = wr.alloc (.cells #[.bool x.drop, .int .i64 x.p, .int .u32 x.upto, .int .i64 x.m.frm, .int .u32 x.m.seq, .int .u64 x.m.stamp, .int .i64 x.m.svc, .slice x.m.da x.m.dl x.m.dc, .string x.m.pay] 61) := ⟨_, rfl⟩
        rw [← hwa]
        have hBa : Bw wr wa := hwa ▸ Bw.alloc _ _
        have hna : wa.heap[wr.heap.size]? = some (.cells #[.bool x.drop, .int .i64 x.p, .int .u32 x.upto, .int .i64 x.m.frm, .int .u32 x.m.seq, .int .u64 x.m.stamp, .int .i64 x.m.svc, .slice x.m.da x.m.dl x.m.dc, .string x.m.pay] 61 (0, 0)) := hwa ▸ nine_alloc _ _
        have HNA := Lib.hid hna
        have HBA := Lib.hid hBa
        have y0 : wa.cell? ⟨wr.heap.size, 0, none⟩ = some (.bool x.drop) := cell_blk hna
        have hza : wr.heap.size < wa.heap.size := lt_blk hna
        have HPA := Lib.hid ((hP.out.mono (T' := fun k => k < wr.heap.size) fun k _ hk => hk).bw hBa)
        clear hwa hBa hna x0 x1 x2 x3 x4 x5 x6 x7 x8
        go_upto_if 44 with fail
        go_cut [15, 16, 17, 18] from 42 to 81 (fun s15 s16 s17 s18 wx => ∃ (low' : Nat → Int) (R' : Nat → List DM) (va' : Value) (la' : List Msg) (LA' : List DM), Hid (Pl (fun _ => True) wk wx b r low' R' low' va' la' LA') ∧ Hid (Lk low' R' LA') ∧ Hid (LA'.length ≤ i + 1) ∧ Hid (wx.heap[wr.heap.size]? = some (.cells #[.bool x.drop, .int .i64 x.p, .int .u32 x.upto, .int .i64 x.m.frm, .int .u32 x.m.seq, .int .u64 x.m.stamp, .int .i64 x.m.svc, .slice x.m.da x.m.dl x.m.dc, .string x.m.pay] 61 (0, 0))))
        case first =>
          cases hdr : x.drop with
          | true =>
            have y1 : wa.cell? ⟨wr.heap.size, 1, none⟩ = some (.int .i64 X.p) := by rw [← HX.out.p]; exact cell_blk HNA.out
            have y2 : wa.cell? ⟨wr.heap.size, 2, none⟩ = some (.int .u32 X.upto) := by rw [← HX.out.upto]; exact cell_blk HNA.out
            rw [hdr] at y0
            have HC := Lib.hid (pl_Drop HPA.out (HBN.out.mono (by omega)) X.p X.upto HOX.out.upto.1)
            go_wp2_with fail
            clear y0 y1 y2
            refine HC.out.mono ?_
            rintro e w2 ⟨rfl, hp2, hk2⟩
            have hn2 := hk2.blk (fun hg => Nat.lt_irrefl _ hg.1) HNA.out
            have y1 : w2.cell? ⟨wr.heap.size, 1, none⟩ = some (.int .i64 X.p) := by rw [← HX.out.p]; exact cell_blk hn2
            have y2 : w2.cell? ⟨wr.heap.size, 2, none⟩ = some (.int .u32 X.upto) := by rw [← HX.out.upto]; exact cell_blk hn2
            have hr2 := hp2.ref
            have hz2 : wr.heap.size < w2.heap.size := lt_blk hn2
            have HD := Lib.hid (c_rhDrop va la LA low X.p X.upto w2 hp2.row.at (hp2.all.bw hp2.old) (by have := HLA.out; omega))
            rw [hK.out.rLowE] at HD
            have HP2 := Lib.hid hp2
            have HN2 := Lib.hid hn2
            clear hp2 hk2 hn2 HC
            go_wp2_with (refine wpList_load_ref (by rfl) hr2 ?_)
            clear hr2 y1 y2
            refine HD.out.mono ?_
            rintro e w3 ⟨rfl, hb3⟩
            have HP3 := Lib.hid (HP2.out.bw hb3)
            have HN3 := Lib.hid (hb3.blk HN2.out)
            have hr3 := HP3.out.ref
            have hv : va.oneCell' = true := by obtain ⟨a, c, rfl⟩ := HP3.out.row.at.form; rfl
            have hPs := HP3.out.store (T' := fun k => k < wr.heap.size ∨ wa.heap.size ≤ k) (va' := va) (low2' := dropLow low R X.p X.upto) (fun _ hk => hk) HP3.out.row HP3.out.all HP3.out.dl (fun g hg => Or.inl hg)
            have HPS := Lib.hid hPs
            have hNs : (w3.setRow r (refCells va (dropLow low R X.p X.upto))).heap[wr.heap.size]? = _ := (setRow_other _ _ _ _ (fun e => by have := lt_blk hP.out.ref; omega)).trans HN3.out
            have HNS := Lib.hid hNs
            clear hb3 HD hPs hNs
            go_wp2_with (refine wpList_store_ref (by rfl) (by rfl) hr3 hv ?_; clear hr3 hv)
            go_meet
            exact ⟨_, _, va, la, LA, HPS.out.mono fun _ _ _ => trivial, hK.out.drop X.p X.upto, (show _ ≤ _ by have := hN.out; omega), HNS.out⟩
          | false =>
            rw [hdr] at y0
            have y3 : wa.cell? ⟨wr.heap.size, 3, none⟩ = some (.int .i64 x.m.frm) := cell_blk HNA.out
            have y4 : wa.cell? ⟨wr.heap.size, 4, none⟩ = some (.int .u32 x.m.seq) := cell_blk HNA.out
            have y5 : wa.cell? ⟨wr.heap.size, 5, none⟩ = some (.int .u64 x.m.stamp) := cell_blk HNA.out
            have y6 : wa.cell? ⟨wr.heap.size, 6, none⟩ = some (.int .i64 x.m.svc) := cell_blk HNA.out
            have y7 : wa.cell? ⟨wr.heap.size, 7, none⟩ = some (.slice x.m.da x.m.dl x.m.dc) := cell_blk HNA.out
            have y8 : wa.cell? ⟨wr.heap.size, 8, none⟩ = some (.string x.m.pay) := cell_blk HNA.out
            go_upto_region 15 with fail
            obtain ⟨wm, hwm⟩ : ∃ wm, wm = wa.alloc (.cells #[.int .i64 x.m.frm, .int .u32 x.m.seq, .int .u64 x.m.stamp, .int .i64 x.m.svc, .slice x.m.da x.m.dl x.m.dc, .string x.m.pay] 43) := ⟨_, rfl⟩
            rw [← hwm]
            have hBm : Bw wa wm := hwm ▸ Bw.alloc _ _
            have hnm : wm.heap[wa.heap.size]? = some (.cells #[.int .i64 x.m.frm, .int .u32 x.m.seq, .int .u64 x.m.stamp, .int .i64 x.m.svc, .slice x.m.da x.m.dl x.m.dc, .string x.m.pay] 43 (0, 0)) := hwm ▸ msg_alloc _ _
            have hzm : wm.heap.size = wa.heap.size + 1 := by rw [hwm]; simp
            have hNM := hBm.blk HNA.out
            have y7m : wm.cell? ⟨wr.heap.size, 7, none⟩ = some (.slice x.m.da x.m.dl x.m.dc) := cell_blk hNM
            have hzr : wr.heap.size < wm.heap.size := lt_blk hNM
            have HZM := Lib.hid hzm
            have HBM := Lib.hid hBm
            have HNM := Lib.hid hnm
            clear y0 y3 y4 y5 y6 y7 y8 hwm hBm hnm hNM hzm
            have C4 : Hid (wm.heap.size ≤ (wm.alloc (.cells #[] 40)).heap.size) := by show _ ≤ _; simp
            have HDP : Hid (DepsAt (wm.alloc (.cells #[] 40)) x.m.da x.m.dl X.D.deps) := (HX.out.m.bw ((((hP.out.old.trans HBA.out).trans HBM.out)).trans (Bw.alloc _ _))).deps
            have HL0 := Lib.hid (litU wm (Nat.le_refl _))
            have y7a : (wm.alloc (.cells #[] 40)).cell? ⟨wr.heap.size, 7, none⟩ = some (.slice x.m.da x.m.dl x.m.dc) := ((Bw.alloc wm _).cell (p := ⟨wr.heap.size, 7, none⟩) hzr).trans y7m
            go_upto_region 16 with (at_builtin; refine appU2 rfl _ _ rfl wm.heap.size _ x.m.da x.m.dl x.m.dc X.D.deps rfl rfl HL0.out HDP.out (by omega) C4.out ?_; intro vd w4 hd4 hg4; obtain ⟨ad, cd, rfl, ha4, hi4, hl4⟩ := ownU_deps2 hd4 HDP.out.1; have B4 : Hid (Bw wm w4) := (show _ from Below.grown (Bw.alloc _ _) hg4 C4.out (by intro k hk; cases hk; exact Nat.le_refl _)); have HA4 := Lib.hid ha4; have HI4 := Lib.hid hi4; have HL4 := Lib.hid hl4; have n4 := B4.out.blk HNM.out; have HN4 := Lib.hid n4; have f4 : w4.frozen? ⟨wa.heap.size, 4, none⟩ = false := soft_blk n4; have z4 : w4.cell? ⟨wa.heap.size, 4, none⟩ = some (.slice x.m.da x.m.dl x.m.dc) := cell_blk n4; have hs4 : wa.heap.size < w4.heap.size := lt_blk n4; clear hd4 hg4 ha4 hi4 hl4 n4)
            obtain ⟨w5, hw5⟩ : ∃ w5, w5 = w4.setCell ⟨wa.heap.size, 4, none⟩ (.slice ad x.m.dl cd) := ⟨_, rfl⟩
            rw [← hw5]
            have hn5 : w5.heap[wa.heap.size]? = some (.cells #[.int .i64 x.m.frm, .int .u32 x.m.seq, .int .u64 x.m.stamp, .int .i64 x.m.svc, .slice ad x.m.dl cd, .string x.m.pay] 43 (0, 0)) := by rw [hw5]; exact set_blk HN4.out _
            have hb5 : Bw wa w5 := by rw [hw5]; exact Below.setCell (HBM.out.trans B4.out) (p := ⟨wa.heap.size, 4, none⟩) (Nat.le_refl _) _
            have hk5 : Keep (fun k => k ≠ wa.heap.size) w4 w5 := by rw [hw5]; exact (Keep.refl _ _).setCell (p := ⟨wa.heap.size, 4, none⟩) (by simp) _
            have hi5 : DepsIn (fun k => wm.heap.size ≤ k) w5 ad x.m.dl := (((HI4.out.mono (P' := fun k => wm.heap.size ≤ k ∧ k ≠ wa.heap.size) fun k hk => ⟨hk, by have := HZM.out; have hk2 : wm.heap.size ≤ k := hk; omega⟩)).keep (hk5.mono fun k hk => hk.2)).mono fun k hk => hk.1
            have ha5 : DepsAt w5 ad x.m.dl X.D.deps := HA4.out.keep (HI4.out.mono (P' := fun k => k ≠ wa.heap.size) fun k hk => by have := HZM.out; have hk2 : wm.heap.size ≤ k := hk; show k ≠ _; omega) hk5
            have hl5 : ∀ g o, ad = some ⟨g, o, none⟩ → wm.heap.size ≤ g ∧ g < w5.heap.size := fun g o e => ⟨(HL4.out g o e).1, by have := (HL4.out g o e).2; have h2 := hk5.size; omega⟩
            have hx5 : Reads w5 ⟨x.m.frm, x.m.seq, x.m.stamp, x.m.svc, ad, x.m.dl, cd, x.m.pay⟩ X.D := ⟨HX.out.m.frm, HX.out.m.seq, HX.out.m.stamp, HX.out.m.svc, ha5, HX.out.m.pay⟩
            have HC := Lib.hid (pl_Put (HPA.out.bw hb5) (HBN.out.mono (by omega)) ⟨x.m.frm, x.m.seq, x.m.stamp, x.m.svc, ad, x.m.dl, cd, x.m.pay⟩ X.D hx5 dx HOX.out.D.seq)
            simp only [msgV] at HC
            have HN5 := Lib.hid hn5
            have HB5 := Lib.hid hb5
            have HI5 := Lib.hid hi5
            have HL5 := Lib.hid hl5
            have HX5 := Lib.hid hx5
            obtain ⟨v0, v1, v2, v3, v4, v5⟩ : _ ∧ _ ∧ _ ∧ _ ∧ _ ∧ _ := six_of (x := ⟨x.m.frm, x.m.seq, x.m.stamp, x.m.svc, ad, x.m.dl, cd, x.m.pay⟩) hn5
            have hs5 : wa.heap.size < w5.heap.size := lt_blk hn5
            clear hw5 hn5 hb5 hk5 hi5 ha5 hl5 hx5 f4 z4 y7m y7a
            go_wp2_with fail
            clear v0 v1 v2 v3 v4 v5
            refine HC.out.mono ?_
            rintro e w6 ⟨rfl, hp6, hk6⟩
            obtain ⟨E, hE⟩ : ∃ E, E = putE low R X.D := ⟨_, rfl⟩
            rw [← hE]
            have HE := Lib.hid hE
            have hn6 := hk6.blk (fun hg => Nat.lt_irrefl _ hg.1) (HB5.out.blk HNA.out)
            have hm6 := hk6.blk (b := wa.heap.size) (fun hg => by have := HBA.out.size; have h2 : wa.heap.size < wr.heap.size := hg.1; omega) HN5.out
            have z3 : w6.cell? ⟨wr.heap.size, 3, none⟩ = some (.int .i64 x.m.frm) := cell_blk hn6
            have z4 : w6.cell? ⟨wr.heap.size, 4, none⟩ = some (.int .u32 x.m.seq) := cell_blk hn6
            have z5 : w6.cell? ⟨wr.heap.size, 5, none⟩ = some (.int .u64 x.m.stamp) := cell_blk hn6
            have z6 : w6.cell? ⟨wr.heap.size, 6, none⟩ = some (.int .i64 x.m.svc) := cell_blk hn6
            have z7 : w6.cell? ⟨wr.heap.size, 7, none⟩ = some (.slice x.m.da x.m.dl x.m.dc) := cell_blk hn6
            have z8 : w6.cell? ⟨wr.heap.size, 8, none⟩ = some (.string x.m.pay) := cell_blk hn6
            have hs6 : wr.heap.size < w6.heap.size := lt_blk hn6
            have HN6 := Lib.hid hn6
            have HM6 := Lib.hid hm6
            have HP6 := Lib.hid hp6
            have HK6 := Lib.hid hk6
            have hr6 := hp6.ref
            have HQ := Lib.hid (c_rhPut va la LA low x.m X.D w6 hp6.row (hp6.all.bw hp6.old) (by have := HLA.out; omega) (HX.out.m.bw hp6.old) HOX.out.D.seq)
            have hEE : rE LA X.D = E := by rw [hE, hK.out.pE]; rfl
            rw [hEE] at HQ
            simp only [msgV] at HQ
            clear hE hn6 hm6 hp6 hk6 hEE HC
            go_wp2_with (first | refine wpList_load_ref (by rfl) hr6 ?_)
            clear hr6 z3 z4 z5 z6 z7 z8
            refine HQ.out.mono ?_
            rintro e w7 ⟨va', la', rfl, ho7, hd7, hg7, hl7, hb7⟩
            have hv7 : va'.oneCell' = true := by obtain ⟨a, c, rfl⟩ := ho7.at.form; rfl
            obtain ⟨g, hg⟩ : ∃ g, g = w7.heap.size := ⟨_, rfl⟩
            have hz7 : RefBlk (w7.alloc (.cells (refCells (.slice none 0 0) (fun _ => 0)) 59)) g (.slice none 0 0) (fun _ => 0) := by rw [hg]; exact heap_alloc_new _ _
            obtain ⟨w8, hw8⟩ : ∃ w8, w8 = (w7.alloc (.cells (refCells (.slice none 0 0) (fun _ => 0)) 59)).setRow g (refCells va' low) := ⟨_, rfl⟩
            have hrlt : r < wr.heap.size := lt_blk hP.out.ref
            have hsz : wr.heap.size ≤ w5.heap.size ∧ w5.heap.size ≤ w6.heap.size ∧ w6.heap.size ≤ w7.heap.size := ⟨Nat.le_trans HBA.out.size HB5.out.size, HK6.out.size, hb7.size⟩
            have hr8g : RefBlk w8 g va' low := by rw [hw8]; exact setRow_ref hz7
            have hP8 : Pl (fun k => (k < wr.heap.size ∨ w5.heap.size ≤ k) ∧ k < w6.heap.size) wk w8 b r low (putR low R X.D) low va la LA := by
              have h1 := (HP6.out.mono (T' := fun k => (k < wr.heap.size ∨ w5.heap.size ≤ k) ∧ k < w6.heap.size) fun k hk hl => ⟨hk, hl⟩).bw (hb7.trans (Bw.alloc w7 (.cells (refCells (.slice none 0 0) (fun _ => 0)) 59)))
              rw [hw8]
              exact h1.keep (T' := fun k => k ≠ g) ((Keep.refl _ _).setRow (by simp) _) (fun i hi _ => by have := hi.2; omega) (fun i hi => by have := hP.out.old.size; omega)
            have hk8 : Keep (fun k => wr.heap.size ≤ k ∧ k < w5.heap.size) w5 w8 := by
              rw [hw8]
              exact ((((HK6.out.mono fun k hk hg => by have := hg.1; omega : Keep (fun k => wr.heap.size ≤ k ∧ k < w5.heap.size) w5 w6).bw hb7).bw (Bw.alloc _ _))).setRow (by show ¬ (_ ∧ _); omega) _
            have hE8 : Own6 0 w8 va' la' := by
              rw [hw8]
              exact Own6.keep (P := fun k => k ≠ g) (ho7.bw (Bw.alloc w7 _)) ((Keep.refl _ _).setRow (by simp) _) (fun g' hg' => by have := (World.ownsRow.lt ho7 g' hg').2; show g' ≠ g; omega)
            have hd8 := hd7 wk hP.out.all HX.out.m
            have hdl8 : ∀ y ∈ la', y.dl ≤ 1000000 := fun y hy => by
              rcases hl7 with rfl | rfl
              · exact hP.out.dl y hy
              · rcases List.mem_append.1 hy with hy | hy
                · exact hP.out.dl y hy
                · rw [List.mem_singleton.1 hy]; exact dx
            have hP9 := hP8.store (T' := fun k => (k < wr.heap.size ∨ w5.heap.size ≤ k) ∧ k < w7.heap.size) (low2' := low) (fun k hk => ⟨hk.1, by have := hk.2; omega⟩) hE8 hd8 hdl8 (fun g' hg' => by
              rcases hg7 g' hg' with h1 | h1
              · exact Or.inl h1
              · exact Or.inr ⟨by have := hP.out.old.size; omega, ⟨Or.inr (by omega), (World.ownsRow.lt ho7 g' hg').2⟩, fun h2 => by have := h2.2; omega⟩)
            have hr8 := hP8.ref
            have hk9 := hk8.setRow (g := r) (by show ¬ (_ ∧ _); omega) (refCells va' low)
            have hsz9 : w7.heap.size < w8.heap.size := by rw [hw8, setRow_size]; simp
            have HV7 := Lib.hid hv7
            have HZ7 : Hid (RefBlk (w7.alloc (.cells (refCells (.slice none 0 0) (fun _ => 0)) 59)) w7.heap.size (.slice none 0 0) (fun _ => 0)) := (show _ from heap_alloc_new _ _)
            have HW8 := Lib.hid hw8
            have HG := Lib.hid hg
            have HP9 := Lib.hid hP9
            have HK9 := Lib.hid hk9
            have HSZ := Lib.hid hsz
            have HSZ9 := Lib.hid hsz9
            have HL9 : Hid ((rPut LA E X.D).length ≤ i + 1) := (show _ ≤ _ by
              have := hN.out
              unfold rPut
              split
              · rw [List.length_append, List.length_singleton]; omega
              · omega)
            have hlk : Lk low (putR low R X.D) (rPut LA E X.D) := by rw [HE.out]; exact hK.out.put X.D
            have HLK := Lib.hid hlk
            clear hP8 hP9 hk8 hk9 hE8 hd8 hdl8 ho7 hd7 hg7 hl7 hb7 hsz hv7 hsz9 hlk HQ
            go_upto_region 18 with (first | refine wpList_alloc_ref ?_ | (refine wpList_store_ref (by rfl) (by rfl) HZ7.out HV7.out ?_))
            rw [← HG.out, ← HW8.out]
            clear hg hw8 hz7
            go_upto_region 19 with (first | refine wpList_load_ref (by rfl) hr8g ?_ | (refine wpList_store_ref (by rfl) (by rfl) hr8 HV7.out ?_))
            obtain ⟨w9, hw9⟩ : ∃ w9, w9 = w8.setRow r (refCells va' low) := ⟨_, rfl⟩
            rw [← hw9] at HP9 HK9 ⊢
            have hsz9 : w7.heap.size < w9.heap.size := by rw [hw9, setRow_size]; exact HSZ9.out
            clear hr8 hr8g hw9
            have hm9 := HK9.out.blk (b := wa.heap.size) ⟨HBA.out.size, lt_blk HN5.out⟩ HN5.out
            have hx9 : Reads w9 ⟨x.m.frm, x.m.seq, x.m.stamp, x.m.svc, ad, x.m.dl, cd, x.m.pay⟩ X.D := HX5.out.keep (P := fun k => wr.heap.size ≤ k ∧ k < w5.heap.size) (by
              rcases HI5.out with h0 | ⟨b', o', c', e1, e2, e3⟩
              · exact Or.inl h0
              · exact Or.inr ⟨b', o', c', e1, ⟨by have h2 : wm.heap.size ≤ b' := e2; have := HZM.out; have := HBA.out.size; omega, lt_blk e3⟩, e3⟩) HK9.out
            obtain ⟨Q, hQ⟩ : ∃ Q : Nat → Prop, Q = fun k => k ≠ w9.heap.size ∧ ∀ g o, ad = some ⟨g, o, none⟩ → k ≠ g := ⟨_, rfl⟩
            have hb10 : Bw w9 (w9.alloc (.cells #[.int .i64 x.m.frm, .int .u32 x.m.seq, .int .u64 x.m.stamp, .int .i64 x.m.svc, .slice ad x.m.dl cd, .string x.m.pay] 43)) := Bw.alloc _ _
            have hadl : ∀ g o, ad = some ⟨g, o, none⟩ → wr.heap.size < g ∧ g < w5.heap.size := fun g o e => ⟨by have := (HL5.out g o e).1; have := HZM.out; have := HBA.out.size; omega, (HL5.out g o e).2⟩
            have hsp := c_spoil Q (base := 0) (.slice (some ⟨w9.heap.size, 0, none⟩) 1 1) [⟨x.m.frm, x.m.seq, x.m.stamp, x.m.svc, ad, x.m.dl, cd, x.m.pay⟩] [X.D] _ (own_one_lit w9 ⟨x.m.frm, x.m.seq, x.m.stamp, x.m.svc, ad, x.m.dl, cd, x.m.pay⟩ (Nat.zero_le _)) (fun g hg => by cases hg; rw [hQ]; exact fun h => h.1 rfl) ((DL.nil _).snoc (hx9.bw hb10)) (fun y hy => by
              rw [List.mem_singleton.1 hy]
              have h5 := HI5.out
              have h9 : DepsIn (fun k => wr.heap.size ≤ k ∧ k < w5.heap.size) w9 ad x.m.dl := by
                refine DepsIn.keep ?_ HK9.out
                rcases h5 with h0 | ⟨b', o', c', e1, e2, e3⟩
                · exact Or.inl h0
                · exact Or.inr ⟨b', o', c', e1, ⟨by have := (hadl b' o' e1).1; omega, lt_blk e3⟩, e3⟩
              rcases h9.bw hb10 with h0 | ⟨b', o', c', e1, e2, e3⟩
              · exact Or.inl h0
              · exact Or.inr ⟨b', o', c', e1, by rw [hQ]; exact fun h => h.2 b' o' e1 rfl, e3⟩) (by simp) (fun y hy => by rw [List.mem_singleton.1 hy]; exact dx)
            have hPf : ∀ w', Keep Q (w9.alloc (.cells #[.int .i64 x.m.frm, .int .u32 x.m.seq, .int .u64 x.m.stamp, .int .i64 x.m.svc, .slice ad x.m.dl cd, .string x.m.pay] 43)) w' → Pl (fun _ => True) wk w' b r low (putR low R X.D) low va' la' (rPut LA E X.D) := fun w' hk => by
              refine ((HP9.out.bw hb10).keep hk (fun k hk2 _ => ?_) (fun k hk2 => ?_)).mono fun _ _ _ => trivial
              · rw [hQ]
                exact ⟨by have := hk2.2; omega, fun g o e h => by have := hadl g o e; have := hk2.1; omega⟩
              · rw [hQ]
                have h1 := hP.out.old.size
                have h2 := HSZ.out
                exact ⟨by omega, fun g o e h => by have := hadl g o e; omega⟩
            have hNf : ∀ w', Keep Q (w9.alloc (.cells #[.int .i64 x.m.frm, .int .u32 x.m.seq, .int .u64 x.m.stamp, .int .i64 x.m.svc, .slice ad x.m.dl cd, .string x.m.pay] 43)) w' → w'.heap[wr.heap.size]? = some (.cells #[.bool x.drop, .int .i64 x.p, .int .u32 x.upto, .int .i64 x.m.frm, .int .u32 x.m.seq, .int .u64 x.m.stamp, .int .i64 x.m.svc, .slice x.m.da x.m.dl x.m.dc, .string x.m.pay] 61 (0, 0)) := fun w' hk => by
              have h1 := HK9.out.blk (b := wr.heap.size) ⟨Nat.le_refl _, by have h3 := lt_blk HNA.out; have h4 := HB5.out.size; omega⟩ (HB5.out.blk HNA.out)
              refine hk.blk ?_ (hb10.blk h1)
              rw [hQ]
              have h2 := HSZ.out
              exact ⟨by omega, fun g o e h => by have := hadl g o e; omega⟩
            have HSP := Lib.hid hsp
            have HPF := Lib.hid hPf
            have HNF := Lib.hid hNf
            obtain ⟨v0, v1, v2, v3, v4, v5⟩ : _ ∧ _ ∧ _ ∧ _ ∧ _ ∧ _ := six_of (x := ⟨x.m.frm, x.m.seq, x.m.stamp, x.m.svc, ad, x.m.dl, cd, x.m.pay⟩) hm9
            have hs9 : wa.heap.size < w9.heap.size := lt_blk hm9
            have e2 : (E != E) = false := by simp
            clear hsp hPf hNf hQ hadl hb10 hm9 hx9
            go_wp2_with fail
            refine HSP.out.mono ?_
            rintro e w11 ⟨rfl, hk11⟩
            have HPf := Lib.hid (HPF.out _ hk11)
            have HNf := Lib.hid (HNF.out _ hk11)
            clear hk11
            rw [hdr] at HNf
            go_wp2_with fail
            go_meet
            exact ⟨low, putR low R X.D, va', la', rPut LA E X.D, HPf.out, HLK.out, HL9.out, by rw [hdr]; exact HNf.out⟩
        case rest =>
          obtain ⟨low2, R2, va2, la2, LA2, hP2, hK2, hN2, hA2⟩ := hcut
          have hbn : HBnd low2 R2 200 := hK2.out.bnd.mono (by have := hN2.out; omega)
          have hla : la2.length ≤ 200 := by have := hP2.out.all.1; have := hN2.out; omega
          have HBN2 := Lib.hid hbn
          have HLA2 := Lib.hid hla
          clear hbn hla HBN HLA HPA HNA HBA y0 hza
          have HG := Lib.hid (pl_Get hP2.out (HBN2.out.mono (by omega)) p seq HSQ.out.1)
          simp only [msgV] at HG
          obtain ⟨ok, hok⟩ : ∃ ok, ok = getOk low2 R2 p seq := ⟨_, rfl⟩
          obtain ⟨GD, hGD⟩ : ∃ GD, GD = getD low2 R2 p seq := ⟨_, rfl⟩
          rw [← hok, ← hGD] at HG
          have HOKK := Lib.hid hok
          have HGD := Lib.hid hGD
          clear hok hGD
          go_wp2_with fail
          refine HG.out.mono ?_
          rintro e w5 ⟨xg, rfl, hrg, hdg, hbg⟩
          have BG := Lib.hid hbg
          have RG := Lib.hid hrg
          clear hrg hbg HG
          go_upto_region 23 with fail
          obtain ⟨w6, hw6⟩ : ∃ w6, w6 = w5.alloc (.cells #[.int .i64 xg.frm, .int .u32 xg.seq, .int .u64 xg.stamp, .int .i64 xg.svc, .slice xg.da xg.dl xg.dc, .string xg.pay] 43) := ⟨_, rfl⟩
          rw [← hw6]
          have hb6 : Bw w5 w6 := hw6 ▸ Bw.alloc _ _
          have hn6 : w6.heap[w5.heap.size]? = some (.cells #[.int .i64 xg.frm, .int .u32 xg.seq, .int .u64 xg.stamp, .int .i64 xg.svc, .slice xg.da xg.dl xg.dc, .string xg.pay] 43 (0, 0)) := hw6 ▸ msg_alloc _ _
          have B6 := Lib.hid (BG.out.trans hb6)
          have RG6 := Lib.hid (RG.out.bw hb6)
          have N6 := Lib.hid hn6
          have hp6 := hP2.out.bw B6.out
          have hr6 := hp6.ref
          have HG := Lib.hid (pl_rGet hp6 hK2.out rfl (by have := HLA2.out; omega) p seq)
          simp only [msgV] at HG
          rw [← HOKK.out, ← HGD.out] at HG
          clear hw6 hb6 hn6 hp6 RG
          go_wp2_with (first | refine wpList_load_ref (by rfl) hr6 ?_)
          clear hr6
          refine HG.out.mono ?_
          rintro e w7 ⟨yg, rfl, hry, hdy, hby⟩
          have B7 := Lib.hid (B6.out.trans hby)
          have N7 := Lib.hid (hby.blk N6.out)
          have RG7 := Lib.hid (RG6.out.bw hby)
          have RY := Lib.hid hry
          clear hry hby HG N6 RG6 B6
          go_upto_region 24 with fail
          obtain ⟨w8, hw8⟩ : ∃ w8, w8 = w7.alloc (.cells #[.int .i64 yg.frm, .int .u32 yg.seq, .int .u64 yg.stamp, .int .i64 yg.svc, .slice yg.da yg.dl yg.dc, .string yg.pay] 43) := ⟨_, rfl⟩
          rw [← hw8]
          have hb8 : Bw w7 w8 := hw8 ▸ Bw.alloc _ _
          have hn8 : w8.heap[w7.heap.size]? = some (.cells #[.int .i64 yg.frm, .int .u32 yg.seq, .int .u64 yg.stamp, .int .i64 yg.svc, .slice yg.da yg.dl yg.dc, .string yg.pay] 43 (0, 0)) := hw8 ▸ msg_alloc _ _
          have B8 := Lib.hid (B7.out.trans hb8)
          have N6 := Lib.hid (hb8.blk N7.out)
          have N8 := Lib.hid hn8
          have hp8 := hP2.out.bw B8.out
          have hbg : ∀ n os, Bw w8 (grow (w8.drewN n) os) := fun n os => Gr.bw ⟨n, os, rfl⟩
          have HBG := Lib.hid hbg
          have HSM : Hid (∀ (k : Nat) (os : Array Obj), Calls Try.prog 23 #[.agg #[.int .i64 xg.frm, .int .u32 xg.seq, .int .u64 xg.stamp, .int .i64 xg.svc, .slice xg.da xg.dl xg.dc, .string xg.pay], .agg #[.int .i64 yg.frm, .int .u32 yg.seq, .int .u64 yg.stamp, .int .i64 yg.svc, .slice yg.da yg.dl yg.dc, .string yg.pay]] (grow (w8.drewN k) os) fun e w' => e = .returned (.bool true) ∧ Gr (grow (w8.drewN k) os) w') := fun k os => by
            have := c_rSame xg yg GD GD (grow (w8.drewN k) os) (RG7.out.bw (hb8.trans (hbg k os))) (RY.out.bw (hb8.trans (hbg k os))) (by omega)
            rwa [decide_eq_true (rfl : GD = GD)] at this
          obtain ⟨cn, hcn⟩ : ∃ cn, cn = cntH low2 R2 x.p := ⟨_, rfl⟩
          have HCN : Hid (∀ (k : Nat) (os : Array Obj), Calls Try.prog 40 #[.pointer (some ⟨b, 0, none⟩), .int .i64 x.p] (grow (w8.drewN k) os) fun e w' => e = .returned (.int .u32 cn) ∧ Gr (grow (w8.drewN k) os) w') := fun k os => by
            rw [hcn]; exact pl_Count (hp8.bw (hbg k os)) (HBN2.out.mono (by omega)) x.p
          have HCR : Hid (∀ (k : Nat) (os : Array Obj), Calls Try.prog 41 #[.agg (refCells va2 low2), .int .i64 x.p] (grow (w8.drewN k) os) fun e w' => e = .returned (.int .u32 cn) ∧ Gr (grow (w8.drewN k) os) w') := fun k os => by
            rw [hcn, hK2.out.cnt]; exact pl_rCount (hp8.bw (hbg k os)) (by have := HLA2.out; omega) x.p
          have GL : Hid (∀ w', (∃ p : GrownBy, w' = grow (w8.drewN p.n) p.os) → RefBlk w' r va2 low2) := (show _ from by rintro _ ⟨p, rfl⟩; exact (hp8.bw (hbg p.n p.os)).ref)
          have hA8 := B8.out.blk hA2.out
          have a1 : ∀ n os, (grow (w8.drewN n) os).cell? ⟨wr.heap.size, 1, none⟩ = some (.int .i64 x.p) := fun n os => cell_blk ((hbg n os).blk hA8)
          have x0 : ∀ n os, (grow (w8.drewN n) os).cell? ⟨w5.heap.size, 0, none⟩ = some (.int .i64 xg.frm) := fun n os => cell_blk ((hbg n os).blk N6.out)
          have x1 : ∀ n os, (grow (w8.drewN n) os).cell? ⟨w5.heap.size, 1, none⟩ = some (.int .u32 xg.seq) := fun n os => cell_blk ((hbg n os).blk N6.out)
          have x2 : ∀ n os, (grow (w8.drewN n) os).cell? ⟨w5.heap.size, 2, none⟩ = some (.int .u64 xg.stamp) := fun n os => cell_blk ((hbg n os).blk N6.out)
          have x3 : ∀ n os, (grow (w8.drewN n) os).cell? ⟨w5.heap.size, 3, none⟩ = some (.int .i64 xg.svc) := fun n os => cell_blk ((hbg n os).blk N6.out)
          have x4 : ∀ n os, (grow (w8.drewN n) os).cell? ⟨w5.heap.size, 4, none⟩ = some (.slice xg.da xg.dl xg.dc) := fun n os => cell_blk ((hbg n os).blk N6.out)
          have x5 : ∀ n os, (grow (w8.drewN n) os).cell? ⟨w5.heap.size, 5, none⟩ = some (.string xg.pay) := fun n os => cell_blk ((hbg n os).blk N6.out)
          have y0 : ∀ n os, (grow (w8.drewN n) os).cell? ⟨w7.heap.size, 0, none⟩ = some (.int .i64 yg.frm) := fun n os => cell_blk ((hbg n os).blk N8.out)
          have y1 : ∀ n os, (grow (w8.drewN n) os).cell? ⟨w7.heap.size, 1, none⟩ = some (.int .u32 yg.seq) := fun n os => cell_blk ((hbg n os).blk N8.out)
          have y2 : ∀ n os, (grow (w8.drewN n) os).cell? ⟨w7.heap.size, 2, none⟩ = some (.int .u64 yg.stamp) := fun n os => cell_blk ((hbg n os).blk N8.out)
          have y3 : ∀ n os, (grow (w8.drewN n) os).cell? ⟨w7.heap.size, 3, none⟩ = some (.int .i64 yg.svc) := fun n os => cell_blk ((hbg n os).blk N8.out)
          have y4 : ∀ n os, (grow (w8.drewN n) os).cell? ⟨w7.heap.size, 4, none⟩ = some (.slice yg.da yg.dl yg.dc) := fun n os => cell_blk ((hbg n os).blk N8.out)
          have y5 : ∀ n os, (grow (w8.drewN n) os).cell? ⟨w7.heap.size, 5, none⟩ = some (.string yg.pay) := fun n os => cell_blk ((hbg n os).blk N8.out)
          have eo : (ok != ok) = false := by simp
          have ec : (cn != cn) = false := by simp
          clear hw8 hb8 hn8 hp8 hbg hA8 hcn
          refine wp_region_quiet_grown (by assumption) (by kernel_rfl) ?_
          iterate 14 (quiet_step (first | (go_at_call 23; with_reducible exact grown_of_Gr (HSM.out _ _)) | (go_at_call 40; with_reducible exact grown_of_Gr (HCN.out _ _))))
          refine wpQuiet_load_refg (by rfl) (by rfl) GL.out ?_
          simp only [Act.put, List.setIfInBounds_toArray, List.set_cons_zero, List.set_cons_succ]
          repeat (quiet_step (first | (go_at_call 41; with_reducible exact grown_of_Gr (HCR.out _ _))))
          refine wpQuiet_nil ?_
          intro _ hw'
          obtain ⟨⟨nq, osq⟩, hw2⟩ := hw'
          subst hw2
          have hb9 : Bw w8 (grow (w8.drewN nq) osq) := Gr.bw ⟨nq, osq, rfl⟩
          clear a1 x0 x1 x2 x3 x4 x5 y0 y1 y2 y3 y4 y5 eo ec HSM HCN HCR GL HBG
          generalize grow (w8.drewN nq) osq = w9 at hb9 ⊢
          have B9 := Lib.hid (B8.out.trans hb9)
          have hp9 := hP2.out.bw B9.out
          have HP9 := Lib.hid hp9
          have hnk9 := hp9.old.blk HNK.out
          have HFR := Lib.hid (fun (w' : World) (hb : Bw w9 w') => pl_From (HP9.out.bw hb) (HBN2.out.mono (by omega)) p seq most HSQ.out.1)
          have HAB := Lib.hid (fun (w' : World) (hb : Bw w9 w') => pl_Above (HP9.out.bw hb) (HBN2.out.mono (by omega)) s f)
          have KS : Hid (∀ w', Bw w9 w' → w'.cell? ⟨w.heap.size, 0, none⟩ = some (.int .u64 s) ∧ w'.cell? ⟨w.heap.size, 1, none⟩ = some (.int .i64 f)) := (show _ from fun w' hb => ⟨cell_blk (hb.blk hnk9), cell_blk (hb.blk hnk9)⟩)
          clear hb9 hp9 hnk9 N6 N7 N8 RG7 RY B7 B8 BG
          go_upto_region 26 with fail
          go_region_held3 (fun w' => w'.cell? ⟨w.heap.size, 0, none⟩ = some (.int .u64 s) ∧ w'.cell? ⟨w.heap.size, 1, none⟩ = some (.int .i64 f))
            (first
              | exact KS.out _ (Bw.drew _)
              | exact KS.out _ B11.out
              | exact KS.out _ B10.out)
            (first
              | (go_simp; go_at_call 42; refine (HFR.out _ (Bw.drew _)).mono ?_; rintro e w10 ⟨v10, l10, rfl, q1, q2, q3, q4, q5⟩; have O10 := Lib.hid q1; have D10 := Lib.hid q2; have P10 := Lib.hid q3; have Z10 := Lib.hid q4; have B10 := Lib.hid ((Bw.drew w9).trans q5); clear q1 q2 q3 q4 q5; dsimp only)
              | (go_simp; go_at_call 43; refine (HAB.out _ B10.out).mono ?_; rintro e w11 ⟨v11, l11, rfl, q1, q2, q3, q4, q5⟩; have O11 := Lib.hid q1; have D11 := Lib.hid q2; have P11 := Lib.hid q3; have Z11 := Lib.hid q4; have B11 := Lib.hid (B10.out.trans q5); have C11 := Lib.hid q5; clear q1 q2 q3 q4 q5; dsimp only))
          clear HFR HAB
          have hn10 : l10.length ≤ 1000000 := by have := D10.out.1; have := fromH_len HBN2.out p seq most; omega
          have hn11 : l11.length ≤ 1000000 := by have := D11.out.1; have := aboveD_len HBN2.out s f; omega
          have hp11 := HP9.out.bw B11.out
          have HP11 := Lib.hid hp11
          have hr11 := hp11.ref
          have HRF := Lib.hid (pl_rFrom hp11 hK2.out rfl (by have := HLA2.out; omega) p seq most)
          clear hp11
          go_wp2_with (first | refine wpList_load_ref (by rfl) hr11 ?_)
          clear hr11
          refine HRF.out.mono ?_
          rintro e w12 ⟨v12, l12, rfl, q1, q2, q3, q4⟩
          have HA1 := Lib.hid (c_rAll v10 v12 l10 l12 _ _ w12 (O10.out.at.bw (C11.out.trans q4)) (D10.out.bw (C11.out.trans q4)) q1.at q2 hn10 (fun y hy => by have := Z10.out y hy; omega))
          rw [decide_eq_true rfl] at HA1
          have B12 := Lib.hid (B11.out.trans q4)
          have C12 := Lib.hid (C11.out.trans q4)
          have E12 := Lib.hid q4
          clear q1 q2 q3 q4 HRF
          go_wp2_with fail
          refine HA1.out.mono ?_
          rintro e w13 ⟨rfl, hb13⟩
          have B13 := Lib.hid (B12.out.trans hb13)
          have C13 := Lib.hid (C12.out.trans hb13)
          have E13 := Lib.hid (E12.out.trans hb13)
          have hp13 := HP9.out.bw B13.out
          have hr13 := hp13.ref
          obtain ⟨k0, k1⟩ := KS.out _ B13.out
          have hk13 : w.heap.size < w13.heap.size := by have := hp13.old.size; omega
          have HRA := Lib.hid (pl_rAbove hp13 hK2.out rfl (by have := HLA2.out; omega) s f)
          clear hp13 hb13 HA1
          go_wp2_with (first | refine wpList_load_refg (by rfl) (by rfl) hr13 ?_)
          clear hr13 k0 k1
          refine HRA.out.mono ?_
          rintro e w14 ⟨v14, l14, rfl, q1, q2, q3, q4⟩
          have HA2 := Lib.hid (c_rAll v11 v14 l11 l14 _ _ w14 (O11.out.at.bw (E13.out.trans q4)) (D11.out.bw (E13.out.trans q4)) q1.at q2 hn11 (fun y hy => by have := Z11.out y hy; omega))
          rw [decide_eq_true rfl] at HA2
          have B14 := Lib.hid (B13.out.trans q4)
          have C14 := Lib.hid (C13.out.trans q4)
          have E14 := Lib.hid (E13.out.trans q4)
          clear q1 q2 q3 q4 HRA
          go_wp2_with fail
          refine HA2.out.mono ?_
          rintro e w15 ⟨rfl, hb15⟩
          have B15 := Lib.hid (B14.out.trans hb15)
          have C15 := Lib.hid (C14.out.trans hb15)
          have E15 := Lib.hid (E14.out.trans hb15)
          have HSA := Lib.hid (c_spoil (fun k => k < w9.heap.size ∨ w10.heap.size ≤ k) v10 l10 _ w15 (O10.out.bw C15.out) (fun g hg h => by
            have h1 := World.ownsRow.lt O10.out g hg
            have h2 : w9.heap.size ≤ g := h1.1
            omega) (D10.out.bw C15.out) (fun y hy => by
            rcases P10.out y hy with h0 | ⟨b', o', c', e1, e2, e3⟩
            · exact Or.inl h0
            · exact Or.inr ⟨b', o', c', e1, fun h => by have h1 := lt_blk e3; have h2 : w9.heap.size ≤ b' := e2; omega, C15.out.blk e3⟩) hn10 Z10.out)
          clear hb15 HA2
          go_wp2_with fail
          refine HSA.out.mono ?_
          rintro e w16 ⟨rfl, hk16⟩
          have hB16 : Below w9.heap.size w9 w16 := Below.trans B15.out (hk16.below B15.out.size fun k hk => Or.inl hk)
          have hs10 : w9.heap.size ≤ w10.heap.size := B10.out.size
          have HSB := Lib.hid (c_spoil (fun k => k < w9.heap.size) v11 l11 (aboveD R2 s f) w16 (Own6.keep (O11.out.bw E15.out) hk16 fun g hg => Or.inr (World.ownsRow.lt O11.out g hg).1) (fun g hg h => by
            have h1 := (World.ownsRow.lt O11.out g hg).1
            have h2 : g < w9.heap.size := h
            omega) ((D11.out.bw E15.out).keep ((P11.out.mono (P' := fun k => k < w9.heap.size ∨ w10.heap.size ≤ k) fun k hk => Or.inr hk).bw E15.out) hk16) ((DepsAll.keep ((P11.out.mono (P' := fun k => (w10.heap.size ≤ k) ∧ (k < w9.heap.size ∨ w10.heap.size ≤ k)) fun k hk => ⟨hk, Or.inr hk⟩).bw E15.out) (hk16.mono fun k hk => hk.2)).mono fun k hk h => by have h1 := hk.1; have h2 : k < w9.heap.size := h; omega) hn11 Z11.out)
          have B16 := Lib.hid hB16
          clear hB16 hk16 HSA
          go_wp2_with fail
          refine HSB.out.mono ?_
          rintro e w17 ⟨rfl, hk17⟩
          have hB17 : Bw w9 w17 := Below.trans B16.out (hk17.below B16.out.size fun k hk => hk)
          have HPE := Lib.hid (HP9.out.bw hB17)
          clear hB17 hk17 HSB
          go_wp2_with fail
          go_roundw
          case rel => exact ⟨i + 1, low2, R2, va2, la2, LA2, by go_num, by omega, HPE.out, hK2.out, hN2.out⟩
          case measure => first | (simp [intOf]; done) | (simp [intOf]; omega)
      · obtain rfl : i = l.length := by omega
        have hbn : HBnd low R 200 := hK.out.bnd.mono (by have := hN.out; omega)
        have hla : la.length ≤ 200 := by have := hP.out.all.1; have := hN.out; omega
        have HBN := Lib.hid hbn
        have HLA := Lib.hid hla
        have HVC := Lib.hid (pl_Vector hP.out (hbn.mono (by omega)) 5 5 (by decide))
        clear hbn hla
        go_wp2_with fail
        refine HVC.out.mono ?_
        rintro e w5 ⟨v5, us, rfl, q1, q2, q3⟩
        have hus : us.length = 5 := by rw [q2]; simp
        obtain ⟨g5, c5, hv5, _, hg5⟩ := World.ownsRow.form q1 (by rw [hus]; omega)
        subst hv5
        have hcs : ∀ j, j < 5 → w5.cell? ⟨g5, j, none⟩ = some (.int .u32 (cntH low R j)) := fun j hj => by
          have := World.ownsRow.cells q1 rfl j (.int .u32 us[j]!) (by unfold flatU; rw [List.getElem?_map, List.getElem?_eq_getElem (by omega), getElem!_pos us j (by omega)]; rfl)
          rw [add_off, Nat.zero_add] at this
          rw [this, getElem!_pos us j (by omega)]
          simp only [q2, List.getElem_map, List.getElem_range]
        have HCS := Lib.hid hcs
        have B5 := Lib.hid q3
        rw [hus]
        have HP5 := Lib.hid (hP.out.bw q3)
        clear q1 q2 q3 hus hcs HVC
        go_wp2_with fail
        go_loopw [26] (fun vi wx => ∃ j : Nat, vi = .int .i64 j ∧ j ≤ 5 ∧ Hid (Bw w5 wx)) (fun vi _ => 5 - (intOf vi).toNat)
        case atStart => exact ⟨0, rfl, by omega, Bw.refl _⟩
        case round =>
          obtain ⟨j, rfl, hj, hB⟩ := hrel
          by_cases hjt : j < 5
          · have hjz : (j : Int) < 5 := by omega
            have hj64 : (j : Int) < 64 := by omega
            have hjp : InP (j : Int) := ⟨by omega, by omega⟩
            have hp6 := HP5.out.bw hB.out
            have hbg : ∀ n os, Bw wr (grow (wr.drewN n) os) := fun n os => Gr.bw ⟨n, os, rfl⟩
            obtain ⟨cn, hcn⟩ : ∃ cn, cn = cntH low R (j : Int) := ⟨_, rfl⟩
            obtain ⟨lo, hlo⟩ : ∃ lo, lo = low j := ⟨_, rfl⟩
            have HCR : Hid (∀ (k : Nat) (os : Array Obj), Calls Try.prog 41 #[.agg (refCells va low), .int .i64 j] (grow (wr.drewN k) os) fun e w' => e = .returned (.int .u32 cn) ∧ Gr (grow (wr.drewN k) os) w') := fun k os => by
              rw [hcn, hK.out.cnt]; exact pl_rCount (hp6.bw (hbg k os)) (by have := HLA.out; omega) j
            have HLW : Hid (∀ (k : Nat) (os : Array Obj), Calls Try.prog 47 #[.pointer (some ⟨b, 0, none⟩), .int .i64 j] (grow (wr.drewN k) os) fun e w' => e = .returned (.int .u32 lo) ∧ Gr (grow (wr.drewN k) os) w') := fun k os => by
              refine (pl_Low (hp6.bw (hbg k os)) j).mono ?_
              rintro e w' ⟨rfl, rfl⟩
              unfold lowH
              rw [if_pos hjp, Int.toNat_natCast, hlo]
              exact ⟨rfl, Gr.refl _⟩
            have GL : Hid (∀ w', (∃ p : GrownBy, w' = grow (wr.drewN p.n) p.os) → RefBlk w' r va low) := (show _ from by rintro _ ⟨p, rfl⟩; exact (hp6.bw (hbg p.n p.os)).ref)
            have x0 : ∀ n os, (grow (wr.drewN n) os).cell? ⟨g5, j, none⟩ = some (.int .u32 cn) := fun n os => by
              rw [(hB.out.trans (hbg n os)).cell (p := ⟨g5, j, none⟩) hg5, hcn]
              exact HCS.out j hjt
            have x1 : ∀ n os, (grow (wr.drewN n) os).cell? ⟨r, 1 + j, none⟩ = some (.int .u32 lo) := fun n os => by
              rw [cell_blk (hp6.bw (hbg n os)).ref, hlo]
              exact ref_low (by omega)
            have ec : (cn != cn) = false := by simp
            have eo : (lo != lo) = false := by simp
            clear hp6 hbg hcn hlo hjp
            go_upto_region 35 with fail
            refine wp_region_quiet_grown (by assumption) (by kernel_rfl) ?_
            iterate 4 (quiet_step (fail))
            refine wpQuiet_load_refg (by rfl) (by rfl) GL.out ?_
            simp only [Act.put, List.setIfInBounds_toArray, List.set_cons_zero, List.set_cons_succ]
            repeat (quiet_step (first | (go_at_call 41; with_reducible exact grown_of_Gr (HCR.out _ _)) | (go_at_call 47; with_reducible exact grown_of_Gr (HLW.out _ _))))
            refine wpQuiet_nil ?_
            intro _ hw'
            obtain ⟨⟨nq, osq⟩, hw2⟩ := hw'
            subst hw2
            have hbq : Bw wr (grow (wr.drewN nq) osq) := Gr.bw ⟨nq, osq, rfl⟩
            clear x0 x1 ec eo
            generalize grow (wr.drewN nq) osq = w6 at hbq ⊢
            have B6 := Lib.hid hbq
            clear hbq
            go_wp2_with fail
            go_roundw
            case rel => exact ⟨j + 1, by go_num, by omega, hB.out.trans B6.out⟩
            case measure => first | (simp [intOf]; done) | (simp [intOf]; omega)
          · obtain rfl : j = 5 := by omega
            rw [show ((5 : Nat) : Int) = (5 : Int) from rfl]
            have hp6 := HP5.out.bw hB.out
            have HP6 := Lib.hid hp6
            have hnk6 := hp6.old.blk HNK.out
            obtain ⟨m, hm⟩ : ∃ m : Nat, max 0 (min most 64) = (m : Int) := ⟨(max 0 (min most 64)).toNat, by omega⟩
            have HAB := Lib.hid (fun (w' : World) (hb : Bw wr w') => pl_Above (HP6.out.bw hb) (HBN.out.mono (by omega)) s f)
            have HRA := Lib.hid (fun (w' : World) (hb : Bw wr w') => pl_rAbove (HP6.out.bw hb) hK.out rfl (by have := HLA.out; omega) s f)
            have HVC := Lib.hid (fun (w' : World) (hb : Bw wr w') => pl_Vector (HP6.out.bw hb) (HBN.out.mono (by omega)) most m hm)
            have KP : Hid (∀ w', Bw wr w' → w'.cell? ⟨w.heap.size, 0, none⟩ = some (.int .u64 s) ∧ w'.cell? ⟨w.heap.size, 1, none⟩ = some (.int .i64 f) ∧ RefBlk w' r va low) := (show _ from fun w' hb => ⟨cell_blk (hb.blk hnk6), cell_blk (hb.blk hnk6), (HP6.out.bw hb).ref⟩)
            clear hp6 hnk6
            go_upto_region 37 with fail
            refine wp_region_noPanic ?_
            refine wp_region_held_drew (S := (fun w' => w'.cell? ⟨w.heap.size, 0, none⟩ = some (.int .u64 s) ∧ w'.cell? ⟨w.heap.size, 1, none⟩ = some (.int .i64 f) ∧ RefBlk w' r va low)) (by kernel_rfl) (KP.out _ (Bw.drew _)) (fun hHeld => ?_)
            refine wpAnyH_take (i := 0) (oi := _) (v := ?v1) rfl (by kernel_rfl) (by kernel_rfl) (by kernel_rfl) (fun _ _ _ h => h) (Or.inl ⟨by rfl, ?hy1⟩) (by assumption) ?rest1
            case hy1 => intro wS hSw; (try dsimp only at hSw); go_simp; (try with_reducible rfl)
            try simp only [Act.put, List.setIfInBounds_toArray, List.set_cons_zero, List.set_cons_succ]
            refine wpAnyH_take (i := 1) (oi := _) (v := ?v2) rfl (by kernel_rfl) (by kernel_rfl) (by kernel_rfl) (fun _ _ _ h => h) (Or.inl ⟨by rfl, ?hy2⟩) (by assumption) ?rest2
            case hy2 => intro wS hSw; (try dsimp only at hSw); go_simp; (try with_reducible rfl)
            try simp only [Act.put, List.setIfInBounds_toArray, List.set_cons_zero, List.set_cons_succ]
            refine wpAnyH_take (i := 3) (oi := _) (v := .agg (refCells va low)) rfl (by kernel_rfl) (by kernel_rfl) (by kernel_rfl) (fun _ _ _ h => h) (Or.inl ⟨by rfl, ?hy3⟩) (by assumption) ?rest3
            case hy3 => intro wS hSw; exact exec_load_ref (by rfl) hSw.2.2
            try simp only [Act.put, List.setIfInBounds_toArray, List.set_cons_zero, List.set_cons_succ]
            refine wpAnyH_take (i := 4) (oi := _) (v := ?v4) rfl (by kernel_rfl) (by kernel_rfl) (by kernel_rfl) (fun _ _ _ h => h) (Or.inl ⟨by rfl, ?hy4⟩) (by assumption) ?rest4
            case hy4 => intro wS hSw; (try dsimp only at hSw); go_simp; (try with_reducible rfl)
            try simp only [Act.put, List.setIfInBounds_toArray, List.set_cons_zero, List.set_cons_succ]
            refine wpAnyH_ready (rs := [2]) (by kernel_rfl) (by simp) ?_
            refine AllReadyH.cons (o := _) rfl (fun K hK => ?_) ?_
            · (go_simp; go_at_call 43; refine (HAB.out _ (Bw.drew _)).mono ?_; rintro e w7 ⟨v7, l7, rfl, q1, q2, q3, q4, q5⟩; have O7 := Lib.hid q1; have D7 := Lib.hid q2; have Z7 := Lib.hid q4; have B7 := Lib.hid ((Bw.drew wr).trans q5); clear q1 q2 q3 q4 q5; dsimp only)
              refine hK.out _ _ (KP.out _ B7.out) (fun hHeld2 => ?_)
              clear hK K hHeld
              have hHeld := hHeld2
              clear hHeld2
              try simp only [Act.put, List.setIfInBounds_toArray, List.set_cons_zero, List.set_cons_succ]
              refine wpAnyH_ready (rs := [5]) (by kernel_rfl) (by simp) ?_
              refine AllReadyH.cons (o := _) rfl (fun K hK => ?_) ?_
              · (go_simp; go_at_call 45; refine (HRA.out _ B7.out).mono ?_; rintro e w8 ⟨v8, l8, rfl, q1, q2, q3, q4⟩; have HA := Lib.hid (c_rAll v7 v8 l7 l8 _ _ w8 (O7.out.at.bw q4) (D7.out.bw q4) q1.at q2 (by have := D7.out.1; have := aboveD_len HBN.out s f; omega) (fun y hy => by have := Z7.out y hy; omega)); rw [decide_eq_true rfl] at HA; have B8 := Lib.hid (B7.out.trans q4); clear q1 q2 q3 q4; dsimp only)
                refine hK.out _ _ (KP.out _ B8.out) (fun hHeld2 => ?_)
                clear hK K hHeld
                have hHeld := hHeld2
                clear hHeld2
                try simp only [Act.put, List.setIfInBounds_toArray, List.set_cons_zero, List.set_cons_succ]
                refine wpAnyH_ready (rs := [6]) (by kernel_rfl) (by simp) ?_
                refine AllReadyH.cons (o := _) rfl (fun K hK => ?_) ?_
                · (go_simp; go_at_call 15; refine HA.out.mono ?_; rintro e w9 ⟨rfl, q1⟩; have B9 := Lib.hid (B8.out.trans q1); clear q1; dsimp only)
                  refine hK.out _ _ (KP.out _ B9.out) (fun hHeld2 => ?_)
                  clear hK K hHeld
                  have hHeld := hHeld2
                  clear hHeld2
                  try simp only [Act.put, List.setIfInBounds_toArray, List.set_cons_zero, List.set_cons_succ]
                  refine wpAnyH_take (i := 7) (oi := _) (v := ?v5) rfl (by kernel_rfl) (by kernel_rfl) (by kernel_rfl) (fun _ _ _ h => h) (Or.inl ⟨by rfl, ?hy5⟩) (by assumption) ?rest5
                  case hy5 => intro wS hSw; (try dsimp only at hSw); go_simp; (try with_reducible rfl)
                  try simp only [Act.put, List.setIfInBounds_toArray, List.set_cons_zero, List.set_cons_succ]
                  refine wpAnyH_take (i := 8) (oi := _) (v := ?v6) rfl (by kernel_rfl) (by kernel_rfl) (by kernel_rfl) (fun _ _ _ h => h) (Or.inl ⟨by rfl, ?hy6⟩) (by assumption) ?rest6
                  case hy6 => intro wS hSw; (try dsimp only at hSw); go_simp; (try with_reducible rfl)
                  try simp only [Act.put, List.setIfInBounds_toArray, List.set_cons_zero, List.set_cons_succ]
                  refine wpAnyH_take (i := 9) (oi := _) (v := ?v7) rfl (by kernel_rfl) (by kernel_rfl) (by kernel_rfl) (fun _ _ _ h => h) (Or.inl ⟨by rfl, ?hy7⟩) (by assumption) ?rest7
                  case hy7 => intro wS hSw; (try dsimp only at hSw); go_simp; (try with_reducible rfl)
                  try simp only [Act.put, List.setIfInBounds_toArray, List.set_cons_zero, List.set_cons_succ]
                  refine wpAnyH_take (i := 12) (oi := _) (v := ?v8) rfl (by kernel_rfl) (by kernel_rfl) (by kernel_rfl) (fun _ _ _ h => h) (Or.inl ⟨by rfl, ?hy8⟩) (by assumption) ?rest8
                  case hy8 => intro wS hSw; (try dsimp only at hSw); go_simp; (try with_reducible rfl)
                  try simp only [Act.put, List.setIfInBounds_toArray, List.set_cons_zero, List.set_cons_succ]
                  refine wpAnyH_take (i := 13) (oi := _) (v := ?v9) rfl (by kernel_rfl) (by kernel_rfl) (by kernel_rfl) (fun _ _ _ h => h) (Or.inl ⟨by rfl, ?hy9⟩) (by assumption) ?rest9
                  case hy9 => intro wS hSw; (try dsimp only at hSw); go_simp; (try with_reducible rfl)
                  try simp only [Act.put, List.setIfInBounds_toArray, List.set_cons_zero, List.set_cons_succ]
                  refine wpAnyH_take (i := 14) (oi := _) (v := ?v10) rfl (by kernel_rfl) (by kernel_rfl) (by kernel_rfl) (fun _ _ _ h => h) (Or.inl ⟨by rfl, ?hy10⟩) (by assumption) ?rest10
                  case hy10 => intro wS hSw; (try dsimp only at hSw); go_simp; (try with_reducible rfl)
                  try simp only [Act.put, List.setIfInBounds_toArray, List.set_cons_zero, List.set_cons_succ]
                  refine wpAnyH_ready (rs := [10]) (by kernel_rfl) (by simp) ?_
                  refine AllReadyH.cons (o := _) rfl (fun K hK => ?_) ?_
                  · (go_simp; go_at_call 46; refine (HVC.out _ B9.out).mono ?_; rintro e w10 ⟨v10, us2, rfl, q1, q2, q3⟩; obtain ⟨a10, c10, rfl⟩ := q1.form; have hl10 : us2.length = m := (by rw [q2]; simp); rw [hl10]; have B10 := Lib.hid (B9.out.trans q3); clear q1 q2 q3 hl10; dsimp only)
                    refine hK.out _ _ (KP.out _ B10.out) (fun hHeld2 => ?_)
                    clear hK K hHeld
                    have hHeld := hHeld2
                    clear hHeld2
                    try simp only [Act.put, List.setIfInBounds_toArray, List.set_cons_zero, List.set_cons_succ]
                    refine wpAnyH_take (i := 11) (oi := _) (v := ?v11) rfl (by kernel_rfl) (by kernel_rfl) (by kernel_rfl) (fun _ _ _ h => h) (Or.inl ⟨by rfl, ?hy11⟩) (by assumption) ?rest11
                    case hy11 => intro wS hSw; (try dsimp only at hSw); go_simp; (try with_reducible rfl)
                    try simp only [Act.put, List.setIfInBounds_toArray, List.set_cons_zero, List.set_cons_succ]
                    refine wpAnyH_take (i := 15) (oi := _) (v := ?v12) rfl (by kernel_rfl) (by kernel_rfl) (by kernel_rfl) (fun _ _ _ h => h) (Or.inl ⟨by rfl, ?hy12⟩) (by assumption) ?rest12
                    case hy12 => intro wS hSw; (try dsimp only at hSw); go_simp; (try with_reducible rfl)
                    try simp only [Act.put, List.setIfInBounds_toArray, List.set_cons_zero, List.set_cons_succ]
                    refine wpAnyH_take (i := 16) (oi := _) (v := ?v13) rfl (by kernel_rfl) (by kernel_rfl) (by kernel_rfl) (fun _ _ _ h => h) (Or.inl ⟨by rfl, ?hy13⟩) (by assumption) ?rest13
                    case hy13 => intro wS hSw; (try dsimp only at hSw); go_simp; (try with_reducible rfl)
                    simp only [Act.put, List.getElem_toArray, List.getElem_cons_succ, List.getElem_cons_zero, List.setIfInBounds_toArray, List.set_cons_zero, List.set_cons_succ]
                    refine wpAnyH_take (i := 17) (oi := _) (v := ?v14) rfl (by kernel_rfl) (by kernel_rfl) (by kernel_rfl) (fun _ _ _ h => h) (Or.inl ⟨by rfl, ?hy14⟩) (by assumption) ?rest14
                    case hy14 => intro wS hSw; (try dsimp only at hSw); go_simp; (try with_reducible rfl)
                    simp only [Act.put, List.getElem_toArray, List.getElem_cons_succ, List.getElem_cons_zero, List.setIfInBounds_toArray, List.set_cons_zero, List.set_cons_succ]
                    refine wpAnyH_done (by kernel_rfl) ?_ _
                    refine NoPanic.normal ?_
                    go_wp2
                    go_ret
                    exact ⟨rfl, HBK.out.trans (hP.out.old.trans (B5.out.trans (hB.out.trans B10.out)))⟩
                  exact AllReadyH.nil
                exact AllReadyH.nil
              exact AllReadyH.nil
            exact AllReadyH.nil
end Go.Proofs.Ytllmiaonlofeeaa
