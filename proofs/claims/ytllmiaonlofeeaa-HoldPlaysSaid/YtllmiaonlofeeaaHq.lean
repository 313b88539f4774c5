/-
  One act done; acts as they are handed in. No conditions beyond what each theorem states.
-/
import Derived.Test.YtllmiaonlofeeaaHp
namespace Go.Proofs.Ytllmiaonlofeeaa
open Go.RowKit Go.Sort Go.ChangeShapes Go.WideShapes Go.Deep

def encA (x : ActM) : List Value := [.bool x.drop, .int .i64 x.p, .int .u32 x.upto, .int .i64 x.m.frm, .int .u32 x.m.seq, .int .u64 x.m.stamp, .int .i64 x.m.svc, .slice x.m.da x.m.dl x.m.dc, .string x.m.pay]
theorem U32.bw {w w' : World} {k : Nat} (h : U32 w k) (b : Bw w w') : U32 w' k := by obtain ⟨c, hc⟩ := h; exact ⟨c, b.blk hc⟩

set_option maxRecDepth 100000 in
set_option maxHeartbeats 2000000 in
theorem c_do {P : Nat → Prop} {w : World} {b : Nat} {low : Nat → Int} {R : Nat → List DM} (h : HF P w b low R) (hB : HBnd low R 999999) (x : ActM) (X : ActD) (hx : ReadsA w x X) (hd : x.m.dl ≤ 1000000) (hok : ADok X) :
    Calls Try.prog 50 #[.pointer (some ⟨b, 0, none⟩), .agg #[.bool x.drop, .int .i64 x.p, .int .u32 x.upto, .int .i64 x.m.frm, .int .u32 x.m.seq, .int .u64 x.m.stamp, .int .i64 x.m.svc, .slice x.m.da x.m.dl x.m.dc, .string x.m.pay]] w fun e w' =>
      e = .returned (.tuple #[]) ∧ HF P w' b (actLow low R X) (actR low R X) ∧ Keep (fun k => P k ∨ U32 w k) w w' := by
  obtain ⟨wb, hwb⟩ : ∃ wb, wb = w.alloc (.cells #[.bool x.drop, .int .i64 x.p, .int .u32 x.upto, .int .i64 x.m.frm, .int .u32 x.m.seq, .int .u64 x.m.stamp, .int .i64 x.m.svc, .slice x.m.da x.m.dl x.m.dc, .string x.m.pay] 61) := ⟨_, rfl⟩
  have hbb : Bw w wb := hwb ▸ Bw.alloc _ _
  have hnb : wb.heap[w.heap.size]? = some (.cells #[.bool x.drop, .int .i64 x.p, .int .u32 x.upto, .int .i64 x.m.frm, .int .u32 x.m.seq, .int .u64 x.m.stamp, .int .i64 x.m.svc, .slice x.m.da x.m.dl x.m.dc, .string x.m.pay] 61 (0, 0)) := hwb ▸ heap_alloc_new _ _
  have HW := Lib.hid hwb
  have HA := Lib.hid (h.bw hbb)
  have HX := Lib.hid (hx.bw hbb)
  have HBB := Lib.hid hbb
  have HOK := Lib.hid hok
  have HHB := Lib.hid hB
  have y0 : wb.cell? ⟨w.heap.size, 0, none⟩ = some (.bool x.drop) := cell_blk hnb
  have y1 : wb.cell? ⟨w.heap.size, 1, none⟩ = some (.int .i64 x.p) := cell_blk hnb
  have y2 : wb.cell? ⟨w.heap.size, 2, none⟩ = some (.int .u32 x.upto) := cell_blk hnb
  have y3 : wb.cell? ⟨w.heap.size, 3, none⟩ = some (.int .i64 x.m.frm) := cell_blk hnb
  have y4 : wb.cell? ⟨w.heap.size, 4, none⟩ = some (.int .u32 x.m.seq) := cell_blk hnb
  have y5 : wb.cell? ⟨w.heap.size, 5, none⟩ = some (.int .u64 x.m.stamp) := cell_blk hnb
  have y6 : wb.cell? ⟨w.heap.size, 6, none⟩ = some (.int .i64 x.m.svc) := cell_blk hnb
  have y7 : wb.cell? ⟨w.heap.size, 7, none⟩ = some (.slice x.m.da x.m.dl x.m.dc) := cell_blk hnb
  have y8 : wb.cell? ⟨w.heap.size, 8, none⟩ = some (.string x.m.pay) := cell_blk hnb
  have hzb : w.heap.size < wb.heap.size := lt_blk hnb
  clear h hx hwb hbb hnb hok hB
  cases hdr : x.drop with
  | true =>
    have hXd : X.drop = true := by rw [← HX.out.drop, hdr]
    have HXD := Lib.hid hXd
    rw [hdr] at y0 HW
    clear hXd hdr
    go_enter Try.func50, Try.ntmps50
    go_upto_region 1 with fail
    rw [← HW.out]
    go_wp2_with fail
    rw [HX.out.p, HX.out.upto]
    refine (hf_Drop2 HA.out (HHB.out.mono (by omega)) X.p X.upto HOK.out.upto.1).mono ?_
    rintro e w' ⟨rfl, h1, h2⟩
    have H1 := Lib.hid h1
    have H2 := Lib.hid h2
    clear h1 h2
    go_wp2_with fail
    go_end0
    refine ⟨rfl, ?_, ?_⟩
    · unfold actLow actR
      rw [if_pos HXD.out, if_pos HXD.out]
      exact H1.out
    · exact (HBB.out.keep _).trans (H2.out.mono fun k hk => hk.imp id fun e => e.bw HBB.out)
  | false =>
    have hXd : ¬ X.drop = true := by rw [← HX.out.drop, hdr]; decide
    have HXD := Lib.hid hXd
    rw [hdr] at y0 HW
    clear hXd hdr
    go_enter Try.func50, Try.ntmps50
    go_upto_region 1 with fail
    rw [← HW.out]
    go_wp2_with fail
    refine (hf_Put2 HA.out HHB.out x.m X.D HX.out.m hd HOK.out.D.seq).mono ?_
    rintro e w' ⟨rfl, h1, h2⟩
    have H1 := Lib.hid h1
    have H2 := Lib.hid h2
    clear h1 h2
    go_wp2_with fail
    go_end0
    refine ⟨rfl, ?_, ?_⟩
    · unfold actLow actR
      rw [if_neg HXD.out, if_neg HXD.out]
      exact H1.out
    · exact (HBB.out.keep _).trans (H2.out.mono fun k hk => hk.imp id fun e => e.bw HBB.out)

/-! ### Acts, read -/
section
variable {H : Type} {enc : TypeId × Value → H} {W : World} {base : Nat} {held : Bool}
set_option maxRecDepth 100000 in
theorem read_msgV {fuel : Nat} {cs : List Value} {y : DataW H × List MemPlace} (hlen : cs.length = 6) (h : DataW.trod enc Try.prog W base (fun _ => true) held fuel 43 cs = some y) :
    ∃ X : Msg × DM, cs = encM X.1 ∧ Reads W X.1 X.2 ∧ DMok X.2 ∧ X.1.dl ≤ 9223372036854775807 ∧ X.1.pay.size ≤ 9223372036854775807 := by
  obtain ⟨xs, n, _, _, _, hxl, hf⟩ := DataW.trod_struct Try.underlying43 h
  match xs, hxl, cs, hlen with
  | [y0, y1, y2, y3, y4, y5], _, [v0, v1, v2, v3, v4, v5], _ =>
    have k0 : Try.prog.cellsOf 3 = 1 := by kernel_rfl
    have k1 : Try.prog.cellsOf 40 = 1 := by kernel_rfl
    have k2 : Try.prog.cellsOf 27 = 1 := by kernel_rfl
    have k4 : Try.prog.cellsOf 41 = 1 := by kernel_rfl
    have k5 : Try.prog.cellsOf 9 = 1 := by kernel_rfl
    have g0 := hf 0 _ rfl
    have g1 := hf 1 _ rfl
    have g2 := hf 2 _ rfl
    have g3 := hf 3 _ rfl
    have g4 := hf 4 _ rfl
    have g5 := hf 5 _ rfl
    simp only [List.getElem_toArray, List.getElem_cons_zero, List.getElem_cons_succ, k0, k1, k2, k4, k5, List.drop_zero, List.drop_succ_cons, List.take_succ_cons, List.take_zero, List.getElem?_cons_zero, List.getElem?_cons_succ] at g0 g1 g2 g3 g4 g5
    obtain ⟨n0, e0, _, w0⟩ := DataW.trod_int Try.underlying3 g0
    obtain ⟨n1, e1, _, w1⟩ := DataW.trod_int Try.underlying40 g1
    obtain ⟨n2, e2, _, w2⟩ := DataW.trod_int Try.underlying27 g2
    obtain ⟨n3, e3, _, w3⟩ := DataW.trod_int Try.underlying3 g3
    obtain ⟨a, n4, c4, ds, rfl, hn4, hds, wds⟩ := read_deps g4
    obtain ⟨p, e5, _, hp⟩ := DataW.trod_string Try.underlying9 g5
    simp only [List.cons.injEq, and_true] at e0
    simp only [List.cons.injEq, and_true] at e1
    simp only [List.cons.injEq, and_true] at e2
    simp only [List.cons.injEq, and_true] at e3
    simp only [List.cons.injEq, and_true] at e5
    subst e0; subst e1; subst e2; subst e3; subst e5
    exact ⟨⟨⟨n0, n1, n2, n3, a, n4, c4, p⟩, ⟨n0, n1, n2, n3, ds, p⟩⟩, rfl, ⟨rfl, rfl, rfl, rfl, hds, rfl⟩, ⟨range_i64 w0, range_u32 w1, range_u64 w2, range_i64 w3, wds⟩, hn4, hp⟩
def ActRead (W : World) (q : Addr) (x : ActM) (X : ActD) : Prop :=
  (∀ c u, (encA x)[c]? = some u → W.cell? (q.add c) = some u) ∧ ReadsA W x X ∧ ADok X ∧ x.m.dl ≤ 9223372036854775807 ∧ x.m.pay.size ≤ 9223372036854775807
set_option maxRecDepth 100000 in
theorem read_act {fuel : Nat} {cs : List Value} {y : DataW H × List MemPlace} {q : Addr} (hc : W.cells? base q 9 = some cs) (h : DataW.trod enc Try.prog W base (fun _ => true) held fuel 61 cs = some y) :
    ∃ X : ActM × ActD, ActRead W q X.1 X.2 := by
  obtain ⟨_, hlen, hcell⟩ := World.cells?_some hc
  obtain ⟨xs, n, _, _, _, hxl, hf⟩ := DataW.trod_struct Try.underlying61 h
  match xs, hxl, cs, hlen with
  | [y0, y1, y2, y3], _, [v0, v1, v2, v3, v4, v5, v6, v7, v8], _ =>
    have k0 : Try.prog.cellsOf 4 = 1 := by kernel_rfl
    have k1 : Try.prog.cellsOf 3 = 1 := by kernel_rfl
    have k2 : Try.prog.cellsOf 40 = 1 := by kernel_rfl
    have k3 : Try.prog.cellsOf 43 = 6 := by kernel_rfl
    have g0 := hf 0 _ rfl
    have g1 := hf 1 _ rfl
    have g2 := hf 2 _ rfl
    have g3 := hf 3 _ rfl
    simp only [List.getElem_toArray, List.getElem_cons_zero, List.getElem_cons_succ, k0, k1, k2, k3, List.drop_zero, List.drop_succ_cons, List.take_succ_cons, List.take_zero, List.getElem?_cons_zero, List.getElem?_cons_succ] at g0 g1 g2 g3
    obtain ⟨d, e0, _⟩ := DataW.trod_bool Try.underlying4 g0
    obtain ⟨n1, e1, _, w1⟩ := DataW.trod_int Try.underlying3 g1
    obtain ⟨n2, e2, _, w2⟩ := DataW.trod_int Try.underlying40 g2
    obtain ⟨X, eX, rX, oX, bX, pX⟩ := read_msgV rfl g3
    simp only [List.cons.injEq, and_true] at e0
    simp only [List.cons.injEq, and_true] at e1
    simp only [List.cons.injEq, and_true] at e2
    subst e0; subst e1; subst e2
    refine ⟨⟨⟨d, n1, n2, X.1⟩, ⟨d, n1, n2, X.2⟩⟩, ?_, ⟨rfl, rfl, rfl, rX⟩, ⟨range_i64 w1, range_u32 w2, oX⟩, bX, pX⟩
    intro c u hu
    have hc9 : c < 9 := (List.getElem?_eq_some_iff.1 hu).1
    rw [hcell c hc9]
    have e9 : encA ⟨d, n1, n2, X.1⟩ = [.bool d, .int .i64 n1, .int .u32 n2] ++ encM X.1 := rfl
    rw [e9, ← eX] at hu
    exact hu
theorem read_acts {fuel : Nat} {v : Value} {y : DataW H × List MemPlace} (h : DataW.trod enc Try.prog W base (fun _ => true) held fuel 53 [v] = some y) :
    ∃ l L, AAt W v l ∧ AL W l L ∧ (∀ X ∈ L, ADok X) ∧ (∀ x ∈ l, x.m.dl ≤ 9223372036854775807 ∧ x.m.pay.size ≤ 9223372036854775807) ∧ (y.1 = .nil ∧ l = [] ∨ ∃ es sp, y.1 = .slice es sp ∧ es.length = l.length) := by
  rcases open_slice Try.underlying53 h with ⟨hcs, hy⟩ | ⟨a, l, c, m, n, D, Pl, hcs, _, hl, hm, hmm, hy, hcell⟩
  · simp only [List.cons.injEq, and_true] at hcs
    exact ⟨[], [], Or.inl ⟨hcs, rfl⟩, ⟨rfl, by simp⟩, by simp, by simp, Or.inl ⟨by rw [hy], rfl⟩⟩
  · simp only [List.cons.injEq, and_true] at hcs
    simp only [if_true] at hmm
    have k9 : Try.prog.cellsOf 61 = 9 := by kernel_rfl
    rw [k9] at hcell
    obtain ⟨X, hX⟩ := choose_lt (α := ActM × ActD) (n := l) (p := fun i x => ActRead W (a.add (i * 9)) x.1 x.2) (fun i hi => by
      obtain ⟨cs', h1, h2⟩ := hcell i (by omega)
      exact read_act h1 h2)
    have gl : ∀ i, i < l → ((List.range l).map fun i => (X i).1)[i]! = (X i).1 := fun i hi => by
      rw [getElem!_pos _ i (by simpa using hi)]; simp
    have gL : ∀ i, i < l → ((List.range l).map fun i => (X i).2)[i]! = (X i).2 := fun i hi => by
      rw [getElem!_pos _ i (by simpa using hi)]; simp
    refine ⟨(List.range l).map fun i => (X i).1, (List.range l).map fun i => (X i).2, ?_, ⟨by simp, fun i hi => ?_⟩, ?_, ?_, Or.inr ⟨_, _, by rw [hy], by simp⟩⟩
    · by_cases h0 : l = 0
      · subst h0
        exact Or.inr (Or.inl ⟨a, c, hcs, rfl⟩)
      · have h1 := (hX 0 (by omega)).1 0 _ rfl
        rw [show (a.add (0 * 9)).add 0 = a by simp [Addr.add]] at h1
        obtain ⟨ha, hb⟩ := spot_none h1
        refine Or.inr (Or.inr ⟨a.block, a.off, c, by rw [← ha]; simpa using hcs, hb, fun i hi => ?_⟩)
        have hi' : i < l := by simpa using hi
        rw [gl i hi']
        have h2 := (hX i hi').1
        rw [ha, add_off] at h2
        have g : ∀ c u, (encA (X i).1)[c]? = some u → W.cell? ⟨a.block, a.off + i * 9 + c, none⟩ = some u := fun c u hu => by have := h2 c u hu; rwa [add_off] at this
        exact ⟨g 0 _ rfl, g 1 _ rfl, g 2 _ rfl, g 3 _ rfl, g 4 _ rfl, g 5 _ rfl, g 6 _ rfl, g 7 _ rfl, g 8 _ rfl⟩
    · have hi' : i < l := by simpa using hi
      rw [gl i hi', gL i hi']
      exact (hX i hi').2.1
    · intro D hD
      obtain ⟨i, hi, rfl⟩ := List.mem_map.1 hD
      exact (hX i (List.mem_range.1 hi)).2.2.1
    · intro x hx
      obtain ⟨i, hi, rfl⟩ := List.mem_map.1 hx
      exact (hX i (List.mem_range.1 hi)).2.2.2
end
end Go.Proofs.Ytllmiaonlofeeaa
