/-
  How what is handed in reads: messages, keys, configurations, numbers. No conditions beyond what each theorem states.
-/
import Derived.Test.YtllmiaonlofeeaaKq
import Derived.Deep.SlicePairs
import Derived.ChangeSlices
import Derived.SizedLaws
import Derived.Lib.SmallJoins
import Derived.DataShut
namespace Go.Proofs.Ytllmiaonlofeeaa
open Go.RowKit Go.Sort Go.ChangeShapes Go.WideShapes Go.Deep

/-- The numbers of a message lie in their ranges. -/
structure DMok (D : DM) : Prop where
  frm : -9223372036854775808 ≤ D.frm ∧ D.frm ≤ 9223372036854775807
  seq : 0 ≤ D.seq ∧ D.seq ≤ 4294967295
  stamp : 0 ≤ D.stamp ∧ D.stamp ≤ 18446744073709551615
  svc : -9223372036854775808 ≤ D.svc ∧ D.svc ≤ 9223372036854775807
  deps : ∀ d ∈ D.deps, 0 ≤ d ∧ d ≤ 4294967295

section
variable {H : Type} {enc : TypeId × Value → H} {W : World} {base : Nat} {held : Bool}

theorem range_u32 {n : Int} (h : (Lit.int .u32 n).wf = true) : 0 ≤ n ∧ n ≤ 4294967295 := (Lit.wf_int_iff .u32 n).1 h
theorem range_u64 {n : Int} (h : (Lit.int .u64 n).wf = true) : 0 ≤ n ∧ n ≤ 18446744073709551615 := (Lit.wf_int_iff .u64 n).1 h
theorem range_i64 {n : Int} (h : (Lit.int .i64 n).wf = true) : -9223372036854775808 ≤ n ∧ n ≤ 9223372036854775807 := (Lit.wf_int_iff .i64 n).1 h

theorem spot_none {w : World} {a : Addr} {v : Value} (h : w.cell? a = some v) : a = ⟨a.block, a.off, none⟩ ∧ a.block < w.heap.size := by
  obtain ⟨b, o, s⟩ := a
  unfold World.cell? at h
  cases hb : w.heap[b]? with
  | none => rw [hb] at h; cases h
  | some ob =>
    have hlt : b < w.heap.size := (Array.getElem?_eq_some_iff.1 hb).1
    rw [hb] at h
    cases ob with
    | cells c e f =>
      cases s with
      | some _ => simp at h
      | none => exact ⟨rfl, hlt⟩
    | _ => cases h

theorem read_deps {fuel : Nat} {v : Value} {y : DataW H × List MemPlace} (h : DataW.trod enc Try.prog W base (fun _ => true) held fuel 41 [v] = some y) :
    ∃ a n c ds, v = .slice a n c ∧ n ≤ 9223372036854775807 ∧ DepsAt W a n ds ∧ ∀ d ∈ ds, 0 ≤ d ∧ d ≤ 4294967295 := by
  rcases open_ints Try.underlying41 Try.underlying40 (by kernel_rfl) h with ⟨hcs, _⟩ | ⟨a, l, c, zs, hcs, _, hl, hm, hz, _, hcell, hwz⟩
  · simp only [List.cons.injEq, and_true] at hcs
    exact ⟨none, 0, 0, [], hcs, by omega, ⟨rfl, Or.inl rfl⟩, by simp⟩
  · simp only [List.cons.injEq, and_true] at hcs
    simp only [if_true] at hz
    refine ⟨some a, l, c, zs.take l, hcs, by unfold maxLen at hm; omega, ⟨by rw [List.length_take]; omega, ?_⟩, fun d hd => range_u32 (hwz d (List.mem_of_mem_take hd))⟩
    by_cases h0 : l = 0
    · left; rw [h0]; rfl
    · have h1 := hcell 0 (by omega)
      rw [show a.add 0 = a by simp [Addr.add]] at h1
      obtain ⟨ha, hb⟩ := spot_none h1
      right
      refine ⟨a.block, a.off, by rw [← ha], hb, fun i hi => ?_⟩
      have := hcell i (by omega)
      rw [ha, add_off] at this
      rw [this]
      have e1 : zs.getD i 0 = (zs.take l)[i]! := by
        rw [getElem!_pos _ i (by rw [List.length_take]; omega), List.getElem_take]
        simp [List.getD, List.getElem?_eq_getElem (show i < zs.length by omega)]
      rw [e1]

/-- A message, read: its cells, what it holds. -/
def MsgRead (W : World) (q : Addr) (x : Msg) (D : DM) : Prop :=
  (∀ c u, (encM x)[c]? = some u → W.cell? (q.add c) = some u) ∧ Reads W x D ∧ DMok D ∧ x.dl ≤ 9223372036854775807 ∧ x.pay.size ≤ 9223372036854775807

set_option maxRecDepth 100000 in
theorem read_msg {fuel : Nat} {cs : List Value} {y : DataW H × List MemPlace} {q : Addr} (hc : W.cells? base q 6 = some cs) (h : DataW.trod enc Try.prog W base (fun _ => true) held fuel 43 cs = some y) :
    ∃ X : Msg × DM, MsgRead W q X.1 X.2 := by
  obtain ⟨_, hlen, hcell⟩ := World.cells?_some hc
  obtain ⟨xs, n, _, _, _, hxl, hf⟩ := DataW.trod_struct Try.underlying43 h
  match xs, hxl, cs, hlen with
  | [y0, y1, y2, y3, y4, y5], _, [v0, v1, v2, v3, v4, v5], _ =>
    have k0 : Try.prog.cellsOf 3 = 1 := by kernel_rfl
    have k1 : Try.prog.cellsOf 40 = 1 := by kernel_rfl
    have k2 : Try.prog.cellsOf 27 = 1 := by kernel_rfl
    have k4 : Try.prog.cellsOf 41 = 1 := by kernel_rfl
    have k5 : Try.prog.cellsOf 9 = 1 := by kernel_rfl
    have g0 := hf 0 _ rfl
    have g1 := hf 1 _ rfl
    have g2 := hf 2 _ rfl
    have g3 := hf 3 _ rfl
    have g4 := hf 4 _ rfl
    have g5 := hf 5 _ rfl
    simp only [List.getElem_toArray, List.getElem_cons_zero, List.getElem_cons_succ, k0, k1, k2, k4, k5, List.drop_zero, List.drop_succ_cons, List.take_succ_cons, List.take_zero, List.getElem?_cons_zero, List.getElem?_cons_succ] at g0 g1 g2 g3 g4 g5
    obtain ⟨n0, e0, _, w0⟩ := DataW.trod_int Try.underlying3 g0
    obtain ⟨n1, e1, _, w1⟩ := DataW.trod_int Try.underlying40 g1
    obtain ⟨n2, e2, _, w2⟩ := DataW.trod_int Try.underlying27 g2
    obtain ⟨n3, e3, _, w3⟩ := DataW.trod_int Try.underlying3 g3
    obtain ⟨a, n4, c4, ds, rfl, hn4, hds, wds⟩ := read_deps g4
    obtain ⟨p, e5, _, hp⟩ := DataW.trod_string Try.underlying9 g5
    simp only [List.cons.injEq, and_true] at e0
    simp only [List.cons.injEq, and_true] at e1
    simp only [List.cons.injEq, and_true] at e2
    simp only [List.cons.injEq, and_true] at e3
    simp only [List.cons.injEq, and_true] at e5
    subst e0; subst e1; subst e2; subst e3; subst e5
    refine ⟨⟨⟨n0, n1, n2, n3, a, n4, c4, p⟩, ⟨n0, n1, n2, n3, ds, p⟩⟩, ?_, ⟨rfl, rfl, rfl, rfl, hds, rfl⟩, ⟨range_i64 w0, range_u32 w1, range_u64 w2, range_i64 w3, wds⟩, hn4, hp⟩
    intro c u hu
    have hc6 : c < 6 := (List.getElem?_eq_some_iff.1 hu).1
    rw [hcell c hc6]
    exact hu

/-- A slice of messages, read. -/
theorem read_msgs {fuel : Nat} {v : Value} {y : DataW H × List MemPlace} (h : DataW.trod enc Try.prog W base (fun _ => true) held fuel 22 [v] = some y) :
    ∃ l L, MAt W v l ∧ DL W l L ∧ (∀ D ∈ L, DMok D) ∧ (∀ x ∈ l, x.dl ≤ 9223372036854775807 ∧ x.pay.size ≤ 9223372036854775807) ∧ (y.1 = .nil ∧ l = [] ∨ ∃ es sp, y.1 = .slice es sp ∧ es.length = l.length) := by
  rcases open_slice Try.underlying22 h with ⟨hcs, hy⟩ | ⟨a, l, c, m, n, D, Pl, hcs, _, hl, hm, hmm, hy, hcell⟩
  · simp only [List.cons.injEq, and_true] at hcs
    exact ⟨[], [], Or.inl ⟨hcs, rfl⟩, ⟨rfl, by simp⟩, by simp, by simp, Or.inl ⟨by rw [hy], rfl⟩⟩
  · simp only [List.cons.injEq, and_true] at hcs
    simp only [if_true] at hmm
    have k6 : Try.prog.cellsOf 43 = 6 := by kernel_rfl
    rw [k6] at hcell
    obtain ⟨X, hX⟩ := choose_lt (α := Msg × DM) (n := l) (p := fun i x => MsgRead W (a.add (i * 6)) x.1 x.2) (fun i hi => by
      obtain ⟨cs', h1, h2⟩ := hcell i (by omega)
      exact read_msg h1 h2)
    have gl : ∀ i, i < l → ((List.range l).map fun i => (X i).1)[i]! = (X i).1 := fun i hi => by
      rw [getElem!_pos _ i (by simpa using hi)]; simp
    have gL : ∀ i, i < l → ((List.range l).map fun i => (X i).2)[i]! = (X i).2 := fun i hi => by
      rw [getElem!_pos _ i (by simpa using hi)]; simp
    refine ⟨(List.range l).map fun i => (X i).1, (List.range l).map fun i => (X i).2, ?_, ⟨by simp, fun i hi => ?_⟩, ?_, ?_, Or.inr ⟨_, _, by rw [hy], by simp⟩⟩
    · by_cases h0 : l = 0
      · subst h0
        exact Or.inr (Or.inl ⟨a, c, hcs, rfl⟩)
      · have h1 := (hX 0 (by omega)).1 0 _ rfl
        rw [show (a.add (0 * 6)).add 0 = a by simp [Addr.add]] at h1
        obtain ⟨ha, hb⟩ := spot_none h1
        refine Or.inr (Or.inr ⟨a.block, a.off, c, by rw [← ha]; simpa using hcs, hb, fun j u hu => ?_⟩)
        have hj : j < l * 6 := by
          have := (List.getElem?_eq_some_iff.1 hu).1
          rw [flatM_length] at this; simpa using this
        have hji : j / 6 < l := by omega
        have h2 := (hX (j / 6) hji).1 (j % 6) u (by
          have := flatM_get (l := (List.range l).map fun i => (X i).1) (i := j / 6) (c := j % 6) (by simpa using hji) (Nat.mod_lt _ (by omega))
          rw [show j / 6 * 6 + j % 6 = j by omega, gl _ hji] at this
          rw [← this]; exact hu)
        rw [ha, add_off, add_off, Nat.add_assoc, show j / 6 * 6 + j % 6 = j by omega] at h2
        exact h2
    · have hi' : i < l := by simpa using hi
      rw [gl i hi', gL i hi']
      exact (hX i hi').2.1
    · intro D hD
      obtain ⟨i, hi, rfl⟩ := List.mem_map.1 hD
      exact (hX i (List.mem_range.1 hi)).2.2.1
    · intro x hx
      obtain ⟨i, hi, rfl⟩ := List.mem_map.1 hx
      exact (hX i (List.mem_range.1 hi)).2.2.2

theorem pairs_of {n : Nat} (V0 V1 : Nat → Int) : ((List.range n).map fun i => (V0 i, V1 i)).length = n ∧ ∀ i, i < n → ((List.range n).map fun i => (V0 i, V1 i))[i]! = (V0 i, V1 i) := by
  refine ⟨by simp, fun i hi => ?_⟩
  rw [getElem!_pos _ i (by simpa using hi)]; simp

/-- A slice of two-number structs, read. -/
theorem read_pairs {t e : TypeId} {f0 f1 : Field} {fuel : Nat} {v : Value} {y : DataW H × List MemPlace} (ht : Try.prog.underlying t = some (.slice e)) (he : Try.prog.underlying e = some (.struct #[f0, f1]))
    (ce : Try.prog.cellsOf e = 2) (o0 : f0.offset = 0) (o1 : f1.offset = 1) (u0 : f0.type = 27) (u1 : f1.type = 3)
    (h : DataW.trod enc Try.prog W base (fun _ => true) held fuel t [v] = some y) :
    ∃ l, PAt W v l ∧ (∀ p ∈ l, (0 ≤ p.1 ∧ p.1 ≤ 18446744073709551615) ∧ (-9223372036854775808 ≤ p.2 ∧ p.2 ≤ 9223372036854775807)) ∧ l.length ≤ 9223372036854775807 := by
  have k0 : Try.prog.cellsOf 3 = 1 := by kernel_rfl
  have k2 : Try.prog.cellsOf 27 = 1 := by kernel_rfl
  rcases open_slice_pairs ht he ce o0 o1 (by rw [u0]; exact k2) (by rw [u1]; exact k0) h with ⟨hcs, hy⟩ | ⟨a, l, c, m, n, V0, V1, D0, D1, P0, P1, hcs, _, hl, hm, hmm, hy, hcell⟩
  · simp only [List.cons.injEq, and_true] at hcs
    exact ⟨[], Or.inl ⟨none, 0, hcs, rfl⟩, by simp, by simp⟩
  · simp only [List.cons.injEq, and_true] at hcs
    simp only [if_true] at hmm
    obtain ⟨X, hX⟩ := choose_lt (α := Int × Int) (n := l) (p := fun i x => (W.cell? (a.add (i * 2)) = some (.int .u64 x.1) ∧ W.cell? (a.add (i * 2 + 1)) = some (.int .i64 x.2)) ∧ (0 ≤ x.1 ∧ x.1 ≤ 18446744073709551615) ∧ (-9223372036854775808 ≤ x.2 ∧ x.2 ≤ 9223372036854775807)) (fun i hi => by
      obtain ⟨h1, h2, h3, h4⟩ := hcell i (by omega)
      rw [u0] at h3
      rw [u1] at h4
      obtain ⟨n0, e0, _, w0⟩ := DataW.trod_int Try.underlying27 h3
      obtain ⟨n1, e1, _, w1⟩ := DataW.trod_int Try.underlying3 h4
      simp only [List.cons.injEq, and_true] at e0 e1
      rw [e0] at h1
      rw [e1] at h2
      exact ⟨(n0, n1), ⟨h1, h2⟩, range_u64 w0, range_i64 w1⟩)
    obtain ⟨p1, p2⟩ := pairs_of (n := l) (fun i => (X i).1) (fun i => (X i).2)
    refine ⟨(List.range l).map fun i => ((X i).1, (X i).2), ?_, ?_, by rw [p1]; unfold maxLen at hm; omega⟩
    · by_cases h0 : l = 0
      · subst h0
        exact Or.inl ⟨_, _, hcs, rfl⟩
      · have h1 := (hX 0 (by omega)).1.1
        rw [show (a.add (0 * 2)) = a by simp [Addr.add]] at h1
        obtain ⟨ha, hb⟩ := spot_none h1
        refine Or.inr ⟨a.block, a.off, c, by rw [← ha, p1]; exact hcs, hb, fun i hi => ?_⟩
        rw [p1] at hi
        rw [p2 i hi]
        have := (hX i hi).1
        rw [ha, add_off, add_off, ← Nat.add_assoc] at this
        exact this
    · intro p hp
      obtain ⟨i, hi, rfl⟩ := List.mem_map.1 hp
      exact (hX i (List.mem_range.1 hi)).2

/-- A slice of numbers, read. -/
theorem read_nums {fuel : Nat} {v : Value} {y : DataW H × List MemPlace} (h : DataW.trod enc Try.prog W base (fun _ => true) held fuel 36 [v] = some y) :
    ∃ l, UAt W v l ∧ (∀ p ∈ l, 0 ≤ p ∧ p ≤ 18446744073709551615) ∧ l.length ≤ 9223372036854775807 := by
  rcases open_ints Try.underlying36 Try.underlying27 (by kernel_rfl) h with ⟨hcs, _⟩ | ⟨a, l, c, zs, hcs, _, hl, hm, hz, _, hcell, hwz⟩
  · simp only [List.cons.injEq, and_true] at hcs
    exact ⟨[], Or.inl ⟨none, 0, hcs, rfl⟩, by simp, by simp⟩
  · simp only [List.cons.injEq, and_true] at hcs
    simp only [if_true] at hz
    have e0 : (zs.take l).length = l := by rw [List.length_take]; omega
    refine ⟨zs.take l, ?_, fun d hd => range_u64 (hwz d (List.mem_of_mem_take hd)), by rw [e0]; unfold maxLen at hm; omega⟩
    by_cases h0 : l = 0
    · subst h0
      exact Or.inl ⟨_, _, hcs, rfl⟩
    · have h1 := hcell 0 (by omega)
      rw [show a.add 0 = a by simp [Addr.add]] at h1
      obtain ⟨ha, hb⟩ := spot_none h1
      refine Or.inr ⟨a.block, a.off, c, by rw [← ha, e0]; exact hcs, hb, fun i hi => ?_⟩
      have := hcell i (by omega)
      rw [ha, add_off] at this
      rw [this]
      have e1 : zs.getD i 0 = (zs.take l)[i]! := by
        rw [getElem!_pos _ i hi, List.getElem_take]
        simp [List.getD, List.getElem?_eq_getElem (show i < zs.length by omega)]
      rw [e1]
end
end Go.Proofs.Ytllmiaonlofeeaa
