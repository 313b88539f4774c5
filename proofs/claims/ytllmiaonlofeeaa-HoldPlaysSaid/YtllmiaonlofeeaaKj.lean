/-
  Rows of messages: how a slice of messages reads, a row that the call owns; slices.Clone and key.Sort. No conditions beyond what each theorem states.
-/
import Derived.Test.YtllmiaonlofeeaaKi
import Derived.WalkSpells
import Derived.Deep.DeepMust
namespace Go.Proofs.Ytllmiaonlofeeaa
open Go.RowKit Go.Sort

/-- What was there is as it was. -/
def Bw (w w' : World) : Prop := Below w.heap.size w w'
theorem Bw.refl (w : World) : Bw w w := Below.refl _ _
theorem Bw.trans {a b c : World} (h : Bw a b) (k : Bw b c) : Bw a c := Below.trans h (Below.mono k h.size)
theorem Bw.alloc (w : World) (o : Obj) : Bw w (w.alloc o) := (Below.refl _ _).alloc (Nat.le_refl _) o
theorem Bw.drew (w : World) : Bw w w.drew := (Below.refl _ _).drew
theorem Bw.drewN (w : World) (n : Nat) : Bw w (w.drewN n) := ⟨rfl, rfl, rfl, Nat.le_refl _, fun _ _ => rfl⟩
theorem Gr.bw {w w' : World} (h : Gr w w') : Bw w w' := by
  obtain ⟨q, os, rfl⟩ := h
  exact ⟨rfl, rfl, rfl, by simp [grow], fun k hk => heap_grow_old _ _ hk⟩
theorem Bw.cell {w w' : World} (h : Bw w w') {p : Addr} (hp : p.block < w.heap.size) : w'.cell? p = w.cell? p := Below.cell h hp

/-- The messages' cells, one behind the other. -/
def flatM (l : List Msg) : List Value := l.flatMap encM
theorem flatM_length (l : List Msg) : (flatM l).length = l.length * 6 := by
  induction l with
  | nil => rfl
  | cons x l ih => simp only [flatM, List.flatMap_cons, List.length_append, List.length_cons] at *; rw [ih]; simp [encM]; omega
theorem flatM_append (l r : List Msg) : flatM (l ++ r) = flatM l ++ flatM r := by simp [flatM]
theorem flatM_get {l : List Msg} {i c : Nat} (hi : i < l.length) (hc : c < 6) : (flatM l)[i * 6 + c]? = (encM l[i]!)[c]? := by
  induction l generalizing i with
  | nil => simp at hi
  | cons x l ih =>
    cases i with
    | zero =>
      simp only [flatM, List.flatMap_cons, Nat.zero_mul, Nat.zero_add]
      rw [List.getElem?_append_left (by simp [encM]; omega)]; rfl
    | succ i =>
      have := ih (i := i) (by simpa using hi)
      simp only [flatM, List.flatMap_cons] at *
      rw [List.getElem?_append_right (by simp [encM]; omega), show (i + 1) * 6 + c - (encM x).length = i * 6 + c by simp [encM]; omega, this]
      simp
theorem flatM_one (l : List Msg) : ∀ u ∈ flatM l, u.oneCell' = true := by
  intro u hu
  obtain ⟨m, _, hm⟩ := List.mem_flatMap.1 hu
  simp only [encM, List.mem_cons, List.not_mem_nil, or_false] at hm
  rcases hm with rfl | rfl | rfl | rfl | rfl | rfl <;> rfl

/-- The slice v reads as the messages l. -/
def MAt (w : World) (v : Value) (l : List Msg) : Prop :=
  (v = .slice none 0 0 ∧ l = []) ∨ (∃ a cap, v = .slice (some a) 0 cap ∧ l = []) ∨ ∃ b o cap, v = .slice (some ⟨b, o, none⟩) l.length cap ∧ b < w.heap.size ∧ ∀ j u, (flatM l)[j]? = some u → w.cell? ⟨b, o + j, none⟩ = some u
/-- The call owns the row v: the messages l. -/
def Own6 (base : Nat) (w : World) (v : Value) (l : List Msg) : Prop := w.ownsRow base 43 6 v l.length (flatM l)

theorem add_off (b o j : Nat) : (Addr.mk b o none).add j = ⟨b, o + j, none⟩ := by unfold Addr.add; split <;> simp [*]

theorem Own6.at {base : Nat} {w : World} {v : Value} {l : List Msg} (h : Own6 base w v l) : MAt w v l := by
  have hc := fun g hg => World.ownsRow.cells h (g := g) hg
  rcases h.2 with ⟨rfl, hn⟩ | ⟨g, cap, cur, rfl, hb, hg, _⟩
  · exact Or.inl ⟨by simp, by simpa using hn⟩
  · refine Or.inr (Or.inr ⟨g, 0, cap, rfl, ?_, fun j u hu => by have := hc g rfl j u hu; rwa [add_off] at this⟩)
    rw [Array.getElem?_eq_some_iff] at hg
    exact hg.1
theorem MAt.bw {w w' : World} {v : Value} {l : List Msg} (h : MAt w v l) (k : Bw w w') : MAt w' v l := by
  rcases h with h | h | ⟨b, o, cap, rfl, hb, hc⟩
  · exact Or.inl h
  · exact Or.inr (Or.inl h)
  · exact Or.inr (Or.inr ⟨b, o, cap, rfl, Nat.lt_of_lt_of_le hb k.size, fun j u hu => by rw [k.cell (p := ⟨b, o + j, none⟩) hb]; exact hc j u hu⟩)
theorem MAt.six {w : World} {b o n cap : Nat} {l : List Msg} (h : MAt w (.slice (some ⟨b, o, none⟩) n cap) l) (h0 : 0 < n) : l.length = n ∧ b < w.heap.size ∧ ∀ i, i < n → Six w b (o + i * 6) l[i]! := by
  rcases h with ⟨h, _⟩ | ⟨_, _, h, _⟩ | ⟨b', o', cap', h, hb, hc⟩
  · cases h
  · simp only [Value.slice.injEq] at h
    omega
  · simp only [Value.slice.injEq, Option.some.injEq, Addr.mk.injEq, and_true] at h
    obtain ⟨⟨rfl, rfl⟩, rfl, rfl⟩ := h
    refine ⟨rfl, hb, fun i hi => ?_⟩
    have g : ∀ c, c < 6 → ∀ u, (encM l[i]!)[c]? = some u → w.cell? ⟨b, o + i * 6 + c, none⟩ = some u := fun c hc6 u hu => by
      rw [Nat.add_assoc]; exact hc _ _ (by rw [flatM_get hi hc6]; exact hu)
    exact ⟨g 0 (by omega) _ rfl, g 1 (by omega) _ rfl, g 2 (by omega) _ rfl, g 3 (by omega) _ rfl, g 4 (by omega) _ rfl, g 5 (by omega) _ rfl⟩
theorem MAt.form {w : World} {v : Value} {l : List Msg} (h : MAt w v l) : ∃ a cap, v = .slice a l.length cap := by
  rcases h with ⟨rfl, rfl⟩ | ⟨a, cap, rfl, rfl⟩ | ⟨b, o, cap, rfl, _⟩
  · exact ⟨none, 0, rfl⟩
  · exact ⟨_, _, rfl⟩
  · exact ⟨_, _, rfl⟩

theorem info_M : (Try.prog.info? 43).map (fun i => (i.zero, i.size, i.bytes)) = some (some (.agg #[.int .i64 0, .int .u32 0, .int .u64 0, .int .i64 0, .slice none 0 0, .string ⟨#[]⟩]), 6, 72) := by kernel_rfl

set_option maxRecDepth 100000 in
set_option maxHeartbeats 1000000 in
theorem c_CloneM (v : Value) (l : List Msg) (w : World) (h : MAt w v l) (hn : l.length * 72 ≤ 140737488351232) :
    Calls Try.prog 52 #[v] w fun e w' => ∃ v', e = .returned v' ∧ Own6 w.heap.size w' v' l ∧ Bw w w' := by
  obtain ⟨i0, hi, hz0, hz1, hz2⟩ := info_parts info_M
  have HN := Lib.hid hn
  clear hn
  have hqn := fun (w : World) (a : Option Addr) (n c : Nat) => Lib.run_eql_slice_nil (P := Try.prog) w 22 43 a n c 0 0 Try.underlying22
  obtain h | ⟨sa, cap, rfl, hc⟩ : (v = .slice none 0 0 ∧ l = []) ∨ ∃ sa cap, v = .slice (some sa) l.length cap ∧ ∀ j u, (flatM l)[j]? = some u → (w.alloc (.cells #[] 43)).cell? (sa.add j) = some u := by
    rcases h with h | ⟨a, cap, rfl, rfl⟩ | ⟨b, o, cap, rfl, hb, hc⟩
    · exact Or.inl h
    · exact Or.inr ⟨a, cap, rfl, fun j u hu => by simp [flatM] at hu⟩
    · exact Or.inr ⟨⟨b, o, none⟩, cap, rfl, fun j u hu => by rw [add_off, (Bw.alloc w _).cell hb]; exact hc j u hu⟩
  · obtain ⟨rfl, rfl⟩ := h
    go_enter Try.func52, Try.ntmps52
    go_wp2
    go_ret
    exact ⟨_, rfl, World.ownsRow_nil _ _ _ _, Bw.refl _⟩
  · have HC := Lib.hid hc
    clear hc
    have h0 : (w.alloc (.cells #[] 43)).ownsRow w.heap.size 43 6 (.slice (some ⟨w.heap.size, 0, none⟩) 0 0) 0 [] := World.ownsRow_lit w #[] 0 (Nat.le_refl _) (by unfold maxLen; omega) rfl
    have H0 := Lib.hid h0
    clear h0
    have C2 : Hid (0 + l.length ≤ maxLen) := by have := HN.out; show _ ≤ _; unfold maxLen; omega
    have C3 : Hid ((0 + l.length) * 72 ≤ 140737488355328) := by have := HN.out; show _ ≤ _; omega
    have C4 : Hid (w.heap.size ≤ (w.alloc (.cells #[] 43)).heap.size) := by show _ ≤ _; simp
    go_enter Try.func52, Try.ntmps52
    go_wp2_with (at_builtin; refine wpList_append_own _ rfl _ _ 22 rfl w.heap.size 43 i0 _ 6 72 Try.underlying22 hi hz0 hz1 hz2 rfl (by decide) _ 0 [] rfl H0.out sa l.length cap (flatM l) rfl (flatM_length l) HC.out (flatM_one l) C2.out C3.out C4.out ?_; intro v' w1 hown hgrow _; have HO := Lib.hid hown; have HG := Lib.hid hgrow; clear hown hgrow)
    go_ret
    refine ⟨v', rfl, ?_, ((Below.refl _ w).alloc (Nat.le_refl _) _).grown HG.out C4.out (by intro k hk; cases hk; exact Nat.le_refl _)⟩
    have := HO.out
    simpa [Own6] using this

/-! ### key.Sort -/
theorem c_insertion_nil (w : World) : Calls Try.prog 70 #[.slice none 0 0, .int .i64 0, .int .i64 0, cmpV] w fun e w' => e = .returned (.tuple #[]) ∧ w = w' := by
  go_enter Try.func70, Try.ntmps70
  go_wp2
  go_rounds 1
  go_end0
  exact ⟨rfl, rfl⟩
theorem c_stable_nil (w : World) : Calls Try.prog 66 #[.slice none 0 0, .int .i64 0, cmpV] w fun e w' => e = .returned (.tuple #[]) ∧ w = w' := by
  go_enter Try.func66, Try.ntmps66
  go_wp2_with fail
  refine wp_loop_rounds 1 ?_
  rw [rounds_succ]
  go_wp2_with fail
  refine (c_insertion_nil _).mono ?_
  rintro e w' ⟨rfl, rfl⟩
  go_wp2_with fail
  refine wp_loop_rounds 1 ?_
  rw [rounds_succ]
  go_wp2_with fail
  go_end0
  exact ⟨rfl, rfl⟩
theorem c_SortStable_nil (w : World) : Calls Try.prog 53 #[.slice none 0 0, cmpV] w fun e w' => e = .returned (.tuple #[]) ∧ w = w' := by
  go_enter Try.func53, Try.ntmps53
  go_wp2_with fail
  refine (c_stable_nil _).mono ?_
  rintro e w' ⟨rfl, rfl⟩
  go_wp2_with fail
  go_end0
  exact ⟨rfl, rfl⟩

/-- The row that the sort leaves is the call's own still. -/
theorem Own6.sorted {base : Nat} {w w' : World} {g cap : Nat} {l : List Msg} {d : Array Msg} (h : Own6 base w (.slice (some ⟨g, 0, none⟩) l.length cap) l) (hS : SW w g 0 d w') (hd : d.size = l.length) : Own6 base w' (.slice (some ⟨g, 0, none⟩) l.length cap) d.toList := by
  obtain ⟨m, os, rfl⟩ := hS
  rcases h.2 with ⟨h1, _⟩ | ⟨g', cap', cur, h1, hb, hg, hnc, hcm, hcs, htake⟩
  · cases h1
  · simp only [Value.slice.injEq, Option.some.injEq, Addr.mk.injEq, and_true, true_and] at h1
    obtain ⟨rfl, rfl⟩ := h1
    have hlt : g < w.heap.size := (Array.getElem?_eq_some_iff.1 hg).1
    have hheap : (sortWorldK encM 6 w g 0 m d os).heap[g]? = some (.cells (putCells id 0 (flatK encM 6 d) cur) 43 (0, 0)) := by
      unfold sortWorldK
      rw [heap_grow_old _ _ (by rw [size_putRowK]; exact hlt)]
      show ((w.heap.modify g (onCells _))[g]?) = _
      rw [Array.getElem?_modify, if_pos rfl, hg]
      rfl
    have hdl : d.toList.length = l.length := by simpa using hd
    refine ⟨flatM_length _, Or.inr ⟨g, cap, _, by rw [hdl], hb, hheap, by rw [hdl]; exact hnc, hcm, by simp [putCells, hcs], ?_⟩⟩
    rw [hdl]
    apply List.ext_getElem?
    intro j
    by_cases hj : j < l.length * 6
    · rw [List.getElem?_take, if_pos hj]
      have hjc : j < cur.size := by rw [hcs]; exact Nat.lt_of_lt_of_le hj (Nat.mul_le_mul_right 6 hnc)
      have e1 : (putCells id 0 (flatK encM 6 d) cur).toList[j]? = some (flatK encM 6 d)[j]! := by
        simp only [putCells, Array.getElem?_toList, Array.getElem?_mapIdx, Array.getElem?_eq_getElem hjc, Option.map_some]
        rw [if_pos ⟨by omega, by rw [size_flatK, hd]; omega⟩]
        rfl
      rw [e1, get_flatK _ _ _ _ (by rw [hd]; exact hj)]
      have e2 := flatM_get (l := d.toList) (i := j / 6) (c := j % 6) (by rw [hdl]; omega) (Nat.mod_lt _ (by omega))
      rw [show j / 6 * 6 + j % 6 = j by omega] at e2
      have e3 : d.toList[j / 6]! = d[j / 6]! := by rw [getElem!_pos d.toList (j / 6) (by rw [hdl]; omega), getElem!_pos d (j / 6) (by omega)]; simp
      rw [e2, e3]
      have hc6 : j % 6 < (encM d[j / 6]!).length := Nat.mod_lt _ (by omega)
      rw [List.getElem?_eq_getElem hc6, getElem!_pos (encM d[j / 6]!) (j % 6) hc6]
    · rw [List.getElem?_eq_none (by simp [putCells, hcs]; omega), List.getElem?_eq_none (by rw [flatM_length, hdl]; omega)]

theorem SW.below {w w' : World} {blk off B : Nat} {d : Array Msg} (h : SW w blk off d w') (hB : B ≤ blk) (hw : B ≤ w.heap.size) : Below B w w' := by
  obtain ⟨m, os, rfl⟩ := h
  refine ⟨rfl, rfl, rfl, size_sortWorldK_c encM 6 w blk off m d os, fun k hk => ?_⟩
  unfold sortWorldK
  rw [heap_grow_old _ _ (by rw [size_putRowK]; show k < w.heap.size; omega)]
  show (w.heap.modify blk _)[k]? = _
  rw [Array.getElem?_modify, if_neg (by omega)]

theorem Own6.holds {base : Nat} {w : World} {g cap : Nat} {l : List Msg} (h : Own6 base w (.slice (some ⟨g, 0, none⟩) l.length cap) l) : HM w g 0 l.toArray := by
  intro j hj
  rw [size_flatK, List.size_toArray] at hj
  rw [Nat.zero_add]
  refine ⟨?_, World.ownsRow.frozenAt h j⟩
  rw [World.ownsRow.cellAt h j hj, get_flatK _ _ _ _ (by rw [List.size_toArray]; exact hj)]
  have e2 := flatM_get (l := l) (i := j / 6) (c := j % 6) (by omega) (Nat.mod_lt _ (by omega))
  rw [show j / 6 * 6 + j % 6 = j by omega] at e2
  rw [e2]
  have e3 : l.toArray[j / 6]! = l[j / 6]! := by simp
  have hc6 : j % 6 < (encM l[j / 6]!).length := Nat.mod_lt _ (by omega)
  rw [e3, List.getElem?_eq_getElem hc6, getElem!_pos (encM l[j / 6]!) (j % 6) hc6]; rfl

theorem Bw.trans2 {w w1 w2 : World} {g : Nat} {d : Array Msg} (h : Bw w w1) (k : SW w1 g 0 d w2) (hg : w.heap.size ≤ g) : Bw w w2 := Below.trans h (SW.below k hg h.size)

theorem c_Sort (v : Value) (l : List Msg) (w : World) (h : MAt w v l) (hn : l.length ≤ 1000000) :
    Calls Try.prog 16 #[v] w fun e w' => ∃ v', e = .returned v' ∧ Own6 w.heap.size w' v' (ssort l) ∧ Bw w w' := by
  have HC := Lib.hid (c_CloneM v l w h (by omega))
  clear h
  go_enter Try.func16, Try.ntmps16
  go_wp2_with fail
  refine HC.out.mono ?_
  rintro e w1 ⟨v1, rfl, hO, hB⟩
  have HO := Lib.hid hO
  have HB := Lib.hid hB
  clear hO hB
  rcases HO.out.2 with ⟨hv, hl⟩ | ⟨g, cap, cur, hv, hb, hg, _⟩
  · subst hv
    have hl2 : l = [] := by simpa using hl
    subst hl2
    clear hl
    go_wp2_with fail
    refine (c_SortStable_nil _).mono ?_
    rintro e w2 ⟨rfl, rfl⟩
    go_wp2_with fail
    go_ret
    exact ⟨_, rfl, HO.out, HB.out⟩
  · subst hv
    have hlt : g < w1.heap.size := (Array.getElem?_eq_some_iff.1 hg).1
    have HGB := Lib.hid hb
    clear hg hb
    go_wp2_with fail
    refine (c_SortStable g 0 cap l.length l.toArray w1 (by simp) HO.out.holds hlt (by omega)).mono ?_
    rintro e w2 ⟨rfl, d, hd, hS⟩
    have HD := Lib.hid hd
    have HS := Lib.hid hS
    clear hd hS
    go_wp2_with fail
    go_ret
    have hd := HD.out
    have hsz : d.size = l.length := by have := congrArg List.length hd; rw [ssort_length] at this; simpa using this
    have ho := Own6.sorted HO.out HS.out hsz
    rw [hd] at ho
    refine ⟨_, rfl, ?_, HB.out.trans2 HS.out HGB.out⟩
    exact ho

end Go.Proofs.Ytllmiaonlofeeaa
