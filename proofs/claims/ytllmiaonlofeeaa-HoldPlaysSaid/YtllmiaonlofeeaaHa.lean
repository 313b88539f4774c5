/-
  Copies of messages: slices.Clone of numbers, hold.copies. No conditions beyond what each theorem states.
-/
import Derived.Test.YtllmiaonlofeeaaLa
namespace Go.Proofs.Ytllmiaonlofeeaa
open Go.RowKit Go.Sort

/-- The numbers' cells. -/
def flatU (ds : List Int) : List Value := ds.map fun d => .int .u32 d
theorem flatU_one (l : List Int) : ∀ u ∈ flatU l, u.oneCell' = true := by
  intro u hu
  obtain ⟨d, _, rfl⟩ := List.mem_map.1 hu
  rfl
theorem info_U32 : (Try.prog.info? 40).map (fun i => (i.zero, i.size, i.bytes)) = some (some (.int .u32 0), 1, 4) := by kernel_rfl

/-- What a message's Deps hold lies in blocks of uint32s that P allows. -/
def DepsIn (P : Nat → Prop) (w : World) (a : Option Addr) (n : Nat) : Prop := n = 0 ∨ ∃ b o c, a = some ⟨b, o, none⟩ ∧ P b ∧ w.heap[b]? = some (.cells c 40 (0, 0))
theorem DepsIn.mono {P P' : Nat → Prop} {w : World} {a : Option Addr} {n : Nat} (h : DepsIn P w a n) (hp : ∀ k, P k → P' k) : DepsIn P' w a n := by
  rcases h with h | ⟨b, o, c, e, p, q⟩
  · exact Or.inl h
  · exact Or.inr ⟨b, o, c, e, hp b p, q⟩
theorem DepsIn.bw {P : Nat → Prop} {w w' : World} {a : Option Addr} {n : Nat} (h : DepsIn P w a n) (k : Bw w w') : DepsIn P w' a n := by
  rcases h with h | ⟨b, o, c, e, p, q⟩
  · exact Or.inl h
  · exact Or.inr ⟨b, o, c, e, p, k.blk q⟩

/-- The blocks that P names are as they were; no stream has turned. -/
structure Keep (P : Nat → Prop) (w w' : World) : Prop where
  os : w'.os = w.os
  tape : w'.tape = w.tape
  output : w'.output = w.output
  size : w.heap.size ≤ w'.heap.size
  block : ∀ k, P k → k < w.heap.size → w'.heap[k]? = w.heap[k]?
theorem Keep.refl (P : Nat → Prop) (w : World) : Keep P w w := ⟨rfl, rfl, rfl, Nat.le_refl _, fun _ _ _ => rfl⟩
theorem Keep.trans {P : Nat → Prop} {a b c : World} (h : Keep P a b) (k : Keep P b c) : Keep P a c :=
  ⟨k.os.trans h.os, k.tape.trans h.tape, k.output.trans h.output, Nat.le_trans h.size k.size, fun i hp hi => (k.block i hp (Nat.lt_of_lt_of_le hi h.size)).trans (h.block i hp hi)⟩
theorem Keep.mono {P P' : Nat → Prop} {w w' : World} (h : Keep P w w') (hp : ∀ k, P' k → P k) : Keep P' w w' := ⟨h.os, h.tape, h.output, h.size, fun k p hk => h.block k (hp k p) hk⟩
theorem Below.keep {B : Nat} {w w' : World} (h : Below B w w') {P : Nat → Prop} (hP : ∀ k, P k → k < w.heap.size → k < B) : Keep P w w' := ⟨h.os, h.tape, h.output, h.size, fun k p hk => h.block k (hP k p hk)⟩
theorem Bw.keep {w w' : World} (h : Bw w w') (P : Nat → Prop) : Keep P w w' := Go.Proofs.Ytllmiaonlofeeaa.Below.keep h fun _ _ hk => hk
theorem Keep.below {P : Nat → Prop} {w w' : World} (h : Keep P w w') {B : Nat} (hB : B ≤ w.heap.size) (hP : ∀ k, k < B → P k) : Below B w w' := ⟨h.os, h.tape, h.output, h.size, fun k hk => h.block k (hP k hk) (by omega)⟩
theorem Keep.setCell {P : Nat → Prop} {w w' : World} (h : Keep P w w') {p : Addr} (hp : ¬ P p.block) (u : Value) : Keep P w (w'.setCell p u) :=
  h.trans ⟨rfl, rfl, rfl, by simp [World.setCell], fun k hk _ => Below.heap_setCell _ _ _ _ (fun e => hp (e ▸ hk))⟩
theorem Keep.blk {P : Nat → Prop} {w w' : World} {b : Nat} {o : Obj} (h : Keep P w w') (hP : P b) (hb : w.heap[b]? = some o) : w'.heap[b]? = some o := by rw [h.block b hP (lt_blk hb)]; exact hb
theorem Keep.cell {P : Nat → Prop} {w w' : World} (h : Keep P w w') {p : Addr} (hP : P p.block) (hb : p.block < w.heap.size) : w'.cell? p = w.cell? p := World.cell?_of_block (w := w) (h.block p.block hP hb)
theorem Keep.bw {P : Nat → Prop} {a b c : World} (h : Keep P a b) (k : Bw b c) : Keep P a c := h.trans (k.keep P)
theorem DepsIn.keep {P : Nat → Prop} {w w' : World} {a : Option Addr} {n : Nat} (h : DepsIn P w a n) (k : Keep P w w') : DepsIn P w' a n := by
  rcases h with h | ⟨b, o, c, e, p, q⟩
  · exact Or.inl h
  · exact Or.inr ⟨b, o, c, e, p, k.blk p q⟩
theorem DepsAt.keep {P : Nat → Prop} {w w' : World} {a : Option Addr} {n : Nat} {ds : List Int} (h : DepsAt w a n ds) (hi : DepsIn P w a n) (k : Keep P w w') : DepsAt w' a n ds := by
  obtain ⟨hn, h | ⟨b, o, rfl, hb, hc⟩⟩ := h
  · exact ⟨hn, Or.inl h⟩
  · rcases hi with h0 | ⟨b', o', c, e, p, _⟩
    · exact ⟨hn, Or.inl (by rw [h0] at hn; exact List.length_eq_zero_iff.1 hn.symm)⟩
    · simp only [Option.some.injEq, Addr.mk.injEq, and_true] at e
      obtain ⟨rfl, rfl⟩ := e
      exact ⟨hn, Or.inr ⟨b, o, rfl, Nat.lt_of_lt_of_le hb k.size, fun i hi => by rw [k.cell (p := ⟨b, o + i, none⟩) p hb]; exact hc i hi⟩⟩
theorem Reads.keep {P : Nat → Prop} {w w' : World} {m : Msg} {D : DM} (h : Reads w m D) (hi : DepsIn P w m.da m.dl) (k : Keep P w w') : Reads w' m D := ⟨h.frm, h.seq, h.stamp, h.svc, h.deps.keep hi k, h.pay⟩

set_option maxRecDepth 100000 in
set_option maxHeartbeats 1000000 in
theorem c_CloneU (a : Option Addr) (n c : Nat) (ds : List Int) (w : World) (h : DepsAt w a n ds) (hn : n ≤ 1000000000) :
    Calls Try.prog 69 #[.slice a n c] w fun e w' => ∃ a' c', e = .returned (.slice a' n c') ∧ DepsAt w' a' n ds ∧ DepsIn (fun k => w.heap.size ≤ k) w' a' n ∧ Bw w w' := by
  obtain ⟨i0, hi, hz0, hz1, hz2⟩ := info_parts info_U32
  obtain ⟨rfl, hcase⟩ := h
  have HN := Lib.hid hn
  clear hn
  have hqn := fun (w : World) (a : Option Addr) (n c : Nat) => Lib.run_eql_slice_nil (P := Try.prog) w 41 40 a n c 0 0 Try.underlying41
  cases a with
  | none =>
    have hd : ds = [] := by
      rcases hcase with h | ⟨b, o, h, _⟩
      · exact h
      · cases h
    subst hd
    clear hcase
    go_enter Try.func69, Try.ntmps69
    go_wp2
    go_ret
    exact ⟨none, 0, rfl, ⟨rfl, Or.inl rfl⟩, Or.inl rfl, Bw.refl _⟩
  | some sa =>
    have hcell : ∀ j u, (flatU ds)[j]? = some u → (w.alloc (.cells #[] 40)).cell? (sa.add j) = some u := by
      rcases hcase with rfl | ⟨b, o, e, hb, hc⟩
      · intro j u hu; simp [flatU] at hu
      · cases e
        intro j u hu
        obtain ⟨hj, rfl⟩ := List.getElem?_eq_some_iff.1 hu
        simp only [flatU, List.length_map] at hj
        rw [add_off, (Bw.alloc w _).cell hb, hc j hj, getElem!_pos ds j hj]
        simp [flatU]
    have HC := Lib.hid hcell
    clear hcell hcase
    have h0 : (w.alloc (.cells #[] 40)).ownsRow w.heap.size 40 1 (.slice (some ⟨w.heap.size, 0, none⟩) 0 0) 0 [] := World.ownsRow_lit w #[] 0 (Nat.le_refl _) (by unfold maxLen; omega) rfl
    have H0 := Lib.hid h0
    clear h0
    have C0 : Hid ((flatU ds).length = ds.length * 1) := by show _ = _; simp [flatU]
    have C2 : Hid (0 + ds.length ≤ maxLen) := by have := HN.out; show _ ≤ _; unfold maxLen; omega
    have C3 : Hid ((0 + ds.length) * 4 ≤ 140737488355328) := by have := HN.out; show _ ≤ _; omega
    have C4 : Hid (w.heap.size ≤ (w.alloc (.cells #[] 40)).heap.size) := by show _ ≤ _; simp
    go_enter Try.func69, Try.ntmps69
    go_wp2_with (at_builtin; refine wpList_append_own _ rfl _ _ 41 rfl w.heap.size 40 i0 _ 1 4 Try.underlying41 hi hz0 hz1 hz2 rfl (by decide) _ 0 [] rfl H0.out sa ds.length c (flatU ds) rfl C0.out HC.out (flatU_one ds) C2.out C3.out C4.out ?_; intro v' w1 hown hgrow _; have HO := Lib.hid hown; have HG := Lib.hid hgrow; clear hown hgrow)
    go_ret
    have hB : Bw w w1 := ((Below.refl _ w).alloc (Nat.le_refl _) _).grown HG.out C4.out (by intro k hk; cases hk; exact Nat.le_refl _)
    have ho := HO.out
    rw [Nat.zero_add, List.nil_append] at ho
    have hcs := fun g hg => World.ownsRow.cells ho (g := g) hg
    rcases ho.2 with ⟨rfl, hz⟩ | ⟨g, cap, cur, rfl, hb, hg, _⟩
    · have hd : ds = [] := by simpa using hz
      subst hd
      exact ⟨none, 0, rfl, ⟨rfl, Or.inl rfl⟩, Or.inl rfl, hB⟩
    · refine ⟨some ⟨g, 0, none⟩, cap, rfl, ⟨rfl, Or.inr ⟨g, 0, rfl, (Array.getElem?_eq_some_iff.1 hg).1, fun i hi => ?_⟩⟩, Or.inr ⟨g, 0, cur, rfl, hb, hg⟩, hB⟩
      have := hcs g rfl i (.int .u32 ds[i]!) (by simp [flatU, getElem!_pos ds i hi])
      rwa [add_off] at this
end Go.Proofs.Ytllmiaonlofeeaa
