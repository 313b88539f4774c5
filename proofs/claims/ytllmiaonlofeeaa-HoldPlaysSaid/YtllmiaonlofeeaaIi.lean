/-
  HoldPlays: what both holds stand on, as one. No conditions beyond what each theorem states.
-/
import Derived.Test.YtllmiaonlofeeaaIh
namespace Go.Proofs.Ytllmiaonlofeeaa
open Go.RowKit Go.Sort
set_option linter.unusedSimpArgs false
set_option linter.unusedVariables false

set_option maxRecDepth 100000 in
theorem c_spoil_nil (w : World) : Calls Try.prog 37 #[.slice none 0 0] w fun e w' => e = .returned (.tuple #[]) ∧ w = w' := by
  go_enter Try.func37, Try.ntmps37
  go_wp2_with fail
  go_loopw [2] (fun vi wr => vi = .int .i64 0 ∧ wr = w) (fun vi _ => 0)
  case atStart => exact ⟨rfl, rfl⟩
  case round =>
    obtain ⟨rfl, rfl⟩ := hrel
    go_wp2
    go_end0
    exact ⟨rfl, rfl⟩

theorem own_cell {base : Nat} {w : World} {g n c : Nat} {l : List Msg} (h : Own6 base w (.slice (some ⟨g, 0, none⟩) n c) l) {i j : Nat} (hi : i < l.length) (hj : j < 6) {u : Value} (hu : (encM l[i]!)[j]? = some u) : w.cell? ⟨g, i * 6 + j, none⟩ = some u := by
  have := World.ownsRow.cells h rfl (i * 6 + j) u (by rw [flatM_get hi hj]; exact hu)
  rwa [add_off, Nat.zero_add] at this
theorem c_spoil (P : Nat → Prop) {base : Nat} (v : Value) (l : List Msg) (L : List DM) (w : World) (h : Own6 base w v l) (hP : ∀ g, v.ownBlock = some g → ¬ P g) (hL : DL w l L) (hin : DepsAll (fun k => ¬ P k) w l) (hn : l.length ≤ 1000000) (hd : ∀ x ∈ l, x.dl ≤ 1000000) :
    Calls Try.prog 37 #[v] w fun e w' => e = .returned (.tuple #[]) ∧ Keep P w w' := by
  have hc := h.2
  rcases hc with ⟨rfl, _⟩ | ⟨g, cap, cur, rfl, _, hg, _⟩
  · refine (c_spoil_nil w).mono ?_
    rintro e w' ⟨rfl, rfl⟩
    exact ⟨rfl, Keep.refl _ _⟩
  · refine c_spoil_row P g cap l w ⟨hP g rfl, ⟨cur, hg⟩, fun i hi => own_cell h hi (by omega) rfl, fun i hi => ⟨_, own_cell h hi (by omega) rfl⟩, fun i hi => ?_⟩ hn hd
    have hx : l[i]! ∈ l := by rw [getElem!_pos l i hi]; exact List.getElem_mem hi
    have r1 := (hL.2 i hi).deps
    rcases hin _ hx with h0 | ⟨b, o, c, e1, e2, e3⟩
    · exact Or.inl h0
    · obtain ⟨hlen, h0 | ⟨b', o', e4, hb', hcell⟩⟩ := r1
      · left; rw [hlen, h0]; rfl
      · rw [e4] at e1
        simp only [Option.some.injEq, Addr.mk.injEq, and_true] at e1
        obtain ⟨rfl, rfl⟩ := e1
        exact Or.inr ⟨b', o', c, e4, e2, e3, fun k hk => ⟨_, hcell k hk⟩⟩

/-- Both holds in memory: T names all blocks on which they stand. -/
structure Pl (T : Nat → Prop) (wk w : World) (b r : Nat) (low : Nat → Int) (R : Nat → List DM) (low2 : Nat → Int) (va : Value) (la : List Msg) (LA : List DM) : Prop where
  hold : ∃ F v, HoldOn F w b low v R ∧ (∀ k, F k → T k) ∧ ∀ k, Gof b v k → T k ∧ wk.heap.size ≤ k ∧ k ≠ r ∧ va.ownBlock ≠ some k
  ref : RefBlk w r va low2
  row : Own6 0 w va la
  own : ∀ g, va.ownBlock = some g → T g ∧ wk.heap.size ≤ g
  all : DL wk la LA
  dl : ∀ x ∈ la, x.dl ≤ 1000000
  old : Bw wk w
  rT : T r ∧ wk.heap.size ≤ r
section
variable {T T' : Nat → Prop} {wk w w' : World} {b r : Nat} {low low2 low2' : Nat → Int} {R : Nat → List DM} {va va' : Value} {la la' : List Msg} {LA LA' : List DM}
theorem ref_not_u32 (h : RefBlk w r va low2) : ¬ U32 w r := fun ⟨c, hc⟩ => by unfold RefBlk at h; rw [h] at hc; simp at hc
theorem ref_row_ne (h : RefBlk w r va low2) (hr : Own6 0 w va' la) : ∀ g, va'.ownBlock = some g → g ≠ r := fun g hg e => by
  obtain ⟨cur, hc⟩ := own_row_type hr hg
  subst e
  unfold RefBlk at h
  rw [h] at hc
  simp at hc
theorem Pl.keep (h : Pl T wk w b r low R low2 va la LA) (k : Keep T' w w') (hT : ∀ i, T i → i < w.heap.size → T' i) (hA : ∀ i, i < wk.heap.size → T' i) : Pl T wk w' b r low R low2 va la LA := by
  obtain ⟨F, v, h1, h2, h3⟩ := h.hold
  have hsz := h.old.size
  refine ⟨⟨F, v, h1.keep k (fun i hi => hT i (h3 i hi).1 (h1.lt hi)) (fun i hi hu => hT i (h2 i hi) hu.lt), h2, h3⟩, k.blk (hT r h.rT.1 (lt_blk h.ref)) h.ref, Own6.keep h.row k (fun g hg => hT g (h.own g hg).1 (World.ownsRow.lt h.row g hg).2), h.own, h.all, h.dl, ?_, h.rT⟩
  exact Below.trans h.old (k.below hsz hA)
theorem Pl.bw (h : Pl T wk w b r low R low2 va la LA) (k : Bw w w') : Pl T wk w' b r low R low2 va la LA := h.keep (T' := fun _ => True) (k.keep _) (fun _ _ _ => trivial) (fun _ _ => trivial)
theorem Pl.mono (h : Pl T wk w b r low R low2 va la LA) (hT : ∀ k, T k → k < w.heap.size → T' k) : Pl T' wk w b r low R low2 va la LA := by
  obtain ⟨F, v, h1, h2, h3⟩ := h.hold
  refine ⟨⟨_, v, h1.below, fun k hk => hT k (h2 k hk.1) hk.2.lt, fun k hk => ⟨hT k (h3 k hk).1 (h1.lt hk), (h3 k hk).2⟩⟩, h.ref, h.row, fun g hg => ⟨hT g (h.own g hg).1 (World.ownsRow.lt h.row g hg).2, (h.own g hg).2⟩, h.all, h.dl, h.old, ⟨hT r h.rT.1 (lt_blk h.ref), h.rT.2⟩⟩
/-- Written over whole: another list, other marks. -/
theorem Pl.store (h : Pl T wk w b r low R low2 va la LA) (hT : ∀ k, T k → T' k) (hr : Own6 0 w va' la') (ha : DL wk la' LA') (hd : ∀ x ∈ la', x.dl ≤ 1000000) (ho : ∀ g, va'.ownBlock = some g → va.ownBlock = some g ∨ (wk.heap.size ≤ g ∧ T' g ∧ ¬ T g)) :
    Pl T' wk (w.setRow r (refCells va' low2')) b r low R low2' va' la' LA' := by
  obtain ⟨F, v, h1, h2, h3⟩ := h.hold
  have hk : Keep (fun k => k ≠ r) w (w.setRow r (refCells va' low2')) := (Keep.refl _ _).setRow (by simp) _
  have hown : ∀ g, va'.ownBlock = some g → T' g ∧ wk.heap.size ≤ g := fun g hg => by
    rcases ho g hg with h4 | ⟨h4, h5, _⟩
    · exact ⟨hT g (h.own g h4).1, (h.own g h4).2⟩
    · exact ⟨h5, h4⟩
  refine ⟨⟨F, v, h1.keep hk (fun i hi => (h3 i hi).2.2.1) (fun i _ hu e => ref_not_u32 h.ref (e ▸ hu)), fun k hk2 => hT k (h2 k hk2), fun k hk2 => ⟨hT k (h3 k hk2).1, (h3 k hk2).2.1, (h3 k hk2).2.2.1, fun e => ?_⟩⟩, setRow_ref h.ref, Own6.keep hr hk (ref_row_ne h.ref hr), hown, ha, hd, ?_, ⟨hT r h.rT.1, h.rT.2⟩⟩
  · rcases ho k e with h4 | ⟨_, _, h4⟩
    · exact (h3 k hk2).2.2.2 h4
    · exact h4 (h3 k hk2).1
  · exact Below.trans h.old (hk.below h.old.size fun i hi e => by have := h.rT.2; omega)
theorem pl_Drop (h : Pl T wk w b r low R low2 va la LA) (hB : HBnd low R 1000000) (p upto : Int) (hu : 0 ≤ upto) :
    Calls Try.prog 33 #[.pointer (some ⟨b, 0, none⟩), .int .i64 p, .int .u32 upto] w fun e w' => e = .returned (.tuple #[]) ∧ Pl (fun k => T k ∨ w.heap.size ≤ k) wk w' b r (dropLow low R p upto) (dropR low R p upto) low2 va la LA ∧ Keep (fun k => ¬ (T k ∧ wk.heap.size ≤ k ∧ k ≠ r ∧ va.ownBlock ≠ some k ∧ ¬ U32 w k)) w w' := by
  obtain ⟨F, v, h1, h2, h3⟩ := h.hold
  refine (h_Drop h1 hB p upto hu).mono ?_
  rintro e w' ⟨v', rfl, t1, t2, t3⟩
  have hsz := h.old.size
  have hrl := lt_blk h.ref
  have hnew : ∀ k, Gof b v' k → (T k ∨ w.heap.size ≤ k) ∧ wk.heap.size ≤ k ∧ k ≠ r ∧ va.ownBlock ≠ some k := fun k hk => by
    rcases t3 k hk with h4 | h4
    · exact ⟨Or.inl (h3 k h4).1, (h3 k h4).2⟩
    · exact ⟨Or.inr h4, by omega, by omega, fun e => by have := (World.ownsRow.lt h.row k e).2; omega⟩
  refine ⟨rfl, ⟨⟨_, v', t1, fun k hk => Or.inl (h2 k hk), hnew⟩, t2.blk (fun hg => (h3 r hg).2.2.1 rfl) h.ref, Own6.keep h.row t2 (fun g hg hk => (h3 g hk).2.2.2 hg), fun g hg => ⟨Or.inl (h.own g hg).1, (h.own g hg).2⟩, h.all, h.dl, ?_, ⟨Or.inl h.rT.1, h.rT.2⟩⟩, t2.mono fun k hk hg => hk ⟨(h3 k hg).1, (h3 k hg).2.1, (h3 k hg).2.2.1, (h3 k hg).2.2.2, h1.hard hg⟩⟩
  exact Below.trans h.old (t2.below hsz fun k hk hg => by have := (h3 k hg).2.1; omega)
theorem pl_Put (h : Pl T wk w b r low R low2 va la LA) (hB : HBnd low R 999999) (x : Msg) (D : DM) (hx : Reads w x D) (hd : x.dl ≤ 1000000) (hok : 0 ≤ D.seq ∧ D.seq ≤ 4294967295) :
    Calls Try.prog 35 #[.pointer (some ⟨b, 0, none⟩), msgV x] w fun e w' => e = .returned (.int .i64 (putE low R D)) ∧ Pl (fun k => T k ∨ w.heap.size ≤ k) wk w' b r low (putR low R D) low2 va la LA ∧ Keep (fun k => ¬ (T k ∧ wk.heap.size ≤ k ∧ k ≠ r ∧ va.ownBlock ≠ some k ∧ ¬ U32 w k)) w w' := by
  obtain ⟨F, v, h1, h2, h3⟩ := h.hold
  refine (h_Put h1 hB x D hx hd hok).mono ?_
  rintro e w' ⟨v', rfl, t1, t2, t3⟩
  have hsz := h.old.size
  have hrl := lt_blk h.ref
  have hnew : ∀ k, Gof b v' k → (T k ∨ w.heap.size ≤ k) ∧ wk.heap.size ≤ k ∧ k ≠ r ∧ va.ownBlock ≠ some k := fun k hk => by
    rcases t3 k hk with h4 | h4
    · exact ⟨Or.inl (h3 k h4).1, (h3 k h4).2⟩
    · exact ⟨Or.inr h4, by omega, by omega, fun e => by have := (World.ownsRow.lt h.row k e).2; omega⟩
  refine ⟨rfl, ⟨⟨_, v', t1, fun k hk => hk.imp (h2 k) id, hnew⟩, t2.blk (fun hg => (h3 r hg).2.2.1 rfl) h.ref, Own6.keep h.row t2 (fun g hg hk => (h3 g hk).2.2.2 hg), fun g hg => ⟨Or.inl (h.own g hg).1, (h.own g hg).2⟩, h.all, h.dl, ?_, ⟨Or.inl h.rT.1, h.rT.2⟩⟩, t2.mono fun k hk hg => hk ⟨(h3 k hg).1, (h3 k hg).2.1, (h3 k hg).2.2.1, (h3 k hg).2.2.2, h1.hard hg⟩⟩
  exact Below.trans h.old (t2.below hsz fun k hk hg => by have := (h3 k hg).2.1; omega)
theorem pl_Get (h : Pl T wk w b r low R low2 va la LA) (hB : HBnd low R 1000000) (p seq : Int) (hs : 0 ≤ seq) :
    Calls Try.prog 38 #[.pointer (some ⟨b, 0, none⟩), .int .i64 p, .int .u32 seq] w fun e w' =>
      ∃ x, e = .returned (.tuple #[msgV x, .bool (getOk low R p seq)]) ∧ Reads w' x (getD low R p seq) ∧ x.dl ≤ 1000000 ∧ Bw w w' := by
  obtain ⟨F, v, h1, _, _⟩ := h.hold
  refine (h_Get h1 hB p seq hs).mono ?_
  rintro e w' ⟨x, h1, h2, _, h3, h4⟩
  exact ⟨x, h1, h2, h3, h4⟩
theorem pl_Count (h : Pl T wk w b r low R low2 va la LA) (hB : HBnd low R 1000000) (p : Int) :
    Calls Try.prog 40 #[.pointer (some ⟨b, 0, none⟩), .int .i64 p] w fun e w' => e = .returned (.int .u32 (cntH low R p)) ∧ Gr w w' := by
  obtain ⟨F, v, h1, _, _⟩ := h.hold
  exact h_Count h1 hB p
theorem pl_Low (h : Pl T wk w b r low R low2 va la LA) (p : Int) :
    Calls Try.prog 47 #[.pointer (some ⟨b, 0, none⟩), .int .i64 p] w fun e w' => e = .returned (.int .u32 (lowH low p)) ∧ w = w' := by
  obtain ⟨F, v, h1, _, _⟩ := h.hold
  exact h_Low h1 p
theorem pl_From (h : Pl T wk w b r low R low2 va la LA) (hB : HBnd low R 1000000) (p seq most : Int) (hs : 0 ≤ seq) :
    Calls Try.prog 42 #[.pointer (some ⟨b, 0, none⟩), .int .i64 p, .int .u32 seq, .int .i64 most] w fun e w' =>
      ∃ v' l', e = .returned v' ∧ Own6 w.heap.size w' v' l' ∧ DL w' l' (fromH low R p seq most) ∧ DepsAll (fun k => w.heap.size ≤ k) w' l' ∧ (∀ x ∈ l', x.dl ≤ 1000000) ∧ Bw w w' := by
  obtain ⟨F, v, h1, _, _⟩ := h.hold
  exact h_From h1 hB p seq most hs
theorem pl_Above (h : Pl T wk w b r low R low2 va la LA) (hB : HBnd low R 10000) (s f : Int) :
    Calls Try.prog 43 #[.pointer (some ⟨b, 0, none⟩), .agg #[.int .u64 s, .int .i64 f]] w fun e w' =>
      ∃ v' l', e = .returned v' ∧ Own6 w.heap.size w' v' l' ∧ DL w' l' (aboveD R s f) ∧ DepsAll (fun k => w.heap.size ≤ k) w' l' ∧ (∀ x ∈ l', x.dl ≤ 1000000) ∧ Bw w w' := by
  obtain ⟨F, v, h1, _, _⟩ := h.hold
  exact h_Above h1 (Nat.le_trans hB.tot (by decide)) s f
theorem pl_Vector (h : Pl T wk w b r low R low2 va la LA) (hB : HBnd low R 1000000) (n : Int) (m : Nat) (hm : max 0 (min n 64) = (m : Int)) :
    Calls Try.prog 46 #[.pointer (some ⟨b, 0, none⟩), .int .i64 n] w fun e w' => ∃ v' us, e = .returned v' ∧ OwnU w.heap.size w' v' us ∧ us = (List.range m).map (fun i : Nat => cntH low R (i : Int)) ∧ Bw w w' := by
  obtain ⟨F, v, h1, _, _⟩ := h.hold
  exact h_Vector h1 hB n m hm
theorem pl_rCount (h : Pl T wk w b r low R low2 va la LA) (hn : la.length ≤ 1000) (p : Int) :
    Calls Try.prog 41 #[.agg (refCells va low2), .int .i64 p] w fun e w' => e = .returned (.int .u32 ((ofP LA p).length : Int)) ∧ Gr w w' :=
  c_rhCount va la LA low2 p w h.row.at (h.all.bw h.old) (by omega)
theorem pl_rGet (h : Pl T wk w b r low R low2 va la LA) (hk : Lk low R LA) (he : low2 = low) (hn : la.length ≤ 1000) (p seq : Int) :
    Calls Try.prog 39 #[.agg (refCells va low2), .int .i64 p, .int .u32 seq] w fun e w' =>
      ∃ x, e = .returned (.tuple #[msgV x, .bool (getOk low R p seq)]) ∧ Reads w' x (getD low R p seq) ∧ x.dl ≤ 1000000 ∧ Bw w w' := by
  refine (c_rhGet va la LA low2 p seq w h.row.at (h.all.bw h.old) (by omega) hk.inp h.dl).mono ?_
  rintro e w' ⟨x, ok, rfl, h1, h2, h3, h4, _⟩
  rw [he, hk.get] at h1 h2
  refine ⟨x, ?_, ?_, h3, h4⟩
  · rw [h1]
    cases getOk low R p seq <;> rfl
  · have : (if getOk low R p seq then some (getD low R p seq) else none).getD zeroD = getD low R p seq := by
      by_cases c : getOk low R p seq = true
      · rw [if_pos c]; rfl
      · rw [if_neg c]
        unfold Go.Proofs.Ytllmiaonlofeeaa.getD
        rw [if_neg c]; rfl
    rw [this] at h2
    exact h2
theorem pl_rFrom (h : Pl T wk w b r low R low2 va la LA) (hk : Lk low R LA) (he : low2 = low) (hn : la.length ≤ 1000) (p seq most : Int) :
    Calls Try.prog 44 #[.agg (refCells va low2), .int .i64 p, .int .u32 seq, .int .i64 most] w fun e w' =>
      ∃ v' l', e = .returned v' ∧ Own6 w.heap.size w' v' l' ∧ DL w' l' (fromH low R p seq most) ∧ (∀ x ∈ l', x.dl ≤ 1000000) ∧ Bw w w' := by
  refine (c_rhFrom va la LA low2 p seq most w h.row.at (h.all.bw h.old) (by omega) hk.inp h.dl w (h.all.bw h.old)).mono ?_
  rintro e w' ⟨v', l', rfl, h1, h2, h3, h4⟩
  rw [he, hk.from] at h2
  exact ⟨v', l', rfl, h1, h2.bw h4, h3, h4⟩
theorem pl_rAbove (h : Pl T wk w b r low R low2 va la LA) (hk : Lk low R LA) (he : low2 = low) (hn : la.length ≤ 1000) (s f : Int) :
    Calls Try.prog 45 #[.agg (refCells va low2), .agg #[.int .u64 s, .int .i64 f]] w fun e w' =>
      ∃ v' l', e = .returned v' ∧ Own6 w.heap.size w' v' l' ∧ DL w' l' (aboveD R s f) ∧ (∀ x ∈ l', x.dl ≤ 1000000) ∧ Bw w w' := by
  refine (c_rhAbove va la LA low2 s f w h.row.at (h.all.bw h.old) hn hk.inp h.dl w (h.all.bw h.old)).mono ?_
  rintro e w' ⟨v', l', rfl, h1, h2, h3, h4⟩
  rw [he, hk.over] at h2
  exact ⟨v', l', rfl, h1, h2.bw h4, h3, h4⟩
end
end Go.Proofs.Ytllmiaonlofeeaa
