/-
  The hold's calls, said of the hold as a whole. No conditions beyond what each theorem states.
-/
import Derived.Test.YtllmiaonlofeeaaHl
namespace Go.Proofs.Ytllmiaonlofeeaa
open Go.RowKit Go.Sort

def InP (p : Int) : Prop := 0 ≤ p ∧ p < 64
instance (p : Int) : Decidable (InP p) := by unfold InP; infer_instance
/-- How much is held; no more than so many. -/
def HBnd (low : Nat → Int) (R : Nat → List DM) (N : Nat) : Prop := ∀ i, i < 64 → 0 ≤ low i ∧ low i + (R i).length ≤ N
def putE (low : Nat → Int) (R : Nat → List DM) (D : DM) : Int := if InP D.frm then (if D.seq = low D.frm.toNat + (R D.frm.toNat).length + 1 then 0 else 13) else 1
def putR (low : Nat → Int) (R : Nat → List DM) (D : DM) : Nat → List DM := if putE low R D = 0 then upd R D.frm.toNat (R D.frm.toNat ++ [D]) else R
def dropU (low : Nat → Int) (R : Nat → List DM) (p upto : Int) : Int := min upto (low p.toNat + (R p.toNat).length)
def dropLow (low : Nat → Int) (R : Nat → List DM) (p upto : Int) : Nat → Int := if InP p ∧ low p.toNat < dropU low R p upto then upd low p.toNat (dropU low R p upto) else low
def dropR (low : Nat → Int) (R : Nat → List DM) (p upto : Int) : Nat → List DM := if InP p ∧ low p.toNat < dropU low R p upto then upd R p.toNat ((R p.toNat).drop (dropU low R p upto - low p.toNat).toNat) else R
def cntH (low : Nat → Int) (R : Nat → List DM) (p : Int) : Int := if InP p then low p.toNat + (R p.toNat).length else 0
def lowH (low : Nat → Int) (p : Int) : Int := if InP p then low p.toNat else 0
def fromH (low : Nat → Int) (R : Nat → List DM) (p seq most : Int) : List DM := if InP p ∧ 1 ≤ most ∧ seq ≤ low p.toNat + (R p.toNat).length then fromL (low p.toNat) seq most (R p.toNat) else []
def getOk (low : Nat → Int) (R : Nat → List DM) (p seq : Int) : Bool := decide (InP p ∧ low p.toNat < seq ∧ seq ≤ low p.toNat + (R p.toNat).length)
def zeroD : DM := ⟨0, 0, 0, 0, [], ⟨#[]⟩⟩
def getD (low : Nat → Int) (R : Nat → List DM) (p seq : Int) : DM := if getOk low R p seq then (R p.toNat)[(seq - low p.toNat - 1).toNat]! else zeroD
theorem InP.nat {p : Int} (h : InP p) : p = (p.toNat : Int) ∧ p.toNat < 64 := by unfold InP at h; omega

theorem HoldOn.len {F : Nat → Prop} {w : World} {b : Nat} {low : Nat → Int} {v : Nat → Value} {R : Nat → List DM} (h : HoldOn F w b low v R) {i : Nat} (hi : i < 64) : ∃ l, Own6 0 w (v i) l ∧ DL w l (R i) ∧ DepsAll F w l ∧ (∀ x ∈ l, x.dl ≤ 1000000) ∧ l.length = (R i).length := by
  obtain ⟨l, hl⟩ := h.rows
  exact ⟨l i, (hl i hi).1, (hl i hi).2.1, (hl i hi).2.2.1, (hl i hi).2.2.2, (hl i hi).2.1.1⟩

theorem h_New (w : World) : Calls Try.prog 32 #[] w fun e w' => e = .returned (.pointer (some ⟨w.heap.size, 0, none⟩)) ∧ HoldOn (fun _ => False) w' w.heap.size (fun _ => 0) noRow (fun _ => []) ∧ Bw w w' := by
  refine (c_hNew w).mono ?_
  rintro e w' ⟨rfl, h, rfl⟩
  exact ⟨rfl, HoldOn.start h, Bw.alloc _ _⟩
section
variable {F : Nat → Prop} {w : World} {b : Nat} {low : Nat → Int} {v : Nat → Value} {R : Nat → List DM}

theorem h_Count (H : HoldOn F w b low v R) (hB : HBnd low R 1000000) (p : Int) :
    Calls Try.prog 40 #[.pointer (some ⟨b, 0, none⟩), .int .i64 p] w fun e w' => e = .returned (.int .u32 (cntH low R p)) ∧ Gr w w' := by
  by_cases hp : InP p
  · obtain ⟨e1, e2⟩ := hp.nat
    obtain ⟨l, h1, h2, h3, h4, h5⟩ := H.len e2
    obtain ⟨a, c, hvf⟩ := h1.at.form
    have := c_hCount_in b p.toNat p low v a l.length c w H.blk e1 e2 hvf (hB _ e2).1 (by have := (hB _ e2).2; omega)
    unfold cntH
    rw [if_pos hp, ← h5]
    exact this
  · refine (c_hCount_out b p w hp).mono ?_
    rintro e w' ⟨rfl, rfl⟩
    unfold cntH
    rw [if_neg hp]
    exact ⟨rfl, Gr.refl _⟩
theorem h_Low (H : HoldOn F w b low v R) (p : Int) :
    Calls Try.prog 47 #[.pointer (some ⟨b, 0, none⟩), .int .i64 p] w fun e w' => e = .returned (.int .u32 (lowH low p)) ∧ w = w' := by
  unfold lowH
  by_cases hp : InP p
  · obtain ⟨e1, e2⟩ := hp.nat
    rw [if_pos hp]
    exact c_hLow_in b p.toNat p low v w H.blk e1 e2
  · rw [if_neg hp]
    exact c_hLow_out b p w hp

theorem h_Put (H : HoldOn F w b low v R) (hB : HBnd low R 999999) (x : Msg) (D : DM) (hx : Reads w x D) (hd : x.dl ≤ 1000000) (hok : 0 ≤ D.seq ∧ D.seq ≤ 4294967295) :
    Calls Try.prog 35 #[.pointer (some ⟨b, 0, none⟩), msgV x] w fun e w' => ∃ v', e = .returned (.int .i64 (putE low R D)) ∧ HoldOn (fun k => F k ∨ w.heap.size ≤ k) w' b low v' (putR low R D) ∧
      Keep (fun k => ¬ Gof b v k) w w' ∧ (∀ k, Gof b v' k → Gof b v k ∨ w.heap.size ≤ k) := by
  have hf := hx.frm
  by_cases hp : InP D.frm
  · obtain ⟨e1, e2⟩ := hp.nat
    obtain ⟨l, h1, h2, h3, h4, h5⟩ := H.len e2
    obtain ⟨a, c, hvf⟩ := h1.at.form
    have hb1 := hB _ e2
    by_cases hs : D.seq = low D.frm.toNat + (R D.frm.toNat).length + 1
    · have hE : putE low R D = 0 := by unfold putE; rw [if_pos hp, if_pos hs]
      refine (c_hPut_ok b D.frm.toNat x D low v l w H.blk (by rw [hf]; exact e1) e2 h1 hb1.1 (by omega) (by rw [hx.seq, hs, h5]) hx hd).mono ?_
      rintro e w' ⟨v', x', rfl, t1, t2, t3, t4, t5, t6, t7⟩
      refine ⟨upd v D.frm.toNat v', by rw [hE], ?_, t7.mono fun k hk => ⟨fun e => hk (Or.inl e), fun g hg e => hk (Or.inr ⟨_, e2, e ▸ hg⟩)⟩, fun k hk => Gof.turn e2 t6 hk⟩
      unfold putR
      rw [if_pos hE]
      have hq : ∀ q, U32 w q → q ≠ b ∧ ∀ g, (v D.frm.toNat).ownBlock = some g → q ≠ g := fun q hq => ⟨fun e => (H.hard (Or.inl e)) hq, fun g hg e => H.hard (Or.inr ⟨_, e2, e ▸ hg⟩) hq⟩
      refine H.turn e2 t1 t7 t2 (DL.snoc (h2.keep (h3.u32.mono fun q hq' => hq q hq'.2) t7) t3) (DepsAll.snoc ?_ (t4.mono fun k hk => Or.inr hk)) (fun y hy => ?_) t6 (fun k hk => Or.inl hk)
      · exact (DepsAll.keep (h3.u32.mono (P' := fun q => (F q ∨ w.heap.size ≤ q) ∧ q ≠ b ∧ ∀ g, (v D.frm.toNat).ownBlock = some g → q ≠ g) fun q hq' => ⟨Or.inl hq'.1, hq q hq'.2⟩) (t7.mono fun q hq => hq.2)).mono fun q hq => hq.1
      · rcases List.mem_append.1 hy with hy | hy
        · exact h4 y hy
        · rw [List.mem_singleton.1 hy]; exact t5
    · have hE : putE low R D = 13 := by unfold putE; rw [if_pos hp, if_neg hs]
      refine (c_hPut_order b D.frm.toNat x low v a l.length c w H.blk (by rw [hf]; exact e1) e2 hvf hb1.1 (by omega) (by rw [hx.seq]; exact hok.1) (by rw [hx.seq]; exact hok.2) (by rw [hx.seq, h5]; exact hs)).mono ?_
      rintro e w' ⟨rfl, hb⟩
      refine ⟨v, by rw [hE], ?_, hb.keep _, fun k hk => Or.inl hk⟩
      unfold putR
      rw [if_neg (by rw [hE]; decide)]
      exact (H.bw hb).mono fun k hk => Or.inl hk
  · have hE : putE low R D = 1 := by unfold putE; rw [if_neg hp]
    refine (c_hPut_range b x w (by rw [hf]; exact hp)).mono ?_
    rintro e w' ⟨rfl, hb⟩
    refine ⟨v, by rw [hE], ?_, hb.keep _, fun k hk => Or.inl hk⟩
    unfold putR
    rw [if_neg (by rw [hE]; decide)]
    exact (H.bw hb).mono fun k hk => Or.inl hk

theorem h_Drop (H : HoldOn F w b low v R) (hB : HBnd low R 1000000) (p upto : Int) (hu : 0 ≤ upto) :
    Calls Try.prog 33 #[.pointer (some ⟨b, 0, none⟩), .int .i64 p, .int .u32 upto] w fun e w' => ∃ v', e = .returned (.tuple #[]) ∧ HoldOn F w' b (dropLow low R p upto) v' (dropR low R p upto) ∧
      Keep (fun k => ¬ Gof b v k) w w' ∧ (∀ k, Gof b v' k → Gof b v k ∨ w.heap.size ≤ k) := by
  by_cases hp : InP p
  · obtain ⟨e1, e2⟩ := hp.nat
    obtain ⟨l, h1, h2, h3, h4, h5⟩ := H.len e2
    obtain ⟨a, c, hvf⟩ := h1.at.form
    have hb1 := hB _ e2
    by_cases hlt : low p.toNat < dropU low R p upto
    · unfold dropLow dropR
      rw [if_pos ⟨hp, hlt⟩, if_pos ⟨hp, hlt⟩]
      refine (c_hDrop_ok b p.toNat p upto (dropU low R p upto) low v l w H.blk e1 e2 h1 hb1.1 (by omega) (by unfold dropU; rw [h5]) hlt).mono ?_
      rintro e w' ⟨v', rfl, t1, t2, t3, t4⟩
      refine ⟨upd v p.toNat v', rfl, ?_, t4.mono fun k hk e => hk (Or.inl e), fun k hk => Gof.turn e2 (fun g hg => Or.inr (t3 g hg)) hk⟩
      have hq : ∀ q, U32 w q → q ≠ b := fun q hq e => (H.hard (Or.inl e)) hq
      obtain ⟨j, hj⟩ : ∃ j, j = (dropU low R p upto - low p.toNat).toNat := ⟨_, rfl⟩
      rw [← hj] at t2 ⊢
      refine H.turn e2 t1 (t4.mono fun k hk => hk.1) t2 ?_ ?_ (fun y hy => h4 y (List.mem_of_mem_drop hy)) (fun g hg => Or.inr (t3 g hg)) (fun k hk => hk)
      · have := (h2.keep (h3.u32.mono fun q hq' => hq q hq'.2) t4).dropTake j l.length
        rwa [List.take_of_length_le (by rw [List.length_drop]; omega), List.take_of_length_le (by rw [List.length_drop, ← h5]; omega)] at this
      · have := (DepsAll.keep (h3.u32.mono (P' := fun q => F q ∧ q ≠ b) fun q hq' => ⟨hq'.1, hq q hq'.2⟩) (t4.mono fun q hq => hq.2)).mono (P' := F) fun q hq => hq.1
        exact fun y hy => this y (List.mem_of_mem_drop hy)
    · unfold dropLow dropR
      rw [if_neg fun e => hlt e.2, if_neg fun e => hlt e.2]
      refine (c_hDrop_less b p.toNat p upto low v a l.length c w H.blk e1 e2 hvf hb1.1 (by omega) (by unfold dropU at hlt; rw [h5]; omega)).mono ?_
      rintro e w' ⟨rfl, hg⟩
      exact ⟨v, rfl, H.bw hg.bw, hg.bw.keep _, fun k hk => Or.inl hk⟩
  · unfold dropLow dropR
    rw [if_neg fun e => hp e.1, if_neg fun e => hp e.1]
    refine (c_hDrop_out b p upto w hp hu).mono ?_
    rintro e w' ⟨rfl, rfl⟩
    exact ⟨v, rfl, H, Keep.refl _ _, fun k hk => Or.inl hk⟩

theorem h_From (H : HoldOn F w b low v R) (hB : HBnd low R 1000000) (p seq most : Int) (hs : 0 ≤ seq) :
    Calls Try.prog 42 #[.pointer (some ⟨b, 0, none⟩), .int .i64 p, .int .u32 seq, .int .i64 most] w fun e w' =>
      ∃ v' l', e = .returned v' ∧ Own6 w.heap.size w' v' l' ∧ DL w' l' (fromH low R p seq most) ∧ DepsAll (fun k => w.heap.size ≤ k) w' l' ∧ (∀ x ∈ l', x.dl ≤ 1000000) ∧ Bw w w' := by
  have none : ∀ w', Bw w w' → ∃ v' l', Ending.returned (.slice none 0 0) = .returned v' ∧ Own6 w.heap.size w' v' l' ∧ DL w' l' [] ∧ DepsAll (fun k => w.heap.size ≤ k) w' l' ∧ (∀ x ∈ l', x.dl ≤ 1000000) ∧ Bw w w' :=
    fun w' hb => ⟨_, [], rfl, World.ownsRow_nil _ _ _ _, DL.nil _, (fun x hx => by cases hx), (fun x hx => by cases hx), hb⟩
  unfold fromH
  by_cases hp : InP p
  · obtain ⟨e1, e2⟩ := hp.nat
    obtain ⟨l, h1, h2, h3, h4, h5⟩ := H.len e2
    obtain ⟨a, c, hvf⟩ := h1.at.form
    have hb1 := hB _ e2
    by_cases hm : 1 ≤ most
    · by_cases hq : seq ≤ low p.toNat + (R p.toNat).length
      · rw [if_pos ⟨hp, hm, hq⟩]
        exact c_hFrom_in b p.toNat p seq most low v l (R p.toNat) w H.blk e1 e2 h1 h2 hb1.1 (by omega) h4 hm (by omega) hs
      · rw [if_neg fun e => hq e.2.2]
        refine (c_hFrom_far b p.toNat p seq most low v a l.length c w H.blk e1 e2 hvf hb1.1 (by omega) hm (by omega)).mono ?_
        rintro e w' ⟨rfl, hg⟩
        exact none w' hg.bw
    · rw [if_neg fun e => hm e.2.1]
      refine (c_hFrom_few b p seq most w hp (by omega)).mono ?_
      rintro e w' ⟨rfl, rfl⟩
      exact none w (Bw.refl _)
  · rw [if_neg fun e => hp e.1]
    refine (c_hFrom_out b p seq most w hp).mono ?_
    rintro e w' ⟨rfl, rfl⟩
    exact none w (Bw.refl _)

theorem zero_reads (w : World) : Reads w zeroM zeroD := ⟨rfl, rfl, rfl, rfl, ⟨rfl, Or.inl rfl⟩, rfl⟩
theorem h_Get (H : HoldOn F w b low v R) (hB : HBnd low R 1000000) (p seq : Int) (_ : 0 ≤ seq) :
    Calls Try.prog 38 #[.pointer (some ⟨b, 0, none⟩), .int .i64 p, .int .u32 seq] w fun e w' =>
      ∃ x, e = .returned (.tuple #[msgV x, .bool (getOk low R p seq)]) ∧ Reads w' x (getD low R p seq) ∧ DepsIn (fun k => w.heap.size ≤ k) w' x.da x.dl ∧ x.dl ≤ 1000000 ∧ Bw w w' := by
  have none : ∀ w', Bw w w' → getOk low R p seq = false → ∃ x, Ending.returned (.tuple #[msgV zeroM, .bool false]) = .returned (.tuple #[msgV x, .bool (getOk low R p seq)]) ∧ Reads w' x (getD low R p seq) ∧ DepsIn (fun k => w.heap.size ≤ k) w' x.da x.dl ∧ x.dl ≤ 1000000 ∧ Bw w w' := by
    intro w' hb ho
    refine ⟨zeroM, by rw [ho], ?_, Or.inl rfl, by decide, hb⟩
    unfold getD
    rw [ho]
    exact zero_reads w'
  by_cases hp : InP p
  · obtain ⟨e1, e2⟩ := hp.nat
    obtain ⟨l, h1, h2, h3, h4, h5⟩ := H.len e2
    obtain ⟨a, c, hvf⟩ := h1.at.form
    have hb1 := hB _ e2
    by_cases hq : low p.toNat < seq ∧ seq ≤ low p.toNat + (R p.toNat).length
    · have ho : getOk low R p seq = true := by unfold getOk; exact decide_eq_true ⟨hp, hq⟩
      refine (c_hGet_in b p.toNat p seq low v l (R p.toNat) w H.blk e1 e2 h1 h2 hb1.1 (by omega) h4 hq.1 (by omega)).mono ?_
      rintro e w' ⟨x, rfl, t1, t2, t3, t4⟩
      refine ⟨x, by rw [ho], ?_, t2, t3, t4⟩
      unfold getD
      rw [ho]
      exact t1
    · have ho : getOk low R p seq = false := by unfold getOk; exact decide_eq_false fun e => hq e.2
      refine (c_hGet_none b p.toNat p seq low v a l.length c w H.blk e1 e2 hvf hb1.1 (by omega) (by omega)).mono ?_
      rintro e w' ⟨rfl, hb⟩
      exact none w' hb ho
  · have ho : getOk low R p seq = false := by unfold getOk; exact decide_eq_false fun e => hp e.1
    refine (c_hGet_out b p seq w hp).mono ?_
    rintro e w' ⟨rfl, hb⟩
    exact none w' hb ho

def totD (R : Nat → List DM) : Nat := ((List.range 64).flatMap R).length
theorem flat_len {α β : Type} {l : Nat → List α} {R : Nat → List β} : ∀ n, (∀ i, i < n → (l i).length = (R i).length) → ((List.range n).flatMap l).length = ((List.range n).flatMap R).length
  | 0, _ => rfl
  | n + 1, h => by
    rw [List.range_succ, List.flatMap_append, List.flatMap_append, List.length_append, List.length_append, flat_len n fun i hi => h i (by omega)]
    simp [h n (by omega)]
theorem h_Above (H : HoldOn F w b low v R) (hT : totD R ≤ 1000000) (s f : Int) :
    Calls Try.prog 43 #[.pointer (some ⟨b, 0, none⟩), .agg #[.int .u64 s, .int .i64 f]] w fun e w' =>
      ∃ v' l', e = .returned v' ∧ Own6 w.heap.size w' v' l' ∧ DL w' l' (aboveD R s f) ∧ DepsAll (fun k => w.heap.size ≤ k) w' l' ∧ (∀ x ∈ l', x.dl ≤ 1000000) ∧ Bw w w' := by
  obtain ⟨l, hl⟩ := H.rows
  refine c_hAbove b s f low v l R w H.blk (fun i hi => (hl i hi).1) (fun i hi => (hl i hi).2.1) (fun i hi => (hl i hi).2.2.2) ?_
  unfold off
  rw [flat_len 64 fun i hi => (hl i hi).2.1.1]
  exact hT
theorem h_Vector (H : HoldOn F w b low v R) (hB : HBnd low R 1000000) (n : Int) (m : Nat) (hm : max 0 (min n 64) = (m : Int)) :
    Calls Try.prog 46 #[.pointer (some ⟨b, 0, none⟩), .int .i64 n] w fun e w' => ∃ v' us, e = .returned v' ∧ OwnU w.heap.size w' v' us ∧ us = (List.range m).map (fun i : Nat => cntH low R (i : Int)) ∧ Bw w w' := by
  obtain ⟨l, hl⟩ := H.rows
  refine (c_hVector b m n low v l w H.blk (fun i hi => (hl i hi).1) (fun i hi => ?_) hm).mono ?_
  · rw [(hl i hi).2.1.1]; exact hB i hi
  · rintro e w' ⟨v', rfl, h1, h2⟩
    refine ⟨v', _, rfl, h1, ?_, h2⟩
    apply List.map_congr_left
    intro i hi
    have : i < m := List.mem_range.1 hi
    have hi64 : i < 64 := by omega
    have hp : InP (i : Int) := ⟨by omega, by omega⟩
    unfold cntH
    rw [if_pos hp, Int.toNat_natCast, (hl i hi64).2.1.1]
theorem h_Copy (H : HoldOn F w b low v R) (hB : HBnd low R 1000000) :
    Calls Try.prog 51 #[.pointer (some ⟨b, 0, none⟩)] w fun e w' => ∃ v', e = .returned (.pointer (some ⟨w.heap.size, 0, none⟩)) ∧ HoldOn F w' w.heap.size low v' R ∧ (∀ k, Gof w.heap.size v' k → w.heap.size ≤ k) ∧ Bw w w' := by
  obtain ⟨l, hl⟩ := H.rows
  refine (c_hCopy b low v l w H.blk (fun i hi => (hl i hi).1) (fun i hi => ?_)).mono ?_
  · rw [(hl i hi).2.1.1]; have := hB i hi; omega
  · rintro e w' ⟨v', rfl, h1, h2, h3, h4⟩
    refine ⟨v', rfl, ⟨h1, ⟨l, fun i hi => ⟨(h2 i hi).mono (Nat.zero_le _), (hl i hi).2.1.bw h4, (hl i hi).2.2.1.bw h4, (hl i hi).2.2.2⟩⟩, h3⟩, ?_, h4⟩
    rintro k (rfl | ⟨i, hi, hg⟩)
    · exact Nat.le_refl _
    · exact (World.ownsRow.lt (h2 i hi) k hg).1
end
end Go.Proofs.Ytllmiaonlofeeaa
