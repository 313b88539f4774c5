/-
  A hold that was made since a world; awake. No conditions beyond what each theorem states.
-/
import Derived.Test.YtllmiaonlofeeaaHm
import Derived.Test.YtllmiaonlofeeaaHk
namespace Go.Proofs.Ytllmiaonlofeeaa
open Go.RowKit Go.Sort

/-- A hold whose calls write nothing of what P names. -/
def HF (P : Nat → Prop) (w : World) (b : Nat) (low : Nat → Int) (R : Nat → List DM) : Prop := ∃ F v, HoldOn F w b low v R ∧ (∀ k, Gof b v k → ¬ P k) ∧ ∀ k, P k → k < w.heap.size
section
variable {P : Nat → Prop} {w w' : World} {b : Nat} {low : Nat → Int} {R : Nat → List DM}
theorem HF.bw (h : HF P w b low R) (k : Bw w w') : HF P w' b low R := by
  obtain ⟨F, v, h1, h2, h3⟩ := h
  exact ⟨F, v, h1.bw k, h2, fun i hi => Nat.lt_of_lt_of_le (h3 i hi) k.size⟩
theorem HF.less {P' : Nat → Prop} (h : HF P w b low R) (hp : ∀ k, P' k → P k) : HF P' w b low R := by
  obtain ⟨F, v, h1, h2, h3⟩ := h
  exact ⟨F, v, h1, fun k hk hq => h2 k hk (hp k hq), fun k hk => h3 k (hp k hk)⟩
theorem HF.add (h : HF P w b low R) (k : Bw w w') : HF (fun i => P i ∨ (w.heap.size ≤ i ∧ i < w'.heap.size)) w' b low R := by
  obtain ⟨F, v, h1, h2, h3⟩ := h
  refine ⟨F, v, h1.bw k, fun i hi hq => ?_, fun i hi => ?_⟩
  · rcases hq with hq | hq
    · exact h2 i hi hq
    · have := h1.lt hi; omega
  · rcases hi with hi | hi
    · exact Nat.lt_of_lt_of_le (h3 i hi) k.size
    · exact hi.2
theorem HF.keep {Q : Nat → Prop} (h : HF P w b low R) (k : Keep Q w w') (hq : ∀ k, ¬ P k → Q k) (hu : ∀ k, U32 w k → Q k) : HF P w' b low R := by
  obtain ⟨F, v, h1, h2, h3⟩ := h
  exact ⟨F, v, h1.keep k (fun i hi => hq i (h2 i hi)) (fun i _ hi => hu i hi), h2, fun i hi => Nat.lt_of_lt_of_le (h3 i hi) k.size⟩
/-- Another's calls: new blocks are none of this hold's. -/
theorem HF.grow {Q : Nat → Prop} (h : HF P w b low R) (k : Keep Q w w') (hq : ∀ k, ¬ P k → k < w.heap.size → Q k) (hu : ∀ k, U32 w k → Q k) : HF (fun i => P i ∨ (w.heap.size ≤ i ∧ i < w'.heap.size)) w' b low R := by
  obtain ⟨F, v, h1, h2, h3⟩ := h
  refine ⟨F, v, h1.keep k (fun i hi => hq i (h2 i hi) (h1.lt hi)) (fun i _ hi => hu i hi), fun i hi hp => ?_, fun i hi => ?_⟩
  · rcases hp with hp | hp
    · exact h2 i hi hp
    · have := h1.lt hi; omega
  · rcases hi with hi | hi
    · exact Nat.lt_of_lt_of_le (h3 i hi) k.size
    · exact hi.2
theorem HF.set (h : HF P w b low R) {p : Addr} (hp : P p.block) {c : Array Value} (hu : w.heap[p.block]? = some (.cells c 43 (0, 0))) (u : Value) : HF P (w.setCell p u) b low R :=
  h.keep (Q := fun k => k ≠ p.block) ((Keep.refl _ _).setCell (fun e => e rfl) u) (fun _ hk e => hk (e ▸ hp)) (fun _ hk e => not_u32_row hu (e ▸ hk))
theorem hf_New (w : World) : Calls Try.prog 32 #[] w fun e w' => e = .returned (.pointer (some ⟨w.heap.size, 0, none⟩)) ∧ HF (fun k => k < w.heap.size) w' w.heap.size (fun _ => 0) (fun _ => []) ∧ Bw w w' := by
  refine (h_New w).mono ?_
  rintro e w' ⟨rfl, h1, h2⟩
  refine ⟨rfl, ⟨_, _, h1, ?_, fun k hk => Nat.lt_of_lt_of_le hk h2.size⟩, h2⟩
  rintro k (rfl | ⟨i, hi, hg⟩)
  · exact Nat.lt_irrefl _
  · simp [noRow, Value.ownBlock] at hg
theorem hf_Put2 (h : HF P w b low R) (hB : HBnd low R 999999) (x : Msg) (D : DM) (hx : Reads w x D) (hd : x.dl ≤ 1000000) (hok : 0 ≤ D.seq ∧ D.seq ≤ 4294967295) :
    Calls Try.prog 35 #[.pointer (some ⟨b, 0, none⟩), msgV x] w fun e w' => e = .returned (.int .i64 (putE low R D)) ∧ HF P w' b low (putR low R D) ∧ Keep (fun k => P k ∨ U32 w k) w w' := by
  obtain ⟨F, v, h1, h2, h3⟩ := h
  refine (h_Put h1 hB x D hx hd hok).mono ?_
  rintro e w' ⟨v', rfl, t1, t2, t3⟩
  refine ⟨rfl, ⟨_, v', t1, fun k hk hp => ?_, fun k hk => Nat.lt_of_lt_of_le (h3 k hk) t2.size⟩, t2.mono fun k hk hg => hk.elim (h2 k hg) (h1.hard hg)⟩
  rcases t3 k hk with h4 | h4
  · exact h2 k h4 hp
  · have := h3 k hp; omega
theorem hf_Put (h : HF P w b low R) (hB : HBnd low R 999999) (x : Msg) (D : DM) (hx : Reads w x D) (hd : x.dl ≤ 1000000) (hok : 0 ≤ D.seq ∧ D.seq ≤ 4294967295) :
    Calls Try.prog 35 #[.pointer (some ⟨b, 0, none⟩), msgV x] w fun e w' => e = .returned (.int .i64 (putE low R D)) ∧ HF P w' b low (putR low R D) ∧ Keep P w w' := by
  refine (hf_Put2 h hB x D hx hd hok).mono ?_
  rintro e w' ⟨h1, h2, h3⟩
  exact ⟨h1, h2, h3.mono fun k hk => Or.inl hk⟩
theorem hf_Drop2 (h : HF P w b low R) (hB : HBnd low R 1000000) (p upto : Int) (hu : 0 ≤ upto) :
    Calls Try.prog 33 #[.pointer (some ⟨b, 0, none⟩), .int .i64 p, .int .u32 upto] w fun e w' => e = .returned (.tuple #[]) ∧ HF P w' b (dropLow low R p upto) (dropR low R p upto) ∧ Keep (fun k => P k ∨ U32 w k) w w' := by
  obtain ⟨F, v, h1, h2, h3⟩ := h
  refine (h_Drop h1 hB p upto hu).mono ?_
  rintro e w' ⟨v', rfl, t1, t2, t3⟩
  refine ⟨rfl, ⟨_, v', t1, fun k hk hp => ?_, fun k hk => Nat.lt_of_lt_of_le (h3 k hk) t2.size⟩, t2.mono fun k hk hg => hk.elim (h2 k hg) (h1.hard hg)⟩
  rcases t3 k hk with h4 | h4
  · exact h2 k h4 hp
  · have := h3 k hp; omega
theorem hf_Drop (h : HF P w b low R) (hB : HBnd low R 1000000) (p upto : Int) (hu : 0 ≤ upto) :
    Calls Try.prog 33 #[.pointer (some ⟨b, 0, none⟩), .int .i64 p, .int .u32 upto] w fun e w' => e = .returned (.tuple #[]) ∧ HF P w' b (dropLow low R p upto) (dropR low R p upto) ∧ Keep P w w' := by
  refine (hf_Drop2 h hB p upto hu).mono ?_
  rintro e w' ⟨h1, h2, h3⟩
  exact ⟨h1, h2, h3.mono fun k hk => Or.inl hk⟩
theorem hf_Count (h : HF P w b low R) (hB : HBnd low R 1000000) (p : Int) :
    Calls Try.prog 40 #[.pointer (some ⟨b, 0, none⟩), .int .i64 p] w fun e w' => e = .returned (.int .u32 (cntH low R p)) ∧ Gr w w' := by
  obtain ⟨F, v, h1, h2, h3⟩ := h
  exact h_Count h1 hB p
theorem hf_Low (h : HF P w b low R) (p : Int) :
    Calls Try.prog 47 #[.pointer (some ⟨b, 0, none⟩), .int .i64 p] w fun e w' => e = .returned (.int .u32 (lowH low p)) ∧ w = w' := by
  obtain ⟨F, v, h1, h2, h3⟩ := h
  exact h_Low h1 p
theorem hf_Get (h : HF P w b low R) (hB : HBnd low R 1000000) (p seq : Int) (hs : 0 ≤ seq) :
    Calls Try.prog 38 #[.pointer (some ⟨b, 0, none⟩), .int .i64 p, .int .u32 seq] w fun e w' =>
      ∃ x, e = .returned (.tuple #[msgV x, .bool (getOk low R p seq)]) ∧ Reads w' x (getD low R p seq) ∧ x.dl ≤ 1000000 ∧ Bw w w' := by
  obtain ⟨F, v, h1, h2, h3⟩ := h
  refine (h_Get h1 hB p seq hs).mono ?_
  rintro e w' ⟨x, rfl, t1, t2, t3, t4⟩
  exact ⟨x, rfl, t1, t3, t4⟩
theorem hf_From (h : HF P w b low R) (hB : HBnd low R 1000000) (p seq most : Int) (hs : 0 ≤ seq) :
    Calls Try.prog 42 #[.pointer (some ⟨b, 0, none⟩), .int .i64 p, .int .u32 seq, .int .i64 most] w fun e w' =>
      ∃ v' l', e = .returned v' ∧ Own6 w.heap.size w' v' l' ∧ DL w' l' (fromH low R p seq most) ∧ (∀ x ∈ l', x.dl ≤ 1000000) ∧ Bw w w' := by
  obtain ⟨F, v, h1, h2, h3⟩ := h
  refine (h_From h1 hB p seq most hs).mono ?_
  rintro e w' ⟨v', l', rfl, t1, t2, t3, t4, t5⟩
  exact ⟨v', l', rfl, t1, t2, t4, t5⟩
theorem hf_Above (h : HF P w b low R) (hT : totD R ≤ 1000000) (s f : Int) :
    Calls Try.prog 43 #[.pointer (some ⟨b, 0, none⟩), .agg #[.int .u64 s, .int .i64 f]] w fun e w' =>
      ∃ v' l', e = .returned v' ∧ Own6 w.heap.size w' v' l' ∧ DL w' l' (aboveD R s f) ∧ (∀ x ∈ l', x.dl ≤ 1000000) ∧ Bw w w' := by
  obtain ⟨F, v, h1, h2, h3⟩ := h
  refine (h_Above h1 hT s f).mono ?_
  rintro e w' ⟨v', l', rfl, t1, t2, t3, t4, t5⟩
  exact ⟨v', l', rfl, t1, t2, t4, t5⟩
theorem hf_Vector (h : HF P w b low R) (hB : HBnd low R 1000000) (n : Int) (m : Nat) (hm : max 0 (min n 64) = (m : Int)) :
    Calls Try.prog 46 #[.pointer (some ⟨b, 0, none⟩), .int .i64 n] w fun e w' => ∃ v' us, e = .returned v' ∧ OwnU w.heap.size w' v' us ∧ us = (List.range m).map (fun i : Nat => cntH low R (i : Int)) ∧ Bw w w' := by
  obtain ⟨F, v, h1, h2, h3⟩ := h
  exact h_Vector h1 hB n m hm
/-- A copy writes nothing of the hold's, and the hold nothing of the copy's. -/
theorem hf_Copy (h : HF P w b low R) (hB : HBnd low R 1000000) :
    Calls Try.prog 51 #[.pointer (some ⟨b, 0, none⟩)] w fun e w' => e = .returned (.pointer (some ⟨w.heap.size, 0, none⟩)) ∧ HF (fun k => k < w.heap.size) w' w.heap.size low R ∧ Bw w w' := by
  obtain ⟨F, v, h1, h2, h3⟩ := h
  refine (h_Copy h1 hB).mono ?_
  rintro e w' ⟨v', rfl, t1, t2, t3⟩
  exact ⟨rfl, ⟨_, _, t1, fun k hk hq => by have := t2 k hk; omega, fun k hk => Nat.lt_of_lt_of_le hk t3.size⟩, t3⟩
end

/-! ### awake -/
def aD1 : DM := ⟨2, 1, 5, 0, [1], ⟨#[]⟩⟩
def aD2 : DM := ⟨2, 3, 0, 0, [], ⟨#[]⟩⟩
def low0 : Nat → Int := fun _ => 0
def aR1 : Nat → List DM := upd (fun _ => []) 2 [aD1]
def aL2 : Nat → Int := upd low0 2 1
def aR2 : Nat → List DM := upd aR1 2 []
theorem upd_len {R : Nat → List DM} {n i N : Nat} {l : List DM} {low : Nat → Int} (h : HBnd low R N) (hl : 0 ≤ low i ∧ low i + l.length ≤ N) (_ : n = i) : HBnd low (upd R i l) N := fun j hj => by
  by_cases e : j = i
  · subst e; rw [upd_at]; exact hl
  · rw [upd_ne _ _ e]; exact h j hj
theorem bnd0 (N : Nat) : HBnd low0 (fun _ => []) N := fun i _ => ⟨Int.le_refl _, by simp [low0]⟩
theorem bnd1 {N : Nat} (h : 1 ≤ N) : HBnd low0 aR1 N := upd_len (n := 2) (bnd0 N) ⟨Int.le_refl _, by simp [low0]; omega⟩ rfl
theorem bnd2 {N : Nat} (h : 1 ≤ N) : HBnd aL2 aR2 N := fun j hj => by
  unfold aL2 aR2
  by_cases e : j = 2
  · subst e; rw [upd_at, upd_at]; exact ⟨by decide, by simp; omega⟩
  · rw [upd_ne _ _ e, upd_ne _ _ e]; exact bnd1 h j hj
theorem a_put1 : putE low0 (fun _ => []) aD1 = 0 ∧ putR low0 (fun _ => []) aD1 = aR1 := ⟨rfl, rfl⟩
theorem a_put2 : putE low0 aR1 aD2 = 13 ∧ putR low0 aR1 aD2 = aR1 := ⟨rfl, rfl⟩
theorem a_get1 : getOk low0 aR1 2 1 = true ∧ (getD low0 aR1 2 1).stamp = 5 := ⟨rfl, rfl⟩
theorem a_above : (aboveD aR1 4 0).length = 1 := by rfl
theorem a_drop : dropLow low0 aR1 2 1 = aL2 ∧ dropR low0 aR1 2 1 = aR2 := ⟨rfl, rfl⟩
theorem a_get2 : getOk aL2 aR2 2 1 = false := rfl
theorem a_cnt : cntH aL2 aR2 2 = 1 ∧ lowH aL2 2 = 1 := ⟨rfl, rfl⟩

set_option maxRecDepth 100000 in
set_option maxHeartbeats 2000000 in
theorem c_awake12 (w : World) : Calls Try.prog 30 #[] w fun e w' => e = .returned (.bool true) ∧ Bw w w' := by
  go_enter Try.func30, Try.ntmps30
  go_wp2_with fail
  refine (hf_New w).mono ?_
  rintro e w1 ⟨rfl, h1, b1⟩
  have H1 := Lib.hid h1
  have B1 := Lib.hid b1
  clear h1 b1
  go_wp2_with fail
  obtain ⟨b, hb⟩ : ∃ b, b = w.heap.size := ⟨_, rfl⟩
  have hP0 : (fun k => k < w.heap.size) = fun k => k < b := by rw [hb]
  rw [hP0, ← hb] at H1
  rw [← hb]
  have HB := Lib.hid hb
  clear hb hP0
  have ba := Bw.alloc w1 (.cells #[.int .u32 1] 40)
  have hx1 : Reads (w1.alloc (.cells #[.int .u32 1] 40)) ⟨2, 1, 5, 0, some ⟨w1.heap.size, 0, none⟩, 1, 1, ⟨#[]⟩⟩ aD1 :=
    ⟨rfl, rfl, rfl, rfl, ⟨rfl, Or.inr ⟨w1.heap.size, 0, rfl, lt_blk (heap_alloc_new _ _), fun i hi => by rw [cell_blk (heap_alloc_new _ _)]; match i, hi with | 0, _ => rfl⟩⟩, rfl⟩
  refine (hf_Put (H1.out.bw ba) (bnd0 _) ⟨2, 1, 5, 0, some ⟨w1.heap.size, 0, none⟩, 1, 1, ⟨#[]⟩⟩ aD1 hx1 (show (1 : Nat) ≤ 1000000 by decide) (by decide)).mono ?_
  rintro e w2 ⟨rfl, h2, k2⟩
  rw [show putR (fun _ => 0) (fun _ => []) aD1 = aR1 from rfl] at h2
  rw [show putE (fun _ => 0) (fun _ => []) aD1 = 0 from rfl]
  have H2 := Lib.hid h2
  have B2 : Hid (Bw w w2) := by
    have hbs : b ≤ (w1.alloc (.cells #[.int .u32 1] 40)).heap.size := by rw [HB.out]; exact Nat.le_trans B1.out.size ba.size
    exact Below.trans B1.out (Below.trans (ba.below_of (by rw [← HB.out]; have := B1.out.size; rw [← HB.out] at this; exact this)) (by rw [← HB.out]; exact k2.below hbs fun k hk => hk))
  clear h2 hx1 ba k2
  go_wp2_with fail
  refine (hf_Put H2.out (bnd1 (by decide)) ⟨2, 3, 0, 0, none, 0, 0, ⟨#[]⟩⟩ aD2 ⟨rfl, rfl, rfl, rfl, ⟨rfl, Or.inl rfl⟩, rfl⟩ (by decide) (by decide)).mono ?_
  rintro e w3 ⟨rfl, h3, k3⟩
  rw [show putR (fun _ => 0) aR1 aD2 = aR1 from rfl] at h3
  rw [show putE (fun _ => 0) aR1 aD2 = 13 from rfl]
  have H3 := Lib.hid h3
  have B3 : Hid (Bw w w3) := Below.trans B2.out (by rw [← HB.out]; exact k3.below (by rw [HB.out]; exact B2.out.size) fun k hk => hk)
  clear h3 H2 k3
  go_wp2_with fail
  refine (hf_Get H3.out (bnd1 (by decide)) 2 1 (by decide)).mono ?_
  rintro e w4 ⟨x, rfl, t1, t2, t3⟩
  have hs : x.stamp = 5 := t1.stamp
  rw [show getOk (fun _ => 0) aR1 2 1 = true from rfl]
  have H4 := Lib.hid (H3.out.bw t3)
  have B4 := Lib.hid (B3.out.trans t3)
  clear t1 t2 t3 H3
  simp only [msgV]
  go_wp2_with fail
  obtain ⟨w5, hw5⟩ : ∃ w5, w5 = w4.alloc (.cells #[.int .i64 x.frm, .int .u32 x.seq, .int .u64 5, .int .i64 x.svc, .slice x.da x.dl x.dc, .string x.pay] 43) := ⟨_, rfl⟩
  have hb5 : Bw w4 w5 := hw5 ▸ Bw.alloc w4 _
  have H5 := Lib.hid (H4.out.add hb5)
  have hn5 : w5.heap[w4.heap.size]? = some (.cells #[.int .i64 x.frm, .int .u32 x.seq, .int .u64 5, .int .i64 x.svc, .slice x.da x.dl x.dc, .string x.pay] 43 (0, 0)) := hw5 ▸ heap_alloc_new _ _
  have B5 := Lib.hid (B4.out.trans hb5)
  have HP5 : Hid (w4.heap.size < w5.heap.size) := lt_blk hn5
  rw [← hw5]
  have N5 := Lib.hid hn5
  clear hw5 hn5 H4 hb5
  refine (hf_Above H5.out (show totD aR1 ≤ 1000000 by decide) 4 0).mono ?_
  rintro e w6 ⟨v6, l6, rfl, t1, t2, t3, t4⟩
  obtain ⟨a6, c6, rfl⟩ := t1.at.form
  have hl6 : l6.length = 1 := by rw [t2.1]; exact a_above
  rw [hl6]
  have N6 := Lib.hid (t4.blk N5.out)
  have H6 := Lib.hid (H5.out.bw t4)
  have B6 := Lib.hid (B5.out.trans t4)
  clear t1 t2 t3 t4 hl6 N5 H5
  go_wp2_with fail
  refine (hf_Drop H6.out (bnd1 (by decide)) 2 1 (by decide)).mono ?_
  rintro e w7 ⟨rfl, h7, k7⟩
  rw [show dropLow (fun _ => 0) aR1 2 1 = aL2 from rfl, show dropR (fun _ => 0) aR1 2 1 = aR2 from rfl] at h7
  have N7 := Lib.hid (k7.blk (Or.inr ⟨Nat.le_refl _, HP5.out⟩) N6.out)
  have H7 := Lib.hid h7
  have B7 : Hid (Bw w w7) := Below.trans B6.out (by rw [← HB.out]; exact (k7.mono fun k hk => Or.inl hk).below (by rw [HB.out]; exact B6.out.size) fun k hk => hk)
  clear N6 H6 k7 h7
  go_wp2_with fail
  refine (hf_Get H7.out (bnd2 (by decide)) 2 1 (by decide)).mono ?_
  rintro e w8 ⟨y, rfl, t1, t2, t3⟩
  rw [show getOk aL2 aR2 2 1 = false from rfl]
  have N8 := Lib.hid (t3.blk N7.out)
  have H8 := Lib.hid (H7.out.bw t3)
  have B8 := Lib.hid (B7.out.trans t3)
  clear t1 t2 t3 N7 H7
  simp only [msgV]
  go_upto_region 10 with fail
  obtain ⟨w9, hw9⟩ : ∃ w9, w9 = w8.alloc (.cells #[.int .i64 y.frm, .int .u32 y.seq, .int .u64 y.stamp, .int .i64 y.svc, .slice y.da y.dl y.dc, .string y.pay] 43) := ⟨_, rfl⟩
  have hb9 : Bw w8 w9 := hw9 ▸ Bw.alloc w8 _
  rw [← hw9]
  have H9 := Lib.hid (H8.out.bw hb9)
  have B9 := Lib.hid (B8.out.trans hb9)
  have c9 : w9.cell? ⟨w4.heap.size, 2, none⟩ = some (.int .u64 5) := cell_blk (hb9.blk N8.out)
  clear N8 H8 hb9 hw9
  go_wp2_with fail
  refine (hf_Low H9.out 2).mono ?_
  rintro e w10 ⟨rfl, rfl⟩
  rw [show lowH aL2 2 = 1 from rfl]
  go_wp2_with fail
  refine (hf_Count H9.out (bnd2 (by decide)) 2).mono ?_
  rintro e w11 ⟨rfl, hg⟩
  rw [show cntH aL2 aR2 2 = 1 from rfl]
  have H11 := Lib.hid (H9.out.bw hg.bw)
  have B11 := Lib.hid (B9.out.trans hg.bw)
  clear hg
  go_wp2_with fail
  refine (hf_Vector H11.out (bnd2 (by decide)) 3 3 (by decide)).mono ?_
  rintro e w12 ⟨v12, us, rfl, t1, t2, t3⟩
  obtain ⟨a12, c12, rfl⟩ := t1.form
  have hl12 : us.length = 3 := by rw [t2]; simp
  rw [hl12]
  have B12 := Lib.hid (B11.out.trans t3)
  clear t1 t2 t3 hl12
  go_wp2
  go_ret
  exact ⟨rfl, B12.out⟩
end Go.Proofs.Ytllmiaonlofeeaa
