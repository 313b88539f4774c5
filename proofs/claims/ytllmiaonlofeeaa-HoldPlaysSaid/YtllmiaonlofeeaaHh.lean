/-
  A hold in memory, as a whole: what it stands on, what keeps it. No conditions beyond what each theorem states.
-/
import Derived.Test.YtllmiaonlofeeaaHf
namespace Go.Proofs.Ytllmiaonlofeeaa
open Go.RowKit Go.Sort

/-- A block of numbers. -/
def U32 (w : World) (k : Nat) : Prop := ∃ c, w.heap[k]? = some (.cells c 40 (0, 0))
theorem DepsIn.u32 {P : Nat → Prop} {w : World} {a : Option Addr} {n : Nat} (h : DepsIn P w a n) : DepsIn (fun k => P k ∧ U32 w k) w a n := by
  rcases h with h | ⟨b, o, c, e, p, q⟩
  · exact Or.inl h
  · exact Or.inr ⟨b, o, c, e, ⟨p, c, q⟩, q⟩
theorem DepsAll.u32 {P : Nat → Prop} {w : World} {l : List Msg} (h : DepsAll P w l) : DepsAll (fun k => P k ∧ U32 w k) w l := fun x hx => (h x hx).u32
theorem Own6.keep {P : Nat → Prop} {base : Nat} {w w' : World} {v : Value} {l : List Msg} (h : Own6 base w v l) (k : Keep P w w') (hP : ∀ g, v.ownBlock = some g → P g) : Own6 base w' v l := by
  refine ⟨h.1, ?_⟩
  rcases h.2 with hn | ⟨g, cap, cur, rfl, hb, hgg, rest⟩
  · exact .inl hn
  · exact .inr ⟨g, cap, cur, rfl, hb, k.blk (hP g rfl) hgg, rest⟩
theorem own_row_type {base : Nat} {w : World} {v : Value} {l : List Msg} (h : Own6 base w v l) {g : Nat} (hg : v.ownBlock = some g) : ∃ cur, w.heap[g]? = some (.cells cur 43 (0, 0)) := by
  rcases h.2 with ⟨rfl, _⟩ | ⟨g', cap, cur, rfl, _, hg', _⟩
  · simp [Value.ownBlock] at hg
  · simp only [Value.ownBlock, Option.some.injEq] at hg
    subst hg
    exact ⟨cur, hg'⟩
theorem not_u32_row {w : World} {g : Nat} {cur : Array Value} (h : w.heap[g]? = some (.cells cur 43 (0, 0))) : ¬ U32 w g := fun ⟨c, hc⟩ => by rw [h] at hc; simp at hc
theorem not_u32_hold {w : World} {g : Nat} {cur : Array Value} (h : w.heap[g]? = some (.cells cur 98 (0, 0))) : ¬ U32 w g := fun ⟨c, hc⟩ => by rw [h] at hc; simp at hc

/-- The blocks that a hold's calls may write. -/
def Gof (b : Nat) (v : Nat → Value) : Nat → Prop := fun k => k = b ∨ ∃ i, i < 64 ∧ (v i).ownBlock = some k
structure HoldOn (F : Nat → Prop) (w : World) (b : Nat) (low : Nat → Int) (v : Nat → Value) (R : Nat → List DM) : Prop where
  blk : HoldBlk w b low v
  rows : ∃ l : Nat → List Msg, ∀ i, i < 64 → Own6 0 w (v i) (l i) ∧ DL w (l i) (R i) ∧ DepsAll F w (l i) ∧ ∀ x ∈ l i, x.dl ≤ 1000000
  apart : ∀ i j, i < 64 → j < 64 → i ≠ j → ∀ g, (v i).ownBlock = some g → (v j).ownBlock ≠ some g
theorem HoldOn.hard {F : Nat → Prop} {w : World} {b : Nat} {low : Nat → Int} {v : Nat → Value} {R : Nat → List DM} (h : HoldOn F w b low v R) {k : Nat} (hk : Gof b v k) : ¬ U32 w k := by
  obtain ⟨l, hl⟩ := h.rows
  rcases hk with rfl | ⟨i, hi, hg⟩
  · exact not_u32_hold h.blk
  · obtain ⟨cur, hc⟩ := own_row_type (hl i hi).1 hg
    exact not_u32_row hc
theorem HoldOn.lt {F : Nat → Prop} {w : World} {b : Nat} {low : Nat → Int} {v : Nat → Value} {R : Nat → List DM} (h : HoldOn F w b low v R) {k : Nat} (hk : Gof b v k) : k < w.heap.size := by
  obtain ⟨l, hl⟩ := h.rows
  rcases hk with rfl | ⟨i, hi, hg⟩
  · exact lt_blk h.blk
  · obtain ⟨cur, hc⟩ := own_row_type (hl i hi).1 hg
    exact lt_blk hc
theorem HoldOn.keep {F P : Nat → Prop} {w w' : World} {b : Nat} {low : Nat → Int} {v : Nat → Value} {R : Nat → List DM} (h : HoldOn F w b low v R) (k : Keep P w w') (hG : ∀ k, Gof b v k → P k) (hF : ∀ k, F k → U32 w k → P k) : HoldOn F w' b low v R := by
  obtain ⟨l, hl⟩ := h.rows
  refine ⟨k.blk (hG b (Or.inl rfl)) h.blk, ⟨l, fun i hi => ?_⟩, h.apart⟩
  obtain ⟨h1, h2, h3, h4⟩ := hl i hi
  refine ⟨Own6.keep h1 k fun g hg => hG g (Or.inr ⟨i, hi, hg⟩), h2.keep (h3.u32.mono fun q hq => hF q hq.1 hq.2) k, ?_, h4⟩
  exact (DepsAll.keep (h3.u32.mono (P' := fun q => F q ∧ P q) fun q hq => ⟨hq.1, hF q hq.1 hq.2⟩) (k.mono fun q hq => hq.2)).mono fun q hq => hq.1
theorem HoldOn.bw {F : Nat → Prop} {w w' : World} {b : Nat} {low : Nat → Int} {v : Nat → Value} {R : Nat → List DM} (h : HoldOn F w b low v R) (k : Bw w w') : HoldOn F w' b low v R :=
  h.keep (k.keep fun _ => True) (fun _ _ => trivial) (fun _ _ _ => trivial)
theorem HoldOn.mono {F F' : Nat → Prop} {w : World} {b : Nat} {low : Nat → Int} {v : Nat → Value} {R : Nat → List DM} (h : HoldOn F w b low v R) (hF : ∀ k, F k → F' k) : HoldOn F' w b low v R := by
  obtain ⟨l, hl⟩ := h.rows
  exact ⟨h.blk, ⟨l, fun i hi => ⟨(hl i hi).1, (hl i hi).2.1, (hl i hi).2.2.1.mono hF, (hl i hi).2.2.2⟩⟩, h.apart⟩
/-- Only blocks that are there count. -/
theorem HoldOn.below {F : Nat → Prop} {w : World} {b : Nat} {low : Nat → Int} {v : Nat → Value} {R : Nat → List DM} (h : HoldOn F w b low v R) : HoldOn (fun k => F k ∧ U32 w k) w b low v R := by
  obtain ⟨l, hl⟩ := h.rows
  exact ⟨h.blk, ⟨l, fun i hi => ⟨(hl i hi).1, (hl i hi).2.1, (hl i hi).2.2.1.u32, (hl i hi).2.2.2⟩⟩, h.apart⟩
theorem U32.lt {w : World} {k : Nat} (h : U32 w k) : k < w.heap.size := by obtain ⟨c, hc⟩ := h; exact lt_blk hc

theorem HoldOn.start {w : World} {b : Nat} (h : HoldBlk w b (fun _ => 0) (fun _ => .slice none 0 0)) : HoldOn (fun _ => False) w b (fun _ => 0) (fun _ => .slice none 0 0) (fun _ => []) :=
  ⟨h, ⟨fun _ => [], fun i _ => ⟨World.ownsRow_nil _ _ _ _, DL.nil _, fun x hx => (by cases hx), fun x hx => (by cases hx)⟩⟩, fun i j _ _ _ g hg => by simp [Value.ownBlock] at hg⟩

/-- Row i is written over: its own block, or a new one. -/
theorem HoldOn.turn {F F' : Nat → Prop} {w w' : World} {b : Nat} {low low' : Nat → Int} {v : Nat → Value} {R : Nat → List DM} (h : HoldOn F w b low v R) {i : Nat} (hi : i < 64) {v' : Value} {r : List Msg} {L : List DM}
    (hb : HoldBlk w' b low' (upd v i v')) (k : Keep (fun k => k ≠ b ∧ ∀ g, (v i).ownBlock = some g → k ≠ g) w w') (ho : Own6 0 w' v' r) (hL : DL w' r L) (hD : DepsAll F' w' r) (hd : ∀ x ∈ r, x.dl ≤ 1000000)
    (hg : ∀ g, v'.ownBlock = some g → (v i).ownBlock = some g ∨ w.heap.size ≤ g) (hF : ∀ k, F k → F' k) : HoldOn F' w' b low' (upd v i v') (upd R i L) := by
  obtain ⟨l, hl⟩ := h.rows
  have hbk : ∀ j, j < 64 → ∀ g, (v j).ownBlock = some g → g ≠ b := fun j hj g hg e => hold_apart h.blk (hl j hj).1 g hg e.symm
  refine ⟨hb, ⟨upd l i r, fun j hj => ?_⟩, fun p q hp hq hpq g h1 h2 => ?_⟩
  · by_cases e : j = i
    · subst e
      simp only [upd_at]
      exact ⟨ho, hL, hD, hd⟩
    · simp only [upd_ne _ _ e]
      obtain ⟨h1, h2, h3, h4⟩ := hl j hj
      have hq : ∀ q, U32 w q → q ≠ b ∧ ∀ g, (v i).ownBlock = some g → q ≠ g := fun q hq => ⟨fun e => (h.hard (Or.inl e)) hq, fun g hg e => h.hard (Or.inr ⟨i, hi, e ▸ hg⟩) hq⟩
      refine ⟨Own6.keep h1 k fun g hg => ⟨hbk j hj g hg, fun g' hg' e' => h.apart j i hj hi e g hg (e' ▸ hg')⟩, h2.keep (h3.u32.mono fun q hq' => hq q hq'.2) k, ?_, h4⟩
      exact (DepsAll.keep (h3.u32.mono (P' := fun q => F' q ∧ q ≠ b ∧ ∀ g, (v i).ownBlock = some g → q ≠ g) fun q hq' => ⟨hF q hq'.1, hq q hq'.2⟩) (k.mono fun q hq => hq.2)).mono fun q hq => hq.1
  · by_cases e1 : p = i
    · subst e1
      rw [upd_at] at h1
      rw [upd_ne _ _ (fun e => hpq e.symm)] at h2
      rcases hg g h1 with h3 | h3
      · exact h.apart p q hp hq hpq g h3 h2
      · have := h.lt (Or.inr ⟨q, hq, h2⟩); omega
    · rw [upd_ne _ _ e1] at h1
      by_cases e2 : q = i
      · subst e2
        rw [upd_at] at h2
        rcases hg g h2 with h3 | h3
        · exact h.apart p q hp hq hpq g h1 h3
        · have := h.lt (Or.inr ⟨p, hp, h1⟩); omega
      · rw [upd_ne _ _ e2] at h2
        exact h.apart p q hp hq hpq g h1 h2
theorem Gof.turn {w : World} {b : Nat} {v : Nat → Value} {i : Nat} (hi : i < 64) {v' : Value} (hg : ∀ g, v'.ownBlock = some g → (v i).ownBlock = some g ∨ w.heap.size ≤ g) {k : Nat} (h : Gof b (upd v i v') k) : Gof b v k ∨ w.heap.size ≤ k := by
  rcases h with h | ⟨j, hj, h⟩
  · exact Or.inl (Or.inl h)
  · by_cases e : j = i
    · subst e
      rw [upd_at] at h
      rcases hg k h with h3 | h3
      · exact Or.inl (Or.inr ⟨j, hj, h3⟩)
      · exact Or.inr h3
    · rw [upd_ne _ _ e] at h
      exact Or.inl (Or.inr ⟨j, hj, h⟩)

theorem HoldBlk.setRow {w : World} {b i : Nat} {low : Nat → Int} {v : Nat → Value} (h : HoldBlk w b low v) (hi : i < 64) (x : Value) : HoldBlk (w.setCell ⟨b, 64 + i, none⟩ x) b low (upd v i x) := by
  have := set_blk (i := 64 + i) h x
  rwa [set_row low v hi x] at this
theorem HoldBlk.setLow {w : World} {b i : Nat} {low : Nat → Int} {v : Nat → Value} (h : HoldBlk w b low v) (hi : i < 64) (x : Int) : HoldBlk (w.setCell ⟨b, i, none⟩ (.int .u32 x)) b (upd low i x) v := by
  have := set_blk (i := i) h (.int .u32 x)
  rwa [set_low low v hi x] at this
theorem HoldBlk.lowCell {w : World} {b i : Nat} {low : Nat → Int} {v : Nat → Value} (h : HoldBlk w b low v) (hi : i < 64) : w.cell? ⟨b, i, none⟩ = some (.int .u32 (low i)) := by rw [cell_blk h]; exact hold_low hi
theorem HoldBlk.rowCell {w : World} {b i : Nat} {low : Nat → Int} {v : Nat → Value} (h : HoldBlk w b low v) (hi : i < 64) : w.cell? ⟨b, 64 + i, none⟩ = some (v i) := by rw [cell_blk h, hold_row hi]

/-! ### Sorted, by what the messages hold -/
def kltD (x y : DM) : Prop := x.stamp < y.stamp ∨ x.stamp = y.stamp ∧ x.frm < y.frm
instance (x y : DM) : Decidable (kltD x y) := by unfold kltD; infer_instance
def insD (x : DM) : List DM → List DM
  | [] => [x]
  | y :: l => if kltD x y then x :: y :: l else y :: insD x l
def dsort : List DM → List DM := fun l => l.foldl (fun o x => insD x o) []
/-- One by one. -/
def DLs (w : World) : List Msg → List DM → Prop
  | [], [] => True
  | x :: l, D :: L => Reads w x D ∧ DLs w l L
  | _, _ => False
theorem DL.cons {w : World} {x : Msg} {D : DM} {l : List Msg} {L : List DM} : DL w (x :: l) (D :: L) ↔ Reads w x D ∧ DL w l L := by
  constructor
  · intro h
    exact ⟨h.2 0 (by simp), by simpa using h.1, fun i hi => by simpa using h.2 (i + 1) (by simpa using hi)⟩
  · rintro ⟨h, k⟩
    refine ⟨by simp [k.1], fun i hi => ?_⟩
    cases i with
    | zero => exact h
    | succ i => simpa using k.2 i (by simpa using hi)
theorem DL.toDLs {w : World} : ∀ {l : List Msg} {L : List DM}, DL w l L ↔ DLs w l L
  | [], [] => by simp [DLs, DL.nil]
  | [], D :: L => by simp [DLs, DL]
  | x :: l, [] => by simp [DLs, DL]
  | x :: l, D :: L => by rw [DL.cons, DLs, DL.toDLs]
theorem klt_reads {w : World} {x y : Msg} {D E : DM} (h : Reads w x D) (k : Reads w y E) : klt x y ↔ kltD D E := by
  unfold klt kltD
  rw [h.stamp, h.frm, k.stamp, k.frm]
theorem DLs.ins {w : World} {x : Msg} {D : DM} (h : Reads w x D) : ∀ {l : List Msg} {L : List DM}, DLs w l L → DLs w (insM x l) (insD D L)
  | [], [], _ => ⟨h, trivial⟩
  | y :: l, E :: L, hk => by
    unfold insM insD
    by_cases c : klt x y
    · rw [if_pos c, if_pos ((klt_reads h hk.1).1 c)]
      exact ⟨h, hk⟩
    · rw [if_neg c, if_neg (fun e => c ((klt_reads h hk.1).2 e))]
      exact ⟨hk.1, DLs.ins h hk.2⟩
theorem DLs.fold {w : World} : ∀ {l : List Msg} {L : List DM} {o : List Msg} {O : List DM}, DLs w l L → DLs w o O → DLs w (l.foldl (fun o x => insM x o) o) (L.foldl (fun o x => insD x o) O)
  | [], [], _, _, _, k => k
  | x :: l, D :: L, o, O, h, k => by
    rw [List.foldl_cons, List.foldl_cons]
    exact DLs.fold h.2 (k.ins h.1)
theorem DL.sort {w : World} {l : List Msg} {L : List DM} (h : DL w l L) : DL w (ssort l) (dsort L) := DL.toDLs.2 (DLs.fold (DL.toDLs.1 h) trivial)
end Go.Proofs.Ytllmiaonlofeeaa
