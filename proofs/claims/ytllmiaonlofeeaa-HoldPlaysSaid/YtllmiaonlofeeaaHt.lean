/-
  What stands above a key: plain facts for HoldAbove. No conditions beyond what each theorem states.
-/
import Derived.Test.YtllmiaonlofeeaaHs
namespace Go.Proofs.Ytllmiaonlofeeaa
open Go.RowKit Go.Sort
set_option linter.unusedVariables false
set_option linter.unusedSimpArgs false

/-- Each row bears its process's number, and its numbers in order. -/
def RInv (low : Nat → Int) (R : Nat → List DM) : Prop := ∀ p, p < 64 → ∀ j, j < (R p).length → (R p)[j]!.frm = p ∧ (R p)[j]!.seq = low p + j + 1
theorem put_inv {low : Nat → Int} {R : Nat → List DM} (h : RInv low R) (D : DM) : RInv low (putR low R D) := by
  unfold putR
  by_cases c : putE low R D = 0
  · rw [if_pos c]
    have hc : InP D.frm ∧ D.seq = low D.frm.toNat + (R D.frm.toNat).length + 1 := by
      unfold putE at c
      by_cases c1 : InP D.frm
      · rw [if_pos c1] at c
        by_cases c2 : D.seq = low D.frm.toNat + (R D.frm.toNat).length + 1
        · exact ⟨c1, c2⟩
        · rw [if_neg c2] at c; omega
      · rw [if_neg c1] at c; omega
    obtain ⟨e1, e2⟩ := hc.1.nat
    intro p hp j hj
    by_cases e : p = D.frm.toNat
    · subst e
      rw [upd_at] at hj ⊢
      rw [List.length_append, List.length_singleton] at hj
      by_cases cj : j < (R D.frm.toNat).length
      · have := h _ e2 j cj
        rw [getElem!_pos (R D.frm.toNat) j cj] at this
        rw [getElem!_pos _ j (by simp; omega), List.getElem_append_left cj]
        exact this
      · obtain rfl : j = (R D.frm.toNat).length := by omega
        rw [getElem!_pos _ _ (by simp), List.getElem_append_right (Nat.le_refl _)]
        simp only [Nat.sub_self, List.getElem_cons_zero]
        exact ⟨e1, hc.2⟩
    · rw [upd_ne _ _ e] at hj ⊢
      exact h p hp j hj
  · rw [if_neg c]; exact h
theorem drop_inv {low : Nat → Int} {R : Nat → List DM} (h : RInv low R) (p upto : Int) : RInv (dropLow low R p upto) (dropR low R p upto) := by
  unfold dropLow dropR
  by_cases c : InP p ∧ low p.toNat < dropU low R p upto
  · rw [if_pos c, if_pos c]
    obtain ⟨e1, e2⟩ := c.1.nat
    intro q hq j hj
    by_cases e : q = p.toNat
    · subst e
      rw [upd_at] at hj
      rw [upd_at, upd_at]
      rw [List.length_drop] at hj
      have h1 : (dropU low R p upto - low p.toNat).toNat + j < (R p.toNat).length := by omega
      have h2 := h _ e2 _ h1
      rw [getElem!_pos (R p.toNat) _ h1] at h2
      rw [getElem!_pos ((R p.toNat).drop _) j (by rw [List.length_drop]; omega), List.getElem_drop]
      refine ⟨h2.1, ?_⟩
      rw [h2.2]
      have := c.2
      omega
    · rw [upd_ne _ _ e] at hj
      rw [upd_ne _ _ e, upd_ne _ _ e]
      exact h q hq j hj
  · rw [if_neg c, if_neg c]; exact h
theorem act_inv {low : Nat → Int} {R : Nat → List DM} (h : RInv low R) (X : ActD) : RInv (actLow low R X) (actR low R X) := by
  unfold actLow actR
  split
  · exact drop_inv h X.p X.upto
  · exact put_inv h X.D
theorem run_inv : ∀ (L : List ActD) (s : (Nat → Int) × (Nat → List DM)), RInv s.1 s.2 → RInv (runLR L s).1 (runLR L s).2
  | [], _, h => h
  | X :: L, _, h => run_inv L _ (act_inv h X)
theorem lr_inv (L : List ActD) (i : Nat) : RInv (lrL L i) (lrR L i) := run_inv (L.take i) lr0 fun p _ j hj => by simp [lr0] at hj

/-! ### Sorted -/
def SrtD (l : List DM) : Prop := l.Pairwise fun x y => ¬ kltD y x
theorem mem_insD {x z : DM} : ∀ {l : List DM}, z ∈ insD x l ↔ z = x ∨ z ∈ l
  | [] => by simp [insD]
  | y :: l => by
    unfold insD
    split
    · simp
    · rw [List.mem_cons, mem_insD, List.mem_cons]
      constructor
      · rintro (h | h | h)
        · exact Or.inr (Or.inl h)
        · exact Or.inl h
        · exact Or.inr (Or.inr h)
      · rintro (h | h | h)
        · exact Or.inr (Or.inl h)
        · exact Or.inl h
        · exact Or.inr (Or.inr h)
theorem srt_insD {x : DM} : ∀ {l : List DM}, SrtD l → SrtD (insD x l)
  | [], _ => by simp [insD, SrtD]
  | y :: l, h => by
    have h' := List.pairwise_cons.1 h
    unfold insD
    split
    · next c =>
      refine List.pairwise_cons.2 ⟨fun z hz => ?_, h⟩
      rcases List.mem_cons.1 hz with rfl | hz
      · unfold kltD at *; omega
      · have := h'.1 z hz
        unfold kltD at *; omega
    · next c =>
      refine List.pairwise_cons.2 ⟨fun z hz => ?_, srt_insD h'.2⟩
      rcases mem_insD.1 hz with rfl | hz
      · exact c
      · exact h'.1 z hz
theorem dsort_all : ∀ (l o : List DM), SrtD o → SrtD (l.foldl (fun o x => insD x o) o) ∧ ∀ z, z ∈ l.foldl (fun o x => insD x o) o ↔ z ∈ l ∨ z ∈ o
  | [], o, h => ⟨h, by simp⟩
  | x :: l, o, h => by
    obtain ⟨h1, h2⟩ := dsort_all l (insD x o) (srt_insD h)
    refine ⟨h1, fun z => ?_⟩
    rw [List.foldl_cons, h2, mem_insD, List.mem_cons]
    constructor
    · rintro (h | h | h)
      · exact Or.inl (Or.inr h)
      · exact Or.inl (Or.inl h)
      · exact Or.inr h
    · rintro ((h | h) | h)
      · exact Or.inr (Or.inl h)
      · exact Or.inl h
      · exact Or.inr (Or.inr h)
theorem dsort_srt (l : List DM) : SrtD (dsort l) := (dsort_all l [] List.Pairwise.nil).1
theorem mem_dsort {z : DM} {l : List DM} : z ∈ dsort l ↔ z ∈ l := by have := (dsort_all l [] List.Pairwise.nil).2 z; simpa [dsort] using this
theorem over_less (s f : Int) (D : DM) : overD s f D = lessB s f D.stamp D.frm := by
  unfold overD lessB keyCmp orZ cmpZ
  apply decide_eq_decide.2
  repeat' split
  all_goals omega
theorem above_row {R : Nat → List DM} {s f : Int} {D : DM} (h : D ∈ aboveD R s f) : (∃ p, p < 64 ∧ D ∈ R p) ∧ lessB s f D.stamp D.frm = true := by
  unfold aboveD at h
  rw [mem_dsort, List.mem_filter, List.mem_flatMap] at h
  obtain ⟨⟨p, hp, hD⟩, ho⟩ := h
  exact ⟨⟨p, List.mem_range.1 hp, hD⟩, by rw [← over_less]; exact ho⟩
theorem above_get {low : Nat → Int} {R : Nat → List DM} (h : RInv low R) {s f : Int} {D : DM} (hD : D ∈ aboveD R s f) : getOk low R D.frm D.seq = true ∧ getD low R D.frm D.seq = D := by
  obtain ⟨⟨p, hp, hm⟩, _⟩ := above_row hD
  obtain ⟨j, hj, rfl⟩ := List.mem_iff_getElem.1 hm
  have h1 := h p hp j hj
  rw [getElem!_pos (R p) j hj] at h1
  have ho : getOk low R (R p)[j].frm (R p)[j].seq = true := by
    unfold getOk
    rw [h1.1, h1.2, Int.toNat_natCast]
    exact decide_eq_true ⟨⟨by omega, by omega⟩, by omega, by omega⟩
  refine ⟨ho, ?_⟩
  unfold getD
  rw [ho, if_pos rfl, h1.1, h1.2, Int.toNat_natCast, show (low p + (j : Int) + 1 - low p - 1).toNat = j by omega, getElem!_pos (R p) j hj]
theorem above_seq {low : Nat → Int} {R : Nat → List DM} {N : Nat} (h : RInv low R) (hB : HBnd low R N) {s f : Int} {D : DM} (hD : D ∈ aboveD R s f) : 0 ≤ D.seq := by
  obtain ⟨⟨p, hp, hm⟩, _⟩ := above_row hD
  obtain ⟨j, hj, rfl⟩ := List.mem_iff_getElem.1 hm
  have h1 := (h p hp j hj).2
  rw [getElem!_pos (R p) j hj] at h1
  have := (hB p hp).1
  omega
theorem above_less {R : Nat → List DM} {s f : Int} {i : Nat} (hi : i + 1 < (aboveD R s f).length) : lessB (aboveD R s f)[i + 1]!.stamp (aboveD R s f)[i + 1]!.frm (aboveD R s f)[i]!.stamp (aboveD R s f)[i]!.frm = false := by
  have h := dsort_srt (((List.range 64).flatMap R).filter (overD s f))
  have h2 := List.pairwise_iff_getElem.1 h i (i + 1) (by unfold aboveD at hi; omega) hi (by omega)
  rw [getElem!_pos (aboveD R s f) (i + 1) hi, getElem!_pos (aboveD R s f) i (by omega)]
  unfold lessB
  apply decide_eq_false
  intro e
  exact h2 e
theorem from_all {low : Nat → Int} {R : Nat → List DM} {p N : Nat} (hB : HBnd low R N) (hp : p < 64) (hN : N ≤ 1000) : fromH low R p 0 1000 = R p := by
  have hb := hB p hp
  unfold fromH
  rw [if_pos ⟨⟨by omega, by omega⟩, by omega, by rw [Int.toNat_natCast]; omega⟩, Int.toNat_natCast]
  unfold fromL fromIdx
  rw [show (max 0 (low p + 1) - low p - 1).toNat = 0 by omega, List.drop_zero, List.take_of_length_le (by omega)]
/-- How many stand behind the key. -/
def cnt (s f : Int) (l : List DM) : Nat := (l.filter fun D => lessB s f D.stamp D.frm).length
theorem cnt_step {s f : Int} {l : List DM} {i : Nat} (h : i < l.length) : cnt s f (l.take (i + 1)) = cnt s f (l.take i) + if lessB s f l[i]!.stamp l[i]!.frm then 1 else 0 := by
  unfold cnt
  rw [List.take_succ_eq_append_getElem h, List.filter_append, List.length_append, getElem!_pos l i h]
  congr 1
  by_cases e : lessB s f l[i].stamp l[i].frm = true <;> simp [e]
theorem cnt_le (s f : Int) (l : List DM) : cnt s f l ≤ l.length := List.length_filter_le _ _
def cntR (s f : Int) (R : Nat → List DM) (p : Nat) : Nat := cnt s f ((List.range p).flatMap R)
theorem cntR_succ (s f : Int) (R : Nat → List DM) (p : Nat) : cntR s f R (p + 1) = cntR s f R p + cnt s f (R p) := by
  unfold cntR cnt
  rw [List.range_succ, List.flatMap_append, List.filter_append, List.length_append]
  simp
theorem cntR_le {s f : Int} {low : Nat → Int} {R : Nat → List DM} {N : Nat} (hB : HBnd low R N) : ∀ p, p ≤ 64 → cntR s f R p ≤ p * N
  | 0, _ => by simp [cntR, cnt]
  | p + 1, h => by
    rw [cntR_succ, Nat.add_mul, Nat.one_mul]
    have h1 := cntR_le hB p (by omega) (s := s) (f := f)
    have h2 := cnt_le s f (R p)
    have h3 := hB p (by omega)
    omega
theorem above_cnt (R : Nat → List DM) (s f : Int) : (aboveD R s f).length = cntR s f R 64 := by
  unfold aboveD cntR cnt
  rw [dsort_len]
  congr 1
  apply List.filter_congr
  intro D _
  exact over_less s f D
end Go.Proofs.Ytllmiaonlofeeaa
