/-
  The link between a hold and the reference's: marks and one list against marks and 64 rows. No conditions beyond what each theorem states.
-/
import Derived.Test.YtllmiaonlofeeaaHz
namespace Go.Proofs.Ytllmiaonlofeeaa
open Go.RowKit Go.Sort

theorem ofP_snoc (LA : List DM) (D : DM) (p : Int) : ofP (LA ++ [D]) p = ofP LA p ++ if D.frm = p then [D] else [] := by
  unfold ofP
  rw [List.filter_append]
  congr 1
  by_cases e : D.frm = p <;> simp [e]
theorem ofP_none {LA : List DM} {p : Int} (h : ∀ D ∈ LA, InP D.frm) (hp : ¬ InP p) : ofP LA p = [] := by
  unfold ofP
  rw [List.filter_eq_nil_iff]
  intro D hD e
  exact hp (by have := of_decide_eq_true e; rw [← this]; exact h D hD)

/-- The reference's hold LA stands behind the marks low and the rows R. -/
structure Lk (low : Nat → Int) (R : Nat → List DM) (LA : List DM) : Prop where
  inp : ∀ D ∈ LA, InP D.frm
  row : ∀ p : Nat, p < 64 → R p = (ofP LA p).drop (low p).toNat
  low : ∀ p : Nat, p < 64 → 0 ≤ low p ∧ low p ≤ (ofP LA p).length
  seq : ∀ p : Nat, p < 64 → ∀ j, j < (ofP LA p).length → (ofP LA p)[j]!.seq = j + 1
theorem lk0 : Lk low0 (fun _ => []) [] := ⟨by simp, fun p _ => by simp [ofP], fun p _ => by simp [ofP, low0], fun p _ j hj => by simp [ofP] at hj⟩

section
variable {low : Nat → Int} {R : Nat → List DM} {LA : List DM}
theorem Lk.sum (h : Lk low R LA) {p : Nat} (hp : p < 64) : low p + (R p).length = (ofP LA p).length := by
  have h1 := h.low p hp
  rw [h.row p hp, List.length_drop]
  omega
theorem Lk.cnt (h : Lk low R LA) (p : Int) : cntH low R p = (ofP LA p).length := by
  unfold cntH
  by_cases hp : InP p
  · obtain ⟨e1, e2⟩ := hp.nat
    rw [if_pos hp, h.sum e2, ← e1]
  · rw [if_neg hp, ofP_none h.inp hp]; rfl
theorem Lk.pE (h : Lk low R LA) (D : DM) : putE low R D = if InP D.frm then (if D.seq = (ofP LA D.frm).length + 1 then 0 else 13) else 1 := by
  unfold putE
  by_cases hp : InP D.frm
  · obtain ⟨e1, e2⟩ := hp.nat
    rw [if_pos hp, if_pos hp]
    have := h.sum e2
    rw [← e1] at this
    rw [this]
  · rw [if_neg hp, if_neg hp]
/-- The reference's Put. -/
def rPut (LA : List DM) (e : Int) (D : DM) : List DM := if e = 0 then LA ++ [D] else LA
theorem Lk.put (h : Lk low R LA) (D : DM) : Lk low (putR low R D) (rPut LA (putE low R D) D) := by
  unfold putR rPut
  by_cases c : putE low R D = 0
  · rw [if_pos c, if_pos c]
    have hc : InP D.frm ∧ D.seq = (ofP LA D.frm).length + 1 := by
      rw [h.pE] at c
      by_cases c1 : InP D.frm
      · rw [if_pos c1] at c
        by_cases c2 : D.seq = (ofP LA D.frm).length + 1
        · exact ⟨c1, c2⟩
        · rw [if_neg c2] at c; omega
      · rw [if_neg c1] at c; omega
    obtain ⟨e1, e2⟩ := hc.1.nat
    obtain ⟨q, hq⟩ : ∃ q : Nat, q = D.frm.toNat := ⟨_, rfl⟩
    rw [← hq] at e1 e2 ⊢
    refine ⟨fun E hE => ?_, fun p hp => ?_, fun p hp => ?_, fun p hp j hj => ?_⟩
    · rcases List.mem_append.1 hE with hE | hE
      · exact h.inp E hE
      · rw [List.mem_singleton.1 hE]; exact hc.1
    · have hl := h.low p hp
      rw [ofP_snoc]
      by_cases e : p = q
      · subst e
        rw [upd_at, h.row p hp, if_pos e1, List.drop_append_of_le_length (by omega)]
      · rw [upd_ne _ _ e, if_neg (by omega), List.append_nil]
        exact h.row p hp
    · have hl := h.low p hp
      rw [ofP_snoc, List.length_append]
      omega
    · rw [ofP_snoc] at hj ⊢
      by_cases e : p = q
      · subst e
        rw [if_pos e1] at hj ⊢
        rw [List.length_append, List.length_singleton] at hj
        by_cases cj : j < (ofP LA p).length
        · have := h.seq p hp j cj
          rw [getElem!_pos _ j cj] at this
          rw [getElem!_pos _ j (by simp; omega), List.getElem_append_left cj]
          exact this
        · obtain rfl : j = (ofP LA p).length := by omega
          rw [getElem!_pos _ _ (by simp), List.getElem_append_right (Nat.le_refl _)]
          simp only [Nat.sub_self, List.getElem_cons_zero]
          rw [hc.2, e1]
      · rw [if_neg (by omega), List.append_nil] at hj ⊢
        exact h.seq p hp j hj
  · rw [if_neg c, if_neg c]; exact h
theorem Lk.drop (h : Lk low R LA) (p upto : Int) : Lk (dropLow low R p upto) (dropR low R p upto) LA := by
  unfold dropLow dropR
  by_cases c : InP p ∧ low p.toNat < dropU low R p upto
  · rw [if_pos c, if_pos c]
    obtain ⟨e1, e2⟩ := c.1.nat
    have hu : dropU low R p upto ≤ low p.toNat + (R p.toNat).length := by unfold dropU; omega
    have hs := h.sum e2
    obtain ⟨u, hu2⟩ : ∃ u, u = dropU low R p upto := ⟨_, rfl⟩
    have c2 := c.2
    rw [← hu2] at hu c2 ⊢
    refine ⟨h.inp, fun q hq => ?_, fun q hq => ?_, h.seq⟩
    · by_cases e : q = p.toNat
      · subst e
        rw [upd_at, upd_at, h.row _ hq, List.drop_drop]
        have := h.low _ hq
        congr 1
        omega
      · rw [upd_ne _ _ e, upd_ne _ _ e]; exact h.row q hq
    · by_cases e : q = p.toNat
      · subst e
        rw [upd_at]
        have := h.low _ hq
        omega
      · rw [upd_ne _ _ e]; exact h.low q hq
  · rw [if_neg c, if_neg c]; exact h
theorem find_ofP {low : Nat → Int} {p seq : Int} : ∀ (LA : List DM), refGet LA low p seq = (ofP LA p).find? fun D => decide (D.seq = seq ∧ low p.toNat < seq)
  | [] => rfl
  | D :: LA => by
    have ih := find_ofP (low := low) (p := p) (seq := seq) LA
    unfold refGet ofP at ih ⊢
    by_cases e : D.frm = p
    · rw [List.filter_cons_of_pos (by simpa using e), List.find?_cons, List.find?_cons, ih]
      have : isAt low p seq D = decide (D.seq = seq ∧ low p.toNat < seq) := by unfold isAt; simp [e]
      rw [this]
    · rw [List.filter_cons_of_neg (by simpa using e), List.find?_cons, ih]
      have : isAt low p seq D = false := by unfold isAt; simp [e]
      rw [this]
theorem Lk.get (h : Lk low R LA) (p seq : Int) : refGet LA low p seq = if getOk low R p seq then some (getD low R p seq) else none := by
  rw [find_ofP]
  by_cases hp : InP p
  · obtain ⟨e1, e2⟩ := hp.nat
    have hs := h.sum e2
    have hr := h.row _ e2
    have hl := h.low _ e2
    have hq := h.seq _ e2
    rw [← e1] at hs hr hl hq
    by_cases hk : low p.toNat < seq ∧ seq ≤ low p.toNat + (R p.toNat).length
    · have ho : getOk low R p seq = true := by unfold getOk; exact decide_eq_true ⟨hp, hk⟩
      obtain ⟨j, hj⟩ : ∃ j : Nat, seq = j + 1 := ⟨(seq - 1).toNat, by omega⟩
      have hjl : j < (ofP LA p).length := by omega
      rw [ho, if_pos rfl]
      rw [find_take (i := j) hjl (fun i hi => by rw [hq i (by omega)]; exact decide_eq_false (by omega)) (by rw [hq j hjl]; exact decide_eq_true (by omega))]
      unfold getD
      rw [ho, if_pos rfl, hr, getElem!_pos _ j hjl, getElem!_pos _ _ (by rw [List.length_drop]; omega), List.getElem_drop]
      congr 1
      congr 1
      omega
    · have ho : getOk low R p seq = false := by unfold getOk; exact decide_eq_false fun e => hk e.2
      rw [ho]
      exact find_none fun j hj => by
        rw [hq j hj]
        apply decide_eq_false
        intro e
        apply hk
        omega
  · have ho : getOk low R p seq = false := by unfold getOk; exact decide_eq_false fun e => hp e.1
    rw [ho, ofP_none h.inp hp]
    rfl

/-- What the reference's From holds behind so many rounds. -/
def rf (LA : List DM) (low : Nat → Int) (p seq : Int) (s : Nat) : List DM := (List.range s).filterMap fun (j : Nat) => if seq ≤ (j : Int) + 1 then refGet LA low p ((j : Int) + 1) else none
theorem rf_step (LA : List DM) (low : Nat → Int) (p seq : Int) (s : Nat) : rf LA low p seq (s + 1) = rf LA low p seq s ++ (if seq ≤ (s : Int) + 1 then refGet LA low p ((s : Int) + 1) else none).toList := by
  unfold rf
  rw [List.range_succ, List.filterMap_append]
  congr 1
def refFrom (LA : List DM) (low : Nat → Int) (p seq most : Int) : List DM := (rf LA low p seq (ofP LA p).length).take most.toNat
theorem rf_take {LA : List DM} {low : Nat → Int} {p seq : Int} {s n : Nat} (h : s ≤ n) : ∃ r, rf LA low p seq n = rf LA low p seq s ++ r := by
  obtain ⟨k, rfl⟩ : ∃ k, n = s + k := ⟨n - s, by omega⟩
  unfold rf
  exact ⟨_, by rw [List.range_add, List.filterMap_append]⟩
theorem Lk.rfE (h : Lk low R LA) (p : Nat) (hp : p < 64) (seq : Int) : ∀ s, s ≤ (ofP LA p).length → rf LA low p seq s = ((ofP LA p).take s).drop (max seq (low p + 1) - 1).toNat
  | 0, _ => by simp [rf]
  | s + 1, hs => by
    have hl := h.low p hp
    have hm := h.sum hp
    have hr := h.row p hp
    rw [rf_step, h.rfE p hp seq s (by omega), List.take_succ_eq_append_getElem (by omega), h.get, ]
    have hlen : ((ofP LA p).take s).length = s := by rw [List.length_take]; omega
    by_cases c1 : seq ≤ (s : Int) + 1
    · rw [if_pos c1]
      by_cases c2 : low p < (s : Int) + 1
      · have ho : getOk low R p ((s : Int) + 1) = true := by
          unfold getOk; exact decide_eq_true ⟨⟨by omega, by omega⟩, by rw [Int.toNat_natCast]; omega, by rw [Int.toNat_natCast]; omega⟩
        rw [ho, if_pos rfl, List.drop_append_of_le_length (by rw [hlen]; omega)]
        congr 1
        unfold getD
        rw [ho, if_pos rfl, Int.toNat_natCast, hr, getElem!_pos _ _ (by rw [List.length_drop]; omega), List.getElem_drop]
        simp only [Option.toList_some]
        congr 2
        omega
      · have ho : getOk low R p ((s : Int) + 1) = false := by
          unfold getOk; exact decide_eq_false fun e => c2 (by have := e.2.1; rw [Int.toNat_natCast] at this; exact this)
        rw [ho]
        simp only [Bool.false_eq_true, if_false, Option.toList_none, List.append_nil]
        rw [List.drop_eq_nil_of_le (by rw [hlen]; omega), List.drop_eq_nil_of_le (by rw [List.length_append, hlen]; simp; omega)]
    · rw [if_neg c1]
      simp only [Option.toList_none, List.append_nil]
      rw [List.drop_eq_nil_of_le (by rw [hlen]; omega), List.drop_eq_nil_of_le (by rw [List.length_append, hlen]; simp; omega)]
theorem Lk.from (h : Lk low R LA) (p seq most : Int) : refFrom LA low p seq most = fromH low R p seq most := by
  unfold refFrom fromH
  by_cases hp : InP p
  · obtain ⟨e1, e2⟩ := hp.nat
    have hm := h.sum e2
    have hr := h.row _ e2
    have hl := h.low _ e2
    have h1 := h.rfE _ e2 seq (ofP LA p).length (by rw [← e1]; exact Nat.le_refl _)
    rw [← e1] at hm hr hl h1
    rw [h1, List.take_length]
    by_cases c1 : 1 ≤ most
    · by_cases c2 : seq ≤ low p.toNat + (R p.toNat).length
      · rw [if_pos ⟨hp, c1, c2⟩]
        unfold fromL fromIdx
        rw [hr, List.drop_drop]
        congr 2
        omega
      · rw [if_neg fun e => c2 e.2.2, List.drop_eq_nil_of_le (by omega), List.take_nil]
    · rw [if_neg fun e => c1 e.2.1, show most.toNat = 0 by omega, List.take_zero]
  · rw [if_neg fun e => hp e.1, ofP_none h.inp hp]
    simp [rf]
/-- What the reference's Above holds, ahead of its sort. -/
def refOver (LA : List DM) (low : Nat → Int) (s f : Int) (p : Nat) : List DM := ((List.range p).flatMap fun (q : Nat) => refFrom LA low (q : Int) 0 LA.length).filter fun D => lessB s f D.stamp D.frm
theorem refOver_step (LA : List DM) (low : Nat → Int) (s f : Int) (p : Nat) : refOver LA low s f (p + 1) = refOver LA low s f p ++ (refFrom LA low (p : Int) 0 LA.length).filter fun D => lessB s f D.stamp D.frm := by
  unfold refOver
  rw [List.range_succ, List.flatMap_append, List.filter_append]
  simp
theorem Lk.over (h : Lk low R LA) (s f : Int) : dsort (refOver LA low s f 64) = aboveD R s f := by
  unfold aboveD refOver
  congr 1
  have h1 : (List.range 64).flatMap (fun (q : Nat) => refFrom LA low (q : Int) 0 LA.length) = (List.range 64).flatMap R := by
    rw [List.flatMap_def, List.flatMap_def]
    congr 1
    apply List.map_congr_left
    intro q hq
    have hq64 := List.mem_range.1 hq
    have hp : InP (q : Int) := ⟨by omega, by omega⟩
    have hl := h.low q hq64
    have hm := h.sum hq64
    have hn := ofP_len LA q
    rw [h.from]
    unfold fromH
    by_cases c : 1 ≤ (LA.length : Int)
    · rw [if_pos ⟨hp, c, by rw [Int.toNat_natCast]; omega⟩, Int.toNat_natCast]
      unfold fromL fromIdx
      rw [show (max 0 (low q + 1) - low q - 1).toNat = 0 by omega, List.drop_zero, List.take_of_length_le (by omega)]
    · rw [if_neg fun e => c e.2.1]
      exact (List.length_eq_zero_iff.1 (by omega)).symm
  rw [h1]
  apply List.filter_congr
  intro D _
  exact (over_less s f D).symm
theorem Lk.bnd (h : Lk low R LA) : HBnd low R LA.length := fun p hp => by
  have := h.sum hp
  have h1 := h.low p hp
  have h2 := ofP_len LA p
  omega
end
end Go.Proofs.Ytllmiaonlofeeaa
