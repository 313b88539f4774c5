/-
  The greatest of some pairs, and of some numbers: plain facts. No conditions beyond what each theorem states.
-/
import Derived.Test.YtllmiaonlofeeaaKl
namespace Go.Proofs.Ytllmiaonlofeeaa
open Go.RowKit Go.Sort

def plt (x y : Int × Int) : Prop := x.1 < y.1 ∨ x.1 = y.1 ∧ x.2 < y.2
theorem kc_all (s f s' f' : Int) : (keyCmp s f s' f' = -1 ∧ (s < s' ∨ s = s' ∧ f < f')) ∨ (keyCmp s f s' f' = 0 ∧ s = s' ∧ f = f') ∨ (keyCmp s f s' f' = 1 ∧ (s' < s ∨ s = s' ∧ f' < f)) := by
  unfold keyCmp orZ cmpZ
  repeat' split
  all_goals omega
theorem kcmp_all (x y : Int × Int) : (kcmp x y = -1 ∧ plt x y) ∨ (kcmp x y = 0 ∧ x = y) ∨ (kcmp x y = 1 ∧ plt y x) := by
  rcases kc_all x.1 x.2 y.1 y.2 with ⟨h, k⟩ | ⟨h, k1, k2⟩ | ⟨h, k⟩
  · exact Or.inl ⟨h, k⟩
  · exact Or.inr (Or.inl ⟨h, Prod.ext k1 k2⟩)
  · exact Or.inr (Or.inr ⟨h, by unfold plt; omega⟩)
theorem plt_irrefl (x : Int × Int) : ¬ plt x x := by unfold plt; omega
theorem plt_trans {x y z : Int × Int} (h : plt x y) (k : plt y z) : plt x z := by unfold plt at *; omega
theorem plt_asymm {x y : Int × Int} (h : plt x y) : ¬ plt y x := by unfold plt at *; omega
theorem plt_total {x y : Int × Int} (h : ¬ plt x y) (k : ¬ plt y x) : x = y := by
  unfold plt at *
  exact Prod.ext (by omega) (by omega)
theorem kcmp_ge (x y : Int × Int) : 0 ≤ kcmp x y ↔ ¬ plt x y := by
  rcases kcmp_all x y with ⟨h, k⟩ | ⟨h, rfl⟩ | ⟨h, k⟩
  · simp [h, k]
  · simp [h, plt_irrefl]
  · simp [h, plt_asymm k]
theorem kcmp_gt (x y : Int × Int) : kcmp x y > 0 ↔ plt y x := by
  rcases kcmp_all x y with ⟨h, k⟩ | ⟨h, rfl⟩ | ⟨h, k⟩
  · simp [h, plt_asymm k]
  · simp [h, plt_irrefl]
  · simp [h, k]
theorem kcmp_eq (x y : Int × Int) : kcmp x y = 0 ↔ x = y := by
  rcases kcmp_all x y with ⟨h, k⟩ | ⟨h, rfl⟩ | ⟨h, k⟩
  · simp only [h]; refine ⟨fun e => by omega, fun e => ?_⟩; subst e; exact absurd k (plt_irrefl _)
  · simp [h]
  · simp only [h]; refine ⟨fun e => by omega, fun e => ?_⟩; subst e; exact absurd k (plt_irrefl _)

theorem gk_mem (l : List (Int × Int)) : ∀ k, 0 < k → ∃ i, i < k ∧ gk l k = l[i]!
  | 0, h => by omega
  | k + 1, _ => by
    unfold gk
    split
    · exact ⟨k, by omega, rfl⟩
    · rename_i h
      obtain ⟨i, hi, he⟩ := gk_mem l k (by omega)
      exact ⟨i, by omega, he⟩
theorem gk_ge (l : List (Int × Int)) : ∀ k i, i < k → ¬ plt (gk l k) l[i]!
  | 0, _, h => by omega
  | k + 1, i, hi => by
    unfold gk
    split
    · rename_i h
      by_cases e : i = k
      · subst e; exact plt_irrefl _
      · have h2 : kcmp l[k]! (gk l k) > 0 := by rcases h with h | h; omega; exact h
        rw [kcmp_gt] at h2
        have := gk_ge l k i (by omega)
        exact fun h3 => this (plt_trans h2 h3)
    · rename_i h
      by_cases e : i = k
      · subst e
        have h2 : ¬ kcmp l[i]! (gk l i) > 0 := fun e => h (Or.inr e)
        rwa [kcmp_gt] at h2
      · exact gk_ge l k i (by omega)
/-- The greatest is one alone: what stands among the first k and has none above it. -/
theorem gk_unique {l : List (Int × Int)} {k : Nat} {x : Int × Int} (h1 : ∃ i, i < k ∧ x = l[i]!) (h2 : ∀ i, i < k → ¬ plt x l[i]!) : x = gk l k := by
  obtain ⟨i, hi, he⟩ := h1
  obtain ⟨j, hj, hg⟩ := gk_mem l k (by omega)
  apply plt_total
  · rw [hg]; exact h2 j hj
  · rw [he]; exact gk_ge l k i hi

theorem cz (x y : Int) : (cmpZ x y = -1 ∧ x < y) ∨ (cmpZ x y = 0 ∧ x = y) ∨ (cmpZ x y = 1 ∧ y < x) := by
  unfold cmpZ
  repeat' split
  all_goals omega
theorem gu_mem (l : List Int) : ∀ k, 0 < k → ∃ i, i < k ∧ gu l k = l[i]!
  | 0, h => by omega
  | k + 1, _ => by
    unfold gu
    split
    · exact ⟨k, by omega, rfl⟩
    · rename_i h
      obtain ⟨i, hi, he⟩ := gu_mem l k (by omega)
      exact ⟨i, by omega, he⟩
theorem gu_ge (l : List Int) : ∀ k i, i < k → l[i]! ≤ gu l k
  | 0, _, h => by omega
  | k + 1, i, hi => by
    unfold gu
    split
    · rename_i h
      by_cases e : i = k
      · subst e; omega
      · have h2 : cmpZ l[k]! (gu l k) > 0 := by rcases h with h | h; omega; exact h
        have := gu_ge l k i (by omega)
        have := cz l[k]! (gu l k)
        omega
    · rename_i h
      by_cases e : i = k
      · subst e
        have h2 : ¬ cmpZ l[i]! (gu l i) > 0 := fun e => h (Or.inr e)
        have := cz l[i]! (gu l i)
        omega
      · exact gu_ge l k i (by omega)
theorem gu_range {l : List Int} (h : ∀ p ∈ l, 0 ≤ p ∧ p ≤ 18446744073709551615) : 0 ≤ gu l l.length ∧ gu l l.length ≤ 18446744073709551615 := by
  by_cases h0 : l.length = 0
  · rw [h0]; simp [gu]
  · obtain ⟨i, hi, he⟩ := gu_mem l l.length (by omega)
    rw [he, getElem!_pos l i hi]
    exact h _ (List.getElem_mem hi)
theorem gk_three (a b c : Int × Int) : (¬ plt (gk [a, b, c] 3) a ∧ ¬ plt (gk [a, b, c] 3) b ∧ ¬ plt (gk [a, b, c] 3) c) ∧ (gk [a, b, c] 3 = a ∨ gk [a, b, c] 3 = b ∨ gk [a, b, c] 3 = c) := by
  refine ⟨⟨gk_ge [a, b, c] 3 0 (by omega), gk_ge [a, b, c] 3 1 (by omega), gk_ge [a, b, c] 3 2 (by omega)⟩, ?_⟩
  obtain ⟨i, hi, he⟩ := gk_mem [a, b, c] 3 (by omega)
  match i, hi with
  | 0, _ => exact Or.inl he
  | 1, _ => exact Or.inr (Or.inl he)
  | 2, _ => exact Or.inr (Or.inr he)
end Go.Proofs.Ytllmiaonlofeeaa
