/-
  KeyAbove, walked. No conditions beyond what each theorem states.
-/
import Derived.Test.YtllmiaonlofeeaaKr
import Derived.Test.YtllmiaonlofeeaaPv
namespace Go.Proofs.Ytllmiaonlofeeaa
open Go.RowKit Go.Sort

/-- Is one of the first k at least n? -/
def reach1 (l : List Int) (n : Int) (k : Nat) : Bool := (List.range k).any fun i => decide (n ≤ l[i]!)
theorem reach1_succ (l : List Int) (n : Int) (k : Nat) : reach1 l n (k + 1) = (reach1 l n k || decide (n ≤ l[k]!)) := by
  unfold reach1
  rw [List.range_succ, List.any_append]; simp
theorem UAt.form {w : World} {v : Value} {l : List Int} (h : UAt w v l) : ∃ a cap, v = .slice a l.length cap := by
  rcases h with ⟨a, cap, rfl, rfl⟩ | ⟨b, o, cap, rfl, _⟩
  · exact ⟨a, cap, rfl⟩
  · exact ⟨_, _, rfl⟩
theorem UAt.cells {w : World} {a : Option Addr} {n cap : Nat} {l : List Int} (h : UAt w (.slice a n cap) l) (h0 : 0 < n) : ∃ b o, a = some ⟨b, o, none⟩ ∧ b < w.heap.size ∧ ∀ i, i < n → w.cell? ⟨b, o + i, none⟩ = some (.int .u64 l[i]!) := by
  rcases h with ⟨a', cap', h, rfl⟩ | ⟨b, o, cap', h, hb, hc⟩
  · simp only [Value.slice.injEq] at h; omega
  · simp only [Value.slice.injEq] at h
    obtain ⟨rfl, rfl, rfl⟩ := h
    exact ⟨b, o, rfl, hb, hc⟩

/-- What Above says of some numbers. -/
def aboveU (l : List Int) : Int := sumU (gu l l.length) 1
theorem above_laws {l : List Int} (h : ∀ p ∈ l, 0 ≤ p ∧ p ≤ 18446744073709551615) : 1 ≤ aboveU l ∧ aboveU l ≤ 18446744073709551615 ∧
    (∀ i, i < l.length → aboveU l ≤ l[i]! → l[i]! = 18446744073709551615) ∧ ((aboveU l == 1) || reach1 l (aboveU l - 1) l.length) = true := by
  obtain ⟨h1, h2⟩ := gu_range h
  have hs : aboveU l = if 1 > 18446744073709551615 - gu l l.length then 18446744073709551615 else gu l l.length + 1 := rfl
  refine ⟨by split at hs <;> omega, by split at hs <;> omega, fun i hi hle => ?_, ?_⟩
  · have := gu_ge l l.length i hi
    have h4 := h l[i]! (by rw [getElem!_pos l i hi]; exact List.getElem_mem hi)
    split at hs <;> omega
  · by_cases h0 : l.length = 0
    · rw [h0] at hs; simp [gu] at hs; simp [hs]
    · obtain ⟨i, hi, he⟩ := gu_mem l l.length (by omega)
      have : reach1 l (aboveU l - 1) l.length = true := by
        unfold reach1
        rw [List.any_eq_true]
        exact ⟨i, List.mem_range.2 hi, decide_eq_true (by rw [← he]; split at hs <;> omega)⟩
      simp [this]

set_option maxRecDepth 100000 in
set_option maxHeartbeats 1000000 in
theorem w_KeyAbove (v : Value) (l : List Int) (w : World) (h : UAt w v l) (hr : ∀ p ∈ l, 0 ≤ p ∧ p ≤ 18446744073709551615) (hn : l.length ≤ 9223372036854775807) :
    Calls Try.prog 5 #[v] w fun e w' => e = .returned (.bool true) ∧ Bw w w' := by
  obtain ⟨a, cap, rfl⟩ := h.form
  have HM1 := Lib.hid h
  have HR := Lib.hid hr
  have HL := Lib.hid (above_laws hr)
  have HN := Lib.hid hn
  clear h hr hn
  go_enter Try.func5, Try.ntmps5
  go_wp2_with fail
  refine (c_awake3 _).mono ?_
  rintro e w1 ⟨rfl, hb1⟩
  have B1 := Lib.hid hb1
  clear hb1
  by_cases h5 : l.length ≤ 5000
  case neg =>
    have h5z : (5000 : Int) < (l.length : Int) := by omega
    go_wp2_with fail
    go_ret
    exact ⟨rfl, B1.out⟩
  have h5z : (l.length : Int) ≤ (5000 : Int) := by omega
  go_wp2_with fail
  refine (c_Above _ l _ (HM1.out.bw B1.out) (by omega) (gu_range HR.out).1 (gu_range HR.out).2).mono ?_
  rintro e w2 ⟨rfl, rfl⟩
  obtain ⟨n, hn⟩ : ∃ n, n = aboveU l := ⟨_, rfl⟩
  have HNN := Lib.hid hn
  have hn2 : sumU (gu l l.length) 1 = n := hn.symm
  rw [hn2]
  clear hn hn2
  have n1 : 1 ≤ n := by rw [HNN.out]; exact HL.out.1
  have n2 : n ≤ 18446744073709551615 := by rw [HNN.out]; exact HL.out.2.1
  have hw : IntKind.u64.wrap (n - 1) = n - 1 := by rw [IntKind.wrap_u64]; omega
  go_wp2_with fail
  go_loopw [4, 5] (fun vb vk wr => ∃ (k : Nat), vb = .bool ((n == 1) || reach1 l (n - 1) k) ∧ vk = .int .i64 k ∧ k ≤ l.length ∧ wr = w1) (fun _ vk _ => l.length - (intOf vk).toNat)
  case atStart => exact ⟨0, by simp [reach1], rfl, by omega, rfl⟩
  case round =>
    obtain ⟨k, rfl, rfl, hk, rfl⟩ := hrel
    by_cases hlt : k < l.length
    · have hltz : (k : Int) < (l.length : Int) := by omega
      obtain ⟨b, o, rfl, hb, hc⟩ := (HM1.out.bw B1.out).cells (by omega)
      have x0 := hc k hlt
      obtain ⟨x, hx⟩ : ∃ x, x = l[k]! := ⟨_, rfl⟩
      rw [← hx] at x0
      have HX := Lib.hid hx
      have hS := reach1_succ l (n - 1) k
      rw [← hx] at hS
      have HS := Lib.hid hS
      clear hc hx hS
      obtain ⟨B, hB⟩ : ∃ B, B = ((n == 1) || reach1 l (n - 1) k) := ⟨_, rfl⟩
      rw [← hB]
      have HB := Lib.hid hB
      clear hB
      have hge : ¬ n ≤ x ∨ x = 18446744073709551615 := by
        by_cases c : n ≤ x
        · exact Or.inr (by rw [HX.out] at c ⊢; rw [HNN.out] at c; exact HL.out.2.2.1 k hlt c)
        · exact Or.inl c
      have fin : ∀ B', B' = (B || decide (n - 1 ≤ x)) → B' = ((n == 1) || reach1 l (n - 1) (k + 1)) := by
        rintro B' rfl
        rw [HS.out, HB.out, Bool.or_assoc]
      have FIN := Lib.hid fin
      clear fin
      rcases hge with h1 | h1
      · have h2 : decide (n ≤ x) = false := decide_eq_false h1
        cases B
        · go_wp2
          go_roundw
          case rel => exact ⟨k + 1, by rw [← FIN.out _ rfl]; simp, by go_num, by omega, by first | rfl | trivial⟩
          case measure => first | (simp [intOf]; done) | (simp [intOf]; omega)
        · go_wp2
          go_roundw
          case rel => exact ⟨k + 1, by rw [← FIN.out _ rfl]; simp, by go_num, by omega, by first | rfl | trivial⟩
          case measure => first | (simp [intOf]; done) | (simp [intOf]; omega)
      · subst h1
        cases B
        · go_wp2
          go_roundw
          case rel => exact ⟨k + 1, by rw [← FIN.out _ rfl]; simp, by go_num, by omega, by first | rfl | trivial⟩
          case measure => first | (simp [intOf]; done) | (simp [intOf]; omega)
        · go_wp2
          go_roundw
          case rel => exact ⟨k + 1, by rw [← FIN.out _ rfl]; simp, by go_num, by omega, by first | rfl | trivial⟩
          case measure => first | (simp [intOf]; done) | (simp [intOf]; omega)
    · obtain rfl : k = l.length := by omega
      have hfin := HL.out.2.2.2
      rw [← HNN.out] at hfin
      go_wp2
      go_ret
      exact ⟨rfl, B1.out⟩
end Go.Proofs.Ytllmiaonlofeeaa
