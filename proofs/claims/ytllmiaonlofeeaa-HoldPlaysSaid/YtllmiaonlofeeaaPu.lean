/-
  Plain: sorted blocks, merged two by two. No program in sight; no conditions beyond what each theorem states.
-/
import Derived.Test.YtllmiaonlofeeaaPt
namespace Go.Proofs.Ytllmiaonlofeeaa
open Go.Sort

theorem mul_lt {q q0 k : Nat} (h : q < q0) : q * k + k ≤ q0 * k := by
  have := Nat.mul_le_mul_right k (show q + 1 ≤ q0 from h)
  rwa [Nat.add_mul, Nat.one_mul] at this

theorem Mg.whole {d d' : Array Msg} {a b n : Nat} (h : Mg d d' a b) (hab : a ≤ b) (hb : b ≤ n) (hn : n ≤ d.size) : Same (seg d' 0 n) (seg d 0 n) := by
  rw [seg_append d' (a := 0) (m := a) (by omega) (by omega), seg_append d' (a := a) (m := b) hab hb, seg_append d (a := 0) (m := a) (by omega) (by omega), seg_append d (a := a) (m := b) hab hb, h.out.segs (p := 0) (q := a) (by omega) (by omega) (Or.inl (Nat.le_refl _)), h.out.segs (p := b) (q := n) hn hb (Or.inr (Nat.le_refl _))]
  exact (Same.refl _).append (h.same.append (Same.refl _))

/-- Blocks of k are sorted, up to a. -/
structure Run (d : Array Msg) (k a : Nat) : Prop where
  mult : ∃ q, a = q * k
  srt : ∀ q, q * k + k ≤ a → SrtIn d (q * k) (q * k + k)
/-- All blocks of k are sorted, the last one, that may be shorter, too. -/
def Blk (d : Array Msg) (k n : Nat) : Prop := ∀ q, SrtIn d (q * k) (min (q * k + k) n)

theorem Run.step {d d' : Array Msg} {k a : Nat} (h : Run d k a) (hg : Mg d d' a (a + k)) (hs : a + k ≤ d.size) : Run d' k (a + k) := by
  obtain ⟨⟨q0, rfl⟩, hr⟩ := h
  refine ⟨⟨q0 + 1, by rw [Nat.add_mul, Nat.one_mul]⟩, fun q hq => ?_⟩
  by_cases c : q < q0
  · have := mul_lt (k := k) c
    exact hg.out.srt (by omega) (Or.inl this) (hr q this)
  · by_cases c2 : q = q0
    · subst c2; exact hg.srt
    · have := mul_lt (k := k) (show q0 < q by omega)
      intro s t p q' r; omega
theorem Run.last {d d' : Array Msg} {k a n : Nat} (h : Run d k a) (hg : Mg d d' a n) (han : a ≤ n) (hn : n < a + k) (hs : n ≤ d.size) : Blk d' k n := fun q => by
  obtain ⟨⟨q0, rfl⟩, hr⟩ := h
  by_cases c : q < q0
  · have := mul_lt (k := k) c
    rw [Nat.min_eq_left (by omega)]
    exact hg.out.srt (by omega) (Or.inl this) (hr q this)
  · by_cases c2 : q = q0
    · subst c2; rw [Nat.min_eq_right (by omega)]; exact hg.srt
    · have := mul_lt (k := k) (show q0 < q by omega)
      intro s t p q' r; omega

/-- The blocks up to a are merged already, those from a on not yet. -/
structure Mer (d : Array Msg) (k n a : Nat) : Prop where
  mult : ∃ q, a = q * (2 * k)
  done : ∀ q, q * (2 * k) + 2 * k ≤ a → SrtIn d (q * (2 * k)) (q * (2 * k) + 2 * k)
  todo : ∀ q, a ≤ q * k → SrtIn d (q * k) (min (q * k + k) n)
theorem Mer.start {d : Array Msg} {k n : Nat} (hk : 0 < k) (h : Blk d k n) : Mer d k n 0 := ⟨⟨0, by simp⟩, fun q hq => by omega, fun q _ => h q⟩
theorem Mer.one {d : Array Msg} {k n a : Nat} (h : Mer d k n a) : SrtIn d a (min (a + k) n) := by
  obtain ⟨⟨q0, rfl⟩, hd, ht⟩ := h
  have e : q0 * (2 * k) = (2 * q0) * k := by rw [← Nat.mul_assoc, Nat.mul_comm q0 2]
  have := ht (2 * q0) (by omega)
  rwa [← e] at this
theorem Mer.two {d : Array Msg} {k n a : Nat} (h : Mer d k n a) : SrtIn d (a + k) (min (a + k + k) n) := by
  obtain ⟨⟨q0, rfl⟩, hd, ht⟩ := h
  have e : q0 * (2 * k) + k = (2 * q0 + 1) * k := by rw [Nat.add_mul, Nat.one_mul, ← Nat.mul_assoc, Nat.mul_comm q0 2]
  have := ht (2 * q0 + 1) (by omega)
  rwa [← e] at this
theorem Mer.step {d d' : Array Msg} {k n a : Nat} (h : Mer d k n a) (hg : Mg d d' a (a + 2 * k)) (hs : a + 2 * k ≤ n) (hn : n ≤ d.size) : Mer d' k n (a + 2 * k) := by
  obtain ⟨⟨q0, rfl⟩, hd, ht⟩ := h
  refine ⟨⟨q0 + 1, by rw [Nat.add_mul, Nat.one_mul]⟩, fun q hq => ?_, fun q hq => ?_⟩
  · by_cases c : q < q0
    · have := mul_lt (k := 2 * k) c
      exact hg.out.srt (by omega) (Or.inl this) (hd q this)
    · by_cases c2 : q = q0
      · subst c2; exact hg.srt
      · have := mul_lt (k := 2 * k) (show q0 < q by omega)
        intro s t p q' r; omega
  · exact hg.out.srt (by omega) (Or.inr hq) (ht q (by omega))
theorem Mer.fin {d d' : Array Msg} {k n a : Nat} (h : Mer d k n a) (hg : Mg d d' a n) (han : a ≤ n) (hna : n < a + 2 * k) (hn : n ≤ d.size) : Blk d' (2 * k) n := fun q => by
  obtain ⟨⟨q0, rfl⟩, hd, ht⟩ := h
  by_cases c : q < q0
  · have := mul_lt (k := 2 * k) c
    rw [Nat.min_eq_left (by omega)]
    exact hg.out.srt (by omega) (Or.inl this) (hd q this)
  · by_cases c2 : q = q0
    · subst c2; rw [Nat.min_eq_right (by omega)]; exact hg.srt
    · have := mul_lt (k := 2 * k) (show q0 < q by omega)
      intro s t p q' r; omega
theorem Blk.all {d : Array Msg} {k n : Nat} (h : Blk d k n) (hk : n ≤ k) : SrtIn d 0 n := by
  have := h 0
  rwa [Nat.zero_mul, Nat.zero_add, Nat.min_eq_right hk] at this

end Go.Proofs.Ytllmiaonlofeeaa
