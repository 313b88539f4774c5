/-
  Plain: rotation by exchanged ranges, one element moved, the symmetric merge's and the insertion sort's steps. No program in sight; no conditions beyond what each theorem states.
-/
import Derived.Test.YtllmiaonlofeeaaPs
import Derived.Test.YtllmiaonlofeeaaKc
namespace Go.Proofs.Ytllmiaonlofeeaa
open Go.Sort

theorem sr_get (d : Array Msg) (p q n : Nat) (h1 : p + n ≤ q) (h2 : q + n ≤ d.size) (t : Nat) :
    (sr d p q n)[t]! = if p ≤ t ∧ t < p + n then d[t + (q - p)]! else if q ≤ t ∧ t < q + n then d[t - (q - p)]! else d[t]! := by
  induction n generalizing t with
  | zero => rw [if_neg (by omega), if_neg (by omega)]; rfl
  | succ n ih =>
    have ih' := ih (by omega) (by omega)
    rw [sr, swp_get _ (by rw [sr_size]; omega) (by rw [sr_size]; omega), ih', ih', ih']
    by_cases c1 : t = q + n
    · subst c1
      rw [if_pos rfl, if_neg (by omega), if_neg (by omega), if_neg (by omega), if_pos (by omega)]
      congr 1; omega
    · rw [if_neg c1]
      by_cases c2 : t = p + n
      · subst c2
        rw [if_pos rfl, if_neg (by omega), if_neg (by omega), if_pos (by omega)]
        congr 1; omega
      · rw [if_neg c2]
        by_cases c3 : p ≤ t ∧ t < p + n
        · rw [if_pos c3, if_pos (by omega)]
        · rw [if_neg c3]
          by_cases c4 : q ≤ t ∧ t < q + n
          · rw [if_pos c4, if_neg (by omega), if_pos (by omega)]
          · rw [if_neg c4, if_neg (by omega), if_neg (by omega)]

/-! ### The rotation's loop -/
theorem rot_gt {d d' : Array Msg} {m i j : Nat} (hi : i ≤ m) (hij : j < i) (hb : m + j ≤ d.size)
    (h : Rot (sr d (m - i) m j) d' (m - (i - j)) m (m + j)) : Rot d d' (m - i) m (m + j) := by
  have hs : (sr d (m - i) m j).size = d.size := sr_size _ _ _ _
  refine ⟨h.1.trans hs, fun t ht => ?_⟩
  rw [h.2 t (by rw [hs]; exact ht)]
  have g := sr_get d (m - i) m j (by omega) (by omega)
  by_cases c1 : m - i ≤ t ∧ t < m - i + (m + j - m)
  · rw [if_pos c1, if_neg (by omega), if_neg (by omega), g, if_pos (by omega)]
  · rw [if_neg c1]
    by_cases c2 : m - (i - j) ≤ t ∧ t < m - (i - j) + (m + j - m)
    · rw [if_pos c2, if_pos (by omega), g, if_neg (by omega)]
      by_cases c3 : t + (m - (m - (i - j))) < m
      · rw [if_neg (by omega)]; congr 1; omega
      · rw [if_pos (by omega)]; congr 1; omega
    · rw [if_neg c2]
      by_cases c3 : m - (i - j) + (m + j - m) ≤ t ∧ t < m + j
      · rw [if_pos c3, if_pos (by omega), g, if_neg (by omega)]
        by_cases c4 : m ≤ t - (m + j - m)
        · rw [if_pos (by omega)]; congr 1; omega
        · rw [if_neg (by omega)]
      · rw [if_neg c3, if_neg (by omega), g, if_neg (by omega), if_neg (by omega)]

theorem rot_lt {d d' : Array Msg} {m i j : Nat} (hi : i ≤ m) (hij : i < j) (hb : m + j ≤ d.size)
    (h : Rot (sr d (m - i) (m + j - i) i) d' (m - i) m (m + (j - i))) : Rot d d' (m - i) m (m + j) := by
  have hs : (sr d (m - i) (m + j - i) i).size = d.size := sr_size _ _ _ _
  refine ⟨h.1.trans hs, fun t ht => ?_⟩
  rw [h.2 t (by rw [hs]; exact ht)]
  have g := sr_get d (m - i) (m + j - i) i (by omega) (by omega)
  by_cases c1 : m - i ≤ t ∧ t < m - i + (m + (j - i) - m)
  · rw [if_pos c1, if_pos (by omega), g, if_neg (by omega), if_neg (by omega)]
  · rw [if_neg c1]
    by_cases c2 : m - i + (m + (j - i) - m) ≤ t ∧ t < m + (j - i)
    · rw [if_pos c2, if_pos (by omega), g, if_pos (by omega)]; congr 1; omega
    · rw [if_neg c2, g]
      by_cases c3 : m + j - i ≤ t ∧ t < m + j
      · rw [if_neg (by omega), if_pos (by omega), if_neg (by omega), if_pos (by omega)]; congr 1; omega
      · rw [if_neg (by omega), if_neg (by omega), if_neg (by omega), if_neg (by omega)]

theorem rot_eq {d : Array Msg} {m i : Nat} (hi : i ≤ m) (hb : m + i ≤ d.size) : Rot d (sr d (m - i) m i) (m - i) m (m + i) := by
  refine ⟨sr_size _ _ _ _, fun t ht => ?_⟩
  rw [sr_get d (m - i) m i (by omega) (by omega)]
  by_cases c1 : m - i ≤ t ∧ t < m - i + i
  · rw [if_pos c1, if_pos (by omega)]
  · by_cases c2 : m ≤ t ∧ t < m + i
    · rw [if_neg c1, if_pos c2, if_neg (by omega), if_pos (by omega)]; congr 1; omega
    · rw [if_neg c1, if_neg c2, if_neg (by omega), if_neg (by omega)]

theorem rot_nil {d : Array Msg} {s m e : Nat} (h : s = m ∨ m = e) (h1 : s ≤ m) (h2 : m ≤ e) : Rot d d s m e := by
  refine ⟨rfl, fun t ht => ?_⟩
  by_cases c1 : s ≤ t ∧ t < s + (e - m)
  · rw [if_pos c1]; congr 1; omega
  · rw [if_neg c1]
    by_cases c2 : s + (e - m) ≤ t ∧ t < e
    · rw [if_pos c2]; congr 1; omega
    · rw [if_neg c2]

/-- One element, moved up. -/
theorem rot_up {d d' : Array Msg} {a n : Nat} (hb : a + 1 + n < d.size) (h : Rot d d' a (a + 1) (a + 1 + n)) : Rot d (swp d' (a + n) (a + n + 1)) a (a + 1) (a + 1 + (n + 1)) := by
  refine ⟨(size_swp _ _ _).trans h.1, fun t ht => ?_⟩
  rw [swp_get _ (by rw [h.1]; omega) (by rw [h.1]; omega), h.2 t ht, h.2 _ (by omega : a + n < d.size), h.2 _ (by omega : a + n + 1 < d.size)]
  by_cases c1 : t = a + n + 1
  · subst c1; rw [if_pos rfl, if_neg (by omega), if_pos (by omega), if_neg (by omega), if_pos (by omega)]; congr 1; omega
  · rw [if_neg c1]
    by_cases c2 : t = a + n
    · subst c2; rw [if_pos rfl, if_neg (by omega), if_neg (by omega), if_pos (by omega)]; congr 1; omega
    · rw [if_neg c2]
      by_cases c3 : a ≤ t ∧ t < a + n
      · rw [if_pos (by omega), if_pos (by omega)]
      · rw [if_neg (by omega), if_neg (by omega), if_neg (by omega), if_neg (by omega)]

/-- One element, moved down. -/
theorem rot_down {d d' : Array Msg} {k m : Nat} (hk : 0 < k) (hkm : k ≤ m) (hb : m < d.size) (h : Rot d d' k m (m + 1)) : Rot d (swp d' k (k - 1)) (k - 1) m (m + 1) := by
  refine ⟨(size_swp _ _ _).trans h.1, fun t ht => ?_⟩
  rw [swp_get _ (by rw [h.1]; omega) (by rw [h.1]; omega), h.2 t ht, h.2 _ (by omega : k < d.size), h.2 _ (by omega : k - 1 < d.size)]
  by_cases c1 : t = k - 1
  · subst c1; rw [if_pos rfl, if_pos (by omega), if_pos (by omega)]; congr 1; omega
  · rw [if_neg c1]
    by_cases c2 : t = k
    · subst c2; rw [if_pos rfl, if_neg (by omega), if_neg (by omega), if_neg (by omega), if_pos (by omega)]; congr 1; omega
    · rw [if_neg c2]
      by_cases c3 : k < t ∧ t < m + 1
      · rw [if_neg (by omega), if_pos (by omega), if_neg (by omega), if_pos (by omega)]
      · rw [if_neg (by omega), if_neg (by omega), if_neg (by omega), if_neg (by omega)]

/-! ### The merge -/
/-- a to b is sorted now, of each key the same messages in the same order; all else is as it was. -/
structure Mg (d d' : Array Msg) (a b : Nat) : Prop where
  out : Out d d' a b
  srt : SrtIn d' a b
  same : Same (seg d' a b) (seg d a b)

theorem Rot.same {d d' : Array Msg} {s m e a b : Nat} (h : Rot d d' s m e) (h1 : s ≤ m) (h2 : m ≤ e) (ha : a ≤ s) (hb : e ≤ b) (hs : b ≤ d.size)
    (hk : ∀ x y, s ≤ x → x < m → m ≤ y → y < e → klt d[y]! d[x]!) : Same (seg d' a b) (seg d a b) := by
  have ho := h.out h1 h2
  rw [seg_append d' (a := a) (m := s) (b := b) ha (by omega), seg_append d' (a := s) (m := e) (b := b) (by omega) hb, seg_append d (a := a) (m := s) (b := b) ha (by omega), seg_append d (a := s) (m := e) (b := b) (by omega) hb, h.segs h1 h2 (by omega), ho.segs (by omega) ha (Or.inl (Nat.le_refl _)), ho.segs hs hb (Or.inr (Nat.le_refl _)), seg_append d h1 h2]
  refine (Same.refl _).append (Same.append (Same.symm (Same.swap ?_)) (Same.refl _))
  intro x hx y hy
  obtain ⟨i, hi1, hi2, rfl⟩ := mem_seg.1 hx
  obtain ⟨j, hj1, hj2, rfl⟩ := mem_seg.1 hy
  exact hk i j hi1 hi2 hj1 hj2

/-- What the rotation leaves: four sorted pieces, and nothing ahead of the middle is behind what stands behind it. -/
structure Half (d' : Array Msg) (a s mid e b : Nat) : Prop where
  p1 : SrtIn d' a s
  p2 : SrtIn d' s mid
  p3 : SrtIn d' mid e
  p4 : SrtIn d' e b
  cross : ∀ x y, a ≤ x → x < mid → mid ≤ y → y < b → ¬ klt d'[y]! d'[x]!

theorem half_of_rot {d d' : Array Msg} {a s m e b : Nat} (h : Rot d d' s m e) (h1 : s ≤ m) (h2 : m ≤ e) (ha : a ≤ s) (hb : e ≤ b) (hs : b ≤ d.size) (q1 : SrtIn d a m) (q2 : SrtIn d m b)
    (hk : ∀ x y, s ≤ x → x < m → m ≤ y → y < e → klt d[y]! d[x]!) (hA : ∀ x y, a ≤ x → x < s → e ≤ y → y < b → ¬ klt d[y]! d[x]!) : Half d' a s (s + (e - m)) e b := by
  have g := h.2
  have lo : ∀ t, t < s → d'[t]! = d[t]! := fun t ht => by rw [g t (by omega), if_neg (by omega), if_neg (by omega)]
  have m1 : ∀ t, s ≤ t → t < s + (e - m) → d'[t]! = d[t + (m - s)]! := fun t p q => by rw [g t (by omega), if_pos (by omega)]
  have m2 : ∀ t, s + (e - m) ≤ t → t < e → d'[t]! = d[t - (e - m)]! := fun t p q => by rw [g t (by omega), if_neg (by omega), if_pos (by omega)]
  have hi : ∀ t, e ≤ t → t < b → d'[t]! = d[t]! := fun t p q => by rw [g t (by omega), if_neg (by omega), if_neg (by omega)]
  refine ⟨fun x y p q r => ?_, fun x y p q r => ?_, fun x y p q r => ?_, fun x y p q r => ?_, fun x y p q r u => ?_⟩
  · rw [lo x (by omega), lo y (by omega)]; exact q1 x y p q (by omega)
  · rw [m1 x (by omega) (by omega), m1 y (by omega) (by omega)]; exact q2 _ _ (by omega) (by omega) (by omega)
  · rw [m2 x (by omega) (by omega), m2 y (by omega) (by omega)]; exact q1 _ _ (by omega) (by omega) (by omega)
  · rw [hi x (by omega) (by omega), hi y (by omega) (by omega)]; exact q2 _ _ (by omega) (by omega) (by omega)
  · by_cases c1 : x < s
    · rw [lo x c1]
      by_cases c2 : y < e
      · rw [m2 y r c2]; exact q1 _ _ p (by omega) (by omega)
      · rw [hi y (by omega) u]; exact hA x y p c1 (by omega) u
    · rw [m1 x (by omega) q]
      by_cases c2 : y < e
      · rw [m2 y r c2]; exact kle_of_lt (hk _ _ (by omega) (by omega) (by omega) (by omega))
      · rw [hi y (by omega) u]; exact q2 _ _ (by omega) (by omega) u

theorem srt_triv {d : Array Msg} {a s m : Nat} (h : a = s ∨ s = m) (h1 : SrtIn d a s) (h2 : SrtIn d s m) : SrtIn d a m := by
  rcases h with rfl | rfl
  · exact h2
  · exact h1
theorem Mg.of_srt {d : Array Msg} {a b : Nat} (h : SrtIn d a b) : Mg d d a b := ⟨Out.refl _ _ _, h, Same.refl _⟩

/-- The two halves, merged, make the whole. -/
theorem merge_fin {d d1 d2 d3 : Array Msg} {a s mid e b : Nat} (ho : Out d d1 a b) (hsm : Same (seg d1 a b) (seg d a b)) (hH : Half d1 a s mid e b) (h1 : a ≤ mid) (h2 : mid ≤ b) (hs : b ≤ d.size)
    (k1 : Mg d1 d2 a mid) (k2 : Mg d2 d3 mid b) : Mg d d3 a b := by
  have s1 : d1.size = d.size := ho.1
  have s2 : d2.size = d.size := k1.out.1.trans s1
  have e1 : seg d3 a mid = seg d2 a mid := k2.out.segs (by omega) h1 (Or.inl (Nat.le_refl _))
  have e2 : seg d2 mid b = seg d1 mid b := k1.out.segs (by omega) h2 (Or.inr (Nat.le_refl _))
  refine ⟨(ho.trans (k1.out.wide (Nat.le_refl _) h2)).trans (k2.out.wide h1 (Nat.le_refl _)), SrtIn.join (k2.out.srt (by omega) (Or.inl (Nat.le_refl _)) k1.srt) k2.srt (fun x y p q r u => ?_), ?_⟩
  · have hx : d3[x]! ∈ seg d3 a mid := mem_seg.2 ⟨x, p, q, rfl⟩
    rw [e1] at hx
    obtain ⟨x', p', q', ex⟩ := mem_seg.1 (k1.same.mem hx)
    have hy : d3[y]! ∈ seg d3 mid b := mem_seg.2 ⟨y, r, u, rfl⟩
    have hy := k2.same.mem hy
    rw [e2] at hy
    obtain ⟨y', r', u', ey⟩ := mem_seg.1 hy
    rw [← ex, ← ey]
    exact hH.cross x' y' p' q' r' u'
  · refine Same.trans ?_ hsm
    rw [seg_append d3 h1 h2, seg_append d1 h1 h2, e1]
    exact k1.same.append (by have := k2.same; rwa [e2] at this)

/-! ### Insertion -/
/-- sorted from a to i (i itself with them), but for what stands at j. -/
def But (d : Array Msg) (a j i : Nat) : Prop := ∀ s t, a ≤ s → s < t → t ≤ i → t ≠ j → ¬ klt d[t]! d[s]!
theorem But.start {d : Array Msg} {a i : Nat} (h : SrtIn d a i) : But d a i i := fun s t p q r u => h s t p q (by omega)
theorem But.done {d : Array Msg} {a j i : Nat} (h : But d a j i) (hj : j ≤ i) (hs : j ≤ a ∨ ¬ klt d[j]! d[j - 1]!) : SrtIn d a (i + 1) := fun s t p q r => by
  by_cases c : t = j
  · subst c
    rcases hs with hs | hs
    · omega
    · by_cases c2 : s = t - 1
      · rw [c2]; exact hs
      · exact kle_trans (h s (t - 1) p (by omega) (by omega) (by omega)) hs
  · exact h s t p q (by omega) c
theorem But.step {d : Array Msg} {a j i : Nat} (h : But d a (j + 1) i) (hj : j + 1 ≤ i) (ha : a ≤ j) (hs : i < d.size) (hk : klt d[j + 1]! d[j]!) : But (swp d (j + 1) j) a j i := fun s t p q r u => by
  rw [swp_get d (by omega) (by omega), swp_get d (by omega) (by omega), if_neg u]
  by_cases c1 : t = j + 1
  · rw [if_pos c1]
    by_cases c2 : s = j
    · rw [if_pos c2]; exact kle_of_lt hk
    · rw [if_neg c2, if_neg (by omega)]; exact h s j p (by omega) (by omega) (by omega)
  · rw [if_neg c1]
    by_cases c2 : s = j
    · rw [if_pos c2]; exact h (j + 1) t (by omega) (by omega) r c1
    · rw [if_neg c2]
      by_cases c3 : s = j + 1
      · rw [if_pos c3]; exact h j t ha (by omega) r c1
      · rw [if_neg c3]; exact h s t p q r c1
theorem swp_rot {d : Array Msg} {j : Nat} (h : j + 1 < d.size) : Rot d (swp d (j + 1) j) j (j + 1) (j + 2) := by
  refine ⟨size_swp _ _ _, fun t ht => ?_⟩
  rw [swp_get d (by omega) (by omega)]
  by_cases c1 : t = j
  · subst c1; rw [if_pos rfl, if_pos (by omega)]; congr 1; omega
  · rw [if_neg c1]
    by_cases c2 : t = j + 1
    · subst c2; rw [if_pos rfl, if_neg (by omega), if_pos (by omega)]; congr 1; omega
    · rw [if_neg c2, if_neg (by omega), if_neg (by omega)]

/-! ### Sorted, as the document says -/
/-- Behind all that it isn't ahead of. -/
def insM (x : Msg) : List Msg → List Msg
  | [] => [x]
  | y :: l => if klt x y then x :: y :: l else y :: insM x l
def ssort : List Msg → List Msg := fun l => l.foldl (fun o x => insM x o) []
theorem mem_insM {x z : Msg} : ∀ {l : List Msg}, z ∈ insM x l ↔ z = x ∨ z ∈ l
  | [] => by simp [insM]
  | y :: l => by
    unfold insM
    split
    · simp
    · rw [List.mem_cons, mem_insM, List.mem_cons]
      constructor
      · rintro (h | h | h)
        · exact Or.inr (Or.inl h)
        · exact Or.inl h
        · exact Or.inr (Or.inr h)
      · rintro (h | h | h)
        · exact Or.inr (Or.inl h)
        · exact Or.inl h
        · exact Or.inr (Or.inr h)
theorem srt_insM {x : Msg} : ∀ {l : List Msg}, Srt l → Srt (insM x l)
  | [], _ => by simp [insM, Srt]
  | y :: l, h => by
    have h' := List.pairwise_cons.1 h
    unfold insM
    split
    · next c =>
      refine List.pairwise_cons.2 ⟨fun z hz => ?_, h⟩
      rcases List.mem_cons.1 hz with rfl | hz
      · exact kle_of_lt c
      · exact kle_trans (kle_of_lt c) (h'.1 z hz)
    · next c =>
      refine List.pairwise_cons.2 ⟨fun z hz => ?_, srt_insM h'.2⟩
      rcases mem_insM.1 hz with rfl | hz
      · exact c
      · exact h'.1 z hz
theorem same_insM {x : Msg} : ∀ {l : List Msg}, Srt l → Same (insM x l) (l ++ [x])
  | [], _ => Same.refl _
  | y :: l, h => by
    have h' := List.pairwise_cons.1 h
    unfold insM
    split
    · next c =>
      have := Same.swap (a := y :: l) (b := [x]) (fun z hz w hw => by
        rw [List.mem_singleton] at hw
        subst hw
        rcases List.mem_cons.1 hz with rfl | hz
        · exact c
        · exact klt_of_lt_of_le c (h'.1 z hz))
      exact this.symm
    · exact Same.append (Same.refl [y]) (same_insM h'.2)
theorem ssort_app : ∀ (l o : List Msg), Srt o → Srt (l.foldl (fun o x => insM x o) o) ∧ Same (l.foldl (fun o x => insM x o) o) (o ++ l)
  | [], o, h => ⟨h, by simp; exact Same.refl _⟩
  | x :: l, o, h => by
    obtain ⟨h1, h2⟩ := ssort_app l (insM x o) (srt_insM h)
    refine ⟨h1, h2.trans ?_⟩
    have := (same_insM (x := x) h).append (Same.refl l)
    simpa using this
theorem ssort_srt (l : List Msg) : Srt (ssort l) := (ssort_app l [] List.Pairwise.nil).1
theorem ssort_same (l : List Msg) : Same (ssort l) l := by simpa [ssort] using (ssort_app l [] List.Pairwise.nil).2
theorem ssort_length (l : List Msg) : (ssort l).length = l.length := by
  have h : ∀ (x : Msg) (o : List Msg), (insM x o).length = o.length + 1 := fun x o => by
    induction o with
    | nil => rfl
    | cons y o ih => unfold insM; split <;> simp [ih]
  have : ∀ (l o : List Msg), (l.foldl (fun o x => insM x o) o).length = o.length + l.length := fun l => by
    induction l with
    | nil => simp
    | cons x l ih => intro o; rw [List.foldl_cons, ih, h, List.length_cons]; omega
  simpa [ssort] using this l []
theorem ssort_of_mg {d d' : Array Msg} (h : Mg d d' 0 d.size) : d'.toList = ssort d.toList := by
  have hs : d'.size = d.size := h.out.1
  have e := seg_all d'
  rw [hs] at e
  have h1 : Srt d'.toList := by rw [← e]; exact srt_seg h.srt
  have h2 : Same d'.toList d.toList := by rw [← e, ← seg_all d]; exact h.same
  exact one_list _ _ h1 (ssort_srt _) (h2.trans (ssort_same _).symm)

end Go.Proofs.Ytllmiaonlofeeaa
