/-
  Plain: the stable sort's steps on an array of messages: exchange of ranges, rotation, symmetric merge; a sorted list with the same messages of each key is the one list. No program in sight; no conditions beyond what each theorem states.
-/
import Derived.Test.YtllmiaonlofeeaaKa
namespace Go.Proofs.Ytllmiaonlofeeaa
open Go.Sort

/-- x's key is ahead of y's. -/
def klt (x y : Msg) : Prop := x.stamp < y.stamp ∨ x.stamp = y.stamp ∧ x.frm < y.frm
instance (x y : Msg) : Decidable (klt x y) := by unfold klt; infer_instance
theorem mcmp_neg (x y : Msg) : mcmp x y < 0 ↔ klt x y := by
  unfold mcmp keyCmp orZ cmpZ klt
  constructor
  · intro h
    by_cases h1 : x.stamp < y.stamp
    · exact Or.inl h1
    · by_cases h2 : y.stamp < x.stamp
      · simp [h1, h2] at h
      · by_cases h3 : x.frm < y.frm
        · exact Or.inr ⟨by omega, h3⟩
        · by_cases h4 : y.frm < x.frm <;> simp [h1, h2, h3, h4] at h
  · rintro (h | ⟨h, h'⟩)
    · simp [h]
    · simp [h, h']
theorem klt_irrefl (x : Msg) : ¬ klt x x := by unfold klt; omega
theorem klt_trans {x y z : Msg} (h : klt x y) (k : klt y z) : klt x z := by unfold klt at *; omega
theorem kle_trans {x y z : Msg} (h : ¬ klt y x) (k : ¬ klt z y) : ¬ klt z x := by unfold klt at *; omega
theorem klt_of_lt_of_le {x y z : Msg} (h : klt x y) (k : ¬ klt z y) : klt x z := by unfold klt at *; omega
theorem klt_of_le_of_lt {x y z : Msg} (h : ¬ klt y x) (k : klt y z) : klt x z := by unfold klt at *; omega
theorem kle_of_lt {x y : Msg} (h : klt x y) : ¬ klt y x := by unfold klt at *; omega

/-- has the key -/
def hasKey (s f : Int) (x : Msg) : Bool := x.stamp == s && x.frm == f
theorem hasKey_self (x : Msg) : hasKey x.stamp x.frm x = true := by simp [hasKey]
theorem hasKey_iff {s f : Int} {x : Msg} : hasKey s f x = true ↔ x.stamp = s ∧ x.frm = f := by simp [hasKey]

def Srt (l : List Msg) : Prop := l.Pairwise fun x y => ¬ klt y x
/-- The same messages of each key, in the same order. -/
def Same (l l' : List Msg) : Prop := ∀ s f, l.filter (hasKey s f) = l'.filter (hasKey s f)
theorem Same.refl (l : List Msg) : Same l l := fun _ _ => rfl
theorem Same.trans {a b c : List Msg} (h : Same a b) (k : Same b c) : Same a c := fun s f => (h s f).trans (k s f)
theorem Same.symm {a b : List Msg} (h : Same a b) : Same b a := fun s f => (h s f).symm
theorem Same.append {a b c d : List Msg} (h : Same a b) (k : Same c d) : Same (a ++ c) (b ++ d) := fun s f => by rw [List.filter_append, List.filter_append, h s f, k s f]
theorem Same.mem {a b : List Msg} (h : Same a b) {x : Msg} (hx : x ∈ a) : x ∈ b := by
  have : x ∈ a.filter (hasKey x.stamp x.frm) := List.mem_filter.2 ⟨hx, hasKey_self x⟩
  rw [h] at this
  exact (List.mem_filter.1 this).1
/-- Two blocks of which no message of the one has a key of the other change places. -/
theorem Same.swap {a b : List Msg} (h : ∀ x ∈ a, ∀ y ∈ b, klt y x) : Same (a ++ b) (b ++ a) := fun s f => by
  rw [List.filter_append, List.filter_append]
  by_cases ha : a.filter (hasKey s f) = []
  · rw [ha]; simp
  · obtain ⟨x, hx⟩ := List.exists_mem_of_ne_nil _ ha
    obtain ⟨hx, kx⟩ := List.mem_filter.1 hx
    have hb : b.filter (hasKey s f) = [] := by
      rw [List.filter_eq_nil_iff]
      intro y hy ky
      have := h x hx y hy
      rw [hasKey_iff] at kx ky
      unfold klt at this; omega
    rw [hb]; simp

/-- **One list**: sorted, and of each key the same messages in the same order. -/
theorem one_list : ∀ (a b : List Msg), Srt a → Srt b → Same a b → a = b
  | [], [], _, _, _ => rfl
  | [], y :: b, _, _, h => by
    have := h y.stamp y.frm
    simp [hasKey_self] at this
  | x :: a, [], _, _, h => by
    have := h x.stamp x.frm
    simp [hasKey_self] at this
  | x :: a, y :: b, ha, hb, h => by
    have ha' := List.pairwise_cons.1 ha
    have hb' := List.pairwise_cons.1 hb
    have hk : ∀ {p q : Msg} {l r : List Msg}, Same (p :: l) (q :: r) → (∀ z ∈ r, ¬ klt z q) → ¬ klt p q := fun {p q l r} hh hr hlt => by
      have : p ∈ q :: r := hh.mem List.mem_cons_self
      rcases List.mem_cons.1 this with e | e
      · rw [e] at hlt; exact klt_irrefl _ hlt
      · exact hr p e hlt
    have h1 := hk h hb'.1
    have h2 := hk h.symm ha'.1
    have e : x.stamp = y.stamp ∧ x.frm = y.frm := by unfold klt at h1 h2; omega
    have hf := h x.stamp x.frm
    rw [List.filter_cons_of_pos (hasKey_self x), List.filter_cons_of_pos (hasKey_iff.2 ⟨e.1.symm, e.2.symm⟩)] at hf
    have exy : x = y := (List.cons.inj hf).1
    subst exy
    rw [one_list a b ha'.2 hb'.2 (fun s f => by
      have := h s f
      by_cases k : hasKey s f x = true
      · rw [List.filter_cons_of_pos k, List.filter_cons_of_pos k] at this; exact (List.cons.inj this).2
      · rw [List.filter_cons_of_neg k, List.filter_cons_of_neg k] at this; exact this)]

/-! ### Pieces of an array -/
def seg (d : Array Msg) (a b : Nat) : List Msg := (List.range' a (b - a)).map fun t => d[t]!
theorem seg_append (d : Array Msg) {a m b : Nat} (h1 : a ≤ m) (h2 : m ≤ b) : seg d a b = seg d a m ++ seg d m b := by
  unfold seg
  rw [← List.map_append]
  congr 1
  have := List.range'_append_1 (s := a) (m := m - a) (n := b - m)
  rw [show a + (m - a) = m by omega, show m - a + (b - m) = b - a by omega] at this
  exact this.symm
theorem mem_seg {d : Array Msg} {a b : Nat} {x : Msg} : x ∈ seg d a b ↔ ∃ t, a ≤ t ∧ t < b ∧ d[t]! = x := by
  unfold seg
  simp only [List.mem_map, List.mem_range'_1]
  constructor
  · rintro ⟨t, ht, rfl⟩; exact ⟨t, by omega, by omega, rfl⟩
  · rintro ⟨t, h1, h2, rfl⟩; exact ⟨t, ⟨by omega, by omega⟩, rfl⟩
theorem seg_congr {d e : Array Msg} {a b a' : Nat} {n : Nat} (hn : b = a + n) (h : ∀ t, t < n → d[a + t]! = e[a' + t]!) : seg d a b = seg e a' (a' + n) := by
  subst hn
  unfold seg
  rw [show a + n - a = n by omega, show a' + n - a' = n by omega]
  apply List.ext_getElem
  · simp
  · intro i h1 h2
    simp only [List.length_map, List.length_range'] at h1
    simp only [List.getElem_map, List.getElem_range', Nat.one_mul]
    exact h i h1
theorem seg_length (d : Array Msg) (a b : Nat) : (seg d a b).length = b - a := by simp [seg]
theorem seg_all (d : Array Msg) : seg d 0 d.size = d.toList := by
  apply List.ext_getElem
  · simp [seg]
  · intro i h1 h2
    simp only [Array.length_toList] at h2
    simp [seg, h2]

/-- sorted from a to b -/
def SrtIn (d : Array Msg) (a b : Nat) : Prop := ∀ s t, a ≤ s → s < t → t < b → ¬ klt d[t]! d[s]!
theorem srt_seg {d : Array Msg} {a b : Nat} (h : SrtIn d a b) : Srt (seg d a b) := by
  unfold Srt
  rw [List.pairwise_iff_getElem]
  intro i j hi hj hij
  simp only [seg_length] at hi hj
  simp only [seg, List.getElem_map, List.getElem_range', Nat.one_mul]
  exact h _ _ (by omega) (by omega) (by omega)
theorem SrtIn.sub {d : Array Msg} {a b a' b' : Nat} (h : SrtIn d a b) (h1 : a ≤ a') (h2 : b' ≤ b) : SrtIn d a' b' := fun s t p q r => h s t (by omega) q (by omega)
theorem SrtIn.join {d : Array Msg} {a m b : Nat} (h : SrtIn d a m) (k : SrtIn d m b) (hx : ∀ s t, a ≤ s → s < m → m ≤ t → t < b → ¬ klt d[t]! d[s]!) : SrtIn d a b := fun s t p q r => by
  by_cases h1 : t < m
  · exact h s t p q h1
  · by_cases h2 : s < m
    · exact hx s t p h2 (by omega) r
    · exact k s t (by omega) q r

/-- d' is d but for a to b, and of the same size. -/
def Out (d d' : Array Msg) (a b : Nat) : Prop := d'.size = d.size ∧ ∀ t, t < d.size → (t < a ∨ b ≤ t) → d'[t]! = d[t]!
theorem Out.refl (d : Array Msg) (a b : Nat) : Out d d a b := ⟨rfl, fun _ _ _ => rfl⟩
theorem Out.trans {d d' d'' : Array Msg} {a b : Nat} (h : Out d d' a b) (k : Out d' d'' a b) : Out d d'' a b := ⟨k.1.trans h.1, fun t ht hh => (k.2 t (by rw [h.1]; exact ht) hh).trans (h.2 t ht hh)⟩
theorem Out.wide {d d' : Array Msg} {a b a' b' : Nat} (h : Out d d' a b) (h1 : a' ≤ a) (h2 : b ≤ b') : Out d d' a' b' := ⟨h.1, fun t ht hh => h.2 t ht (by omega)⟩
theorem Out.segs {d d' : Array Msg} {a b p q : Nat} (h : Out d d' a b) (hq : q ≤ d.size) (hpq : p ≤ q) (hh : q ≤ a ∨ b ≤ p) : seg d' p q = seg d p q := by
  have := seg_congr (d := d') (e := d) (a := p) (b := q) (a' := p) (n := q - p) (by omega) (fun t ht => h.2 _ (by omega) (by omega))
  rw [this, show p + (q - p) = q by omega]
theorem Out.srt {d d' : Array Msg} {a b p q : Nat} (h : Out d d' a b) (hq : q ≤ d.size) (hh : q ≤ a ∨ b ≤ p) (hs : SrtIn d p q) : SrtIn d' p q := fun s t h1 h2 h3 => by
  rw [h.2 t (by omega) (by omega), h.2 s (by omega) (by omega)]; exact hs s t h1 h2 h3

/-- [a, m) and [m, b) have changed places. -/
def Rot (d d' : Array Msg) (a m b : Nat) : Prop := d'.size = d.size ∧ ∀ t, t < d.size → d'[t]! = if a ≤ t ∧ t < a + (b - m) then d[t + (m - a)]! else if a + (b - m) ≤ t ∧ t < b then d[t - (b - m)]! else d[t]!
theorem Rot.out {d d' : Array Msg} {a m b : Nat} (h : Rot d d' a m b) (h1 : a ≤ m) (h2 : m ≤ b) : Out d d' a b := ⟨h.1, fun t ht hh => by rw [h.2 t ht, if_neg (by omega), if_neg (by omega)]⟩
theorem Rot.segs {d d' : Array Msg} {a m b : Nat} (h : Rot d d' a m b) (h1 : a ≤ m) (h2 : m ≤ b) (hb : b ≤ d.size) : seg d' a b = seg d m b ++ seg d a m := by
  rw [seg_append d' (m := a + (b - m)) (by omega) (by omega)]
  congr 1
  · rw [seg_congr (e := d) (a' := m) (n := b - m) rfl (fun t ht => by rw [h.2 _ (by omega), if_pos (by omega)]; congr 1; omega), show m + (b - m) = b by omega]
  · rw [seg_congr (e := d) (a' := a) (n := m - a) (by omega) (fun t ht => by rw [h.2 _ (by omega), if_neg (by omega), if_pos (by omega)]; congr 1; omega), show a + (m - a) = m by omega]

end Go.Proofs.Ytllmiaonlofeeaa
