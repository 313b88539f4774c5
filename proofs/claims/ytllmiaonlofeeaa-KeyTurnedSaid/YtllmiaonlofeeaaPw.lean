/-
  Comparisons of keys and of structs; structs put into memory. No conditions beyond what each theorem states.
-/
import Derived.Test.YtllmiaonlofeeaaKr
import Derived.Test.YtllmiaonlofeeaaPv
namespace Go.Proofs.Ytllmiaonlofeeaa
open Go.RowKit Go.Sort

theorem kc_cases (s f s' f' : Int) : (keyCmp s f s' f' = 0 ∧ keyCmp s' f' s f = 0 ∧ s = s' ∧ f = f') ∨ (keyCmp s f s' f' = 1 ∧ keyCmp s' f' s f = -1 ∧ ¬ (s = s' ∧ f = f')) ∨ (keyCmp s f s' f' = -1 ∧ keyCmp s' f' s f = 1 ∧ ¬ (s = s' ∧ f = f')) := by
  unfold keyCmp orZ cmpZ
  repeat' split
  all_goals omega
theorem kc_neg (s f s' f' : Int) : keyCmp s f s' f' = -1 ↔ (s < s' ∨ s = s' ∧ f < f') := by
  unfold keyCmp orZ cmpZ
  repeat' split
  all_goals omega
theorem kc_trans {s f s' f' s'' f'' : Int} (h : keyCmp s f s' f' = -1) (k : keyCmp s' f' s'' f'' = -1) : keyCmp s f s'' f'' = -1 := by
  rw [kc_neg] at *
  omega

theorem alloc_at (w : World) (o : Obj) : (w.alloc o).heap[w.heap.size]? = some o ∧ (w.alloc o).heap.size = w.heap.size + 1 ∧ Bw w (w.alloc o) := ⟨heap_alloc_new _ _, by simp, Bw.alloc _ _⟩
theorem pair_ne {a b c d : Int} (h : ¬ (a = b ∧ c = d)) : (a == b) = false ∨ ((a == b) = true ∧ (c == d) = false) := by
  by_cases e : a = b
  · exact Or.inr ⟨by simpa using e, by simpa using fun e2 => h ⟨e, e2⟩⟩
  · exact Or.inl (by simpa using e)
theorem pair_eq {a b c d : Int} (h : a = b ∧ c = d) : (a == b) = true ∧ (c == d) = true := ⟨by simpa using h.1, by simpa using h.2⟩
/-- Six structs put into memory. -/
theorem boxes6 (w : World) (o0 o1 o2 o3 o4 o5 : Obj) : ∃ W, W = ((((((w.alloc o0).alloc o1).alloc o2).alloc o3).alloc o4).alloc o5) ∧ Bw w W ∧ W.heap[w.heap.size]? = some o0 ∧ W.heap[w.heap.size + 1]? = some o1 ∧ W.heap[w.heap.size + 2]? = some o2 ∧
    W.heap[w.heap.size + 3]? = some o3 ∧ W.heap[w.heap.size + 4]? = some o4 ∧ W.heap[w.heap.size + 5]? = some o5 := by
  obtain ⟨a0, b0, c0⟩ := alloc_at w o0
  generalize w.alloc o0 = w0 at *
  obtain ⟨a1, b1, c1⟩ := alloc_at w0 o1
  generalize w0.alloc o1 = w1 at *
  obtain ⟨a2, b2, c2⟩ := alloc_at w1 o2
  generalize w1.alloc o2 = w2 at *
  obtain ⟨a3, b3, c3⟩ := alloc_at w2 o3
  generalize w2.alloc o3 = w3 at *
  obtain ⟨a4, b4, c4⟩ := alloc_at w3 o4
  generalize w3.alloc o4 = w4 at *
  obtain ⟨a5, b5, c5⟩ := alloc_at w4 o5
  generalize w4.alloc o5 = w5 at *
  rw [b0] at a1
  rw [b1, b0] at a2
  rw [b2, b1, b0] at a3
  rw [b3, b2, b1, b0] at a4
  rw [b4, b3, b2, b1, b0] at a5
  exact ⟨w5, rfl, ((((c0.trans c1).trans c2).trans c3).trans c4).trans c5, c5.blk (c4.blk (c3.blk (c2.blk (c1.blk a0)))), c5.blk (c4.blk (c3.blk (c2.blk a1))), c5.blk (c4.blk (c3.blk a2)), c5.blk (c4.blk a3), c5.blk a4, a5⟩

theorem keyEq (s f s' f' : Int) : (s == s' && f == f') = (keyCmp s f s' f' == 0) := by
  rcases kc_cases s f s' f' with ⟨h1, _, h3, h4⟩ | ⟨h1, _, h3⟩ | ⟨h1, _, h3⟩
  · rw [h1, h3, h4]; simp
  · rw [h1]; simp only [beq_eq_false_iff_ne, ne_eq, show ((1 : Int) == 0) = false from rfl]; by_cases e : s = s' <;> simp_all
  · rw [h1]; simp only [show ((-1 : Int) == 0) = false from rfl]; by_cases e : s = s' <;> simp_all
theorem run_eqKey (w : World) (s f s' f' : Int) : (binOp .eql 29 (.agg #[.int .u64 s, .int .i64 f]) (.agg #[.int .u64 s', .int .i64 f'])).run Try.prog w = .ok (.bool (keyCmp s f s' f' == 0)) w := by
  rw [← keyEq]
  by_cases e : s = s'
  · have h : (s == s') = true := by simpa using e
    by_cases e2 : f = f' <;> simp [go_sem, h, e2, Try.underlying29, Try.underlying27, Try.underlying3]
  · have h : (s == s') = false := by simpa using e
    simp [go_sem, h, Try.underlying29, Try.underlying27, Try.underlying3]
theorem run_eqConf (w : World) (s f s' f' : Int) : (binOp .eql 31 (.agg #[.int .u64 s, .int .i64 f]) (.agg #[.int .u64 s', .int .i64 f'])).run Try.prog w = .ok (.bool (keyCmp s f s' f' == 0)) w := by
  rw [← keyEq]
  by_cases e : s = s'
  · have h : (s == s') = true := by simpa using e
    by_cases e2 : f = f' <;> simp [go_sem, h, e2, Try.underlying31, Try.underlying27, Try.underlying3]
  · have h : (s == s') = false := by simpa using e
    simp [go_sem, h, Try.underlying31, Try.underlying27, Try.underlying3]

theorem kc_neg_wrap (s f s' f' : Int) : IntKind.i64.wrap (-(keyCmp s' f' s f)) = keyCmp s f s' f' := by
  rcases kc_cases s f s' f' with ⟨h1, h2, _⟩ | ⟨h1, h2, _⟩ | ⟨h1, h2, _⟩ <;> rw [h1, h2] <;> rfl
theorem kc_neg_trans {s f s' f' s'' f'' : Int} (h : keyCmp s f s' f' < 0) (k : keyCmp s' f' s'' f'' < 0) : keyCmp s f s'' f'' < 0 := by
  rcases kc_cases s f s' f' with ⟨h1, _, _⟩ | ⟨h1, _, _⟩ | ⟨h1, _, _⟩
  · omega
  · omega
  · rcases kc_cases s' f' s'' f'' with ⟨h2, _, _⟩ | ⟨h2, _, _⟩ | ⟨h2, _, _⟩
    · omega
    · omega
    · rw [kc_trans h1 h2]; decide

/-- Four structs put into memory. -/
theorem boxes4 (w : World) (o0 o1 o2 o3 : Obj) : ∃ W, W = ((((w.alloc o0).alloc o1).alloc o2).alloc o3) ∧ Bw w W ∧ W.heap[w.heap.size]? = some o0 ∧ W.heap[w.heap.size + 1]? = some o1 ∧ W.heap[w.heap.size + 2]? = some o2 ∧
    W.heap[w.heap.size + 3]? = some o3 := by
  obtain ⟨a0, b0, c0⟩ := alloc_at w o0
  generalize w.alloc o0 = w0 at *
  obtain ⟨a1, b1, c1⟩ := alloc_at w0 o1
  generalize w0.alloc o1 = w1 at *
  obtain ⟨a2, b2, c2⟩ := alloc_at w1 o2
  generalize w1.alloc o2 = w2 at *
  obtain ⟨a3, b3, c3⟩ := alloc_at w2 o3
  generalize w2.alloc o3 = w3 at *
  rw [b0] at a1
  rw [b1, b0] at a2
  rw [b2, b1, b0] at a3
  exact ⟨w3, rfl, ((c0.trans c1).trans c2).trans c3, c3.blk (c2.blk (c1.blk a0)), c3.blk (c2.blk a1), c3.blk a2, a3⟩

theorem kc_self (s f : Int) : keyCmp s f s f = 0 := by
  rcases kc_cases s f s f with ⟨h, _⟩ | ⟨_, _, h⟩ | ⟨_, _, h⟩
  · exact h
  · exact absurd ⟨rfl, rfl⟩ h
  · exact absurd ⟨rfl, rfl⟩ h
end Go.Proofs.Ytllmiaonlofeeaa
