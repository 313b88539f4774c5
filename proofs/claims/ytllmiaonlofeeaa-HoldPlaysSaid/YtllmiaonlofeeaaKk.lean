/-
  Comparisons: of configurations, and the references'; sums. No conditions beyond what each theorem states.
-/
import Derived.Test.YtllmiaonlofeeaaKj
namespace Go.Proofs.Ytllmiaonlofeeaa
open Go.RowKit Go.Sort

theorem ret_bool {a b : Bool} (h : a = b) : Ending.returned (.bool a) = .returned (.bool b) := by rw [h]
theorem grown_of_same {P : Program} {f : FuncId} {args : Array Value} {w : World} {n : Nat} {os : Array Obj} {v : Value}
    (h : Calls P f args (grow (w.drewN n) os) fun e w' => e = .returned v ∧ grow (w.drewN n) os = w') : Calls P f args (grow (w.drewN n) os) fun e w'' => e = .returned v ∧ ∃ p : GrownBy, w'' = grow (w.drewN p.n) p.os :=
  Calls.grown_of (h.mono fun _ _ ⟨he, hw⟩ => ⟨he, by rw [← hw]; exact Gr.refl _⟩)
/-- Is a pair ahead of another one? -/
def lessB (s f s' f' : Int) : Bool := decide (s < s' ∨ s = s' ∧ f < f')
def signZ (a b : Bool) : Int := if a then -1 else if b then 1 else 0

theorem c_rsign (a b : Bool) (w : World) : Calls Try.prog 61 #[.bool a, .bool b] w fun e w' => e = .returned (.int .i64 (signZ a b)) ∧ w = w' := by
  cases a <;> cases b <;> (go_enter Try.func61, Try.ntmps61; go_wp2; go_ret; exact ⟨rfl, rfl⟩)

theorem c_rLess (s f s' f' : Int) (w : World) :
    Calls Try.prog 48 #[.agg #[.int .u64 s, .int .i64 f], .agg #[.int .u64 s', .int .i64 f']] w fun e w' => e = .returned (.bool (lessB s f s' f')) ∧ Gr w w' := by
  by_cases h1 : s < s'
  · go_enter Try.func48, Try.ntmps48
    go_wp2
    go_ret
    exact ⟨ret_bool (by simp [lessB, h1]), (Gr.alloc _ _).trans (Gr.alloc _ _)⟩
  · by_cases h2 : s = s'
    · subst h2
      by_cases h3 : f < f'
      · go_enter Try.func48, Try.ntmps48
        go_wp2
        go_ret
        exact ⟨ret_bool (by simp [lessB, h3]), (Gr.alloc _ _).trans (Gr.alloc _ _)⟩
      · go_enter Try.func48, Try.ntmps48
        go_wp2
        go_ret
        exact ⟨ret_bool (by simp [lessB]; omega), (Gr.alloc _ _).trans (Gr.alloc _ _)⟩
    · have hb : (s == s') = false := by simpa using h2
      go_enter Try.func48, Try.ntmps48
      go_wp2
      go_ret
      exact ⟨ret_bool (by simp [lessB]; omega), (Gr.alloc _ _).trans (Gr.alloc _ _)⟩

theorem c_rCompare (s f s' f' : Int) (w : World) :
    Calls Try.prog 24 #[.agg #[.int .u64 s, .int .i64 f], .agg #[.int .u64 s', .int .i64 f']] w fun e w' => e = .returned (.int .i64 (signZ (lessB s f s' f') (lessB s' f' s f))) ∧ Gr w w' := by
  have mixed : Try.prog.follows .mixedOrders = true := by kernel_rfl
  obtain ⟨W, hW⟩ : ∃ W, W = ((w.alloc (.cells #[.int .u64 s, .int .i64 f] 29)).alloc (.cells #[.int .u64 s', .int .i64 f'] 29)) := ⟨_, rfl⟩
  have gW : Gr w W := hW ▸ (Gr.alloc _ _).trans (Gr.alloc _ _)
  have hz : W.heap.size = w.heap.size + 2 := by rw [hW]; simp
  have x0 : ∀ n os, (grow (W.drewN n) os).cell? ⟨w.heap.size, 0, none⟩ = some (.int .u64 s) := cell_grown (by rw [hz]; simp) (by rw [hW]; simp [go_sem])
  have x1 : ∀ n os, (grow (W.drewN n) os).cell? ⟨w.heap.size, 1, none⟩ = some (.int .i64 f) := cell_grown (by rw [hz]; simp) (by rw [hW]; simp [go_sem])
  have y0 : ∀ n os, (grow (W.drewN n) os).cell? ⟨w.heap.size + 1, 0, none⟩ = some (.int .u64 s') := cell_grown (by rw [hz]; simp) (by rw [hW]; simp [go_sem])
  have y1 : ∀ n os, (grow (W.drewN n) os).cell? ⟨w.heap.size + 1, 1, none⟩ = some (.int .i64 f') := cell_grown (by rw [hz]; simp) (by rw [hW]; simp [go_sem])
  have HW := Lib.hid hW
  have GW := Lib.hid gW
  clear hW gW hz
  go_enter Try.func24, Try.ntmps24
  go_wp2_with fail
  rw [← HW.out]
  go_quiet_grown (first | (go_at_call 48; with_reducible exact grown_of_Gr (c_rLess _ _ _ _ _)) | (go_at_call 61; with_reducible exact grown_of_same (c_rsign _ _ _)))
  go_wp2
  go_ret
  exact ⟨rfl, GW.out.trans ⟨nq, osq, rfl⟩⟩

theorem c_rConfLess (s f s' f' : Int) (w : World) :
    Calls Try.prog 62 #[.agg #[.int .u64 s, .int .i64 f], .agg #[.int .u64 s', .int .i64 f']] w fun e w' => e = .returned (.bool (lessB s f s' f')) ∧ Gr w w' := by
  by_cases h1 : s < s'
  · go_enter Try.func62, Try.ntmps62
    go_wp2
    go_ret
    exact ⟨ret_bool (by simp [lessB, h1]), (Gr.alloc _ _).trans (Gr.alloc _ _)⟩
  · by_cases h2 : s = s'
    · subst h2
      by_cases h3 : f < f'
      · go_enter Try.func62, Try.ntmps62
        go_wp2
        go_ret
        exact ⟨ret_bool (by simp [lessB, h3]), (Gr.alloc _ _).trans (Gr.alloc _ _)⟩
      · go_enter Try.func62, Try.ntmps62
        go_wp2
        go_ret
        exact ⟨ret_bool (by simp [lessB]; omega), (Gr.alloc _ _).trans (Gr.alloc _ _)⟩
    · have hb : (s == s') = false := by simpa using h2
      go_enter Try.func62, Try.ntmps62
      go_wp2
      go_ret
      exact ⟨ret_bool (by simp [lessB]; omega), (Gr.alloc _ _).trans (Gr.alloc _ _)⟩

theorem c_rConfs (s f s' f' : Int) (w : World) :
    Calls Try.prog 25 #[.agg #[.int .u64 s, .int .i64 f], .agg #[.int .u64 s', .int .i64 f']] w fun e w' => e = .returned (.int .i64 (signZ (lessB s f s' f') (lessB s' f' s f))) ∧ Gr w w' := by
  have mixed : Try.prog.follows .mixedOrders = true := by kernel_rfl
  obtain ⟨W, hW⟩ : ∃ W, W = ((w.alloc (.cells #[.int .u64 s, .int .i64 f] 31)).alloc (.cells #[.int .u64 s', .int .i64 f'] 31)) := ⟨_, rfl⟩
  have gW : Gr w W := hW ▸ (Gr.alloc _ _).trans (Gr.alloc _ _)
  have hz : W.heap.size = w.heap.size + 2 := by rw [hW]; simp
  have x0 : ∀ n os, (grow (W.drewN n) os).cell? ⟨w.heap.size, 0, none⟩ = some (.int .u64 s) := cell_grown (by rw [hz]; simp) (by rw [hW]; simp [go_sem])
  have x1 : ∀ n os, (grow (W.drewN n) os).cell? ⟨w.heap.size, 1, none⟩ = some (.int .i64 f) := cell_grown (by rw [hz]; simp) (by rw [hW]; simp [go_sem])
  have y0 : ∀ n os, (grow (W.drewN n) os).cell? ⟨w.heap.size + 1, 0, none⟩ = some (.int .u64 s') := cell_grown (by rw [hz]; simp) (by rw [hW]; simp [go_sem])
  have y1 : ∀ n os, (grow (W.drewN n) os).cell? ⟨w.heap.size + 1, 1, none⟩ = some (.int .i64 f') := cell_grown (by rw [hz]; simp) (by rw [hW]; simp [go_sem])
  have HW := Lib.hid hW
  have GW := Lib.hid gW
  clear hW gW hz
  go_enter Try.func25, Try.ntmps25
  go_wp2_with fail
  rw [← HW.out]
  go_quiet_grown (first | (go_at_call 62; with_reducible exact grown_of_Gr (c_rConfLess _ _ _ _ _)) | (go_at_call 61; with_reducible exact grown_of_same (c_rsign _ _ _)))
  go_wp2
  go_ret
  exact ⟨rfl, GW.out.trans ⟨nq, osq, rfl⟩⟩

theorem c_Confs (s1 f1 s2 f2 : Int) (w : World) :
    Calls Try.prog 19 #[.agg #[.int .u64 s1, .int .i64 f1], .agg #[.int .u64 s2, .int .i64 f2]] w fun e w' => e = .returned (.int .i64 (keyCmp s1 f1 s2 f2)) ∧ Gr w w' := by
  go_enter Try.func19, Try.ntmps19
  go_wp2
  go_region_held3 (fun w' => w'.cell? ⟨w.heap.size, 0, none⟩ = some (.int .u64 s1) ∧ w'.cell? ⟨w.heap.size, 1, none⟩ = some (.int .i64 f1) ∧ w'.cell? ⟨w.heap.size + 1, 0, none⟩ = some (.int .u64 s2) ∧ w'.cell? ⟨w.heap.size + 1, 1, none⟩ = some (.int .i64 f2))
    (first | go_keep)
    (first | (go_at_call 56; refine (c_cmpU _ _ _).mono ?_; rintro e w' ⟨rfl, rfl⟩) | (go_at_call 57; refine (c_cmpI _ _ _).mono ?_; rintro e w' ⟨rfl, rfl⟩) | (go_at_call 55; refine (c_Or (cmpZ s1 s2) (cmpZ f1 f2) _ _ _ (by simp [go_sem]) (by simp [go_sem])).mono ?_; rintro e w' ⟨rfl, rfl⟩))
  go_wp2
  go_ret
  exact ⟨rfl, 1, _, by simp only [alloc_eq_grow, grow_grow]; rfl⟩

theorem c_rOf (f q s v : Int) (d : Value) (p : ByteArray) (w : World) :
    Calls Try.prog 49 #[.agg #[.int .i64 f, .int .u32 q, .int .u64 s, .int .i64 v, d, .string p]] w fun e w' => e = .returned (.agg #[.int .u64 s, .int .i64 f]) ∧ Gr w w' := by
  go_enter Try.func49, Try.ntmps49
  go_wp2
  refine bodyPost_ret (v := .agg #[.int .u64 s, .int .i64 f]) (by simp [results, Try.results49, go_sem]) rfl ⟨rfl, ?_⟩
  exact (Gr.alloc _ _).trans (Gr.alloc _ _)

theorem ret_uint {a b : Int} (h : a = b) : Ending.returned (.int .u64 a) = .returned (.int .u64 b) := by rw [h]
/-- The sum that stays at the greatest number. -/
def sumU (a b : Int) : Int := if b > 18446744073709551615 - a then 18446744073709551615 else a + b
theorem c_Sum (a : Int) (w : World) (h0 : 0 ≤ a) (h1 : a ≤ 18446744073709551615) :
    Calls Try.prog 59 #[.int .u64 a, .int .u64 1] w fun e w' => e = .returned (.int .u64 (sumU a 1)) ∧ w = w' := by
  have hw : IntKind.u64.wrap (18446744073709551615 - a) = 18446744073709551615 - a := by rw [IntKind.wrap_u64]; omega
  by_cases h : a = 18446744073709551615
  · subst h
    go_enter Try.func59, Try.ntmps59
    go_wp2
    go_ret
    exact ⟨ret_uint (by simp [sumU]), rfl⟩
  · have hlt : ¬ (1 : Int) > 18446744073709551615 - a := by omega
    have hw2 : IntKind.u64.wrap (a + 1) = a + 1 := by rw [IntKind.wrap_u64]; omega
    go_enter Try.func59, Try.ntmps59
    go_wp2
    go_ret
    exact ⟨ret_uint (by simp only [sumU]; rw [if_neg (by omega)]), rfl⟩

end Go.Proofs.Ytllmiaonlofeeaa
