/-
  KeyTurned, walked. No conditions beyond what each theorem states.
-/
import Derived.Test.YtllmiaonlofeeaaPw
import Derived.Test.YtllmiaonlofeeaaLd
namespace Go.Proofs.Ytllmiaonlofeeaa
open Go.RowKit Go.Sort

/-- The pairs' cells, one behind the other. -/
def flatP (l : List (Int × Int)) : List Value := l.flatMap fun p => [.int .u64 p.1, .int .i64 p.2]
theorem flatP_length (l : List (Int × Int)) : (flatP l).length = l.length * 2 := by
  induction l with
  | nil => rfl
  | cons x l ih => simp only [flatP, List.flatMap_cons, List.length_append, List.length_cons] at *; rw [ih]; simp; omega
theorem flatP_append (l r : List (Int × Int)) : flatP (l ++ r) = flatP l ++ flatP r := by simp [flatP]
theorem flatP_get {l : List (Int × Int)} {i : Nat} (hi : i < l.length) : (flatP l)[i * 2]? = some (.int .u64 l[i]!.1) ∧ (flatP l)[i * 2 + 1]? = some (.int .i64 l[i]!.2) := by
  induction l generalizing i with
  | nil => simp at hi
  | cons x l ih =>
    cases i with
    | zero => exact ⟨rfl, rfl⟩
    | succ i =>
      have := ih (i := i) (by simpa using hi)
      simp only [flatP, List.flatMap_cons] at *
      rw [List.getElem?_append_right (by simp; omega), List.getElem?_append_right (by simp; omega), show (i + 1) * 2 - [Value.int .u64 x.1, Value.int .i64 x.2].length = i * 2 by simp; omega, show (i + 1) * 2 + 1 - [Value.int .u64 x.1, Value.int .i64 x.2].length = i * 2 + 1 by simp; omega]
      simpa using this
theorem flatP_one (l : List (Int × Int)) : ∀ u ∈ flatP l, u.oneCell' = true := by
  intro u hu
  obtain ⟨m, _, hm⟩ := List.mem_flatMap.1 hu
  simp only [List.mem_cons, List.not_mem_nil, or_false] at hm
  rcases hm with rfl | rfl <;> rfl

def Own2 (e : TypeId) (base : Nat) (w : World) (v : Value) (l : List (Int × Int)) : Prop := w.ownsRow base e 2 v l.length (flatP l)
theorem Own2.at {e : TypeId} {base : Nat} {w : World} {v : Value} {l : List (Int × Int)} (h : Own2 e base w v l) : PAt w v l := by
  have hc := fun g hg => World.ownsRow.cells h (g := g) hg
  rcases h.2 with ⟨rfl, hn⟩ | ⟨g, cap, cur, rfl, hb, hg, _⟩
  · exact Or.inl ⟨none, 0, by simp, by simpa using hn⟩
  · refine Or.inr ⟨g, 0, cap, rfl, (Array.getElem?_eq_some_iff.1 hg).1, fun i hi => ?_⟩
    obtain ⟨h1, h2⟩ := flatP_get hi
    have k1 := hc g rfl _ _ h1
    have k2 := hc g rfl _ _ h2
    rw [add_off, ] at k1 k2
    rw [Nat.add_assoc]
    exact ⟨k1, k2⟩
theorem Own2.row {e : TypeId} {b : Nat} {w : World} {v : Value} {l : List (Int × Int)} (h : Own2 e b w v l) : ∀ k, v.ownBlock = some k → b ≤ k := fun k hk => (World.ownsRow.lt h k hk).1
theorem Own2.bw {e : TypeId} {b : Nat} {w w' : World} {v : Value} {l : List (Int × Int)} (h : Own2 e b w v l) (k : Bw w w') : Own2 e b w' v l := by
  obtain ⟨h1, h2⟩ := h
  refine ⟨h1, ?_⟩
  rcases h2 with h | ⟨g, cap, cur, e, hg, hh, r⟩
  · exact Or.inl h
  · exact Or.inr ⟨g, cap, cur, e, hg, k.blk hh, r⟩

/-- append of one pair onto a row of the call's own. -/
theorem app2 {ops : Array Oper} {rest : List Oper} {o : Oper} {a : Act} {Q : Exit → Act → World → Prop} {w : World} (t e : TypeId) (i0 : TypeInfo) (ht : Try.prog.underlying t = some (.slice e)) (hi : Try.prog.info? e = some i0)
    (hz0 : i0.zero = some (.agg #[.int .u64 0, .int .i64 0])) (hz1 : i0.size = 2) (hz2 : i0.bytes = 16) (hgd : o.guard = none) (s x : Operand)
    (ho : o.op = .call { callee := .builtin .append, args := #[s, x], argTypes := #[t, t] }) (base g : Nat) (v : Value) (xs : List (Int × Int)) (y : Int × Int) (hs : a.eval s = v) (hx : a.eval x = .slice (some ⟨g, 0, none⟩) 1 1)
    (hown : Own2 e base w v xs) (hsrc : w.heap[g]? = some (.cells #[.int .u64 y.1, .int .i64 y.2] e (0, 0))) (hn : xs.length + 1 ≤ 1000000000) (hbase : base ≤ w.heap.size)
    (h : ∀ v' w', Own2 e base w' v' (xs ++ [y]) → w.grownBy w' v.ownBlock → wpList Try.prog ops Q rest (a.put o.dst v') w') : wpList Try.prog ops Q (o :: rest) a w := by
  refine wpList_append_own w hgd s x t ho base e i0 _ 2 16 ht hi hz0 hz1 hz2 rfl (by decide) v xs.length (flatP xs) hs hown ⟨g, 0, none⟩ 1 1 (flatP [y]) hx (flatP_length _) (fun j u hu => by rw [add_off, Nat.zero_add, cell_blk hsrc]; simpa [flatP] using hu) (flatP_one _) (by unfold maxLen; omega) (by omega) hbase ?_
  intro v' w' h1 h2 _
  refine h v' w' ?_ h2
  unfold Own2
  rw [List.length_append, flatP_append]
  exact h1

/-- Two lists with the same members have the same greatest. -/
theorem gk_same {l X : List (Int × Int)} (h1 : ∀ i, i < l.length → ∃ j, j < X.length ∧ l[i]! = X[j]!) (h2 : ∀ j, j < X.length → ∃ i, i < l.length ∧ X[j]! = l[i]!) : gk X X.length = gk l l.length := by
  by_cases h0 : X.length = 0
  · have h3 : l.length = 0 := by
      by_cases c : l.length = 0
      · exact c
      · obtain ⟨j, hj, _⟩ := h1 0 (by omega)
        omega
    rw [h0, h3]; rfl
  · obtain ⟨j, hj, he⟩ := gk_mem X X.length (by omega)
    apply gk_unique
    · obtain ⟨i, hi, e⟩ := h2 j hj
      exact ⟨i, hi, he.trans e⟩
    · intro i hi
      obtain ⟨j', hj', e⟩ := h1 i hi
      rw [e]
      exact gk_ge X X.length j' hj'

/-- The first k of the list turned by r. -/
def turn (l : List (Int × Int)) (r k : Nat) : List (Int × Int) := (List.range k).map fun j => l[(j + r) % l.length]!
theorem turn_length (l : List (Int × Int)) (r k : Nat) : (turn l r k).length = k := by simp [turn]
theorem turn_succ (l : List (Int × Int)) (r k : Nat) : turn l r (k + 1) = turn l r k ++ [l[(k + r) % l.length]!] := by unfold turn; rw [List.range_succ, List.map_append]; rfl
theorem turn_get {l : List (Int × Int)} {r k i : Nat} (hi : i < k) : (turn l r k)[i]! = l[(i + r) % l.length]! := by
  rw [getElem!_pos _ i (by rw [turn_length]; exact hi)]
  unfold turn
  simp
theorem turn_gk (l : List (Int × Int)) (r : Nat) (hr : l.length = 0 ∨ r < l.length) : gk (turn l r l.length) l.length = gk l l.length := by
  have := gk_same (l := l) (X := turn l r l.length) (fun i hi => ?_) (fun j hj => ?_)
  · rwa [turn_length] at this
  · have hr' : r < l.length := by omega
    by_cases c : r ≤ i
    · refine ⟨i - r, by rw [turn_length]; omega, ?_⟩
      rw [turn_get (by omega), show i - r + r = i by omega, Nat.mod_eq_of_lt hi]
    · refine ⟨i + l.length - r, by rw [turn_length]; omega, ?_⟩
      rw [turn_get (by omega), show i + l.length - r + r = i + l.length by omega, Nat.add_mod_right, Nat.mod_eq_of_lt hi]
  · rw [turn_length] at hj
    exact ⟨(j + r) % l.length, Nat.mod_lt _ (by omega), turn_get hj⟩
theorem rev_gk (l : List (Int × Int)) : gk l.reverse l.length = gk l l.length := by
  have := gk_same (l := l) (X := l.reverse) (fun i hi => ?_) (fun j hj => ?_)
  · rwa [List.length_reverse] at this
  · refine ⟨l.length - 1 - i, by rw [List.length_reverse]; omega, ?_⟩
    rw [getElem!_pos l i hi, getElem!_pos _ _ (by rw [List.length_reverse]; omega), List.getElem_reverse]
    congr 1; omega
  · rw [List.length_reverse] at hj
    refine ⟨l.length - 1 - j, by omega, ?_⟩
    rw [getElem!_pos _ j (by rw [List.length_reverse]; exact hj), List.getElem_reverse, getElem!_pos _ _ (by omega)]
theorem rev_step {l : List (Int × Int)} {k : Nat} (hk : k < l.length) : (l.drop k).reverse = (l.drop (k + 1)).reverse ++ [l[k]!] := by
  rw [List.drop_eq_getElem_cons hk, List.reverse_cons, getElem!_pos l k hk]

theorem info_Key : (Try.prog.info? 29).map (fun i => (i.zero, i.size, i.bytes)) = some (some (.agg #[.int .u64 0, .int .i64 0]), 2, 16) := by kernel_rfl
theorem info_Conf : (Try.prog.info? 31).map (fun i => (i.zero, i.size, i.bytes)) = some (some (.agg #[.int .u64 0, .int .i64 0]), 2, 16) := by kernel_rfl

attribute [local go_sem high] run_eqKey run_eqConf
set_option maxRecDepth 100000 in
set_option maxHeartbeats 2000000 in
theorem w_KeyTurned (v0 : Value) (l0 : List (Int × Int)) (v1 : Value) (l1 : List (Int × Int)) (at_ : Int) (w : World)
    (h0 : PAt w v0 l0) (_ : ∀ p ∈ l0, (0 ≤ p.1 ∧ p.1 ≤ 18446744073709551615) ∧ (-9223372036854775808 ≤ p.2 ∧ p.2 ≤ 9223372036854775807)) (y0 : l0.length ≤ 9223372036854775807)
    (h1 : PAt w v1 l1) (_ : ∀ p ∈ l1, (0 ≤ p.1 ∧ p.1 ≤ 18446744073709551615) ∧ (-9223372036854775808 ≤ p.2 ∧ p.2 ≤ 9223372036854775807)) (y1 : l1.length ≤ 9223372036854775807)
    (g2 : -9223372036854775808 ≤ at_ ∧ at_ ≤ 9223372036854775807) :
    Calls Try.prog 8 #[v0, v1, .int .i64 at_] w fun e w' => e = .returned (.bool true) ∧ Bw w w' := by
  obtain ⟨i0, hi0, hz0, hz1, hz2⟩ := info_parts info_Key
  obtain ⟨i1, hi1, hx0, hx1, hx2⟩ := info_parts info_Conf
  obtain ⟨s0, t0, rfl⟩ := h0.form
  obtain ⟨s1, t1, rfl⟩ := h1.form
  have H0 := Lib.hid h0
  have H1 := Lib.hid h1
  have I0 := Lib.hid hi0
  have I1 := Lib.hid hi1
  have Z0 := Lib.hid hz0
  have Z1 := Lib.hid hz1
  have Z2 := Lib.hid hz2
  have X0 := Lib.hid hx0
  have X1 := Lib.hid hx1
  have X2 := Lib.hid hx2
  clear h0 h1 hi0 hi1 hz0 hz1 hz2 hx0 hx1 hx2
  obtain ⟨g2, g3⟩ := g2
  go_enter Try.func8, Try.ntmps8
  go_wp2_with fail
  refine (c_awake3 _).mono ?_
  rintro e w1 ⟨rfl, hb1⟩
  have B1 := Lib.hid hb1
  clear hb1
  by_cases n0 : l0.length ≤ 200
  case neg =>
    have nz : (200 : Int) < (l0.length : Int) := by omega
    go_wp2_with fail
    go_ret
    exact ⟨rfl, B1.out⟩
  have n0z : (l0.length : Int) ≤ (200 : Int) := by omega
  have n0d : decide ((200 : Int) < (l0.length : Int)) = false := decide_eq_false (by omega)
  by_cases n1 : l1.length ≤ 200
  case neg =>
    have nz : (200 : Int) < (l1.length : Int) := by omega
    go_wp2_with fail
    go_ret
    exact ⟨rfl, B1.out⟩
  have n1z : (l1.length : Int) ≤ (200 : Int) := by omega
  have n1d : decide ((200 : Int) < (l1.length : Int)) = false := decide_eq_false (by omega)
  by_cases na : at_ < 0
  · go_wp2_with fail
    go_ret
    exact ⟨rfl, B1.out⟩
  have nad : decide (at_ < 0) = false := decide_eq_false na
  obtain ⟨A, rfl⟩ : ∃ A : Nat, at_ = A := ⟨at_.toNat, by omega⟩
  obtain ⟨r, hr⟩ : ∃ r, r = A % l0.length := ⟨_, rfl⟩
  have HR := Lib.hid hr
  clear hr
  go_wp2_with fail
  go_loopw [7, 9] (fun vx vi wr => ∃ i : Nat, vi = .int .i64 i ∧ i ≤ l0.length ∧ Hid (Own2 29 w1.heap.size wr vx (turn l0 r i)) ∧ Hid (Bw w1 wr)) (fun _ vi _ => l0.length - (intOf vi).toNat)
  case atStart => exact ⟨0, rfl, by omega, World.ownsRow_nil _ _ _ _, Bw.refl _⟩
  case round =>
    obtain ⟨i, rfl, hi, hO, hB⟩ := hrel
    by_cases hlt : i < l0.length
    · have hltz : (i : Int) < (l0.length : Int) := by omega
      have hpos : ((l0.length : Int) == 0) = false := by rw [beq_eq_false_iff_ne]; omega
      have hne : (l0.length : Int) ≠ 0 := by omega
      have hr2 : r < l0.length := by rw [HR.out]; exact Nat.mod_lt _ (by omega)
      have e1 : Int.tmod (A : Int) (l0.length : Int) = (r : Int) := by rw [HR.out]; rfl
      have e2 : IntKind.i64.wrap ((i : Int) + (r : Int)) = (i : Int) + (r : Int) := by rw [IntKind.wrap_i64]; omega
      obtain ⟨q, hq⟩ : ∃ q, q = (i + r) % l0.length := ⟨_, rfl⟩
      have hq2 : q < l0.length := by rw [hq]; exact Nat.mod_lt _ (by omega)
      have e3 : Int.tmod ((i : Int) + (r : Int)) (l0.length : Int) = (q : Int) := by rw [hq]; rfl
      have hq3 : (q : Int) < (l0.length : Int) := by omega
      obtain ⟨b, o, rfl, hb, hc⟩ := (H0.out.bw (B1.out.trans hB.out)).cells (by omega)
      obtain ⟨c1, c2⟩ := hc q hq2
      obtain ⟨y, hy⟩ : ∃ y, y = l0[q]! := ⟨_, rfl⟩
      rw [← hy] at c1 c2
      have hT : turn l0 r (i + 1) = turn l0 r i ++ [y] := by rw [turn_succ, hy, hq]
      have HT := Lib.hid hT
      have wz : w1.heap.size ≤ wr.heap.size := hB.out.size
      have LN : Hid ((turn l0 r i).length + 1 ≤ 1000000000) := by show _ ≤ _; rw [turn_length]; omega
      clear hc hq hy hT
      go_wp2_with (at_builtin; refine app2 _ _ i0 Try.underlying45 I0.out Z0.out Z1.out Z2.out rfl _ _ rfl w1.heap.size wr.heap.size _ (turn l0 r i) y rfl rfl (hO.out.bw (Bw.alloc _ _)) (heap_alloc_new _ _) LN.out (by simp; omega) ?_; intro v' w' ho hg; have HO := Lib.hid ho; have HG := Lib.hid hg; clear ho hg)
      go_roundw
      case rel =>
        refine ⟨i + 1, by go_num, by omega, by rw [HT.out]; exact HO.out, Below.trans hB.out (((Below.refl _ wr).alloc wz _).grown HG.out (by simp; omega) (Own2.row hO.out))⟩
      case measure => first | (simp [intOf]; done) | (simp [intOf]; omega)
    · obtain rfl : i = l0.length := by omega
      obtain ⟨wm, hwm⟩ : ∃ wm : World, wm = wr := ⟨_, rfl⟩
      subst hwm
      have e4 : IntKind.i64.wrap ((l1.length : Int) - 1) = (l1.length : Int) - 1 := by rw [IntKind.wrap_i64]; omega
      go_wp2_with fail
      go_loopw [8, 10] (fun vy vj wr => ∃ k : Nat, vj = .int .i64 ((k : Int) - 1) ∧ k ≤ l1.length ∧ Hid (Own2 31 wm.heap.size wr vy (l1.drop k).reverse) ∧ Hid (Bw wm wr)) (fun _ vj _ => (intOf vj + 1).toNat)
      case atStart => exact ⟨l1.length, rfl, by omega, by rw [List.drop_length]; exact World.ownsRow_nil _ _ _ _, Bw.refl _⟩
      case round =>
        obtain ⟨k, rfl, hk, hO2, hB2⟩ := hrel
        by_cases hk0 : 0 < k
        · obtain ⟨kp, rfl⟩ : ∃ kp, k = kp + 1 := ⟨k - 1, by omega⟩
          rw [show (((kp + 1 : Nat) : Int) - 1) = (kp : Int) by omega]
          have kz : (0 : Int) ≤ (kp : Int) := by omega
          have hltz : (kp : Int) < (l1.length : Int) := by omega
          have e5 : IntKind.i64.wrap ((kp : Int) - 1) = (kp : Int) - 1 := by rw [IntKind.wrap_i64]; omega
          obtain ⟨b, o, rfl, hb, hc⟩ := (H1.out.bw (B1.out.trans (hB.out.trans hB2.out))).cells (by omega)
          obtain ⟨c1, c2⟩ := hc kp (by omega)
          have hT := rev_step (l := l1) (k := kp) (by omega)
          obtain ⟨y, hy⟩ : ∃ y, y = l1[kp]! := ⟨_, rfl⟩
          rw [← hy] at c1 c2 hT
          have HT := Lib.hid hT
          have wz : wm.heap.size ≤ wr.heap.size := hB2.out.size
          have LN : Hid ((l1.drop (kp + 1)).reverse.length + 1 ≤ 1000000000) := by show _ ≤ _; simp; omega
          clear hc hy hT
          go_wp2_with (at_builtin; refine app2 _ _ i1 Try.underlying46 I1.out X0.out X1.out X2.out rfl _ _ rfl wm.heap.size wr.heap.size _ (l1.drop (kp + 1)).reverse y rfl rfl (hO2.out.bw (Bw.alloc _ _)) (heap_alloc_new _ _) LN.out (by simp; omega) ?_; intro v' w' ho hg; have HO := Lib.hid ho; have HG := Lib.hid hg; clear ho hg)
          go_roundw
          case rel =>
            exact ⟨kp, rfl, by omega, by rw [HT.out]; exact HO.out, Below.trans hB2.out (((Below.refl _ wr).alloc wz _).grown HG.out (by simp; omega) (Own2.row hO2.out))⟩
          case measure => first | (simp [intOf]; done) | (simp [intOf]; omega)
        · obtain rfl : k = 0 := by omega
          rw [show (((0 : Nat) : Int) - 1) = -1 by omega]
          have hr : l0.length = 0 ∨ r < l0.length := by
            by_cases c : l0.length = 0
            · exact Or.inl c
            · exact Or.inr (by rw [HR.out]; exact Nat.mod_lt _ (by omega))
          have G0 := Lib.hid (turn_gk l0 r hr)
          have G1 := Lib.hid (rev_gk l1)
          have P0 : Hid (PAt wr u7 (turn l0 r l0.length)) := hO.out.at.bw hB2.out
          have P1 := Lib.hid hO2.out.at
          have BB := Lib.hid (B1.out.trans (hB.out.trans hB2.out))
          have f0 := kc_self (gk l0 l0.length).1 (gk l0 l0.length).2
          have f1 := kc_self (gk l1 l1.length).1 (gk l1 l1.length).2
          clear hO hO2 hr
          go_wp2_with fail
          refine (c_Last u7 (turn l0 r l0.length) wr P0.out (by rw [turn_length]; omega)).mono ?_
          rw [turn_length, G0.out]
          rintro e w3 ⟨rfl, hb3⟩
          have B3 := Lib.hid (BB.out.trans hb3)
          have P3 := Lib.hid (P1.out.bw hb3)
          clear hb3 BB P1
          go_wp2_with fail
          refine (c_Last _ l0 w3 (H0.out.bw B3.out) (by omega)).mono ?_
          rintro e w4 ⟨rfl, hb4⟩
          have B4 := Lib.hid (B3.out.trans hb4)
          have P4 := Lib.hid (P3.out.bw hb4)
          clear hb4 B3 P3
          go_wp2_with fail
          rw [List.drop_zero] at P4
          refine (c_Newest _ l1.reverse w4 P4.out (by rw [List.length_reverse]; omega)).mono ?_
          rw [List.length_reverse, G1.out]
          rintro e w5 ⟨rfl, hb5⟩
          have B5 := Lib.hid (B4.out.trans hb5)
          clear hb5 B4 P4
          go_wp2_with fail
          refine (c_Newest _ l1 w5 (H1.out.bw B5.out) (by omega)).mono ?_
          rintro e w6 ⟨rfl, hb6⟩
          have B6 := Lib.hid (B5.out.trans hb6)
          clear hb6 B5
          go_wp2
          go_ret
          exact ⟨rfl, B6.out⟩
end Go.Proofs.Ytllmiaonlofeeaa
