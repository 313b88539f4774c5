/-
  The greatest of some keys, configurations, numbers. No conditions beyond what each theorem states.
-/
import Derived.Test.YtllmiaonlofeeaaKk
namespace Go.Proofs.Ytllmiaonlofeeaa
open Go.RowKit Go.Sort

/-- The slice v reads as the pairs l (a uint64, an int: two cells each). -/
def PAt (w : World) (v : Value) (l : List (Int × Int)) : Prop :=
  (∃ a cap, v = .slice a 0 cap ∧ l = []) ∨ ∃ b o cap, v = .slice (some ⟨b, o, none⟩) l.length cap ∧ b < w.heap.size ∧ ∀ i, i < l.length → w.cell? ⟨b, o + i * 2, none⟩ = some (.int .u64 l[i]!.1) ∧ w.cell? ⟨b, o + i * 2 + 1, none⟩ = some (.int .i64 l[i]!.2)
/-- The slice v reads as the numbers l. -/
def UAt (w : World) (v : Value) (l : List Int) : Prop :=
  (∃ a cap, v = .slice a 0 cap ∧ l = []) ∨ ∃ b o cap, v = .slice (some ⟨b, o, none⟩) l.length cap ∧ b < w.heap.size ∧ ∀ i, i < l.length → w.cell? ⟨b, o + i, none⟩ = some (.int .u64 l[i]!)
theorem PAt.bw {w w' : World} {v : Value} {l : List (Int × Int)} (h : PAt w v l) (k : Bw w w') : PAt w' v l := by
  rcases h with h | ⟨b, o, cap, rfl, hb, hc⟩
  · exact Or.inl h
  · exact Or.inr ⟨b, o, cap, rfl, Nat.lt_of_lt_of_le hb k.size, fun i hi => by rw [k.cell (p := ⟨b, _, none⟩) hb, k.cell (p := ⟨b, _, none⟩) hb]; exact hc i hi⟩
theorem UAt.bw {w w' : World} {v : Value} {l : List Int} (h : UAt w v l) (k : Bw w w') : UAt w' v l := by
  rcases h with h | ⟨b, o, cap, rfl, hb, hc⟩
  · exact Or.inl h
  · exact Or.inr ⟨b, o, cap, rfl, Nat.lt_of_lt_of_le hb k.size, fun i hi => by rw [k.cell (p := ⟨b, _, none⟩) hb]; exact hc i hi⟩

theorem alloc2_heap (w : World) (o o' : Obj) : ((w.alloc o).alloc o').heap[w.heap.size]? = some o ∧ ((w.alloc o).alloc o').heap[w.heap.size + 1]? = some o' := by
  constructor
  · rw [Below.heap_alloc _ _ _ (by simp)]; exact heap_alloc_new _ _
  · have := heap_alloc_new (w.alloc o) o'
    rwa [World.size_alloc] at this
theorem cell_blk {w : World} {b i : Nat} {c : Array Value} {e : TypeId} {fr : Nat × Nat} (h : w.heap[b]? = some (.cells c e fr)) : w.cell? ⟨b, i, none⟩ = c[i]? := by simp [World.cell?, h]
theorem soft_blk {w : World} {b i : Nat} {c : Array Value} {e : TypeId} (h : w.heap[b]? = some (.cells c e (0, 0))) : w.frozen? ⟨b, i, none⟩ = false := by simp [World.frozen?, h]
theorem lt_blk {w : World} {b : Nat} {o : Obj} (h : w.heap[b]? = some o) : b < w.heap.size := (Array.getElem?_eq_some_iff.1 h).1
theorem Bw.blk {w w' : World} {b : Nat} {o : Obj} (h : Bw w w') (hb : w.heap[b]? = some o) : w'.heap[b]? = some o := by rw [Below.block h b (lt_blk hb)]; exact hb
theorem set_blk {w : World} {b i : Nat} {c : Array Value} {e : TypeId} {fr : Nat × Nat} (h : w.heap[b]? = some (.cells c e fr)) (v : Value) : (w.setCell ⟨b, i, none⟩ v).heap[b]? = some (.cells (c.setIfInBounds i v) e fr) := by
  simp only [World.setCell, Array.getElem?_modify, h]; rfl
theorem set_other {w : World} {b b' i : Nat} (v : Value) (hb : b' ≠ b) : (w.setCell ⟨b, i, none⟩ v).heap[b']? = w.heap[b']? := Below.heap_setCell _ _ _ _ hb

/-- Two stores into the second of the call's own blocks. -/
theorem best_set {w wr : World} {o : Obj} {u v : Value} {e : TypeId} (hB : Bw w wr) (hR : wr.heap[w.heap.size]? = some o) (hG : wr.heap[w.heap.size + 1]? = some (.cells #[u, v] e (0, 0))) (a b : Value) :
    Bw w ((wr.setCell ⟨w.heap.size + 1, 0, none⟩ a).setCell ⟨w.heap.size + 1, 1, none⟩ b) ∧ ((wr.setCell ⟨w.heap.size + 1, 0, none⟩ a).setCell ⟨w.heap.size + 1, 1, none⟩ b).heap[w.heap.size]? = some o ∧
      ((wr.setCell ⟨w.heap.size + 1, 0, none⟩ a).setCell ⟨w.heap.size + 1, 1, none⟩ b).heap[w.heap.size + 1]? = some (.cells #[a, b] e (0, 0)) :=
  ⟨(Below.setCell hB (by simp) _).setCell (by simp) _, by rw [set_other _ (by simp), set_other _ (by simp)]; exact hR, set_blk (set_blk hG a) b⟩

def kcmp (x y : Int × Int) : Int := keyCmp x.1 x.2 y.1 y.2
/-- The greatest of the first k. -/
def gk (l : List (Int × Int)) : Nat → Int × Int
  | 0 => (0, 0)
  | k + 1 => if k = 0 ∨ kcmp l[k]! (gk l k) > 0 then l[k]! else gk l k
def gu (l : List Int) : Nat → Int
  | 0 => 0
  | k + 1 => if k = 0 ∨ cmpZ l[k]! (gu l k) > 0 then l[k]! else gu l k

theorem eg_Compare : ∀ args w, (callFunc 18 args).run Try.prog w = .ok (.enter 18 args) w := enters_of Try.func18 (by kernel_rfl) rfl

set_option maxHeartbeats 1000000 in
theorem c_greatestKey (v : Value) (l : List (Int × Int)) (w : World) (h : PAt w v l) (hn : l.length ≤ 1000000) :
    Calls Try.prog 58 #[.func (.func 18) #[] #[], v] w fun e w' => e = .returned (.agg #[.int .u64 (gk l l.length).1, .int .i64 (gk l l.length).2]) ∧ Bw w w' := by
  have eg := eg_Compare
  obtain ⟨a, cap, rfl⟩ : ∃ a cap, v = .slice a l.length cap := by
    rcases h with ⟨a, cap, rfl, rfl⟩ | ⟨b, o, cap, rfl, _⟩
    · exact ⟨a, cap, rfl⟩
    · exact ⟨_, _, rfl⟩
  have HP := Lib.hid h
  clear h
  go_enter Try.func58, Try.ntmps58
  go_wp2_with fail
  go_loopw [10] (fun vk wr => ∃ k : Nat, vk = .int .i64 k ∧ k ≤ l.length ∧ Hid (Bw w wr) ∧ Hid (wr.heap[w.heap.size]? = some (.cells #[.int .u64 0, .int .i64 0] 29 (0, 0))) ∧ Hid (wr.heap[w.heap.size + 1]? = some (.cells #[.int .u64 (gk l k).1, .int .i64 (gk l k).2] 29 (0, 0)))) (fun vk _ => l.length - (intOf vk).toNat)
  case atStart => exact ⟨0, rfl, by omega, ((Below.refl _ w).alloc (Nat.le_refl _) _).alloc (by simp) _, (alloc2_heap w _ _).1, (alloc2_heap w _ _).2⟩
  case round =>
    obtain ⟨k, rfl, hk, hB, hR, hG⟩ := hrel
    by_cases hlt : k < l.length
    · have hltz : (k : Int) < (l.length : Int) := by omega
      rcases HP.out with ⟨_, _, hv, hl⟩ | ⟨b, o, cap', hv, hb, hc⟩
      · subst hl; simp at hlt
      simp only [Value.slice.injEq, true_and] at hv
      obtain ⟨rfl, rfl⟩ := hv
      have hbr : b < wr.heap.size := Nat.lt_of_lt_of_le hb hB.out.size
      obtain ⟨x, hx⟩ : ∃ x, x = l[k]! := ⟨_, rfl⟩
      have x0 : wr.cell? ⟨b, o + k * 2, none⟩ = some (.int .u64 x.1) := by rw [hB.out.cell (p := ⟨b, _, none⟩) hb, hx]; exact (hc k hlt).1
      have x1 : wr.cell? ⟨b, o + k * 2 + 1, none⟩ = some (.int .i64 x.2) := by rw [hB.out.cell (p := ⟨b, _, none⟩) hb, hx]; exact (hc k hlt).2
      have HX := Lib.hid hx
      have hz : w.heap.size + 1 < wr.heap.size := lt_blk hG.out
      have hz0 : w.heap.size < wr.heap.size := by omega
      have g0 : wr.cell? ⟨w.heap.size + 1, 0, none⟩ = some (.int .u64 (gk l k).1) := cell_blk hG.out
      have g1 : wr.cell? ⟨w.heap.size + 1, 1, none⟩ = some (.int .i64 (gk l k).2) := cell_blk hG.out
      have f0 : wr.frozen? ⟨w.heap.size + 1, 0, none⟩ = false := soft_blk hG.out
      have f1 : wr.frozen? ⟨w.heap.size + 1, 1, none⟩ = false := soft_blk hG.out
      clear hc hx
      obtain ⟨y, hy⟩ : ∃ y, y = gk l k := ⟨_, rfl⟩
      rw [← hy] at g0 g1
      have HY := Lib.hid hy
      clear hy
      by_cases hk0 : k = 0
      · have hkb : ((k : Int) == 0) = true := by rw [beq_iff_eq]; omega
        have HK0 := Lib.hid hk0
        clear hk0
        go_wp2
        go_roundw
        case rel =>
          obtain ⟨s1, s2, s3⟩ := best_set hB.out hR.out hG.out (.int .u64 x.1) (.int .i64 x.2)
          exact ⟨k + 1, by go_num, by omega, s1.trans (Bw.alloc _ _), (Bw.alloc _ _).blk s2, by
            have : gk l (k + 1) = x := by rw [HX.out]; simp only [gk]; rw [if_pos (Or.inl HK0.out)]
            rw [this]; exact (Bw.alloc _ _).blk s3⟩
        case measure => first | (simp [intOf]; done) | (simp [intOf]; omega)
      · have hkb : ((k : Int) == 0) = false := by rw [beq_eq_false_iff_ne]; omega
        have HK0 := Lib.hid hk0
        clear hk0
        have hn0 : wr.heap[wr.heap.size]? = none := by simp
        obtain ⟨W, hW⟩ : ∃ W, W = wr.alloc (.cells #[.int .u64 x.1, .int .i64 x.2] 29) := ⟨_, rfl⟩
        have bW : Bw wr W := hW ▸ Bw.alloc _ _
        have nW : W.heap[wr.heap.size]? = some (.cells #[.int .u64 x.1, .int .i64 x.2] 29 (0, 0)) := hW ▸ heap_alloc_new _ _
        have HW := Lib.hid hW
        have BW := Lib.hid bW
        have NW := Lib.hid nW
        clear hW bW nW hn0
        go_wp2_with fail
        rw [← HW.out]
        refine (c_Compare _ _ _ _ _).mono ?_
        rintro e w2 ⟨rfl, hg2⟩
        have B2 : Hid (Bw wr w2) := BW.out.trans hg2.bw
        have R2 : Hid (w2.heap[w.heap.size]? = some (.cells #[.int .u64 0, .int .i64 0] 29 (0, 0))) := B2.out.blk hR.out
        have G2 : Hid (w2.heap[w.heap.size + 1]? = some (.cells #[.int .u64 (gk l k).1, .int .i64 (gk l k).2] 29 (0, 0))) := B2.out.blk hG.out
        have N2 : Hid (w2.heap[wr.heap.size]? = some (.cells #[.int .u64 x.1, .int .i64 x.2] 29 (0, 0))) := hg2.bw.blk NW.out
        have n0 : w2.cell? ⟨wr.heap.size, 0, none⟩ = some (.int .u64 x.1) := cell_blk N2.out
        have n1 : w2.cell? ⟨wr.heap.size, 1, none⟩ = some (.int .i64 x.2) := cell_blk N2.out
        have g0' : w2.cell? ⟨w.heap.size + 1, 0, none⟩ = some (.int .u64 (gk l k).1) := cell_blk G2.out
        have g1' : w2.cell? ⟨w.heap.size + 1, 1, none⟩ = some (.int .i64 (gk l k).2) := cell_blk G2.out
        have f0' : w2.frozen? ⟨w.heap.size + 1, 0, none⟩ = false := soft_blk G2.out
        have f1' : w2.frozen? ⟨w.heap.size + 1, 1, none⟩ = false := soft_blk G2.out
        have hz2 : wr.heap.size < w2.heap.size := lt_blk N2.out
        clear hg2 g0 g1 f0 f1 x0 x1
        by_cases hgt : keyCmp x.1 x.2 y.1 y.2 > 0
        · go_wp2
          go_roundw
          case rel =>
            obtain ⟨s1, s2, s3⟩ := best_set (hB.out.trans B2.out) R2.out G2.out (.int .u64 x.1) (.int .i64 x.2)
            refine ⟨k + 1, by go_num, by omega, s1, s2, ?_⟩
            have : gk l (k + 1) = x := by
              have h2 : kcmp l[k]! (gk l k) > 0 := by rw [← HX.out, ← HY.out]; exact hgt
              rw [HX.out]; simp only [gk]; rw [if_pos (Or.inr h2)]
            rw [this]; exact s3
          case measure => first | (simp [intOf]; done) | (simp [intOf]; omega)
        · go_wp2
          go_roundw
          case rel =>
            refine ⟨k + 1, by go_num, by omega, hB.out.trans B2.out, R2.out, ?_⟩
            have : gk l (k + 1) = gk l k := by
              have h2 : ¬ kcmp l[k]! (gk l k) > 0 := by rw [← HX.out, ← HY.out]; exact fun h => absurd h (by unfold kcmp; omega)
              simp only [gk]; rw [if_neg (by rintro (h | h); exact HK0.out h; exact h2 h)]
            rw [this]; exact G2.out
          case measure => first | (simp [intOf]; done) | (simp [intOf]; omega)
    · obtain rfl : k = l.length := by omega
      have g0 : wr.cell? ⟨w.heap.size + 1, 0, none⟩ = some (.int .u64 (gk l l.length).1) := cell_blk hG.out
      have g1 : wr.cell? ⟨w.heap.size + 1, 1, none⟩ = some (.int .i64 (gk l l.length).2) := cell_blk hG.out
      have r0 : wr.cell? ⟨w.heap.size, 0, none⟩ = some (.int .u64 0) := cell_blk hR.out
      have r1 : wr.cell? ⟨w.heap.size, 1, none⟩ = some (.int .i64 0) := cell_blk hR.out
      have q0 : wr.frozen? ⟨w.heap.size, 0, none⟩ = false := soft_blk hR.out
      have q1 : wr.frozen? ⟨w.heap.size, 1, none⟩ = false := soft_blk hR.out
      go_wp2
      refine bodyPost_ret (v := .agg #[.int .u64 (gk l l.length).1, .int .i64 (gk l l.length).2]) (by simp [results, Try.results58, go_sem, *]) rfl ⟨rfl, ?_⟩
      exact (Below.setCell hB.out (Nat.le_refl _) _).setCell (Nat.le_refl _) _

theorem c_Last (v : Value) (l : List (Int × Int)) (w : World) (h : PAt w v l) (hn : l.length ≤ 1000000) :
    Calls Try.prog 20 #[v] w fun e w' => e = .returned (.agg #[.int .u64 (gk l l.length).1, .int .i64 (gk l l.length).2]) ∧ Bw w w' := by
  have H0 : Hid (((w.alloc (.cells #[.int .u64 0, .int .i64 0] 29)).heap[w.heap.size]? = some (.cells #[.int .u64 0, .int .i64 0] 29 (0, 0)))) := heap_alloc_new _ _
  have HC := Lib.hid (c_greatestKey v l _ (h.bw (Bw.alloc w (.cells #[.int .u64 0, .int .i64 0] 29))) hn)
  clear h
  go_enter Try.func20, Try.ntmps20
  go_wp2_with fail
  refine HC.out.mono ?_
  rintro e w1 ⟨rfl, hB⟩
  have hB1 : Hid (Bw w w1) := (Bw.alloc w _).trans hB
  have R1 : Hid (w1.heap[w.heap.size]? = some (.cells #[.int .u64 0, .int .i64 0] 29 (0, 0))) := hB.blk H0.out
  have r0 : w1.cell? ⟨w.heap.size, 0, none⟩ = some (.int .u64 0) := cell_blk R1.out
  have r1 : w1.cell? ⟨w.heap.size, 1, none⟩ = some (.int .i64 0) := cell_blk R1.out
  have q0 : w1.frozen? ⟨w.heap.size, 0, none⟩ = false := soft_blk R1.out
  have q1 : w1.frozen? ⟨w.heap.size, 1, none⟩ = false := soft_blk R1.out
  clear hB
  go_wp2
  refine bodyPost_ret (v := .agg #[.int .u64 (gk l l.length).1, .int .i64 (gk l l.length).2]) (by simp [results, Try.results20, go_sem, *]) rfl ⟨rfl, ?_⟩
  exact (Below.setCell hB1.out (Nat.le_refl _) _).setCell (Nat.le_refl _) _

theorem eg_Confs : ∀ args w, (callFunc 19 args).run Try.prog w = .ok (.enter 19 args) w := enters_of Try.func19 (by kernel_rfl) rfl

set_option maxHeartbeats 1000000 in
theorem c_greatestConf (v : Value) (l : List (Int × Int)) (w : World) (h : PAt w v l) (hn : l.length ≤ 1000000) :
    Calls Try.prog 63 #[.func (.func 19) #[] #[], v] w fun e w' => e = .returned (.agg #[.int .u64 (gk l l.length).1, .int .i64 (gk l l.length).2]) ∧ Bw w w' := by
  have eg := eg_Confs
  obtain ⟨a, cap, rfl⟩ : ∃ a cap, v = .slice a l.length cap := by
    rcases h with ⟨a, cap, rfl, rfl⟩ | ⟨b, o, cap, rfl, _⟩
    · exact ⟨a, cap, rfl⟩
    · exact ⟨_, _, rfl⟩
  have HP := Lib.hid h
  clear h
  go_enter Try.func63, Try.ntmps63
  go_wp2_with fail
  go_loopw [10] (fun vk wr => ∃ k : Nat, vk = .int .i64 k ∧ k ≤ l.length ∧ Hid (Bw w wr) ∧ Hid (wr.heap[w.heap.size]? = some (.cells #[.int .u64 0, .int .i64 0] 31 (0, 0))) ∧ Hid (wr.heap[w.heap.size + 1]? = some (.cells #[.int .u64 (gk l k).1, .int .i64 (gk l k).2] 31 (0, 0)))) (fun vk _ => l.length - (intOf vk).toNat)
  case atStart => exact ⟨0, rfl, by omega, ((Below.refl _ w).alloc (Nat.le_refl _) _).alloc (by simp) _, (alloc2_heap w _ _).1, (alloc2_heap w _ _).2⟩
  case round =>
    obtain ⟨k, rfl, hk, hB, hR, hG⟩ := hrel
    by_cases hlt : k < l.length
    · have hltz : (k : Int) < (l.length : Int) := by omega
      rcases HP.out with ⟨_, _, hv, hl⟩ | ⟨b, o, cap', hv, hb, hc⟩
      · subst hl; simp at hlt
      simp only [Value.slice.injEq, true_and] at hv
      obtain ⟨rfl, rfl⟩ := hv
      have hbr : b < wr.heap.size := Nat.lt_of_lt_of_le hb hB.out.size
      obtain ⟨x, hx⟩ : ∃ x, x = l[k]! := ⟨_, rfl⟩
      have x0 : wr.cell? ⟨b, o + k * 2, none⟩ = some (.int .u64 x.1) := by rw [hB.out.cell (p := ⟨b, _, none⟩) hb, hx]; exact (hc k hlt).1
      have x1 : wr.cell? ⟨b, o + k * 2 + 1, none⟩ = some (.int .i64 x.2) := by rw [hB.out.cell (p := ⟨b, _, none⟩) hb, hx]; exact (hc k hlt).2
      have HX := Lib.hid hx
      have hz : w.heap.size + 1 < wr.heap.size := lt_blk hG.out
      have hz0 : w.heap.size < wr.heap.size := by omega
      have g0 : wr.cell? ⟨w.heap.size + 1, 0, none⟩ = some (.int .u64 (gk l k).1) := cell_blk hG.out
      have g1 : wr.cell? ⟨w.heap.size + 1, 1, none⟩ = some (.int .i64 (gk l k).2) := cell_blk hG.out
      have f0 : wr.frozen? ⟨w.heap.size + 1, 0, none⟩ = false := soft_blk hG.out
      have f1 : wr.frozen? ⟨w.heap.size + 1, 1, none⟩ = false := soft_blk hG.out
      clear hc hx
      obtain ⟨y, hy⟩ : ∃ y, y = gk l k := ⟨_, rfl⟩
      rw [← hy] at g0 g1
      have HY := Lib.hid hy
      clear hy
      by_cases hk0 : k = 0
      · have hkb : ((k : Int) == 0) = true := by rw [beq_iff_eq]; omega
        have HK0 := Lib.hid hk0
        clear hk0
        go_wp2
        go_roundw
        case rel =>
          obtain ⟨s1, s2, s3⟩ := best_set hB.out hR.out hG.out (.int .u64 x.1) (.int .i64 x.2)
          exact ⟨k + 1, by go_num, by omega, s1.trans (Bw.alloc _ _), (Bw.alloc _ _).blk s2, by
            have : gk l (k + 1) = x := by rw [HX.out]; simp only [gk]; rw [if_pos (Or.inl HK0.out)]
            rw [this]; exact (Bw.alloc _ _).blk s3⟩
        case measure => first | (simp [intOf]; done) | (simp [intOf]; omega)
      · have hkb : ((k : Int) == 0) = false := by rw [beq_eq_false_iff_ne]; omega
        have HK0 := Lib.hid hk0
        clear hk0
        have hn0 : wr.heap[wr.heap.size]? = none := by simp
        obtain ⟨W, hW⟩ : ∃ W, W = wr.alloc (.cells #[.int .u64 x.1, .int .i64 x.2] 31) := ⟨_, rfl⟩
        have bW : Bw wr W := hW ▸ Bw.alloc _ _
        have nW : W.heap[wr.heap.size]? = some (.cells #[.int .u64 x.1, .int .i64 x.2] 31 (0, 0)) := hW ▸ heap_alloc_new _ _
        have HW := Lib.hid hW
        have BW := Lib.hid bW
        have NW := Lib.hid nW
        clear hW bW nW hn0
        go_wp2_with fail
        rw [← HW.out]
        refine (c_Confs _ _ _ _ _).mono ?_
        rintro e w2 ⟨rfl, hg2⟩
        have B2 : Hid (Bw wr w2) := BW.out.trans hg2.bw
        have R2 : Hid (w2.heap[w.heap.size]? = some (.cells #[.int .u64 0, .int .i64 0] 31 (0, 0))) := B2.out.blk hR.out
        have G2 : Hid (w2.heap[w.heap.size + 1]? = some (.cells #[.int .u64 (gk l k).1, .int .i64 (gk l k).2] 31 (0, 0))) := B2.out.blk hG.out
        have N2 : Hid (w2.heap[wr.heap.size]? = some (.cells #[.int .u64 x.1, .int .i64 x.2] 31 (0, 0))) := hg2.bw.blk NW.out
        have n0 : w2.cell? ⟨wr.heap.size, 0, none⟩ = some (.int .u64 x.1) := cell_blk N2.out
        have n1 : w2.cell? ⟨wr.heap.size, 1, none⟩ = some (.int .i64 x.2) := cell_blk N2.out
        have g0' : w2.cell? ⟨w.heap.size + 1, 0, none⟩ = some (.int .u64 (gk l k).1) := cell_blk G2.out
        have g1' : w2.cell? ⟨w.heap.size + 1, 1, none⟩ = some (.int .i64 (gk l k).2) := cell_blk G2.out
        have f0' : w2.frozen? ⟨w.heap.size + 1, 0, none⟩ = false := soft_blk G2.out
        have f1' : w2.frozen? ⟨w.heap.size + 1, 1, none⟩ = false := soft_blk G2.out
        have hz2 : wr.heap.size < w2.heap.size := lt_blk N2.out
        clear hg2 g0 g1 f0 f1 x0 x1
        by_cases hgt : keyCmp x.1 x.2 y.1 y.2 > 0
        · go_wp2
          go_roundw
          case rel =>
            obtain ⟨s1, s2, s3⟩ := best_set (hB.out.trans B2.out) R2.out G2.out (.int .u64 x.1) (.int .i64 x.2)
            refine ⟨k + 1, by go_num, by omega, s1, s2, ?_⟩
            have : gk l (k + 1) = x := by
              have h2 : kcmp l[k]! (gk l k) > 0 := by rw [← HX.out, ← HY.out]; exact hgt
              rw [HX.out]; simp only [gk]; rw [if_pos (Or.inr h2)]
            rw [this]; exact s3
          case measure => first | (simp [intOf]; done) | (simp [intOf]; omega)
        · go_wp2
          go_roundw
          case rel =>
            refine ⟨k + 1, by go_num, by omega, hB.out.trans B2.out, R2.out, ?_⟩
            have : gk l (k + 1) = gk l k := by
              have h2 : ¬ kcmp l[k]! (gk l k) > 0 := by rw [← HX.out, ← HY.out]; exact fun h => absurd h (by unfold kcmp; omega)
              simp only [gk]; rw [if_neg (by rintro (h | h); exact HK0.out h; exact h2 h)]
            rw [this]; exact G2.out
          case measure => first | (simp [intOf]; done) | (simp [intOf]; omega)
    · obtain rfl : k = l.length := by omega
      have g0 : wr.cell? ⟨w.heap.size + 1, 0, none⟩ = some (.int .u64 (gk l l.length).1) := cell_blk hG.out
      have g1 : wr.cell? ⟨w.heap.size + 1, 1, none⟩ = some (.int .i64 (gk l l.length).2) := cell_blk hG.out
      have r0 : wr.cell? ⟨w.heap.size, 0, none⟩ = some (.int .u64 0) := cell_blk hR.out
      have r1 : wr.cell? ⟨w.heap.size, 1, none⟩ = some (.int .i64 0) := cell_blk hR.out
      have q0 : wr.frozen? ⟨w.heap.size, 0, none⟩ = false := soft_blk hR.out
      have q1 : wr.frozen? ⟨w.heap.size, 1, none⟩ = false := soft_blk hR.out
      go_wp2
      refine bodyPost_ret (v := .agg #[.int .u64 (gk l l.length).1, .int .i64 (gk l l.length).2]) (by simp [results, Try.results63, go_sem, *]) rfl ⟨rfl, ?_⟩
      exact (Below.setCell hB.out (Nat.le_refl _) _).setCell (Nat.le_refl _) _

theorem c_Newest (v : Value) (l : List (Int × Int)) (w : World) (h : PAt w v l) (hn : l.length ≤ 1000000) :
    Calls Try.prog 27 #[v] w fun e w' => e = .returned (.agg #[.int .u64 (gk l l.length).1, .int .i64 (gk l l.length).2]) ∧ Bw w w' := by
  have H0 : Hid (((w.alloc (.cells #[.int .u64 0, .int .i64 0] 31)).heap[w.heap.size]? = some (.cells #[.int .u64 0, .int .i64 0] 31 (0, 0)))) := heap_alloc_new _ _
  have HC := Lib.hid (c_greatestConf v l _ (h.bw (Bw.alloc w (.cells #[.int .u64 0, .int .i64 0] 31))) hn)
  clear h
  go_enter Try.func27, Try.ntmps27
  go_wp2_with fail
  refine HC.out.mono ?_
  rintro e w1 ⟨rfl, hB⟩
  have hB1 : Hid (Bw w w1) := (Bw.alloc w _).trans hB
  have R1 : Hid (w1.heap[w.heap.size]? = some (.cells #[.int .u64 0, .int .i64 0] 31 (0, 0))) := hB.blk H0.out
  have r0 : w1.cell? ⟨w.heap.size, 0, none⟩ = some (.int .u64 0) := cell_blk R1.out
  have r1 : w1.cell? ⟨w.heap.size, 1, none⟩ = some (.int .i64 0) := cell_blk R1.out
  have q0 : w1.frozen? ⟨w.heap.size, 0, none⟩ = false := soft_blk R1.out
  have q1 : w1.frozen? ⟨w.heap.size, 1, none⟩ = false := soft_blk R1.out
  clear hB
  go_wp2
  refine bodyPost_ret (v := .agg #[.int .u64 (gk l l.length).1, .int .i64 (gk l l.length).2]) (by simp [results, Try.results27, go_sem, *]) rfl ⟨rfl, ?_⟩
  exact (Below.setCell hB1.out (Nat.le_refl _) _).setCell (Nat.le_refl _) _

theorem eg_cmpU : ∀ args w, (callFunc 56 args).run Try.prog w = .ok (.enter 56 args) w := enters_of Try.func56 (by kernel_rfl) rfl

set_option maxHeartbeats 1000000 in
theorem c_greatestU (v : Value) (l : List Int) (w : World) (h : UAt w v l) (hn : l.length ≤ 1000000) :
    Calls Try.prog 60 #[.func (.func 56) #[] #[], v] w fun e w' => e = .returned (.int .u64 (gu l l.length)) ∧ w = w' := by
  have eg := eg_cmpU
  obtain ⟨a, cap, rfl⟩ : ∃ a cap, v = .slice a l.length cap := by
    rcases h with ⟨a, cap, rfl, rfl⟩ | ⟨b, o, cap, rfl, _⟩
    · exact ⟨a, cap, rfl⟩
    · exact ⟨_, _, rfl⟩
  have HP := Lib.hid h
  clear h
  go_enter Try.func60, Try.ntmps60
  go_wp2_with fail
  go_loop [5, 10] (fun vb vk => ∃ k : Nat, vk = .int .i64 k ∧ k ≤ l.length ∧ vb = .int .u64 (gu l k)) (fun _ vk => l.length - (intOf vk).toNat)
  case atStart => exact ⟨0, rfl, by omega, rfl⟩
  case round =>
    obtain ⟨k, rfl, hk, rfl⟩ := hrel
    by_cases hlt : k < l.length
    · have hltz : (k : Int) < (l.length : Int) := by omega
      rcases HP.out with ⟨_, _, hv, hl⟩ | ⟨b, o, cap', hv, hb, hc⟩
      · subst hl; simp at hlt
      simp only [Value.slice.injEq, true_and] at hv
      obtain ⟨rfl, rfl⟩ := hv
      obtain ⟨x, hx⟩ : ∃ x, x = l[k]! := ⟨_, rfl⟩
      have x0 : w.cell? ⟨b, o + k, none⟩ = some (.int .u64 x) := by rw [hx]; exact hc k hlt
      have HX := Lib.hid hx
      clear hc hx
      by_cases hk0 : k = 0
      · have hkb : ((k : Int) == 0) = true := by rw [beq_iff_eq]; omega
        have HK0 := Lib.hid hk0
        clear hk0
        go_wp2
        go_round
        case rel =>
          have : gu l (k + 1) = x := by rw [HX.out]; simp only [gu]; rw [if_pos (Or.inl HK0.out)]
          exact ⟨k + 1, by go_num, by omega, by rw [this]⟩
        case measure => first | (simp [intOf]; done) | (simp [intOf]; omega)
      · have hkb : ((k : Int) == 0) = false := by rw [beq_eq_false_iff_ne]; omega
        have HK0 := Lib.hid hk0
        clear hk0
        by_cases hgt : cmpZ x (gu l k) > 0
        · go_wp2_with fail
          refine (c_cmpU _ _ _).mono ?_
          rintro e w2 ⟨rfl, rfl⟩
          go_wp2
          go_round
          case rel =>
            have : gu l (k + 1) = x := by
              have h2 : cmpZ l[k]! (gu l k) > 0 := by rw [← HX.out]; exact hgt
              rw [HX.out]; simp only [gu]; rw [if_pos (Or.inr h2)]
            exact ⟨k + 1, by go_num, by omega, by rw [this]⟩
          case measure => first | (simp [intOf]; done) | (simp [intOf]; omega)
        · go_wp2_with fail
          refine (c_cmpU _ _ _).mono ?_
          rintro e w2 ⟨rfl, rfl⟩
          go_wp2
          go_round
          case rel =>
            have : gu l (k + 1) = gu l k := by
              have h2 : ¬ cmpZ l[k]! (gu l k) > 0 := by rw [← HX.out]; exact fun h => absurd h (by omega)
              simp only [gu]; rw [if_neg (by rintro (h | h); exact HK0.out h; exact h2 h)]
            exact ⟨k + 1, by go_num, by omega, by rw [this]⟩
          case measure => first | (simp [intOf]; done) | (simp [intOf]; omega)
    · obtain rfl : k = l.length := by omega
      go_wp2
      go_ret
      exact ⟨rfl, rfl⟩

theorem c_Above (v : Value) (l : List Int) (w : World) (h : UAt w v l) (hn : l.length ≤ 1000000) (h0 : 0 ≤ gu l l.length) (h1 : gu l l.length ≤ 18446744073709551615) :
    Calls Try.prog 21 #[v] w fun e w' => e = .returned (.int .u64 (sumU (gu l l.length) 1)) ∧ w = w' := by
  have HC := Lib.hid (c_greatestU v l w h hn)
  have HD := Lib.hid (c_Sum (gu l l.length) w h0 h1)
  clear h h0 h1
  go_enter Try.func21, Try.ntmps21
  go_wp2_with fail
  refine HC.out.mono ?_
  rintro e w1 ⟨rfl, rfl⟩
  go_wp2_with fail
  refine HD.out.mono ?_
  rintro e w1 ⟨rfl, rfl⟩
  go_wp2_with fail
  go_ret
  exact ⟨rfl, rfl⟩

end Go.Proofs.Ytllmiaonlofeeaa
