/-
  The references' Last, Newest, Above. No conditions beyond what each theorem states.
-/
import Derived.Test.YtllmiaonlofeeaaLc
namespace Go.Proofs.Ytllmiaonlofeeaa
open Go.RowKit Go.Sort

theorem PAt.form {w : World} {v : Value} {l : List (Int × Int)} (h : PAt w v l) : ∃ a cap, v = .slice a l.length cap := by
  rcases h with ⟨a, cap, rfl, rfl⟩ | ⟨b, o, cap, rfl, _⟩
  · exact ⟨a, cap, rfl⟩
  · exact ⟨_, _, rfl⟩
theorem PAt.cells {w : World} {a : Option Addr} {n cap : Nat} {l : List (Int × Int)} (h : PAt w (.slice a n cap) l) (h0 : 0 < n) : ∃ b o, a = some ⟨b, o, none⟩ ∧ b < w.heap.size ∧ ∀ i, i < n → w.cell? ⟨b, o + i * 2, none⟩ = some (.int .u64 l[i]!.1) ∧ w.cell? ⟨b, o + i * 2 + 1, none⟩ = some (.int .i64 l[i]!.2) := by
  rcases h with ⟨a', cap', h, rfl⟩ | ⟨b, o, cap', h, hb, hc⟩
  · simp only [Value.slice.injEq] at h; omega
  · simp only [Value.slice.injEq] at h
    obtain ⟨rfl, rfl, rfl⟩ := h
    exact ⟨b, o, rfl, hb, hc⟩

/-- Does the one at i have none of the first k above it? -/
def topB (l : List (Int × Int)) (i k : Nat) : Bool := (List.range k).all fun j => !(lessB l[i]!.1 l[i]!.2 l[j]!.1 l[j]!.2)
theorem topB_succ (l : List (Int × Int)) (i k : Nat) : topB l i (k + 1) = (topB l i k && !(lessB l[i]!.1 l[i]!.2 l[k]!.1 l[k]!.2)) := by
  unfold topB
  rw [List.range_succ, List.all_append]; simp
instance (x y : Int × Int) : Decidable (plt x y) := by unfold plt; infer_instance
theorem lessB_plt (x y : Int × Int) : lessB x.1 x.2 y.1 y.2 = decide (plt x y) := rfl
theorem topB_true {l : List (Int × Int)} {i k : Nat} : topB l i k = true ↔ ∀ j, j < k → ¬ plt l[i]! l[j]! := by
  unfold topB
  rw [List.all_eq_true]
  constructor
  · intro h j hj
    have := h j (List.mem_range.2 hj)
    rw [lessB_plt] at this
    simpa using this
  · intro h j hj
    have := h j (List.mem_range.1 hj)
    rw [lessB_plt]
    simpa using this
theorem top_gk {l : List (Int × Int)} {i : Nat} (hi : i < l.length) (h : topB l i l.length = true) : l[i]! = gk l l.length :=
  gk_unique ⟨i, hi, rfl⟩ (topB_true.1 h)
theorem no_top {l : List (Int × Int)} (h : ∀ i, i < l.length → topB l i l.length = false) : gk l l.length = (0, 0) := by
  by_cases h0 : l.length = 0
  · rw [h0]; rfl
  · obtain ⟨i, hi, he⟩ := gk_mem l l.length (by omega)
    have h1 : topB l i l.length = true := by
      rw [topB_true]
      intro j hj
      rw [← he]
      exact gk_ge l l.length j hj
    rw [h i hi] at h1
    cases h1

set_option maxRecDepth 100000 in
set_option maxHeartbeats 1000000 in
theorem c_rLast (v : Value) (l : List (Int × Int)) (w : World) (h : PAt w v l) (hn : l.length ≤ 1000000) :
    Calls Try.prog 26 #[v] w fun e w' => e = .returned (.agg #[.int .u64 (gk l l.length).1, .int .i64 (gk l l.length).2]) ∧ Bw w w' := by
  have mixed : Try.prog.follows .mixedOrders = true := by kernel_rfl
  obtain ⟨a, cap, rfl⟩ := h.form
  have HP := Lib.hid h
  clear h
  go_enter Try.func26, Try.ntmps26
  go_wp2_with fail
  go_loopw [3] (fun vi wr => ∃ i : Nat, vi = .int .i64 i ∧ i ≤ l.length ∧ Hid (∀ j, j < i → topB l j l.length = false) ∧ Hid (Bw w wr) ∧ Hid (wr.heap[w.heap.size]? = some (.cells #[.int .u64 0, .int .i64 0] 29 (0, 0)))) (fun vi _ => l.length - (intOf vi).toNat)
  case atStart => exact ⟨0, rfl, by omega, fun j hj => by omega, Bw.alloc _ _, heap_alloc_new _ _⟩
  case round =>
    obtain ⟨i, rfl, hi, hA, hB, hR⟩ := hrel
    obtain ⟨wo, hwo⟩ : ∃ wo : World, wo = wr := ⟨_, rfl⟩
    subst hwo
    by_cases hlt : i < l.length
    · have hltz : (i : Int) < (l.length : Int) := by omega
      obtain ⟨b, o, rfl, hb, hc⟩ := HP.out.cells (by omega)
      have HC := Lib.hid hc
      clear hc
      go_wp2_with fail
      go_loopw [4, 5] (fun vb vk wr => ∃ k : Nat, vb = .bool (topB l i k) ∧ vk = .int .i64 k ∧ k ≤ l.length ∧ Hid (Gr wo wr)) (fun _ vk _ => l.length - (intOf vk).toNat)
      case atStart => exact ⟨0, by simp [topB], rfl, by omega, Gr.refl _⟩
      case round =>
        obtain ⟨k, rfl, rfl, hk, hG⟩ := hrel
        have hS := topB_succ l i k
        obtain ⟨B, hBB⟩ : ∃ B, B = topB l i k := ⟨_, rfl⟩
        rw [← hBB]
        have HBB := Lib.hid hBB
        rw [← hBB] at hS
        clear hBB
        obtain ⟨x, hx⟩ : ∃ x, x = l[i]! := ⟨_, rfl⟩
        obtain ⟨y, hy⟩ : ∃ y, y = l[k]! := ⟨_, rfl⟩
        rw [← hx, ← hy] at hS
        have HS := Lib.hid hS
        clear hS
        by_cases hlt2 : k < l.length
        · have hltz2 : (k : Int) < (l.length : Int) := by omega
          have bwn : Bw w wr := hB.out.trans hG.out.bw
          have c1 := HC.out i hlt
          have c2 := HC.out k hlt2
          rw [← hx] at c1
          rw [← hy] at c2
          have x0 : ∀ n os, (grow (wr.drewN n) os).cell? ⟨b, o + i * 2, none⟩ = some (.int .u64 x.1) := fun n os => ((bwn.trans (Gr.bw ⟨n, os, rfl⟩)).cell (p := ⟨b, _, none⟩) hb).trans c1.1
          have x1 : ∀ n os, (grow (wr.drewN n) os).cell? ⟨b, o + i * 2 + 1, none⟩ = some (.int .i64 x.2) := fun n os => ((bwn.trans (Gr.bw ⟨n, os, rfl⟩)).cell (p := ⟨b, _, none⟩) hb).trans c1.2
          have y0 : ∀ n os, (grow (wr.drewN n) os).cell? ⟨b, o + k * 2, none⟩ = some (.int .u64 y.1) := fun n os => ((bwn.trans (Gr.bw ⟨n, os, rfl⟩)).cell (p := ⟨b, _, none⟩) hb).trans c2.1
          have y1 : ∀ n os, (grow (wr.drewN n) os).cell? ⟨b, o + k * 2 + 1, none⟩ = some (.int .i64 y.2) := fun n os => ((bwn.trans (Gr.bw ⟨n, os, rfl⟩)).cell (p := ⟨b, _, none⟩) hb).trans c2.2
          clear c1 c2 bwn hx hy
          cases B
          · go_wp2_with fail
            go_quiet (fail)
            go_wp2_with fail
            go_roundw
            case rel => exact ⟨k + 1, by rw [HS.out]; simp, by go_num, by omega, hG.out.trans ⟨nq, #[], by simp⟩⟩
            case measure => first | (simp [intOf]; done) | (simp [intOf]; omega)
          · go_wp2_with fail
            go_quiet_grown (first | (go_at_call 48; with_reducible exact grown_of_Gr (c_rLess _ _ _ _ _)))
            go_wp2_with fail
            go_roundw
            case rel => exact ⟨k + 1, by rw [HS.out]; simp, by go_num, by omega, hG.out.trans ⟨nq, osq, rfl⟩⟩
            case measure => first | (simp [intOf]; done) | (simp [intOf]; omega)
        · obtain rfl : k = l.length := by omega
          have bwn : Bw w wr := hB.out.trans hG.out.bw
          have hR2 : wr.heap[w.heap.size]? = some (.cells #[.int .u64 0, .int .i64 0] 29 (0, 0)) := hG.out.bw.blk hR.out
          have c1 := HC.out i hlt
          rw [← hx] at c1
          have x0 : wr.cell? ⟨b, o + i * 2, none⟩ = some (.int .u64 x.1) := (bwn.cell (p := ⟨b, _, none⟩) hb).trans c1.1
          have x1 : wr.cell? ⟨b, o + i * 2 + 1, none⟩ = some (.int .i64 x.2) := (bwn.cell (p := ⟨b, _, none⟩) hb).trans c1.2
          have BN := Lib.hid bwn
          have HR2 := Lib.hid hR2
          have HX := Lib.hid hx
          clear c1 bwn hR2 hx hy
          have r0 : wr.cell? ⟨w.heap.size, 0, none⟩ = some (.int .u64 0) := cell_blk HR2.out
          have r1 : wr.cell? ⟨w.heap.size, 1, none⟩ = some (.int .i64 0) := cell_blk HR2.out
          have q0 : wr.frozen? ⟨w.heap.size, 0, none⟩ = false := soft_blk HR2.out
          have q1 : wr.frozen? ⟨w.heap.size, 1, none⟩ = false := soft_blk HR2.out
          have hz : w.heap.size < wr.heap.size := lt_blk HR2.out
          cases B
          · go_wp2_with fail
            go_roundw
            case rel =>
              refine ⟨i + 1, by go_num, by omega, fun j hj => ?_, BN.out, HR2.out⟩
              by_cases c : j = i
              · subst c; exact HBB.out.symm
              · exact hA.out j (by omega)
            case measure => first | (simp [intOf]; done) | (simp [intOf]; omega)
          · have hE : Hid (x = gk l l.length) := by
              show _ = _
              rw [HX.out]; exact top_gk hlt HBB.out.symm
            go_wp2
            refine bodyPost_ret (v := .agg #[.int .u64 x.1, .int .i64 x.2]) (by simp [results, Try.results26, go_sem, *]) rfl ⟨by rw [hE.out], ?_⟩
            exact (Below.setCell BN.out (Nat.le_refl _) _).setCell (Nat.le_refl _) _
    · obtain rfl : i = l.length := by omega
      have r0 : wo.cell? ⟨w.heap.size, 0, none⟩ = some (.int .u64 0) := cell_blk hR.out
      have r1 : wo.cell? ⟨w.heap.size, 1, none⟩ = some (.int .i64 0) := cell_blk hR.out
      have q0 : wo.frozen? ⟨w.heap.size, 0, none⟩ = false := soft_blk hR.out
      have q1 : wo.frozen? ⟨w.heap.size, 1, none⟩ = false := soft_blk hR.out
      have hz : w.heap.size < wo.heap.size := lt_blk hR.out
      have HE := Lib.hid (no_top hA.out)
      go_wp2
      refine bodyPost_ret (v := .agg #[.int .u64 0, .int .i64 0]) (by simp [results, Try.results26, go_sem, *]) rfl ⟨by rw [HE.out], ?_⟩
      exact (Below.setCell hB.out (Nat.le_refl _) _).setCell (Nat.le_refl _) _

set_option maxRecDepth 100000 in
set_option maxHeartbeats 1000000 in
theorem c_rNewest (v : Value) (l : List (Int × Int)) (w : World) (h : PAt w v l) (hn : l.length ≤ 1000000) :
    Calls Try.prog 28 #[v] w fun e w' => e = .returned (.agg #[.int .u64 (gk l l.length).1, .int .i64 (gk l l.length).2]) ∧ Bw w w' := by
  have mixed : Try.prog.follows .mixedOrders = true := by kernel_rfl
  obtain ⟨a, cap, rfl⟩ := h.form
  have HP := Lib.hid h
  clear h
  go_enter Try.func28, Try.ntmps28
  go_wp2_with fail
  go_loopw [3] (fun vi wr => ∃ i : Nat, vi = .int .i64 i ∧ i ≤ l.length ∧ Hid (∀ j, j < i → topB l j l.length = false) ∧ Hid (Bw w wr) ∧ Hid (wr.heap[w.heap.size]? = some (.cells #[.int .u64 0, .int .i64 0] 31 (0, 0)))) (fun vi _ => l.length - (intOf vi).toNat)
  case atStart => exact ⟨0, rfl, by omega, fun j hj => by omega, Bw.alloc _ _, heap_alloc_new _ _⟩
  case round =>
    obtain ⟨i, rfl, hi, hA, hB, hR⟩ := hrel
    obtain ⟨wo, hwo⟩ : ∃ wo : World, wo = wr := ⟨_, rfl⟩
    subst hwo
    by_cases hlt : i < l.length
    · have hltz : (i : Int) < (l.length : Int) := by omega
      obtain ⟨b, o, rfl, hb, hc⟩ := HP.out.cells (by omega)
      have HC := Lib.hid hc
      clear hc
      go_wp2_with fail
      go_loopw [4, 5] (fun vb vk wr => ∃ k : Nat, vb = .bool (topB l i k) ∧ vk = .int .i64 k ∧ k ≤ l.length ∧ Hid (Gr wo wr)) (fun _ vk _ => l.length - (intOf vk).toNat)
      case atStart => exact ⟨0, by simp [topB], rfl, by omega, Gr.refl _⟩
      case round =>
        obtain ⟨k, rfl, rfl, hk, hG⟩ := hrel
        have hS := topB_succ l i k
        obtain ⟨B, hBB⟩ : ∃ B, B = topB l i k := ⟨_, rfl⟩
        rw [← hBB]
        have HBB := Lib.hid hBB
        rw [← hBB] at hS
        clear hBB
        obtain ⟨x, hx⟩ : ∃ x, x = l[i]! := ⟨_, rfl⟩
        obtain ⟨y, hy⟩ : ∃ y, y = l[k]! := ⟨_, rfl⟩
        rw [← hx, ← hy] at hS
        have HS := Lib.hid hS
        clear hS
        by_cases hlt2 : k < l.length
        · have hltz2 : (k : Int) < (l.length : Int) := by omega
          have bwn : Bw w wr := hB.out.trans hG.out.bw
          have c1 := HC.out i hlt
          have c2 := HC.out k hlt2
          rw [← hx] at c1
          rw [← hy] at c2
          have x0 : ∀ n os, (grow (wr.drewN n) os).cell? ⟨b, o + i * 2, none⟩ = some (.int .u64 x.1) := fun n os => ((bwn.trans (Gr.bw ⟨n, os, rfl⟩)).cell (p := ⟨b, _, none⟩) hb).trans c1.1
          have x1 : ∀ n os, (grow (wr.drewN n) os).cell? ⟨b, o + i * 2 + 1, none⟩ = some (.int .i64 x.2) := fun n os => ((bwn.trans (Gr.bw ⟨n, os, rfl⟩)).cell (p := ⟨b, _, none⟩) hb).trans c1.2
          have y0 : ∀ n os, (grow (wr.drewN n) os).cell? ⟨b, o + k * 2, none⟩ = some (.int .u64 y.1) := fun n os => ((bwn.trans (Gr.bw ⟨n, os, rfl⟩)).cell (p := ⟨b, _, none⟩) hb).trans c2.1
          have y1 : ∀ n os, (grow (wr.drewN n) os).cell? ⟨b, o + k * 2 + 1, none⟩ = some (.int .i64 y.2) := fun n os => ((bwn.trans (Gr.bw ⟨n, os, rfl⟩)).cell (p := ⟨b, _, none⟩) hb).trans c2.2
          clear c1 c2 bwn hx hy
          cases B
          · go_wp2_with fail
            go_quiet (fail)
            go_wp2_with fail
            go_roundw
            case rel => exact ⟨k + 1, by rw [HS.out]; simp, by go_num, by omega, hG.out.trans ⟨nq, #[], by simp⟩⟩
            case measure => first | (simp [intOf]; done) | (simp [intOf]; omega)
          · go_wp2_with fail
            go_quiet_grown (first | (go_at_call 62; with_reducible exact grown_of_Gr (c_rConfLess _ _ _ _ _)))
            go_wp2_with fail
            go_roundw
            case rel => exact ⟨k + 1, by rw [HS.out]; simp, by go_num, by omega, hG.out.trans ⟨nq, osq, rfl⟩⟩
            case measure => first | (simp [intOf]; done) | (simp [intOf]; omega)
        · obtain rfl : k = l.length := by omega
          have bwn : Bw w wr := hB.out.trans hG.out.bw
          have hR2 : wr.heap[w.heap.size]? = some (.cells #[.int .u64 0, .int .i64 0] 31 (0, 0)) := hG.out.bw.blk hR.out
          have c1 := HC.out i hlt
          rw [← hx] at c1
          have x0 : wr.cell? ⟨b, o + i * 2, none⟩ = some (.int .u64 x.1) := (bwn.cell (p := ⟨b, _, none⟩) hb).trans c1.1
          have x1 : wr.cell? ⟨b, o + i * 2 + 1, none⟩ = some (.int .i64 x.2) := (bwn.cell (p := ⟨b, _, none⟩) hb).trans c1.2
          have BN := Lib.hid bwn
          have HR2 := Lib.hid hR2
          have HX := Lib.hid hx
          clear c1 bwn hR2 hx hy
          have r0 : wr.cell? ⟨w.heap.size, 0, none⟩ = some (.int .u64 0) := cell_blk HR2.out
          have r1 : wr.cell? ⟨w.heap.size, 1, none⟩ = some (.int .i64 0) := cell_blk HR2.out
          have q0 : wr.frozen? ⟨w.heap.size, 0, none⟩ = false := soft_blk HR2.out
          have q1 : wr.frozen? ⟨w.heap.size, 1, none⟩ = false := soft_blk HR2.out
          have hz : w.heap.size < wr.heap.size := lt_blk HR2.out
          cases B
          · go_wp2_with fail
            go_roundw
            case rel =>
              refine ⟨i + 1, by go_num, by omega, fun j hj => ?_, BN.out, HR2.out⟩
              by_cases c : j = i
              · subst c; exact HBB.out.symm
              · exact hA.out j (by omega)
            case measure => first | (simp [intOf]; done) | (simp [intOf]; omega)
          · have hE : Hid (x = gk l l.length) := by
              show _ = _
              rw [HX.out]; exact top_gk hlt HBB.out.symm
            go_wp2
            refine bodyPost_ret (v := .agg #[.int .u64 x.1, .int .i64 x.2]) (by simp [results, Try.results28, go_sem, *]) rfl ⟨by rw [hE.out], ?_⟩
            exact (Below.setCell BN.out (Nat.le_refl _) _).setCell (Nat.le_refl _) _
    · obtain rfl : i = l.length := by omega
      have r0 : wo.cell? ⟨w.heap.size, 0, none⟩ = some (.int .u64 0) := cell_blk hR.out
      have r1 : wo.cell? ⟨w.heap.size, 1, none⟩ = some (.int .i64 0) := cell_blk hR.out
      have q0 : wo.frozen? ⟨w.heap.size, 0, none⟩ = false := soft_blk hR.out
      have q1 : wo.frozen? ⟨w.heap.size, 1, none⟩ = false := soft_blk hR.out
      have hz : w.heap.size < wo.heap.size := lt_blk hR.out
      have HE := Lib.hid (no_top hA.out)
      go_wp2
      refine bodyPost_ret (v := .agg #[.int .u64 0, .int .i64 0]) (by simp [results, Try.results28, go_sem, *]) rfl ⟨by rw [HE.out], ?_⟩
      exact (Below.setCell hB.out (Nat.le_refl _) _).setCell (Nat.le_refl _) _

/-- The greatest of the first k and 0. -/
def hi0 (l : List Int) : Nat → Int
  | 0 => 0
  | k + 1 => if l[k]! > hi0 l k then l[k]! else hi0 l k
theorem hi0_gu {l : List Int} (h : ∀ p ∈ l, 0 ≤ p ∧ p ≤ 18446744073709551615) : ∀ k, k ≤ l.length → hi0 l k = gu l k
  | 0, _ => rfl
  | k + 1, hk => by
    have e := hi0_gu h k (by omega)
    have hp := h l[k]! (by rw [getElem!_pos l k (by omega)]; exact List.getElem_mem _)
    have h3 : hi0 l (k + 1) = if l[k]! > hi0 l k then l[k]! else hi0 l k := rfl
    have h4 : gu l (k + 1) = if k = 0 ∨ cmpZ l[k]! (gu l k) > 0 then l[k]! else gu l k := rfl
    rw [h3, h4, e]
    have := cz l[k]! (gu l k)
    by_cases h0 : k = 0
    · rw [if_pos (Or.inl h0)]
      have h5 : gu l k = 0 := by rw [h0]; rfl
      by_cases c : l[k]! > gu l k
      · rw [if_pos c]
      · rw [if_neg c]; omega
    · by_cases h1 : l[k]! > gu l k
      · rw [if_pos h1, if_pos (Or.inr (by omega))]
      · rw [if_neg h1, if_neg (by rintro (h | h) <;> omega)]

set_option maxHeartbeats 1000000 in
theorem c_rAbove (v : Value) (l : List Int) (w : World) (h : UAt w v l) (hn : l.length ≤ 1000000) (hr : ∀ p ∈ l, 0 ≤ p ∧ p ≤ 18446744073709551615) :
    Calls Try.prog 29 #[v] w fun e w' => e = .returned (.int .u64 (aboveU l)) ∧ w = w' := by
  obtain ⟨a, cap, rfl⟩ := h.form
  have HP := Lib.hid h
  have HR := Lib.hid hr
  clear h hr
  go_enter Try.func29, Try.ntmps29
  go_wp2_with fail
  go_loopw [3, 4] (fun vn vk wr => ∃ k : Nat, vn = .int .u64 (hi0 l k) ∧ vk = .int .i64 k ∧ k ≤ l.length ∧ wr = w) (fun _ vk _ => l.length - (intOf vk).toNat)
  case atStart => exact ⟨0, rfl, rfl, by omega, rfl⟩
  case round =>
    obtain ⟨k, rfl, rfl, hk, rfl⟩ := hrel
    by_cases hlt : k < l.length
    · have hltz : (k : Int) < (l.length : Int) := by omega
      obtain ⟨b, o, rfl, hb, hc⟩ := HP.out.cells (by omega)
      have x0 := hc k hlt
      obtain ⟨n, hnn⟩ : ∃ n, n = hi0 l k := ⟨_, rfl⟩
      obtain ⟨x, hx⟩ : ∃ x, x = l[k]! := ⟨_, rfl⟩
      rw [← hx] at x0
      rw [← hnn]
      have hS : hi0 l (k + 1) = if x > n then x else n := by rw [hx, hnn]; rfl
      have HS := Lib.hid hS
      clear hc hx hnn hS
      by_cases hgt : n < x
      · go_wp2
        go_roundw
        case rel => exact ⟨k + 1, by rw [HS.out, if_pos hgt], by go_num, by omega, by first | rfl | trivial⟩
        case measure => first | (simp [intOf]; done) | (simp [intOf]; omega)
      · go_wp2
        go_roundw
        case rel => exact ⟨k + 1, by rw [HS.out, if_neg hgt], by go_num, by omega, by first | rfl | trivial⟩
        case measure => first | (simp [intOf]; done) | (simp [intOf]; omega)
    · obtain rfl : k = l.length := by omega
      obtain ⟨h1, h2⟩ := gu_range HR.out
      have hA : aboveU l = sumU (gu l l.length) 1 := rfl
      rw [hi0_gu HR.out l.length (Nat.le_refl _)]
      generalize gu l l.length = n at h1 h2 hA ⊢
      have HA := Lib.hid hA
      clear hA
      by_cases hm : n = 18446744073709551615
      · subst hm
        go_wp2
        go_ret
        exact ⟨by rw [HA.out]; rfl, rfl⟩
      · have hb : (n == 18446744073709551615) = false := by simpa using hm
        have hw : IntKind.u64.wrap (n + 1) = n + 1 := by rw [IntKind.wrap_u64]; omega
        have hs : sumU n 1 = n + 1 := by unfold sumU; rw [if_neg (by omega)]
        go_wp2
        go_ret
        exact ⟨ret_uint (by rw [HA.out, hs]), rfl⟩
end Go.Proofs.Ytllmiaonlofeeaa
