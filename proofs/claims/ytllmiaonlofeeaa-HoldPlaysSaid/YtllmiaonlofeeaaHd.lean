/-
  The hold's From. No conditions beyond what each theorem states.
-/
import Derived.Test.YtllmiaonlofeeaaHc
namespace Go.Proofs.Ytllmiaonlofeeaa
open Go.RowKit Go.Sort

/-- What From gives: the part of the row that the numbers name. -/
def fromIdx (lo seq : Int) : Nat := (max seq (lo + 1) - lo - 1).toNat
def fromL {α : Type} (lo seq most : Int) (l : List α) : List α := (l.drop (fromIdx lo seq)).take most.toNat

theorem DL.dropTake {w : World} {l : List Msg} {L : List DM} (h : DL w l L) (j k : Nat) : DL w ((l.drop j).take k) ((L.drop j).take k) := by
  refine ⟨by simp [h.1], fun i hi => ?_⟩
  have hi2 : i < k ∧ j + i < l.length := by simp only [List.length_take, List.length_drop] at hi; omega
  have e1 : ((l.drop j).take k)[i]! = l[j + i]! := by rw [getElem!_pos _ i hi, getElem!_pos l (j + i) hi2.2]; simp
  have e2 : ((L.drop j).take k)[i]! = L[j + i]! := by
    have hL : j + i < L.length := by rw [← h.1]; exact hi2.2
    rw [getElem!_pos _ i (by simp only [List.length_take, List.length_drop]; omega), getElem!_pos L (j + i) hL]; simp
  rw [e1, e2]
  exact h.2 _ hi2.2
theorem mem_dropTake {l : List Msg} {j k : Nat} {x : Msg} (h : x ∈ (l.drop j).take k) : x ∈ l := List.mem_of_mem_drop (List.mem_of_mem_take h)

theorem take_min {α : Type} {xs : List α} {k : Nat} {most : Int} (hk : (k : Int) = min (xs.length : Int) most) : xs.take most.toNat = xs.take k := by
  by_cases c : (xs.length : Int) ≤ most
  · rw [List.take_of_length_le (by omega), List.take_of_length_le (by omega)]
  · rw [show most.toNat = k by omega]

set_option maxHeartbeats 1000000 in
theorem c_hFrom_out (b : Nat) (p seq most : Int) (w : World) (hp : ¬ (0 ≤ p ∧ p < 64)) :
    Calls Try.prog 42 #[.pointer (some ⟨b, 0, none⟩), .int .i64 p, .int .u32 seq, .int .i64 most] w fun e w' => e = .returned (.slice none 0 0) ∧ w = w' := by
  have HP := Lib.hid hp
  clear hp
  go_enter Try.func42, Try.ntmps42
  go_wp2_with fail
  refine (c_process_out HP.out _).mono ?_
  rintro e w' ⟨rfl, rfl⟩
  go_wp2
  go_ret
  exact ⟨rfl, rfl⟩
theorem c_hFrom_few (b : Nat) (p seq most : Int) (w : World) (hp : 0 ≤ p ∧ p < 64) (hm : most < 1) :
    Calls Try.prog 42 #[.pointer (some ⟨b, 0, none⟩), .int .i64 p, .int .u32 seq, .int .i64 most] w fun e w' => e = .returned (.slice none 0 0) ∧ w = w' := by
  have HP := Lib.hid hp
  clear hp
  go_enter Try.func42, Try.ntmps42
  go_wp2_with fail
  refine (c_process_in HP.out _).mono ?_
  rintro e w' ⟨rfl, rfl⟩
  go_wp2
  go_ret
  exact ⟨rfl, rfl⟩
theorem c_hFrom_far (b i : Nat) (p seq most : Int) (low : Nat → Int) (v : Nat → Value) (a : Option Addr) (n c : Nat) (w : World) (h : HoldBlk w b low v) (hp : p = i) (hi : i < 64) (hv : v i = .slice a n c) (h0 : 0 ≤ low i) (h1 : low i + n ≤ 1000000)
    (hm : 1 ≤ most) (hs : low i + n < seq) :
    Calls Try.prog 42 #[.pointer (some ⟨b, 0, none⟩), .int .i64 p, .int .u32 seq, .int .i64 most] w fun e w' => e = .returned (.slice none 0 0) ∧ Gr w w' := by
  have hz : 0 ≤ p ∧ p < 64 := by omega
  have HC := Lib.hid (c_hCount_in b i p low v a n c w h hp hi hv h0 (by omega))
  have HZ := Lib.hid hz
  have hmd : decide (most < 1) = false := decide_eq_false (by omega)
  clear hz h hp hv
  go_enter Try.func42, Try.ntmps42
  go_wp2_with fail
  refine (c_process_in HZ.out _).mono ?_
  rintro e w' ⟨rfl, rfl⟩
  go_wp2_with fail
  refine HC.out.mono ?_
  rintro e w' ⟨rfl, hg⟩
  go_wp2
  go_ret
  exact ⟨rfl, hg⟩

set_option maxRecDepth 100000 in
set_option maxHeartbeats 2000000 in
theorem c_hFrom_in (b i : Nat) (p seq most : Int) (low : Nat → Int) (v : Nat → Value) (l : List Msg) (L : List DM) (w : World) (h : HoldBlk w b low v) (hp : p = i) (hi : i < 64) (hv : Own6 0 w (v i) l) (hL : DL w l L) (h0 : 0 ≤ low i) (h1 : low i + l.length ≤ 1000000)
    (hd : ∀ x ∈ l, x.dl ≤ 1000000) (hm : 1 ≤ most) (hs : seq ≤ low i + l.length) (hs0 : 0 ≤ seq) :
    Calls Try.prog 42 #[.pointer (some ⟨b, 0, none⟩), .int .i64 p, .int .u32 seq, .int .i64 most] w fun e w' =>
      ∃ v' l', e = .returned v' ∧ Own6 w.heap.size w' v' l' ∧ DL w' l' (fromL (low i) seq most L) ∧ DepsAll (fun k => w.heap.size ≤ k) w' l' ∧ (∀ x ∈ l', x.dl ≤ 1000000) ∧ Bw w w' := by
  have mixed : Try.prog.follows .mixedOrders = true := by kernel_rfl
  obtain ⟨a, c, hvf⟩ := hv.at.form
  have hz : 0 ≤ p ∧ p < 64 := by omega
  have hb := lt_blk h
  have HC := Lib.hid (c_hCount_in b i p low v a l.length c w h hp hi hvf h0 (by omega))
  have HZ := Lib.hid hz
  have hmd : decide (most < 1) = false := decide_eq_false (by omega)
  have hsd : decide (low i + (l.length : Int) < seq) = false := decide_eq_false (by omega)
  have hiz : (i : Int) < 64 := by omega
  have hiz0 : (0 : Int) ≤ (i : Int) := by omega
  have HH := Lib.hid h
  have HV := Lib.hid hv
  have HVF := Lib.hid hvf
  have HL := Lib.hid hL
  have HD := Lib.hid hd
  subst hp
  clear hz h hv hvf hL hd
  go_enter Try.func42, Try.ntmps42
  go_wp2_with fail
  refine (c_process_in HZ.out _).mono ?_
  rintro e w' ⟨rfl, rfl⟩
  go_wp2_with fail
  refine HC.out.mono ?_
  rintro e w1 ⟨rfl, hg⟩
  have HG := Lib.hid hg
  have x0 : ∀ q os, (grow (w1.drewN q) os).cell? ⟨b, i, none⟩ = some (.int .u32 (low i)) := fun q os => by rw [cell_blk ((hg.trans ⟨q, os, rfl⟩).bw.blk HH.out)]; exact hold_low hi
  have x1 : ∀ q os, (grow (w1.drewN q) os).cell? ⟨b, 64 + i, none⟩ = some (.slice a l.length c) := fun q os => by rw [cell_blk ((hg.trans ⟨q, os, rfl⟩).bw.blk HH.out), hold_row hi, HVF.out]
  have hb1 : b < w1.heap.size := Nat.lt_of_lt_of_le hb hg.bw.size
  obtain ⟨lo, hlo⟩ : ∃ lo, lo = low i := ⟨_, rfl⟩
  rw [← hlo] at h0 h1 hs hsd x0
  rw [← hlo]
  have e1 : IntKind.u32.wrap (lo + 1) = lo + 1 := by rw [IntKind.wrap_u32]; omega
  have ez : IntKind.u32.wrap 0 = 0 := rfl
  have HLO := Lib.hid hlo
  clear hg hlo
  rcases HV.out.2 with ⟨hvn, hln⟩ | ⟨g, cap, cur, hvs, hgb, hgh, hnc, hcm, hcs, htk⟩
  · rw [HVF.out] at hvn
    simp only [Value.slice.injEq] at hvn
    obtain ⟨rfl, _, rfl⟩ := hvn
    have hlt : seq < lo + 1 := by omega
    have em : max seq (lo + 1) = lo + 1 := by omega
    have e2 : IntKind.u32.wrap (lo + 1 - lo) = 1 := by rw [IntKind.wrap_u32]; omega
    rw [hln] at x1 ⊢
    go_wp2_with fail
    go_quiet_grown (fail)
    have hB : Bw w (grow (w1.drewN nq) osq) := HG.out.bw.trans (Gr.bw ⟨nq, osq, rfl⟩)
    have hMA : MAt (grow (w1.drewN nq) osq) (.slice none 0 0) [] := Or.inl ⟨rfl, rfl⟩
    have hk : (0 : Int) = min (0 : Int) most := by omega
    have hDL : DL (grow (w1.drewN nq) osq) [] [] := DL.nil _
    have hcp := c_copies _ _ _ _ hMA hDL (by simp) (fun x hx => by cases hx)
    have hE : fromL lo seq most L = [] := by have : L = [] := List.length_eq_zero_iff.1 (by rw [← HL.out.1]; exact hln); rw [this]; simp [fromL]
    rw [← hE] at hcp
    have hmin : min (0 : Int) most = 0 := hk.symm
    have HCP := Lib.hid hcp
    have HB := Lib.hid hB
    clear hcp hE hDL hMA hB hk
    generalize grow (w1.drewN nq) osq = w2 at HCP HB ⊢
    go_wp2_with fail
    refine HCP.out.mono ?_
    rintro e w3 ⟨v', l', rfl, t1, t2, t3, t4, t5⟩
    have T := Lib.hid (And.intro t1 (And.intro t2 (And.intro t3 (And.intro t4 t5))))
    clear t1 t2 t3 t4 t5
    go_wp2
    go_ret
    obtain ⟨t1, t2, t3, t4, t5⟩ := T.out
    refine ⟨v', l', rfl, t1.mono HB.out.size, by rw [← HLO.out]; exact t2, t3.mono fun k hk => Nat.le_trans HB.out.size hk, t4, HB.out.trans t5⟩
  · rw [HVF.out] at hvs
    simp only [Value.slice.injEq, true_and] at hvs
    obtain ⟨rfl, rfl⟩ := hvs
    clear hgb hgh hcm hcs htk
    by_cases hlt : seq < lo + 1
    · have em : max seq (lo + 1) = lo + 1 := by omega
      have e2 : IntKind.u32.wrap (lo + 1 - lo) = 1 := by rw [IntKind.wrap_u32]; omega
      go_wp2_with fail
      go_quiet_grown (fail)
      have hB : Bw w (grow (w1.drewN nq) osq) := HG.out.bw.trans (Gr.bw ⟨nq, osq, rfl⟩)
      obtain ⟨k, hk⟩ : ∃ k : Nat, (k : Int) = min (l.length : Int) most := ⟨(min (l.length : Int) most).toNat, by omega⟩
      have k1 : k ≤ l.length := by omega
      have hMA : MAt (grow (w1.drewN nq) osq) (.slice (some ⟨g, 0, none⟩) k c) (l.take k) := by have h1 := HV.out.at.bw hB; rw [HVF.out] at h1; exact h1.take k1 c
      have hDL : DL (grow (w1.drewN nq) osq) (l.take k) (L.take k) := by have := HL.out.dropTake 0 k; rw [List.drop_zero, List.drop_zero] at this; exact this.bw hB
      have hcp := c_copies _ _ _ _ hMA hDL (by simp only [List.length_take]; omega) (fun x hx => HD.out x (List.mem_of_mem_take hx))
      have hE : fromL lo seq most L = L.take k := by unfold fromL; rw [show fromIdx lo seq = 0 by unfold fromIdx; omega, List.drop_zero]; exact take_min (by rw [← HL.out.1]; exact hk)
      rw [← hE] at hcp
      have hmin : min (l.length : Int) most = (k : Int) := hk.symm
      have kz0 : (0 : Int) ≤ (k : Int) := by omega
      have kz1 : (k : Int) ≤ (c : Int) := by omega
      have kz2 : (k : Int) ≤ (l.length : Int) := by omega
      have HCP := Lib.hid hcp
      have HB := Lib.hid hB
      clear hcp hE hDL hMA hB hk
      generalize grow (w1.drewN nq) osq = w2 at HCP HB ⊢
      go_wp2_with fail
      refine HCP.out.mono ?_
      rintro e w3 ⟨v', l', rfl, t1, t2, t3, t4, t5⟩
      have T := Lib.hid (And.intro t1 (And.intro t2 (And.intro t3 (And.intro t4 t5))))
      clear t1 t2 t3 t4 t5
      go_wp2
      go_ret
      obtain ⟨t1, t2, t3, t4, t5⟩ := T.out
      refine ⟨v', l', rfl, t1.mono HB.out.size, by rw [← HLO.out]; exact t2, t3.mono fun k hk => Nat.le_trans HB.out.size hk, t4, HB.out.trans t5⟩
    · obtain ⟨j, hj⟩ : ∃ j : Nat, (j : Int) = seq - lo - 1 := ⟨(seq - lo - 1).toNat, by omega⟩
      have em : max seq (lo + 1) = seq := by omega
      have e2 : IntKind.u32.wrap (seq - lo) = (j : Int) + 1 := by rw [IntKind.wrap_u32]; omega
      have e3 : IntKind.u32.wrap (j : Int) = (j : Int) := by rw [IntKind.wrap_u32]; omega
      have j0 : (0 : Int) ≤ (j : Int) := by omega
      have j1 : (j : Int) ≤ (l.length : Int) := by omega
      have j2 : j ≤ l.length := by omega
      have HJ := Lib.hid hj
      clear hj
      by_cases hcj : c = j
      · have hnj : l.length = j := by omega
        go_wp2_with fail
        go_quiet_grown (fail)
        have hB : Bw w (grow (w1.drewN nq) osq) := HG.out.bw.trans (Gr.bw ⟨nq, osq, rfl⟩)
        have hMA : MAt (grow (w1.drewN nq) osq) (.slice (some ⟨g, 0, none⟩) 0 0) [] := Or.inr (Or.inl ⟨_, _, rfl, rfl⟩)
        have hk : (0 : Int) = min (0 : Int) most := by omega
        have hDL : DL (grow (w1.drewN nq) osq) [] [] := DL.nil _
        have hcp := c_copies _ _ _ _ hMA hDL (by simp) (fun x hx => by cases hx)
        have hE : fromL lo seq most L = [] := by unfold fromL; rw [List.drop_eq_nil_of_le (by rw [← HL.out.1]; unfold fromIdx; have := HJ.out; omega)]; simp
        rw [← hE] at hcp
        have hmin : min (0 : Int) most = 0 := hk.symm
        have HCP := Lib.hid hcp
        have HB := Lib.hid hB
        clear hcp hE hDL hMA hB hk
        generalize grow (w1.drewN nq) osq = w2 at HCP HB ⊢
        go_wp2_with fail
        refine HCP.out.mono ?_
        rintro e w3 ⟨v', l', rfl, t1, t2, t3, t4, t5⟩
        have T := Lib.hid (And.intro t1 (And.intro t2 (And.intro t3 (And.intro t4 t5))))
        clear t1 t2 t3 t4 t5
        go_wp2
        go_ret
        obtain ⟨t1, t2, t3, t4, t5⟩ := T.out
        refine ⟨v', l', rfl, t1.mono HB.out.size, by rw [← HLO.out]; exact t2, t3.mono fun k hk => Nat.le_trans HB.out.size hk, t4, HB.out.trans t5⟩
      · go_wp2_with fail
        go_quiet_grown (fail)
        have hB : Bw w (grow (w1.drewN nq) osq) := HG.out.bw.trans (Gr.bw ⟨nq, osq, rfl⟩)
        obtain ⟨k, hk⟩ : ∃ k : Nat, (k : Int) = min ((l.length - j : Nat) : Int) most := ⟨(min ((l.length - j : Nat) : Int) most).toNat, by omega⟩
        have k1 : k ≤ l.length - j := by omega
        have hMA : MAt (grow (w1.drewN nq) osq) (.slice (some ⟨g, j * 6, none⟩) k (c - j)) ((l.drop j).take k) := by have h1 := HV.out.at.bw hB; rw [HVF.out] at h1; have h2 := h1.drop (k := j) j2 (c - j); rw [Nat.zero_add] at h2; exact h2.take k1 (c - j)
        have hDL : DL (grow (w1.drewN nq) osq) ((l.drop j).take k) ((L.drop j).take k) := (HL.out.dropTake j k).bw hB
        have hcp := c_copies _ _ _ _ hMA hDL (by simp only [List.length_take, List.length_drop]; omega) (fun x hx => HD.out x (mem_dropTake hx))
        have hE : fromL lo seq most L = (L.drop j).take k := by unfold fromL; rw [show fromIdx lo seq = j by unfold fromIdx; have := HJ.out; omega]; exact take_min (by rw [List.length_drop, ← HL.out.1]; exact hk)
        rw [← hE] at hcp
        have hmin : min ((l.length - j : Nat) : Int) most = (k : Int) := hk.symm
        have kz0 : (0 : Int) ≤ (k : Int) := by omega
        have kz1 : (k : Int) ≤ ((c - j : Nat) : Int) := by omega
        have kz2 : (k : Int) ≤ ((l.length - j : Nat) : Int) := by omega
        have HCP := Lib.hid hcp
        have HB := Lib.hid hB
        clear hcp hE hDL hMA hB hk
        generalize grow (w1.drewN nq) osq = w2 at HCP HB ⊢
        go_wp2_with fail
        refine HCP.out.mono ?_
        rintro e w3 ⟨v', l', rfl, t1, t2, t3, t4, t5⟩
        have T := Lib.hid (And.intro t1 (And.intro t2 (And.intro t3 (And.intro t4 t5))))
        clear t1 t2 t3 t4 t5
        go_wp2
        go_ret
        obtain ⟨t1, t2, t3, t4, t5⟩ := T.out
        refine ⟨v', l', rfl, t1.mono HB.out.size, by rw [← HLO.out]; exact t2, t3.mono fun k hk => Nat.le_trans HB.out.size hk, t4, HB.out.trans t5⟩
end Go.Proofs.Ytllmiaonlofeeaa
