/-
  symMergeCmpFunc at messages: the two short ways. No conditions beyond what each theorem states.
-/
import Derived.Test.YtllmiaonlofeeaaKe
namespace Go.Proofs.Ytllmiaonlofeeaa
open Go.RowKit Go.Sort

set_option maxRecDepth 100000 in
set_option maxHeartbeats 1000000 in
theorem c_symUp (blk off cap len : Nat) (ai mi bi : Int) (a m b : Nat) (d : Array Msg) (w : World) (h1 : ai = a) (h2 : mi = m) (h3 : bi = b) (hl : d.size = len) (hH : HM w blk off d) (hb : blk < w.heap.size)
    (ham : m = a + 1) (hmb : m < b) (hbs : b ≤ len) (hsz : len ≤ 1000000000000) (q2 : SrtIn d m b) :
    Calls Try.prog 71 #[.slice (some ⟨blk, off, none⟩) len cap, .int .i64 ai, .int .i64 mi, .int .i64 bi, cmpV] w (Left (fun d' => Mg d d' a b) w blk off) := by
  subst h1 h2 h3
  have hbq : ((m : Int) - (a : Int) == 1) = true := by rw [beq_iff_eq]; omega
  have le1 : m ≤ a + 1 := by omega
  have le2 : a + 1 ≤ m := by omega
  have HAM := Lib.hid ham
  have mixed : Try.prog.follows .mixedOrders = true := by kernel_rfl
  have eg := eg1
  have HH := Lib.hid hH
  have HL := Lib.hid hl
  have Q2 := Lib.hid q2
  clear hH hl q2 ham
  go_enter Try.func71, Try.ntmps71
  go_wp2_with fail
  go_loopw [10, 11] (fun vi vj wr => ∃ i j : Nat, vi = .int .i64 i ∧ vj = .int .i64 j ∧ m ≤ i ∧ i ≤ j ∧ j ≤ b ∧ Hid (∀ t, m ≤ t → t < i → klt d[t]! d[a]!) ∧ Hid (∀ t, j ≤ t → t < b → ¬ klt d[t]! d[a]!) ∧ Hid (SW w blk off d wr)) (fun vi vj _ => (intOf vj).toNat - (intOf vi).toNat)
  case atStart => exact ⟨m, b, rfl, rfl, by omega, by omega, by omega, fun t p q => by omega, fun t p q => by omega, SW.refl HH.out⟩
  case round =>
    obtain ⟨i, j, rfl, rfl, hi, hij, hj, hA, hB, hS⟩ := hrel
    have hb2 : blk < wr.heap.size := Nat.lt_of_lt_of_le hb hS.out.size
    by_cases hlt : i < j
    · have hltz : (i : Int) < (j : Int) := by omega
      go_wp2_with fail
      have hH2 : HM wr blk off d := hS.out.holds HH.out hb rfl
      obtain ⟨h, hh⟩ : ∃ h, h = (i + j) / 2 := ⟨_, rfl⟩
      have gx := (hH2.six (i := (i + j) / 2) (by rw [HL.out]; omega)).grown hb2
      have gy := (hH2.six (i := a) (by rw [HL.out]; omega)).grown hb2
      obtain ⟨x, hx⟩ : ∃ x, x = d[(i + j) / 2]! := ⟨_, rfl⟩
      obtain ⟨y, hy⟩ : ∃ y, y = d[a]! := ⟨_, rfl⟩
      rw [← hx] at gx
      rw [← hy] at gy
      have HX := Lib.hid hx
      have HY := Lib.hid hy
      obtain ⟨x0, x1, x2, x3, x4, x5⟩ := gx
      obtain ⟨y0, y1, y2, y3, y4, y5⟩ := gy
      clear hx hy hH2 hh
      have i1 : (0 : Int) ≤ ((i : Int) + (j : Int)) / 2 := by omega
      have i2 : ((i : Int) + (j : Int)) / 2 < (len : Int) := by omega
      have i3 : (((i : Int) + (j : Int)) / 2).toNat = (i + j) / 2 := by omega
      have i4 : (a : Int) < (len : Int) := by omega
      have HK : Hid (keyCmp x.stamp x.frm y.stamp y.frm < 0 ↔ klt d[(i + j) / 2]! d[a]!) := by rw [← HX.out, ← HY.out]; exact mcmp_neg _ _
      by_cases hlv : keyCmp x.stamp x.frm y.stamp y.frm < 0
      · have HV := Lib.hid (HK.out.1 hlv)
        go_quiet_grown (first | (go_at_fn 54; with_reducible exact grown_of_Gr (c_Sort1' _ _ _ _ _ _ _ _ _ _ _ _ _ _ _ _ _)))
        go_wp2
        go_roundw
        case rel =>
          refine ⟨(i + j) / 2 + 1, j, by go_num, rfl, by omega, by omega, by omega, ?_, hB.out, hS.out.gr ⟨nq, osq, rfl⟩⟩
          intro t p q
          by_cases c : t = (i + j) / 2
          · rw [c]; exact HV.out
          · exact klt_of_le_of_lt (Q2.out t ((i + j) / 2) p (by omega) (by omega)) HV.out
        case measure => first | (simp [intOf]; done) | (simp [intOf]; omega)
      · have HV := Lib.hid (fun h => hlv (HK.out.2 h))
        go_quiet_grown (first | (go_at_fn 54; with_reducible exact grown_of_Gr (c_Sort1' _ _ _ _ _ _ _ _ _ _ _ _ _ _ _ _ _)))
        go_wp2
        go_roundw
        case rel =>
          refine ⟨i, (i + j) / 2, rfl, by go_num, by omega, by omega, by omega, hA.out, ?_, hS.out.gr ⟨nq, osq, rfl⟩⟩
          intro t p q
          by_cases c : t = (i + j) / 2
          · rw [c]; exact HV.out
          · exact kle_trans HV.out (Q2.out ((i + j) / 2) t (by omega) (by omega) q)
        case measure => first | (simp [intOf]; done) | (simp [intOf]; omega)
    · obtain rfl : i = j := by omega
      go_wp2_with fail
      go_loopw [13] (fun vk wr2 => ∃ (k : Nat) (dk : Array Msg), vk = .int .i64 k ∧ a ≤ k ∧ k + 1 ≤ i ∧ Hid (Rot d dk a m (m + (k - a))) ∧ Hid (SW w blk off dk wr2)) (fun vk _ => i - (intOf vk).toNat)
      case atStart => exact ⟨a, d, rfl, by omega, by omega, rot_nil (Or.inr (by omega)) (by omega) (by omega), hS.out⟩
      case round =>
        obtain ⟨k, dk, rfl, hka, hki, hR, hS2⟩ := hrel
        by_cases hlt2 : k + 1 < i
        · have hltz2 : (k : Int) < (i : Int) - 1 := by omega
          have hsz2 : dk.size = len := hR.out.1.trans HL.out
          have hH3 : HM wr blk off dk := hS2.out.holds HH.out hb hR.out.1
          have gx := hH3.six (i := k) (by omega)
          have gy := hH3.six (i := k + 1) (by omega)
          have sp := hH3.soft (i := k) (by omega)
          have sq := hH3.soft (i := k + 1) (by omega)
          obtain ⟨x, hx⟩ : ∃ x, x = dk[k]! := ⟨_, rfl⟩
          obtain ⟨y, hy⟩ : ∃ y, y = dk[k + 1]! := ⟨_, rfl⟩
          rw [← hx] at gx
          rw [← hy] at gy
          have HX := Lib.hid hx
          have HY := Lib.hid hy
          have HSZ := Lib.hid hsz2
          obtain ⟨x0, x1, x2, x3, x4, x5⟩ := gx
          obtain ⟨y0, y1, y2, y3, y4, y5⟩ := gy
          obtain ⟨p0, p1, p2, p3, p4, p5⟩ := sp
          obtain ⟨q0, q1, q2, q3, q4, q5⟩ := sq
          clear hx hy hH3 hsz2
          have e0 : ((k : Int) + 1).toNat = k + 1 := by omega
          go_wp2_with fail
          go_region
          go_wp2
          go_roundw
          case rel =>
            refine ⟨k + 1, Go.Sort.swp dk k (k + 1), by go_num, by omega, by omega, ?_, hS2.out.exch6 hb (by rw [HSZ.out]; omega) (by rw [HSZ.out]; omega) HX.out HY.out⟩
            have := rot_up (a := a) (n := k - a) (d := d) (d' := dk) (by rw [HL.out]; omega) (by rw [← HAM.out]; exact hR.out)
            rw [← HAM.out, show a + (k - a) = k by omega, show k - a + 1 = k + 1 - a by omega] at this
            exact this
          case measure => first | (simp [intOf]; done) | (simp [intOf]; omega)
        · obtain rfl : i = k + 1 := by omega
          have hltz2 : ¬ (k : Int) < (k : Int) + 1 - 1 := by omega
          go_wp2_with fail
          go_end0
          refine ⟨rfl, dk, ?_, hS2.out⟩
          have hR2 : Rot d dk a m (k + 1) := by have := hR.out; rwa [show m + (k - a) = k + 1 by omega] at this
          have hs : b ≤ d.size := by rw [HL.out]; exact hbs
          have hk : ∀ x y, a ≤ x → x < m → m ≤ y → y < k + 1 → klt d[y]! d[x]! := fun x y p q r u => by
            obtain rfl : x = a := by omega
            exact hA.out y r u
          have hH := half_of_rot hR2 (by omega) (by omega) (Nat.le_refl _) (by omega) hs (fun s t p q r => by omega) Q2.out hk (fun x y p q => by omega)
          refine merge_fin ((hR2.out (by omega) (by omega)).wide (Nat.le_refl _) (by omega)) (hR2.same (by omega) (by omega) (Nat.le_refl _) (by omega) hs hk) hH (by omega) (by omega) hs (Mg.of_srt (srt_triv (Or.inl rfl) hH.p1 hH.p2)) (Mg.of_srt ?_)
          refine SrtIn.join hH.p3 hH.p4 (fun s t p q r u => ?_)
          have hs' : s = k := by omega
          subst hs'
          rw [hR2.2 s (by omega), if_neg (by omega), if_pos (by omega), hR2.2 t (by omega), if_neg (by omega), if_neg (by omega), show s - (s + 1 - m) = a by omega]
          exact hB.out t r u
end Go.Proofs.Ytllmiaonlofeeaa
