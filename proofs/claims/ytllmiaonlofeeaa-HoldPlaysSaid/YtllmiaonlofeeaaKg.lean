/-
  symMergeCmpFunc at messages: the second short way. No conditions beyond what each theorem states.
-/
import Derived.Test.YtllmiaonlofeeaaKf
namespace Go.Proofs.Ytllmiaonlofeeaa
open Go.RowKit Go.Sort

set_option maxRecDepth 100000 in
set_option maxHeartbeats 1000000 in
theorem c_symDown (blk off cap len : Nat) (ai mi bi : Int) (a m b : Nat) (d : Array Msg) (w : World) (h1 : ai = a) (h2 : mi = m) (h3 : bi = b) (hl : d.size = len) (hH : HM w blk off d) (hb : blk < w.heap.size)
    (ham : a + 1 < m) (hmb : b = m + 1) (hbs : b ≤ len) (hsz : len ≤ 1000000000000) (q1 : SrtIn d a m) :
    Calls Try.prog 71 #[.slice (some ⟨blk, off, none⟩) len cap, .int .i64 ai, .int .i64 mi, .int .i64 bi, cmpV] w (Left (fun d' => Mg d d' a b) w blk off) := by
  subst h1 h2 h3
  have mixed : Try.prog.follows .mixedOrders = true := by kernel_rfl
  have eg := eg1
  have hbq : ((m : Int) - (a : Int) == 1) = false := by rw [beq_eq_false_iff_ne]; omega
  have hbq2 : ((b : Int) - (m : Int) == 1) = true := by rw [beq_iff_eq]; omega
  have le1 : b ≤ m + 1 := by omega
  have le2 : m + 1 ≤ b := by omega
  have HH := Lib.hid hH
  have HL := Lib.hid hl
  have Q1 := Lib.hid q1
  have HMB := Lib.hid hmb
  clear hH hl q1 hmb
  go_enter Try.func71, Try.ntmps71
  go_wp2_with fail
  go_loopw [14, 15] (fun vi vj wr => ∃ i j : Nat, vi = .int .i64 i ∧ vj = .int .i64 j ∧ a ≤ i ∧ i ≤ j ∧ j ≤ m ∧ Hid (∀ t, a ≤ t → t < i → ¬ klt d[m]! d[t]!) ∧ Hid (∀ t, j ≤ t → t < m → klt d[m]! d[t]!) ∧ Hid (SW w blk off d wr)) (fun vi vj _ => (intOf vj).toNat - (intOf vi).toNat)
  case atStart => exact ⟨a, m, rfl, rfl, by omega, by omega, by omega, fun t p q => by omega, fun t p q => by omega, SW.refl HH.out⟩
  case round =>
    obtain ⟨i, j, rfl, rfl, hi, hij, hj, hA, hB, hS⟩ := hrel
    have hb2 : blk < wr.heap.size := Nat.lt_of_lt_of_le hb hS.out.size
    by_cases hlt : i < j
    · have hltz : (i : Int) < (j : Int) := by omega
      go_wp2_with fail
      have hH2 : HM wr blk off d := hS.out.holds HH.out hb rfl
      have gx := (hH2.six (i := m) (by rw [HL.out]; omega)).grown hb2
      have gy := (hH2.six (i := (i + j) / 2) (by rw [HL.out]; omega)).grown hb2
      obtain ⟨x, hx⟩ : ∃ x, x = d[m]! := ⟨_, rfl⟩
      obtain ⟨y, hy⟩ : ∃ y, y = d[(i + j) / 2]! := ⟨_, rfl⟩
      rw [← hx] at gx
      rw [← hy] at gy
      have HX := Lib.hid hx
      have HY := Lib.hid hy
      obtain ⟨x0, x1, x2, x3, x4, x5⟩ := gx
      obtain ⟨y0, y1, y2, y3, y4, y5⟩ := gy
      clear hx hy hH2
      have i1 : (0 : Int) ≤ ((i : Int) + (j : Int)) / 2 := by omega
      have i2 : ((i : Int) + (j : Int)) / 2 < (len : Int) := by omega
      have i3 : (((i : Int) + (j : Int)) / 2).toNat = (i + j) / 2 := by omega
      have i4 : (m : Int) < (len : Int) := by omega
      have HK : Hid (keyCmp x.stamp x.frm y.stamp y.frm < 0 ↔ klt d[m]! d[(i + j) / 2]!) := by rw [← HX.out, ← HY.out]; exact mcmp_neg _ _
      by_cases hlv : keyCmp x.stamp x.frm y.stamp y.frm < 0
      · have HV := Lib.hid (HK.out.1 hlv)
        go_quiet_grown (first | (go_at_fn 54; with_reducible exact grown_of_Gr (c_Sort1' _ _ _ _ _ _ _ _ _ _ _ _ _ _ _ _ _)))
        go_wp2
        go_roundw
        case rel =>
          refine ⟨i, (i + j) / 2, rfl, by go_num, by omega, by omega, by omega, hA.out, ?_, hS.out.gr ⟨nq, osq, rfl⟩⟩
          intro t p q
          by_cases c : t = (i + j) / 2
          · rw [c]; exact HV.out
          · exact klt_of_lt_of_le HV.out (Q1.out ((i + j) / 2) t (by omega) (by omega) q)
        case measure => first | (simp [intOf]; done) | (simp [intOf]; omega)
      · have HV := Lib.hid (fun h => hlv (HK.out.2 h))
        go_quiet_grown (first | (go_at_fn 54; with_reducible exact grown_of_Gr (c_Sort1' _ _ _ _ _ _ _ _ _ _ _ _ _ _ _ _ _)))
        go_wp2
        go_roundw
        case rel =>
          refine ⟨(i + j) / 2 + 1, j, by go_num, rfl, by omega, by omega, by omega, ?_, hB.out, hS.out.gr ⟨nq, osq, rfl⟩⟩
          intro t p q
          by_cases c : t = (i + j) / 2
          · rw [c]; exact HV.out
          · exact kle_trans (Q1.out t ((i + j) / 2) p (by omega) (by omega)) HV.out
        case measure => first | (simp [intOf]; done) | (simp [intOf]; omega)
    · obtain rfl : i = j := by omega
      go_wp2_with fail
      go_loopw [17] (fun vk wr2 => ∃ (k : Nat) (dk : Array Msg), vk = .int .i64 k ∧ i ≤ k ∧ k ≤ m ∧ Hid (Rot d dk k m (m + 1)) ∧ Hid (SW w blk off dk wr2)) (fun vk _ => (intOf vk).toNat)
      case atStart => exact ⟨m, d, rfl, by omega, by omega, rot_nil (Or.inl rfl) (by omega) (by omega), hS.out⟩
      case round =>
        obtain ⟨k, dk, rfl, hki, hkm, hR, hS2⟩ := hrel
        by_cases hlt2 : i < k
        · obtain ⟨kp, rfl⟩ : ∃ kp, k = kp + 1 := ⟨k - 1, by omega⟩
          have hltz2 : (i : Int) < (kp : Int) + 1 := by omega
          have hsz2 : dk.size = len := hR.out.1.trans HL.out
          have hH3 : HM wr blk off dk := hS2.out.holds HH.out hb hR.out.1
          have gx := hH3.six (i := kp + 1) (by omega)
          have gy := hH3.six (i := kp) (by omega)
          have sp := hH3.soft (i := kp + 1) (by omega)
          have sq := hH3.soft (i := kp) (by omega)
          obtain ⟨x, hx⟩ : ∃ x, x = dk[kp + 1]! := ⟨_, rfl⟩
          obtain ⟨y, hy⟩ : ∃ y, y = dk[kp]! := ⟨_, rfl⟩
          rw [← hx] at gx
          rw [← hy] at gy
          have HX := Lib.hid hx
          have HY := Lib.hid hy
          have HSZ := Lib.hid hsz2
          obtain ⟨x0, x1, x2, x3, x4, x5⟩ := gx
          obtain ⟨y0, y1, y2, y3, y4, y5⟩ := gy
          obtain ⟨p0, p1, p2, p3, p4, p5⟩ := sp
          obtain ⟨q0, q1, q2, q3, q4, q5⟩ := sq
          clear hx hy hH3 hsz2
          have e0 : ((kp : Int) + 1).toNat = kp + 1 := by omega
          go_wp2_with fail
          go_region
          go_wp2
          go_roundw
          case rel =>
            refine ⟨kp, Go.Sort.swp dk (kp + 1) kp, by go_num, by omega, by omega, ?_, hS2.out.exch6 hb (by rw [HSZ.out]; omega) (by rw [HSZ.out]; omega) HX.out HY.out⟩
            have := rot_down (k := kp + 1) (by omega) hkm (by rw [HL.out]; omega) hR.out
            rwa [Nat.add_sub_cancel] at this
          case measure => first | (simp [intOf]; done) | (simp [intOf]; omega)
        · obtain rfl : i = k := by omega
          have hltz2 : ¬ (i : Int) < (i : Int) := by omega
          go_wp2_with fail
          go_end0
          have hmb := HMB.out
          subst hmb
          have hs : m + 1 ≤ d.size := by rw [HL.out]; exact hbs
          have hk : ∀ x y, i ≤ x → x < m → m ≤ y → y < m + 1 → klt d[y]! d[x]! := fun x y p q r u => by
            obtain rfl : y = m := by omega
            exact hB.out x p q
          have hH := half_of_rot hR.out hkm (by omega) hi (Nat.le_refl _) hs Q1.out (fun s t p q r => by omega) hk (fun x y p q r u => by omega)
          refine ⟨rfl, dk, merge_fin ((hR.out.out hkm (by omega)).wide hi (Nat.le_refl _)) (hR.out.same hkm (by omega) hi (Nat.le_refl _) hs hk) hH (by omega) (by omega) hs (Mg.of_srt ?_) (Mg.of_srt (srt_triv (Or.inr rfl) hH.p3 hH.p4)), hS2.out⟩
          refine SrtIn.join hH.p1 hH.p2 (fun s t p q r u => ?_)
          have ht' : t = i := by omega
          subst ht'
          rw [hR.out.2 t (by omega), if_pos (by omega), hR.out.2 s (by omega), if_neg (by omega), if_neg (by omega), show t + (m - t) = m by omega]
          exact hA.out s p q
end Go.Proofs.Ytllmiaonlofeeaa
