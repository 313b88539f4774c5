/-
  stableCmpFunc and SortStableFunc at messages: the row holds what it held, sorted as the document says. No conditions beyond what each theorem states.
-/
import Derived.Test.YtllmiaonlofeeaaKh
import Derived.Test.YtllmiaonlofeeaaPu
namespace Go.Proofs.Ytllmiaonlofeeaa
open Go.RowKit Go.Sort

set_option maxHeartbeats 2000000 in
theorem c_stable (blk off cap len : Nat) (d : Array Msg) (w : World) (hl : d.size = len) (hH : HM w blk off d) (hb : blk < w.heap.size) (hsz : len ≤ 1000000000000) :
    Calls Try.prog 66 #[.slice (some ⟨blk, off, none⟩) len cap, .int .i64 len, cmpV] w (Left (fun d' => Mg d d' 0 len) w blk off) := by
  have HH := Lib.hid hH
  have HL := Lib.hid hl
  clear hH hl
  go_enter Try.func66, Try.ntmps66
  go_wp2_with fail
  go_loopw [7, 8] (fun va vb wr => ∃ (a : Nat) (dk : Array Msg), va = .int .i64 a ∧ vb = .int .i64 ((a : Int) + 20) ∧ a ≤ len ∧ Hid (Run dk 20 a) ∧ Hid (dk.size = d.size) ∧ Hid (Same (seg dk 0 len) (seg d 0 len)) ∧ Hid (SW w blk off dk wr)) (fun va _ _ => len - (intOf va).toNat)
  case atStart => exact ⟨0, d, rfl, by go_num, by omega, ⟨⟨0, by simp⟩, fun q h => by omega⟩, rfl, Same.refl _, SW.refl HH.out⟩
  case round =>
    obtain ⟨a, dk, rfl, rfl, ha, hR, hs, hSm, hS⟩ := hrel
    have hb2 : blk < wr.heap.size := Nat.lt_of_lt_of_le hb hS.out.size
    have HL2 : Hid (dk.size = len) := hs.out.trans HL.out
    by_cases hlt : a + 20 ≤ len
    · have hltz : (a : Int) + 20 ≤ (len : Int) := by omega
      go_wp2_with fail
      refine (c_insertion blk off cap len _ _ a (a + 20) dk wr rfl (by omega) HL2.out (hS.out.holds HH.out hb hs.out) hb2 (by omega) hlt hsz).mono ?_
      rintro e w1 ⟨rfl, d1, hg, hs1⟩
      have HG := Lib.hid hg
      have HS1 : Hid (SW w blk off d1 w1) := hS.out.trans hs1 hb hg.out.1
      clear hg hs1
      go_wp2_with fail
      go_roundw
      case rel => exact ⟨a + 20, d1, by go_num, by go_num, by omega, hR.out.step HG.out (by rw [HL2.out]; exact hlt), HG.out.out.1.trans hs.out, (HG.out.whole (by omega) hlt (by rw [HL2.out]; exact Nat.le_refl _)).trans hSm.out, HS1.out⟩
      case measure => first | (simp [intOf]; done) | (simp [intOf]; omega)
    · have hltz : ¬ (a : Int) + 20 ≤ (len : Int) := by omega
      go_wp2_with fail
      refine (c_insertion blk off cap len _ _ a len dk wr rfl rfl HL2.out (hS.out.holds HH.out hb hs.out) hb2 ha (Nat.le_refl _) hsz).mono ?_
      rintro e w1 ⟨rfl, d1, hg, hs1⟩
      have HB : Hid (Blk d1 20 len) := hR.out.last hg ha (by omega) (by rw [HL2.out]; exact Nat.le_refl _)
      have HSm1 : Hid (Same (seg d1 0 len) (seg d 0 len)) := (hg.whole ha (Nat.le_refl _) (by rw [HL2.out]; exact Nat.le_refl _)).trans hSm.out
      have HZ1 : Hid (d1.size = d.size) := hg.out.1.trans hs.out
      have HS1 : Hid (SW w blk off d1 w1) := hS.out.trans hs1 hb hg.out.1
      clear hg hs1
      go_wp2_with fail
      go_loopw [6] (fun vk wr2 => ∃ (k : Nat) (d2 : Array Msg), vk = .int .i64 k ∧ 0 < k ∧ k ≤ len + len + 20 ∧ Hid (Blk d2 k len) ∧ Hid (d2.size = d.size) ∧ Hid (Same (seg d2 0 len) (seg d 0 len)) ∧ Hid (SW w blk off d2 wr2)) (fun vk _ => len - (intOf vk).toNat)
      case atStart => exact ⟨20, d1, rfl, by omega, by omega, HB.out, HZ1.out, HSm1.out, HS1.out⟩
      case round =>
        obtain ⟨k, d2, rfl, hk, hkl, hB2, hs2, hSm2, hS2⟩ := hrel
        by_cases hlt2 : k < len
        · have hltz2 : (k : Int) < (len : Int) := by omega
          go_wp2_with fail
          go_loopw [7, 8] (fun va vb wr3 => ∃ (a : Nat) (d3 : Array Msg), va = .int .i64 a ∧ vb = .int .i64 ((a : Int) + 2 * (k : Int)) ∧ a ≤ len ∧ Hid (Mer d3 k len a) ∧ Hid (d3.size = d.size) ∧ Hid (Same (seg d3 0 len) (seg d 0 len)) ∧ Hid (SW w blk off d3 wr3)) (fun va _ _ => len - (intOf va).toNat)
          case atStart => exact ⟨0, d2, rfl, by go_num, by omega, Mer.start hk hB2.out, hs2.out, hSm2.out, hS2.out⟩
          case round =>
            obtain ⟨a2, d3, rfl, rfl, ha2, hM, hs3, hSm3, hS3⟩ := hrel
            have hb3 : blk < wr.heap.size := Nat.lt_of_lt_of_le hb hS3.out.size
            have HL3 : Hid (d3.size = len) := hs3.out.trans HL.out
            by_cases hlt3 : a2 + 2 * k ≤ len
            · have hltz3 : (a2 : Int) + 2 * (k : Int) ≤ (len : Int) := by omega
              go_wp2_with fail
              refine (c_symMerge blk off cap len _ _ _ a2 (a2 + k) (a2 + 2 * k) d3 wr rfl (by omega) (by omega) HL3.out (hS3.out.holds HH.out hb hs3.out) hb3 (by omega) (by omega) hlt3 hsz (by have := hM.out.one; rwa [Nat.min_eq_left (by omega)] at this) (by have := hM.out.two; rwa [Nat.min_eq_left (by omega), show a2 + k + k = a2 + 2 * k by omega] at this)).mono ?_
              rintro e w4 ⟨rfl, d4, hg, hs4⟩
              have HG := Lib.hid hg
              have HS4 : Hid (SW w blk off d4 w4) := hS3.out.trans hs4 hb hg.out.1
              clear hg hs4
              go_wp2_with fail
              go_roundw
              case rel => exact ⟨a2 + 2 * k, d4, by go_num, by go_num, by omega, hM.out.step HG.out hlt3 (by rw [HL3.out]; exact Nat.le_refl _), HG.out.out.1.trans hs3.out, (HG.out.whole (by omega) hlt3 (by rw [HL3.out]; exact Nat.le_refl _)).trans hSm3.out, HS4.out⟩
              case measure => first | (simp [intOf]; done) | (simp [intOf]; omega)
            · have hltz3 : ¬ (a2 : Int) + 2 * (k : Int) ≤ (len : Int) := by omega
              by_cases hm : a2 + k < len
              · have hmz : (a2 : Int) + (k : Int) < (len : Int) := by omega
                go_wp2_with fail
                refine (c_symMerge blk off cap len _ _ _ a2 (a2 + k) len d3 wr rfl (by omega) rfl HL3.out (hS3.out.holds HH.out hb hs3.out) hb3 (by omega) hm (Nat.le_refl _) hsz (by have := hM.out.one; rwa [Nat.min_eq_left (by omega)] at this) (by have := hM.out.two; rwa [Nat.min_eq_right (by omega)] at this)).mono ?_
                rintro e w4 ⟨rfl, d4, hg, hs4⟩
                have HG := Lib.hid hg
                have HS4 : Hid (SW w blk off d4 w4) := hS3.out.trans hs4 hb hg.out.1
                clear hg hs4
                go_wp2_with fail
                go_roundw
                case rel => exact ⟨k * 2, d4, by go_num, by omega, by omega, by have := hM.out.fin HG.out (by omega) (by omega) (by rw [HL3.out]; exact Nat.le_refl _); rwa [Nat.mul_comm] at this, HG.out.out.1.trans hs3.out, (HG.out.whole (by omega) (Nat.le_refl _) (by rw [HL3.out]; exact Nat.le_refl _)).trans hSm3.out, HS4.out⟩
                case measure => first | (simp [intOf]; done) | (simp [intOf]; omega)
              · have hmz : ¬ (a2 : Int) + (k : Int) < (len : Int) := by omega
                go_wp2_with fail
                go_roundw
                case rel => exact ⟨k * 2, d3, by go_num, by omega, by omega, by have := hM.out.fin (Mg.of_srt (by have := hM.out.one; rwa [Nat.min_eq_right (by omega)] at this)) ha2 (by omega) (by rw [HL3.out]; exact Nat.le_refl _); rwa [Nat.mul_comm] at this, hs3.out, hSm3.out, hS3.out⟩
                case measure => first | (simp [intOf]; done) | (simp [intOf]; omega)
        · have hltz2 : ¬ (k : Int) < (len : Int) := by omega
          go_wp2_with fail
          go_end0
          exact ⟨rfl, d2, ⟨⟨hs2.out, fun t ht hh => by have := HL.out; omega⟩, hB2.out.all (by omega), hSm2.out⟩, hS2.out⟩

theorem c_SortStable (blk off cap len : Nat) (d : Array Msg) (w : World) (hl : d.size = len) (hH : HM w blk off d) (hb : blk < w.heap.size) (hsz : len ≤ 1000000000000) :
    Calls Try.prog 53 #[.slice (some ⟨blk, off, none⟩) len cap, cmpV] w (Left (fun d' => d'.toList = ssort d.toList) w blk off) := by
  have HC := Lib.hid (c_stable blk off cap len d w hl hH hb hsz)
  have HL := Lib.hid hl
  clear hl hH
  go_enter Try.func53, Try.ntmps53
  go_wp2_with fail
  refine HC.out.mono ?_
  rintro e w1 ⟨rfl, d1, hg, hs⟩
  have HG := Lib.hid hg
  have HS := Lib.hid hs
  clear hg hs
  go_wp2_with fail
  go_end0
  exact ⟨rfl, d1, ssort_of_mg (by rw [HL.out]; exact HG.out), HS.out⟩

end Go.Proofs.Ytllmiaonlofeeaa
