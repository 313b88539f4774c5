/-
  rotateCmpFunc and insertionSortCmpFunc at messages. No conditions beyond what each theorem states.
-/
import Derived.Test.YtllmiaonlofeeaaPt
namespace Go.Proofs.Ytllmiaonlofeeaa
open Go.RowKit Go.Sort

/-- What a step of the sort leaves: the row holds some d' now, which is to d as said. -/
def Left (R : Array Msg → Prop) (w : World) (blk off : Nat) (e : Ending) (w' : World) : Prop := e = .returned (.tuple #[]) ∧ ∃ d', R d' ∧ SW w blk off d' w'

theorem c_rotate (blk off cap a m b : Nat) (d : Array Msg) (c : Value) (w : World) (hH : HM w blk off d) (hb : blk < w.heap.size)
    (ha : a < m) (hm : m < b) (hbs : b ≤ d.size) (hsz : d.size ≤ 1000000000000) :
    Calls Try.prog 72 #[.slice (some ⟨blk, off, none⟩) d.size cap, .int .i64 a, .int .i64 m, .int .i64 b, c] w (Left (fun d' => Rot d d' a m b) w blk off) := by
  have HH := Lib.hid hH
  clear hH
  go_enter Try.func72, Try.ntmps72
  go_wp2
  go_loopw [10, 11] (fun vi vj wr => ∃ (i j : Nat) (dk : Array Msg), vi = .int .i64 i ∧ vj = .int .i64 j ∧ 0 < i ∧ 0 < j ∧ i ≤ m - a ∧ j ≤ b - m ∧ Hid (dk.size = d.size) ∧ Hid (SW w blk off dk wr) ∧ Hid (∀ d', Rot dk d' (m - i) m (m + j) → Rot d d' a m b)) (fun vi vj _ => (intOf vi).toNat + (intOf vj).toNat)
  case atStart => exact ⟨m - a, b - m, d, by go_num, by go_num, by omega, by omega, by omega, by omega, rfl, SW.refl HH.out, by
    intro d' h; rwa [show m - (m - a) = a by omega, show m + (b - m) = b by omega] at h⟩
  case round =>
    obtain ⟨i, j, dk, rfl, rfl, hi, hj, hia, hjb, hs, hS, hR⟩ := hrel
    have hH2 : HM wr blk off dk := hS.out.holds HH.out hb hs.out
    have hb2 : blk < wr.heap.size := Nat.lt_of_lt_of_le hb hS.out.size
    have hs2 := hs.out
    have HS2 := Lib.hid hs2
    have HH2 := Lib.hid hH2
    clear hs2 hH2
    by_cases hne : i = j
    · subst hne
      have hbq : ((i : Int) != (i : Int)) = false := by simp
      go_wp2_with fail
      refine (c_swapRange' blk off cap _ _ _ _ (m - i) m i dk c wr (by omega) rfl rfl HS2.out HH2.out hb2 (by omega) (by omega) (by omega) hsz).mono ?_
      rintro e w' ⟨rfl, hS'⟩
      have HS' := Lib.hid hS'
      clear hS'
      go_wp2_with fail
      go_end0
      exact ⟨rfl, _, hR.out _ (rot_eq (by omega) (by rw [HS2.out]; omega)), hS.out.trans HS'.out hb (sr_size _ _ _ _)⟩
    · have hbq : ((i : Int) != (j : Int)) = true := by simpa using (by omega : (i : Int) ≠ j)
      by_cases hlt : j < i
      · have hltz : (j : Int) < (i : Int) := by omega
        go_wp2_with fail
        refine (c_swapRange' blk off cap _ _ _ _ (m - i) m j dk c wr (by omega) rfl rfl HS2.out HH2.out hb2 (by omega) (by omega) (by omega) hsz).mono ?_
        rintro e w' ⟨rfl, hS'⟩
        have HS' := Lib.hid hS'
        clear hS'
        go_wp2_with fail
        go_roundw
        case rel => exact ⟨i - j, j, sr dk (m - i) m j, by go_num, rfl, by omega, by omega, by omega, by omega, (sr_size _ _ _ _).trans HS2.out, hS.out.trans HS'.out hb (sr_size _ _ _ _), fun d' h => hR.out d' (rot_gt (by omega) hlt (by rw [HS2.out]; omega) h)⟩
        case measure => simp [intOf]; omega
      · have hltz : ¬ (j : Int) < (i : Int) := by omega
        go_wp2_with fail
        refine (c_swapRange' blk off cap _ _ _ _ (m - i) (m + j - i) i dk c wr (by omega) (by omega) rfl HS2.out HH2.out hb2 (by omega) (by omega) (by omega) hsz).mono ?_
        rintro e w' ⟨rfl, hS'⟩
        have HS' := Lib.hid hS'
        clear hS'
        go_wp2_with fail
        go_roundw
        case rel => exact ⟨i, j - i, sr dk (m - i) (m + j - i) i, rfl, by go_num, by omega, by omega, by omega, by omega, (sr_size _ _ _ _).trans HS2.out, hS.out.trans HS'.out hb (sr_size _ _ _ _), fun d' h => hR.out d' (rot_lt (by omega) (by omega) (by rw [HS2.out]; omega) h)⟩
        case measure => simp [intOf]; omega

end Go.Proofs.Ytllmiaonlofeeaa
