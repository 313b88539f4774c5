/-
  Few of messages and of acts: what it bounds. No conditions beyond what each theorem states.
-/
import Derived.Test.YtllmiaonlofeeaaHh
namespace Go.Proofs.Ytllmiaonlofeeaa
open Go.RowKit Go.Sort

def FewD (w : World) (l : List Msg) (e : Ending) (w' : World) : Prop := ∃ b : Bool, e = .returned (.bool b) ∧ (b = true → l.length ≤ 300 ∧ ∀ x ∈ l, x.dl ≤ 1000000) ∧ Bw w w'

set_option maxRecDepth 100000 in
set_option maxHeartbeats 1000000 in
theorem c_FewD (v : Value) (l : List Msg) (w : World) (h : MAt w v l) (hn : l.length ≤ 4611686018427387904) (hd : ∀ x ∈ l, x.dl ≤ 9223372036854775807 ∧ x.pay.size ≤ 9223372036854775807) :
    Calls Try.prog 14 #[v] w (FewD w l) := by
  have mixed : Try.prog.follows .mixedOrders = true := by kernel_rfl
  obtain ⟨a, cap, rfl⟩ := h.form
  have HM1 := Lib.hid h
  have HD := Lib.hid hd
  have HN := Lib.hid hn
  clear h hd hn
  go_enter Try.func14, Try.ntmps14
  go_wp2_with fail
  go_loopw [3, 4] (fun vn vi wr => ∃ (n : Int) (i : Nat), vn = .int .i64 n ∧ vi = .int .i64 i ∧ i ≤ l.length ∧ i ≤ 300 ∧ 0 ≤ n ∧ n ≤ 20000 ∧ Hid (Bw w wr) ∧ Hid (∀ j, j < i → (l[j]!).dl ≤ 20000)) (fun _ vi _ => l.length - (intOf vi).toNat)
  case atStart => exact ⟨0, 0, rfl, rfl, by omega, by omega, by omega, by omega, Bw.refl _, fun j hj => by omega⟩
  case round =>
    obtain ⟨n, i, rfl, rfl, hi, hi3, hn0, hn1, hB, hQ⟩ := hrel
    by_cases hlt : i < l.length
    · have hltz : (i : Int) < (l.length : Int) := by omega
      have m1 := HM1.out.bw hB.out
      obtain ⟨b, o, c1, q1⟩ := m1.nil (by omega)
      simp only [Value.slice.injEq, true_and] at q1
      obtain ⟨rfl, rfl⟩ := q1
      have gx := (m1.six (by omega)).2.2 i hlt
      obtain ⟨x, hx⟩ : ∃ x, x = l[i]! := ⟨_, rfl⟩
      rw [← hx] at gx
      obtain ⟨x0, x1, x2, x3, x4, x5⟩ := gx
      have HXX := Lib.hid hx
      clear x0 x1 x2 x3 hx m1
      have hpn : Int.ofNat x.pay.size = (x.pay.size : Int) := rfl
      go_wp2_with fail
      go_quiet (fail)
      go_wp2_with fail
      · go_ret
        exact ⟨false, rfl, (fun h => by cases h), hB.out.trans (Bw.drewN _ _)⟩
      · go_roundw
        case rel =>
          refine ⟨_, i + 1, rfl, by go_num, by omega, by omega, by omega, by omega, hB.out.trans (Bw.drewN _ _), fun j hj => ?_⟩
          by_cases e : j = i
          · subst e; rw [← HXX.out]; omega
          · exact hQ.out j (by omega)
        case measure => first | (simp [intOf]; done) | (simp [intOf]; omega)
      · go_ret
        exact ⟨false, rfl, (fun h => by cases h), hB.out.trans (Bw.drewN _ _)⟩
    · obtain rfl : i = l.length := by omega
      go_wp2
      go_ret
      refine ⟨true, rfl, fun _ => ⟨hi3, fun x hx => ?_⟩, hB.out⟩
      obtain ⟨j, hj, rfl⟩ := List.mem_iff_getElem.1 hx
      have := hQ.out j hj
      rw [getElem!_pos l j hj] at this
      omega
end Go.Proofs.Ytllmiaonlofeeaa
