/-
  The layer's fixed answers (awake), and the bound on lists (Few). No conditions beyond what each theorem states.
-/
import Derived.Test.YtllmiaonlofeeaaKo
import Derived.Laws.StructEq
namespace Go.Proofs.Ytllmiaonlofeeaa
open Go.RowKit Go.Sort

set_option maxRecDepth 100000 in
set_option maxHeartbeats 2000000 in
theorem c_awake3 (w : World) : Calls Try.prog 13 #[] w fun e w' => e = .returned (.bool true) ∧ Bw w w' := by
  have e1 : keyCmp 3 1 3 2 = -1 := by decide
  have e2 : keyCmp 4 0 3 9 = 1 := by decide
  have e3 : sumU (gu [5, 2] 2) 1 = 6 := by decide
  have e4 : sumU (gu [] 0) 1 = 1 := by decide
  have e5 : (gk [] 0).fst = 0 := rfl
  have e6 : (gk [] 0).snd = 0 := rfl
  go_enter Try.func13, Try.ntmps13
  go_wp2_with fail
  refine (c_Compare _ _ _ _ _).mono ?_
  rintro e w1 ⟨rfl, hg1⟩
  have B1 : Hid (Bw w w1) := hg1.bw
  clear hg1
  go_wp2_with fail
  refine (c_Confs _ _ _ _ _).mono ?_
  rintro e w2 ⟨rfl, hg2⟩
  have B2 : Hid (Bw w w2) := B1.out.trans hg2.bw
  clear hg2 B1
  go_wp2_with fail
  refine (c_Above _ [5, 2] _ (Or.inr ⟨_, 0, 2, rfl, lt_blk (heap_alloc_new _ _), fun i hi => by rw [cell_blk (heap_alloc_new _ _)]; match i, hi with | 0, _ => rfl | 1, _ => rfl⟩) (by decide) (by decide) (by decide)).mono ?_
  rintro e w3 ⟨rfl, rfl⟩
  have B3 := Lib.hid (B2.out.trans (Bw.alloc w2 (.cells #[.int .u64 5, .int .u64 2] 27)))
  clear B2
  go_wp2_with fail
  refine (c_Above _ [] _ (Or.inl ⟨_, _, rfl, rfl⟩) (by decide) (by decide) (by decide)).mono ?_
  rintro e w4 ⟨rfl, rfl⟩
  go_wp2_with fail
  refine (c_Last _ [] _ (Or.inl ⟨_, _, rfl, rfl⟩) (by decide)).mono ?_
  rintro e w5 ⟨rfl, hb5⟩
  have B5 := Lib.hid (B3.out.trans hb5)
  clear B3 hb5
  go_wp2_with fail
  refine (c_Sort _ [⟨0, 0, 2, 0, none, 0, 0, ⟨#[]⟩⟩, ⟨0, 0, 1, 0, none, 0, 0, ⟨#[]⟩⟩] _ (Or.inr (Or.inr ⟨_, 0, 2, rfl, lt_blk (heap_alloc_new _ _), fun j u hu => by rw [cell_blk (heap_alloc_new _ _), Nat.zero_add]; simpa [flatM, encM] using hu⟩)) (by decide)).mono ?_
  rintro e w6 ⟨v6, rfl, ho6, hb6⟩
  obtain ⟨a6, c6, rfl⟩ := ho6.at.form
  have B6 := Lib.hid ((B5.out.trans (Bw.alloc _ _)).trans hb6)
  clear B5 hb6 ho6
  have e7 : (ssort [⟨0, 0, 2, 0, none, 0, 0, ⟨#[]⟩⟩, ⟨0, 0, 1, 0, none, 0, 0, ⟨#[]⟩⟩]).length = 2 := ssort_length _
  rw [e7]
  clear e7
  go_wp2
  go_ret
  exact ⟨rfl, B6.out⟩


def FewP (w : World) (n : Nat) (e : Ending) (w' : World) : Prop := ∃ b : Bool, e = .returned (.bool b) ∧ (b = true → n ≤ 300) ∧ Bw w w'

set_option maxRecDepth 100000 in
set_option maxHeartbeats 1000000 in
theorem c_Few3 (v : Value) (l : List Msg) (w : World) (h : MAt w v l) (hn : l.length ≤ 4611686018427387904) (hd : ∀ x ∈ l, x.dl ≤ 9223372036854775807 ∧ x.pay.size ≤ 9223372036854775807) :
    Calls Try.prog 14 #[v] w (FewP w l.length) := by
  have mixed : Try.prog.follows .mixedOrders = true := by kernel_rfl
  obtain ⟨a, cap, rfl⟩ := h.form
  have HM1 := Lib.hid h
  have HD := Lib.hid hd
  have HN := Lib.hid hn
  clear h hd hn
  go_enter Try.func14, Try.ntmps14
  go_wp2_with fail
  go_loopw [3, 4] (fun vn vi wr => ∃ (n : Int) (i : Nat), vn = .int .i64 n ∧ vi = .int .i64 i ∧ i ≤ l.length ∧ i ≤ 300 ∧ 0 ≤ n ∧ n ≤ 20000 ∧ Hid (Bw w wr)) (fun _ vi _ => l.length - (intOf vi).toNat)
  case atStart => exact ⟨0, 0, rfl, rfl, by omega, by omega, by omega, by omega, Bw.refl _⟩
  case round =>
    obtain ⟨n, i, rfl, rfl, hi, hi3, hn0, hn1, hB⟩ := hrel
    by_cases hlt : i < l.length
    · have hltz : (i : Int) < (l.length : Int) := by omega
      have m1 := HM1.out.bw hB.out
      obtain ⟨b, o, c1, q1⟩ := m1.nil (by omega)
      simp only [Value.slice.injEq, true_and] at q1
      obtain ⟨rfl, rfl⟩ := q1
      have gx := (m1.six (by omega)).2.2 i hlt
      obtain ⟨x, hx⟩ : ∃ x, x = l[i]! := ⟨_, rfl⟩
      rw [← hx] at gx
      obtain ⟨x0, x1, x2, x3, x4, x5⟩ := gx
      clear x0 x1 x2 x3 hx m1
      have hpn : Int.ofNat x.pay.size = (x.pay.size : Int) := rfl
      go_wp2_with fail
      go_quiet (fail)
      go_wp2_with fail
      · go_ret
        exact ⟨false, rfl, (fun h => by cases h), hB.out.trans (Bw.drewN _ _)⟩
      · go_roundw
        case rel => exact ⟨_, i + 1, rfl, by go_num, by omega, by omega, by omega, by omega, hB.out.trans (Bw.drewN _ _)⟩
        case measure => first | (simp [intOf]; done) | (simp [intOf]; omega)
      · go_ret
        exact ⟨false, rfl, (fun h => by cases h), hB.out.trans (Bw.drewN _ _)⟩
    · obtain rfl : i = l.length := by omega
      go_wp2
      go_ret
      exact ⟨true, rfl, fun _ => hi3, hB.out⟩
end Go.Proofs.Ytllmiaonlofeeaa
