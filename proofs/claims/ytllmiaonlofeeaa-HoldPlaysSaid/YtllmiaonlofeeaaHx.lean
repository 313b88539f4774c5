/-
  The reference's hold: Count. No conditions beyond what each theorem states.
-/
import Derived.Test.YtllmiaonlofeeaaHw
namespace Go.Proofs.Ytllmiaonlofeeaa
open Go.RowKit Go.Sort

/-- The messages of a process, among all. -/
def ofP (LA : List DM) (p : Int) : List DM := LA.filter fun D => decide (D.frm = p)
theorem ofP_step {LA : List DM} {i : Nat} (h : i < LA.length) (p : Int) : ofP (LA.take (i + 1)) p = ofP (LA.take i) p ++ if LA[i]!.frm = p then [LA[i]!] else [] := by
  unfold ofP
  rw [List.take_succ_eq_append_getElem h, List.filter_append, getElem!_pos LA i h]
  congr 1
  by_cases e : LA[i].frm = p <;> simp [e]
theorem ofP_len (LA : List DM) (p : Int) : (ofP LA p).length ≤ LA.length := List.length_filter_le _ _

set_option maxRecDepth 100000 in
set_option maxHeartbeats 2000000 in
theorem c_rhCount (va : Value) (la : List Msg) (LA : List DM) (low : Nat → Int) (p : Int) (w : World) (h : MAt w va la) (hD : DL w la LA) (hn : la.length ≤ 1000000) :
    Calls Try.prog 41 #[.agg (refCells va low), .int .i64 p] w fun e w' => e = .returned (.int .u32 ((ofP LA p).length : Int)) ∧ Gr w w' := by
  obtain ⟨a, cap, rfl⟩ := h.form
  obtain ⟨wb, hwb⟩ : ∃ wb, wb = w.alloc (.cells (refCells (.slice a la.length cap) low) 59) := ⟨_, rfl⟩
  have hBb : Gr w wb := hwb ▸ Gr.alloc _ _
  have hnb : RefBlk wb w.heap.size (.slice a la.length cap) low := hwb ▸ heap_alloc_new _ _
  have HW := Lib.hid hwb
  have HB := Lib.hid hBb
  have HN := Lib.hid hnb
  have HM := Lib.hid h
  have HD := Lib.hid hD
  have hzb : w.heap.size < wb.heap.size := lt_blk hnb
  clear h hD hwb hBb hnb
  go_enter Try.func41, Try.ntmps41
  go_upto_region 1 with fail
  rw [← HW.out]
  go_wp2_with fail
  go_loopw [5, 6] (fun vn vi wr => ∃ (m i : Nat), vn = .int .u32 m ∧ vi = .int .i64 i ∧ i ≤ la.length ∧ Hid (m = (ofP (LA.take i) p).length) ∧ Hid (Gr wb wr)) (fun _ vi _ => la.length - (intOf vi).toNat)
  case atStart => exact ⟨0, 0, rfl, rfl, by omega, (show 0 = _ by simp [ofP]), Gr.refl _⟩
  case round =>
    obtain ⟨m, i, rfl, rfl, hi, hm, hB⟩ := hrel
    have c0 : wr.cell? ⟨w.heap.size, 0, none⟩ = some (.slice a la.length cap) := by rw [cell_blk (hB.out.bw.blk HN.out)]; rfl
    by_cases hlt : i < la.length
    · have hltz : (i : Int) < (la.length : Int) := by omega
      have m1 := HM.out.bw (HB.out.trans hB.out).bw
      obtain ⟨bl, of, c1, q1⟩ := m1.nil (by omega)
      simp only [Value.slice.injEq, true_and] at q1
      obtain ⟨rfl, rfl⟩ := q1
      have gx := (m1.six (by omega)).2.2 i hlt
      have rx := (HD.out.2 i hlt).frm
      have hst := ofP_step (LA := LA) (i := i) (by rw [← HD.out.1]; exact hlt) p
      rw [← rx] at hst
      have hmb : m ≤ 1000000 := by
        rw [hm.out]
        have h1 := ofP_len (LA.take i) p
        rw [List.length_take] at h1
        have h2 := HD.out.1
        omega
      obtain ⟨x, hx⟩ : ∃ x, x = la[i]! := ⟨_, rfl⟩
      rw [← hx] at gx hst
      have HST := Lib.hid hst
      obtain ⟨x0, x1, x2, x3, x4, x5⟩ := gx
      clear hx m1 rx hst x1 x2 x3 x4 x5
      have e1 : IntKind.u32.wrap ((m : Int) + 1) = (m : Int) + 1 := by rw [IntKind.wrap_u32]; omega
      by_cases hp : x.frm = p
      · have HP := Lib.hid hp
        have hpb : (x.frm == p) = true := by simpa using hp
        clear hp
        go_wp2_with fail
        go_roundw
        case rel =>
          refine ⟨m + 1, i + 1, by go_num, by go_num, by omega, (show _ = _ from ?_), hB.out⟩
          rw [HST.out, if_pos HP.out, List.length_append, ← hm.out]; rfl
        case measure => first | (simp [intOf]; done) | (simp [intOf]; omega)
      · have HP := Lib.hid hp
        have hpb : (x.frm == p) = false := by simpa using hp
        clear hp
        go_wp2_with fail
        go_roundw
        case rel =>
          refine ⟨m, i + 1, rfl, by go_num, by omega, (show _ = _ from ?_), hB.out⟩
          rw [HST.out, if_neg HP.out, List.append_nil, ← hm.out]
        case measure => first | (simp [intOf]; done) | (simp [intOf]; omega)
    · obtain rfl : i = la.length := by omega
      have hm2 : m = (ofP LA p).length := by rw [hm.out, HD.out.1, List.take_length]
      have HM2 := Lib.hid hm2
      clear hm2
      go_wp2
      go_ret
      exact ⟨ret_int (by rw [HM2.out]), HB.out.trans hB.out⟩
end Go.Proofs.Ytllmiaonlofeeaa
