/-
  The reference's hold: Get. No conditions beyond what each theorem states.
-/
import Derived.Test.YtllmiaonlofeeaaHx
namespace Go.Proofs.Ytllmiaonlofeeaa
open Go.RowKit Go.Sort

def isAt (low : Nat → Int) (p seq : Int) (D : DM) : Bool := decide (D.frm = p ∧ D.seq = seq ∧ low p.toNat < seq)
def refGet (LA : List DM) (low : Nat → Int) (p seq : Int) : Option DM := LA.find? (isAt low p seq)
theorem find_take {LA : List DM} {f : DM → Bool} : ∀ {i : Nat}, i < LA.length → (∀ j, j < i → f LA[j]! = false) → f LA[i]! = true → LA.find? f = some LA[i]! := by
  intro i hi hn hy
  rw [List.find?_eq_some_iff_getElem]
  rw [getElem!_pos LA i hi] at hy ⊢
  refine ⟨hy, i, hi, rfl, fun j hj => ?_⟩
  have := hn j hj
  rw [getElem!_pos LA j (by omega)] at this
  simp [this]
theorem find_none {LA : List DM} {f : DM → Bool} (hn : ∀ j, j < LA.length → f LA[j]! = false) : LA.find? f = none := by
  rw [List.find?_eq_none]
  intro x hx
  obtain ⟨j, hj, rfl⟩ := List.mem_iff_getElem.1 hx
  have := hn j hj
  rw [getElem!_pos LA j hj] at this
  simp [this]

set_option maxRecDepth 100000 in
set_option maxHeartbeats 2000000 in
theorem c_rhGet (va : Value) (la : List Msg) (LA : List DM) (low : Nat → Int) (p seq : Int) (w : World) (h : MAt w va la) (hD : DL w la LA) (hn : la.length ≤ 1000000) (hP : ∀ D ∈ LA, InP D.frm) (hd : ∀ x ∈ la, x.dl ≤ 1000000) :
    Calls Try.prog 39 #[.agg (refCells va low), .int .i64 p, .int .u32 seq] w fun e w' =>
      ∃ x ok, e = .returned (.tuple #[msgV x, .bool ok]) ∧ ok = (refGet LA low p seq).isSome ∧ Reads w' x ((refGet LA low p seq).getD zeroD) ∧ x.dl ≤ 1000000 ∧ Bw w w' ∧ ∀ w0, DL w0 la LA → Reads w0 x ((refGet LA low p seq).getD zeroD) := by
  obtain ⟨a, cap, rfl⟩ := h.form
  obtain ⟨wa, hwa⟩ : ∃ wa, wa = w.alloc (.cells (refCells (.slice a la.length cap) low) 59) := ⟨_, rfl⟩
  obtain ⟨wb, hwb⟩ : ∃ wb, wb = wa.alloc (.cells #[.int .i64 0, .int .u32 0, .int .u64 0, .int .i64 0, .slice none 0 0, .string ⟨#[]⟩] 43) := ⟨_, rfl⟩
  have hBa : Bw w wa := hwa ▸ Bw.alloc _ _
  have hza : wa.heap.size = w.heap.size + 1 := by rw [hwa]; simp
  have hBb : Bw wa wb := hwb ▸ Bw.alloc _ _
  have hna : RefBlk wa w.heap.size (.slice a la.length cap) low := hwa ▸ heap_alloc_new _ _
  have hnb : wb.heap[w.heap.size + 1]? = some (.cells #[.int .i64 0, .int .u32 0, .int .u64 0, .int .i64 0, .slice none 0 0, .string ⟨#[]⟩] 43 (0, 0)) := by rw [← hza, hwb]; exact heap_alloc_new _ _
  have hrb : RefBlk wb w.heap.size (.slice a la.length cap) low := hBb.blk hna
  have HWA := Lib.hid hwa
  have HWB := Lib.hid hwb
  have HB := Lib.hid (hBa.trans hBb)
  have HN := Lib.hid hrb
  have HZ := Lib.hid hnb
  have HM := Lib.hid h
  have HD := Lib.hid hD
  have HP := Lib.hid hP
  have HDL := Lib.hid hd
  clear h hD hwa hwb hBa hBb hna hnb hrb hza hP hd
  go_enter Try.func39, Try.ntmps39
  go_upto_region 1 with fail
  rw [← HWA.out, ← HWB.out]
  go_wp2_with fail
  go_loopw [8] (fun vi wr => ∃ i : Nat, vi = .int .i64 i ∧ i ≤ la.length ∧ Hid (∀ j, j < i → isAt low p seq LA[j]! = false) ∧ Hid (Bw wb wr)) (fun vi _ => la.length - (intOf vi).toNat)
  case atStart => exact ⟨0, rfl, by omega, fun j hj => by omega, Bw.refl _⟩
  case round =>
    obtain ⟨i, rfl, hi, hA, hB⟩ := hrel
    have c0 : wr.cell? ⟨w.heap.size, 0, none⟩ = some (.slice a la.length cap) := by rw [cell_blk (hB.out.blk HN.out)]; rfl
    by_cases hlt : i < la.length
    · have hltz : (i : Int) < (la.length : Int) := by omega
      have m1 := HM.out.bw (HB.out.trans hB.out)
      obtain ⟨bl, of, c1, q1⟩ := m1.nil (by omega)
      simp only [Value.slice.injEq, true_and] at q1
      obtain ⟨rfl, rfl⟩ := q1
      have gx := (m1.six (by omega)).2.2 i hlt
      have rx := HD.out.2 i hlt
      have hiA : i < LA.length := by rw [← HD.out.1]; exact hlt
      have dx := HDL.out la[i]! (by rw [getElem!_pos la i hlt]; exact List.getElem_mem hlt)
      have px := HP.out LA[i]! (by rw [getElem!_pos LA i hiA]; exact List.getElem_mem hiA)
      obtain ⟨x, hx⟩ : ∃ x, x = la[i]! := ⟨_, rfl⟩
      rw [← hx] at gx rx dx
      have HXX := Lib.hid hx
      have HLT := Lib.hid hlt
      have RX := Lib.hid rx
      have PX := Lib.hid px
      have HIA := Lib.hid hiA
      obtain ⟨x0, x1, x2, x3, x4, x5⟩ := gx
      have next : isAt low p seq LA[i]! = false → ∀ j, j < i + 1 → isAt low p seq LA[j]! = false := fun h j hj => by
        by_cases e : j = i
        · subst e; exact h
        · exact hA.out j (by omega)
      have NX := Lib.hid next
      clear hx m1 rx px hiA next
      by_cases hp : x.frm = p
      · have HPE := Lib.hid hp
        have hpb : (x.frm == p) = true := by simpa using hp
        clear hp
        by_cases hq : x.seq = seq
        · have HQE := Lib.hid hq
          have hqb : (x.seq == seq) = true := by simpa using hq
          have hpp : InP p := by rw [← HPE.out, RX.out.frm]; exact PX.out
          obtain ⟨pe, pl⟩ := hpp.nat
          have hl0 : 0 ≤ p := hpp.1
          have hl1 : p < 64 := hpp.2
          have cl : wr.cell? ⟨w.heap.size, 1 + p.toNat, none⟩ = some (.int .u32 (low p.toNat)) := by rw [cell_blk (hB.out.blk HN.out)]; exact ref_low pl
          obtain ⟨lo, hlo⟩ : ∃ lo, lo = low p.toNat := ⟨_, rfl⟩
          rw [← hlo] at cl
          have HLO := Lib.hid hlo
          clear hq hlo hpp pe
          by_cases hs : lo < seq
          · have hiz : isAt low p seq LA[i]! = true := by
              unfold isAt
              rw [← RX.out.frm, ← RX.out.seq]
              exact decide_eq_true ⟨HPE.out, HQE.out, by rw [← HLO.out]; exact hs⟩
            have hfd := find_take HIA.out hA.out hiz
            have HFD := Lib.hid hfd
            have z : wr.heap[w.heap.size + 1]? = some (.cells #[.int .i64 0, .int .u32 0, .int .u64 0, .int .i64 0, .slice none 0 0, .string ⟨#[]⟩] 43 (0, 0)) := hB.out.blk HZ.out
            have f0 : wr.frozen? ⟨w.heap.size + 1, 0, none⟩ = false := soft_blk z
            have f1 : wr.frozen? ⟨w.heap.size + 1, 1, none⟩ = false := soft_blk z
            have f2 : wr.frozen? ⟨w.heap.size + 1, 2, none⟩ = false := soft_blk z
            have f3 : wr.frozen? ⟨w.heap.size + 1, 3, none⟩ = false := soft_blk z
            have f4 : wr.frozen? ⟨w.heap.size + 1, 4, none⟩ = false := soft_blk z
            have f5 : wr.frozen? ⟨w.heap.size + 1, 5, none⟩ = false := soft_blk z
            have d0 : wr.cell? ⟨w.heap.size + 1, 0, none⟩ = some (.int .i64 0) := cell_blk z
            have d1 : wr.cell? ⟨w.heap.size + 1, 1, none⟩ = some (.int .u32 0) := cell_blk z
            have d2 : wr.cell? ⟨w.heap.size + 1, 2, none⟩ = some (.int .u64 0) := cell_blk z
            have d3 : wr.cell? ⟨w.heap.size + 1, 3, none⟩ = some (.int .i64 0) := cell_blk z
            have d4 : wr.cell? ⟨w.heap.size + 1, 4, none⟩ = some (.slice none 0 0) := cell_blk z
            have d5 : wr.cell? ⟨w.heap.size + 1, 5, none⟩ = some (.string ⟨#[]⟩) := cell_blk z
            have hz : w.heap.size + 1 < wr.heap.size := lt_blk z
            clear z hiz hfd
            go_wp2_with fail
            have hbw : ∀ u0 u1 u2 u3 u4 u5 : Value, Bw w ((((((wr.setCell ⟨w.heap.size + 1, 0, none⟩ u0).setCell ⟨w.heap.size + 1, 1, none⟩ u1).setCell ⟨w.heap.size + 1, 2, none⟩ u2).setCell ⟨w.heap.size + 1, 3, none⟩ u3).setCell ⟨w.heap.size + 1, 4, none⟩ u4).setCell ⟨w.heap.size + 1, 5, none⟩ u5) := fun u0 u1 u2 u3 u4 u5 =>
              Below.setCell (Below.setCell (Below.setCell (Below.setCell (Below.setCell (Below.setCell (HB.out.trans hB.out) (Nat.le_succ _) _) (Nat.le_succ _) _) (Nat.le_succ _) _) (Nat.le_succ _) _) (Nat.le_succ _) _) (Nat.le_succ _) _
            refine bodyPost_ret (v := .tuple #[msgV x, .bool true]) (by simp [results, Try.results39, go_sem, msgV, *]) rfl ⟨x, true, rfl, ?_, ?_, dx, hbw _ _ _ _ _ _, fun w0 h0 => ?_⟩
            · unfold refGet; rw [HFD.out]; rfl
            · unfold refGet; rw [HFD.out]; exact RX.out.bw (hbw _ _ _ _ _ _)
            · unfold refGet; rw [HFD.out]; have := h0.2 i HLT.out; rw [← HXX.out] at this; exact this
          · have hsd : decide (lo < seq) = false := decide_eq_false hs
            have hs' : seq ≤ lo := by omega
            have HSN := Lib.hid hs
            clear hs
            go_wp2_with fail
            go_roundw
            case rel => exact ⟨i + 1, by go_num, by omega, NX.out (by unfold isAt; exact decide_eq_false fun e => HSN.out (by rw [HLO.out]; exact e.2.2)), hB.out⟩
            case measure => first | (simp [intOf]; done) | (simp [intOf]; omega)
        · have HQE := Lib.hid hq
          have hqb : (x.seq == seq) = false := by simpa using hq
          clear hq
          go_wp2_with fail
          go_roundw
          case rel => exact ⟨i + 1, by go_num, by omega, NX.out (by unfold isAt; exact decide_eq_false fun e => HQE.out (by rw [RX.out.seq]; exact e.2.1)), hB.out⟩
          case measure => first | (simp [intOf]; done) | (simp [intOf]; omega)
      · have HPE := Lib.hid hp
        have hpb : (x.frm == p) = false := by simpa using hp
        clear hp
        go_wp2_with fail
        go_roundw
        case rel => exact ⟨i + 1, by go_num, by omega, NX.out (by unfold isAt; exact decide_eq_false fun e => HPE.out (by rw [RX.out.frm]; exact e.1)), hB.out⟩
        case measure => first | (simp [intOf]; done) | (simp [intOf]; omega)
    · obtain rfl : i = la.length := by omega
      have hfd : refGet LA low p seq = none := find_none fun j hj => hA.out j (by rw [HD.out.1]; exact hj)
      have HFD := Lib.hid hfd
      have z : wr.heap[w.heap.size + 1]? = some (.cells #[.int .i64 0, .int .u32 0, .int .u64 0, .int .i64 0, .slice none 0 0, .string ⟨#[]⟩] 43 (0, 0)) := hB.out.blk HZ.out
      have f0 : wr.frozen? ⟨w.heap.size + 1, 0, none⟩ = false := soft_blk z
      have f1 : wr.frozen? ⟨w.heap.size + 1, 1, none⟩ = false := soft_blk z
      have f2 : wr.frozen? ⟨w.heap.size + 1, 2, none⟩ = false := soft_blk z
      have f3 : wr.frozen? ⟨w.heap.size + 1, 3, none⟩ = false := soft_blk z
      have f4 : wr.frozen? ⟨w.heap.size + 1, 4, none⟩ = false := soft_blk z
      have f5 : wr.frozen? ⟨w.heap.size + 1, 5, none⟩ = false := soft_blk z
      have d0 : wr.cell? ⟨w.heap.size + 1, 0, none⟩ = some (.int .i64 0) := cell_blk z
      have d1 : wr.cell? ⟨w.heap.size + 1, 1, none⟩ = some (.int .u32 0) := cell_blk z
      have d2 : wr.cell? ⟨w.heap.size + 1, 2, none⟩ = some (.int .u64 0) := cell_blk z
      have d3 : wr.cell? ⟨w.heap.size + 1, 3, none⟩ = some (.int .i64 0) := cell_blk z
      have d4 : wr.cell? ⟨w.heap.size + 1, 4, none⟩ = some (.slice none 0 0) := cell_blk z
      have d5 : wr.cell? ⟨w.heap.size + 1, 5, none⟩ = some (.string ⟨#[]⟩) := cell_blk z
      have hz : w.heap.size + 1 < wr.heap.size := lt_blk z
      clear z hfd
      go_wp2_with fail
      have hbw : ∀ u0 u1 u2 u3 u4 u5 : Value, Bw w ((((((wr.setCell ⟨w.heap.size + 1, 0, none⟩ u0).setCell ⟨w.heap.size + 1, 1, none⟩ u1).setCell ⟨w.heap.size + 1, 2, none⟩ u2).setCell ⟨w.heap.size + 1, 3, none⟩ u3).setCell ⟨w.heap.size + 1, 4, none⟩ u4).setCell ⟨w.heap.size + 1, 5, none⟩ u5) := fun u0 u1 u2 u3 u4 u5 =>
        Below.setCell (Below.setCell (Below.setCell (Below.setCell (Below.setCell (Below.setCell (HB.out.trans hB.out) (Nat.le_succ _) _) (Nat.le_succ _) _) (Nat.le_succ _) _) (Nat.le_succ _) _) (Nat.le_succ _) _) (Nat.le_succ _) _
      refine bodyPost_ret (v := .tuple #[msgV zeroM, .bool false]) (by simp [results, Try.results39, go_sem, msgV, zeroM, *]) rfl ⟨zeroM, false, rfl, ?_, ?_, by decide, hbw _ _ _ _ _ _, fun w0 _ => ?_⟩
      · rw [HFD.out]; rfl
      · rw [HFD.out]; exact zero_reads _
      · rw [HFD.out]; exact zero_reads _
end Go.Proofs.Ytllmiaonlofeeaa
