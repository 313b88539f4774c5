/-
  HoldBack, walked. No conditions beyond what each theorem states.
-/
import Derived.Test.YtllmiaonlofeeaaHn
namespace Go.Proofs.Ytllmiaonlofeeaa
open Go.RowKit Go.Sort

/-! ### What it computes -/
/-- The message that is put as number i + 1. -/
def mD (L : List DM) (i : Nat) : DM := { L[i]! with frm := 7, seq := (i : Int) + 1 }
def bR (L : List DM) (i : Nat) : Nat → List DM := upd (fun _ => []) 7 ((List.range i).map (mD L))
theorem bR_bnd (L : List DM) {i N : Nat} (h : i ≤ N) : HBnd low0 (bR L i) N := upd_len (n := 7) (bnd0 N) ⟨Int.le_refl _, by simp [low0]; omega⟩ rfl
theorem bR_zero (L : List DM) : bR L 0 = fun _ => [] := by
  funext q
  by_cases e : q = 7
  · subst e; rfl
  · exact upd_ne _ _ e
theorem bR_at (L : List DM) (i : Nat) : bR L i 7 = (List.range i).map (mD L) := upd_at _ _ _
theorem in7 : InP 7 := by decide
theorem back_put (L : List DM) (i : Nat) : putE low0 (bR L i) (mD L i) = 0 ∧ putR low0 (bR L i) (mD L i) = bR L (i + 1) := by
  have h : putE low0 (bR L i) (mD L i) = 0 := by
    unfold putE
    rw [if_pos (show InP (mD L i).frm from in7), if_pos]
    show ((i : Int) + 1) = 0 + ((bR L i 7).length : Int) + 1
    rw [bR_at]; simp
  refine ⟨h, ?_⟩
  unfold putR
  rw [if_pos h]
  show upd (bR L i) 7 (bR L i 7 ++ [mD L i]) = _
  rw [bR_at]
  funext q
  by_cases e : q = 7
  · subst e
    rw [upd_at, bR_at, List.range_succ, List.map_append]; rfl
  · rw [upd_ne _ _ e]
    unfold bR
    rw [upd_ne _ _ e, upd_ne _ _ e]
theorem back_again (L : List DM) (i : Nat) : putE low0 (bR L (i + 1)) (mD L i) = 13 ∧ putR low0 (bR L (i + 1)) (mD L i) = bR L (i + 1) := by
  have h : putE low0 (bR L (i + 1)) (mD L i) = 13 := by
    unfold putE
    rw [if_pos (show InP (mD L i).frm from in7), if_neg]
    show ¬ ((i : Int) + 1) = 0 + ((bR L (i + 1) 7).length : Int) + 1
    rw [bR_at]; simp; omega
  refine ⟨h, ?_⟩
  unfold putR
  rw [if_neg (by rw [h]; decide)]
theorem back_dropU (L : List DM) (n : Nat) (up : Int) : dropU low0 (bR L n) 7 up = min up n := by
  unfold dropU
  show min up (0 + ((bR L n 7).length : Int)) = _
  rw [bR_at]; simp
theorem back_low (L : List DM) (n : Nat) {up : Int} (hu : 0 ≤ up) : dropLow low0 (bR L n) 7 up 7 = min up n ∧ dropLow low0 (bR L n) 7 up 6 = 0 := by
  unfold dropLow
  rw [back_dropU]
  by_cases c : InP 7 ∧ low0 (7 : Int).toNat < min up (n : Int)
  · rw [if_pos c]; exact ⟨upd_at _ _ _, rfl⟩
  · rw [if_neg c]
    refine ⟨?_, rfl⟩
    have h2 : ¬ (0 : Int) < min up (n : Int) := fun e => c ⟨in7, e⟩
    show (0 : Int) = min up n
    omega
theorem back_row (L : List DM) (n : Nat) {up : Int} (_ : 0 ≤ up) : dropR low0 (bR L n) 7 up 7 = ((List.range n).map (mD L)).drop (min up n).toNat ∧ dropR low0 (bR L n) 7 up 6 = [] := by
  unfold dropR
  rw [back_dropU]
  by_cases c : InP 7 ∧ low0 (7 : Int).toNat < min up (n : Int)
  · rw [if_pos c]
    refine ⟨?_, rfl⟩
    show upd (bR L n) 7 ((bR L n 7).drop (min up (n : Int) - 0).toNat) 7 = _
    rw [upd_at, bR_at, Int.sub_zero]
  · rw [if_neg c]
    refine ⟨?_, rfl⟩
    have h2 : ¬ (0 : Int) < min up (n : Int) := fun e => c ⟨in7, e⟩
    rw [bR_at, show (min up (n : Int)).toNat = 0 by omega]; rfl
theorem back_bnd (L : List DM) (n N : Nat) {up : Int} (_ : 0 ≤ up) (h : n ≤ N) : HBnd (dropLow low0 (bR L n) 7 up) (dropR low0 (bR L n) 7 up) N := fun j hj => by
  unfold dropLow dropR
  rw [back_dropU]
  by_cases c : InP 7 ∧ low0 (7 : Int).toNat < min up (n : Int)
  · rw [if_pos c, if_pos c]
    by_cases e : j = 7
    · subst e
      have h2 : (0 : Int) < min up (n : Int) := c.2
      show 0 ≤ upd low0 7 _ 7 ∧ upd low0 7 _ 7 + ((upd (bR L n) 7 ((bR L n 7).drop (min up (n : Int) - 0).toNat) 7).length : Int) ≤ N
      rw [upd_at, upd_at, bR_at, List.length_drop, List.length_map, List.length_range]
      omega
    · show 0 ≤ upd low0 7 _ j ∧ upd low0 7 _ j + ((upd (bR L n) 7 _ j).length : Int) ≤ N
      rw [upd_ne _ _ e, upd_ne _ _ e]
      exact bR_bnd L h j hj
  · rw [if_neg c, if_neg c]; exact bR_bnd L h j hj
theorem back_ok (L : List DM) (n j : Nat) {up : Int} (hu : 0 ≤ up) (hj : j < n) : getOk (dropLow low0 (bR L n) 7 up) (dropR low0 (bR L n) 7 up) 7 ((j : Int) + 1) = decide (up < (j : Int) + 1) := by
  unfold getOk
  have e1 := (back_low L n hu).1
  have e2 := (back_row L n hu).1
  rw [show (7 : Int).toNat = 7 from rfl, e1, e2, List.length_drop, List.length_map, List.length_range]
  apply decide_eq_decide.2
  constructor
  · rintro ⟨_, h1, _⟩; omega
  · intro h; exact ⟨in7, by omega, by omega⟩
theorem back_get (L : List DM) (n j : Nat) {up : Int} (hu : 0 ≤ up) (hj : j < n) (h : up < (j : Int) + 1) : getD (dropLow low0 (bR L n) 7 up) (dropR low0 (bR L n) 7 up) 7 ((j : Int) + 1) = mD L j := by
  unfold getD
  rw [back_ok L n j hu hj, decide_eq_true h]
  have e1 := (back_low L n hu).1
  have e2 := (back_row L n hu).1
  show (dropR low0 (bR L n) 7 up 7)[((j : Int) + 1 - dropLow low0 (bR L n) 7 up 7 - 1).toNat]! = _
  rw [e1, e2]
  have hk : (min up (n : Int)).toNat + ((j : Int) + 1 - min up n - 1).toNat = j := by omega
  have hl : ((j : Int) + 1 - min up n - 1).toNat < (((List.range n).map (mD L)).drop (min up (n : Int)).toNat).length := by rw [List.length_drop, List.length_map, List.length_range]; omega
  rw [getElem!_pos (((List.range n).map (mD L)).drop (min up (n : Int)).toNat) ((j : Int) + 1 - min up n - 1).toNat hl]
  rw [List.getElem_drop, List.getElem_map, List.getElem_range, hk]
theorem back_cnt (L : List DM) (n : Nat) {up : Int} (hu : 0 ≤ up) : cntH (dropLow low0 (bR L n) 7 up) (dropR low0 (bR L n) 7 up) 7 = n ∧ cntH (dropLow low0 (bR L n) 7 up) (dropR low0 (bR L n) 7 up) 6 = 0 ∧ lowH (dropLow low0 (bR L n) 7 up) 7 = min up n := by
  unfold cntH lowH
  rw [if_pos in7, if_pos (show InP 6 by decide), if_pos in7]
  show dropLow low0 (bR L n) 7 up 7 + ((dropR low0 (bR L n) 7 up 7).length : Int) = n ∧ dropLow low0 (bR L n) 7 up 6 + ((dropR low0 (bR L n) 7 up 6).length : Int) = 0 ∧ dropLow low0 (bR L n) 7 up 7 = min up n
  rw [(back_low L n hu).1, (back_row L n hu).1, (back_low L n hu).2, (back_row L n hu).2, List.length_drop, List.length_map, List.length_range]
  refine ⟨by omega, by simp, rfl⟩

/-- A message with a sender and a number of its own, in a block of its own. -/
theorem box_turn (w : World) (x : Msg) (a c : Int) : ∃ w', w' = w.alloc (.cells #[.int .i64 a, .int .u32 c, .int .u64 x.stamp, .int .i64 x.svc, .slice x.da x.dl x.dc, .string x.pay] 43) ∧
    Bw w w' ∧ w'.heap[w.heap.size]? = some (.cells #[.int .i64 a, .int .u32 c, .int .u64 x.stamp, .int .i64 x.svc, .slice x.da x.dl x.dc, .string x.pay] 43 (0, 0)) :=
  ⟨_, rfl, Bw.alloc _ _, heap_alloc_new _ _⟩

/-! ### The walk -/
set_option maxRecDepth 100000 in
set_option maxHeartbeats 4000000 in
theorem w_HoldBack (v : Value) (l : List Msg) (L : List DM) (up : Int) (w : World) (h : MAt w v l) (hD : DL w l L) (hd : ∀ x ∈ l, x.dl ≤ 9223372036854775807 ∧ x.pay.size ≤ 9223372036854775807) (hn : l.length ≤ 4611686018427387904) (hu : 0 ≤ up ∧ up ≤ 4294967295) :
    Calls Try.prog 10 #[v, .int .u32 up] w fun e w' => e = .returned (.bool true) ∧ Bw w w' := by
  obtain ⟨a, cap, rfl⟩ := h.form
  have HM1 := Lib.hid h
  have HD1 := Lib.hid hD
  have HS := Lib.hid hd
  obtain ⟨hu0, hu1⟩ := hu
  clear h hD hd
  go_enter Try.func10, Try.ntmps10
  go_wp2_with fail
  refine (c_awake12 w).mono ?_
  rintro e w1 ⟨rfl, hb1⟩
  have B1 := Lib.hid hb1
  clear hb1
  go_wp2_with fail
  refine (c_FewD _ l w1 (HM1.out.bw B1.out) hn HS.out).mono ?_
  rintro e w2 ⟨few, rfl, hf, hb2⟩
  have B2 := Lib.hid (B1.out.trans hb2)
  have HF2 := Lib.hid hf
  clear B1 hb2 hf hn
  cases few with
  | false =>
    go_wp2
    go_ret
    exact ⟨rfl, B2.out⟩
  | true =>
    obtain ⟨hn3, hdl⟩ := HF2.out rfl
    have HDL := Lib.hid hdl
    clear hdl HF2
    go_wp2_with fail
    refine (hf_New w2).mono ?_
    rintro e w3 ⟨rfl, h3, hb3⟩
    obtain ⟨b, hb⟩ : ∃ b, b = w2.heap.size := ⟨_, rfl⟩
    rw [← hb] at h3 ⊢
    have hwb : w.heap.size ≤ b := by rw [hb]; exact B2.out.size
    have hP : HF (fun k => k < w.heap.size) w3 b low0 (bR L 0) := by rw [bR_zero]; exact h3.less fun k hk => by have hk' : k < w.heap.size := hk; show k < b; omega
    have H3 := Lib.hid hP
    have B3 := Lib.hid (B2.out.trans hb3)
    clear hP h3 hb hb3 B2
    go_wp2_with fail
    go_loopw [6] (fun vi wr => ∃ i : Nat, vi = .int .i64 i ∧ i ≤ l.length ∧ Hid (HF (fun k => k < w.heap.size) wr b low0 (bR L i)) ∧ Hid (Bw w wr)) (fun vi _ => l.length - (intOf vi).toNat)
    case atStart => exact ⟨0, rfl, by omega, H3.out, B3.out⟩
    case round =>
      obtain ⟨i, rfl, hi, hH, hB⟩ := hrel
      by_cases hlt : i < l.length
      · have hltz : (i : Int) < (l.length : Int) := by omega
        have m1 := HM1.out.bw hB.out
        obtain ⟨bl, of, c1, q1⟩ := m1.nil (by omega)
        simp only [Value.slice.injEq, true_and] at q1
        obtain ⟨rfl, rfl⟩ := q1
        have gx := (m1.six (by omega)).2.2 i hlt
        have rx := HD1.out.2 i hlt
        have dx := HDL.out l[i]! (by rw [getElem!_pos l i hlt]; exact List.getElem_mem hlt)
        obtain ⟨x, hx⟩ : ∃ x, x = l[i]! := ⟨_, rfl⟩
        rw [← hx] at gx rx dx
        have RX := Lib.hid rx
        have e1 : IntKind.u32.wrap ((i : Int) + 1) = (i : Int) + 1 := by rw [IntKind.wrap_u32]; omega
        clear hx m1 rx
        obtain ⟨x0, x1, x2, x3, x4, x5⟩ := gx
        go_upto_region 12 with fail
        obtain ⟨wb, hwb2, hbb, hnb⟩ := box_turn wr x 7 ((i : Int) + 1)
        rw [← hwb2]
        have hr : Reads wb ⟨7, (i : Int) + 1, x.stamp, x.svc, x.da, x.dl, x.dc, x.pay⟩ (mD L i) := ⟨rfl, rfl, RX.out.stamp, RX.out.svc, (RX.out.bw (hB.out.trans hbb)).deps, RX.out.pay⟩
        have HA := Lib.hid (hH.out.add hbb)
        have HR := Lib.hid hr
        have HBB := Lib.hid (hB.out.trans hbb)
        have HNB := Lib.hid hnb
        have hzb : wr.heap.size < wb.heap.size := lt_blk hnb
        clear hwb2 hbb hr x0 x1 x2 x3 x4 x5 hnb
        have y0 : wb.cell? ⟨wr.heap.size, 0, none⟩ = some (.int .i64 7) := cell_blk HNB.out
        have y1 : wb.cell? ⟨wr.heap.size, 1, none⟩ = some (.int .u32 ((i : Int) + 1)) := cell_blk HNB.out
        have y2 : wb.cell? ⟨wr.heap.size, 2, none⟩ = some (.int .u64 x.stamp) := cell_blk HNB.out
        have y3 : wb.cell? ⟨wr.heap.size, 3, none⟩ = some (.int .i64 x.svc) := cell_blk HNB.out
        have y4 : wb.cell? ⟨wr.heap.size, 4, none⟩ = some (.slice x.da x.dl x.dc) := cell_blk HNB.out
        have y5 : wb.cell? ⟨wr.heap.size, 5, none⟩ = some (.string x.pay) := cell_blk HNB.out
        go_wp2_with fail
        refine (hf_Put HA.out (bR_bnd L (by omega)) ⟨7, (i : Int) + 1, x.stamp, x.svc, x.da, x.dl, x.dc, x.pay⟩ (mD L i) HR.out dx ⟨show (0 : Int) ≤ (i : Int) + 1 by omega, show (i : Int) + 1 ≤ 4294967295 by omega⟩).mono ?_
        rintro e wc ⟨rfl, hc, kc⟩
        rw [(back_put L i).1]
        rw [(back_put L i).2] at hc
        have hnc := kc.blk (Or.inr ⟨Nat.le_refl _, hzb⟩) HNB.out
        have bc : Bw w wc := Below.trans HBB.out ((kc.mono fun k hk => Or.inl hk).below HBB.out.size fun k hk => hk)
        have hr : Reads wc ⟨7, (i : Int) + 1, x.stamp, x.svc, x.da, x.dl, x.dc, x.pay⟩ (mD L i) := ⟨rfl, rfl, RX.out.stamp, RX.out.svc, (RX.out.bw bc).deps, RX.out.pay⟩
        have HC := Lib.hid hc
        have HR2 := Lib.hid hr
        have BC := Lib.hid bc
        have hzc : wr.heap.size < wc.heap.size := lt_blk hnc
        clear y0 y1 y2 y3 y4 y5 HR HA kc hc bc hr HBB
        have y0 : wc.cell? ⟨wr.heap.size, 0, none⟩ = some (.int .i64 7) := cell_blk hnc
        have y1 : wc.cell? ⟨wr.heap.size, 1, none⟩ = some (.int .u32 ((i : Int) + 1)) := cell_blk hnc
        have y2 : wc.cell? ⟨wr.heap.size, 2, none⟩ = some (.int .u64 x.stamp) := cell_blk hnc
        have y3 : wc.cell? ⟨wr.heap.size, 3, none⟩ = some (.int .i64 x.svc) := cell_blk hnc
        have y4 : wc.cell? ⟨wr.heap.size, 4, none⟩ = some (.slice x.da x.dl x.dc) := cell_blk hnc
        have y5 : wc.cell? ⟨wr.heap.size, 5, none⟩ = some (.string x.pay) := cell_blk hnc
        clear hnc
        go_wp2_with fail
        refine (hf_Put HC.out (bR_bnd L (by omega)) ⟨7, (i : Int) + 1, x.stamp, x.svc, x.da, x.dl, x.dc, x.pay⟩ (mD L i) HR2.out dx ⟨show (0 : Int) ≤ (i : Int) + 1 by omega, show (i : Int) + 1 ≤ 4294967295 by omega⟩).mono ?_
        rintro e we ⟨rfl, he, ke⟩
        rw [(back_again L i).1]
        rw [(back_again L i).2] at he
        have HE := Lib.hid (he.less (P' := fun k => k < w.heap.size) fun k hk => Or.inl hk)
        have BE : Hid (Bw w we) := Below.trans BC.out ((ke.mono fun k hk => Or.inl hk).below BC.out.size fun k hk => hk)
        clear y0 y1 y2 y3 y4 y5 HR2 HC he ke BC
        go_wp2_with fail
        go_roundw
        case rel => exact ⟨i + 1, by go_num, by omega, HE.out, BE.out⟩
        case measure => first | (simp [intOf]; done) | (simp [intOf]; omega)
      · obtain rfl : i = l.length := by omega
        go_wp2_with fail
        refine (hf_Drop hH.out (bR_bnd L (by omega)) 7 up hu0).mono ?_
        rintro e wf ⟨rfl, hf, kf⟩
        have hbF := back_bnd L l.length 1000000 hu0 (by omega)
        have hok := fun j (hj : j < l.length) => back_ok L l.length j hu0 hj
        have hget := fun j (hj : j < l.length) => back_get L l.length j hu0 hj
        have hcnt := back_cnt L l.length hu0
        obtain ⟨lowF, hlf⟩ : ∃ x, x = dropLow low0 (bR L l.length) 7 up := ⟨_, rfl⟩
        obtain ⟨RF, hrf⟩ : ∃ x, x = dropR low0 (bR L l.length) 7 up := ⟨_, rfl⟩
        rw [← hlf, ← hrf] at hf hbF hcnt
        simp only [← hlf, ← hrf] at hok hget
        have HBF := Lib.hid hbF
        have HOK := Lib.hid hok
        have HGET := Lib.hid hget
        have HCNT := Lib.hid hcnt
        have H4 := Lib.hid hf
        have B4 : Hid (Bw w wf) := Below.trans hB.out (kf.below hB.out.size fun k hk => hk)
        clear hlf hrf hbF hok hget hcnt hf kf hH hB
        go_wp2_with fail
        go_loopw [8] (fun vi wr => ∃ j : Nat, vi = .int .i64 j ∧ j ≤ l.length ∧ Hid (HF (fun k => k < w.heap.size) wr b lowF RF) ∧ Hid (Bw w wr)) (fun vi _ => l.length - (intOf vi).toNat)
        case atStart => exact ⟨0, rfl, by omega, H4.out, B4.out⟩
        case round =>
          obtain ⟨j, rfl, hj, hH, hB⟩ := hrel
          by_cases hlt : j < l.length
          · have hltz : (j : Int) < (l.length : Int) := by omega
            have m1 := HM1.out.bw hB.out
            obtain ⟨bl, of, c1, q1⟩ := m1.nil (by omega)
            simp only [Value.slice.injEq, true_and] at q1
            obtain ⟨rfl, rfl⟩ := q1
            have gx := (m1.six (by omega)).2.2 j hlt
            have rx := HD1.out.2 j hlt
            have dx := HDL.out l[j]! (by rw [getElem!_pos l j hlt]; exact List.getElem_mem hlt)
            obtain ⟨x, hx⟩ : ∃ x, x = l[j]! := ⟨_, rfl⟩
            rw [← hx] at gx rx dx
            have RX := Lib.hid rx
            have e1 : IntKind.u32.wrap ((j : Int) + 1) = (j : Int) + 1 := by rw [IntKind.wrap_u32]; omega
            clear hx m1 rx
            obtain ⟨x0, x1, x2, x3, x4, x5⟩ := gx
            go_upto_region 21 with fail
            obtain ⟨wb, hwb2, hbb, hnb⟩ := box_turn wr x 7 ((j : Int) + 1)
            rw [← hwb2]
            have HA := Lib.hid (hH.out.bw hbb)
            have HBB := Lib.hid (hB.out.trans hbb)
            have HNB := Lib.hid hnb
            have hzb : wr.heap.size < wb.heap.size := lt_blk hnb
            clear hwb2 hbb x0 x1 x2 x3 x4 x5 hnb
            have y1 : wb.cell? ⟨wr.heap.size, 1, none⟩ = some (.int .u32 ((j : Int) + 1)) := cell_blk HNB.out
            go_wp2_with fail
            refine (hf_Get HA.out HBF.out 7 ((j : Int) + 1) (by omega)).mono ?_
            rintro e wg ⟨z, rfl, t1, t2, t3⟩
            rw [HOK.out j hlt]
            simp only [msgV]
            have HZ := Lib.hid t1
            have N2 := Lib.hid (t3.blk HNB.out)
            have HG := Lib.hid (HA.out.bw t3)
            have BG := Lib.hid (HBB.out.trans t3)
            clear t1 t3 y1 HA HBB HNB
            go_upto_region 22 with fail
            obtain ⟨wh, hwh, hbh, hnh⟩ := box_turn wg z z.frm z.seq
            rw [← hwh]
            have hnm := hbh.blk N2.out
            have HH := Lib.hid (HG.out.bw hbh)
            have BH := Lib.hid (BG.out.trans hbh)
            have HY : Hid (Reads wh ⟨7, (j : Int) + 1, x.stamp, x.svc, x.da, x.dl, x.dc, x.pay⟩ (mD L j)) := ⟨rfl, rfl, RX.out.stamp, RX.out.svc, (RX.out.bw BH.out).deps, RX.out.pay⟩
            have HZ2 := Lib.hid (HZ.out.bw hbh)
            have z0 : wh.cell? ⟨wg.heap.size, 0, none⟩ = some (.int .i64 z.frm) := cell_blk hnh
            have z1 : wh.cell? ⟨wg.heap.size, 1, none⟩ = some (.int .u32 z.seq) := cell_blk hnh
            have z2 : wh.cell? ⟨wg.heap.size, 2, none⟩ = some (.int .u64 z.stamp) := cell_blk hnh
            have z3 : wh.cell? ⟨wg.heap.size, 3, none⟩ = some (.int .i64 z.svc) := cell_blk hnh
            have z4 : wh.cell? ⟨wg.heap.size, 4, none⟩ = some (.slice z.da z.dl z.dc) := cell_blk hnh
            have z5 : wh.cell? ⟨wg.heap.size, 5, none⟩ = some (.string z.pay) := cell_blk hnh
            have y0 : wh.cell? ⟨wr.heap.size, 0, none⟩ = some (.int .i64 7) := cell_blk hnm
            have y1 : wh.cell? ⟨wr.heap.size, 1, none⟩ = some (.int .u32 ((j : Int) + 1)) := cell_blk hnm
            have y2 : wh.cell? ⟨wr.heap.size, 2, none⟩ = some (.int .u64 x.stamp) := cell_blk hnm
            have y3 : wh.cell? ⟨wr.heap.size, 3, none⟩ = some (.int .i64 x.svc) := cell_blk hnm
            have y4 : wh.cell? ⟨wr.heap.size, 4, none⟩ = some (.slice x.da x.dl x.dc) := cell_blk hnm
            have y5 : wh.cell? ⟨wr.heap.size, 5, none⟩ = some (.string x.pay) := cell_blk hnm
            clear hwh hbh hnh hnm HZ N2 HG BG
            by_cases hgt : up < (j : Int) + 1
            · rw [HGET.out j hlt hgt] at HZ2
              go_wp2_with fail
              refine (c_rSame z ⟨7, (j : Int) + 1, x.stamp, x.svc, x.da, x.dl, x.dc, x.pay⟩ (mD L j) (mD L j) wh HZ2.out HY.out (by omega)).mono ?_
              rintro e wi ⟨rfl, hg⟩
              rw [decide_eq_true (rfl : mD L j = mD L j)]
              have HI := Lib.hid (HH.out.bw hg.bw)
              have BI := Lib.hid (BH.out.trans hg.bw)
              clear hg
              go_wp2_with fail
              go_roundw
              case rel => exact ⟨j + 1, by go_num, by omega, HI.out, BI.out⟩
              case measure => first | (simp [intOf]; done) | (simp [intOf]; omega)
            · have hgd : decide (up < (j : Int) + 1) = false := decide_eq_false hgt
              have hgt2 : (j : Int) + 1 ≤ up := by omega
              go_wp2_with fail
              go_roundw
              case rel => exact ⟨j + 1, by go_num, by omega, HH.out, BH.out⟩
              case measure => first | (simp [intOf]; done) | (simp [intOf]; omega)
          · obtain rfl : j = l.length := by omega
            obtain ⟨q1, q2, q3⟩ := HCNT.out
            have e1 : IntKind.u32.wrap (l.length : Int) = (l.length : Int) := by rw [IntKind.wrap_u32]; omega
            obtain ⟨q, hq⟩ : ∃ q, min up (l.length : Int) = q := ⟨_, rfl⟩
            rw [hq] at q3
            have Q1 := Lib.hid q1
            have Q2 := Lib.hid q2
            have Q3 := Lib.hid q3
            clear q1 q2 q3
            go_wp2_with fail
            refine (hf_Count hH.out HBF.out 7).mono ?_
            rintro e wi ⟨rfl, hg⟩
            rw [Q1.out]
            have HI := Lib.hid (hH.out.bw hg.bw)
            have BI := Lib.hid (hB.out.trans hg.bw)
            clear hg
            go_wp2_with fail
            refine (hf_Low HI.out 7).mono ?_
            rintro e wi2 ⟨rfl, rfl⟩
            rw [Q3.out]
            go_wp2_with fail
            refine (hf_Count HI.out HBF.out 6).mono ?_
            rintro e wj ⟨rfl, hg⟩
            rw [Q2.out]
            have BJ := Lib.hid (BI.out.trans hg.bw)
            clear hg
            go_wp2
            go_ret
            exact ⟨rfl, BJ.out⟩
end Go.Proofs.Ytllmiaonlofeeaa
