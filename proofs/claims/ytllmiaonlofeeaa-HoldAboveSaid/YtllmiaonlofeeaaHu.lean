/-
  HoldAbove, walked. No conditions beyond what each theorem states.
-/
import Derived.Test.YtllmiaonlofeeaaHt
import Derived.Deep.RegionHeld3
import Derived.Deep.DeepCutAuto
import Derived.BigQuiet
namespace Go.Proofs.Ytllmiaonlofeeaa
open Go.RowKit Go.Sort
set_option linter.unusedVariables false
set_option linter.unusedSimpArgs false

theorem hf_Get2 {P : Nat → Prop} {w : World} {b : Nat} {low : Nat → Int} {R : Nat → List DM} (h : HF P w b low R) (hB : HBnd low R 1000000) (p seq : Int) (hs : 0 ≤ seq) :
    Calls Try.prog 38 #[.pointer (some ⟨b, 0, none⟩), .int .i64 p, .int .u32 seq] w fun e w' =>
      ∃ x, e = .returned (.tuple #[msgV x, .bool (getOk low R p seq)]) ∧ Reads w' x (getD low R p seq) ∧ DepsIn (fun k => w.heap.size ≤ k) w' x.da x.dl ∧ x.dl ≤ 1000000 ∧ Bw w w' := by
  obtain ⟨F, v, h1, h2, h3⟩ := h
  exact h_Get h1 hB p seq hs
/-- A read message stays as it is while a block above which its numbers lie is written. -/
theorem six_reads {w : World} {k s : Nat} {z : Msg} {D : DM} (h : Reads w z D) (hd : DepsIn (fun i => s ≤ i) w z.da z.dl) (hk : k < s) (u0 u1 u2 u3 u4 u5 : Value) :
    Reads ((((((w.setCell ⟨k, 0, none⟩ u0).setCell ⟨k, 1, none⟩ u1).setCell ⟨k, 2, none⟩ u2).setCell ⟨k, 3, none⟩ u3).setCell ⟨k, 4, none⟩ u4).setCell ⟨k, 5, none⟩ u5) z D :=
  have hn : ¬ (fun i => i ≠ k) k := fun e => e rfl
  h.keep (P := fun i => i ≠ k) (hd.mono fun i hi => by have hi2 : s ≤ i := hi; show i ≠ k; omega) (((((((Keep.refl _ _).setCell hn _).setCell hn _).setCell hn _).setCell hn _).setCell hn _).setCell hn _)
theorem two7 {w w' : World} {b o : Nat} {u v : Value} (k : Bw w w') (hb : b < w.heap.size) (h : w.cell? ⟨b, o, none⟩ = some u ∧ w.cell? ⟨b, o + 1, none⟩ = some v) : w'.cell? ⟨b, o, none⟩ = some u ∧ w'.cell? ⟨b, o + 1, none⟩ = some v :=
  ⟨(k.cell (p := ⟨b, o, none⟩) hb).trans h.1, (k.cell (p := ⟨b, o + 1, none⟩) hb).trans h.2⟩
/-- A message's six cells written over. -/
theorem six_set {w : World} {k : Nat} {c0 c1 c2 c3 c4 c5 u0 u1 u2 u3 u4 u5 : Value} (h : w.heap[k]? = some (.cells #[c0, c1, c2, c3, c4, c5] 43 (0, 0))) :
    ((((((w.setCell ⟨k, 0, none⟩ u0).setCell ⟨k, 1, none⟩ u1).setCell ⟨k, 2, none⟩ u2).setCell ⟨k, 3, none⟩ u3).setCell ⟨k, 4, none⟩ u4).setCell ⟨k, 5, none⟩ u5).heap[k]? = some (.cells #[u0, u1, u2, u3, u4, u5] 43 (0, 0)) :=
  set_blk (i := 5) (set_blk (i := 4) (set_blk (i := 3) (set_blk (i := 2) (set_blk (i := 1) (set_blk (i := 0) h _) _) _) _) _) _
theorem six_below {B : Nat} {w0 w : World} {k : Nat} (h : Below B w0 w) (hk : B ≤ k) (u0 u1 u2 u3 u4 u5 : Value) :
    Below B w0 ((((((w.setCell ⟨k, 0, none⟩ u0).setCell ⟨k, 1, none⟩ u1).setCell ⟨k, 2, none⟩ u2).setCell ⟨k, 3, none⟩ u3).setCell ⟨k, 4, none⟩ u4).setCell ⟨k, 5, none⟩ u5) :=
  Below.setCell (Below.setCell (Below.setCell (Below.setCell (Below.setCell (Below.setCell h hk _) hk _) hk _) hk _) hk _) hk _

set_option maxRecDepth 100000 in
set_option maxHeartbeats 4000000 in
theorem w_HoldAbove (v : Value) (l : List ActM) (L : List ActD) (s f : Int) (w : World) (h : AAt w v l) (hL : AL w l L) (ho : ∀ X ∈ L, ADok X) (hd : ∀ x ∈ l, x.m.dl ≤ 9223372036854775807 ∧ x.m.pay.size ≤ 9223372036854775807) (hn : l.length ≤ 4611686018427387904) :
    Calls Try.prog 11 #[v, .agg #[.int .u64 s, .int .i64 f]] w fun e w' => e = .returned (.bool true) ∧ Bw w w' := by
  have mixed : Try.prog.follows .mixedOrders = true := by kernel_rfl
  obtain ⟨a, cap, rfl⟩ := h.form
  obtain ⟨wk, hwk⟩ : ∃ wk, wk = w.alloc (.cells #[.int .u64 s, .int .i64 f] 29) := ⟨_, rfl⟩
  have hBk : Bw w wk := hwk ▸ Bw.alloc _ _
  have hnk : wk.heap[w.heap.size]? = some (.cells #[.int .u64 s, .int .i64 f] 29 (0, 0)) := hwk ▸ heap_alloc_new _ _
  have HWK := Lib.hid hwk
  have HBK := Lib.hid hBk
  have HNK := Lib.hid hnk
  have HM1 := Lib.hid (h.bw hBk)
  have HL1 := Lib.hid (hL.bw hBk)
  have HS := Lib.hid hd
  have HOK := Lib.hid ho
  have hzk : w.heap.size < wk.heap.size := lt_blk hnk
  clear h hL hd ho hwk hBk hnk
  go_enter Try.func11, Try.ntmps11
  go_upto_region 1 with fail
  rw [← HWK.out]
  go_wp2_with fail
  refine (c_awake12 wk).mono ?_
  rintro e w1 ⟨rfl, hb1⟩
  have B1 := Lib.hid hb1
  clear hb1
  go_wp2_with fail
  refine (c_Few12 _ l w1 (HM1.out.bw B1.out) hn HS.out).mono ?_
  rintro e w2 ⟨few, rfl, hf, hb2⟩
  have B2 := Lib.hid (B1.out.trans hb2)
  have HF2 := Lib.hid hf
  clear B1 hb2 hf hn
  cases few with
  | false =>
    go_wp2
    go_ret
    exact ⟨rfl, HBK.out.trans B2.out⟩
  | true =>
    obtain ⟨hn3, hdl⟩ := HF2.out rfl
    have HDL := Lib.hid hdl
    have hLl : L.length ≤ 200 := by rw [← HL1.out.1]; exact hn3
    clear hdl HF2
    go_wp2_with fail
    refine (hf_New w2).mono ?_
    rintro e w3 ⟨rfl, h3, hb3⟩
    obtain ⟨b, hb⟩ : ∃ b, b = w2.heap.size := ⟨_, rfl⟩
    rw [← hb] at h3 ⊢
    have hwb : wk.heap.size ≤ b := by rw [hb]; exact B2.out.size
    have H3 : Hid (HF (fun k => k < wk.heap.size) w3 b (lrL L 0) (lrR L 0)) := h3.less fun k hk => by have hk' : k < wk.heap.size := hk; show k < b; omega
    have B3 := Lib.hid (B2.out.trans hb3)
    clear h3 hb hb3 B2
    go_wp2_with fail
    go_loopw [6] (fun vi wr => ∃ i : Nat, vi = .int .i64 i ∧ i ≤ l.length ∧ Hid (HF (fun k => k < wk.heap.size) wr b (lrL L i) (lrR L i)) ∧ Hid (Bw wk wr)) (fun vi _ => l.length - (intOf vi).toNat)
    case atStart => exact ⟨0, rfl, by omega, H3.out, B3.out⟩
    case round =>
      obtain ⟨i, rfl, hi, hH, hB⟩ := hrel
      by_cases hlt : i < l.length
      · have hltz : (i : Int) < (l.length : Int) := by omega
        obtain ⟨bl, of, c1, q1, hbl, h9⟩ := (HM1.out.bw hB.out).nine (by omega)
        simp only [Value.slice.injEq, true_and] at q1
        obtain ⟨rfl, rfl⟩ := q1
        have gx := h9 i hlt
        have rx := (HL1.out.2 i hlt).bw hB.out
        have dx := HDL.out l[i]! (by rw [getElem!_pos l i hlt]; exact List.getElem_mem hlt)
        have ox := HOK.out L[i]! (by rw [getElem!_pos L i (by rw [← HL1.out.1]; exact hlt)]; exact List.getElem_mem _)
        have hst := lr_step L (i := i) (by rw [← HL1.out.1]; exact hlt)
        have hblk : bl < wk.heap.size := by
          obtain ⟨bl', of', c', q', hbl', _⟩ := HM1.out.nine (by omega)
          simp only [Value.slice.injEq, Option.some.injEq, Addr.mk.injEq, true_and] at q'
          omega
        obtain ⟨x, hx⟩ : ∃ x, x = l[i]! := ⟨_, rfl⟩
        obtain ⟨X, hX⟩ : ∃ X, X = L[i]! := ⟨_, rfl⟩
        rw [← hx] at gx rx dx
        rw [← hX] at rx ox hst
        have HX := Lib.hid rx
        have HST := Lib.hid hst
        have HOX := Lib.hid ox
        obtain ⟨x0, x1, x2, x3, x4, x5, x6, x7, x8⟩ := gx
        clear hx hX h9 rx ox hst
        cases hdr : x.drop with
        | true =>
          have hXd : X.drop = true := by rw [← HX.out.drop, hdr]
          have HXD := Lib.hid hXd
          rw [hdr] at x0
          have x1' : wr.cell? ⟨bl, of + i * 9 + 1, none⟩ = some (.int .i64 X.p) := by rw [← HX.out.p]; exact x1
          have x2' : wr.cell? ⟨bl, of + i * 9 + 2, none⟩ = some (.int .u32 X.upto) := by rw [← HX.out.upto]; exact x2
          have HC := Lib.hid (hf_Drop (hH.out.bw (Bw.drew wr)) (lr_bnd L i (by omega)) X.p X.upto HOX.out.upto.1)
          clear hXd hdr x1 x2 x3 x4 x5 x6 x7 x8
          go_upto_region 10 with fail
          go_region_held3 (fun w' => w'.cell? ⟨bl, of + i * 9 + 1, none⟩ = some (.int .i64 X.p) ∧ w'.cell? ⟨bl, of + i * 9 + 2, none⟩ = some (.int .u32 X.upto))
            (first
              | exact ⟨x1', x2'⟩
              | exact C2.out)
            (first
              | (go_simp; go_at_call 33; refine HC.out.mono ?_; rintro e w4 ⟨rfl, h4, k4⟩; have H4 := Lib.hid h4; have B4 : Hid (Below wk.heap.size wr w4) := (Below.trans ((Bw.drew wr).below_of hB.out.size) (k4.below hB.out.size fun k hk => hk)); have C2 : Hid (w4.cell? ⟨bl, of + i * 9 + 1, none⟩ = some (.int .i64 X.p) ∧ w4.cell? ⟨bl, of + i * 9 + 2, none⟩ = some (.int .u32 X.upto)) := (show _ ∧ _ from ⟨((World.cell?_of_block (a := ⟨bl, of + i * 9 + 1, none⟩) (B4.out.block bl hblk))).trans x1', ((World.cell?_of_block (a := ⟨bl, of + i * 9 + 2, none⟩) (B4.out.block bl hblk))).trans x2'⟩); clear h4 k4; dsimp only))
          have H5 : Hid (HF (fun k => k < wk.heap.size) w4 b (lrL L (i + 1)) (lrR L (i + 1))) := by
            rw [HST.out.1, HST.out.2]
            unfold actLow actR
            rw [if_pos HXD.out, if_pos HXD.out]
            exact H4.out
          have B5 : Hid (Bw wk w4) := Below.trans hB.out B4.out
          go_wp2_with fail
          go_roundw
          case rel => exact ⟨i + 1, by go_num, by omega, H5.out, B5.out⟩
          case measure => first | (simp [intOf]; done) | (simp [intOf]; omega)
        | false =>
          have hXd : ¬ X.drop = true := by rw [← HX.out.drop, hdr]; decide
          have HXD := Lib.hid hXd
          rw [hdr] at x0
          have HC := Lib.hid (hf_Put hH.out (lr_bnd L i (by omega)) x.m X.D HX.out.m dx HOX.out.D.seq)
          clear hXd hdr
          go_wp2_with fail
          refine HC.out.mono ?_
          rintro e w4 ⟨rfl, h4, k4⟩
          have H4 : Hid (HF (fun k => k < wk.heap.size) w4 b (lrL L (i + 1)) (lrR L (i + 1))) := by
            rw [HST.out.1, HST.out.2]
            unfold actLow actR
            rw [if_neg HXD.out, if_neg HXD.out]
            exact h4
          have B4 : Hid (Bw wk w4) := Below.trans hB.out (k4.below hB.out.size fun k hk => hk)
          clear h4 k4 HC
          go_wp2_with fail
          go_roundw
          case rel => exact ⟨i + 1, by go_num, by omega, H4.out, B4.out⟩
          case measure => first | (simp [intOf]; done) | (simp [intOf]; omega)
      · obtain rfl : i = l.length := by omega
        obtain ⟨lowN, hlN⟩ : ∃ x, x = lrL L l.length := ⟨_, rfl⟩
        obtain ⟨RN, hRN⟩ : ∃ x, x = lrR L l.length := ⟨_, rfl⟩
        have hbN := lr_bnd L l.length (N := 200) hLl
        have hiN := lr_inv L l.length
        rw [← hlN, ← hRN] at hbN hiN hH
        have HBN := Lib.hid hbN
        have HIN := Lib.hid hiN
        obtain ⟨A, hA⟩ : ∃ A, A = aboveD RN s f := ⟨_, rfl⟩
        have HAB := Lib.hid (hf_Above2 hH.out (Nat.le_trans hbN.tot (by decide)) s f)
        have hAc := above_cnt RN s f
        have hAr := fun D (h : D ∈ aboveD RN s f) => (above_row h).2
        have hAg := fun D (h : D ∈ aboveD RN s f) => above_get hiN h
        have hAs := fun D (h : D ∈ aboveD RN s f) => above_seq hiN hbN h
        have hAl := fun i (h : i + 1 < (aboveD RN s f).length) => above_less h
        have hAb := cntR_le (s := s) (f := f) hbN 64 (by omega)
        rw [← hA] at HAB hAc hAr hAg hAl hAs
        have HAS := Lib.hid hAs
        have HAC := Lib.hid hAc
        have HAR := Lib.hid hAr
        have HAG := Lib.hid hAg
        have HAL := Lib.hid hAl
        have hAn : A.length ≤ 12800 := by rw [hAc]; exact hAb
        have k0 : wr.cell? ⟨w.heap.size, 0, none⟩ = some (.int .u64 s) := cell_blk (hB.out.blk HNK.out)
        have k1 : wr.cell? ⟨w.heap.size, 1, none⟩ = some (.int .i64 f) := cell_blk (hB.out.blk HNK.out)
        clear hlN hRN hbN hiN hA hAc hAr hAg hAl hAb hAs
        go_wp2_with fail
        refine HAB.out.mono ?_
        rintro e w7 ⟨v7, l7, rfl, p1, p2, p3, p4, p5⟩
        obtain ⟨a7, c7, rfl⟩ := p1.at.form
        have hl7 : l7.length = A.length := p2.1
        obtain ⟨n7, hn7⟩ : ∃ n7, n7 = l7.length := ⟨_, rfl⟩
        have hA7 : A.length = n7 := by rw [hn7, hl7]
        rw [hA7] at hAn
        have HM7 := Lib.hid p1.at
        rw [← hn7] at HM7 ⊢
        have HD7 := Lib.hid p2
        have HQ7 := Lib.hid p4
        have B7 := Lib.hid (hB.out.trans p5)
        have H7 := Lib.hid (hH.out.bw p5)
        have HN7 := Lib.hid hn7
        have HA7 := Lib.hid hA7
        clear p1 p2 p3 p4 p5 hl7 hn7 hA7 HAB hH hB k0 k1
        go_wp2_with fail
        go_loopw [8, 9] (fun vn vi wr => ∃ (m p : Nat), vn = .int .i64 m ∧ vi = .int .i64 p ∧ p ≤ 64 ∧ Hid (m = cntR s f RN p) ∧ Hid (Bw w7 wr)) (fun _ vi _ => 64 - (intOf vi).toNat)
        case atStart => exact ⟨0, 0, rfl, rfl, by omega, (by show 0 = _; simp [cntR, cnt]), Bw.refl _⟩
        case round =>
          obtain ⟨m, p, rfl, rfl, hp, hm, hB⟩ := hrel
          by_cases hlt : p < 64
          · have hltz : (p : Int) < 64 := by omega
            have hpp : InP (p : Int) := ⟨by omega, by omega⟩
            have HFR := Lib.hid (hf_From (H7.out.bw hB.out) (HBN.out.mono (by omega)) p 0 1000 (by omega))
            rw [from_all HBN.out hlt (by omega)] at HFR
            have hcn : cntH lowN RN p = lowN p + (RN p).length := by unfold cntH; rw [if_pos hpp, Int.toNat_natCast]
            have hlw : lowH lowN p = lowN p := by unfold lowH; rw [if_pos hpp, Int.toNat_natCast]
            have HCN := Lib.hid (fun (w' : World) (hb : Bw wr w') => hf_Count ((H7.out.bw hB.out).bw hb) (HBN.out.mono (by omega)) (p : Int))
            have HLW := Lib.hid (fun (w' : World) (hb : Bw wr w') => hf_Low ((H7.out.bw hB.out).bw hb) (p : Int))
            rw [hcn] at HCN
            rw [hlw] at HLW
            have hb1 := HBN.out p hlt
            obtain ⟨lo, hlo⟩ : ∃ lo, lo = lowN p := ⟨_, rfl⟩
            obtain ⟨n8, hn8⟩ : ∃ n8, n8 = (RN p).length := ⟨_, rfl⟩
            rw [← hlo, ← hn8] at HCN hb1
            rw [← hlo] at HLW
            have HN8 := Lib.hid hn8
            have e8 : IntKind.u32.wrap (lo + (n8 : Int) - lo) = (n8 : Int) := by rw [IntKind.wrap_u32]; omega
            obtain ⟨hb10, hb11⟩ := hb1
            clear hcn hlw hlo hn8 hpp
            go_wp2_with fail
            refine HFR.out.mono ?_
            rintro e w8 ⟨v8, l8, rfl, p1, p2, p4, p5⟩
            obtain ⟨a8, c8, rfl⟩ := p1.at.form
            have hl8 : l8.length = n8 := by rw [p2.1, HN8.out]
            rw [hl8]
            have hM8 := p1.at
            rw [hl8] at hM8
            have HM8 := Lib.hid hM8
            have HD8 := Lib.hid p2
            have B8 := Lib.hid (hB.out.trans p5)
            have B8r := Lib.hid p5
            have HL8 := Lib.hid hl8
            clear p1 p2 p4 p5 hl8 hM8 HFR
            go_wp2_with fail
            refine (HCN.out _ B8r.out).mono ?_
            rintro e w9 ⟨rfl, hg9⟩
            have B9 := Lib.hid (B8r.out.trans hg9.bw)
            have G9 := Lib.hid hg9.bw
            clear hg9
            go_wp2_with fail
            refine (HLW.out _ B9.out).mono ?_
            rintro e w9' ⟨rfl, rfl⟩
            go_wp2_with fail
            have hmb : m + (RN p).length ≤ 12800 := by
              rw [hm.out]
              have h1 := cntR_le (s := s) (f := f) HBN.out p (by omega)
              have h2 := HBN.out p hlt
              have h3 : p * 200 ≤ 63 * 200 := Nat.mul_le_mul_right 200 (by omega)
              omega
            rw [← HN8.out] at hmb
            go_loopw [8, 11] (fun vn vi wr => ∃ (q j : Nat), vn = .int .i64 q ∧ vi = .int .i64 j ∧ j ≤ n8 ∧ Hid (q = m + cnt s f ((RN p).take j)) ∧ Hid (Bw w9 wr)) (fun _ vi _ => n8 - (intOf vi).toNat)
            case atStart => exact ⟨m, 0, rfl, rfl, by omega, (show m = m + _ by simp [cnt]), Bw.refl _⟩
            case round =>
              obtain ⟨q, j, rfl, rfl, hj, hq, hB3⟩ := hrel
              by_cases hjt : j < n8
              · have hjtz : (j : Int) < (n8 : Int) := by omega
                have m1 := (HM8.out.bw G9.out).bw hB3.out
                obtain ⟨b8, o8, c8', q1⟩ := m1.nil (by rw [HL8.out]; omega)
                simp only [Value.slice.injEq] at q1
                obtain ⟨rfl, q2, rfl⟩ := q1
                clear q2
                have hb8 := (m1.six (by omega)).2.1
                have gx := ((m1.six (by omega)).2.2 j hjt).grown hb8
                have rx := HD8.out.2 j (by rw [HL8.out]; exact hjt)
                have hjr : j < (RN p).length := by rw [← HN8.out]; exact hjt
                have hst := cnt_step (s := s) (f := f) hjr
                obtain ⟨x, hx⟩ : ∃ x, x = l8[j]! := ⟨_, rfl⟩
                rw [← hx] at gx rx
                rw [← rx.stamp, ← rx.frm] at hst
                have hqb : q ≤ 12800 := by
                  have h1 := hq.out
                  have h2 := cnt_le s f ((RN p).take j)
                  rw [List.length_take] at h2
                  have h3 := HN8.out
                  omega
                have k0 : ∀ q os, (grow (wr.drewN q) os).cell? ⟨w.heap.size, 0, none⟩ = some (.int .u64 s) := fun q os => cell_blk ((((((B7.out.trans hB.out).trans B8r.out).trans G9.out).trans hB3.out).trans (Gr.bw ⟨q, os, rfl⟩)).blk HNK.out)
                have k1 : ∀ q os, (grow (wr.drewN q) os).cell? ⟨w.heap.size, 1, none⟩ = some (.int .i64 f) := fun q os => cell_blk ((((((B7.out.trans hB.out).trans B8r.out).trans G9.out).trans hB3.out).trans (Gr.bw ⟨q, os, rfl⟩)).blk HNK.out)
                have HST := Lib.hid hst
                obtain ⟨x0, x1, x2, x3, x4, x5⟩ := gx
                clear hx m1 rx hst
                by_cases hlv : lessB s f x.stamp x.frm = true
                · have HV := Lib.hid hlv
                  go_wp2_with fail
                  go_quiet_grown (first | (go_at_call 49; with_reducible exact grown_of_Gr (c_rOf _ _ _ _ _ _ _)) | (go_at_call 48; with_reducible exact grown_of_Gr (c_rLess _ _ _ _ _)))
                  simp only [hlv]
                  go_wp2
                  go_roundw
                  case rel =>
                    refine ⟨q + 1, j + 1, by go_num, by go_num, by omega, (show _ = _ from ?_), hB3.out.trans (Gr.bw ⟨nq, osq, rfl⟩)⟩
                    rw [HST.out, if_pos HV.out, hq.out]; omega
                  case measure => first | (simp [intOf]; done) | (simp [intOf]; omega)
                · have hlv2 : lessB s f x.stamp x.frm = false := by simpa using hlv
                  have HV := Lib.hid hlv
                  clear hlv
                  go_wp2_with fail
                  go_quiet_grown (first | (go_at_call 49; with_reducible exact grown_of_Gr (c_rOf _ _ _ _ _ _ _)) | (go_at_call 48; with_reducible exact grown_of_Gr (c_rLess _ _ _ _ _)))
                  go_wp2
                  go_roundw
                  case rel =>
                    refine ⟨q, j + 1, rfl, by go_num, by omega, (show _ = _ from ?_), hB3.out.trans (Gr.bw ⟨nq, osq, rfl⟩)⟩
                    rw [HST.out, if_neg HV.out, hq.out]; omega
                  case measure => first | (simp [intOf]; done) | (simp [intOf]; omega)
              · obtain rfl : j = n8 := by omega
                go_wp2_with fail
                go_roundw
                case rel =>
                  refine ⟨q, p + 1, rfl, by go_num, by omega, (show _ = _ from ?_), ((hB.out.trans B8r.out).trans G9.out).trans hB3.out⟩
                  rw [cntR_succ, ← hm.out, hq.out, HN8.out, List.take_length]
                case measure => first | (simp [intOf]; done) | (simp [intOf]; omega)
          · obtain rfl : p = 64 := by omega
            have hm2 : m = n7 := by rw [hm.out, ← HAC.out, HA7.out]
            subst hm2
            rw [show ((64 : Nat) : Int) = (64 : Int) from rfl]
            go_wp2_with fail
            go_loopw [12] (fun vi wr => ∃ i : Nat, vi = .int .i64 i ∧ i ≤ m ∧ Hid (Bw w7 wr)) (fun vi _ => m - (intOf vi).toNat)
            case atStart => exact ⟨0, rfl, by omega, hB.out⟩
            case round =>
              obtain ⟨i, rfl, hi, hB4⟩ := hrel
              by_cases hit : i < m
              · have hitz : (i : Int) < (m : Int) := by omega
                have hi7 : i < l7.length := by rw [← HN7.out]; exact hit
                have hiA : i < A.length := by rw [HA7.out]; exact hit
                have m1 := HM7.out.bw hB4.out
                obtain ⟨b7, o7, c7', q1⟩ := m1.nil (by omega)
                simp only [Value.slice.injEq] at q1
                obtain ⟨rfl, q2, rfl⟩ := q1
                clear q2
                have hb7 := (m1.six (by omega)).2.1
                have gx := (m1.six (by omega)).2.2 i hit
                have rx := HD7.out.2 i hi7
                have hDm : A[i]! ∈ A := by rw [getElem!_pos A i hiA]; exact List.getElem_mem hiA
                have hg := HAG.out _ hDm
                obtain ⟨x, hx⟩ : ∃ x, x = l7[i]! := ⟨_, rfl⟩
                obtain ⟨D, hDD⟩ : ∃ D, D = A[i]! := ⟨_, rfl⟩
                rw [← hx] at gx rx
                rw [← hDD] at rx hg hDm
                have HG := Lib.hid (fun (w' : World) (hb : Bw wr w') => hf_Get2 (H7.out.bw (hB4.out.trans hb)) (HBN.out.mono (by omega)) D.frm D.seq (HAS.out D hDm))
                rw [hg.1, hg.2, ← rx.frm, ← rx.seq] at HG
                simp only [msgV] at HG
                have HRX := Lib.hid rx
                have HDD := Lib.hid hDD
                have HDM := Lib.hid hDm
                have HXX := Lib.hid hx
                have HGX := Lib.hid gx
                obtain ⟨x0, x1, x2, x3, x4, x5⟩ := gx
                clear hx hDD hDm hg rx m1 x2 x3 x4 x5
                go_upto_region 28 with fail
                go_cut [13, 14] from 87 to 146 (fun s13 s14 wx => ∃ (kb : Nat) (z : Msg), s13 = .pointer (some ⟨kb, 0, none⟩) ∧ s14 = .bool true ∧ Hid (wx.heap[kb]? = some (.cells #[.int .i64 z.frm, .int .u32 z.seq, .int .u64 z.stamp, .int .i64 z.svc, .slice z.da z.dl z.dc, .string z.pay] 43 (0, 0))) ∧ Hid (Reads wx z D) ∧ z.dl ≤ 1000000 ∧ Hid (Bw wr wx))
                case first =>
                  have za : ∀ w : World, (w.alloc (.cells #[.int .i64 0, .int .u32 0, .int .u64 0, .int .i64 0, .slice none 0 0, .string ⟨#[]⟩] 43)).heap[w.heap.size]? = some (.cells #[.int .i64 0, .int .u32 0, .int .u64 0, .int .i64 0, .slice none 0 0, .string ⟨#[]⟩] 43 (0, 0)) := fun w => heap_alloc_new _ _
                  have ZA := Lib.hid za
                  clear za
                  go_region_held3 (fun w' => w'.cell? ⟨b7, o7 + i * 6, none⟩ = some (.int .i64 x.frm) ∧ w'.cell? ⟨b7, o7 + i * 6 + 1, none⟩ = some (.int .u32 x.seq))
                    (first
                      | with_reducible exact C2.out
                      | with_reducible exact CS.out
                      | exact ⟨x0, x1⟩
                      | exact two7 (Bw.alloc _ _) hb75 C2.out
                      | exact two7 ((Bw.drew wr).trans (Bw.alloc _ _)) hb7 ⟨x0, x1⟩
                      | exact two7 (six_below (B5.out.trans (Bw.alloc _ _)) (by have := B5.out.size; simpa using this) _ _ _ _ _ _) hb7 ⟨x0, x1⟩
                      | fail)
                    (first
                      | (go_simp; go_at_call 38; refine (HG.out _ (Bw.drew wr)).mono ?_; rintro e w5 ⟨z, rfl, t1, td, t2, t3⟩; have HZ := Lib.hid t1; have HZD := Lib.hid td; have HZB := Lib.hid t2; have B5 := Lib.hid ((Bw.drew wr).trans t3); have hb75 : b7 < w5.heap.size := Nat.lt_of_lt_of_le hb7 B5.out.size; have C2 : Hid (w5.cell? ⟨b7, o7 + i * 6, none⟩ = some (.int .i64 x.frm) ∧ w5.cell? ⟨b7, o7 + i * 6 + 1, none⟩ = some (.int .u32 x.seq)) := (show _ ∧ _ from two7 B5.out hb7 ⟨x0, x1⟩); clear t1 td t2 t3; dsimp only)
                      | (go_simp; go_at_call 38; refine (HG.out _ ((Bw.drew wr).trans (Bw.alloc _ _))).mono ?_; rintro e w5 ⟨z, rfl, t1, td, t2, t3⟩; have HZ := Lib.hid t1; have HZD := Lib.hid td; have HZB := Lib.hid t2; have B5 := Lib.hid (((Bw.drew wr).trans (Bw.alloc _ _)).trans t3); have N5 := Lib.hid (t3.blk (ZA.out wr.drew)); have n5 : w5.heap[wr.heap.size]? = some (.cells #[.int .i64 0, .int .u32 0, .int .u64 0, .int .i64 0, .slice none 0 0, .string ⟨#[]⟩] 43 (0, 0)) := N5.out; have hz5 : wr.heap.size < w5.heap.size := lt_blk n5; have cz0 : w5.cell? ⟨wr.heap.size, 0, none⟩ = some (.int .i64 0) := cell_blk n5; have fz0 : w5.frozen? ⟨wr.heap.size, 0, none⟩ = false := soft_blk n5; have cz1 : w5.cell? ⟨wr.heap.size, 1, none⟩ = some (.int .u32 0) := cell_blk n5; have fz1 : w5.frozen? ⟨wr.heap.size, 1, none⟩ = false := soft_blk n5; have cz2 : w5.cell? ⟨wr.heap.size, 2, none⟩ = some (.int .u64 0) := cell_blk n5; have fz2 : w5.frozen? ⟨wr.heap.size, 2, none⟩ = false := soft_blk n5; have cz3 : w5.cell? ⟨wr.heap.size, 3, none⟩ = some (.int .i64 0) := cell_blk n5; have fz3 : w5.frozen? ⟨wr.heap.size, 3, none⟩ = false := soft_blk n5; have cz4 : w5.cell? ⟨wr.heap.size, 4, none⟩ = some (.slice none 0 0) := cell_blk n5; have fz4 : w5.frozen? ⟨wr.heap.size, 4, none⟩ = false := soft_blk n5; have cz5 : w5.cell? ⟨wr.heap.size, 5, none⟩ = some (.string ⟨#[]⟩) := cell_blk n5; have fz5 : w5.frozen? ⟨wr.heap.size, 5, none⟩ = false := soft_blk n5; clear n5; have hb75 : b7 < w5.heap.size := Nat.lt_of_lt_of_le hb7 B5.out.size; have C2 : Hid (w5.cell? ⟨b7, o7 + i * 6, none⟩ = some (.int .i64 x.frm) ∧ w5.cell? ⟨b7, o7 + i * 6 + 1, none⟩ = some (.int .u32 x.seq)) := (show _ ∧ _ from two7 B5.out hb7 ⟨x0, x1⟩); have CS : Hid (((((((w5.setCell ⟨wr.heap.size, 0, none⟩ (.int .i64 z.frm)).setCell ⟨wr.heap.size, 1, none⟩ (.int .u32 z.seq)).setCell ⟨wr.heap.size, 2, none⟩ (.int .u64 z.stamp)).setCell ⟨wr.heap.size, 3, none⟩ (.int .i64 z.svc)).setCell ⟨wr.heap.size, 4, none⟩ (.slice z.da z.dl z.dc)).setCell ⟨wr.heap.size, 5, none⟩ (.string z.pay)).cell? ⟨b7, o7 + i * 6, none⟩ = some (.int .i64 x.frm) ∧ ((((((w5.setCell ⟨wr.heap.size, 0, none⟩ (.int .i64 z.frm)).setCell ⟨wr.heap.size, 1, none⟩ (.int .u32 z.seq)).setCell ⟨wr.heap.size, 2, none⟩ (.int .u64 z.stamp)).setCell ⟨wr.heap.size, 3, none⟩ (.int .i64 z.svc)).setCell ⟨wr.heap.size, 4, none⟩ (.slice z.da z.dl z.dc)).setCell ⟨wr.heap.size, 5, none⟩ (.string z.pay)).cell? ⟨b7, o7 + i * 6 + 1, none⟩ = some (.int .u32 x.seq)) := (show _ ∧ _ from two7 (six_below B5.out (Nat.le_refl _) _ _ _ _ _ _) hb7 ⟨x0, x1⟩); clear t1 td t2 t3; dsimp only))
                  · go_wp2_with fail
                    go_meet
                    exact ⟨w5.heap.size, z, rfl, rfl, heap_alloc_new _ _, HZ.out.bw (Bw.alloc _ _), HZB.out, B5.out.trans (Bw.alloc _ _)⟩
                  · go_wp2_with fail
                    go_meet
                    exact ⟨wr.heap.size, z, rfl, rfl, six_set N5.out, six_reads HZ.out HZD.out (by simp) _ _ _ _ _ _, HZB.out, six_below B5.out (Nat.le_refl _) _ _ _ _ _ _⟩
                case rest =>
                  obtain ⟨kb, z, rfl, rfl, hnz, hrz, hdz, hbz⟩ := hcut
                  clear x0 x1
                  have hnk := ((B7.out.trans hB4.out).trans hbz.out).blk HNK.out
                  have k0 : ∀ q os, (grow (wc.drewN q) os).cell? ⟨w.heap.size, 0, none⟩ = some (.int .u64 s) := fun q os => cell_blk ((Gr.bw ⟨q, os, rfl⟩).blk hnk)
                  have k1 : ∀ q os, (grow (wc.drewN q) os).cell? ⟨w.heap.size, 1, none⟩ = some (.int .i64 f) := fun q os => cell_blk ((Gr.bw ⟨q, os, rfl⟩).blk hnk)
                  have z0 : ∀ q os, (grow (wc.drewN q) os).cell? ⟨kb, 0, none⟩ = some (.int .i64 z.frm) := fun q os => cell_blk ((Gr.bw ⟨q, os, rfl⟩).blk hnz.out)
                  have z1 : ∀ q os, (grow (wc.drewN q) os).cell? ⟨kb, 1, none⟩ = some (.int .u32 z.seq) := fun q os => cell_blk ((Gr.bw ⟨q, os, rfl⟩).blk hnz.out)
                  have z2 : ∀ q os, (grow (wc.drewN q) os).cell? ⟨kb, 2, none⟩ = some (.int .u64 z.stamp) := fun q os => cell_blk ((Gr.bw ⟨q, os, rfl⟩).blk hnz.out)
                  have z3 : ∀ q os, (grow (wc.drewN q) os).cell? ⟨kb, 3, none⟩ = some (.int .i64 z.svc) := fun q os => cell_blk ((Gr.bw ⟨q, os, rfl⟩).blk hnz.out)
                  have z4 : ∀ q os, (grow (wc.drewN q) os).cell? ⟨kb, 4, none⟩ = some (.slice z.da z.dl z.dc) := fun q os => cell_blk ((Gr.bw ⟨q, os, rfl⟩).blk hnz.out)
                  have z5 : ∀ q os, (grow (wc.drewN q) os).cell? ⟨kb, 5, none⟩ = some (.string z.pay) := fun q os => cell_blk ((Gr.bw ⟨q, os, rfl⟩).blk hnz.out)
                  have m2 := (HM7.out.bw hB4.out).bw hbz.out
                  have hb7c := (m2.six (by omega)).2.1
                  have gx := ((m2.six (by omega)).2.2 i hit).grown hb7c
                  rw [← HXX.out] at gx
                  obtain ⟨x0, x1, x2, x3, x4, x5⟩ := gx
                  have HSM : Hid (∀ (k : Nat) (os : Array Obj), Calls Try.prog 23 #[.agg #[.int .i64 z.frm, .int .u32 z.seq, .int .u64 z.stamp, .int .i64 z.svc, .slice z.da z.dl z.dc, .string z.pay], .agg #[.int .i64 x.frm, .int .u32 x.seq, .int .u64 x.stamp, .int .i64 x.svc, .slice x.da x.dl x.dc, .string x.pay]] (grow (wc.drewN k) os) fun e w' => e = .returned (.bool true) ∧ Gr (grow (wc.drewN k) os) w') := fun k os => by
                    have := c_rSame z x D D (grow (wc.drewN k) os) (hrz.out.bw (Gr.bw ⟨k, os, rfl⟩)) (((HRX.out.bw hB4.out).bw hbz.out).bw (Gr.bw ⟨k, os, rfl⟩)) (by omega)
                    rwa [decide_eq_true (rfl : D = D)] at this
                  have hls : lessB s f x.stamp x.frm = true := by rw [HRX.out.stamp, HRX.out.frm]; exact HAR.out D HDM.out
                  have HLS : Hid (∀ (k : Nat) (os : Array Obj), Calls Try.prog 48 #[.agg #[.int .u64 s, .int .i64 f], .agg #[.int .u64 x.stamp, .int .i64 x.frm]] (grow (wc.drewN k) os) fun e w' => e = .returned (.bool true) ∧ Gr (grow (wc.drewN k) os) w') := fun k os => by
                    have := c_rLess s f x.stamp x.frm (grow (wc.drewN k) os)
                    rwa [hls] at this
                  clear hls m2 hnk
                  by_cases hi0 : i = 0
                  · obtain ⟨zi, hzi⟩ : ∃ zi : Int, zi = (i : Int) := ⟨_, rfl⟩
                    have hzn : zi.toNat = i := by omega
                    have zz0 : 0 ≤ zi := by omega
                    have zz1 : zi < (m : Int) := by omega
                    have zzd : decide (0 < zi) = false := decide_eq_false (by omega)
                    rw [← hzn] at x0 x1 x2 x3 x4 x5
                    rw [← hzi]
                    have HZI := Lib.hid hzi
                    clear hzn hzi hi0 hitz
                    go_upto_region 29 with fail
                    refine wp_region_quiet_grown (by assumption) (by kernel_rfl) ?_
                    iterate 25 (quiet_step ((first | (go_at_call 23; with_reducible exact grown_of_Gr (HSM.out _ _)) | (go_at_call 49; with_reducible exact grown_of_Gr (c_rOf _ _ _ _ _ _ _)) | (go_at_call 48; with_reducible exact grown_of_Gr (HLS.out _ _)))))
                    iterate 12 go_big_quiet_skip
                    iterate 2 (quiet_step ((first | (go_at_call 23; with_reducible exact grown_of_Gr (HSM.out _ _)) | (go_at_call 49; with_reducible exact grown_of_Gr (c_rOf _ _ _ _ _ _ _)) | (go_at_call 48; with_reducible exact grown_of_Gr (HLS.out _ _)))))
                    refine wpQuiet_nil ?_
                    intro _ hw'
                    obtain ⟨⟨nq, osq⟩, hw2⟩ := hw'
                    subst hw2
                    go_wp2_with fail
                    go_roundw
                    case rel => exact ⟨i + 1, by rw [HZI.out]; go_num, by omega, (hB4.out.trans hbz.out).trans (Gr.bw ⟨nq, osq, rfl⟩)⟩
                    case measure =>
                      have hz3 := HZI.out
                      first | (simp [intOf]; done) | (simp [intOf]; omega)
                  · obtain ⟨j, rfl⟩ : ∃ j, i = j + 1 := ⟨i - 1, by omega⟩
                    have m2 := (HM7.out.bw hB4.out).bw hbz.out
                    have gy := ((m2.six (by omega)).2.2 j (by omega)).grown hb7c
                    have ry := HD7.out.2 j (by omega)
                    obtain ⟨y, hy⟩ : ∃ y, y = l7[j]! := ⟨_, rfl⟩
                    rw [← hy] at gy ry
                    obtain ⟨y0, y1, y2, y3, y4, y5⟩ := gy
                    have hlp : lessB x.stamp x.frm y.stamp y.frm = false := by
                      rw [HRX.out.stamp, HRX.out.frm, ry.stamp, ry.frm, HDD.out]
                      exact HAL.out j hiA
                    have HLP : Hid (∀ (k : Nat) (os : Array Obj), Calls Try.prog 48 #[.agg #[.int .u64 x.stamp, .int .i64 x.frm], .agg #[.int .u64 y.stamp, .int .i64 y.frm]] (grow (wc.drewN k) os) fun e w' => e = .returned (.bool false) ∧ Gr (grow (wc.drewN k) os) w') := fun k os => by
                      have := c_rLess x.stamp x.frm y.stamp y.frm (grow (wc.drewN k) os)
                      rwa [hlp] at this
                    have jz : (0 : Int) < (j : Int) + 1 := by omega
                    have jz1 : (j : Int) < (m : Int) := by omega
                    have jz2 : (j : Int) + 1 < (m : Int) := by omega
                    have jz3 : (0 : Int) ≤ (j : Int) + 1 := by omega
                    have hwp : IntKind.i64.wrap (j : Int) = (j : Int) := by rw [IntKind.wrap_i64]; omega
                    clear hi0 hlp m2 hy ry
                    go_upto_region 29 with fail
                    go_quiet_grown (first | (go_at_call 23; with_reducible exact grown_of_Gr (HSM.out _ _)) | (go_at_call 49; with_reducible exact grown_of_Gr (c_rOf _ _ _ _ _ _ _)) | (go_at_call 48; with_reducible exact grown_of_Gr (HLS.out _ _)) | (go_at_call 48; with_reducible exact grown_of_Gr (HLP.out _ _)))
                    go_wp2_with fail
                    go_roundw
                    case rel => exact ⟨j + 1 + 1, by go_num, by omega, (hB4.out.trans hbz.out).trans (Gr.bw ⟨nq, osq, rfl⟩)⟩
                    case measure => first | (simp [intOf]; done) | (simp [intOf]; omega)
              · obtain rfl : i = m := by omega
                go_wp2
                go_ret
                exact ⟨rfl, (HBK.out.trans B7.out).trans hB4.out⟩
end Go.Proofs.Ytllmiaonlofeeaa
