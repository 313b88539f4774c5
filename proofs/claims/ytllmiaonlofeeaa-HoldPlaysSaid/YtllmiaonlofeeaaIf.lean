/-
  The reference's hold: Put as a whole; From. No conditions beyond what each theorem states.
-/
import Derived.Test.YtllmiaonlofeeaaIe
namespace Go.Proofs.Ytllmiaonlofeeaa
open Go.RowKit Go.Sort
set_option linter.unusedSimpArgs false
set_option linter.unusedVariables false

theorem msgV_eq (x : Msg) : msgV x = .agg #[.int .i64 x.frm, .int .u32 x.seq, .int .u64 x.stamp, .int .i64 x.svc, .slice x.da x.dl x.dc, .string x.pay] := rfl
theorem c_rhPut (va : Value) (la : List Msg) (LA : List DM) (low : Nat → Int) (x : Msg) (D : DM) (w : World) (h : Own6 0 w va la) (hD : DL w la LA) (hn : la.length ≤ 999999) (hx : Reads w x D) (hok : 0 ≤ D.seq ∧ D.seq ≤ 4294967295) :
    Calls Try.prog 36 #[.agg (refCells va low), msgV x] w fun e w' => ∃ va' la', e = .returned (.tuple #[.agg (refCells va' low), .int .i64 (rE LA D)]) ∧ Own6 0 w' va' la' ∧ (∀ w0, DL w0 la LA → Reads w0 x D → DL w0 la' (rPut LA (rE LA D) D)) ∧
      (∀ g, va'.ownBlock = some g → va.ownBlock = some g ∨ w.heap.size ≤ g) ∧ (la' = la ∨ la' = la ++ [x]) ∧ Bw w w' := by
  have hf := hx.frm
  have hsq := hx.seq
  have hv : va.oneCell' = true := by obtain ⟨a, c, rfl⟩ := h.at.form; rfl
  by_cases hp : InP D.frm
  · by_cases hs : D.seq = (ofP LA D.frm).length + 1
    · have hE : rE LA D = 0 := by unfold rE; rw [if_pos hp, if_pos hs]
      refine (c_rhPut_ok va la LA low x w h hD hn (by rw [hf]; exact hp) (by rw [hsq]; exact hok) (by rw [hf, hsq]; exact hs)).mono ?_
      rintro e w' ⟨va', rfl, ho, hb⟩
      rw [hE]
      refine ⟨va', la ++ [x], rfl, ho.mono (Nat.zero_le _), fun w0 h1 h2 => ?_, fun g hg => Or.inr (World.ownsRow.lt ho g hg).1, Or.inr rfl, hb⟩
      unfold rPut
      rw [if_pos rfl]
      exact h1.snoc h2
    · have hE : rE LA D = 13 := by unfold rE; rw [if_pos hp, if_neg hs]
      refine (c_rhPut_order va la LA low x w h hD hn (by rw [hf]; exact hp) (by rw [hsq]; exact hok) (by rw [hf, hsq]; exact hs)).mono ?_
      rintro e w' ⟨rfl, hb⟩
      rw [hE]
      exact ⟨va, la, rfl, h.bw hb, fun w0 h1 _ => h1, fun g hg => Or.inl hg, Or.inl rfl, hb⟩
  · have hE : rE LA D = 1 := by unfold rE; rw [if_neg hp]
    refine (c_rhPut_range va hv low x w (by rw [hf]; exact hp)).mono ?_
    rintro e w' ⟨rfl, hb⟩
    rw [hE]
    exact ⟨va, la, rfl, h.bw hb, fun w0 h1 _ => h1, fun g hg => Or.inl hg, Or.inl rfl, hb⟩

theorem rf_len (LA : List DM) (low : Nat → Int) (p seq : Int) (s : Nat) : (rf LA low p seq s).length ≤ s := by
  unfold rf
  exact Nat.le_trans (List.length_filterMap_le _ _) (by simp)

set_option maxRecDepth 100000 in
set_option maxHeartbeats 4000000 in
theorem c_rhFrom (va : Value) (la : List Msg) (LA : List DM) (low : Nat → Int) (p seq most : Int) (w : World) (h : MAt w va la) (hD : DL w la LA) (hn : la.length ≤ 1000000) (hP : ∀ D ∈ LA, InP D.frm) (hd : ∀ x ∈ la, x.dl ≤ 1000000) (w0 : World) (h0 : DL w0 la LA) :
    Calls Try.prog 44 #[.agg (refCells va low), .int .i64 p, .int .u32 seq, .int .i64 most] w fun e w' =>
      ∃ v' l', e = .returned v' ∧ Own6 w.heap.size w' v' l' ∧ DL w0 l' (refFrom LA low p seq most) ∧ (∀ x ∈ l', x.dl ≤ 1000000) ∧ Bw w w' := by
  obtain ⟨wa, hwa⟩ : ∃ wa, wa = w.alloc (.cells (refCells va low) 59) := ⟨_, rfl⟩
  have hBa : Bw w wa := hwa ▸ Bw.alloc _ _
  have hra : RefBlk wa w.heap.size va low := hwa ▸ heap_alloc_new _ _
  have HWA := Lib.hid hwa
  have HBA := Lib.hid hBa
  have HRA := Lib.hid hra
  have HM := Lib.hid (h.bw hBa)
  have HD := Lib.hid (hD.bw hBa)
  have HD0 := Lib.hid h0
  have HP := Lib.hid hP
  have HDL := Lib.hid hd
  have HNL := Lib.hid hn
  obtain ⟨n, hnn⟩ : ∃ n : Nat, n = (ofP LA p).length := ⟨_, rfl⟩
  have hnb : n ≤ 1000000 := by
    have h1 := ofP_len LA p
    have h2 := hD.1
    omega
  have HC := Lib.hid (c_rhCount va la LA low p wa (h.bw hBa) (hD.bw hBa) hn)
  rw [← hnn] at HC
  have HNN := Lib.hid hnn
  clear h hD hn hP hd hwa hBa hnn h0
  go_enter Try.func44, Try.ntmps44
  go_upto_region 1 with fail
  rw [← HWA.out]
  go_wp2_with (refine wpList_load_ref (by rfl) hra ?_)
  refine HC.out.mono ?_
  rintro e w1 ⟨rfl, hg1⟩
  have B1 := Lib.hid hg1.bw
  clear hg1 hra HC
  go_wp2_with fail
  go_loopw [9, 11] (fun vo vs wr => ∃ (s : Nat) (o : List Msg), vs = .int .u32 ((s : Int) + 1) ∧ s ≤ n ∧ Hid (Own6 wa.heap.size wr vo o) ∧ Hid (DL w0 o (rf LA low p seq s)) ∧ Hid (∀ x ∈ o, x.dl ≤ 1000000) ∧ Hid (o.length ≤ most.toNat) ∧ Hid (Bw wa wr)) (fun _ vs _ => n + 1 - (intOf vs).toNat)
  case atStart => exact ⟨0, [], rfl, by omega, World.ownsRow_nil _ _ _ _, DL.nil _, (fun x hx => by cases hx), Nat.zero_le _, B1.out⟩
  case round =>
    obtain ⟨s, o, rfl, hs, hO, hL, hQ, hM, hB⟩ := hrel
    obtain ⟨ao, co, rfl⟩ := hO.out.at.form
    have hlr := hL.out.1
    have hlb : o.length ≤ s := by rw [hlr]; exact rf_len _ _ _ _ _
    have LR := Lib.hid hlr
    clear hlr
    by_cases c1 : s < n
    · have c1z : (s : Int) + 1 ≤ (n : Int) := by omega
      have c1w : ((s : Int) + 1 ≤ (n : Int)) = True := by simp; omega
      by_cases c2 : (o.length : Int) < most
      · have hrr : RefBlk wr w.heap.size va low := hB.out.blk HRA.out
        have e1 : IntKind.u32.wrap ((s : Int) + 1 + 1) = (s : Int) + 1 + 1 := by rw [IntKind.wrap_u32]; omega
        have HG := Lib.hid (c_rhGet va la LA low p ((s : Int) + 1) wr (HM.out.bw hB.out) (HD.out.bw hB.out) HNL.out HP.out HDL.out)
        have hst := rf_step LA low p seq s
        have HST := Lib.hid hst
        clear hst
        go_wp2_with (first | refine wpList_load_ref (by rfl) hrr ?_)
        clear hrr
        refine HG.out.mono ?_
        rintro e w2 ⟨x, ok, rfl, hok, hrx, hdx, hb2, hrx0⟩
        have RX := Lib.hid (hrx0 w0 HD0.out)
        have OK := Lib.hid hok
        have B2 := Lib.hid hb2
        clear hrx hrx0 hok hb2 HG
        simp only [msgV]
        go_upto_region 7 with fail
        obtain ⟨w3, hw3⟩ : ∃ w3, w3 = w2.alloc (.cells #[.int .i64 x.frm, .int .u32 x.seq, .int .u64 x.stamp, .int .i64 x.svc, .slice x.da x.dl x.dc, .string x.pay] 43) := ⟨_, rfl⟩
        rw [← hw3]
        have hb3 : Bw w2 w3 := hw3 ▸ Bw.alloc _ _
        have hn3 : w3.heap[w2.heap.size]? = some (.cells #[.int .i64 x.frm, .int .u32 x.seq, .int .u64 x.stamp, .int .i64 x.svc, .slice x.da x.dl x.dc, .string x.pay] 43 (0, 0)) := hw3 ▸ msg_alloc _ _
        have B3 := Lib.hid (B2.out.trans hb3)
        obtain ⟨x0, x1, x2, x3, x4, x5⟩ := six_of hn3
        have hz3 : w2.heap.size < w3.heap.size := lt_blk hn3
        have HZZ := Lib.hid hw3
        clear hw3 hb3 hn3
        by_cases c3 : seq ≤ (s : Int) + 1
        · cases ok with
          | true =>
            obtain ⟨E, hE⟩ : ∃ E, refGet LA low p ((s : Int) + 1) = some E := Option.isSome_iff_exists.1 OK.out.symm
            have hst2 : rf LA low p seq (s + 1) = rf LA low p seq s ++ [E] := by rw [HST.out, if_pos c3, hE]; rfl
            have RX4 : Hid (Reads w0 x E) := by have := RX.out; rw [hE] at this; exact this
            have HST2 := Lib.hid hst2
            have LN : Hid (o.length + [x].length ≤ 1000000000) := by show _ ≤ _; simp; omega
            have LB : Hid (wa.heap.size ≤ (w3.alloc (.cells #[.int .i64 x.frm, .int .u32 x.seq, .int .u64 x.stamp, .int .i64 x.svc, .slice x.da x.dl x.dc, .string x.pay] 43)).heap.size) := by
              have h1 := B3.out.size; have h2 := hB.out.size; show _ ≤ _; simp; omega
            have HO3 := Lib.hid (hO.out.bw (B3.out.trans (Bw.alloc w3 (.cells #[.int .i64 x.frm, .int .u32 x.seq, .int .u64 x.stamp, .int .i64 x.svc, .slice x.da x.dl x.dc, .string x.pay] 43))))
            clear hE hst2
            go_wp2_with (at_builtin; refine app6 rfl _ _ rfl wa.heap.size _ (.slice _ 1 1) o [x] rfl rfl HO3.out (MAt.one x (msg_alloc _ x)) LN.out LB.out ?_; intro v4 w4 ho4 hg4; have HO4 := Lib.hid ho4; have HG4 := Lib.hid hg4; clear ho4 hg4)
            go_wp2_with fail
            go_roundw
            case rel =>
              have hb4 : Bw wa w4 := Below.grown ((hB.out.trans B3.out).trans (Bw.alloc _ _)) HG4.out LB.out (Own6.row hO.out)
              refine ⟨s + 1, o ++ [x], by go_num, by omega, HO4.out, (show DL _ _ _ from ?_), (show ∀ y ∈ o ++ [x], y.dl ≤ 1000000 from ?_), (show (o ++ [x]).length ≤ most.toNat by simp; omega), hb4⟩
              · rw [HST2.out]; exact hL.out.snoc RX4.out
              · intro y hy
                rcases List.mem_append.1 hy with hy | hy
                · exact hQ.out y hy
                · rw [List.mem_singleton.1 hy]; exact hdx
            case measure => first | (simp [intOf]; done) | (simp [intOf]; omega)
          | false =>
            have hst2 : rf LA low p seq (s + 1) = rf LA low p seq s := by
              rw [HST.out, if_pos c3]
              cases hE : refGet LA low p ((s : Int) + 1) with
              | none => simp
              | some E => have := OK.out; rw [hE] at this; cases this
            have HST2 := Lib.hid hst2
            clear hst2
            go_wp2_with fail
            go_roundw
            case rel => exact ⟨s + 1, o, by go_num, by omega, hO.out.bw B3.out, (show DL _ _ _ by rw [HST2.out]; exact hL.out), hQ.out, hM.out, hB.out.trans B3.out⟩
            case measure => first | (simp [intOf]; done) | (simp [intOf]; omega)
        · have c3d : decide (seq ≤ (s : Int) + 1) = false := decide_eq_false c3
          have hst2 : rf LA low p seq (s + 1) = rf LA low p seq s := by rw [HST.out, if_neg c3]; simp
          have HST2 := Lib.hid hst2
          clear hst2
          cases ok <;>
          · go_wp2_with fail
            go_roundw
            case rel => exact ⟨s + 1, o, by go_num, by omega, hO.out.bw B3.out, (show DL _ _ _ by rw [HST2.out]; exact hL.out), hQ.out, hM.out, hB.out.trans B3.out⟩
            case measure => first | (simp [intOf]; done) | (simp [intOf]; omega)
      · have c2d : decide ((o.length : Int) < most) = false := decide_eq_false c2
        have hr : refFrom LA low p seq most = rf LA low p seq s := by
          unfold refFrom
          obtain ⟨r, hr⟩ := rf_take (LA := LA) (low := low) (p := p) (seq := seq) (s := s) (n := (ofP LA p).length) (by rw [← HNN.out]; exact hs)
          have h1 := hM.out
          rw [hr, show most.toNat = (rf LA low p seq s).length by rw [← LR.out]; omega, List.take_left']
          rfl
        have HR := Lib.hid hr
        clear hr
        go_wp2_with fail
        go_ret
        exact ⟨_, rfl, o, hO.out.mono HBA.out.size, by rw [HR.out]; exact hL.out, hQ.out, HBA.out.trans hB.out⟩
    · have c1d : decide ((s : Int) + 1 ≤ (n : Int)) = false := decide_eq_false (by omega)
      obtain rfl : s = n := by omega
      have hr : refFrom LA low p seq most = rf LA low p seq s := by
        unfold refFrom
        rw [← HNN.out, List.take_of_length_le (by rw [← LR.out]; exact hM.out)]
      have HR := Lib.hid hr
      clear hr
      go_wp2_with fail
      go_ret
      exact ⟨_, o, rfl, hO.out.mono HBA.out.size, by rw [HR.out]; exact hL.out, hQ.out, HBA.out.trans hB.out⟩
end Go.Proofs.Ytllmiaonlofeeaa
