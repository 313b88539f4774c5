/-
  The reference's hold: Above. No conditions beyond what each theorem states.
-/
import Derived.Test.YtllmiaonlofeeaaIf
namespace Go.Proofs.Ytllmiaonlofeeaa
open Go.RowKit Go.Sort
set_option linter.unusedSimpArgs false
set_option linter.unusedVariables false

def overL (s f : Int) (l : List DM) : List DM := l.filter fun D => lessB s f D.stamp D.frm
theorem overL_step {s f : Int} {l : List DM} {i : Nat} (h : i < l.length) : overL s f (l.take (i + 1)) = overL s f (l.take i) ++ if lessB s f l[i]!.stamp l[i]!.frm then [l[i]!] else [] := by
  unfold overL
  rw [List.take_succ_eq_append_getElem h, List.filter_append, getElem!_pos l i h]
  congr 1
  by_cases e : lessB s f l[i].stamp l[i].frm = true <;> simp [e]
theorem overL_len (s f : Int) (l : List DM) : (overL s f l).length ≤ l.length := List.length_filter_le _ _
theorem refFrom_len (LA : List DM) (low : Nat → Int) (p seq : Int) (n : Nat) : (refFrom LA low p seq n).length ≤ n := by
  unfold refFrom
  rw [List.length_take]
  omega
theorem refOver_len (LA : List DM) (low : Nat → Int) (s f : Int) : ∀ p, (refOver LA low s f p).length ≤ p * LA.length
  | 0 => by simp [refOver]
  | p + 1 => by
    rw [refOver_step, List.length_append, Nat.add_mul, Nat.one_mul]
    have h1 := refOver_len LA low s f p
    have h2 := overL_len s f (refFrom LA low (p : Int) 0 LA.length)
    have h3 := refFrom_len LA low (p : Int) 0 LA.length
    unfold overL at h2
    omega

/-- append of messages in a plain region; where the new row lies. -/
theorem app6b {ops : Array Oper} {rest : List Oper} {o : Oper} {a : Act} {Q : Exit → Act → World → Prop} {w : World} (hgd : o.guard = none) (s x : Operand)
    (ho : o.op = .call { callee := .builtin .append, args := #[s, x], argTypes := #[22, 22] }) (base : Nat) (v vx : Value) (xs ys : List Msg) (hs : a.eval s = v) (hx : a.eval x = vx)
    (hown : Own6 base w v xs) (hsrc : MAt w vx ys) (hn : xs.length + ys.length ≤ 1000000000) (hbase : base ≤ w.heap.size)
    (h : ∀ v' w', Own6 base w' v' (xs ++ ys) → w.grownBy w' v.ownBlock → (v'.ownBlock = v.ownBlock ∨ v'.ownBlock = some w.heap.size) → wpList Try.prog ops Q rest (a.put o.dst v') w') : wpList Try.prog ops Q (o :: rest) a w := by
  refine wpList_plain hgd fun K hK => ?_
  have := step_app6 (ops := ops) (Q := Q) (K := K) (E := False) hgd s x ho base v vx xs ys hs hx hown hsrc hn hbase (fun v' w' h1 h2 h3 => hK _ _ (h v' w' h1 h2 h3))
  rwa [if_pos (wanted_open hgd _)] at this
theorem MAt.apart {w w' : World} {row : Option Nat} {b o n c : Nat} {l : List Msg} (h : MAt w (.slice (some ⟨b, o, none⟩) n c) l) (hg : w.grownBy w' row) (hr : row ≠ some b) : MAt w' (.slice (some ⟨b, o, none⟩) n c) l := by
  rcases h with h | ⟨a, cap, e, rfl⟩ | ⟨b', o', cap, e, hb, hc⟩
  · exact Or.inl h
  · exact Or.inr (Or.inl ⟨a, cap, e, rfl⟩)
  · simp only [Value.slice.injEq, Option.some.injEq, Addr.mk.injEq, and_true] at e
    obtain ⟨⟨rfl, rfl⟩, rfl, rfl⟩ := e
    refine Or.inr (Or.inr ⟨b, o, c, rfl, Nat.lt_of_lt_of_le hb hg.size, fun j u hu => ?_⟩)
    rw [World.cell?_of_block (hg.block b hb (fun e => hr e.symm))]
    exact hc j u hu

set_option maxRecDepth 100000 in
set_option maxHeartbeats 4000000 in
theorem c_rhAbove (va : Value) (la : List Msg) (LA : List DM) (low : Nat → Int) (s f : Int) (w : World) (h : MAt w va la) (hD : DL w la LA) (hn : la.length ≤ 1000) (hP : ∀ D ∈ LA, InP D.frm) (hd : ∀ x ∈ la, x.dl ≤ 1000000) (w0 : World) (h0 : DL w0 la LA) :
    Calls Try.prog 45 #[.agg (refCells va low), .agg #[.int .u64 s, .int .i64 f]] w fun e w' =>
      ∃ v' l', e = .returned v' ∧ Own6 w.heap.size w' v' l' ∧ DL w0 l' (dsort (refOver LA low s f 64)) ∧ (∀ x ∈ l', x.dl ≤ 1000000) ∧ Bw w w' := by
  have mixed : Try.prog.follows .mixedOrders = true := by kernel_rfl
  obtain ⟨wa, hwa⟩ : ∃ wa, wa = w.alloc (.cells (refCells va low) 59) := ⟨_, rfl⟩
  obtain ⟨wb, hwb⟩ : ∃ wb, wb = wa.alloc (.cells #[.int .u64 s, .int .i64 f] 29) := ⟨_, rfl⟩
  have hBa : Bw w wa := hwa ▸ Bw.alloc _ _
  have hza : wa.heap.size = w.heap.size + 1 := by rw [hwa]; simp
  have hBb : Bw wa wb := hwb ▸ Bw.alloc _ _
  have hra : RefBlk wb w.heap.size va low := hBb.blk (hwa ▸ heap_alloc_new _ _)
  have hnk : wb.heap[w.heap.size + 1]? = some (.cells #[.int .u64 s, .int .i64 f] 29 (0, 0)) := by rw [← hza, hwb]; exact heap_alloc_new _ _
  have HWA := Lib.hid hwa
  have HWB := Lib.hid hwb
  have HB := Lib.hid (hBa.trans hBb)
  have HRA := Lib.hid hra
  have HNK := Lib.hid hnk
  have HM := Lib.hid (h.bw (hBa.trans hBb))
  have HD := Lib.hid (hD.bw (hBa.trans hBb))
  have HD0 := Lib.hid h0
  have HP := Lib.hid hP
  have HDL := Lib.hid hd
  have HNL := Lib.hid hn
  obtain ⟨a, cap, rfl⟩ := h.form
  have hzk : w.heap.size + 1 < wb.heap.size := lt_blk hnk
  clear h hD hn hP hd hwa hwb hBa hBb h0 hza hra hnk
  go_enter Try.func45, Try.ntmps45
  go_upto_region 1 with fail
  rw [← HWA.out, ← HWB.out]
  go_wp2_with fail
  go_loopw [5, 6] (fun vo vi wr => ∃ (p : Nat) (o : List Msg), vi = .int .i64 p ∧ p ≤ 64 ∧ Hid (Own6 wb.heap.size wr vo o) ∧ Hid (DL w0 o (refOver LA low s f p)) ∧ Hid (∀ x ∈ o, x.dl ≤ 1000000) ∧ Hid (Bw wb wr)) (fun _ vi _ => 64 - (intOf vi).toNat)
  case atStart => exact ⟨0, [], rfl, by omega, World.ownsRow_nil _ _ _ _, DL.nil _, (fun x hx => by cases hx), Bw.refl _⟩
  case round =>
    obtain ⟨p, o, rfl, hp, hO, hL, hQ, hB⟩ := hrel
    by_cases hlt : p < 64
    · have hltz : (p : Int) < 64 := by omega
      have hrr : RefBlk wr w.heap.size (.slice a la.length cap) low := hB.out.blk HRA.out
      have c0 : wr.cell? ⟨w.heap.size, 0, none⟩ = some (.slice a la.length cap) := ref_all_cell hrr
      have HF := Lib.hid (c_rhFrom (.slice a la.length cap) la LA low (p : Int) 0 (la.length : Int) wr (HM.out.bw hB.out) (HD.out.bw hB.out) (by have := HNL.out; omega) HP.out HDL.out w0 HD0.out)
      go_wp2_with (first | refine wpList_load_ref (by rfl) hrr ?_)
      clear hrr c0
      refine HF.out.mono ?_
      rintro e w1 ⟨v1, l1, rfl, ho1, hl1, hd1, hb1⟩
      obtain ⟨a1, cap1, rfl⟩ := ho1.at.form
      obtain ⟨F, hF⟩ : ∃ F, F = refFrom LA low (p : Int) 0 (la.length : Int) := ⟨_, rfl⟩
      rw [← hF] at hl1
      have hn1 : l1.length ≤ 1000 := by
        have h1 := refFrom_len LA low (p : Int) 0 la.length
        rw [← hF] at h1
        have h2 := hl1.1
        have h3 := HNL.out
        omega
      have HM1 := Lib.hid ho1.at
      have HL1 := Lib.hid hl1
      have HD1 := Lib.hid hd1
      have B1 := Lib.hid hb1
      have hst := refOver_step LA low s f p
      rw [show (LA.length : Int) = (la.length : Int) by rw [HD.out.1], ← hF] at hst
      have HST := Lib.hid hst
      have hob : o.length ≤ 63000 := by
        have h1 := refOver_len LA low s f p
        have h2 := hL.out.1
        have h3 := HNL.out
        have h4 := HD.out.1
        have h5 : p * LA.length ≤ 63 * 1000 := Nat.mul_le_mul (by omega) (by omega)
        omega
      have HFF := Lib.hid hF
      have HAP : Hid (∀ g b o, (u5).ownBlock = some g → a1 = some ⟨b, o, none⟩ → g ≠ b ∧ b < w1.heap.size) := (show _ from by
        intro g b o' hg ha
        subst ha
        have h1 := (World.ownsRow.lt hO.out g hg).2
        rcases ho1.2 with ⟨e, _⟩ | ⟨g', cap, cur, e, hb, hg', _⟩
        · cases e
        · cases e
          exact ⟨by omega, lt_blk hg'⟩)
      clear ho1 hl1 hd1 hb1 HF hst hF
      go_wp2_with fail
      go_loopw [5, 8] (fun vo vi wr => ∃ (i : Nat) (o' : List Msg), vi = .int .i64 i ∧ i ≤ l1.length ∧ Hid (Own6 wb.heap.size wr vo o') ∧ Hid (DL w0 o' (refOver LA low s f p ++ overL s f (F.take i))) ∧ Hid (∀ x ∈ o', x.dl ≤ 1000000) ∧ Hid (Bw wb wr) ∧ Hid (MAt wr (.slice a1 l1.length cap1) l1) ∧ Hid (∀ g b o, vo.ownBlock = some g → a1 = some ⟨b, o, none⟩ → g ≠ b ∧ b < wr.heap.size)) (fun _ vi _ => l1.length - (intOf vi).toNat)
      case atStart => exact ⟨0, o, rfl, by omega, hO.out.bw B1.out, (show DL _ _ _ by simpa [overL] using hL.out), hQ.out, hB.out.trans B1.out, HM1.out, HAP.out⟩
      case round =>
        obtain ⟨i, o', rfl, hi, hO2, hL2, hQ2, hB2, hM2, hA2⟩ := hrel
        by_cases hit : i < l1.length
        · have hitz : (i : Int) < (l1.length : Int) := by omega
          have m1 := hM2.out
          obtain ⟨bl, of, c1', q1⟩ := m1.nil (by omega)
          simp only [Value.slice.injEq, true_and] at q1
          obtain ⟨rfl, rfl⟩ := q1
          have hbl := (m1.six (by omega)).2.1
          have gx := ((m1.six (by omega)).2.2 i hit).grown hbl
          have rx := HL1.out.2 i hit
          have hiF : i < F.length := by rw [← HL1.out.1]; exact hit
          have hst2 := overL_step (s := s) (f := f) hiF
          have hdx := HD1.out l1[i]! (by rw [getElem!_pos l1 i hit]; exact List.getElem_mem hit)
          have hob2 : o'.length ≤ 64000 := by
            have h1 := hL2.out.1
            have h2 := hL.out.1
            have h3 := overL_len s f (F.take i)
            rw [List.length_take] at h3
            rw [List.length_append] at h1
            omega
          obtain ⟨x, hx⟩ : ∃ x, x = l1[i]! := ⟨_, rfl⟩
          rw [← hx] at gx rx hdx
          rw [← rx.stamp, ← rx.frm] at hst2
          have hnk := hB2.out.blk HNK.out
          have k0 : ∀ q os, (grow (wr.drewN q) os).cell? ⟨w.heap.size + 1, 0, none⟩ = some (.int .u64 s) := fun q os => cell_blk ((Gr.bw ⟨q, os, rfl⟩).blk hnk)
          have k1 : ∀ q os, (grow (wr.drewN q) os).cell? ⟨w.heap.size + 1, 1, none⟩ = some (.int .i64 f) := fun q os => cell_blk ((Gr.bw ⟨q, os, rfl⟩).blk hnk)
          have HXX := Lib.hid hx
          have HST2 := Lib.hid hst2
          have RX := Lib.hid rx
          obtain ⟨x0, x1, x2, x3, x4, x5⟩ := gx
          clear hx m1 rx hst2 hnk
          by_cases hlv : lessB s f x.stamp x.frm = true
          · have HV := Lib.hid hlv
            go_wp2_with fail
            go_quiet_grown (first | (go_at_call 49; with_reducible exact grown_of_Gr (c_rOf _ _ _ _ _ _ _)) | (go_at_call 48; with_reducible exact grown_of_Gr (c_rLess _ _ _ _ _)))
            simp only [hlv]
            have hbq : Bw wr (grow (wr.drewN nq) osq) := Gr.bw ⟨nq, osq, rfl⟩
            clear x0 x1 x2 x3 x4 x5 k0 k1
            generalize grow (wr.drewN nq) osq = w2 at hbq ⊢
            have B2 := Lib.hid hbq
            have hM22 := hM2.out.bw hbq
            have gx2 := (hM22.six (by omega)).2.2 i hit
            rw [← HXX.out] at gx2
            obtain ⟨x0, x1, x2, x3, x4, x5⟩ := gx2
            have hbl2 : bl < w2.heap.size := Nat.lt_of_lt_of_le hbl hbq.size
            have HM22 := Lib.hid hM22
            have LN : Hid (o'.length + [x].length ≤ 1000000000) := by show _ ≤ _; simp; omega
            have LB : Hid (wb.heap.size ≤ (w2.alloc (.cells #[.int .i64 x.frm, .int .u32 x.seq, .int .u64 x.stamp, .int .i64 x.svc, .slice x.da x.dl x.dc, .string x.pay] 43)).heap.size) := by
              have h1 := B2.out.size; have h2 := hB2.out.size; show _ ≤ _; simp; omega
            have HO3 := Lib.hid (hO2.out.bw (B2.out.trans (Bw.alloc w2 (.cells #[.int .i64 x.frm, .int .u32 x.seq, .int .u64 x.stamp, .int .i64 x.svc, .slice x.da x.dl x.dc, .string x.pay] 43))))
            clear hbq hM22
            go_wp2_with (at_builtin; refine app6b rfl _ _ rfl wb.heap.size _ (.slice _ 1 1) o' [x] rfl rfl HO3.out (MAt.one x (msg_alloc _ x)) LN.out LB.out ?_; intro v4 w4 ho4 hg4 hr4; have HO4 := Lib.hid ho4; have HG4 := Lib.hid hg4; have HR4 := Lib.hid hr4; clear ho4 hg4 hr4)
            go_wp2_with fail
            go_roundw
            case rel =>
              have hb4 : Bw wb w4 := Below.grown ((hB2.out.trans B2.out).trans (Bw.alloc _ _)) HG4.out LB.out (Own6.row hO2.out)
              refine ⟨i + 1, o' ++ [x], by go_num, by omega, HO4.out, (show DL _ _ _ from ?_), (show ∀ y ∈ o' ++ [x], y.dl ≤ 1000000 from ?_), hb4, ?_, ?_⟩
              · rw [HST2.out, if_pos HV.out, ← List.append_assoc]
                exact hL2.out.snoc RX.out
              · intro y hy
                rcases List.mem_append.1 hy with hy | hy
                · exact hQ2.out y hy
                · rw [List.mem_singleton.1 hy]; exact hdx
              · exact (hM2.out.bw (B2.out.trans (Bw.alloc _ _))).apart HG4.out (fun e => (hA2.out _ _ _ e rfl).1 rfl)
              · intro g b o2 hg ha
                have hq := hA2.out
                have hsz : wr.heap.size ≤ w4.heap.size := Nat.le_trans (B2.out.trans (Bw.alloc _ _)).size HG4.out.size
                cases ha
                rcases HR4.out with h4 | h4
                · have := hq g _ _ (h4.symm.trans hg) rfl
                  exact ⟨this.1, by omega⟩
                · rw [h4] at hg
                  cases hg
                  have h5 := (hM2.out.six (by omega)).2.1
                  have h6 := B2.out.size
                  exact ⟨by simp; omega, by omega⟩
            case measure => first | (simp [intOf]; done) | (simp [intOf]; omega)
          · have hlv2 : lessB s f x.stamp x.frm = false := by simpa using hlv
            have HV := Lib.hid hlv
            clear hlv
            go_wp2_with fail
            go_quiet_grown (first | (go_at_call 49; with_reducible exact grown_of_Gr (c_rOf _ _ _ _ _ _ _)) | (go_at_call 48; with_reducible exact grown_of_Gr (c_rLess _ _ _ _ _)))
            go_wp2_with fail
            go_roundw
            case rel =>
              have hbq : Bw wr (grow (wr.drewN nq) osq) := Gr.bw ⟨nq, osq, rfl⟩
              exact ⟨i + 1, o', by go_num, by omega, hO2.out.bw hbq, (show DL _ _ _ by rw [HST2.out, if_neg HV.out, List.append_nil]; exact hL2.out), hQ2.out, hB2.out.trans hbq, hM2.out.bw hbq, fun g b o2 hg ha => ⟨(hA2.out g b o2 hg ha).1, Nat.lt_of_lt_of_le (hA2.out g b o2 hg ha).2 hbq.size⟩⟩
            case measure => first | (simp [intOf]; done) | (simp [intOf]; omega)
        · obtain rfl : i = l1.length := by omega
          have hst3 : refOver LA low s f (p + 1) = refOver LA low s f p ++ overL s f (F.take l1.length) := by
            rw [HST.out, HL1.out.1, List.take_length]; rfl
          have HST3 := Lib.hid hst3
          clear hst3
          go_wp2_with fail
          go_roundw
          case rel => exact ⟨p + 1, o', by go_num, by omega, hO2.out, (show DL _ _ _ by rw [HST3.out]; exact hL2.out), hQ2.out, hB2.out⟩
          case measure => first | (simp [intOf]; done) | (simp [intOf]; omega)
    · obtain rfl : p = 64 := by omega
      rw [show ((64 : Nat) : Int) = (64 : Int) from rfl]
      have hob : o.length ≤ 64000 := by
        have h1 := refOver_len LA low s f 64
        have h2 := hL.out.1
        have h3 := HNL.out
        have h4 := HD.out.1
        omega
      have HS := Lib.hid (c_rSort _ o wr hO.out.at (by omega))
      go_wp2_with fail
      refine HS.out.mono ?_
      rintro e w5 ⟨v5, rfl, ho5, hb5⟩
      have HO5 := Lib.hid ho5
      have B5 := Lib.hid hb5
      clear ho5 hb5
      go_wp2_with fail
      go_ret
      exact ⟨_, ssort o, rfl, HO5.out.mono (by have := (hB.out.trans B5.out).size; have := HB.out.size; have := hB.out.size; omega), hL.out.sort, fun x hx => hQ.out x (ssort_mem hx), (HB.out.trans hB.out).trans B5.out⟩
end Go.Proofs.Ytllmiaonlofeeaa
