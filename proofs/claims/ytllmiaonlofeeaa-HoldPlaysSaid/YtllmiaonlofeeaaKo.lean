/-
  The references' Sort. No conditions beyond what each theorem states.
-/
import Derived.Test.YtllmiaonlofeeaaKn
import Derived.Laws.AppendOwnNone
namespace Go.Proofs.Ytllmiaonlofeeaa
open Go.RowKit Go.Sort

theorem lessB_klt (x y : Msg) : lessB x.stamp x.frm y.stamp y.frm = decide (klt x y) := rfl

theorem insM_at : ∀ (o : List Msg) (x : Msg) (k : Nat), k ≤ o.length → (∀ j, j < k → ¬ klt x o[j]!) → (k < o.length → klt x o[k]!) → insM x o = o.take k ++ ([x] ++ o.drop k)
  | [], x, k, hk, _, _ => by
    obtain rfl : k = 0 := by simpa using hk
    rfl
  | y :: o, x, 0, _, _, h2 => by
    have := h2 (by simp)
    simp only [List.getElem!_cons_zero] at this
    simp [insM, this]
  | y :: o, x, k + 1, hk, h1, h2 => by
    have h0 := h1 0 (by omega)
    simp only [List.getElem!_cons_zero] at h0
    rw [insM, if_neg h0, insM_at o x k (by simpa using hk) (fun j hj => by have := h1 (j + 1) (by omega); simpa using this) (fun hlt => by have := h2 (by simpa using hlt); simpa using this)]
    rfl

/-- The first i, sorted. -/
def sk (l : List Msg) (i : Nat) : List Msg := ssort (l.take i)
theorem sk_step {l : List Msg} {i : Nat} (h : i < l.length) : sk l (i + 1) = insM l[i]! (sk l i) := by
  unfold sk ssort
  rw [List.take_succ_eq_append_getElem h, List.foldl_append, getElem!_pos l i h]; rfl
theorem sk_all (l : List Msg) : sk l l.length = ssort l := by unfold sk; rw [List.take_length]
theorem sk_length {l : List Msg} {i : Nat} (h : i ≤ l.length) : (sk l i).length = i := by unfold sk; rw [ssort_length, List.length_take]; omega

theorem sk_le {l : List Msg} {i j k : Nat} (h : j < k) (hk : k < (sk l i).length) : ¬ klt (sk l i)[k]! (sk l i)[j]! := by
  have hp := List.pairwise_iff_getElem.1 (ssort_srt (l.take i)) j k (by unfold sk at hk; omega) (by unfold sk at hk; exact hk) h
  rw [getElem!_pos (sk l i) k hk, getElem!_pos (sk l i) j (by omega)]
  exact hp

theorem Own6.mono {b b' : Nat} {w : World} {v : Value} {l : List Msg} (h : Own6 b w v l) (hb : b' ≤ b) : Own6 b' w v l := by
  obtain ⟨h1, h2⟩ := h
  refine ⟨h1, ?_⟩
  rcases h2 with h | ⟨g, cap, cur, e, hg, r⟩
  · exact Or.inl h
  · exact Or.inr ⟨g, cap, cur, e, by omega, r⟩
theorem Own6.bw {b : Nat} {w w' : World} {v : Value} {l : List Msg} (h : Own6 b w v l) (k : Bw w w') : Own6 b w' v l := by
  obtain ⟨h1, h2⟩ := h
  refine ⟨h1, ?_⟩
  rcases h2 with h | ⟨g, cap, cur, e, hg, hh, r⟩
  · exact Or.inl h
  · exact Or.inr ⟨g, cap, cur, e, hg, k.blk hh, r⟩

/-- append of messages onto a row of the call's own, from whatever source. -/
theorem app6 {ops : Array Oper} {rest : List Oper} {o : Oper} {a : Act} {Q : Exit → Act → World → Prop} {w : World} (hgd : o.guard = none) (s x : Operand)
    (ho : o.op = .call { callee := .builtin .append, args := #[s, x], argTypes := #[22, 22] }) (base : Nat) (v vx : Value) (xs ys : List Msg) (hs : a.eval s = v) (hx : a.eval x = vx)
    (hown : Own6 base w v xs) (hsrc : MAt w vx ys) (hn : xs.length + ys.length ≤ 1000000000) (hbase : base ≤ w.heap.size)
    (h : ∀ v' w', Own6 base w' v' (xs ++ ys) → w.grownBy w' v.ownBlock → wpList Try.prog ops Q rest (a.put o.dst v') w') : wpList Try.prog ops Q (o :: rest) a w := by
  obtain ⟨i0, hi, hz0, hz1, hz2⟩ := info_parts info_M
  obtain ⟨rfl, rfl⟩ | ⟨sa, cap, rfl, hc⟩ : (vx = .slice none 0 0 ∧ ys = []) ∨ ∃ sa cap, vx = .slice (some sa) ys.length cap ∧ ∀ j u, (flatM ys)[j]? = some u → w.cell? (sa.add j) = some u := by
    rcases hsrc with h | ⟨a, cap, rfl, rfl⟩ | ⟨b, o, cap, rfl, hb, hc⟩
    · exact Or.inl h
    · exact Or.inr ⟨a, cap, rfl, fun j u hu => by simp [flatM] at hu⟩
    · exact Or.inr ⟨⟨b, o, none⟩, cap, rfl, fun j u hu => by rw [add_off]; exact hc j u hu⟩
  · exact wpList_append_own_none hgd s x 22 ho base 43 i0 6 Try.underlying22 hi v xs.length (flatM xs) hs hown hx (h v w (by simpa using hown) ⟨rfl, rfl, rfl, Nat.le_refl _, fun _ _ _ => rfl⟩)
  · refine wpList_append_own w hgd s x 22 ho base 43 i0 _ 6 72 Try.underlying22 hi hz0 hz1 hz2 rfl (by decide) v xs.length (flatM xs) hs hown sa ys.length cap (flatM ys) hx (flatM_length ys) hc (flatM_one ys) (by unfold maxLen; omega) (by omega) hbase ?_
    intro v' w' h1 h2 _
    refine h v' w' ?_ h2
    unfold Own6
    rw [List.length_append, flatM_append]
    exact h1
theorem app6_nil {ops : Array Oper} {rest : List Oper} {o : Oper} {a : Act} {Q : Exit → Act → World → Prop} {w : World} (hgd : o.guard = none) (s x : Operand)
    (ho : o.op = .call { callee := .builtin .append, args := #[s, x], argTypes := #[22, 22] }) (base : Nat) (v : Value) (xs : List Msg) (hs : a.eval s = v) (hx : a.eval x = .slice none 0 0)
    (hown : Own6 base w v xs) (h : wpList Try.prog ops Q rest (a.put o.dst v) w) : wpList Try.prog ops Q (o :: rest) a w := by
  obtain ⟨i0, hi, hz0, hz1, hz2⟩ := info_parts info_M
  exact wpList_append_own_none hgd s x 22 ho base 43 i0 6 Try.underlying22 hi v xs.length (flatM xs) hs hown hx h
theorem MAt.take {w : World} {b o n cap : Nat} {l : List Msg} (h : MAt w (.slice (some ⟨b, o, none⟩) n cap) l) {k : Nat} (hk : k ≤ n) (c' : Nat) : MAt w (.slice (some ⟨b, o, none⟩) k c') (l.take k) := by
  rcases h with ⟨h, _⟩ | ⟨_, _, h, rfl⟩ | ⟨b', o', cap', h, hb, hc⟩
  · cases h
  · simp only [Value.slice.injEq] at h
    obtain rfl : k = 0 := by omega
    exact Or.inr (Or.inl ⟨_, _, rfl, rfl⟩)
  · simp only [Value.slice.injEq, Option.some.injEq, Addr.mk.injEq, and_true] at h
    obtain ⟨⟨rfl, rfl⟩, rfl, rfl⟩ := h
    refine Or.inr (Or.inr ⟨b, o, c', by rw [List.length_take, Nat.min_eq_left hk], hb, fun j u hu => hc j u ?_⟩)
    have : flatM l = flatM (l.take k) ++ flatM (l.drop k) := by rw [← flatM_append, List.take_append_drop]
    rw [this, List.getElem?_append_left (by have := (List.getElem?_eq_some_iff.1 hu).1; exact this)]
    exact hu
theorem MAt.drop {w : World} {b o n cap : Nat} {l : List Msg} (h : MAt w (.slice (some ⟨b, o, none⟩) n cap) l) {k : Nat} (hk : k ≤ n) (c' : Nat) : MAt w (.slice (some ⟨b, o + k * 6, none⟩) (n - k) c') (l.drop k) := by
  rcases h with ⟨h, _⟩ | ⟨_, _, h, rfl⟩ | ⟨b', o', cap', h, hb, hc⟩
  · cases h
  · simp only [Value.slice.injEq] at h
    obtain ⟨_, rfl, _⟩ := h
    obtain rfl : k = 0 := by omega
    exact Or.inr (Or.inl ⟨_, _, rfl, rfl⟩)
  · simp only [Value.slice.injEq, Option.some.injEq, Addr.mk.injEq, and_true] at h
    obtain ⟨⟨rfl, rfl⟩, rfl, rfl⟩ := h
    refine Or.inr (Or.inr ⟨b, o + k * 6, c', by rw [List.length_drop], hb, fun j u hu => ?_⟩)
    rw [Nat.add_assoc]
    refine hc (k * 6 + j) u ?_
    have e : flatM l = flatM (l.take k) ++ flatM (l.drop k) := by rw [← flatM_append, List.take_append_drop]
    have e2 : (flatM (l.take k)).length = k * 6 := by rw [flatM_length, List.length_take, Nat.min_eq_left hk]
    rw [e, List.getElem?_append_right (by omega), e2, Nat.add_sub_cancel_left]
    exact hu
theorem MAt.empty {w : World} {b o cap : Nat} (hb : b < w.heap.size) : MAt w (.slice (some ⟨b, o, none⟩) 0 cap) [] := Or.inr (Or.inr ⟨b, o, cap, rfl, hb, fun j u hu => by simp [flatM] at hu⟩)
theorem MAt.one {w : World} {b : Nat} (x : Msg) (h : w.heap[b]? = some (.cells (encM x).toArray 43 (0, 0))) : MAt w (.slice (some ⟨b, 0, none⟩) 1 1) [x] :=
  Or.inr <| Or.inr ⟨b, 0, 1, rfl, lt_blk h, fun j u hu => by
    rw [Nat.zero_add, cell_blk h]
    have : flatM [x] = encM x := by simp [flatM]
    rw [this] at hu
    simpa using hu⟩
theorem grown_bw {w w' : World} {row : Option Nat} (h : w.grownBy w' row) {B : Nat} (hB : B ≤ w.heap.size) (hr : ∀ k, row = some k → B ≤ k) : Below B w w' := (Below.refl B w).grown h hB hr
theorem Own6.row {b : Nat} {w : World} {v : Value} {l : List Msg} (h : Own6 b w v l) : ∀ k, v.ownBlock = some k → b ≤ k := fun k hk => (World.ownsRow.lt h k hk).1

set_option maxRecDepth 100000 in
set_option maxHeartbeats 2000000 in
theorem c_rSort (v : Value) (l : List Msg) (w : World) (h : MAt w v l) (hn : l.length ≤ 1000000) :
    Calls Try.prog 17 #[v] w fun e w' => ∃ v', e = .returned v' ∧ Own6 w.heap.size w' v' (ssort l) ∧ Bw w w' := by
  have mixed : Try.prog.follows .mixedOrders = true := by kernel_rfl
  obtain ⟨a, cap, rfl⟩ := h.form
  have HM1 := Lib.hid h
  clear h
  go_enter Try.func17, Try.ntmps17
  go_wp2_with fail
  go_loopw [3, 4] (fun vo vi wr => ∃ i : Nat, vi = .int .i64 i ∧ i ≤ l.length ∧ Hid (Own6 w.heap.size wr vo (sk l i)) ∧ Hid (i = 0 → vo = .slice none 0 0) ∧ Hid (Bw w wr)) (fun _ vi _ => l.length - (intOf vi).toNat)
  case atStart => exact ⟨0, rfl, by omega, World.ownsRow_nil _ _ _ _, fun _ => rfl, Bw.refl _⟩
  case round =>
    obtain ⟨i, rfl, hi2, hO, hN, hB⟩ := hrel
    obtain ⟨wo, hwo⟩ : ∃ wo : World, wo = wr := ⟨_, rfl⟩
    subst hwo
    by_cases hlt : i < l.length
    · have hltz : (i : Int) < (l.length : Int) := by omega
      obtain ⟨bl, ol, cl, q1⟩ := HM1.out.nil (by omega)
      simp only [Value.slice.injEq, true_and] at q1
      obtain ⟨rfl, rfl⟩ := q1
      have hbl : bl < w.heap.size := (HM1.out.six (by omega)).2.1
      have hlen : (sk l i).length = i := sk_length hi2
      have HLEN := Lib.hid hlen
      have wz : w.heap.size ≤ wo.heap.size := hB.out.size
      have hgx : Six wo bl (ol + i * 6) l[i]! := ((HM1.out.bw hB.out).six (by omega)).2.2 i hlt
      obtain ⟨x, hx⟩ : ∃ x, x = l[i]! := ⟨_, rfl⟩
      rw [← hx] at hgx
      have HX := Lib.hid hx
      have HGX := Lib.hid hgx
      clear hlen hx hgx
      by_cases hi0 : i = 0
      · have hv := hN.out hi0
        subst hv
        have HI0 := Lib.hid hi0
        clear hi0
        have gx := HGX.out
        obtain ⟨x0, x1, x2, x3, x4, x5⟩ := gx
        go_wp2_with fail
        refine wp_loop_rounds 1 ?_
        rw [rounds_succ]
        go_wp2_with fail
        go_quiet (fail)
        go_wp2_with (first
          | (at_builtin; refine app6_nil rfl _ _ rfl w.heap.size (.slice none 0 0) [] rfl rfl (World.ownsRow_nil _ _ _ _) ?_)
          | (at_builtin; refine app6 rfl _ _ rfl w.heap.size (.slice none 0 0) _ [] [x] rfl rfl (World.ownsRow_nil _ _ _ _) (MAt.one x (heap_alloc_new _ _)) (by simp) (by simp; omega) ?_; intro v1 w1 ho1 hg1; have HO1 := Lib.hid ho1; have HG1 := Lib.hid hg1; clear ho1 hg1)
          | (at_builtin; refine app6_nil rfl _ _ rfl w.heap.size _ [x] rfl rfl HO1.out ?_))
        go_roundw
        case rel =>
          refine ⟨i + 1, by go_num, by omega, ?_, fun h => by omega, hB.out.trans ?_⟩
          · have e1 : sk l (i + 1) = [x] := by rw [sk_step hlt, ← HX.out]; have : sk l i = [] := by rw [HI0.out]; rfl
                                               rw [this]; rfl
            rw [e1]; exact HO1.out
          · exact ((Bw.drewN wo nq).trans (Bw.alloc _ _)).trans (grown_bw HG1.out (Nat.le_refl _) (by simp [Value.ownBlock]))
        case measure => first | (simp [intOf]; done) | (simp [intOf]; omega)
      · have hO2 := hO.out.2
        rcases hO2 with ⟨_, hz⟩ | ⟨ob, oc, cur, hv, _, _, hoc, _⟩
        · rw [HLEN.out] at hz; exact absurd hz hi0
        rw [HLEN.out] at hv hoc
        subst hv
        have HMO : Hid (MAt wo (.slice (some ⟨ob, 0, none⟩) i oc) (sk l i)) := by have := hO.out.at; exact this
        have hip : 0 < i := by omega
        go_wp2_with fail
        go_loopw [5] (fun vk wr2 => ∃ k : Nat, vk = .int .i64 k ∧ k ≤ i ∧ Hid (∀ j, k ≤ j → j < i → klt x (sk l i)[j]!) ∧ Hid (Gr wo wr2)) (fun vk _ => (intOf vk).toNat)
        case atStart => exact ⟨i, rfl, Nat.le_refl _, fun j p q => by omega, Gr.refl _⟩
        case round =>
          obtain ⟨k, rfl, hki, hK, hG⟩ := hrel
          by_cases hk0 : 0 < k
          · obtain ⟨kp, rfl⟩ : ∃ kp, k = kp + 1 := ⟨k - 1, by omega⟩
            have mo := HMO.out.bw hG.out.bw
            have m1 := HM1.out.bw (hB.out.trans hG.out.bw)
            have gx := ((m1.six (by omega)).2.2 i hlt).grown (m1.six (by omega)).2.1
            have gy := ((mo.six (by omega)).2.2 kp (by omega)).grown (mo.six (by omega)).2.1
            rw [Nat.zero_add] at gy
            obtain ⟨y, hy⟩ : ∃ y, y = (sk l i)[kp]! := ⟨_, rfl⟩
            rw [← HX.out] at gx
            rw [← hy] at gy
            have HY := Lib.hid hy
            clear hy mo m1
            obtain ⟨x0, x1, x2, x3, x4, x5⟩ := gx
            obtain ⟨y0, y1, y2, y3, y4, y5⟩ := gy
            have jz : (0 : Int) < (kp : Int) + 1 := by omega
            have jz1 : (kp : Int) < (i : Int) := by omega
            have hwp : IntKind.i64.wrap (kp : Int) = (kp : Int) := by rw [IntKind.wrap_i64]; omega
            by_cases hlv : lessB x.stamp x.frm y.stamp y.frm = true
            · have hv1 : klt x (sk l i)[kp]! := by rw [← HY.out]; rw [lessB_klt] at hlv; exact of_decide_eq_true hlv
              have HV := Lib.hid hv1
              clear hv1
              go_wp2_with fail
              go_quiet_grown (first | (go_at_call 49; with_reducible exact grown_of_Gr (c_rOf _ _ _ _ _ _ _)) | (go_at_call 48; with_reducible exact grown_of_Gr (c_rLess _ _ _ _ _)))
              go_wp2
              go_roundw
              case rel =>
                refine ⟨kp, by go_num, by omega, fun j p q => ?_, hG.out.trans ⟨nq, osq, rfl⟩⟩
                by_cases c : j = kp
                · rw [c]; exact HV.out
                · exact hK.out j (by omega) q
              case measure => first | (simp [intOf]; done) | (simp [intOf]; omega)
            · have hlv2 : lessB x.stamp x.frm y.stamp y.frm = false := by simpa using hlv
              have hv1 : ¬ klt x (sk l i)[kp]! := by rw [← HY.out]; rw [lessB_klt] at hlv2; exact of_decide_eq_false hlv2
              have HV := Lib.hid hv1
              clear hlv hv1
              go_wp2_with fail
              go_quiet_grown (first | (go_at_call 49; with_reducible exact grown_of_Gr (c_rOf _ _ _ _ _ _ _)) | (go_at_call 48; with_reducible exact grown_of_Gr (c_rLess _ _ _ _ _)))
              have hGW : Gr wo (grow (wr.drewN nq) osq) := hG.out.trans ⟨nq, osq, rfl⟩
              have hA : ∀ j, j < kp + 1 → ¬ klt x (sk l i)[j]! := by
                intro j hj
                by_cases c : j = kp
                · rw [c]; exact HV.out
                · exact kle_trans (sk_le (by omega) (by rw [HLEN.out]; omega)) HV.out
              have hZ : kp + 1 < i → klt x (sk l i)[kp + 1]! := fun h => hK.out (kp + 1) (Nat.le_refl _) h
              clear x0 x1 x2 x3 x4 x5 y0 y1 y2 y3 y4 y5
              generalize grow (wr.drewN nq) osq = W at hGW ⊢
              have hMo : MAt W (.slice (some ⟨ob, 0, none⟩) i oc) (sk l i) := HMO.out.bw hGW.bw
              have hMx : Six W bl (ol + i * 6) x := by
                have h := ((HM1.out.bw (hB.out.trans hGW.bw)).six (by omega)).2.2 i hlt
                rwa [← HX.out] at h
              have wz2 : wo.heap.size ≤ W.heap.size := hGW.bw.size
              have obl : ob < W.heap.size := (hMo.six (by omega)).2.1
              have bl2 : bl < W.heap.size := by omega
              have HA : Hid (sk l (i + 1) = (sk l i).take (kp + 1) ++ ([x] ++ (sk l i).drop (kp + 1))) := by show _ = _; rw [sk_step hlt, ← HX.out]; exact insM_at _ _ _ (by rw [HLEN.out]; omega) hA (by rw [HLEN.out]; exact hZ)
              have HMT := Lib.hid (hMo.take (k := (kp + 1)) (by omega) oc)
              have HMD := Lib.hid (fun c' => by have := hMo.drop (k := (kp + 1)) (by omega) c'; rwa [Nat.zero_add] at this)
              have HGW := Lib.hid hGW
              have HT : Hid (((sk l i).take (kp + 1)).length = (kp + 1)) := by show _ = _; rw [List.length_take, HLEN.out]; omega
              have HDL : Hid (((sk l i).drop (kp + 1)).length = i - (kp + 1)) := by show _ = _; rw [List.length_drop, HLEN.out]
              clear hA hZ hMo hGW
              obtain ⟨x0, x1, x2, x3, x4, x5⟩ := hMx
              have kz : (0 : Int) ≤ ((kp + 1) : Int) := by omega
              have kz2 : ((kp + 1) : Int) ≤ (oc : Int) := by omega
              have kz3 : ((kp + 1) : Int) ≤ (i : Int) := by omega
              have L2 : Hid (((sk l i).take (kp + 1) ++ [x]).length + ((sk l i).drop (kp + 1)).length ≤ 1000000000) := by show _ ≤ _; rw [List.length_append, HT.out, HDL.out]; simp; omega
              have L1 : Hid (((sk l i).take (kp + 1)).length + [x].length ≤ 1000000000) := by show _ ≤ _; rw [HT.out]; simp; omega
              have L0 : Hid (([] : List Msg).length + ((sk l i).take (kp + 1)).length ≤ 1000000000) := by show _ ≤ _; rw [HT.out]; simp; omega
              by_cases hck : oc = (kp + 1)
              · have hck' := hck.symm
                subst hck'
                have HMD2 : Hid (∀ n c', n = 0 → MAt W (.slice (some ⟨ob, 0, none⟩) n c') ((sk l i).drop (kp + 1))) := by
                  intro n' c' hn0
                  rw [hn0, List.drop_eq_nil_of_le (by rw [HLEN.out]; omega)]
                  exact MAt.empty obl
                go_wp2_with (first
                  | (at_builtin; refine app6 rfl _ _ rfl W.heap.size (.slice none 0 0) (.slice (some ⟨ob, 0, none⟩) (kp + 1) _) [] ((sk l i).take (kp + 1)) rfl rfl (World.ownsRow_nil _ _ _ _) HMT.out L0.out (Nat.le_refl _) ?_; intro v1 w1 ho1 hg1; rw [List.nil_append] at ho1; have b1 : Bw W w1 := grown_bw hg1 (Nat.le_refl _) (by simp [Value.ownBlock]); have HO1 := Lib.hid ho1; have B1 := Lib.hid b1; have bz1 : W.heap.size ≤ w1.heap.size := b1.size; have y0 := (b1.cell (p := ⟨bl, _, none⟩) bl2).trans x0; have y1 := (b1.cell (p := ⟨bl, _, none⟩) bl2).trans x1; have y2 := (b1.cell (p := ⟨bl, _, none⟩) bl2).trans x2; have y3 := (b1.cell (p := ⟨bl, _, none⟩) bl2).trans x3; have y4 := (b1.cell (p := ⟨bl, _, none⟩) bl2).trans x4; have y5 := (b1.cell (p := ⟨bl, _, none⟩) bl2).trans x5; clear x0 x1 x2 x3 x4 x5 ho1 hg1 b1)
                  | (at_builtin; refine app6 rfl _ _ rfl W.heap.size _ (.slice _ 1 1) ((sk l i).take (kp + 1)) [x] rfl rfl (Own6.bw HO1.out (Bw.alloc _ _)) (MAt.one x (heap_alloc_new _ _)) L1.out (by simp; omega) ?_; intro v2 w2 ho2 hg2; have b2 : Below W.heap.size W w2 := Below.trans (Below.trans B1.out ((Below.refl _ w1).alloc bz1 _)) (grown_bw hg2 (by simp; omega) (Own6.row HO1.out)); have HO2 := Lib.hid ho2; have B2 := Lib.hid b2; have bz2 : W.heap.size ≤ w2.heap.size := b2.size; clear ho2 hg2 b2)
                  | (at_builtin; refine app6 rfl _ _ rfl W.heap.size _ _ ((sk l i).take (kp + 1) ++ [x]) ((sk l i).drop (kp + 1)) rfl rfl HO2.out (MAt.bw (HMD2.out _ _ (by omega)) B2.out) L2.out bz2 ?_; intro v3 w3 ho3 hg3; have b3 : Below W.heap.size W w3 := Below.trans B2.out (grown_bw hg3 bz2 (Own6.row HO2.out)); have HO3 := Lib.hid ho3; have B3 := Lib.hid b3; clear ho3 hg3 b3))
                go_roundw
                case rel =>
                  refine ⟨i + 1, by go_num, by omega, ?_, fun h => by omega, hB.out.trans (HGW.out.bw.trans B3.out)⟩
                  rw [HA.out, ← List.append_assoc]
                  exact HO3.out.mono (by omega)
                case measure => first | (simp [intOf]; done) | (simp [intOf]; omega)
              · go_wp2_with (first
                  | (at_builtin; refine app6 rfl _ _ rfl W.heap.size (.slice none 0 0) (.slice (some ⟨ob, 0, none⟩) (kp + 1) _) [] ((sk l i).take (kp + 1)) rfl rfl (World.ownsRow_nil _ _ _ _) HMT.out L0.out (Nat.le_refl _) ?_; intro v1 w1 ho1 hg1; rw [List.nil_append] at ho1; have b1 : Bw W w1 := grown_bw hg1 (Nat.le_refl _) (by simp [Value.ownBlock]); have HO1 := Lib.hid ho1; have B1 := Lib.hid b1; have bz1 : W.heap.size ≤ w1.heap.size := b1.size; have y0 := (b1.cell (p := ⟨bl, _, none⟩) bl2).trans x0; have y1 := (b1.cell (p := ⟨bl, _, none⟩) bl2).trans x1; have y2 := (b1.cell (p := ⟨bl, _, none⟩) bl2).trans x2; have y3 := (b1.cell (p := ⟨bl, _, none⟩) bl2).trans x3; have y4 := (b1.cell (p := ⟨bl, _, none⟩) bl2).trans x4; have y5 := (b1.cell (p := ⟨bl, _, none⟩) bl2).trans x5; clear x0 x1 x2 x3 x4 x5 ho1 hg1 b1)
                  | (at_builtin; refine app6 rfl _ _ rfl W.heap.size _ (.slice _ 1 1) ((sk l i).take (kp + 1)) [x] rfl rfl (Own6.bw HO1.out (Bw.alloc _ _)) (MAt.one x (heap_alloc_new _ _)) L1.out (by simp; omega) ?_; intro v2 w2 ho2 hg2; have b2 : Below W.heap.size W w2 := Below.trans (Below.trans B1.out ((Below.refl _ w1).alloc bz1 _)) (grown_bw hg2 (by simp; omega) (Own6.row HO1.out)); have HO2 := Lib.hid ho2; have B2 := Lib.hid b2; have bz2 : W.heap.size ≤ w2.heap.size := b2.size; clear ho2 hg2 b2)
                  | (at_builtin; refine app6 rfl _ _ rfl W.heap.size _ (.slice (some ⟨ob, (kp + 1) * 6, none⟩) (i - (kp + 1)) _) ((sk l i).take (kp + 1) ++ [x]) ((sk l i).drop (kp + 1)) rfl rfl HO2.out (MAt.bw (HMD.out _) B2.out) L2.out bz2 ?_; intro v3 w3 ho3 hg3; have b3 : Below W.heap.size W w3 := Below.trans B2.out (grown_bw hg3 bz2 (Own6.row HO2.out)); have HO3 := Lib.hid ho3; have B3 := Lib.hid b3; clear ho3 hg3 b3))
                go_roundw
                case rel =>
                  refine ⟨i + 1, by go_num, by omega, ?_, fun h => by omega, hB.out.trans (HGW.out.bw.trans B3.out)⟩
                  rw [HA.out, ← List.append_assoc]
                  exact HO3.out.mono (by omega)
                case measure => first | (simp [intOf]; done) | (simp [intOf]; omega)
          · have hjaz : decide ((k : Int) > (0 : Int)) = false := decide_eq_false (by omega)
            have hjaz' : ¬ (0 : Int) < (k : Int) := by omega
            go_wp2_with fail
            go_quiet (fail)
            have hGW : Gr wo (wr.drewN nq) := hG.out.trans ⟨nq, #[], by simp⟩
            have hA : ∀ j, j < k → ¬ klt x (sk l i)[j]! := fun j hj => by omega
            have hZ : k < i → klt x (sk l i)[k]! := fun h => hK.out k (Nat.le_refl _) h
            generalize wr.drewN nq = W at hGW ⊢
            have hMo : MAt W (.slice (some ⟨ob, 0, none⟩) i oc) (sk l i) := HMO.out.bw hGW.bw
            have hMx : Six W bl (ol + i * 6) x := by
              have h := ((HM1.out.bw (hB.out.trans hGW.bw)).six (by omega)).2.2 i hlt
              rwa [← HX.out] at h
            have wz2 : wo.heap.size ≤ W.heap.size := hGW.bw.size
            have obl : ob < W.heap.size := (hMo.six (by omega)).2.1
            have bl2 : bl < W.heap.size := by omega
            have HA : Hid (sk l (i + 1) = (sk l i).take k ++ ([x] ++ (sk l i).drop k)) := by show _ = _; rw [sk_step hlt, ← HX.out]; exact insM_at _ _ _ (by rw [HLEN.out]; omega) hA (by rw [HLEN.out]; exact hZ)
            have HMT := Lib.hid (hMo.take (k := k) (by omega) oc)
            have HMD := Lib.hid (fun c' => by have := hMo.drop (k := k) (by omega) c'; rwa [Nat.zero_add] at this)
            have HGW := Lib.hid hGW
            have HT : Hid (((sk l i).take k).length = k) := by show _ = _; rw [List.length_take, HLEN.out]; omega
            have HDL : Hid (((sk l i).drop k).length = i - k) := by show _ = _; rw [List.length_drop, HLEN.out]
            clear hA hZ hMo hGW
            obtain ⟨x0, x1, x2, x3, x4, x5⟩ := hMx
            have kz : (0 : Int) ≤ (k : Int) := by omega
            have kz2 : (k : Int) ≤ (oc : Int) := by omega
            have kz3 : (k : Int) ≤ (i : Int) := by omega
            have L2 : Hid (((sk l i).take k ++ [x]).length + ((sk l i).drop k).length ≤ 1000000000) := by show _ ≤ _; rw [List.length_append, HT.out, HDL.out]; simp; omega
            have L1 : Hid (((sk l i).take k).length + [x].length ≤ 1000000000) := by show _ ≤ _; rw [HT.out]; simp; omega
            have L0 : Hid (([] : List Msg).length + ((sk l i).take k).length ≤ 1000000000) := by show _ ≤ _; rw [HT.out]; simp; omega
            by_cases hck : oc = k
            · exfalso; omega
            · go_wp2_with (first
                | (at_builtin; refine app6 rfl _ _ rfl W.heap.size (.slice none 0 0) (.slice (some ⟨ob, 0, none⟩) k _) [] ((sk l i).take k) rfl rfl (World.ownsRow_nil _ _ _ _) HMT.out L0.out (Nat.le_refl _) ?_; intro v1 w1 ho1 hg1; rw [List.nil_append] at ho1; have b1 : Bw W w1 := grown_bw hg1 (Nat.le_refl _) (by simp [Value.ownBlock]); have HO1 := Lib.hid ho1; have B1 := Lib.hid b1; have bz1 : W.heap.size ≤ w1.heap.size := b1.size; have y0 := (b1.cell (p := ⟨bl, _, none⟩) bl2).trans x0; have y1 := (b1.cell (p := ⟨bl, _, none⟩) bl2).trans x1; have y2 := (b1.cell (p := ⟨bl, _, none⟩) bl2).trans x2; have y3 := (b1.cell (p := ⟨bl, _, none⟩) bl2).trans x3; have y4 := (b1.cell (p := ⟨bl, _, none⟩) bl2).trans x4; have y5 := (b1.cell (p := ⟨bl, _, none⟩) bl2).trans x5; clear x0 x1 x2 x3 x4 x5 ho1 hg1 b1)
                | (at_builtin; refine app6 rfl _ _ rfl W.heap.size _ (.slice _ 1 1) ((sk l i).take k) [x] rfl rfl (Own6.bw HO1.out (Bw.alloc _ _)) (MAt.one x (heap_alloc_new _ _)) L1.out (by simp; omega) ?_; intro v2 w2 ho2 hg2; have b2 : Below W.heap.size W w2 := Below.trans (Below.trans B1.out ((Below.refl _ w1).alloc bz1 _)) (grown_bw hg2 (by simp; omega) (Own6.row HO1.out)); have HO2 := Lib.hid ho2; have B2 := Lib.hid b2; have bz2 : W.heap.size ≤ w2.heap.size := b2.size; clear ho2 hg2 b2)
                | (at_builtin; refine app6 rfl _ _ rfl W.heap.size _ (.slice (some ⟨ob, k * 6, none⟩) (i - k) _) ((sk l i).take k ++ [x]) ((sk l i).drop k) rfl rfl HO2.out (MAt.bw (HMD.out _) B2.out) L2.out bz2 ?_; intro v3 w3 ho3 hg3; have b3 : Below W.heap.size W w3 := Below.trans B2.out (grown_bw hg3 bz2 (Own6.row HO2.out)); have HO3 := Lib.hid ho3; have B3 := Lib.hid b3; clear ho3 hg3 b3))
              go_roundw
              case rel =>
                refine ⟨i + 1, by go_num, by omega, ?_, fun h => by omega, hB.out.trans (HGW.out.bw.trans B3.out)⟩
                rw [HA.out, ← List.append_assoc]
                exact HO3.out.mono (by omega)
              case measure => first | (simp [intOf]; done) | (simp [intOf]; omega)
    · obtain rfl : i = l.length := by omega
      go_wp2
      go_ret
      exact ⟨_, rfl, by have := hO.out; rwa [sk_all] at this, hB.out⟩
end Go.Proofs.Ytllmiaonlofeeaa
