/-
  HoldCopies, walked. No conditions beyond what each theorem states.
-/
import Derived.Test.YtllmiaonlofeeaaHq
namespace Go.Proofs.Ytllmiaonlofeeaa
open Go.RowKit Go.Sort

theorem hf_Above2 {P : Nat → Prop} {w : World} {b : Nat} {low : Nat → Int} {R : Nat → List DM} (h : HF P w b low R) (hT : totD R ≤ 1000000) (s f : Int) :
    Calls Try.prog 43 #[.pointer (some ⟨b, 0, none⟩), .agg #[.int .u64 s, .int .i64 f]] w fun e w' =>
      ∃ v' l', e = .returned v' ∧ Own6 w.heap.size w' v' l' ∧ DL w' l' (aboveD R s f) ∧ DepsAll (fun k => w.heap.size ≤ k) w' l' ∧ (∀ x ∈ l', x.dl ≤ 1000000) ∧ Bw w w' := by
  obtain ⟨F, v, h1, h2, h3⟩ := h
  exact h_Above h1 hT s f
theorem U32.keep {Q : Nat → Prop} {w w' : World} {k : Nat} (h : U32 w k) (kk : Keep Q w w') (hq : Q k) : U32 w' k := by obtain ⟨c, hc⟩ := h; exact ⟨c, kk.blk hq hc⟩
theorem keep_on {P : Nat → Prop} {w w' w'' : World} (h : Keep (fun k => P k ∨ U32 w k) w w') (k : Keep (fun k => P k ∨ U32 w' k) w' w'') : Keep (fun k => P k ∨ U32 w k) w w'' :=
  h.trans (k.mono fun _ hi => hi.imp id fun e => U32.keep e h (Or.inr e))
def lr0 : (Nat → Int) × (Nat → List DM) := (low0, fun _ => [])
def lrL (L : List ActD) (i : Nat) : Nat → Int := (runLR (L.take i) lr0).1
def lrR (L : List ActD) (i : Nat) : Nat → List DM := (runLR (L.take i) lr0).2
theorem lr_step (L : List ActD) {i : Nat} (h : i < L.length) : lrL L (i + 1) = actLow (lrL L i) (lrR L i) L[i]! ∧ lrR L (i + 1) = actR (lrL L i) (lrR L i) L[i]! := by
  unfold lrL lrR
  rw [List.take_succ_eq_append_getElem h, runLR_snoc, getElem!_pos L i h]
  exact ⟨rfl, rfl⟩
theorem lr_bnd (L : List ActD) (i : Nat) {N : Nat} (h : L.length ≤ N) : HBnd (lrL L i) (lrR L i) N := by
  have := runLR_bnd (L.take i) lr0 0 (bnd0 0)
  exact HBnd.mono this (by rw [List.length_take]; omega)
theorem lr_zero (L : List ActD) : lrL L 0 = low0 ∧ lrR L 0 = fun _ => [] := ⟨rfl, rfl⟩

theorem insD_len (x : DM) : ∀ l : List DM, (insD x l).length = l.length + 1
  | [] => rfl
  | y :: l => by
    unfold insD
    split
    · rfl
    · rw [List.length_cons, insD_len x l, List.length_cons]
theorem dsort_len (l : List DM) : (dsort l).length = l.length := by
  have : ∀ (l o : List DM), (l.foldl (fun o x => insD x o) o).length = l.length + o.length := by
    intro l
    induction l with
    | nil => intro o; simp
    | cons x l ih => intro o; rw [List.foldl_cons, ih, insD_len, List.length_cons]; omega
  unfold dsort
  rw [this]; rfl
theorem above_len (R : Nat → List DM) (s f : Int) : (aboveD R s f).length ≤ totD R := by
  unfold aboveD totD
  rw [dsort_len]
  exact List.length_filter_le _ _
/-- A row that was made and is kept. -/
theorem row_kept {Q : Nat → Prop} {s : Nat} {w w' : World} {v : Value} {l : List Msg} {A : List DM} (ho : Own6 s w v l) (hD : DL w l A) (hP : DepsAll (fun _ => True) w l) (k : Keep (fun k => Q k ∨ U32 w k) w w') (hq : ∀ g, s ≤ g → g < w.heap.size → Q g) : MAt w' v l ∧ DL w' l A := by
  have h1 : Own6 s w' v l := Own6.keep ho k fun g hg => Or.inl (hq g (World.ownsRow.lt ho g hg).1 (World.ownsRow.lt ho g hg).2)
  have h2 : DepsAll (fun k => Q k ∨ U32 w k) w l := hP.u32.mono fun k hk => Or.inr hk.2
  exact ⟨h1.at, hD.keep h2 k⟩

set_option maxRecDepth 100000 in
set_option maxHeartbeats 4000000 in
theorem w_HoldCopies (v : Value) (l : List ActM) (L : List ActD) (at_ : Int) (w : World) (h : AAt w v l) (hL : AL w l L) (ho : ∀ X ∈ L, ADok X) (hd : ∀ x ∈ l, x.m.dl ≤ 9223372036854775807 ∧ x.m.pay.size ≤ 9223372036854775807) (hn : l.length ≤ 4611686018427387904) (hat : -9223372036854775808 ≤ at_ ∧ at_ ≤ 9223372036854775807) :
    Calls Try.prog 12 #[v, .int .i64 at_] w fun e w' => e = .returned (.bool true) ∧ Bw w w' := by
  obtain ⟨a, cap, rfl⟩ := h.form
  have HM1 := Lib.hid h
  have HL1 := Lib.hid hL
  have HS := Lib.hid hd
  have HOK := Lib.hid ho
  clear h hL hd ho
  go_enter Try.func12, Try.ntmps12
  go_wp2_with fail
  refine (c_awake12 w).mono ?_
  rintro e w1 ⟨rfl, hb1⟩
  have B1 := Lib.hid hb1
  clear hb1
  go_wp2_with fail
  refine (c_Few12 _ l w1 (HM1.out.bw B1.out) hn HS.out).mono ?_
  rintro e w2 ⟨few, rfl, hf, hb2⟩
  have B2 := Lib.hid (B1.out.trans hb2)
  have HF2 := Lib.hid hf
  clear B1 hb2 hf hn
  cases few with
  | false =>
    go_wp2
    go_ret
    exact ⟨rfl, B2.out⟩
  | true =>
    by_cases hat0 : at_ < 0
    · go_wp2
      go_ret
      exact ⟨rfl, B2.out⟩
    have hat0d : decide (at_ < 0) = false := decide_eq_false hat0
    by_cases hat1 : (l.length : Int) < at_
    · go_wp2
      go_ret
      exact ⟨rfl, B2.out⟩
    have hat1d : decide ((l.length : Int) < at_) = false := decide_eq_false hat1
    obtain ⟨n, rfl⟩ : ∃ n : Nat, at_ = (n : Int) := ⟨at_.toNat, by omega⟩
    have hnl : n ≤ l.length := by omega
    obtain ⟨hn3, hdl⟩ := HF2.out rfl
    have HDL := Lib.hid hdl
    have hLl : L.length ≤ 200 := by rw [← HL1.out.1]; exact hn3
    clear hdl HF2
    go_wp2_with fail
    refine (hf_New w2).mono ?_
    rintro e w3 ⟨rfl, h3, hb3⟩
    obtain ⟨b, hb⟩ : ∃ b, b = w2.heap.size := ⟨_, rfl⟩
    rw [← hb] at h3 ⊢
    have hwb : w.heap.size ≤ b := by rw [hb]; exact B2.out.size
    have H3 : Hid (HF (fun k => k < w.heap.size) w3 b (lrL L 0) (lrR L 0)) := h3.less fun k hk => by have hk' : k < w.heap.size := hk; show k < b; omega
    have B3 := Lib.hid (B2.out.trans hb3)
    clear h3 hb hb3 B2 hat0 hat0d hat1 hat1d
    go_wp2_with fail
    go_loopw [7] (fun vi wr => ∃ i : Nat, vi = .int .i64 i ∧ i ≤ n ∧ Hid (HF (fun k => k < w.heap.size) wr b (lrL L i) (lrR L i)) ∧ Hid (Bw w wr)) (fun vi _ => n - (intOf vi).toNat)
    case atStart => exact ⟨0, rfl, by omega, H3.out, B3.out⟩
    case round =>
      obtain ⟨i, rfl, hi, hH, hB⟩ := hrel
      by_cases hlt : i < n
      · have hltz : (i : Int) < (n : Int) := by omega
        have hltl : i < l.length := by omega
        have hltlz : (i : Int) < (l.length : Int) := by omega
        obtain ⟨bl, of, c1, q1, hbl, h9⟩ := (HM1.out.bw hB.out).nine (by omega)
        simp only [Value.slice.injEq, true_and] at q1
        obtain ⟨rfl, rfl⟩ := q1
        have gx := h9 i hltl
        have rx := (HL1.out.2 i hltl).bw hB.out
        have dx := HDL.out l[i]! (by rw [getElem!_pos l i hltl]; exact List.getElem_mem hltl)
        have ox := HOK.out L[i]! (by rw [getElem!_pos L i (by rw [← HL1.out.1]; exact hltl)]; exact List.getElem_mem _)
        have hst := lr_step L (i := i) (by rw [← HL1.out.1]; exact hltl)
        obtain ⟨x, hx⟩ : ∃ x, x = l[i]! := ⟨_, rfl⟩
        obtain ⟨X, hX⟩ : ∃ X, X = L[i]! := ⟨_, rfl⟩
        rw [← hx] at gx rx dx
        rw [← hX] at rx ox hst
        have HC := Lib.hid (c_do hH.out (lr_bnd L i (by omega)) x X rx dx ox)
        rw [← hst.1, ← hst.2] at HC
        obtain ⟨x0, x1, x2, x3, x4, x5, x6, x7, x8⟩ := gx
        clear hx hX h9 rx dx ox hst
        go_wp2_with fail
        refine HC.out.mono ?_
        rintro e we ⟨rfl, h1, h2⟩
        have HE := Lib.hid h1
        have BE : Hid (Bw w we) := Below.trans hB.out ((h2.mono fun k hk => Or.inl hk).below hB.out.size fun k hk => hk)
        clear h1 h2 HC
        go_wp2_with fail
        go_roundw
        case rel => exact ⟨i + 1, by go_num, by omega, HE.out, BE.out⟩
        case measure => first | (simp [intOf]; done) | (simp [intOf]; omega)
      · obtain rfl : i = n := by omega
        go_wp2_with fail
        refine (hf_Copy hH.out (lr_bnd L i (by omega))).mono ?_
        rintro e w4 ⟨rfl, hc4, hb4⟩
        obtain ⟨s1, hs1⟩ : ∃ s1, s1 = wr.heap.size := ⟨_, rfl⟩
        rw [← hs1] at hc4 ⊢
        have hws1 : w.heap.size ≤ s1 := by rw [hs1]; exact hB.out.size
        have HS1 := Lib.hid hs1
        clear hs1
        have HA4 := Lib.hid (hH.out.bw hb4)
        go_wp2_with fail
        refine (hf_Above2 HA4.out (by have := (lr_bnd L i hLl).tot; omega) 0 0).mono ?_
        rintro e w5 ⟨v5, l5, rfl, t1, t2, t3, t4, t5⟩
        obtain ⟨A, hA⟩ : ∃ A, A = aboveD (lrR L i) 0 0 := ⟨_, rfl⟩
        rw [← hA] at t2
        obtain ⟨s5, hs5⟩ : ∃ s5, s5 = w5.heap.size := ⟨_, rfl⟩
        have hs4 : s1 ≤ w4.heap.size := by rw [HS1.out]; exact hb4.size
        have hs45 : w4.heap.size ≤ s5 := by rw [hs5]; exact t5.size
        have hs15 : s1 ≤ s5 := by omega
        have HAA := Lib.hid hA
        have HO5 := Lib.hid t1
        have HD5 := Lib.hid t2
        have HP5 := Lib.hid (t3.mono (P' := fun _ => True) fun _ _ => trivial)
        have HQ5 := Lib.hid t4
        have B5 := Lib.hid ((hB.out.trans hb4).trans t5)
        have HH5 : Hid (HF (fun k => k < w.heap.size ∨ (s1 ≤ k ∧ k < s5)) w5 b (lrL L i) (lrR L i)) := by
          have := hH.out.add (hb4.trans t5)
          rw [← HS1.out, ← hs5] at this
          exact this
        have HC5 : Hid (HF (fun k => k < s1 ∨ (s5 ≤ k ∧ k < w5.heap.size)) w5 s1 (lrL L i) (lrR L i)) := (hc4.bw t5).less fun k hk => by
          rcases hk with hk | hk
          · exact hk
          · omega
        have HS5 := Lib.hid hs5
        have HS4 := Lib.hid hs4
        clear hc4 hb4 t1 t2 t3 t4 t5 hA hs4 hs45 hs5 HA4 hH hB
        go_wp2_with fail
        go_loopw [10] (fun vi wr => ∃ j : Nat, vi = .int .i64 j ∧ i ≤ j ∧ j ≤ l.length ∧ Hid (HF (fun k => k < w.heap.size ∨ (s1 ≤ k ∧ k < s5)) wr b (lrL L j) (lrR L j)) ∧ Hid (HF (fun k => k < s1 ∨ (s5 ≤ k ∧ k < wr.heap.size)) wr s1 (lrL L i) (lrR L i)) ∧ Hid (Keep (fun k => (k < w.heap.size ∨ (s1 ≤ k ∧ k < s5)) ∨ U32 w5 k) w5 wr) ∧ Hid (Bw w wr)) (fun vi _ => l.length - (intOf vi).toNat)
        case atStart => exact ⟨i, rfl, by omega, by omega, HH5.out, HC5.out, Keep.refl _ _, B5.out⟩
        case round =>
          obtain ⟨j, rfl, hij, hj, hH, hC, hK, hB⟩ := hrel
          by_cases hlt : j < l.length
          · have hltz : (j : Int) < (l.length : Int) := by omega
            obtain ⟨bl, of, c1, q1, hbl, h9⟩ := (HM1.out.bw hB.out).nine (by omega)
            simp only [Value.slice.injEq, true_and] at q1
            obtain ⟨rfl, rfl⟩ := q1
            have gx := h9 j hlt
            have rx := (HL1.out.2 j hlt).bw hB.out
            have dx := HDL.out l[j]! (by rw [getElem!_pos l j hlt]; exact List.getElem_mem hlt)
            have ox := HOK.out L[j]! (by rw [getElem!_pos L j (by rw [← HL1.out.1]; exact hlt)]; exact List.getElem_mem _)
            have hst := lr_step L (i := j) (by rw [← HL1.out.1]; exact hlt)
            obtain ⟨x, hx⟩ : ∃ x, x = l[j]! := ⟨_, rfl⟩
            obtain ⟨X, hX⟩ : ∃ X, X = L[j]! := ⟨_, rfl⟩
            rw [← hx] at gx rx dx
            rw [← hX] at rx ox hst
            have HC := Lib.hid (c_do hH.out (lr_bnd L j (by omega)) x X rx dx ox)
            rw [← hst.1, ← hst.2] at HC
            obtain ⟨x0, x1, x2, x3, x4, x5, x6, x7, x8⟩ := gx
            clear hx hX h9 rx dx ox hst
            go_wp2_with fail
            refine HC.out.mono ?_
            rintro e we ⟨rfl, h1, h2⟩
            have HE := Lib.hid h1
            have HK2 := Lib.hid h2
            have BE : Hid (Bw w we) := Below.trans hB.out ((h2.mono fun k hk => Or.inl (Or.inl hk)).below hB.out.size fun k hk => hk)
            clear h1 h2 HC
            go_wp2_with fail
            go_roundw
            case rel =>
              refine ⟨j + 1, by go_num, by omega, by omega, HE.out, ?_, keep_on hK.out HK2.out, BE.out⟩
              have hg := hC.out.grow HK2.out (fun k hk hl => Or.inl (Or.inr (by omega))) (fun k hk => Or.inr hk)
              exact hg.less fun k hk => by omega
            case measure => first | (simp [intOf]; done) | (simp [intOf]; omega)
          · obtain rfl : j = l.length := by omega
            go_wp2_with fail
            have hT : totD (lrR L i) ≤ 1000000 := Nat.le_trans (lr_bnd L i hLl).tot (by decide)
            have HAB := Lib.hid (hf_Above2 hC.out hT 0 0)
            rw [← HAA.out] at HAB
            clear hT
            refine HAB.out.mono ?_
            rintro e w6 ⟨v6, l6, rfl, t1, t2, t3, t4, t5⟩
            clear HAB
            have hl6 : l6.length ≤ 1000000 := by
              have h1 := above_len (lrR L i) 0 0
              have h2 := (lr_bnd L i hLl).tot
              rw [← HAA.out] at h1
              rw [t2.1]
              omega
            obtain ⟨h5a, h5b⟩ := row_kept HO5.out HD5.out HP5.out hK.out fun g h1 h2 => Or.inr ⟨Nat.le_trans HS4.out h1, by rw [HS5.out]; exact h2⟩
            have hR := c_rAll v6 v5 l6 l5 A A w6 t1.at t2 (h5a.bw t5) (h5b.bw t5) hl6 (fun x hx => by have := t4 x hx; omega)
            rw [decide_eq_true (rfl : A = A)] at hR
            have HR := Lib.hid hR
            clear hR
            have HH6 := Lib.hid (hH.out.bw t5)
            have HC6 := Lib.hid (hC.out.add t5)
            have B6 := Lib.hid (hB.out.trans t5)
            have HZ6 := Lib.hid t5.size
            clear t1 t2 t3 t4 t5 hl6 h5a h5b
            go_wp2_with fail
            refine HR.out.mono ?_
            rintro e w7 ⟨rfl, hb7⟩
            obtain ⟨s7, hs7⟩ : ∃ s7, s7 = w7.heap.size := ⟨_, rfl⟩
            have H7 : Hid (HF (fun k => (k < w.heap.size ∨ (s1 ≤ k ∧ k < s5)) ∨ (s7 ≤ k ∧ k < w7.heap.size)) w7 b (lrL L l.length) (lrR L l.length)) := (HH6.out.bw hb7).less fun k hk => by
              rcases hk with hk | hk
              · exact hk
              · omega
            have C7 : Hid (HF (fun k => k < s1 ∨ (s5 ≤ k ∧ k < s7)) w7 s1 (lrL L i) (lrR L i)) := (HC6.out.add hb7).less fun k hk => by
              have h1 := HZ6.out
              have h3 := hK.out.size
              have h4 := HS5.out
              have hk2 : k < s1 ∨ (s5 ≤ k ∧ k < s7) := hk
              by_cases c1 : k < wr.heap.size
              · left; left; omega
              · by_cases c2 : k < w6.heap.size
                · left; right; omega
                · right; omega
            have B7 := Lib.hid (B6.out.trans hb7)
            have Z7 : Hid (s1 ≤ s7) := by
              have h1 := HZ6.out
              have h2 := hb7.size
              have h3 := hK.out.size
              have h4 := HS5.out
              show s1 ≤ s7
              omega
            have HS7 := Lib.hid hs7
            clear hs7 hb7 HR HH6 HC6 B6 HZ6 hH hC hK hB
            go_wp2_with fail
            go_loopw [11] (fun vi wr => ∃ j : Nat, vi = .int .i64 j ∧ i ≤ j ∧ j ≤ l.length ∧ Hid (HF (fun k => k < s1 ∨ (s5 ≤ k ∧ k < s7)) wr s1 (lrL L j) (lrR L j)) ∧ Hid (HF (fun k => (k < w.heap.size ∨ (s1 ≤ k ∧ k < s5)) ∨ (s7 ≤ k ∧ k < wr.heap.size)) wr b (lrL L l.length) (lrR L l.length)) ∧ Hid (Bw w wr)) (fun vi _ => l.length - (intOf vi).toNat)
            case atStart => exact ⟨i, rfl, by omega, by omega, C7.out, H7.out, B7.out⟩
            case round =>
              obtain ⟨j, rfl, hij, hj, hC, hH, hB⟩ := hrel
              by_cases hlt : j < l.length
              · have hltz : (j : Int) < (l.length : Int) := by omega
                obtain ⟨bl, of, c1, q1, hbl, h9⟩ := (HM1.out.bw hB.out).nine (by omega)
                simp only [Value.slice.injEq, true_and] at q1
                obtain ⟨rfl, rfl⟩ := q1
                have gx := h9 j hlt
                have rx := (HL1.out.2 j hlt).bw hB.out
                have dx := HDL.out l[j]! (by rw [getElem!_pos l j hlt]; exact List.getElem_mem hlt)
                have ox := HOK.out L[j]! (by rw [getElem!_pos L j (by rw [← HL1.out.1]; exact hlt)]; exact List.getElem_mem _)
                have hst := lr_step L (i := j) (by rw [← HL1.out.1]; exact hlt)
                obtain ⟨x, hx⟩ : ∃ x, x = l[j]! := ⟨_, rfl⟩
                obtain ⟨X, hX⟩ : ∃ X, X = L[j]! := ⟨_, rfl⟩
                rw [← hx] at gx rx dx
                rw [← hX] at rx ox hst
                have HC := Lib.hid (c_do hC.out (lr_bnd L j (by omega)) x X rx dx ox)
                rw [← hst.1, ← hst.2] at HC
                obtain ⟨x0, x1, x2, x3, x4, x5, x6, x7, x8⟩ := gx
                clear hx hX h9 rx dx ox hst
                go_wp2_with fail
                refine HC.out.mono ?_
                rintro e we ⟨rfl, h1, h2⟩
                have HE := Lib.hid h1
                have HK2 := Lib.hid h2
                have BE : Hid (Bw w we) := Below.trans hB.out ((h2.mono fun k hk => Or.inl (Or.inl (Nat.lt_of_lt_of_le hk hws1))).below hB.out.size fun k hk => hk)
                clear h1 h2 HC
                go_wp2_with fail
                go_roundw
                case rel =>
                  refine ⟨j + 1, by go_num, by omega, by omega, HE.out, ?_, BE.out⟩
                  have hg := hH.out.grow HK2.out (fun k hk hl => Or.inl (by omega)) (fun k hk => Or.inr hk)
                  exact hg.less fun k hk => by omega
                case measure => first | (simp [intOf]; done) | (simp [intOf]; omega)
              · obtain rfl : j = l.length := by omega
                have hT : totD (lrR L l.length) ≤ 1000000 := Nat.le_trans (lr_bnd L l.length hLl).tot (by decide)
                obtain ⟨A2, hA2⟩ : ∃ A, A = aboveD (lrR L l.length) 0 0 := ⟨_, rfl⟩
                have hAl : A2.length ≤ 1000000 := by rw [hA2]; exact Nat.le_trans (above_len _ 0 0) hT
                have HAB := Lib.hid (hf_Above2 hC.out hT 0 0)
                have HAH := Lib.hid (fun (w' : World) (hb : Bw wr w') => hf_Above2 (hH.out.bw hb) hT 0 0)
                rw [← hA2] at HAB HAH
                have HAL := Lib.hid hAl
                clear hT hA2 hAl
                go_wp2_with fail
                refine HAB.out.mono ?_
                rintro e w8 ⟨v8, l8, rfl, p1, p2, p3, p4, p5⟩
                have HX8 := Lib.hid (And.intro p1 (And.intro p2 (And.intro p4 p5)))
                clear p1 p2 p3 p4 p5
                go_wp2_with fail
                refine (HAH.out w8 HX8.out.2.2.2).mono ?_
                rintro e w9 ⟨v9, l9, rfl, p1, p2, p3, p4, p5⟩
                have hR := c_rAll v8 v9 l8 l9 A2 A2 w9 (HX8.out.1.at.bw p5) (HX8.out.2.1.bw p5) p1.at p2 (by rw [HX8.out.2.1.1]; exact HAL.out) (fun x hx => by have := HX8.out.2.2.1 x hx; omega)
                rw [decide_eq_true (rfl : A2 = A2)] at hR
                have HR := Lib.hid hR
                have B9 := Lib.hid ((hB.out.trans HX8.out.2.2.2).trans p5)
                have H9 := Lib.hid ((hH.out.bw HX8.out.2.2.2).bw p5)
                have C9 := Lib.hid ((hC.out.bw HX8.out.2.2.2).bw p5)
                clear p1 p2 p3 p4 p5 hR HAB HAH
                go_wp2_with fail
                refine HR.out.mono ?_
                rintro e w10 ⟨rfl, hb10⟩
                have H10 := Lib.hid (H9.out.bw hb10)
                have C10 := Lib.hid (C9.out.bw hb10)
                have B10 := Lib.hid (B9.out.trans hb10)
                clear hb10 HR H9 C9 B9
                obtain ⟨lw, hlw⟩ : ∃ x, x = lowH (lrL L l.length) 1 := ⟨_, rfl⟩
                obtain ⟨cn, hcn⟩ : ∃ x, x = cntH (lrL L l.length) (lrR L l.length) 1 := ⟨_, rfl⟩
                have L1 := Lib.hid (hf_Low C10.out 1)
                have L2 := Lib.hid (hf_Low H10.out 1)
                have N1 := Lib.hid (hf_Count C10.out (lr_bnd L l.length (by omega)) 1)
                have N2 := Lib.hid (fun (w' : World) (hb : Bw w10 w') => hf_Count (H10.out.bw hb) (lr_bnd L l.length (by omega)) 1)
                rw [← hlw] at L1 L2
                rw [← hcn] at N1 N2
                clear hlw hcn
                go_wp2_with fail
                refine L1.out.mono ?_
                rintro e w11 ⟨rfl, rfl⟩
                go_wp2_with fail
                refine L2.out.mono ?_
                rintro e w12 ⟨rfl, rfl⟩
                go_wp2_with fail
                refine N1.out.mono ?_
                rintro e w13 ⟨rfl, hg13⟩
                have G13 := Lib.hid hg13.bw
                clear hg13
                go_wp2_with fail
                refine (N2.out w13 G13.out).mono ?_
                rintro e w14 ⟨rfl, hg14⟩
                have G14 := Lib.hid hg14.bw
                clear hg14
                go_wp2
                go_ret
                exact ⟨rfl, (B10.out.trans G13.out).trans G14.out⟩
end Go.Proofs.Ytllmiaonlofeeaa
