/-
  KeySteady, walked. No conditions beyond what each theorem states.
-/
import Derived.Test.YtllmiaonlofeeaaLa
import Derived.Test.YtllmiaonlofeeaaPv
namespace Go.Proofs.Ytllmiaonlofeeaa
open Go.RowKit Go.Sort

theorem insM_perm (x : Msg) : ∀ l, (insM x l).Perm (x :: l)
  | [] => List.Perm.refl _
  | y :: l => by
    unfold insM
    split
    · exact List.Perm.refl _
    · exact ((insM_perm x l).cons y).trans (List.Perm.swap x y l)
theorem fold_perm : ∀ (l s : List Msg), (l.foldl (fun s x => insM x s) s).Perm (l ++ s)
  | [], _ => List.Perm.refl _
  | x :: l, s => by
    refine (fold_perm l (insM x s)).trans ?_
    exact ((insM_perm x s).append_left l).trans List.perm_middle
theorem ssort_perm (l : List Msg) : (ssort l).Perm l := by
  have := fold_perm l []
  rw [List.append_nil] at this
  exact this
theorem ssort_again (l : List Msg) : ssort (ssort l) = ssort l := one_list _ _ (ssort_srt _) (ssort_srt l) (ssort_same _)
theorem rising {l : List Msg} {i : Nat} (hi : i < (ssort l).length) (h0 : 0 < i) : keyCmp (ssort l)[i - 1]!.stamp (ssort l)[i - 1]!.frm (ssort l)[i]!.stamp (ssort l)[i]!.frm ≤ 0 := by
  have h := List.pairwise_iff_getElem.1 (ssort_srt l) (i - 1) i (by omega) hi (by omega)
  rw [getElem!_pos (ssort l) (i - 1) (by omega), getElem!_pos (ssort l) i hi]
  unfold klt at h
  rcases kc_all (ssort l)[i - 1].stamp (ssort l)[i - 1].frm (ssort l)[i].stamp (ssort l)[i].frm with ⟨k, _⟩ | ⟨k, _⟩ | ⟨k, k2⟩
  · omega
  · omega
  · omega

/-- How many of the first k read as d. -/
def cnt (l : List Msg) (D : Msg → DM) (d : DM) (k : Nat) : Nat := (l.take k).countP fun m => decide (D m = d)
theorem cnt_succ {l : List Msg} {D : Msg → DM} {d : DM} {k : Nat} (h : k < l.length) : cnt l D d (k + 1) = if D l[k]! = d then cnt l D d k + 1 else cnt l D d k := by
  unfold cnt
  rw [List.take_succ_eq_append_getElem h, List.countP_append, List.countP_singleton, getElem!_pos l k h]
  by_cases c : D l[k] = d <;> simp [c]
theorem cnt_le (l : List Msg) (D : Msg → DM) (d : DM) (k : Nat) : cnt l D d k ≤ k := by
  unfold cnt
  exact Nat.le_trans List.countP_le_length (by rw [List.length_take]; omega)
theorem cnt_sort (l : List Msg) (D : Msg → DM) (d : DM) : cnt l D d l.length = cnt (ssort l) D d l.length := by
  unfold cnt
  rw [List.take_length, ← ssort_length l, List.take_length]
  exact ((ssort_perm l).countP_eq _).symm

theorem DL.choose {w : World} {l : List Msg} {L : List DM} (h : DL w l L) : ∃ D : Msg → DM, ∀ x ∈ l, Reads w x (D x) := by
  classical
  exact ⟨fun x => if h : ∃ d, Reads w x d then Classical.choose h else default, fun x hx => by
    have e := h.each hx
    simp only [dif_pos e]
    exact Classical.choose_spec e⟩
theorem nth_mem {l : List Msg} {i : Nat} (h : i < l.length) : l[i]! ∈ l := by rw [getElem!_pos l i h]; exact List.getElem_mem h

set_option maxRecDepth 100000 in
set_option maxHeartbeats 4000000 in
theorem w_KeySteady (v : Value) (l : List Msg) (L : List DM) (w : World) (h : MAt w v l) (hD : DL w l L) (hd : ∀ x ∈ l, x.dl ≤ 9223372036854775807 ∧ x.pay.size ≤ 9223372036854775807) (hn : l.length ≤ 4611686018427387904) :
    Calls Try.prog 6 #[v] w fun e w' => e = .returned (.bool true) ∧ Bw w w' := by
  have mixed : Try.prog.follows .mixedOrders = true := by kernel_rfl
  obtain ⟨a, cap, rfl⟩ := h.form
  obtain ⟨D, hDD⟩ := hD.choose
  have HM1 := Lib.hid h
  have HD1 := Lib.hid hD
  have HDD := Lib.hid hDD
  have HS := Lib.hid hd
  have HN := Lib.hid hn
  clear h hD hd hn hDD
  go_enter Try.func6, Try.ntmps6
  go_wp2_with fail
  refine (c_awake3 _).mono ?_
  rintro e w1 ⟨rfl, hb1⟩
  have B1 := Lib.hid hb1
  clear hb1
  go_wp2_with fail
  refine (c_Few3 _ l w1 (HM1.out.bw B1.out) HN.out HS.out).mono ?_
  rintro e w2 ⟨b, rfl, hf, hb2⟩
  have B2 := Lib.hid (B1.out.trans hb2)
  clear hb2 B1
  cases b with
  | false =>
    go_wp2
    go_ret
    exact ⟨rfl, B2.out⟩
  | true =>
    clear hf
    by_cases h60 : l.length ≤ 60
    case neg =>
      have h60z : (60 : Int) < (l.length : Int) := by omega
      go_wp2_with fail
      go_ret
      exact ⟨rfl, B2.out⟩
    have h60z : (l.length : Int) ≤ (60 : Int) := by omega
    have h60d : decide ((60 : Int) < (l.length : Int)) = false := decide_eq_false (by omega)
    go_wp2_with fail
    refine (c_Sort _ l w2 (HM1.out.bw B2.out) (by omega)).mono ?_
    rintro e w3 ⟨v3, rfl, ho3, hb3⟩
    have hm3 := ho3.at
    obtain ⟨a3, c3, rfl⟩ := hm3.form
    have M3 := Lib.hid hm3
    have B3 := Lib.hid (B2.out.trans hb3)
    have SL := Lib.hid (ssort_length l)
    rw [SL.out] at M3 ⊢
    clear hm3 ho3 hb3 B2
    have hbne : ((l.length : Int) != (l.length : Int)) = false := by simp
    go_wp2_with fail
    refine (c_Sort _ (ssort l) w3 M3.out (by rw [SL.out]; omega)).mono ?_
    rintro e w4 ⟨v4, rfl, ho4, hb4⟩
    rw [ssort_again] at ho4
    have HO4 := Lib.hid ho4
    have B4 := Lib.hid hb4
    clear ho4 hb4
    obtain ⟨L', hL'⟩ := HD1.out.sub (l' := ssort l) fun x hx => ssort_mem hx
    have HL' := Lib.hid hL'
    clear hL'
    go_wp2_with fail
    refine (c_rAll v4 _ (ssort l) (ssort l) L' L' w4 HO4.out.at (HL'.out.bw (B3.out.trans B4.out)) (M3.out.bw B4.out) (HL'.out.bw (B3.out.trans B4.out)) (by rw [SL.out]; omega) (fun x hx => (HS.out x (ssort_mem hx)).1)).mono ?_
    rw [decide_eq_true rfl]
    rintro e w5 ⟨rfl, hb5⟩
    have B5 := Lib.hid ((B3.out.trans B4.out).trans hb5)
    have M5 : Hid (MAt w5 (.slice a3 l.length c3) (ssort l)) := M3.out.bw (B4.out.trans hb5)
    have N5 : Hid (MAt w5 (.slice a l.length cap) l) := HM1.out.bw B5.out
    have R5 : Hid (∀ x ∈ l, Reads w5 x (D x)) := fun x hx => (HDD.out x hx).bw B5.out
    clear hb5 B3 B4 HO4 M3 HL'
    go_wp2_with fail
    go_loopw [4] (fun vi wr => ∃ i : Nat, vi = .int .i64 i ∧ i ≤ l.length ∧ Hid (Gr w5 wr)) (fun vi _ => l.length - (intOf vi).toNat)
    case atStart => exact ⟨0, rfl, by omega, Gr.refl _⟩
    case round =>
      obtain ⟨i, rfl, hi, hG5⟩ := hrel
      by_cases hlt : i < l.length
      case neg =>
        obtain rfl : i = l.length := by omega
        go_wp2
        go_ret
        exact ⟨rfl, B5.out.trans hG5.out.bw⟩
      have hltz : (i : Int) < (l.length : Int) := by omega
      have ms := M5.out.bw hG5.out.bw
      obtain ⟨bs, os_, c1, q1⟩ := ms.nil (by rw [SL.out]; omega)
      rw [SL.out] at q1
      simp only [Value.slice.injEq, true_and] at q1
      obtain ⟨rfl, rfl⟩ := q1
      have sixS := Lib.hid (fun (W : World) (hW : Gr w5 W) (j : Nat) (hj : j < l.length) => ((M5.out.bw hW.bw).six (by omega)).2.2 j hj |>.grown ((M5.out.bw hW.bw).six (by omega)).2.1)
      obtain ⟨bl, ol, cl, q2⟩ := N5.out.nil (by omega)
      simp only [Value.slice.injEq, true_and] at q2
      obtain ⟨rfl, rfl⟩ := q2
      have sixL := Lib.hid (fun (W : World) (hW : Gr w5 W) (j : Nat) (hj : j < l.length) => ((N5.out.bw hW.bw).six (by omega)).2.2 j hj |>.grown ((N5.out.bw hW.bw).six (by omega)).2.1)
      obtain ⟨z, hz⟩ : ∃ z, z = (ssort l)[i]! := ⟨_, rfl⟩
      have gz := Lib.hid (fun (W : World) (hW : Gr w5 W) => by have := sixS.out W hW i hlt; rw [← hz] at this; exact this)
      have zin : z ∈ l := by rw [hz]; exact ssort_mem (nth_mem (by rw [SL.out]; exact hlt))
      have ZIN := Lib.hid zin
      have HZ := Lib.hid hz
      clear ms zin hz
      by_cases hi0 : 0 < i
      · have hi0z : (0 : Int) < (i : Int) := by omega
        obtain ⟨p, hp⟩ : ∃ p, p + 1 = i := ⟨i - 1, by omega⟩
        have hr := rising (l := l) (i := i) (by rw [SL.out]; exact hlt) hi0
        rw [← HZ.out, show i - 1 = p by omega] at hr
        have gp := sixS.out wr hG5.out p (by omega)
        obtain ⟨y, hy⟩ : ∃ y, y = (ssort l)[p]! := ⟨_, rfl⟩
        rw [← hy] at gp hr
        have hrd : decide ((0 : Int) < keyCmp y.stamp y.frm z.stamp z.frm) = false := decide_eq_false (by omega)
        have hw : IntKind.i64.wrap ((i : Int) - 1) = (p : Int) := by rw [IntKind.wrap_i64]; omega
        have hpz : (0 : Int) ≤ (p : Int) := by omega
        have hpl : (p : Int) < (l.length : Int) := by omega
        have HP := Lib.hid hp
        have gzz := gz.out wr hG5.out
        obtain ⟨y0, y1, y2, y3, y4, y5⟩ := gp
        obtain ⟨z0, z1, z2, z3, z4, z5⟩ := gzz
        clear hy hp
        go_wp2_with fail
        go_quiet_grown (first | (go_at_call 22; with_reducible exact grown_of_Gr (c_Of _ _ _ _ _ _ _)) | (go_at_call 18; with_reducible exact grown_of_Gr (c_Compare _ _ _ _ _)))
        have hGo : Gr w5 (grow (wr.drewN nq) osq) := hG5.out.trans ⟨nq, osq, rfl⟩
        clear y0 y1 y2 y3 y4 y5 z0 z1 z2 z3 z4 z5 hr hrd hw hpz hpl
        generalize grow (wr.drewN nq) osq = wo at hGo ⊢
        have HGO := Lib.hid hGo
        clear hGo
        go_wp2_with fail
        go_loopw [5, 6, 7] (fun vx vy vk wr => ∃ k : Nat, vx = .int .i64 (cnt l D (D z) k) ∧ vy = .int .i64 (cnt (ssort l) D (D z) k) ∧ vk = .int .i64 k ∧ k ≤ l.length ∧ Hid (Gr wo wr)) (fun _ _ vk _ => l.length - (intOf vk).toNat)
        case atStart => exact ⟨0, rfl, rfl, rfl, by omega, Gr.refl _⟩
        case round =>
          obtain ⟨k, rfl, rfl, rfl, hk, hG⟩ := hrel
          by_cases hlk : k < l.length
          · have hlkz : (k : Int) < (l.length : Int) := by omega
            have s1 := cnt_succ (D := D) (d := D z) hlk
            have s2 := cnt_succ (l := ssort l) (D := D) (d := D z) (k := k) (by rw [SL.out]; exact hlk)
            have le1 := cnt_le l D (D z) k
            have le2 := cnt_le (ssort l) D (D z) k
            obtain ⟨x, hx⟩ : ∃ x, x = l[k]! := ⟨_, rfl⟩
            obtain ⟨y, hy⟩ : ∃ y, y = (ssort l)[k]! := ⟨_, rfl⟩
            have xin : x ∈ l := by rw [hx]; exact nth_mem hlk
            have yin : y ∈ l := by rw [hy]; exact ssort_mem (nth_mem (by rw [SL.out]; exact hlk))
            rw [← hx] at s1
            rw [← hy] at s2
            generalize cnt l D (D z) k = cx at s1 le1 ⊢
            generalize cnt (ssort l) D (D z) k = cy at s2 le2 ⊢
            have S1 := Lib.hid s1
            have S2 := Lib.hid s2
            have HC1 : Hid (∀ (B : Bool), decide (D x = D z) = B → ∀ (n : Nat) (os : Array Obj), Calls Try.prog 23 #[.agg #[.int .i64 x.frm, .int .u32 x.seq, .int .u64 x.stamp, .int .i64 x.svc, .slice x.da x.dl x.dc, .string x.pay], .agg #[.int .i64 z.frm, .int .u32 z.seq, .int .u64 z.stamp, .int .i64 z.svc, .slice z.da z.dl z.dc, .string z.pay]] (grow (wr.drewN n) os) fun e w' => e = .returned (.bool B) ∧ Gr (grow (wr.drewN n) os) w') := by
              intro B hB n os
              have hg : Gr w5 (grow (wr.drewN n) os) := (HGO.out.trans hG.out).trans ⟨n, os, rfl⟩
              have := c_rSame x z (D x) (D z) (grow (wr.drewN n) os) ((R5.out x xin).bw hg.bw) ((R5.out z ZIN.out).bw hg.bw) (HS.out x xin).1
              rwa [hB] at this
            have HC2 : Hid (∀ W, Gr wo W → ∀ (B : Bool), decide (D y = D z) = B → ∀ (n : Nat) (os : Array Obj), Calls Try.prog 23 #[.agg #[.int .i64 y.frm, .int .u32 y.seq, .int .u64 y.stamp, .int .i64 y.svc, .slice y.da y.dl y.dc, .string y.pay], .agg #[.int .i64 z.frm, .int .u32 z.seq, .int .u64 z.stamp, .int .i64 z.svc, .slice z.da z.dl z.dc, .string z.pay]] (grow (W.drewN n) os) fun e w' => e = .returned (.bool B) ∧ Gr (grow (W.drewN n) os) w') := by
              intro W hW B hB n os
              have hg : Gr w5 (grow (W.drewN n) os) := (HGO.out.trans hW).trans ⟨n, os, rfl⟩
              have := c_rSame y z (D y) (D z) (grow (W.drewN n) os) ((R5.out y yin).bw hg.bw) ((R5.out z ZIN.out).bw hg.bw) (HS.out y yin).1
              rwa [hB] at this
            have HSY := Lib.hid (fun (W : World) (hW : Gr wo W) => by have := sixS.out W (HGO.out.trans hW) k hlk; rw [← hy] at this; exact this)
            have HSZ := Lib.hid (fun (W : World) (hW : Gr wo W) => gz.out W (HGO.out.trans hW))
            have gx := sixL.out wr (HGO.out.trans hG.out) k hlk
            rw [← hx] at gx
            have gzz := HSZ.out wr hG.out
            clear hx hy s1 s2 xin yin
            obtain ⟨x0, x1, x2, x3, x4, x5⟩ := gx
            obtain ⟨z0, z1, z2, z3, z4, z5⟩ := gzz
            by_cases hx : D x = D z
            · by_cases hy : D y = D z
              · have C1 := Lib.hid (HC1.out true (decide_eq_true hx))
                go_wp2_with fail
                go_quiet_grown (first | (go_at_call 23; with_reducible exact grown_of_Gr (C1.out _ _)))
                have hGB : Gr wo (grow (wr.drewN nq) osq) := hG.out.trans ⟨nq, osq, rfl⟩
                have C2 := Lib.hid (HC2.out _ hGB true (decide_eq_true hy))
                have sy := HSY.out _ hGB
                have sz := HSZ.out _ hGB
                clear x0 x1 x2 x3 x4 x5 z0 z1 z2 z3 z4 z5 C1
                generalize grow (wr.drewN nq) osq = wb at hGB C2 sy sz ⊢
                have HGB := Lib.hid hGB
                clear hGB
                obtain ⟨y0, y1, y2, y3, y4, y5⟩ := sy
                obtain ⟨z0, z1, z2, z3, z4, z5⟩ := sz
                have HX := Lib.hid hx
                have HY := Lib.hid hy
                clear hx hy
                go_wp2_with fail
                go_quiet_grown (first | (go_at_call 23; with_reducible exact grown_of_Gr (C2.out _ _)))
                go_wp2_with fail
                go_roundw
                case rel => exact ⟨k + 1, by rw [S1.out, if_pos HX.out]; try go_num, by rw [S2.out, if_pos HY.out]; try go_num, by go_num, by omega, HGB.out.trans ⟨nq, osq, rfl⟩⟩
                case measure => first | (simp [intOf]; done) | (simp [intOf]; omega)
              · have C1 := Lib.hid (HC1.out true (decide_eq_true hx))
                go_wp2_with fail
                go_quiet_grown (first | (go_at_call 23; with_reducible exact grown_of_Gr (C1.out _ _)))
                have hGB : Gr wo (grow (wr.drewN nq) osq) := hG.out.trans ⟨nq, osq, rfl⟩
                have C2 := Lib.hid (HC2.out _ hGB false (decide_eq_false hy))
                have sy := HSY.out _ hGB
                have sz := HSZ.out _ hGB
                clear x0 x1 x2 x3 x4 x5 z0 z1 z2 z3 z4 z5 C1
                generalize grow (wr.drewN nq) osq = wb at hGB C2 sy sz ⊢
                have HGB := Lib.hid hGB
                clear hGB
                obtain ⟨y0, y1, y2, y3, y4, y5⟩ := sy
                obtain ⟨z0, z1, z2, z3, z4, z5⟩ := sz
                have HX := Lib.hid hx
                have HY := Lib.hid hy
                clear hx hy
                go_wp2_with fail
                go_quiet_grown (first | (go_at_call 23; with_reducible exact grown_of_Gr (C2.out _ _)))
                go_wp2_with fail
                go_roundw
                case rel => exact ⟨k + 1, by rw [S1.out, if_pos HX.out]; try go_num, by rw [S2.out, if_neg HY.out]; try go_num, by go_num, by omega, HGB.out.trans ⟨nq, osq, rfl⟩⟩
                case measure => first | (simp [intOf]; done) | (simp [intOf]; omega)
            · by_cases hy : D y = D z
              · have C1 := Lib.hid (HC1.out false (decide_eq_false hx))
                go_wp2_with fail
                go_quiet_grown (first | (go_at_call 23; with_reducible exact grown_of_Gr (C1.out _ _)))
                have hGB : Gr wo (grow (wr.drewN nq) osq) := hG.out.trans ⟨nq, osq, rfl⟩
                have C2 := Lib.hid (HC2.out _ hGB true (decide_eq_true hy))
                have sy := HSY.out _ hGB
                have sz := HSZ.out _ hGB
                clear x0 x1 x2 x3 x4 x5 z0 z1 z2 z3 z4 z5 C1
                generalize grow (wr.drewN nq) osq = wb at hGB C2 sy sz ⊢
                have HGB := Lib.hid hGB
                clear hGB
                obtain ⟨y0, y1, y2, y3, y4, y5⟩ := sy
                obtain ⟨z0, z1, z2, z3, z4, z5⟩ := sz
                have HX := Lib.hid hx
                have HY := Lib.hid hy
                clear hx hy
                go_wp2_with fail
                go_quiet_grown (first | (go_at_call 23; with_reducible exact grown_of_Gr (C2.out _ _)))
                go_wp2_with fail
                go_roundw
                case rel => exact ⟨k + 1, by rw [S1.out, if_neg HX.out]; try go_num, by rw [S2.out, if_pos HY.out]; try go_num, by go_num, by omega, HGB.out.trans ⟨nq, osq, rfl⟩⟩
                case measure => first | (simp [intOf]; done) | (simp [intOf]; omega)
              · have C1 := Lib.hid (HC1.out false (decide_eq_false hx))
                go_wp2_with fail
                go_quiet_grown (first | (go_at_call 23; with_reducible exact grown_of_Gr (C1.out _ _)))
                have hGB : Gr wo (grow (wr.drewN nq) osq) := hG.out.trans ⟨nq, osq, rfl⟩
                have C2 := Lib.hid (HC2.out _ hGB false (decide_eq_false hy))
                have sy := HSY.out _ hGB
                have sz := HSZ.out _ hGB
                clear x0 x1 x2 x3 x4 x5 z0 z1 z2 z3 z4 z5 C1
                generalize grow (wr.drewN nq) osq = wb at hGB C2 sy sz ⊢
                have HGB := Lib.hid hGB
                clear hGB
                obtain ⟨y0, y1, y2, y3, y4, y5⟩ := sy
                obtain ⟨z0, z1, z2, z3, z4, z5⟩ := sz
                have HX := Lib.hid hx
                have HY := Lib.hid hy
                clear hx hy
                go_wp2_with fail
                go_quiet_grown (first | (go_at_call 23; with_reducible exact grown_of_Gr (C2.out _ _)))
                go_wp2_with fail
                go_roundw
                case rel => exact ⟨k + 1, by rw [S1.out, if_neg HX.out]; try go_num, by rw [S2.out, if_neg HY.out]; try go_num, by go_num, by omega, HGB.out.trans ⟨nq, osq, rfl⟩⟩
                case measure => first | (simp [intOf]; done) | (simp [intOf]; omega)
          · obtain rfl : k = l.length := by omega
            have hcs := cnt_sort l D (D z)
            rw [← hcs]
            have le1 := cnt_le l D (D z) l.length
            generalize cnt l D (D z) l.length = cx at le1 hcs ⊢
            have hcx : ((cx : Int) != (cx : Int)) = false := by simp
            clear hcs
            go_wp2_with fail
            go_roundw
            case rel => exact ⟨i + 1, by go_num, by omega, HGO.out.trans hG.out⟩
            case measure => first | (simp [intOf]; done) | (simp [intOf]; omega)
      · have hi0d : decide ((0 : Int) < (i : Int)) = false := decide_eq_false (by omega)
        have hi0z : ¬ (0 : Int) < (i : Int) := by omega
        go_wp2_with fail
        go_quiet (fail)
        have hGo : Gr w5 (wr.drewN nq) := hG5.out.trans ⟨nq, #[], by simp⟩
        generalize wr.drewN nq = wo at hGo ⊢
        have HGO := Lib.hid hGo
        clear hGo
        go_wp2_with fail
        go_loopw [5, 6, 7] (fun vx vy vk wr => ∃ k : Nat, vx = .int .i64 (cnt l D (D z) k) ∧ vy = .int .i64 (cnt (ssort l) D (D z) k) ∧ vk = .int .i64 k ∧ k ≤ l.length ∧ Hid (Gr wo wr)) (fun _ _ vk _ => l.length - (intOf vk).toNat)
        case atStart => exact ⟨0, rfl, rfl, rfl, by omega, Gr.refl _⟩
        case round =>
          obtain ⟨k, rfl, rfl, rfl, hk, hG⟩ := hrel
          by_cases hlk : k < l.length
          · have hlkz : (k : Int) < (l.length : Int) := by omega
            have s1 := cnt_succ (D := D) (d := D z) hlk
            have s2 := cnt_succ (l := ssort l) (D := D) (d := D z) (k := k) (by rw [SL.out]; exact hlk)
            have le1 := cnt_le l D (D z) k
            have le2 := cnt_le (ssort l) D (D z) k
            obtain ⟨x, hx⟩ : ∃ x, x = l[k]! := ⟨_, rfl⟩
            obtain ⟨y, hy⟩ : ∃ y, y = (ssort l)[k]! := ⟨_, rfl⟩
            have xin : x ∈ l := by rw [hx]; exact nth_mem hlk
            have yin : y ∈ l := by rw [hy]; exact ssort_mem (nth_mem (by rw [SL.out]; exact hlk))
            rw [← hx] at s1
            rw [← hy] at s2
            generalize cnt l D (D z) k = cx at s1 le1 ⊢
            generalize cnt (ssort l) D (D z) k = cy at s2 le2 ⊢
            have S1 := Lib.hid s1
            have S2 := Lib.hid s2
            have HC1 : Hid (∀ (B : Bool), decide (D x = D z) = B → ∀ (n : Nat) (os : Array Obj), Calls Try.prog 23 #[.agg #[.int .i64 x.frm, .int .u32 x.seq, .int .u64 x.stamp, .int .i64 x.svc, .slice x.da x.dl x.dc, .string x.pay], .agg #[.int .i64 z.frm, .int .u32 z.seq, .int .u64 z.stamp, .int .i64 z.svc, .slice z.da z.dl z.dc, .string z.pay]] (grow (wr.drewN n) os) fun e w' => e = .returned (.bool B) ∧ Gr (grow (wr.drewN n) os) w') := by
              intro B hB n os
              have hg : Gr w5 (grow (wr.drewN n) os) := (HGO.out.trans hG.out).trans ⟨n, os, rfl⟩
              have := c_rSame x z (D x) (D z) (grow (wr.drewN n) os) ((R5.out x xin).bw hg.bw) ((R5.out z ZIN.out).bw hg.bw) (HS.out x xin).1
              rwa [hB] at this
            have HC2 : Hid (∀ W, Gr wo W → ∀ (B : Bool), decide (D y = D z) = B → ∀ (n : Nat) (os : Array Obj), Calls Try.prog 23 #[.agg #[.int .i64 y.frm, .int .u32 y.seq, .int .u64 y.stamp, .int .i64 y.svc, .slice y.da y.dl y.dc, .string y.pay], .agg #[.int .i64 z.frm, .int .u32 z.seq, .int .u64 z.stamp, .int .i64 z.svc, .slice z.da z.dl z.dc, .string z.pay]] (grow (W.drewN n) os) fun e w' => e = .returned (.bool B) ∧ Gr (grow (W.drewN n) os) w') := by
              intro W hW B hB n os
              have hg : Gr w5 (grow (W.drewN n) os) := (HGO.out.trans hW).trans ⟨n, os, rfl⟩
              have := c_rSame y z (D y) (D z) (grow (W.drewN n) os) ((R5.out y yin).bw hg.bw) ((R5.out z ZIN.out).bw hg.bw) (HS.out y yin).1
              rwa [hB] at this
            have HSY := Lib.hid (fun (W : World) (hW : Gr wo W) => by have := sixS.out W (HGO.out.trans hW) k hlk; rw [← hy] at this; exact this)
            have HSZ := Lib.hid (fun (W : World) (hW : Gr wo W) => gz.out W (HGO.out.trans hW))
            have gx := sixL.out wr (HGO.out.trans hG.out) k hlk
            rw [← hx] at gx
            have gzz := HSZ.out wr hG.out
            clear hx hy s1 s2 xin yin
            obtain ⟨x0, x1, x2, x3, x4, x5⟩ := gx
            obtain ⟨z0, z1, z2, z3, z4, z5⟩ := gzz
            by_cases hx : D x = D z
            · by_cases hy : D y = D z
              · have C1 := Lib.hid (HC1.out true (decide_eq_true hx))
                go_wp2_with fail
                go_quiet_grown (first | (go_at_call 23; with_reducible exact grown_of_Gr (C1.out _ _)))
                have hGB : Gr wo (grow (wr.drewN nq) osq) := hG.out.trans ⟨nq, osq, rfl⟩
                have C2 := Lib.hid (HC2.out _ hGB true (decide_eq_true hy))
                have sy := HSY.out _ hGB
                have sz := HSZ.out _ hGB
                clear x0 x1 x2 x3 x4 x5 z0 z1 z2 z3 z4 z5 C1
                generalize grow (wr.drewN nq) osq = wb at hGB C2 sy sz ⊢
                have HGB := Lib.hid hGB
                clear hGB
                obtain ⟨y0, y1, y2, y3, y4, y5⟩ := sy
                obtain ⟨z0, z1, z2, z3, z4, z5⟩ := sz
                have HX := Lib.hid hx
                have HY := Lib.hid hy
                clear hx hy
                go_wp2_with fail
                go_quiet_grown (first | (go_at_call 23; with_reducible exact grown_of_Gr (C2.out _ _)))
                go_wp2_with fail
                go_roundw
                case rel => exact ⟨k + 1, by rw [S1.out, if_pos HX.out]; try go_num, by rw [S2.out, if_pos HY.out]; try go_num, by go_num, by omega, HGB.out.trans ⟨nq, osq, rfl⟩⟩
                case measure => first | (simp [intOf]; done) | (simp [intOf]; omega)
              · have C1 := Lib.hid (HC1.out true (decide_eq_true hx))
                go_wp2_with fail
                go_quiet_grown (first | (go_at_call 23; with_reducible exact grown_of_Gr (C1.out _ _)))
                have hGB : Gr wo (grow (wr.drewN nq) osq) := hG.out.trans ⟨nq, osq, rfl⟩
                have C2 := Lib.hid (HC2.out _ hGB false (decide_eq_false hy))
                have sy := HSY.out _ hGB
                have sz := HSZ.out _ hGB
                clear x0 x1 x2 x3 x4 x5 z0 z1 z2 z3 z4 z5 C1
                generalize grow (wr.drewN nq) osq = wb at hGB C2 sy sz ⊢
                have HGB := Lib.hid hGB
                clear hGB
                obtain ⟨y0, y1, y2, y3, y4, y5⟩ := sy
                obtain ⟨z0, z1, z2, z3, z4, z5⟩ := sz
                have HX := Lib.hid hx
                have HY := Lib.hid hy
                clear hx hy
                go_wp2_with fail
                go_quiet_grown (first | (go_at_call 23; with_reducible exact grown_of_Gr (C2.out _ _)))
                go_wp2_with fail
                go_roundw
                case rel => exact ⟨k + 1, by rw [S1.out, if_pos HX.out]; try go_num, by rw [S2.out, if_neg HY.out]; try go_num, by go_num, by omega, HGB.out.trans ⟨nq, osq, rfl⟩⟩
                case measure => first | (simp [intOf]; done) | (simp [intOf]; omega)
            · by_cases hy : D y = D z
              · have C1 := Lib.hid (HC1.out false (decide_eq_false hx))
                go_wp2_with fail
                go_quiet_grown (first | (go_at_call 23; with_reducible exact grown_of_Gr (C1.out _ _)))
                have hGB : Gr wo (grow (wr.drewN nq) osq) := hG.out.trans ⟨nq, osq, rfl⟩
                have C2 := Lib.hid (HC2.out _ hGB true (decide_eq_true hy))
                have sy := HSY.out _ hGB
                have sz := HSZ.out _ hGB
                clear x0 x1 x2 x3 x4 x5 z0 z1 z2 z3 z4 z5 C1
                generalize grow (wr.drewN nq) osq = wb at hGB C2 sy sz ⊢
                have HGB := Lib.hid hGB
                clear hGB
                obtain ⟨y0, y1, y2, y3, y4, y5⟩ := sy
                obtain ⟨z0, z1, z2, z3, z4, z5⟩ := sz
                have HX := Lib.hid hx
                have HY := Lib.hid hy
                clear hx hy
                go_wp2_with fail
                go_quiet_grown (first | (go_at_call 23; with_reducible exact grown_of_Gr (C2.out _ _)))
                go_wp2_with fail
                go_roundw
                case rel => exact ⟨k + 1, by rw [S1.out, if_neg HX.out]; try go_num, by rw [S2.out, if_pos HY.out]; try go_num, by go_num, by omega, HGB.out.trans ⟨nq, osq, rfl⟩⟩
                case measure => first | (simp [intOf]; done) | (simp [intOf]; omega)
              · have C1 := Lib.hid (HC1.out false (decide_eq_false hx))
                go_wp2_with fail
                go_quiet_grown (first | (go_at_call 23; with_reducible exact grown_of_Gr (C1.out _ _)))
                have hGB : Gr wo (grow (wr.drewN nq) osq) := hG.out.trans ⟨nq, osq, rfl⟩
                have C2 := Lib.hid (HC2.out _ hGB false (decide_eq_false hy))
                have sy := HSY.out _ hGB
                have sz := HSZ.out _ hGB
                clear x0 x1 x2 x3 x4 x5 z0 z1 z2 z3 z4 z5 C1
                generalize grow (wr.drewN nq) osq = wb at hGB C2 sy sz ⊢
                have HGB := Lib.hid hGB
                clear hGB
                obtain ⟨y0, y1, y2, y3, y4, y5⟩ := sy
                obtain ⟨z0, z1, z2, z3, z4, z5⟩ := sz
                have HX := Lib.hid hx
                have HY := Lib.hid hy
                clear hx hy
                go_wp2_with fail
                go_quiet_grown (first | (go_at_call 23; with_reducible exact grown_of_Gr (C2.out _ _)))
                go_wp2_with fail
                go_roundw
                case rel => exact ⟨k + 1, by rw [S1.out, if_neg HX.out]; try go_num, by rw [S2.out, if_neg HY.out]; try go_num, by go_num, by omega, HGB.out.trans ⟨nq, osq, rfl⟩⟩
                case measure => first | (simp [intOf]; done) | (simp [intOf]; omega)
          · obtain rfl : k = l.length := by omega
            have hcs := cnt_sort l D (D z)
            rw [← hcs]
            have le1 := cnt_le l D (D z) l.length
            generalize cnt l D (D z) l.length = cx at le1 hcs ⊢
            have hcx : ((cx : Int) != (cx : Int)) = false := by simp
            clear hcs
            go_wp2_with fail
            go_roundw
            case rel => exact ⟨i + 1, by go_num, by omega, HGO.out.trans hG.out⟩
            case measure => first | (simp [intOf]; done) | (simp [intOf]; omega)
end Go.Proofs.Ytllmiaonlofeeaa
