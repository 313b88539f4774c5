/-
  The references' All: two lists of messages. And how a list of messages reads. No conditions beyond what each theorem states.
-/
import Derived.Test.YtllmiaonlofeeaaKm
namespace Go.Proofs.Ytllmiaonlofeeaa
open Go.RowKit Go.Sort

/-- The messages l read as L, one by one. -/
def DL (w : World) (l : List Msg) (L : List DM) : Prop := l.length = L.length ∧ ∀ i, i < l.length → Reads w l[i]! L[i]!
theorem DL.bw {w w' : World} {l : List Msg} {L : List DM} (h : DL w l L) (k : Bw w w') : DL w' l L := ⟨h.1, fun i hi => (h.2 i hi).bw k⟩

theorem MAt.nil {w : World} {v : Value} {l : List Msg} (h : MAt w v l) (hl : 0 < l.length) : ∃ b o cap, v = .slice (some ⟨b, o, none⟩) l.length cap := by
  rcases h with ⟨_, rfl⟩ | ⟨_, _, _, rfl⟩ | ⟨b, o, cap, rfl, _⟩
  · simp at hl
  · simp at hl
  · exact ⟨b, o, cap, rfl⟩

theorem list_ne_of {L L' : List DM} {k : Nat} (h : ¬ L[k]! = L'[k]!) : ¬ L = L' := fun e => h (by rw [e])
theorem list_eq_of {L L' : List DM} (hn : L.length = L'.length) (h : ∀ i, i < L.length → L[i]! = L'[i]!) : L = L' := by
  apply List.ext_getElem hn
  intro i h1 h2
  have := h i h1
  rwa [getElem!_pos L i h1, getElem!_pos L' i h2] at this

set_option maxHeartbeats 1000000 in
theorem c_rAll (v v' : Value) (l l' : List Msg) (L L' : List DM) (w : World) (h : MAt w v l) (hD : DL w l L) (h' : MAt w v' l') (hD' : DL w l' L') (hn : l.length ≤ 1000000) (hs : ∀ x ∈ l, x.dl ≤ 9223372036854775807) :
    Calls Try.prog 15 #[v, v'] w fun e w' => e = .returned (.bool (decide (L = L'))) ∧ Bw w w' := by
  have mixed : Try.prog.follows .mixedOrders = true := by kernel_rfl
  obtain ⟨a, cap, rfl⟩ := h.form
  obtain ⟨a', cap', rfl⟩ := h'.form
  have HM1 := Lib.hid h
  have HM2 := Lib.hid h'
  have HD1 := Lib.hid hD
  have HD2 := Lib.hid hD'
  have HS := Lib.hid hs
  clear h h' hD hD' hs
  by_cases hne : l.length = l'.length
  case neg =>
    have hb : ((l.length : Int) != (l'.length : Int)) = true := by rw [bne_iff_ne]; omega
    have hL : ¬ L = L' := fun e => hne (by rw [HD1.out.1, HD2.out.1, e])
    have HL := Lib.hid hL
    clear hL
    go_enter Try.func15, Try.ntmps15
    go_wp2
    go_ret
    exact ⟨ret_bool (by simp [HL.out]), Bw.refl _⟩
  have hb : ((l.length : Int) != (l'.length : Int)) = false := by rw [bne_eq_false_iff_eq]; omega
  have le1 : l.length ≤ l'.length := by omega
  have le2 : l'.length ≤ l.length := by omega
  clear hne
  go_enter Try.func15, Try.ntmps15
  go_wp2_with fail
  go_loopw [5] (fun vk wr => ∃ k : Nat, vk = .int .i64 k ∧ k ≤ l.length ∧ Hid (∀ i, i < k → L[i]! = L'[i]!) ∧ Hid (Gr w wr)) (fun vk _ => l.length - (intOf vk).toNat)
  case atStart => exact ⟨0, rfl, by omega, fun i hi => by omega, Gr.refl _⟩
  case round =>
    obtain ⟨k, rfl, hk, hE, hG⟩ := hrel
    by_cases hlt : k < l.length
    · have hltz : (k : Int) < (l.length : Int) := by omega
      have hltz' : (k : Int) < (l'.length : Int) := by omega
      have m1 := HM1.out.bw hG.out.bw
      have m2 := HM2.out.bw hG.out.bw
      obtain ⟨b, o, c1, q1⟩ := m1.nil (by omega)
      obtain ⟨b', o', c2, q2⟩ := m2.nil (by omega)
      simp only [Value.slice.injEq, true_and] at q1 q2
      obtain ⟨rfl, rfl⟩ := q1
      obtain ⟨rfl, rfl⟩ := q2
      have gx := ((m1.six (by omega)).2.2 k (by omega)).grown (m1.six (by omega)).2.1
      have gy := ((m2.six (by omega)).2.2 k (by omega)).grown (m2.six (by omega)).2.1
      have rx := Lib.hid (HD1.out.2 k (by omega))
      have ry := Lib.hid (HD2.out.2 k (by omega))
      have sx := Lib.hid (HS.out l[k]! (by rw [getElem!_pos l k hlt]; exact List.getElem_mem hlt))
      obtain ⟨x, hx⟩ : ∃ x, x = l[k]! := ⟨_, rfl⟩
      obtain ⟨y, hy⟩ : ∃ y, y = l'[k]! := ⟨_, rfl⟩
      rw [← hx] at gx rx sx
      rw [← hy] at gy ry
      clear hx hy m1 m2
      obtain ⟨x0, x1, x2, x3, x4, x5⟩ := gx
      obtain ⟨y0, y1, y2, y3, y4, y5⟩ := gy
      have HC : Hid (∀ (B : Bool), decide (L[k]! = L'[k]!) = B → ∀ (n : Nat) (os : Array Obj), Calls Try.prog 23 #[.agg #[.int .i64 x.frm, .int .u32 x.seq, .int .u64 x.stamp, .int .i64 x.svc, .slice x.da x.dl x.dc, .string x.pay], .agg #[.int .i64 y.frm, .int .u32 y.seq, .int .u64 y.stamp, .int .i64 y.svc, .slice y.da y.dl y.dc, .string y.pay]] (grow (wr.drewN n) os) fun e w' => e = .returned (.bool B) ∧ Gr (grow (wr.drewN n) os) w') := by
        intro B hB n os
        have := c_rSame x y L[k]! L'[k]! (grow (wr.drewN n) os) (rx.out.bw (hG.out.trans ⟨n, os, rfl⟩).bw) (ry.out.bw (hG.out.trans ⟨n, os, rfl⟩).bw) sx.out
        rwa [hB] at this
      by_cases hxy : L[k]! = L'[k]!
      · have HXY := Lib.hid hxy
        have HC1 := Lib.hid (HC.out true (decide_eq_true hxy))
        clear hxy HC
        go_wp2_with fail
        go_quiet_grown (first | (go_at_call 23; with_reducible exact grown_of_Gr (HC1.out _ _)))
        go_wp2
        go_roundw
        case rel =>
          refine ⟨k + 1, by go_num, by omega, fun i hi => ?_, hG.out.trans ⟨nq, osq, rfl⟩⟩
          by_cases c : i = k
          · rw [c]; exact HXY.out
          · exact hE.out i (by omega)
        case measure => first | (simp [intOf]; done) | (simp [intOf]; omega)
      · have HN := Lib.hid (list_ne_of hxy)
        have HC1 := Lib.hid (HC.out false (decide_eq_false hxy))
        clear hxy HC
        go_wp2_with fail
        go_quiet_grown (first | (go_at_call 23; with_reducible exact grown_of_Gr (HC1.out _ _)))
        go_wp2
        go_ret
        exact ⟨ret_bool (by simp [HN.out]), (hG.out.trans ⟨nq, osq, rfl⟩).bw⟩
    · obtain rfl : k = l.length := by omega
      have HN := Lib.hid (list_eq_of (by rw [← HD1.out.1, ← HD2.out.1]; omega) (fun i hi => hE.out i (by rw [HD1.out.1]; exact hi)))
      go_wp2
      go_ret
      exact ⟨ret_bool (by simp [HN.out]), hG.out.bw⟩

end Go.Proofs.Ytllmiaonlofeeaa
