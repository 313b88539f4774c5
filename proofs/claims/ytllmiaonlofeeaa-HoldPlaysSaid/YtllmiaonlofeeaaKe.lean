/-
  insertionSortCmpFunc at messages. No conditions beyond what each theorem states.
-/
import Derived.Test.YtllmiaonlofeeaaKd
namespace Go.Proofs.Ytllmiaonlofeeaa
open Go.RowKit Go.Sort

theorem eg1 : ∀ args w, (callFunc 54 args).run Try.prog w = .ok (.enter 54 args) w := enters_of Try.func54 (by kernel_rfl) rfl
/-- key.Sort's closure. -/
abbrev cmpV : Value := .func (.func 54) #[] #[]

theorem c_Sort1' (f q s v f' q' s' v' : Int) (da da' : Option Addr) (dl dc dl' dc' : Nat) (p p' : ByteArray) (w : World) :
    Calls Try.prog 54 #[.agg #[.int .i64 f, .int .u32 q, .int .u64 s, .int .i64 v, .slice da dl dc, .string p], .agg #[.int .i64 f', .int .u32 q', .int .u64 s', .int .i64 v', .slice da' dl' dc', .string p']] w fun e w' => e = .returned (.int .i64 (keyCmp s f s' f')) ∧ Gr w w' := c_Sort1 ⟨f, q, s, v, da, dl, dc, p⟩ ⟨f', q', s', v', da', dl', dc', p'⟩ w

set_option maxHeartbeats 1000000 in
theorem c_insertion (blk off cap len : Nat) (ai bi : Int) (a b : Nat) (d : Array Msg) (w : World) (h1 : ai = a) (h2 : bi = b) (hl : d.size = len) (hH : HM w blk off d) (hb : blk < w.heap.size)
    (hab : a ≤ b) (hbs : b ≤ len) (hsz : len ≤ 1000000000000) :
    Calls Try.prog 70 #[.slice (some ⟨blk, off, none⟩) len cap, .int .i64 ai, .int .i64 bi, cmpV] w (Left (fun d' => Mg d d' a b) w blk off) := by
  subst h1 h2
  have mixed : Try.prog.follows .mixedOrders = true := by kernel_rfl
  have eg := eg1
  have HH := Lib.hid hH
  have HL := Lib.hid hl
  clear hH hl
  go_enter Try.func70, Try.ntmps70
  go_wp2
  go_loopw [8] (fun vi wr => ∃ (i : Nat) (dk : Array Msg), vi = .int .i64 i ∧ a < i ∧ (i ≤ b ∨ i = a + 1) ∧ Hid (Out d dk a b) ∧ Hid (SrtIn dk a i) ∧ Hid (Same (seg dk a b) (seg d a b)) ∧ Hid (SW w blk off dk wr)) (fun vi _ => b + 1 - (intOf vi).toNat)
  case atStart => exact ⟨a + 1, d, by go_num, by omega, by omega, Out.refl _ _ _, fun s t p q r => by omega, Same.refl _, SW.refl HH.out⟩
  case round =>
    obtain ⟨i, dk, rfl, hai, hib, hO, hX, hSm, hS⟩ := hrel
    by_cases hlt : i < b
    · have hltz : (i : Int) < (b : Int) := by omega
      go_wp2_with fail
      go_loopw [9] (fun vj wr2 => ∃ (j : Nat) (dj : Array Msg), vj = .int .i64 j ∧ a ≤ j ∧ j ≤ i ∧ Hid (Out d dj a b) ∧ Hid (But dj a j i) ∧ Hid (Same (seg dj a b) (seg d a b)) ∧ Hid (SW w blk off dj wr2)) (fun vj _ => (intOf vj).toNat)
      case atStart => exact ⟨i, dk, rfl, by omega, Nat.le_refl _, hO.out, But.start hX.out, hSm.out, hS.out⟩
      case round =>
        obtain ⟨j, dj, rfl, haj, hji, hO2, hB2, hSm2, hS2⟩ := hrel
        have hsj : dj.size = len := hO2.out.1.trans HL.out
        have hH2 : HM wr blk off dj := hS2.out.holds HH.out hb hO2.out.1
        have hb2 : blk < wr.heap.size := Nat.lt_of_lt_of_le hb hS2.out.size
        have HSJ := Lib.hid hsj
        have HH2 := Lib.hid hH2
        clear hH2 hsj
        by_cases hja : a < j
        · obtain ⟨jp, rfl⟩ : ∃ jp, j = jp + 1 := ⟨j - 1, by omega⟩
          have gx := (HH2.out.six (i := jp + 1) (by rw [HSJ.out]; omega)).grown hb2
          have gy := (HH2.out.six (i := jp) (by rw [HSJ.out]; omega)).grown hb2
          obtain ⟨x, hx⟩ : ∃ x, x = dj[jp + 1]! := ⟨_, rfl⟩
          obtain ⟨y, hy⟩ : ∃ y, y = dj[jp]! := ⟨_, rfl⟩
          rw [← hx] at gx
          rw [← hy] at gy
          have HX := Lib.hid hx
          have HY := Lib.hid hy
          clear hx hy
          have x0 := gx.c0
          have x1 := gx.c1
          have x2 := gx.c2
          have x3 := gx.c3
          have x4 := gx.c4
          have x5 := gx.c5
          have y0 := gy.c0
          have y1 := gy.c1
          have y2 := gy.c2
          have y3 := gy.c3
          have y4 := gy.c4
          have y5 := gy.c5
          clear gx gy
          have hjaz : (a : Int) < (jp : Int) + 1 := by omega
          have jz : (jp : Int) + 1 < (len : Int) := by omega
          have jz1 : (jp : Int) < (len : Int) := by omega
          have p0 : (0 : Int) ≤ (jp : Int) + 1 := by omega
          have e0 : ((jp : Int) + 1).toNat = jp + 1 := by omega
          have hwp : IntKind.i64.wrap (jp : Int) = (jp : Int) := by rw [IntKind.wrap_i64]; omega
          by_cases hlv : keyCmp x.stamp x.frm y.stamp y.frm < 0
          · go_wp2_with fail
            go_quiet_grown (first | (go_at_fn 54; with_reducible exact grown_of_Gr (c_Sort1' _ _ _ _ _ _ _ _ _ _ _ _ _ _ _ _ _)))
            go_wp2_with fail
            have hS3 : SW w blk off dj (grow (wr.drewN nq) osq) := hS2.out.gr ⟨nq, osq, rfl⟩
            clear x0 x1 x2 x3 x4 x5 y0 y1 y2 y3 y4 y5
            generalize grow (wr.drewN nq) osq = W2 at hS3 ⊢
            have hH3 : HM W2 blk off dj := hS3.holds HH.out hb hO2.out.1
            have gx := hH3.six (i := jp + 1) (by rw [HSJ.out]; omega)
            have gy := hH3.six (i := jp) (by rw [HSJ.out]; omega)
            have sp := hH3.soft (i := jp + 1) (by rw [HSJ.out]; omega)
            have sq := hH3.soft (i := jp) (by rw [HSJ.out]; omega)
            rw [← HX.out] at gx
            rw [← HY.out] at gy
            obtain ⟨x0, x1, x2, x3, x4, x5⟩ := gx
            obtain ⟨y0, y1, y2, y3, y4, y5⟩ := gy
            obtain ⟨p0, p1, p2, p3, p4, p5⟩ := sp
            obtain ⟨q0, q1, q2, q3, q4, q5⟩ := sq
            have HS3 := Lib.hid hS3
            clear hS3 hH3
            go_region
            go_wp2
            go_roundw
            case rel =>
              have hk : klt dj[jp + 1]! dj[jp]! := by rw [← HX.out, ← HY.out]; exact (mcmp_neg _ _).1 hlv
              have hr : Rot dj (Go.Sort.swp dj (jp + 1) jp) jp (jp + 1) (jp + 2) := swp_rot (by rw [HSJ.out]; omega)
              refine ⟨jp, Go.Sort.swp dj (jp + 1) jp, by go_num, by omega, by omega, hO2.out.trans ((hr.out (by omega) (by omega)).wide (by omega) (by omega)), hB2.out.step (by omega) (by omega) (by rw [HSJ.out]; omega) hk, ?_, HS3.out.exch6 hb (by rw [HSJ.out]; omega) (by rw [HSJ.out]; omega) HX.out HY.out⟩
              refine Same.trans (hr.same (by omega) (by omega) (by omega) (by omega) (by rw [HSJ.out]; omega) ?_) hSm2.out
              intro x' y' h1 h2 h3 h4
              obtain rfl : x' = jp := by omega
              obtain rfl : y' = x' + 1 := by omega
              exact hk
            case measure => first | (simp [intOf]; done) | (simp [intOf]; omega)
          · have HLV : Hid (¬ klt dj[jp + 1]! dj[jp]!) := by rw [← HX.out, ← HY.out]; exact fun h => hlv ((mcmp_neg _ _).2 h)
            go_wp2_with fail
            go_quiet_grown (first | (go_at_fn 54; with_reducible exact grown_of_Gr (c_Sort1' _ _ _ _ _ _ _ _ _ _ _ _ _ _ _ _ _)))
            go_wp2
            go_roundw
            case rel => exact ⟨i + 1, dj, by go_num, by omega, by omega, hO2.out, hB2.out.done (by omega) (Or.inr (by rw [Nat.add_sub_cancel]; exact HLV.out)), hSm2.out, hS2.out.gr ⟨nq, osq, rfl⟩⟩
            case measure => first | (simp [intOf]; done) | (simp [intOf]; omega)
        · have hjaz : decide ((j : Int) > (a : Int)) = false := decide_eq_false (by omega)
          have hjaz' : ¬ (a : Int) < (j : Int) := by omega
          go_wp2_with fail
          go_quiet (fail)
          go_wp2
          go_roundw
          case rel => exact ⟨i + 1, dj, by go_num, by omega, by omega, hO2.out, hB2.out.done (by omega) (Or.inl (by omega)), hSm2.out, hS2.out.gr ⟨nq, #[], by simp⟩⟩
          case measure => first | (simp [intOf]; done) | (simp [intOf]; omega)
    · have hltz : ¬ (i : Int) < (b : Int) := by omega
      go_wp2
      go_end0
      exact ⟨rfl, dk, ⟨hO.out, hX.out.sub (Nat.le_refl _) (by omega), hSm.out⟩, hS.out⟩
end Go.Proofs.Ytllmiaonlofeeaa
