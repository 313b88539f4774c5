/-
  symMergeCmpFunc at messages. No conditions beyond what each theorem states.
-/
import Derived.Test.YtllmiaonlofeeaaKg
import Derived.Deep.DeepCutAuto
namespace Go.Proofs.Ytllmiaonlofeeaa
open Go.RowKit Go.Sort

theorem c_rotate' (blk off cap len : Nat) (ai mi bi : Int) (a m b : Nat) (d : Array Msg) (c : Value) (w : World) (h1 : ai = a) (h2 : mi = m) (h3 : bi = b) (hl : d.size = len) (hH : HM w blk off d) (hb : blk < w.heap.size)
    (ha : a < m) (hm : m < b) (hbs : b ≤ len) (hsz : len ≤ 1000000000000) :
    Calls Try.prog 72 #[.slice (some ⟨blk, off, none⟩) len cap, .int .i64 ai, .int .i64 mi, .int .i64 bi, c] w (Left (fun d' => Rot d d' a m b) w blk off) := by
  subst h1 h2 h3 hl
  exact c_rotate blk off cap a m b d c w hH hb ha hm hbs hsz

/-- Where the search begins and ends. -/
structure Bnd (a m b mid n s r : Nat) : Prop where
  mid1 : 2 * mid ≤ a + b
  mid2 : a + b ≤ 2 * mid + 1
  n1 : n = mid + m
  ends : (mid < m ∧ s = n - b ∧ r = mid) ∨ (m ≤ mid ∧ s = a ∧ r = m)

/-- What the search has found. -/
theorem found {d : Array Msg} {a m b mid n s0 r0 s : Nat} (hB : Bnd a m b mid n s0 r0) (h1 : s0 ≤ s) (h2 : s ≤ r0) (ham : a < m) (hmb : m < b) (q1 : SrtIn d a m) (q2 : SrtIn d m b)
    (hA : ∀ c, s0 ≤ c → c < s → ¬ klt d[n - 1 - c]! d[c]!) (hV : ∀ c, s ≤ c → c < r0 → klt d[n - 1 - c]! d[c]!) :
    a ≤ s ∧ s ≤ m ∧ m ≤ n - s ∧ n - s ≤ b ∧ s ≤ n ∧ s + (n - s - m) = mid ∧ (∀ x y, s ≤ x → x < m → m ≤ y → y < n - s → klt d[y]! d[x]!) ∧ (∀ x y, a ≤ x → x < s → n - s ≤ y → y < b → ¬ klt d[y]! d[x]!) := by
  obtain ⟨e1, e2, e3, e4⟩ := hB
  refine ⟨by omega, by omega, by omega, by omega, by omega, by omega, fun x y p q r u => ?_, fun x y p q r u => ?_⟩
  · have hs : s < r0 := by omega
    have h := hV s (Nat.le_refl _) hs
    have hx : ¬ klt d[x]! d[s]! := by
      by_cases c : x = s
      · rw [c]; exact klt_irrefl _
      · exact q1 s x (by omega) (by omega) q
    have hy : ¬ klt d[n - 1 - s]! d[y]! := by
      by_cases c : y = n - 1 - s
      · rw [c]; exact klt_irrefl _
      · exact q2 y (n - 1 - s) r (by omega) (by omega)
    exact klt_of_lt_of_le (klt_of_le_of_lt hy h) hx
  · have hs : s0 < s := by omega
    have h := hA (s - 1) (by omega) (by omega)
    rw [show n - 1 - (s - 1) = n - s by omega] at h
    have hx : ¬ klt d[s - 1]! d[x]! := by
      by_cases c : x = s - 1
      · rw [c]; exact klt_irrefl _
      · exact q1 x (s - 1) p (by omega) (by omega)
    have hy : ¬ klt d[y]! d[n - s]! := by
      by_cases c : y = n - s
      · rw [c]; exact klt_irrefl _
      · exact q2 (n - s) y (by omega) (by omega) u
    exact kle_trans (kle_trans hx h) hy

theorem sym_mono {d : Array Msg} {a m b mid n s0 r0 c c' : Nat} (hB : Bnd a m b mid n s0 r0) (ham : a < m) (hmb : m < b) (q1 : SrtIn d a m) (q2 : SrtIn d m b) (h1 : s0 ≤ c) (h2 : c < c') (h3 : c' < r0) :
    ¬ klt d[c']! d[c]! ∧ ¬ klt d[n - 1 - c]! d[n - 1 - c']! := by
  obtain ⟨e1, e2, e3, e4⟩ := hB
  exact ⟨q1 c c' (by omega) h2 (by omega), q2 (n - 1 - c') (n - 1 - c) (by omega) (by omega) (by omega)⟩

def SymSaid (N : Nat) : Prop := ∀ (blk off cap len : Nat) (ai mi bi : Int) (a m b : Nat) (d : Array Msg) (w : World), b - a ≤ N → ai = a → mi = m → bi = b → d.size = len → HM w blk off d → blk < w.heap.size →
    a < m → m < b → b ≤ len → len ≤ 1000000000000 → SrtIn d a m → SrtIn d m b →
    Calls Try.prog 71 #[.slice (some ⟨blk, off, none⟩) len cap, .int .i64 ai, .int .i64 mi, .int .i64 bi, cmpV] w (Left (fun d' => Mg d d' a b) w blk off)

set_option maxRecDepth 100000 in
set_option maxHeartbeats 2000000 in
theorem c_symStep (N : Nat) (ih : SymSaid N) : SymSaid (N + 1) := by
  intro blk off cap len ai mi bi a m b d w hN h1 h2 h3 hl hH hb ham hmb hbs hsz q1 q2
  by_cases hu : m = a + 1
  · exact c_symUp blk off cap len ai mi bi a m b d w h1 h2 h3 hl hH hb hu hmb hbs hsz q2
  by_cases hd : b = m + 1
  · exact c_symDown blk off cap len ai mi bi a m b d w h1 h2 h3 hl hH hb (by omega) hd hbs hsz q1
  subst h1 h2 h3
  have mixed : Try.prog.follows .mixedOrders = true := by kernel_rfl
  have eg := eg1
  have hbq : ((m : Int) - (a : Int) == 1) = false := by rw [beq_eq_false_iff_ne]; omega
  have hbq2 : ((b : Int) - (m : Int) == 1) = false := by rw [beq_eq_false_iff_ne]; omega
  have HH := Lib.hid hH
  have HL := Lib.hid hl
  have Q1 := Lib.hid q1
  have Q2 := Lib.hid q2
  have IH := Lib.hid ih
  clear hH hl q1 q2 hu hd ih
  go_enter Try.func71, Try.ntmps71
  go_upto_if 140 with (fail)
  go_cut [18, 19, 20, 21] (fun v18 v19 v20 v21 wx => ∃ mid n s0 r0 : Nat, v18 = .int .i64 mid ∧ v19 = .int .i64 n ∧ v20 = .int .i64 s0 ∧ v21 = .int .i64 r0 ∧ Hid (Bnd a m b mid n s0 r0) ∧ wx = w)
  case first =>
    by_cases hm : (a + b) / 2 < m
    · have hmz : ((a : Int) + (b : Int)) / 2 < (m : Int) := by omega
      go_wp2_with fail
      go_meet
      exact ⟨(a + b) / 2, (a + b) / 2 + m, (a + b) / 2 + m - b, (a + b) / 2, by go_num, by go_num, by go_num, by go_num, ⟨by omega, by omega, rfl, Or.inl ⟨hm, rfl, rfl⟩⟩, rfl⟩
    · have hmz : ¬ ((a : Int) + (b : Int)) / 2 < (m : Int) := by omega
      go_wp2_with fail
      go_meet
      exact ⟨(a + b) / 2, (a + b) / 2 + m, a, m, by go_num, by go_num, by go_num, by go_num, ⟨by omega, by omega, rfl, Or.inr ⟨by omega, rfl, rfl⟩⟩, rfl⟩
  case rest =>
    obtain ⟨mid, n, s0, r0, rfl, rfl, rfl, rfl, hB, rfl⟩ := hcut
    have b1 : 1 ≤ n := by have := hB.out.n1; omega
    have b2 : n ≤ len + len := by have := hB.out.n1; have := hB.out.mid1; omega
    have b3 : r0 ≤ len := by have := hB.out.ends; have := hB.out.mid1; omega
    go_wp2_with fail
    go_loopw [20, 21] (fun v20 v21 wr => ∃ s r : Nat, v20 = .int .i64 s ∧ v21 = .int .i64 r ∧ s ≤ r ∧ r ≤ r0 ∧ Hid (s0 ≤ s) ∧ Hid (∀ c, s0 ≤ c → c < s → ¬ klt d[n - 1 - c]! d[c]!) ∧ Hid (∀ c, r ≤ c → c < r0 → klt d[n - 1 - c]! d[c]!) ∧ Hid (SW wc blk off d wr)) (fun v20 v21 _ => (intOf v21).toNat - (intOf v20).toNat)
    case atStart => exact ⟨s0, r0, rfl, rfl, by have := hB.out.ends; have := hB.out.mid1; have := hB.out.mid2; have := hB.out.n1; omega, Nat.le_refl _, Nat.le_refl _, fun c p q => by omega, fun c p q => by omega, SW.refl HH.out⟩
    case round =>
      obtain ⟨s, r, rfl, rfl, hsr, hr, hs0, hA, hV, hS⟩ := hrel
      have hb2 : blk < wr.heap.size := Nat.lt_of_lt_of_le hb hS.out.size
      have hH2 : HM wr blk off d := hS.out.holds HH.out hb rfl
      by_cases hlt : s < r
      · have hltz : (s : Int) < (r : Int) := by omega
        have c0 : s0 ≤ s := hs0.out
        have e1 := hB.out.ends
        have e2 := hB.out.n1
        have e3 := hB.out.mid1
        have e4 := hB.out.mid2
        have cb : (s + r) / 2 + 1 ≤ n ∧ n - 1 - (s + r) / 2 < len := by omega
        obtain ⟨cb1, cb2⟩ := cb
        clear c0 e1 e2 e3 e4
        have gx := (hH2.six (i := n - 1 - (s + r) / 2) (by rw [HL.out]; exact cb2)).grown hb2
        have gy := (hH2.six (i := (s + r) / 2) (by rw [HL.out]; omega)).grown hb2
        obtain ⟨x, hx⟩ : ∃ x, x = d[n - 1 - (s + r) / 2]! := ⟨_, rfl⟩
        obtain ⟨y, hy⟩ : ∃ y, y = d[(s + r) / 2]! := ⟨_, rfl⟩
        rw [← hx] at gx
        rw [← hy] at gy
        have HX := Lib.hid hx
        have HY := Lib.hid hy
        obtain ⟨x0, x1, x2, x3, x4, x5⟩ := gx
        obtain ⟨y0, y1, y2, y3, y4, y5⟩ := gy
        clear hx hy hH2
        have i1 : (0 : Int) ≤ ((s : Int) + (r : Int)) / 2 := by omega
        have i2 : ((s : Int) + (r : Int)) / 2 < (len : Int) := by omega
        have i3 : (((s : Int) + (r : Int)) / 2).toNat = (s + r) / 2 := by omega
        have j1 : (0 : Int) ≤ (n : Int) - 1 - ((s : Int) + (r : Int)) / 2 := by omega
        have j5 : ((s : Int) + (r : Int)) / 2 ≤ (n : Int) - 1 := by omega
        have j2 : (n : Int) - 1 - ((s : Int) + (r : Int)) / 2 < (len : Int) := by omega
        have j3 : ((n : Int) - 1 - ((s : Int) + (r : Int)) / 2).toNat = n - 1 - (s + r) / 2 := by omega
        have j4 : IntKind.i64.wrap ((n : Int) - 1 - ((s : Int) + (r : Int)) / 2) = (n : Int) - 1 - ((s : Int) + (r : Int)) / 2 := by rw [IntKind.wrap_i64]; omega
        have HK : Hid (keyCmp x.stamp x.frm y.stamp y.frm < 0 ↔ klt d[n - 1 - (s + r) / 2]! d[(s + r) / 2]!) := by rw [← HX.out, ← HY.out]; exact mcmp_neg _ _
        go_wp2_with fail
        by_cases hlv : keyCmp x.stamp x.frm y.stamp y.frm < 0
        · have HV := Lib.hid (HK.out.1 hlv)
          go_quiet_grown (first | (go_at_fn 54; with_reducible exact grown_of_Gr (c_Sort1' _ _ _ _ _ _ _ _ _ _ _ _ _ _ _ _ _)))
          go_wp2
          go_roundw
          case rel =>
            refine ⟨s, (s + r) / 2, rfl, by go_num, by omega, by omega, hs0.out, hA.out, ?_, hS.out.gr ⟨nq, osq, rfl⟩⟩
            intro c p q
            by_cases hc : c = (s + r) / 2
            · rw [hc]; exact HV.out
            · by_cases hc2 : r ≤ c
              · exact hV.out c hc2 q
              · have hm := sym_mono hB.out ham hmb Q1.out Q2.out (c := (s + r) / 2) (c' := c) (by have := hs0.out; omega) (by omega) q
                exact klt_of_lt_of_le (klt_of_le_of_lt hm.2 HV.out) hm.1
          case measure => first | (simp [intOf]; done) | (simp [intOf]; omega)
        · have HV := Lib.hid (fun h => hlv (HK.out.2 h))
          go_quiet_grown (first | (go_at_fn 54; with_reducible exact grown_of_Gr (c_Sort1' _ _ _ _ _ _ _ _ _ _ _ _ _ _ _ _ _)))
          go_wp2
          go_roundw
          case rel =>
            refine ⟨(s + r) / 2 + 1, r, by go_num, rfl, by omega, by omega, by have := hs0.out; show s0 ≤ _; omega, ?_, hV.out, hS.out.gr ⟨nq, osq, rfl⟩⟩
            intro c p q
            by_cases hc : c = (s + r) / 2
            · rw [hc]; exact HV.out
            · by_cases hc2 : c < s
              · exact hA.out c p hc2
              · have hm := sym_mono hB.out ham hmb Q1.out Q2.out (c := c) (c' := (s + r) / 2) p (by omega) (by omega)
                exact kle_trans (kle_trans hm.1 HV.out) hm.2
          case measure => first | (simp [intOf]; done) | (simp [intOf]; omega)
      · obtain rfl : s = r := by omega
        obtain ⟨f1, f2, f3, f4, f5, f6, f7, f8⟩ := found hB.out hs0.out hr ham hmb Q1.out Q2.out hA.out hV.out
        have F6 := Lib.hid f6
        have F7 := Lib.hid f7
        have F8 := Lib.hid f8
        have hsb : b ≤ d.size := by rw [HL.out]; exact hbs
        have HSB := Lib.hid hsb
        have hmid : s ≤ mid := by omega
        have hmid1 : mid < b := by have := hB.out.mid1; omega
        have hmid2 : a < mid := by have := hB.out.mid2; omega
        have hmide : mid ≤ n - s := by have := hB.out.n1; omega
        have hHB := Lib.hid (fun (d1 : Array Msg) (h : Rot d d1 s m (n - s)) => half_of_rot h f2 f3 f1 f4 hsb Q1.out Q2.out f7 f8)
        have hHS := Lib.hid (fun (d1 : Array Msg) (h : Rot d d1 s m (n - s)) => h.same f2 f3 f1 f4 hsb f7)
        have hHO := Lib.hid (fun (d1 : Array Msg) (h : Rot d d1 s m (n - s)) => (h.out f2 f3).wide f1 f4)
        have hn : n - s + s = n := by omega
        obtain ⟨e, he⟩ : ∃ e, e = n - s := ⟨_, rfl⟩
        have hez : (n : Int) - (s : Int) = (e : Int) := by omega
        rw [← he] at f3 f4 hmide
        have HE := Lib.hid he
        have HEZ := Lib.hid hez
        clear f6 f7 f8 he hez hsb hn hH2
        have hltz : ¬ (s : Int) < (s : Int) := by omega
        by_cases hR : s < m ∧ m < e
        · have hR1 : s < m := hR.1
          have hR2 : m < e := hR.2
          have hz1 : (s : Int) < (m : Int) := by omega
          have hz2 : (m : Int) < (n : Int) - (s : Int) := by have := HEZ.out; omega
          go_wp2_with fail
          refine (c_rotate' blk off cap len _ _ _ s m e d cmpV wr rfl rfl HEZ.out HL.out (hS.out.holds HH.out hb rfl) hb2 hR1 hR2 (by omega) hsz).mono ?_
          rintro e' w1 ⟨rfl, d1, hr1, hs1⟩
          have HR1 : Hid (Rot d d1 s m (n - s)) := by rw [← HE.out]; exact hr1
          have HS1 : Hid (SW wc blk off d1 w1) := hS.out.trans hs1 hb hr1.1
          clear hr1 hs1
          have hb3 : blk < w1.heap.size := Nat.lt_of_lt_of_le hb HS1.out.size
          have HL1 : Hid (d1.size = len) := HR1.out.1.trans HL.out
          by_cases hL : a < s ∧ s < mid
          · have hL1 : a < s := hL.1
            have hL2 : s < mid := hL.2
            have hy1 : (a : Int) < (s : Int) := by omega
            have hy2 : (s : Int) < (mid : Int) := by omega
            go_wp2_with fail
            refine (IH.out blk off cap len _ _ _ a s mid d1 w1 (by omega) rfl rfl rfl HL1.out (HS1.out.holds HH.out hb HR1.out.1) hb3 hL1 hL2 (by omega) hsz (hHB.out _ HR1.out).p1 (by have := (hHB.out _ HR1.out).p2; rwa [F6.out] at this)).mono ?_
            rintro e' w2 ⟨rfl, d2, hg2, hs2⟩
            have HG2 := Lib.hid hg2
            have HS2 : Hid (SW wc blk off d2 w2) := HS1.out.trans hs2 hb hg2.out.1
            clear hg2 hs2
            have hb4 : blk < w2.heap.size := Nat.lt_of_lt_of_le hb HS2.out.size
            have HL2 : Hid (d2.size = len) := HG2.out.out.1.trans HL1.out
            have HP3 : Hid (SrtIn d2 mid e) := HG2.out.out.srt (by rw [HL1.out]; omega) (Or.inr (Nat.le_refl _)) (by have := (hHB.out _ HR1.out).p3; rwa [F6.out, ← HE.out] at this)
            have HP4 : Hid (SrtIn d2 e b) := HG2.out.out.srt (by rw [HL1.out]; omega) (Or.inr (by omega)) (by have := (hHB.out _ HR1.out).p4; rwa [← HE.out] at this)
            by_cases hU : mid < e ∧ e < b
            · have hU1 : mid < e := hU.1
              have hU2 : e < b := hU.2
              have hx1 : (mid : Int) < (n : Int) - (s : Int) := by have := HEZ.out; omega
              have hx2 : (n : Int) - (s : Int) < (b : Int) := by have := HEZ.out; omega
              go_wp2_with fail
              refine (IH.out blk off cap len _ _ _ mid e b d2 w2 (by omega) rfl HEZ.out rfl HL2.out (HS2.out.holds HH.out hb (HL2.out.trans HL.out.symm)) hb4 hU1 hU2 hbs hsz HP3.out HP4.out).mono ?_
              rintro e' w3 ⟨rfl, d3, hg3, hs3⟩
              have HG3 := Lib.hid hg3
              have HS3 : Hid (SW wc blk off d3 w3) := HS2.out.trans hs3 hb hg3.out.1
              clear hg3 hs3
              go_wp2_with fail
              all_goals (go_end0; exact ⟨rfl, d3, merge_fin (hHO.out _ HR1.out) (hHS.out _ HR1.out) (by have := hHB.out _ HR1.out; rwa [F6.out] at this) (by omega) (by omega) HSB.out HG2.out HG3.out, HS3.out⟩)
            · have HG3 : Hid (Mg d2 d2 mid b) := Mg.of_srt (srt_triv (s := e) (by omega) HP3.out HP4.out)
              by_cases hx : mid < e
              · have hx1 : (mid : Int) < (n : Int) - (s : Int) := by have := HEZ.out; omega
                have hx2 : ¬ (n : Int) - (s : Int) < (b : Int) := by have := HEZ.out; omega
                go_wp2_with fail
                all_goals (go_end0; exact ⟨rfl, d2, merge_fin (hHO.out _ HR1.out) (hHS.out _ HR1.out) (by have := hHB.out _ HR1.out; rwa [F6.out] at this) (by omega) (by omega) HSB.out HG2.out HG3.out, HS2.out⟩)
              · have hx1 : ¬ (mid : Int) < (n : Int) - (s : Int) := by have := HEZ.out; omega
                go_wp2_with fail
                all_goals (go_end0; exact ⟨rfl, d2, merge_fin (hHO.out _ HR1.out) (hHS.out _ HR1.out) (by have := hHB.out _ HR1.out; rwa [F6.out] at this) (by omega) (by omega) HSB.out HG2.out HG3.out, HS2.out⟩)
          · have HG2 : Hid (Mg d1 d1 a mid) := Mg.of_srt (srt_triv (s := s) (by omega) (hHB.out _ HR1.out).p1 (by have := (hHB.out _ HR1.out).p2; rwa [F6.out] at this))
            have HS2 : Hid (SW wc blk off d1 w1) := HS1.out
            by_cases hy : a < s
            · have hy1 : (a : Int) < (s : Int) := by omega
              have hy2 : ¬ (s : Int) < (mid : Int) := by omega
              have hb4 : blk < w1.heap.size := Nat.lt_of_lt_of_le hb HS2.out.size
              have HL2 : Hid (d1.size = len) := HG2.out.out.1.trans HL1.out
              have HP3 : Hid (SrtIn d1 mid e) := HG2.out.out.srt (by rw [HL1.out]; omega) (Or.inr (Nat.le_refl _)) (by have := (hHB.out _ HR1.out).p3; rwa [F6.out, ← HE.out] at this)
              have HP4 : Hid (SrtIn d1 e b) := HG2.out.out.srt (by rw [HL1.out]; omega) (Or.inr (by omega)) (by have := (hHB.out _ HR1.out).p4; rwa [← HE.out] at this)
              by_cases hU : mid < e ∧ e < b
              · have hU1 : mid < e := hU.1
                have hU2 : e < b := hU.2
                have hx1 : (mid : Int) < (n : Int) - (s : Int) := by have := HEZ.out; omega
                have hx2 : (n : Int) - (s : Int) < (b : Int) := by have := HEZ.out; omega
                go_wp2_with fail
                refine (IH.out blk off cap len _ _ _ mid e b d1 w1 (by omega) rfl HEZ.out rfl HL2.out (HS2.out.holds HH.out hb (HL2.out.trans HL.out.symm)) hb4 hU1 hU2 hbs hsz HP3.out HP4.out).mono ?_
                rintro e' w3 ⟨rfl, d3, hg3, hs3⟩
                have HG3 := Lib.hid hg3
                have HS3 : Hid (SW wc blk off d3 w3) := HS2.out.trans hs3 hb hg3.out.1
                clear hg3 hs3
                go_wp2_with fail
                all_goals (go_end0; exact ⟨rfl, d3, merge_fin (hHO.out _ HR1.out) (hHS.out _ HR1.out) (by have := hHB.out _ HR1.out; rwa [F6.out] at this) (by omega) (by omega) HSB.out HG2.out HG3.out, HS3.out⟩)
              · have HG3 : Hid (Mg d1 d1 mid b) := Mg.of_srt (srt_triv (s := e) (by omega) HP3.out HP4.out)
                by_cases hx : mid < e
                · have hx1 : (mid : Int) < (n : Int) - (s : Int) := by have := HEZ.out; omega
                  have hx2 : ¬ (n : Int) - (s : Int) < (b : Int) := by have := HEZ.out; omega
                  go_wp2_with fail
                  all_goals (go_end0; exact ⟨rfl, d1, merge_fin (hHO.out _ HR1.out) (hHS.out _ HR1.out) (by have := hHB.out _ HR1.out; rwa [F6.out] at this) (by omega) (by omega) HSB.out HG2.out HG3.out, HS2.out⟩)
                · have hx1 : ¬ (mid : Int) < (n : Int) - (s : Int) := by have := HEZ.out; omega
                  go_wp2_with fail
                  all_goals (go_end0; exact ⟨rfl, d1, merge_fin (hHO.out _ HR1.out) (hHS.out _ HR1.out) (by have := hHB.out _ HR1.out; rwa [F6.out] at this) (by omega) (by omega) HSB.out HG2.out HG3.out, HS2.out⟩)
            · have hy1 : ¬ (a : Int) < (s : Int) := by omega
              have hb4 : blk < w1.heap.size := Nat.lt_of_lt_of_le hb HS2.out.size
              have HL2 : Hid (d1.size = len) := HG2.out.out.1.trans HL1.out
              have HP3 : Hid (SrtIn d1 mid e) := HG2.out.out.srt (by rw [HL1.out]; omega) (Or.inr (Nat.le_refl _)) (by have := (hHB.out _ HR1.out).p3; rwa [F6.out, ← HE.out] at this)
              have HP4 : Hid (SrtIn d1 e b) := HG2.out.out.srt (by rw [HL1.out]; omega) (Or.inr (by omega)) (by have := (hHB.out _ HR1.out).p4; rwa [← HE.out] at this)
              by_cases hU : mid < e ∧ e < b
              · have hU1 : mid < e := hU.1
                have hU2 : e < b := hU.2
                have hx1 : (mid : Int) < (n : Int) - (s : Int) := by have := HEZ.out; omega
                have hx2 : (n : Int) - (s : Int) < (b : Int) := by have := HEZ.out; omega
                go_wp2_with fail
                refine (IH.out blk off cap len _ _ _ mid e b d1 w1 (by omega) rfl HEZ.out rfl HL2.out (HS2.out.holds HH.out hb (HL2.out.trans HL.out.symm)) hb4 hU1 hU2 hbs hsz HP3.out HP4.out).mono ?_
                rintro e' w3 ⟨rfl, d3, hg3, hs3⟩
                have HG3 := Lib.hid hg3
                have HS3 : Hid (SW wc blk off d3 w3) := HS2.out.trans hs3 hb hg3.out.1
                clear hg3 hs3
                go_wp2_with fail
                all_goals (go_end0; exact ⟨rfl, d3, merge_fin (hHO.out _ HR1.out) (hHS.out _ HR1.out) (by have := hHB.out _ HR1.out; rwa [F6.out] at this) (by omega) (by omega) HSB.out HG2.out HG3.out, HS3.out⟩)
              · have HG3 : Hid (Mg d1 d1 mid b) := Mg.of_srt (srt_triv (s := e) (by omega) HP3.out HP4.out)
                by_cases hx : mid < e
                · have hx1 : (mid : Int) < (n : Int) - (s : Int) := by have := HEZ.out; omega
                  have hx2 : ¬ (n : Int) - (s : Int) < (b : Int) := by have := HEZ.out; omega
                  go_wp2_with fail
                  all_goals (go_end0; exact ⟨rfl, d1, merge_fin (hHO.out _ HR1.out) (hHS.out _ HR1.out) (by have := hHB.out _ HR1.out; rwa [F6.out] at this) (by omega) (by omega) HSB.out HG2.out HG3.out, HS2.out⟩)
                · have hx1 : ¬ (mid : Int) < (n : Int) - (s : Int) := by have := HEZ.out; omega
                  go_wp2_with fail
                  all_goals (go_end0; exact ⟨rfl, d1, merge_fin (hHO.out _ HR1.out) (hHS.out _ HR1.out) (by have := hHB.out _ HR1.out; rwa [F6.out] at this) (by omega) (by omega) HSB.out HG2.out HG3.out, HS2.out⟩)
        · have HR1 : Hid (Rot d d s m (n - s)) := rot_nil (by have := HE.out; omega) f2 (by have := HE.out; omega)
          have HS1 : Hid (SW wc blk off d wr) := hS.out
          by_cases hz1 : s < m
          · have hz1' : (s : Int) < (m : Int) := by omega
            have hz2' : ¬ (m : Int) < (n : Int) - (s : Int) := by have := HEZ.out; omega
            have hb3 : blk < wr.heap.size := Nat.lt_of_lt_of_le hb HS1.out.size
            have HL1 : Hid (d.size = len) := HR1.out.1.trans HL.out
            by_cases hL : a < s ∧ s < mid
            · have hL1 : a < s := hL.1
              have hL2 : s < mid := hL.2
              have hy1 : (a : Int) < (s : Int) := by omega
              have hy2 : (s : Int) < (mid : Int) := by omega
              go_wp2_with fail
              refine (IH.out blk off cap len _ _ _ a s mid d wr (by omega) rfl rfl rfl HL1.out (HS1.out.holds HH.out hb HR1.out.1) hb3 hL1 hL2 (by omega) hsz (hHB.out _ HR1.out).p1 (by have := (hHB.out _ HR1.out).p2; rwa [F6.out] at this)).mono ?_
              rintro e' w2 ⟨rfl, d2, hg2, hs2⟩
              have HG2 := Lib.hid hg2
              have HS2 : Hid (SW wc blk off d2 w2) := HS1.out.trans hs2 hb hg2.out.1
              clear hg2 hs2
              have hb4 : blk < w2.heap.size := Nat.lt_of_lt_of_le hb HS2.out.size
              have HL2 : Hid (d2.size = len) := HG2.out.out.1.trans HL1.out
              have HP3 : Hid (SrtIn d2 mid e) := HG2.out.out.srt (by rw [HL1.out]; omega) (Or.inr (Nat.le_refl _)) (by have := (hHB.out _ HR1.out).p3; rwa [F6.out, ← HE.out] at this)
              have HP4 : Hid (SrtIn d2 e b) := HG2.out.out.srt (by rw [HL1.out]; omega) (Or.inr (by omega)) (by have := (hHB.out _ HR1.out).p4; rwa [← HE.out] at this)
              by_cases hU : mid < e ∧ e < b
              · have hU1 : mid < e := hU.1
                have hU2 : e < b := hU.2
                have hx1 : (mid : Int) < (n : Int) - (s : Int) := by have := HEZ.out; omega
                have hx2 : (n : Int) - (s : Int) < (b : Int) := by have := HEZ.out; omega
                go_wp2_with fail
                refine (IH.out blk off cap len _ _ _ mid e b d2 w2 (by omega) rfl HEZ.out rfl HL2.out (HS2.out.holds HH.out hb (HL2.out.trans HL.out.symm)) hb4 hU1 hU2 hbs hsz HP3.out HP4.out).mono ?_
                rintro e' w3 ⟨rfl, d3, hg3, hs3⟩
                have HG3 := Lib.hid hg3
                have HS3 : Hid (SW wc blk off d3 w3) := HS2.out.trans hs3 hb hg3.out.1
                clear hg3 hs3
                go_wp2_with fail
                all_goals (go_end0; exact ⟨rfl, d3, merge_fin (hHO.out _ HR1.out) (hHS.out _ HR1.out) (by have := hHB.out _ HR1.out; rwa [F6.out] at this) (by omega) (by omega) HSB.out HG2.out HG3.out, HS3.out⟩)
              · have HG3 : Hid (Mg d2 d2 mid b) := Mg.of_srt (srt_triv (s := e) (by omega) HP3.out HP4.out)
                by_cases hx : mid < e
                · have hx1 : (mid : Int) < (n : Int) - (s : Int) := by have := HEZ.out; omega
                  have hx2 : ¬ (n : Int) - (s : Int) < (b : Int) := by have := HEZ.out; omega
                  go_wp2_with fail
                  all_goals (go_end0; exact ⟨rfl, d2, merge_fin (hHO.out _ HR1.out) (hHS.out _ HR1.out) (by have := hHB.out _ HR1.out; rwa [F6.out] at this) (by omega) (by omega) HSB.out HG2.out HG3.out, HS2.out⟩)
                · have hx1 : ¬ (mid : Int) < (n : Int) - (s : Int) := by have := HEZ.out; omega
                  go_wp2_with fail
                  all_goals (go_end0; exact ⟨rfl, d2, merge_fin (hHO.out _ HR1.out) (hHS.out _ HR1.out) (by have := hHB.out _ HR1.out; rwa [F6.out] at this) (by omega) (by omega) HSB.out HG2.out HG3.out, HS2.out⟩)
            · have HG2 : Hid (Mg d d a mid) := Mg.of_srt (srt_triv (s := s) (by omega) (hHB.out _ HR1.out).p1 (by have := (hHB.out _ HR1.out).p2; rwa [F6.out] at this))
              have HS2 : Hid (SW wc blk off d wr) := HS1.out
              by_cases hy : a < s
              · have hy1 : (a : Int) < (s : Int) := by omega
                have hy2 : ¬ (s : Int) < (mid : Int) := by omega
                have hb4 : blk < wr.heap.size := Nat.lt_of_lt_of_le hb HS2.out.size
                have HL2 : Hid (d.size = len) := HG2.out.out.1.trans HL1.out
                have HP3 : Hid (SrtIn d mid e) := HG2.out.out.srt (by rw [HL1.out]; omega) (Or.inr (Nat.le_refl _)) (by have := (hHB.out _ HR1.out).p3; rwa [F6.out, ← HE.out] at this)
                have HP4 : Hid (SrtIn d e b) := HG2.out.out.srt (by rw [HL1.out]; omega) (Or.inr (by omega)) (by have := (hHB.out _ HR1.out).p4; rwa [← HE.out] at this)
                by_cases hU : mid < e ∧ e < b
                · have hU1 : mid < e := hU.1
                  have hU2 : e < b := hU.2
                  have hx1 : (mid : Int) < (n : Int) - (s : Int) := by have := HEZ.out; omega
                  have hx2 : (n : Int) - (s : Int) < (b : Int) := by have := HEZ.out; omega
                  go_wp2_with fail
                  refine (IH.out blk off cap len _ _ _ mid e b d wr (by omega) rfl HEZ.out rfl HL2.out (HS2.out.holds HH.out hb (HL2.out.trans HL.out.symm)) hb4 hU1 hU2 hbs hsz HP3.out HP4.out).mono ?_
                  rintro e' w3 ⟨rfl, d3, hg3, hs3⟩
                  have HG3 := Lib.hid hg3
                  have HS3 : Hid (SW wc blk off d3 w3) := HS2.out.trans hs3 hb hg3.out.1
                  clear hg3 hs3
                  go_wp2_with fail
                  all_goals (go_end0; exact ⟨rfl, d3, merge_fin (hHO.out _ HR1.out) (hHS.out _ HR1.out) (by have := hHB.out _ HR1.out; rwa [F6.out] at this) (by omega) (by omega) HSB.out HG2.out HG3.out, HS3.out⟩)
                · have HG3 : Hid (Mg d d mid b) := Mg.of_srt (srt_triv (s := e) (by omega) HP3.out HP4.out)
                  by_cases hx : mid < e
                  · have hx1 : (mid : Int) < (n : Int) - (s : Int) := by have := HEZ.out; omega
                    have hx2 : ¬ (n : Int) - (s : Int) < (b : Int) := by have := HEZ.out; omega
                    go_wp2_with fail
                    all_goals (go_end0; exact ⟨rfl, d, merge_fin (hHO.out _ HR1.out) (hHS.out _ HR1.out) (by have := hHB.out _ HR1.out; rwa [F6.out] at this) (by omega) (by omega) HSB.out HG2.out HG3.out, HS2.out⟩)
                  · have hx1 : ¬ (mid : Int) < (n : Int) - (s : Int) := by have := HEZ.out; omega
                    go_wp2_with fail
                    all_goals (go_end0; exact ⟨rfl, d, merge_fin (hHO.out _ HR1.out) (hHS.out _ HR1.out) (by have := hHB.out _ HR1.out; rwa [F6.out] at this) (by omega) (by omega) HSB.out HG2.out HG3.out, HS2.out⟩)
              · have hy1 : ¬ (a : Int) < (s : Int) := by omega
                have hb4 : blk < wr.heap.size := Nat.lt_of_lt_of_le hb HS2.out.size
                have HL2 : Hid (d.size = len) := HG2.out.out.1.trans HL1.out
                have HP3 : Hid (SrtIn d mid e) := HG2.out.out.srt (by rw [HL1.out]; omega) (Or.inr (Nat.le_refl _)) (by have := (hHB.out _ HR1.out).p3; rwa [F6.out, ← HE.out] at this)
                have HP4 : Hid (SrtIn d e b) := HG2.out.out.srt (by rw [HL1.out]; omega) (Or.inr (by omega)) (by have := (hHB.out _ HR1.out).p4; rwa [← HE.out] at this)
                by_cases hU : mid < e ∧ e < b
                · have hU1 : mid < e := hU.1
                  have hU2 : e < b := hU.2
                  have hx1 : (mid : Int) < (n : Int) - (s : Int) := by have := HEZ.out; omega
                  have hx2 : (n : Int) - (s : Int) < (b : Int) := by have := HEZ.out; omega
                  go_wp2_with fail
                  refine (IH.out blk off cap len _ _ _ mid e b d wr (by omega) rfl HEZ.out rfl HL2.out (HS2.out.holds HH.out hb (HL2.out.trans HL.out.symm)) hb4 hU1 hU2 hbs hsz HP3.out HP4.out).mono ?_
                  rintro e' w3 ⟨rfl, d3, hg3, hs3⟩
                  have HG3 := Lib.hid hg3
                  have HS3 : Hid (SW wc blk off d3 w3) := HS2.out.trans hs3 hb hg3.out.1
                  clear hg3 hs3
                  go_wp2_with fail
                  all_goals (go_end0; exact ⟨rfl, d3, merge_fin (hHO.out _ HR1.out) (hHS.out _ HR1.out) (by have := hHB.out _ HR1.out; rwa [F6.out] at this) (by omega) (by omega) HSB.out HG2.out HG3.out, HS3.out⟩)
                · have HG3 : Hid (Mg d d mid b) := Mg.of_srt (srt_triv (s := e) (by omega) HP3.out HP4.out)
                  by_cases hx : mid < e
                  · have hx1 : (mid : Int) < (n : Int) - (s : Int) := by have := HEZ.out; omega
                    have hx2 : ¬ (n : Int) - (s : Int) < (b : Int) := by have := HEZ.out; omega
                    go_wp2_with fail
                    all_goals (go_end0; exact ⟨rfl, d, merge_fin (hHO.out _ HR1.out) (hHS.out _ HR1.out) (by have := hHB.out _ HR1.out; rwa [F6.out] at this) (by omega) (by omega) HSB.out HG2.out HG3.out, HS2.out⟩)
                  · have hx1 : ¬ (mid : Int) < (n : Int) - (s : Int) := by have := HEZ.out; omega
                    go_wp2_with fail
                    all_goals (go_end0; exact ⟨rfl, d, merge_fin (hHO.out _ HR1.out) (hHS.out _ HR1.out) (by have := hHB.out _ HR1.out; rwa [F6.out] at this) (by omega) (by omega) HSB.out HG2.out HG3.out, HS2.out⟩)
          · have hz1' : ¬ (s : Int) < (m : Int) := by omega
            have hb3 : blk < wr.heap.size := Nat.lt_of_lt_of_le hb HS1.out.size
            have HL1 : Hid (d.size = len) := HR1.out.1.trans HL.out
            by_cases hL : a < s ∧ s < mid
            · have hL1 : a < s := hL.1
              have hL2 : s < mid := hL.2
              have hy1 : (a : Int) < (s : Int) := by omega
              have hy2 : (s : Int) < (mid : Int) := by omega
              go_wp2_with fail
              refine (IH.out blk off cap len _ _ _ a s mid d wr (by omega) rfl rfl rfl HL1.out (HS1.out.holds HH.out hb HR1.out.1) hb3 hL1 hL2 (by omega) hsz (hHB.out _ HR1.out).p1 (by have := (hHB.out _ HR1.out).p2; rwa [F6.out] at this)).mono ?_
              rintro e' w2 ⟨rfl, d2, hg2, hs2⟩
              have HG2 := Lib.hid hg2
              have HS2 : Hid (SW wc blk off d2 w2) := HS1.out.trans hs2 hb hg2.out.1
              clear hg2 hs2
              have hb4 : blk < w2.heap.size := Nat.lt_of_lt_of_le hb HS2.out.size
              have HL2 : Hid (d2.size = len) := HG2.out.out.1.trans HL1.out
              have HP3 : Hid (SrtIn d2 mid e) := HG2.out.out.srt (by rw [HL1.out]; omega) (Or.inr (Nat.le_refl _)) (by have := (hHB.out _ HR1.out).p3; rwa [F6.out, ← HE.out] at this)
              have HP4 : Hid (SrtIn d2 e b) := HG2.out.out.srt (by rw [HL1.out]; omega) (Or.inr (by omega)) (by have := (hHB.out _ HR1.out).p4; rwa [← HE.out] at this)
              by_cases hU : mid < e ∧ e < b
              · have hU1 : mid < e := hU.1
                have hU2 : e < b := hU.2
                have hx1 : (mid : Int) < (n : Int) - (s : Int) := by have := HEZ.out; omega
                have hx2 : (n : Int) - (s : Int) < (b : Int) := by have := HEZ.out; omega
                go_wp2_with fail
                refine (IH.out blk off cap len _ _ _ mid e b d2 w2 (by omega) rfl HEZ.out rfl HL2.out (HS2.out.holds HH.out hb (HL2.out.trans HL.out.symm)) hb4 hU1 hU2 hbs hsz HP3.out HP4.out).mono ?_
                rintro e' w3 ⟨rfl, d3, hg3, hs3⟩
                have HG3 := Lib.hid hg3
                have HS3 : Hid (SW wc blk off d3 w3) := HS2.out.trans hs3 hb hg3.out.1
                clear hg3 hs3
                go_wp2_with fail
                all_goals (go_end0; exact ⟨rfl, d3, merge_fin (hHO.out _ HR1.out) (hHS.out _ HR1.out) (by have := hHB.out _ HR1.out; rwa [F6.out] at this) (by omega) (by omega) HSB.out HG2.out HG3.out, HS3.out⟩)
              · have HG3 : Hid (Mg d2 d2 mid b) := Mg.of_srt (srt_triv (s := e) (by omega) HP3.out HP4.out)
                by_cases hx : mid < e
                · have hx1 : (mid : Int) < (n : Int) - (s : Int) := by have := HEZ.out; omega
                  have hx2 : ¬ (n : Int) - (s : Int) < (b : Int) := by have := HEZ.out; omega
                  go_wp2_with fail
                  all_goals (go_end0; exact ⟨rfl, d2, merge_fin (hHO.out _ HR1.out) (hHS.out _ HR1.out) (by have := hHB.out _ HR1.out; rwa [F6.out] at this) (by omega) (by omega) HSB.out HG2.out HG3.out, HS2.out⟩)
                · have hx1 : ¬ (mid : Int) < (n : Int) - (s : Int) := by have := HEZ.out; omega
                  go_wp2_with fail
                  all_goals (go_end0; exact ⟨rfl, d2, merge_fin (hHO.out _ HR1.out) (hHS.out _ HR1.out) (by have := hHB.out _ HR1.out; rwa [F6.out] at this) (by omega) (by omega) HSB.out HG2.out HG3.out, HS2.out⟩)
            · have HG2 : Hid (Mg d d a mid) := Mg.of_srt (srt_triv (s := s) (by omega) (hHB.out _ HR1.out).p1 (by have := (hHB.out _ HR1.out).p2; rwa [F6.out] at this))
              have HS2 : Hid (SW wc blk off d wr) := HS1.out
              by_cases hy : a < s
              · have hy1 : (a : Int) < (s : Int) := by omega
                have hy2 : ¬ (s : Int) < (mid : Int) := by omega
                have hb4 : blk < wr.heap.size := Nat.lt_of_lt_of_le hb HS2.out.size
                have HL2 : Hid (d.size = len) := HG2.out.out.1.trans HL1.out
                have HP3 : Hid (SrtIn d mid e) := HG2.out.out.srt (by rw [HL1.out]; omega) (Or.inr (Nat.le_refl _)) (by have := (hHB.out _ HR1.out).p3; rwa [F6.out, ← HE.out] at this)
                have HP4 : Hid (SrtIn d e b) := HG2.out.out.srt (by rw [HL1.out]; omega) (Or.inr (by omega)) (by have := (hHB.out _ HR1.out).p4; rwa [← HE.out] at this)
                by_cases hU : mid < e ∧ e < b
                · have hU1 : mid < e := hU.1
                  have hU2 : e < b := hU.2
                  have hx1 : (mid : Int) < (n : Int) - (s : Int) := by have := HEZ.out; omega
                  have hx2 : (n : Int) - (s : Int) < (b : Int) := by have := HEZ.out; omega
                  go_wp2_with fail
                  refine (IH.out blk off cap len _ _ _ mid e b d wr (by omega) rfl HEZ.out rfl HL2.out (HS2.out.holds HH.out hb (HL2.out.trans HL.out.symm)) hb4 hU1 hU2 hbs hsz HP3.out HP4.out).mono ?_
                  rintro e' w3 ⟨rfl, d3, hg3, hs3⟩
                  have HG3 := Lib.hid hg3
                  have HS3 : Hid (SW wc blk off d3 w3) := HS2.out.trans hs3 hb hg3.out.1
                  clear hg3 hs3
                  go_wp2_with fail
                  all_goals (go_end0; exact ⟨rfl, d3, merge_fin (hHO.out _ HR1.out) (hHS.out _ HR1.out) (by have := hHB.out _ HR1.out; rwa [F6.out] at this) (by omega) (by omega) HSB.out HG2.out HG3.out, HS3.out⟩)
                · have HG3 : Hid (Mg d d mid b) := Mg.of_srt (srt_triv (s := e) (by omega) HP3.out HP4.out)
                  by_cases hx : mid < e
                  · have hx1 : (mid : Int) < (n : Int) - (s : Int) := by have := HEZ.out; omega
                    have hx2 : ¬ (n : Int) - (s : Int) < (b : Int) := by have := HEZ.out; omega
                    go_wp2_with fail
                    all_goals (go_end0; exact ⟨rfl, d, merge_fin (hHO.out _ HR1.out) (hHS.out _ HR1.out) (by have := hHB.out _ HR1.out; rwa [F6.out] at this) (by omega) (by omega) HSB.out HG2.out HG3.out, HS2.out⟩)
                  · have hx1 : ¬ (mid : Int) < (n : Int) - (s : Int) := by have := HEZ.out; omega
                    go_wp2_with fail
                    all_goals (go_end0; exact ⟨rfl, d, merge_fin (hHO.out _ HR1.out) (hHS.out _ HR1.out) (by have := hHB.out _ HR1.out; rwa [F6.out] at this) (by omega) (by omega) HSB.out HG2.out HG3.out, HS2.out⟩)
              · have hy1 : ¬ (a : Int) < (s : Int) := by omega
                have hb4 : blk < wr.heap.size := Nat.lt_of_lt_of_le hb HS2.out.size
                have HL2 : Hid (d.size = len) := HG2.out.out.1.trans HL1.out
                have HP3 : Hid (SrtIn d mid e) := HG2.out.out.srt (by rw [HL1.out]; omega) (Or.inr (Nat.le_refl _)) (by have := (hHB.out _ HR1.out).p3; rwa [F6.out, ← HE.out] at this)
                have HP4 : Hid (SrtIn d e b) := HG2.out.out.srt (by rw [HL1.out]; omega) (Or.inr (by omega)) (by have := (hHB.out _ HR1.out).p4; rwa [← HE.out] at this)
                by_cases hU : mid < e ∧ e < b
                · have hU1 : mid < e := hU.1
                  have hU2 : e < b := hU.2
                  have hx1 : (mid : Int) < (n : Int) - (s : Int) := by have := HEZ.out; omega
                  have hx2 : (n : Int) - (s : Int) < (b : Int) := by have := HEZ.out; omega
                  go_wp2_with fail
                  refine (IH.out blk off cap len _ _ _ mid e b d wr (by omega) rfl HEZ.out rfl HL2.out (HS2.out.holds HH.out hb (HL2.out.trans HL.out.symm)) hb4 hU1 hU2 hbs hsz HP3.out HP4.out).mono ?_
                  rintro e' w3 ⟨rfl, d3, hg3, hs3⟩
                  have HG3 := Lib.hid hg3
                  have HS3 : Hid (SW wc blk off d3 w3) := HS2.out.trans hs3 hb hg3.out.1
                  clear hg3 hs3
                  go_wp2_with fail
                  all_goals (go_end0; exact ⟨rfl, d3, merge_fin (hHO.out _ HR1.out) (hHS.out _ HR1.out) (by have := hHB.out _ HR1.out; rwa [F6.out] at this) (by omega) (by omega) HSB.out HG2.out HG3.out, HS3.out⟩)
                · have HG3 : Hid (Mg d d mid b) := Mg.of_srt (srt_triv (s := e) (by omega) HP3.out HP4.out)
                  by_cases hx : mid < e
                  · have hx1 : (mid : Int) < (n : Int) - (s : Int) := by have := HEZ.out; omega
                    have hx2 : ¬ (n : Int) - (s : Int) < (b : Int) := by have := HEZ.out; omega
                    go_wp2_with fail
                    all_goals (go_end0; exact ⟨rfl, d, merge_fin (hHO.out _ HR1.out) (hHS.out _ HR1.out) (by have := hHB.out _ HR1.out; rwa [F6.out] at this) (by omega) (by omega) HSB.out HG2.out HG3.out, HS2.out⟩)
                  · have hx1 : ¬ (mid : Int) < (n : Int) - (s : Int) := by have := HEZ.out; omega
                    go_wp2_with fail
                    all_goals (go_end0; exact ⟨rfl, d, merge_fin (hHO.out _ HR1.out) (hHS.out _ HR1.out) (by have := hHB.out _ HR1.out; rwa [F6.out] at this) (by omega) (by omega) HSB.out HG2.out HG3.out, HS2.out⟩)


theorem c_symAll : ∀ N, SymSaid N := fun N => by
  induction N with
  | zero => intro blk off cap len ai mi bi a m b d w hN h1 h2 h3 hl hH hb ham hmb; omega
  | succ N ih => exact c_symStep N ih

theorem c_symMerge (blk off cap len : Nat) (ai mi bi : Int) (a m b : Nat) (d : Array Msg) (w : World) (h1 : ai = a) (h2 : mi = m) (h3 : bi = b) (hl : d.size = len) (hH : HM w blk off d) (hb : blk < w.heap.size)
    (ham : a < m) (hmb : m < b) (hbs : b ≤ len) (hsz : len ≤ 1000000000000) (q1 : SrtIn d a m) (q2 : SrtIn d m b) :
    Calls Try.prog 71 #[.slice (some ⟨blk, off, none⟩) len cap, .int .i64 ai, .int .i64 mi, .int .i64 bi, cmpV] w (Left (fun d' => Mg d d' a b) w blk off) :=
  c_symAll (b - a) blk off cap len ai mi bi a m b d w (Nat.le_refl _) h1 h2 h3 hl hH hb ham hmb hbs hsz q1 q2

end Go.Proofs.Ytllmiaonlofeeaa
