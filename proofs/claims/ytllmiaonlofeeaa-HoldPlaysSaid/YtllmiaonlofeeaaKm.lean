/-
  Two messages, and two lists of messages, are they the same: the references' Same and All. No conditions beyond what each theorem states.
-/
import Derived.Test.YtllmiaonlofeeaaKl
namespace Go.Proofs.Ytllmiaonlofeeaa
open Go.RowKit Go.Sort

/-- A message, with what its Deps hold. -/
structure DM where
  frm : Int
  seq : Int
  stamp : Int
  svc : Int
  deps : List Int
  pay : ByteArray
  deriving Inhabited, DecidableEq

/-- A slice of uint32 reads as ds. -/
def DepsAt (w : World) (a : Option Addr) (n : Nat) (ds : List Int) : Prop := n = ds.length ∧ (ds = [] ∨ ∃ b o, a = some ⟨b, o, none⟩ ∧ b < w.heap.size ∧ ∀ i, i < n → w.cell? ⟨b, o + i, none⟩ = some (.int .u32 ds[i]!))
theorem DepsAt.bw {w w' : World} {a : Option Addr} {n : Nat} {ds : List Int} (h : DepsAt w a n ds) (k : Bw w w') : DepsAt w' a n ds := by
  obtain ⟨hn, h | ⟨b, o, rfl, hb, hc⟩⟩ := h
  · exact ⟨hn, Or.inl h⟩
  · exact ⟨hn, Or.inr ⟨b, o, rfl, Nat.lt_of_lt_of_le hb k.size, fun i hi => by rw [k.cell (p := ⟨b, _, none⟩) hb]; exact hc i hi⟩⟩
/-- The message m reads as D. -/
structure Reads (w : World) (m : Msg) (D : DM) : Prop where
  frm : m.frm = D.frm
  seq : m.seq = D.seq
  stamp : m.stamp = D.stamp
  svc : m.svc = D.svc
  deps : DepsAt w m.da m.dl D.deps
  pay : m.pay = D.pay
theorem Reads.bw {w w' : World} {m : Msg} {D : DM} (h : Reads w m D) (k : Bw w w') : Reads w' m D := ⟨h.frm, h.seq, h.stamp, h.svc, h.deps.bw k, h.pay⟩

theorem toList_inj {p q : ByteArray} (h : p.toList = q.toList) : p = q := by
  rw [ByteArray.toList_eq, ByteArray.toList_eq] at h
  exact ByteArray.ext (Array.ext' h)

set_option maxRecDepth 100000 in
set_option maxHeartbeats 2000000 in
theorem c_rSame0 (f q s v f' q' s' v' : Int) (da da' : Option Addr) (dl dc dl' dc' : Nat) (p p' : ByteArray) (ds ds' : List Int) (w : World) (hd : DepsAt w da dl ds) (hd' : DepsAt w da' dl' ds') (hs : dl ≤ 9223372036854775807) :
    Calls Try.prog 23 #[.agg #[.int .i64 f, .int .u32 q, .int .u64 s, .int .i64 v, .slice da dl dc, .string p], .agg #[.int .i64 f', .int .u32 q', .int .u64 s', .int .i64 v', .slice da' dl' dc', .string p']] w fun e w' =>
      e = .returned (.bool (decide (f = f' ∧ q = q' ∧ s = s' ∧ v = v' ∧ p = p' ∧ ds = ds'))) ∧ Gr w w' := by
  have HD := Lib.hid hd
  have HD' := Lib.hid hd'
  clear hd hd'
  by_cases h1 : f = f'
  case neg =>
    have hb : (f != f') = true := by simpa using h1
    go_enter Try.func23, Try.ntmps23
    go_wp2
    go_ret
    exact ⟨ret_bool (by simp [h1]), (Gr.alloc _ _).trans (Gr.alloc _ _)⟩
  subst h1
  by_cases h2 : q = q'
  case neg =>
    have hb : (q != q') = true := by simpa using h2
    go_enter Try.func23, Try.ntmps23
    go_wp2
    go_ret
    exact ⟨ret_bool (by simp [h2]), (Gr.alloc _ _).trans (Gr.alloc _ _)⟩
  subst h2
  by_cases h3 : s = s'
  case neg =>
    have hb : (s != s') = true := by simpa using h3
    go_enter Try.func23, Try.ntmps23
    go_wp2
    go_ret
    exact ⟨ret_bool (by simp [h3]), (Gr.alloc _ _).trans (Gr.alloc _ _)⟩
  subst h3
  by_cases h4 : v = v'
  case neg =>
    have hb : (v != v') = true := by simpa using h4
    go_enter Try.func23, Try.ntmps23
    go_wp2
    go_ret
    exact ⟨ret_bool (by simp [h4]), (Gr.alloc _ _).trans (Gr.alloc _ _)⟩
  subst h4
  by_cases h5 : p = p'
  case neg =>
    have hb : ¬ p.toList = p'.toList := fun h => h5 (toList_inj h)
    go_enter Try.func23, Try.ntmps23
    go_wp2
    go_ret
    exact ⟨ret_bool (by simp [h5]), (Gr.alloc _ _).trans (Gr.alloc _ _)⟩
  subst h5
  by_cases h6 : dl = dl'
  case neg =>
    have hb : ((dl : Int) != (dl' : Int)) = true := by rw [bne_iff_ne]; omega
    have hds : ¬ ds = ds' := fun h => h6 (by rw [HD.out.1, HD'.out.1, h])
    have HDS := Lib.hid hds
    clear hds
    go_enter Try.func23, Try.ntmps23
    go_wp2
    go_ret
    exact ⟨ret_bool (by simp [HDS.out]), (Gr.alloc _ _).trans (Gr.alloc _ _)⟩
  subst h6
  obtain ⟨W, hW⟩ : ∃ W, W = ((w.alloc (.cells #[.int .i64 f, .int .u32 q, .int .u64 s, .int .i64 v, .slice da dl dc, .string p] 43)).alloc (.cells #[.int .i64 f, .int .u32 q, .int .u64 s, .int .i64 v, .slice da' dl dc', .string p] 43)) := ⟨_, rfl⟩
  have gW : Gr w W := hW ▸ (Gr.alloc _ _).trans (Gr.alloc _ _)
  have nW1 : W.heap[w.heap.size]? = some (.cells #[.int .i64 f, .int .u32 q, .int .u64 s, .int .i64 v, .slice da dl dc, .string p] 43 (0, 0)) := hW ▸ (alloc2_heap w _ _).1
  have nW2 : W.heap[w.heap.size + 1]? = some (.cells #[.int .i64 f, .int .u32 q, .int .u64 s, .int .i64 v, .slice da' dl dc', .string p] 43 (0, 0)) := hW ▸ (alloc2_heap w _ _).2
  have HW := Lib.hid hW
  have GW := Lib.hid gW
  have N1 := Lib.hid nW1
  have N2 := Lib.hid nW2
  clear hW gW nW1 nW2
  have mixed : Try.prog.follows .mixedOrders = true := by kernel_rfl
  go_enter Try.func23, Try.ntmps23
  go_wp2_with fail
  rw [← HW.out]
  go_loopw [5] (fun vk wr => ∃ k : Nat, vk = .int .i64 k ∧ k ≤ dl ∧ Hid (∀ i, i < k → ds[i]! = ds'[i]!) ∧ Hid (Gr W wr)) (fun vk _ => dl - (intOf vk).toNat)
  case atStart => exact ⟨0, rfl, by omega, fun i hi => by omega, Gr.refl _⟩
  case round =>
    obtain ⟨k, rfl, hk, hE, hG⟩ := hrel
    have bG : Bw W wr := hG.out.bw
    have x4 : wr.cell? ⟨w.heap.size, 4, none⟩ = some (.slice da dl dc) := cell_blk (bG.blk N1.out)
    have y4 : wr.cell? ⟨w.heap.size + 1, 4, none⟩ = some (.slice da' dl dc') := cell_blk (bG.blk N2.out)
    have BG := Lib.hid bG
    clear bG
    by_cases hlt : k < dl
    · have hltz : (k : Int) < (dl : Int) := by omega
      have hd1 := HD.out
      have hd2 := HD'.out
      obtain ⟨e1, e2 | ⟨b, o, rfl, hb, hc⟩⟩ := hd1
      · rw [e2] at e1; simp at e1; omega
      obtain ⟨e3, e4 | ⟨b', o', rfl, hb', hc'⟩⟩ := hd2
      · rw [e4] at e3; simp at e3; omega
      have bw : Bw w wr := GW.out.bw.trans BG.out
      have z1 : wr.cell? ⟨b, o + k, none⟩ = some (.int .u32 ds[k]!) := by rw [bw.cell (p := ⟨b, _, none⟩) hb]; exact hc k hlt
      have z2 : wr.cell? ⟨b', o' + k, none⟩ = some (.int .u32 ds'[k]!) := by rw [bw.cell (p := ⟨b', _, none⟩) hb']; exact hc' k hlt
      clear hc hc' e1 e3 bw hb hb'
      obtain ⟨x, hx⟩ : ∃ x, x = ds[k]! := ⟨_, rfl⟩
      obtain ⟨y, hy⟩ : ∃ y, y = ds'[k]! := ⟨_, rfl⟩
      rw [← hx] at z1
      rw [← hy] at z2
      have HX := Lib.hid hx
      have HY := Lib.hid hy
      clear hx hy
      by_cases hxy : x = y
      · subst hxy
        go_wp2_with fail
        go_quiet (fail)
        go_wp2
        go_roundw
        case rel =>
          refine ⟨k + 1, by go_num, by omega, fun i hi => ?_, hG.out.trans ⟨nq, #[], by simp⟩⟩
          by_cases c : i = k
          · rw [c, ← HX.out, ← HY.out]
          · exact hE.out i (by omega)
        case measure => first | (simp [intOf]; done) | (simp [intOf]; omega)
      · have hb : (x != y) = true := by simpa using hxy
        have HN : Hid (¬ ds = ds') := fun h => hxy (by rw [HX.out, HY.out, h])
        go_wp2_with fail
        go_quiet (fail)
        go_wp2
        go_ret
        exact ⟨ret_bool (by simp [HN.out]), GW.out.trans (hG.out.trans ⟨nq, #[], by simp⟩)⟩
    · obtain rfl : k = dl := by omega
      have HN : Hid (ds = ds') := by
        apply List.ext_getElem
        · rw [← HD.out.1, ← HD'.out.1]
        · intro i h1 h2
          have := hE.out i (by rw [HD.out.1]; exact h1)
          rwa [getElem!_pos ds i h1, getElem!_pos ds' i h2] at this
      go_wp2
      go_ret
      exact ⟨ret_bool (by simp [HN.out]), GW.out.trans hG.out⟩

theorem sixArr (x : Msg) : (.agg #[.int .i64 x.frm, .int .u32 x.seq, .int .u64 x.stamp, .int .i64 x.svc, .slice x.da x.dl x.dc, .string x.pay] : Value) = .agg (encM x).toArray := rfl

theorem c_rSame (x y : Msg) (X Y : DM) (w : World) (hx : Reads w x X) (hy : Reads w y Y) (hs : x.dl ≤ 9223372036854775807) :
    Calls Try.prog 23 #[.agg #[.int .i64 x.frm, .int .u32 x.seq, .int .u64 x.stamp, .int .i64 x.svc, .slice x.da x.dl x.dc, .string x.pay], .agg #[.int .i64 y.frm, .int .u32 y.seq, .int .u64 y.stamp, .int .i64 y.svc, .slice y.da y.dl y.dc, .string y.pay]] w fun e w' =>
      e = .returned (.bool (decide (X = Y))) ∧ Gr w w' := by
  refine (c_rSame0 _ _ _ _ _ _ _ _ _ _ _ _ _ _ _ _ X.deps Y.deps w hx.deps hy.deps hs).mono fun e w' ⟨he, hw⟩ => ⟨he.trans (ret_bool ?_), hw⟩
  rw [hx.frm, hx.seq, hx.stamp, hx.svc, hx.pay, hy.frm, hy.seq, hy.stamp, hy.svc, hy.pay]
  obtain ⟨a, b, c, d, e, f⟩ := X
  obtain ⟨a', b', c', d', e', f'⟩ := Y
  simp only [DM.mk.injEq]
  congr 1
  apply propext
  constructor
  · rintro ⟨h1, h2, h3, h4, h5, h6⟩; exact ⟨h1, h2, h3, h4, h6, h5⟩
  · rintro ⟨h1, h2, h3, h4, h5, h6⟩; exact ⟨h1, h2, h3, h4, h6, h5⟩

end Go.Proofs.Ytllmiaonlofeeaa
