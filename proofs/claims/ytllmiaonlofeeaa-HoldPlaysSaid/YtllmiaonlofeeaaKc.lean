/-
  The row of messages that the stable sort works on: its worlds, and swapRangeCmpFunc. No conditions beyond what each theorem states.
-/
import Derived.Test.YtllmiaonlofeeaaKb
import Derived.BigRegion
import Derived.Deep.LoopGhost
namespace Go.Proofs.Ytllmiaonlofeeaa
open Go.RowKit Go.Sort

/-- The row holds d now; all else is as in w, but for draws and new blocks. -/
def SW (w : World) (blk off : Nat) (d : Array Msg) (w' : World) : Prop := ∃ m os, w' = sortWorldK encM 6 w blk off m d os
/-- The row of messages, writable. -/
def HM (w : World) (blk off : Nat) (d : Array Msg) : Prop := HoldsK encM 6 w blk off d

theorem SW.refl {w : World} {blk off : Nat} {d : Array Msg} (h : HM w blk off d) : SW w blk off d w :=
  ⟨0, #[], by unfold sortWorldK; rw [grow_empty]; exact (putRowK_self encM 6 w blk off d h).symm⟩
theorem SW.gr {w w1 w2 : World} {blk off : Nat} {d : Array Msg} (h : SW w blk off d w1) (k : Gr w1 w2) : SW w blk off d w2 := by
  obtain ⟨m, os, rfl⟩ := h
  obtain ⟨q, os', rfl⟩ := k
  exact ⟨m + q, os ++ os', sortWorldK_grown_c encM 6 w blk off m q d os os'⟩
theorem SW.holds {w w1 : World} {blk off : Nat} {d0 d : Array Msg} (h : SW w blk off d w1) (h0 : HM w blk off d0) (hb : blk < w.heap.size) (hs : d.size = d0.size) : HM w1 blk off d := by
  obtain ⟨m, os, rfl⟩ := h
  exact holdsK_sortWorldK_c encM 6 w blk off d0 d m os h0 hb hs
theorem SW.size {w w1 : World} {blk off : Nat} {d : Array Msg} (h : SW w blk off d w1) : w.heap.size ≤ w1.heap.size := by
  obtain ⟨m, os, rfl⟩ := h
  exact size_sortWorldK_c encM 6 w blk off m d os
theorem SW.trans {w w1 w2 : World} {blk off : Nat} {d d' : Array Msg} (h : SW w blk off d w1) (k : SW w1 blk off d' w2) (hb : blk < w.heap.size) (hs : d'.size = d.size) : SW w blk off d' w2 := by
  obtain ⟨m, os, rfl⟩ := h
  obtain ⟨m', os', rfl⟩ := k
  exact ⟨m + m', os ++ os', grow_step_growK encM 6 w os os' m m' blk off d d' hb hs⟩
theorem SW.exch {w w1 : World} {blk off : Nat} {d : Array Msg} (h : SW w blk off d w1) (hb : blk < w.heap.size) {i j : Nat} (hi : i < d.size) (hj : j < d.size) :
    SW w blk off (Go.Sort.swp d i j) ((w1.drew.setCells blk (off + i * 6) (encM d[j]!)).setCells blk (off + j * 6) (encM d[i]!)) := by
  obtain ⟨m, os, rfl⟩ := h
  exact ⟨m + 1, os, sortWorldK_swp_c encM 6 w blk off (fun _ => rfl) m d os hb i j hi hj⟩

/-- The six cells of message i. -/
structure Six (w : World) (blk o : Nat) (x : Msg) : Prop where
  c0 : w.cell? ⟨blk, o, none⟩ = some (.int .i64 x.frm)
  c1 : w.cell? ⟨blk, o + 1, none⟩ = some (.int .u32 x.seq)
  c2 : w.cell? ⟨blk, o + 2, none⟩ = some (.int .u64 x.stamp)
  c3 : w.cell? ⟨blk, o + 3, none⟩ = some (.int .i64 x.svc)
  c4 : w.cell? ⟨blk, o + 4, none⟩ = some (.slice x.da x.dl x.dc)
  c5 : w.cell? ⟨blk, o + 5, none⟩ = some (.string x.pay)
structure Soft (w : World) (blk o : Nat) : Prop where
  f0 : w.frozen? ⟨blk, o, none⟩ = false
  f1 : w.frozen? ⟨blk, o + 1, none⟩ = false
  f2 : w.frozen? ⟨blk, o + 2, none⟩ = false
  f3 : w.frozen? ⟨blk, o + 3, none⟩ = false
  f4 : w.frozen? ⟨blk, o + 4, none⟩ = false
  f5 : w.frozen? ⟨blk, o + 5, none⟩ = false

theorem HM.six {w : World} {blk off : Nat} {d : Array Msg} (h : HM w blk off d) {i : Nat} (hi : i < d.size) : Six w blk (off + i * 6) d[i]! :=
  ⟨(HoldsK.cell h hi (c := 0) (by omega)).1, (HoldsK.cell h hi (c := 1) (by omega)).1, (HoldsK.cell h hi (c := 2) (by omega)).1, (HoldsK.cell h hi (c := 3) (by omega)).1, (HoldsK.cell h hi (c := 4) (by omega)).1, (HoldsK.cell h hi (c := 5) (by omega)).1⟩
theorem HM.soft {w : World} {blk off : Nat} {d : Array Msg} (h : HM w blk off d) {i : Nat} (hi : i < d.size) : Soft w blk (off + i * 6) :=
  ⟨(HoldsK.cell h hi (c := 0) (by omega)).2, (HoldsK.cell h hi (c := 1) (by omega)).2, (HoldsK.cell h hi (c := 2) (by omega)).2, (HoldsK.cell h hi (c := 3) (by omega)).2, (HoldsK.cell h hi (c := 4) (by omega)).2, (HoldsK.cell h hi (c := 5) (by omega)).2⟩

/-- The six cells of a message, in whatever world that has grown from w. -/
structure SixG (w : World) (blk o : Nat) (x : Msg) : Prop where
  c0 : ∀ n os, (grow (w.drewN n) os).cell? ⟨blk, o, none⟩ = some (.int .i64 x.frm)
  c1 : ∀ n os, (grow (w.drewN n) os).cell? ⟨blk, o + 1, none⟩ = some (.int .u32 x.seq)
  c2 : ∀ n os, (grow (w.drewN n) os).cell? ⟨blk, o + 2, none⟩ = some (.int .u64 x.stamp)
  c3 : ∀ n os, (grow (w.drewN n) os).cell? ⟨blk, o + 3, none⟩ = some (.int .i64 x.svc)
  c4 : ∀ n os, (grow (w.drewN n) os).cell? ⟨blk, o + 4, none⟩ = some (.slice x.da x.dl x.dc)
  c5 : ∀ n os, (grow (w.drewN n) os).cell? ⟨blk, o + 5, none⟩ = some (.string x.pay)
theorem Six.grown {w : World} {blk o : Nat} {x : Msg} (h : Six w blk o x) (hb : blk < w.heap.size) : SixG w blk o x :=
  ⟨cell_grown hb h.c0, cell_grown hb h.c1, cell_grown hb h.c2, cell_grown hb h.c3, cell_grown hb h.c4, cell_grown hb h.c5⟩

/-- The exchange, as the walk spells its stores. -/
theorem SW.exch6 {w w1 : World} {blk off : Nat} {d : Array Msg} (h : SW w blk off d w1) (hb : blk < w.heap.size) {i j : Nat} (hi : i < d.size) (hj : j < d.size) {x y : Msg} (hx : x = d[i]!) (hy : y = d[j]!) :
    SW w blk off (Go.Sort.swp d i j) (((((((((((((w1.setCell ⟨blk, off + i * 6, none⟩ (.int .i64 y.frm)).setCell ⟨blk, off + i * 6 + 1, none⟩ (.int .u32 y.seq)).setCell ⟨blk, off + i * 6 + 2, none⟩ (.int .u64 y.stamp)).setCell ⟨blk, off + i * 6 + 3, none⟩ (.int .i64 y.svc)).setCell ⟨blk, off + i * 6 + 4, none⟩ (.slice y.da y.dl y.dc)).setCell ⟨blk, off + i * 6 + 5, none⟩ (.string y.pay)).setCell ⟨blk, off + j * 6, none⟩ (.int .i64 x.frm)).setCell ⟨blk, off + j * 6 + 1, none⟩ (.int .u32 x.seq)).setCell ⟨blk, off + j * 6 + 2, none⟩ (.int .u64 x.stamp)).setCell ⟨blk, off + j * 6 + 3, none⟩ (.int .i64 x.svc)).setCell ⟨blk, off + j * 6 + 4, none⟩ (.slice x.da x.dl x.dc)).setCell ⟨blk, off + j * 6 + 5, none⟩ (.string x.pay)).drew) := by
  subst hx hy
  have := SW.exch h hb hi hj
  simpa only [encM, World.setCells, World.setCell_drew, Nat.add_assoc, Nat.reduceAdd] using this

/-- swapRange, as it goes. -/
def sr (d : Array Msg) (a b : Nat) : Nat → Array Msg
  | 0 => d
  | n + 1 => swp (sr d a b n) (a + n) (b + n)
theorem sr_size (d : Array Msg) (a b n : Nat) : (sr d a b n).size = d.size := by
  induction n with
  | zero => rfl
  | succ n ih => simp [sr, size_swp, ih]

theorem c_swapRange (blk off cap a b n : Nat) (d : Array Msg) (c : Value) (w : World) (hH : HM w blk off d) (hb : blk < w.heap.size)
    (ha : a + n ≤ d.size) (hb' : b + n ≤ d.size) (hab : a + n ≤ b) (hsz : d.size ≤ 1000000000000) :
    Calls Try.prog 73 #[.slice (some ⟨blk, off, none⟩) d.size cap, .int .i64 a, .int .i64 b, .int .i64 n, c] w fun e w' => e = .returned (.tuple #[]) ∧ SW w blk off (sr d a b n) w' := by
  have mixed : Try.prog.follows .mixedOrders = true := by kernel_rfl
  have HH := Lib.hid hH
  clear hH
  go_enter Try.func73, Try.ntmps73
  go_wp2
  go_loopw [10] (fun vi wr => ∃ k : Nat, vi = .int .i64 k ∧ k ≤ n ∧ Hid (SW w blk off (sr d a b k) wr)) (fun vi _ => n - (intOf vi).toNat)
  case atStart => exact ⟨0, rfl, by omega, SW.refl HH.out⟩
  case round =>
    obtain ⟨k, rfl, hk, hS⟩ := hrel
    by_cases hlt : k < n
    · have hs := sr_size d a b k
      have HMr : HM wr blk off (sr d a b k) := hS.out.holds HH.out hb hs
      have sa := HMr.six (i := a + k) (by omega)
      have sb := HMr.six (i := b + k) (by omega)
      have fa := HMr.soft (i := a + k) (by omega)
      have fb := HMr.soft (i := b + k) (by omega)
      obtain ⟨x, hx⟩ : ∃ x, x = (sr d a b k)[a + k]! := ⟨_, rfl⟩
      obtain ⟨y, hy⟩ : ∃ y, y = (sr d a b k)[b + k]! := ⟨_, rfl⟩
      rw [← hx] at sa
      rw [← hy] at sb
      obtain ⟨x0, x1, x2, x3, x4, x5⟩ := sa
      obtain ⟨y0, y1, y2, y3, y4, y5⟩ := sb
      obtain ⟨p0, p1, p2, p3, p4, p5⟩ := fa
      obtain ⟨q0, q1, q2, q3, q4, q5⟩ := fb
      have HX := Lib.hid hx
      have HY := Lib.hid hy
      have HS2 := Lib.hid hs
      clear hs HMr hx hy
      go_wp2_with fail
      have mixed : Try.prog.follows .mixedOrders = true := by kernel_rfl
      go_region
      go_wp2
      go_roundw
      case rel => exact ⟨k + 1, by go_num, by omega, hS.out.exch6 hb (by rw [HS2.out]; omega) (by rw [HS2.out]; omega) HX.out HY.out⟩
      case measure => simp [intOf]; omega
    · go_wp2
      go_end0
      obtain rfl : k = n := by omega
      exact ⟨rfl, hS.out⟩

theorem c_swapRange' (blk off cap len : Nat) (ai bi ni : Int) (a b n : Nat) (d : Array Msg) (c : Value) (w : World) (h1 : ai = a) (h2 : bi = b) (h3 : ni = n) (hl : d.size = len) (hH : HM w blk off d) (hb : blk < w.heap.size)
    (ha : a + n ≤ len) (hb' : b + n ≤ len) (hab : a + n ≤ b) (hsz : len ≤ 1000000000000) :
    Calls Try.prog 73 #[.slice (some ⟨blk, off, none⟩) len cap, .int .i64 ai, .int .i64 bi, .int .i64 ni, c] w fun e w' => e = .returned (.tuple #[]) ∧ SW w blk off (sr d a b n) w' := by
  subst h1 h2 h3 hl
  exact c_swapRange blk off cap a b n d c w hH hb ha hb' hab hsz

end Go.Proofs.Ytllmiaonlofeeaa
