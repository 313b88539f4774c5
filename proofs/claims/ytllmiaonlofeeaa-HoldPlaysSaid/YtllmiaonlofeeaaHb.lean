/-
  hold.copies: messages in memory of their own. No conditions beyond what each theorem states.
-/
import Derived.Test.YtllmiaonlofeeaaHa
namespace Go.Proofs.Ytllmiaonlofeeaa
open Go.RowKit Go.Sort

/-- Every message's Deps lie where P allows. -/
def DepsAll (P : Nat → Prop) (w : World) (l : List Msg) : Prop := ∀ x ∈ l, DepsIn P w x.da x.dl
theorem DepsAll.bw {P : Nat → Prop} {w w' : World} {l : List Msg} (h : DepsAll P w l) (k : Bw w w') : DepsAll P w' l := fun x hx => (h x hx).bw k

theorem DL.snoc {w : World} {l : List Msg} {L : List DM} {x : Msg} {D : DM} (h : DL w l L) (hx : Reads w x D) : DL w (l ++ [x]) (L ++ [D]) := by
  refine ⟨by simp [h.1], fun i hi => ?_⟩
  simp only [List.length_append, List.length_singleton] at hi
  by_cases c : i < l.length
  · have h2 := h.2 i c
    have e1 : (l ++ [x])[i]! = l[i]! := by rw [getElem!_pos (l ++ [x]) i (by simp; omega), getElem!_pos l i c, List.getElem_append_left c]
    have e2 : (L ++ [D])[i]! = L[i]! := by rw [getElem!_pos (L ++ [D]) i (by simp [← h.1]; omega), getElem!_pos L i (by rw [← h.1]; exact c), List.getElem_append_left (by rw [← h.1]; exact c)]
    rw [e1, e2]; exact h2
  · have hi2 : i = l.length := by omega
    subst hi2
    have e1 : (l ++ [x])[l.length]! = x := by simp
    have e2 : (L ++ [D])[l.length]! = D := by rw [h.1]; simp
    rw [e1, e2]; exact hx
theorem DL.keep {P : Nat → Prop} {w w' : World} {l : List Msg} {L : List DM} (h : DL w l L) (hi : DepsAll P w l) (k : Keep P w w') : DL w' l L :=
  ⟨h.1, fun i hl => (h.2 i hl).keep (hi _ (by rw [getElem!_pos l i hl]; exact List.getElem_mem hl)) k⟩
theorem DepsAll.keep {P : Nat → Prop} {w w' : World} {l : List Msg} (h : DepsAll P w l) (k : Keep P w w') : DepsAll P w' l := fun x hx => (h x hx).keep k
theorem DepsAll.mono {P P' : Nat → Prop} {w : World} {l : List Msg} (h : DepsAll P w l) (hp : ∀ k, P k → P' k) : DepsAll P' w l := fun x hx => (h x hx).mono hp
theorem DepsAll.snoc {P : Nat → Prop} {w : World} {l : List Msg} {x : Msg} (h : DepsAll P w l) (hx : DepsIn P w x.da x.dl) : DepsAll P w (l ++ [x]) := by
  intro y hy
  rcases List.mem_append.1 hy with hy | hy
  · exact h y hy
  · rw [List.mem_singleton.1 hy]; exact hx
/-- A row of messages and a row of numbers never stand in one block. -/
theorem row_apart {w : World} {b : Nat} {c cur : Array Value} {f f' : Nat × Nat} (h : w.heap[b]? = some (.cells c 40 f)) : ¬ w.heap[b]? = some (.cells cur 43 f') := by
  rw [h]; intro e; simp at e
theorem DepsIn.off {P : Nat → Prop} {w : World} {a : Option Addr} {n base : Nat} {v : Value} {l : List Msg} (h : DepsIn P w a n) (ho : Own6 base w v l) : DepsIn (fun k => P k ∧ ∀ g, v.ownBlock = some g → k ≠ g) w a n := by
  rcases h with h | ⟨b, o, c, e, p, q⟩
  · exact Or.inl h
  · refine Or.inr ⟨b, o, c, e, ⟨p, fun g hg hb => ?_⟩, q⟩
    subst hb
    rcases ho.2 with ⟨rfl, _⟩ | ⟨g', cap, cur, rfl, _, hg', _⟩
    · simp [Value.ownBlock] at hg
    · simp only [Value.ownBlock, Option.some.injEq] at hg
      subst hg
      exact row_apart q hg'
theorem DepsAll.off {P : Nat → Prop} {w : World} {base : Nat} {v : Value} {l r : List Msg} (h : DepsAll P w r) (ho : Own6 base w v l) : DepsAll (fun k => P k ∧ ∀ g, v.ownBlock = some g → k ≠ g) w r := fun x hx => (h x hx).off ho
theorem grown_keep {w w' : World} {row : Option Nat} (h : w.grownBy w' row) : Keep (fun k => ∀ g, row = some g → k ≠ g) w w' :=
  ⟨h.os, h.tape, h.output, h.size, fun k hp hk => h.block k hk (fun e => hp k e.symm rfl)⟩
theorem Bw.below_of {w w' : World} (h : Bw w w') {B : Nat} (hB : B ≤ w.heap.size) : Below B w w' := Below.mono h hB
theorem DL.nil (w : World) : DL w [] [] := ⟨rfl, by simp⟩
theorem take_step {L : List DM} {i : Nat} (h : i < L.length) : L.take (i + 1) = L.take i ++ [L[i]!] := by rw [List.take_succ_eq_append_getElem h, getElem!_pos L i h]

set_option maxRecDepth 100000 in
set_option maxHeartbeats 2000000 in
theorem c_copies (v : Value) (l : List Msg) (L : List DM) (w : World) (h : MAt w v l) (hD : DL w l L) (hn : l.length ≤ 1000000) (hd : ∀ x ∈ l, x.dl ≤ 1000000) :
    Calls Try.prog 65 #[v] w fun e w' => ∃ v' l', e = .returned v' ∧ Own6 w.heap.size w' v' l' ∧ DL w' l' L ∧ DepsAll (fun k => w.heap.size ≤ k) w' l' ∧ (∀ x ∈ l', x.dl ≤ 1000000) ∧ Bw w w' := by
  obtain ⟨a, cap, rfl⟩ := h.form
  have HM1 := Lib.hid h
  have HD1 := Lib.hid hD
  have HS := Lib.hid hd
  clear h hD hd
  go_enter Try.func65, Try.ntmps65
  go_wp2_with fail
  go_loopw [3, 8] (fun vo vi wr => ∃ (i : Nat) (o : List Msg), vi = .int .i64 i ∧ i ≤ l.length ∧ Hid (Own6 w.heap.size wr vo o) ∧ Hid (DL wr o (L.take i)) ∧ Hid (DepsAll (fun k => w.heap.size ≤ k) wr o) ∧ Hid (∀ x ∈ o, x.dl ≤ 1000000) ∧ Hid (Bw w wr)) (fun _ vi _ => l.length - (intOf vi).toNat)
  case atStart => exact ⟨0, [], rfl, by omega, World.ownsRow_nil _ _ _ _, DL.nil _, (fun x hx => by cases hx), (fun x hx => by cases hx), Bw.refl _⟩
  case round =>
    obtain ⟨i, o, rfl, hi, hO, hL, hP, hQ, hB⟩ := hrel
    by_cases hlt : i < l.length
    · have hltz : (i : Int) < (l.length : Int) := by omega
      have m1 := HM1.out.bw hB.out
      obtain ⟨b, of, c1, q1⟩ := m1.nil (by omega)
      simp only [Value.slice.injEq, true_and] at q1
      obtain ⟨rfl, rfl⟩ := q1
      have gx := (m1.six (by omega)).2.2 i hlt
      have rx := (HD1.out.2 i hlt).bw hB.out
      have dx := HS.out l[i]! (by rw [getElem!_pos l i hlt]; exact List.getElem_mem hlt)
      obtain ⟨x, hx⟩ : ∃ x, x = l[i]! := ⟨_, rfl⟩
      obtain ⟨D, hDD⟩ : ∃ D, D = L[i]! := ⟨_, rfl⟩
      rw [← hx] at gx rx dx
      rw [← hDD] at rx
      have HDD := Lib.hid hDD
      have RX := Lib.hid rx
      clear hx hDD m1 rx
      obtain ⟨x0, x1, x2, x3, x4, x5⟩ := gx
      have wz : w.heap.size ≤ wr.heap.size := hB.out.size
      go_wp2_with fail
      have n1 := heap_alloc_new wr (.cells #[.int .i64 x.frm, .int .u32 x.seq, .int .u64 x.stamp, .int .i64 x.svc, .slice x.da x.dl x.dc, .string x.pay] 43)
      have b1 := Bw.alloc wr (.cells #[.int .i64 x.frm, .int .u32 x.seq, .int .u64 x.stamp, .int .i64 x.svc, .slice x.da x.dl x.dc, .string x.pay] 43)
      have z1 : (wr.alloc (.cells #[.int .i64 x.frm, .int .u32 x.seq, .int .u64 x.stamp, .int .i64 x.svc, .slice x.da x.dl x.dc, .string x.pay] 43)).heap.size = wr.heap.size + 1 := by simp
      generalize wr.alloc (.cells #[.int .i64 x.frm, .int .u32 x.seq, .int .u64 x.stamp, .int .i64 x.svc, .slice x.da x.dl x.dc, .string x.pay] 43) = wa at n1 b1 z1 ⊢
      refine (c_CloneU x.da x.dl x.dc D.deps wa (RX.out.bw b1).deps (by omega)).mono ?_
      rintro e w1 ⟨a', c', rfl, hat, hin, hb1⟩
      have n2 := hb1.blk n1
      have f4 : w1.frozen? ⟨wr.heap.size, 4, none⟩ = false := soft_blk n2
      have x4' : w1.cell? ⟨wr.heap.size, 4, none⟩ = some (.slice x.da x.dl x.dc) := cell_blk n2
      have bz : wr.heap.size < w1.heap.size := lt_blk n2
      have N2 := Lib.hid n2
      have B1 := Lib.hid (b1.trans hb1)
      have HAT := Lib.hid hat
      have HIN := Lib.hid hin
      have Z1 := Lib.hid z1
      clear n1 n2 b1 hb1 hat hin x0 x1 x2 x3 x4 x5 z1
      go_upto_region 6 with fail
      have n3 := set_blk (i := 4) N2.out (.slice a' x.dl c')
      have b3 : Bw wr (w1.setCell ⟨wr.heap.size, 4, none⟩ (.slice a' x.dl c')) := B1.out.setCell (Nat.le_refl _) _
      have hne : ¬ (fun k => k ≠ wr.heap.size) wr.heap.size := by simp
      have hk3 : Keep (fun k => k ≠ wr.heap.size) w1 (w1.setCell ⟨wr.heap.size, 4, none⟩ (.slice a' x.dl c')) := (Keep.refl _ _).setCell hne _
      have hin2 : DepsIn (fun k => k ≠ wr.heap.size) w1 a' x.dl := HIN.out.mono fun k hk => by have := Z1.out; show k ≠ _; omega
      have hin2' : DepsIn (fun k => w.heap.size ≤ k) w1 a' x.dl := HIN.out.mono fun k hk => by have := Z1.out; show _ ≤ k; omega
      have hat3 := HAT.out.keep hin2 hk3
      have hin3 : DepsIn (fun k => w.heap.size ≤ k ∧ k ≠ wr.heap.size) (w1.setCell ⟨wr.heap.size, 4, none⟩ (.slice a' x.dl c')) a' x.dl :=
        (HIN.out.mono (P' := fun k => w.heap.size ≤ k ∧ k ≠ wr.heap.size) fun k hk => by have := Z1.out; exact ⟨by omega, by omega⟩).keep (hk3.mono fun k hk => hk.2)
      generalize w1.setCell ⟨wr.heap.size, 4, none⟩ (.slice a' x.dl c') = w3 at n3 b3 hat3 hin3 ⊢
      have y0 : w3.cell? ⟨wr.heap.size, 0, none⟩ = some (.int .i64 x.frm) := cell_blk n3
      have y1 : w3.cell? ⟨wr.heap.size, 1, none⟩ = some (.int .u32 x.seq) := cell_blk n3
      have y2 : w3.cell? ⟨wr.heap.size, 2, none⟩ = some (.int .u64 x.stamp) := cell_blk n3
      have y3 : w3.cell? ⟨wr.heap.size, 3, none⟩ = some (.int .i64 x.svc) := cell_blk n3
      have y4 : w3.cell? ⟨wr.heap.size, 4, none⟩ = some (.slice a' x.dl c') := cell_blk n3
      have y5 : w3.cell? ⟨wr.heap.size, 5, none⟩ = some (.string x.pay) := cell_blk n3
      have B3 := Lib.hid b3
      have HAT3 := Lib.hid hat3
      have HIN3 := Lib.hid hin3
      have wz3 : wr.heap.size ≤ w3.heap.size := b3.size
      have hlen : o.length = i := by have := hL.out.1; rw [List.length_take] at this; have := HD1.out.1; omega
      have LN : Hid (o.length + [(⟨x.frm, x.seq, x.stamp, x.svc, a', x.dl, c', x.pay⟩ : Msg)].length ≤ 1000000000) := by show _ ≤ _; simp; omega
      have HO3 := Lib.hid (hO.out.bw (b3.trans (Bw.alloc w3 (.cells #[.int .i64 x.frm, .int .u32 x.seq, .int .u64 x.stamp, .int .i64 x.svc, .slice a' x.dl c', .string x.pay] 43))))
      have HL3 := Lib.hid (hL.out.bw b3)
      have HP3 := Lib.hid (hP.out.bw b3)
      have HLEN := Lib.hid hlen
      clear hne hk3 hin2 hin2' n3 b3 hat3 hin3 f4 x4' bz hlen N2 B1 HAT HIN hL hP
      go_wp2_with (at_builtin; refine app6 rfl _ _ rfl w.heap.size _ (.slice _ 1 1) o [(⟨x.frm, x.seq, x.stamp, x.svc, a', x.dl, c', x.pay⟩ : Msg)] rfl rfl HO3.out (MAt.one (⟨x.frm, x.seq, x.stamp, x.svc, a', x.dl, c', x.pay⟩ : Msg) (heap_alloc_new _ _)) LN.out (by simp; omega) ?_; intro v4 w4 ho4 hg4; have HO4 := Lib.hid ho4; have HG4 := Lib.hid hg4; clear ho4 hg4)
      go_wp2_with fail
      go_roundw
      case rel =>
        have ba := Bw.alloc w3 (.cells #[.int .i64 x.frm, .int .u32 x.seq, .int .u64 x.stamp, .int .i64 x.svc, .slice a' x.dl c', .string x.pay] 43)
        have kg := grown_keep HG4.out
        have i3 : DepsAll (fun k => w.heap.size ≤ k) w3 [(⟨x.frm, x.seq, x.stamp, x.svc, a', x.dl, c', x.pay⟩ : Msg)] := fun y hy => by
          rw [List.mem_singleton.1 hy]; exact HIN3.out.mono fun k hk => hk.1
        have r3 : Reads w3 (⟨x.frm, x.seq, x.stamp, x.svc, a', x.dl, c', x.pay⟩ : Msg) D := by
          exact ⟨RX.out.frm, RX.out.seq, RX.out.stamp, RX.out.svc, HAT3.out, RX.out.pay⟩
        have dl1 := HL3.out.bw ba
        have da1 := (HP3.out.bw ba).off HO3.out
        have da2 := (i3.bw ba).off HO3.out
        have dl4 := dl1.keep (da1.mono fun k hk => hk.2) kg
        have r4 := (r3.bw ba).keep ((da2 (⟨x.frm, x.seq, x.stamp, x.svc, a', x.dl, c', x.pay⟩ : Msg) (by simp)).mono fun k hk => hk.2) kg
        refine ⟨i + 1, o ++ [(⟨x.frm, x.seq, x.stamp, x.svc, a', x.dl, c', x.pay⟩ : Msg)], by go_num, by omega, HO4.out, ?_, ?_, ?_, ?_⟩
        · rw [take_step (by rw [← HD1.out.1]; exact hlt), ← HDD.out]
          exact dl4.snoc r4
        · exact ((da1.keep (kg.mono fun k hk => hk.2)).mono fun k hk => hk.1).snoc (((da2 (⟨x.frm, x.seq, x.stamp, x.svc, a', x.dl, c', x.pay⟩ : Msg) (by simp)).keep (kg.mono fun k hk => hk.2)).mono fun k hk => hk.1)
        · intro y hy
          rcases List.mem_append.1 hy with hy | hy
          · exact hQ.out y hy
          · rw [List.mem_singleton.1 hy]; exact dx
        · exact Below.trans hB.out (((B3.out.trans ba).below_of wz).trans (Below.grown (Below.refl _ _) HG4.out (by simp; omega) (Own6.row hO.out)))
      case measure => first | (simp [intOf]; done) | (simp [intOf]; omega)
    · obtain rfl : i = l.length := by omega
      go_wp2
      go_ret
      exact ⟨_, o, rfl, hO.out, by have := hL.out; rwa [HD1.out.1, List.take_length] at this, hP.out, hQ.out, hB.out⟩
end Go.Proofs.Ytllmiaonlofeeaa
