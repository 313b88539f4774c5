/-
  The hold's Get. No conditions beyond what each theorem states.
-/
import Derived.Test.YtllmiaonlofeeaaHd
namespace Go.Proofs.Ytllmiaonlofeeaa
open Go.RowKit Go.Sort

/-- A message's value. -/
def msgV (x : Msg) : Value := .agg #[.int .i64 x.frm, .int .u32 x.seq, .int .u64 x.stamp, .int .i64 x.svc, .slice x.da x.dl x.dc, .string x.pay]
def zeroM : Msg := ⟨0, 0, 0, 0, none, 0, 0, ⟨#[]⟩⟩

theorem zero_blk (w : World) : (w.alloc (.cells #[.int .i64 0, .int .u32 0, .int .u64 0, .int .i64 0, .slice none 0 0, .string ⟨#[]⟩] 43)).heap[w.heap.size]? = some (.cells #[.int .i64 0, .int .u32 0, .int .u64 0, .int .i64 0, .slice none 0 0, .string ⟨#[]⟩] 43 (0, 0)) := heap_alloc_new _ _

set_option maxRecDepth 100000 in
set_option maxHeartbeats 1000000 in
theorem c_hGet_out (b : Nat) (p seq : Int) (w : World) (hp : ¬ (0 ≤ p ∧ p < 64)) :
    Calls Try.prog 38 #[.pointer (some ⟨b, 0, none⟩), .int .i64 p, .int .u32 seq] w fun e w' => e = .returned (.tuple #[msgV zeroM, .bool false]) ∧ Bw w w' := by
  have HP := Lib.hid hp
  clear hp
  by_cases h0 : seq ≤ 0
  · go_enter Try.func38, Try.ntmps38
    go_wp2_with fail
    refine (c_hLow_out b p _ HP.out).mono ?_
    rintro e w' ⟨rfl, rfl⟩
    go_wp2_with fail
    refine bodyPost_ret (v := .tuple #[msgV zeroM, .bool false]) (by simp [results, Try.results38, go_sem, msgV, zeroM, *]) rfl ⟨rfl, ?_⟩
    exact Bw.alloc _ _
  · have h0d : decide (seq ≤ 0) = false := decide_eq_false h0
    have h1 : 0 < seq := by omega
    go_enter Try.func38, Try.ntmps38
    go_wp2_with fail
    refine (c_hLow_out b p _ HP.out).mono ?_
    rintro e w' ⟨rfl, rfl⟩
    go_wp2_with fail
    refine (c_hCount_out b p _ HP.out).mono ?_
    rintro e w' ⟨rfl, rfl⟩
    go_wp2_with fail
    refine bodyPost_ret (v := .tuple #[msgV zeroM, .bool false]) (by simp [results, Try.results38, go_sem, msgV, zeroM, *]) rfl ⟨rfl, ?_⟩
    exact Bw.alloc _ _

set_option maxRecDepth 100000 in
set_option maxHeartbeats 1000000 in
theorem c_hGet_none (b i : Nat) (p seq : Int) (low : Nat → Int) (v : Nat → Value) (a : Option Addr) (n c : Nat) (w : World) (h : HoldBlk w b low v) (hp : p = i) (hi : i < 64) (hv : v i = .slice a n c) (h0 : 0 ≤ low i) (h1 : low i + n ≤ 1000000)
    (hs : seq ≤ low i ∨ low i + n < seq) :
    Calls Try.prog 38 #[.pointer (some ⟨b, 0, none⟩), .int .i64 p, .int .u32 seq] w fun e w' => e = .returned (.tuple #[msgV zeroM, .bool false]) ∧ Bw w w' := by
  have hB := Bw.alloc w (.cells #[.int .i64 0, .int .u32 0, .int .u64 0, .int .i64 0, .slice none 0 0, .string ⟨#[]⟩] 43)
  have HC1 := Lib.hid (c_hLow_in b i p low v _ (hB.blk h) hp hi)
  have HC2 := Lib.hid (c_hCount_in b i p low v a n c _ (hB.blk h) hp hi hv h0 (by omega))
  have z1 := cell_blk (i := 0) (zero_blk w)
  have z2 := soft_blk (i := 0) (zero_blk w)
  clear h hv hp hB z1 z2
  obtain ⟨lo, hlo⟩ : ∃ lo, lo = low i := ⟨_, rfl⟩
  rw [← hlo] at HC1 HC2 h0 h1 hs
  clear hlo
  by_cases h2 : seq ≤ lo
  · go_enter Try.func38, Try.ntmps38
    go_wp2_with fail
    refine HC1.out.mono ?_
    rintro e w' ⟨rfl, rfl⟩
    go_wp2_with fail
    refine bodyPost_ret (v := .tuple #[msgV zeroM, .bool false]) (by simp [results, Try.results38, go_sem, msgV, zeroM, *]) rfl ⟨rfl, ?_⟩
    exact Bw.alloc _ _
  · have h2d : decide (seq ≤ lo) = false := decide_eq_false h2
    have h3 : lo + n < seq := by omega
    go_enter Try.func38, Try.ntmps38
    go_wp2_with fail
    refine HC1.out.mono ?_
    rintro e w' ⟨rfl, rfl⟩
    go_wp2_with fail
    refine HC2.out.mono ?_
    rintro e w1 ⟨rfl, hg⟩
    have hB1 := (Bw.alloc w (.cells #[.int .i64 0, .int .u32 0, .int .u64 0, .int .i64 0, .slice none 0 0, .string ⟨#[]⟩] 43)).trans hg.bw
    have n1 := hg.bw.blk (zero_blk w)
    have f0 : w1.frozen? ⟨w.heap.size, 0, none⟩ = false := soft_blk n1
    have f1 : w1.frozen? ⟨w.heap.size, 1, none⟩ = false := soft_blk n1
    have f2 : w1.frozen? ⟨w.heap.size, 2, none⟩ = false := soft_blk n1
    have f3 : w1.frozen? ⟨w.heap.size, 3, none⟩ = false := soft_blk n1
    have f4 : w1.frozen? ⟨w.heap.size, 4, none⟩ = false := soft_blk n1
    have f5 : w1.frozen? ⟨w.heap.size, 5, none⟩ = false := soft_blk n1
    have c0 : w1.cell? ⟨w.heap.size, 0, none⟩ = some (.int .i64 0) := cell_blk n1
    have c1 : w1.cell? ⟨w.heap.size, 1, none⟩ = some (.int .u32 0) := cell_blk n1
    have c2 : w1.cell? ⟨w.heap.size, 2, none⟩ = some (.int .u64 0) := cell_blk n1
    have c3 : w1.cell? ⟨w.heap.size, 3, none⟩ = some (.int .i64 0) := cell_blk n1
    have c4 : w1.cell? ⟨w.heap.size, 4, none⟩ = some (.slice none 0 0) := cell_blk n1
    have c5 : w1.cell? ⟨w.heap.size, 5, none⟩ = some (.string ⟨#[]⟩) := cell_blk n1
    have hz : w.heap.size < w1.heap.size := lt_blk n1
    have HB1 := Lib.hid hB1
    have N1 := Lib.hid n1
    clear hg hB1 n1
    go_wp2_with fail
    refine bodyPost_ret (v := .tuple #[msgV zeroM, .bool false]) (by simp [results, Try.results38, go_sem, msgV, zeroM, *]) rfl ⟨rfl, ?_⟩
    exact (((((Below.setCell HB1.out (Nat.le_refl _) _).setCell (Nat.le_refl _) _).setCell (Nat.le_refl _) _).setCell (Nat.le_refl _) _).setCell (Nat.le_refl _) _).setCell (Nat.le_refl _) _

theorem fromL_one {lo seq : Int} {L : List DM} (h1 : lo < seq) (h2 : seq ≤ lo + L.length) : fromL lo seq 1 L = [L[(seq - lo - 1).toNat]!] := by
  unfold fromL fromIdx
  rw [show (max seq (lo + 1) - lo - 1).toNat = (seq - lo - 1).toNat by omega]
  have hj : (seq - lo - 1).toNat < L.length := by omega
  rw [List.drop_eq_getElem_cons hj, getElem!_pos L _ hj]; rfl

set_option maxRecDepth 100000 in
set_option maxHeartbeats 1000000 in
theorem c_hGet_in (b i : Nat) (p seq : Int) (low : Nat → Int) (v : Nat → Value) (l : List Msg) (L : List DM) (w : World) (h : HoldBlk w b low v) (hp : p = i) (hi : i < 64) (hv : Own6 0 w (v i) l) (hL : DL w l L) (h0 : 0 ≤ low i) (h1 : low i + l.length ≤ 1000000)
    (hd : ∀ x ∈ l, x.dl ≤ 1000000) (hs0 : low i < seq) (hs : seq ≤ low i + l.length) :
    Calls Try.prog 38 #[.pointer (some ⟨b, 0, none⟩), .int .i64 p, .int .u32 seq] w fun e w' =>
      ∃ x, e = .returned (.tuple #[msgV x, .bool true]) ∧ Reads w' x L[(seq - low i - 1).toNat]! ∧ DepsIn (fun k => w.heap.size ≤ k) w' x.da x.dl ∧ x.dl ≤ 1000000 ∧ Bw w w' := by
  have hB := Bw.alloc w (.cells #[.int .i64 0, .int .u32 0, .int .u64 0, .int .i64 0, .slice none 0 0, .string ⟨#[]⟩] 43)
  obtain ⟨a, c, hvf⟩ := hv.at.form
  have HC1 := Lib.hid (c_hLow_in b i p low v _ (hB.blk h) hp hi)
  have HC2 := Lib.hid (c_hCount_in b i p low v a l.length c _ (hB.blk h) hp hi hvf h0 (by omega))
  have HC3 := Lib.hid (fun (w1 : World) (hw : Bw (w.alloc (.cells #[.int .i64 0, .int .u32 0, .int .u64 0, .int .i64 0, .slice none 0 0, .string ⟨#[]⟩] 43)) w1) => c_hFrom_in b i p seq 1 low v l L w1 (hw.blk (hB.blk h)) hp hi (hv.bw (hB.trans hw)) (hL.bw (hB.trans hw)) h0 h1 hd (by omega) hs (by omega))
  have hE := fromL_one (lo := low i) (L := L) hs0 (by rw [← hL.1]; exact hs)
  rw [hE] at HC3
  clear hE h hv hvf hp hB hL hd
  obtain ⟨D, hD⟩ : ∃ D, D = L[(seq - low i - 1).toNat]! := ⟨_, rfl⟩
  rw [← hD] at HC3
  rw [← hD]
  obtain ⟨lo, hlo⟩ : ∃ lo, lo = low i := ⟨_, rfl⟩
  rw [← hlo] at HC1 HC2 h0 h1 hs hs0
  clear hlo hD
  have h2d : decide (seq ≤ lo) = false := decide_eq_false (by omega)
  have h2 : ¬ seq ≤ lo := by omega
  have h3 : ¬ lo + l.length < seq := by omega
  have h3d : decide (lo + (l.length : Int) < seq) = false := decide_eq_false h3
  go_enter Try.func38, Try.ntmps38
  go_wp2_with fail
  refine HC1.out.mono ?_
  rintro e w' ⟨rfl, rfl⟩
  go_wp2_with fail
  refine HC2.out.mono ?_
  rintro e w1 ⟨rfl, hg⟩
  have HG := Lib.hid hg.bw
  clear hg
  go_wp2_with fail
  refine (HC3.out w1 HG.out).mono ?_
  rintro e w2 ⟨v', l', rfl, ho, hl, hp, hq, hb⟩
  obtain ⟨x, rfl⟩ : ∃ x, l' = [x] := by
    have := hl.1
    match l', this with
    | [x], _ => exact ⟨x, rfl⟩
  have hat := ho.at
  obtain ⟨g, of, cap, q⟩ := hat.nil (by simp)
  simp only [List.length_singleton] at q
  subst q
  have hsix := (hat.six (by omega)).2.2 0 (by omega)
  have hgb := (hat.six (by omega)).2.1
  rw [show ([x] : List Msg)[0]! = x from rfl, Nat.zero_mul, Nat.add_zero] at hsix
  have hr : Reads w2 x D := hl.2 0 (by simp)
  have hi2 := hp x (by simp)
  have hq2 := hq x (by simp)
  obtain ⟨x0, x1, x2, x3, x4, x5⟩ := hsix
  have n1 := (HG.out.trans hb).blk (zero_blk w)
  have f0 : w2.frozen? ⟨w.heap.size, 0, none⟩ = false := soft_blk n1
  have f1 : w2.frozen? ⟨w.heap.size, 1, none⟩ = false := soft_blk n1
  have f2 : w2.frozen? ⟨w.heap.size, 2, none⟩ = false := soft_blk n1
  have f3 : w2.frozen? ⟨w.heap.size, 3, none⟩ = false := soft_blk n1
  have f4 : w2.frozen? ⟨w.heap.size, 4, none⟩ = false := soft_blk n1
  have f5 : w2.frozen? ⟨w.heap.size, 5, none⟩ = false := soft_blk n1
  have c0 : w2.cell? ⟨w.heap.size, 0, none⟩ = some (.int .i64 0) := cell_blk n1
  have c1 : w2.cell? ⟨w.heap.size, 1, none⟩ = some (.int .u32 0) := cell_blk n1
  have c2 : w2.cell? ⟨w.heap.size, 2, none⟩ = some (.int .u64 0) := cell_blk n1
  have c3 : w2.cell? ⟨w.heap.size, 3, none⟩ = some (.int .i64 0) := cell_blk n1
  have c4 : w2.cell? ⟨w.heap.size, 4, none⟩ = some (.slice none 0 0) := cell_blk n1
  have c5 : w2.cell? ⟨w.heap.size, 5, none⟩ = some (.string ⟨#[]⟩) := cell_blk n1
  have hz : w.heap.size < w2.heap.size := lt_blk n1
  have hwz : w.heap.size + 1 ≤ w1.heap.size := by have := HG.out.size; simp at this; exact this
  have HB := Lib.hid (((Bw.alloc w (.cells #[.int .i64 0, .int .u32 0, .int .u64 0, .int .i64 0, .slice none 0 0, .string ⟨#[]⟩] 43)).trans HG.out).trans hb)
  have HR := Lib.hid hr
  have HI := Lib.hid hi2
  have HWZ := Lib.hid hwz
  clear n1 hr hi2 hb ho hl hp hq hat hwz
  go_wp2_with fail
  refine bodyPost_ret (v := .tuple #[msgV x, .bool true]) (by simp [results, Try.results38, go_sem, msgV, *]) rfl ⟨x, rfl, ?_, ?_, hq2, ?_⟩
  · have hne : ¬ (fun k => k ≠ w.heap.size) w.heap.size := by simp
    refine HR.out.keep (P := fun k => k ≠ w.heap.size) (HI.out.mono fun k hk => by have := HWZ.out; show k ≠ _; omega) ?_
    exact (((((((Keep.refl _ _).setCell hne _).setCell hne _).setCell hne _).setCell hne _).setCell hne _).setCell hne _)
  · have hne : ¬ (fun k => w.heap.size ≤ k ∧ k ≠ w.heap.size) w.heap.size := by simp
    refine DepsIn.mono (P := fun k => w.heap.size ≤ k ∧ k ≠ w.heap.size) (DepsIn.keep (HI.out.mono fun k hk => by have := HWZ.out; exact ⟨by omega, by omega⟩) ?_) (fun k hk => hk.1)
    exact (((((((Keep.refl _ _).setCell hne _).setCell hne _).setCell hne _).setCell hne _).setCell hne _).setCell hne _)
  · exact (((((Below.setCell HB.out (Nat.le_refl _) _).setCell (Nat.le_refl _) _).setCell (Nat.le_refl _) _).setCell (Nat.le_refl _) _).setCell (Nat.le_refl _) _).setCell (Nat.le_refl _) _
end Go.Proofs.Ytllmiaonlofeeaa
