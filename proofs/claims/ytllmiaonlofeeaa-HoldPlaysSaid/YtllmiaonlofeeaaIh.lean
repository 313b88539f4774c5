/-
  spoil: what messages hold is written over; nothing else. No conditions beyond what each theorem states.
-/
import Derived.Test.YtllmiaonlofeeaaIg
namespace Go.Proofs.Ytllmiaonlofeeaa
open Go.RowKit Go.Sort
set_option linter.unusedSimpArgs false
set_option linter.unusedVariables false

/-- The row at block g of messages whose numbers lie where P does not say; what is written over leaves this. -/
structure SpOk (P : Nat → Prop) (g : Nat) (l : List Msg) (w : World) : Prop where
  gP : ¬ P g
  row : ∃ cs, w.heap[g]? = some (.cells cs 43 (0, 0))
  dep : ∀ i, i < l.length → w.cell? ⟨g, i * 6 + 4, none⟩ = some (.slice l[i]!.da l[i]!.dl l[i]!.dc)
  pay : ∀ i, i < l.length → ∃ p, w.cell? ⟨g, i * 6 + 5, none⟩ = some (.string p)
  num : ∀ i, i < l.length → l[i]!.dl = 0 ∨ ∃ b o c, l[i]!.da = some ⟨b, o, none⟩ ∧ ¬ P b ∧ w.heap[b]? = some (.cells c 40 (0, 0)) ∧ ∀ k, k < l[i]!.dl → ∃ d, w.cell? ⟨b, o + k, none⟩ = some (.int .u32 d)
theorem SpOk.drew {P : Nat → Prop} {g : Nat} {l : List Msg} {w : World} (h : SpOk P g l w) : SpOk P g l w.drew := ⟨h.gP, h.row, h.dep, h.pay, h.num⟩
theorem Keep.drew {P : Nat → Prop} {w w' : World} (h : Keep P w w') : Keep P w w'.drew := ⟨h.os, h.tape, h.output, h.size, h.block⟩
theorem cell_set_same {w : World} {b i : Nat} {c : Array Value} {e : TypeId} {fr : Nat × Nat} (h : w.heap[b]? = some (.cells c e fr)) (u : Value) (j : Nat) : (w.setCell ⟨b, i, none⟩ u).cell? ⟨b, j, none⟩ = if i = j ∧ i < c.size then some u else w.cell? ⟨b, j, none⟩ := by
  rw [cell_blk (set_blk h u), cell_blk h, Array.getElem?_setIfInBounds]
  by_cases e : i = j
  · subst e
    by_cases hi : i < c.size
    · rw [if_pos rfl, if_pos hi, if_pos ⟨rfl, hi⟩]
    · rw [if_pos rfl, if_neg hi, if_neg (fun h => hi h.2), Array.getElem?_eq_none (by omega)]
  · rw [if_neg e, if_neg (fun h => e h.1)]
theorem cell_set_far {w : World} {b b' i j : Nat} (u : Value) (h : b' ≠ b) : (w.setCell ⟨b, i, none⟩ u).cell? ⟨b', j, none⟩ = w.cell? ⟨b', j, none⟩ := World.cell?_of_block (set_other u h)
theorem SpOk.setNum {P : Nat → Prop} {g : Nat} {l : List Msg} {w : World} (h : SpOk P g l w) {b o : Nat} {c : Array Value} (hb : w.heap[b]? = some (.cells c 40 (0, 0))) (d : Int) : SpOk P g l (w.setCell ⟨b, o, none⟩ (.int .u32 d)) := by
  obtain ⟨cs, hrow⟩ := h.row
  have hgb : g ≠ b := fun e => by subst e; rw [hrow] at hb; simp at hb
  refine ⟨h.gP, ⟨cs, (set_other _ hgb).trans hrow⟩, fun i hi => (cell_set_far _ hgb).trans (h.dep i hi), fun i hi => ?_, fun i hi => ?_⟩
  · obtain ⟨p, hp⟩ := h.pay i hi
    exact ⟨p, (cell_set_far _ hgb).trans hp⟩
  · rcases h.num i hi with h0 | ⟨b', o', c', e1, e2, e3, e4⟩
    · exact Or.inl h0
    · by_cases e : b' = b
      · subst e
        rw [hb] at e3
        refine Or.inr ⟨b', o', _, e1, e2, set_blk hb _, fun k hk => ?_⟩
        rw [cell_set_same hb]
        split
        · exact ⟨_, rfl⟩
        · exact e4 k hk
      · refine Or.inr ⟨b', o', c', e1, e2, (set_other _ e).trans e3, fun k hk => ?_⟩
        rw [cell_set_far _ e]
        exact e4 k hk
theorem SpOk.setPay {P : Nat → Prop} {g : Nat} {l : List Msg} {w : World} (h : SpOk P g l w) (i : Nat) (p : ByteArray) : SpOk P g l (w.setCell ⟨g, i * 6 + 5, none⟩ (.string p)) := by
  obtain ⟨cs, hrow⟩ := h.row
  refine ⟨h.gP, ⟨_, set_blk hrow _⟩, fun j hj => ?_, fun j hj => ?_, fun j hj => ?_⟩
  · rw [cell_set_same hrow, if_neg (fun e => by omega)]
    exact h.dep j hj
  · rw [cell_set_same hrow]
    split
    · exact ⟨_, rfl⟩
    · exact h.pay j hj
  · rcases h.num j hj with h0 | ⟨b', o', c', e1, e2, e3, e4⟩
    · exact Or.inl h0
    · have e : b' ≠ g := fun e => by subst e; rw [hrow] at e3; simp at e3
      refine Or.inr ⟨b', o', c', e1, e2, (set_other _ e).trans e3, fun k hk => ?_⟩
      rw [cell_set_far _ e]
      exact e4 k hk

set_option maxRecDepth 100000 in
set_option maxHeartbeats 4000000 in
theorem c_spoil_row (P : Nat → Prop) (g cap : Nat) (l : List Msg) (w : World) (h : SpOk P g l w) (hn : l.length ≤ 1000000) (hd : ∀ x ∈ l, x.dl ≤ 1000000) :
    Calls Try.prog 37 #[.slice (some ⟨g, 0, none⟩) l.length cap] w fun e w' => e = .returned (.tuple #[]) ∧ Keep P w w' := by
  have mixed : Try.prog.follows .mixedOrders = true := by kernel_rfl
  have HS := Lib.hid h
  have HD := Lib.hid hd
  clear h hd
  go_enter Try.func37, Try.ntmps37
  go_wp2_with fail
  go_loopw [2] (fun vi wr => ∃ i : Nat, vi = .int .i64 i ∧ i ≤ l.length ∧ Hid (SpOk P g l wr) ∧ Hid (Keep P w wr)) (fun vi _ => l.length - (intOf vi).toNat)
  case atStart => exact ⟨0, rfl, by omega, HS.out, Keep.refl _ _⟩
  case round =>
    obtain ⟨i, rfl, hi, hS, hK⟩ := hrel
    by_cases hlt : i < l.length
    · have hltz : (i : Int) < (l.length : Int) := by omega
      have hdx := HD.out l[i]! (by rw [getElem!_pos l i hlt]; exact List.getElem_mem hlt)
      obtain ⟨x, hx⟩ : ∃ x, x = l[i]! := ⟨_, rfl⟩
      rw [← hx] at hdx
      have HXX := Lib.hid hx
      clear hx
      go_wp2_with fail
      go_loopw [3] (fun vk wr => ∃ k : Nat, vk = .int .i64 k ∧ k ≤ x.dl ∧ Hid (SpOk P g l wr) ∧ Hid (Keep P w wr)) (fun vk _ => x.dl - (intOf vk).toNat)
      case atStart => exact ⟨0, rfl, by omega, hS.out, hK.out⟩
      case round =>
        obtain ⟨k, rfl, hk, hS2, hK2⟩ := hrel
        have c4 : wr.cell? ⟨g, i * 6 + 4, none⟩ = some (.slice x.da x.dl x.dc) := by rw [HXX.out]; exact hS2.out.dep i hlt
        have hgl : g < wr.heap.size := by obtain ⟨cs, hc⟩ := hS2.out.row; exact lt_blk hc
        by_cases hkt : k < x.dl
        · have hktz : (k : Int) < (x.dl : Int) := by omega
          obtain ⟨b, o, c, e1, e2, e3, e4⟩ : ∃ b o c, x.da = some ⟨b, o, none⟩ ∧ ¬ P b ∧ wr.heap[b]? = some (.cells c 40 (0, 0)) ∧ ∀ k, k < x.dl → ∃ d, wr.cell? ⟨b, o + k, none⟩ = some (.int .u32 d) := by
            rcases hS2.out.num i hlt with h0 | h0
            · rw [← HXX.out] at h0; omega
            · rw [← HXX.out] at h0; exact h0
          obtain ⟨d, hd5⟩ := e4 k hkt
          rw [e1] at c4
          have f5 : wr.frozen? ⟨b, o + k, none⟩ = false := soft_blk e3
          have hbl : b < wr.heap.size := lt_blk e3
          have HE2 := Lib.hid e2
          have HE3 := Lib.hid e3
          clear e1 e2 e3 e4
          go_upto_region 6 with fail
          refine wp_region_noPanic ?_
          refine wp_region_last (S := (fun w' => w'.cell? ⟨g, i * 6 + 4, none⟩ = some (.slice (some ⟨b, o, none⟩) x.dl x.dc) ∧ w'.cell? ⟨b, o + k, none⟩ = some (.int .u32 d))) (by kernel_rfl) (by kernel_rfl) (by simp) ⟨c4, hd5⟩ (fun hHeld => ?_)
          simp only [List.pop_toArray, List.dropLast_cons_cons, List.dropLast_singleton]
          refine wpAnyH_take (i := 0) (oi := _) (v := ?v1) rfl (by kernel_rfl) (by kernel_rfl) (by kernel_rfl) (fun _ _ _ h => h) (Or.inl ⟨by rfl, ?hy1⟩) (by assumption) ?rest1
          case hy1 => intro wS hSw; (try dsimp only at hSw); go_simp; (try with_reducible rfl)
          try simp only [Act.put, List.setIfInBounds_toArray, List.set_cons_zero, List.set_cons_succ]
          refine wpAnyH_take (i := 1) (oi := _) (v := ?v2) rfl (by kernel_rfl) (by kernel_rfl) (by kernel_rfl) (fun _ _ _ h => h) (Or.inl ⟨by rfl, ?hy2⟩) (by assumption) ?rest2
          case hy2 => intro wS hSw; (try dsimp only at hSw); go_simp; (try with_reducible rfl)
          try simp only [Act.put, List.setIfInBounds_toArray, List.set_cons_zero, List.set_cons_succ]
          refine wpAnyH_take (i := 2) (oi := _) (v := ?v3) rfl (by kernel_rfl) (by kernel_rfl) (by kernel_rfl) (fun _ _ _ h => h) (Or.inl ⟨by rfl, ?hy3⟩) (by assumption) ?rest3
          case hy3 => intro wS hSw; (try dsimp only at hSw); go_simp; (try with_reducible rfl)
          try simp only [Act.put, List.setIfInBounds_toArray, List.set_cons_zero, List.set_cons_succ]
          refine wpAnyH_take (i := 3) (oi := _) (v := ?v4) rfl (by kernel_rfl) (by kernel_rfl) (by kernel_rfl) (fun _ _ _ h => h) (Or.inl ⟨by rfl, ?hy4⟩) (by assumption) ?rest4
          case hy4 => intro wS hSw; (try dsimp only at hSw); go_simp; (try with_reducible rfl)
          try simp only [Act.put, List.setIfInBounds_toArray, List.set_cons_zero, List.set_cons_succ]
          refine wpAnyH_take (i := 4) (oi := _) (v := ?v5) rfl (by kernel_rfl) (by kernel_rfl) (by kernel_rfl) (fun _ _ _ h => h) (Or.inl ⟨by rfl, ?hy5⟩) (by assumption) ?rest5
          case hy5 => intro wS hSw; (try dsimp only at hSw); go_simp; (try with_reducible rfl)
          try simp only [Act.put, List.setIfInBounds_toArray, List.set_cons_zero, List.set_cons_succ]
          refine wpAnyH_take (i := 5) (oi := _) (v := ?v6) rfl (by kernel_rfl) (by kernel_rfl) (by kernel_rfl) (fun _ _ _ h => h) (Or.inl ⟨by rfl, ?hy6⟩) (by assumption) ?rest6
          case hy6 => intro wS hSw; (try dsimp only at hSw); go_simp; (try with_reducible rfl)
          try simp only [Act.put, List.setIfInBounds_toArray, List.set_cons_zero, List.set_cons_succ]
          refine wpAnyH_take (i := 6) (oi := _) (v := ?v7) rfl (by kernel_rfl) (by kernel_rfl) (by kernel_rfl) (fun _ _ _ h => h) (Or.inl ⟨by rfl, ?hy7⟩) (by assumption) ?rest7
          case hy7 => intro wS hSw; (try dsimp only at hSw); go_simp; (try with_reducible rfl)
          try simp only [Act.put, List.setIfInBounds_toArray, List.set_cons_zero, List.set_cons_succ]
          refine wpAnyH_take (i := 7) (oi := _) (v := ?v8) rfl (by kernel_rfl) (by kernel_rfl) (by kernel_rfl) (fun _ _ _ h => h) (Or.inl ⟨by rfl, ?hy8⟩) (by assumption) ?rest8
          case hy8 => intro wS hSw; (try dsimp only at hSw); go_simp; (try with_reducible rfl)
          try simp only [Act.put, List.setIfInBounds_toArray, List.set_cons_zero, List.set_cons_succ]
          refine wpAnyH_take (i := 8) (oi := _) (v := ?v9) rfl (by kernel_rfl) (by kernel_rfl) (by kernel_rfl) (fun _ _ _ h => h) (Or.inl ⟨by rfl, ?hy9⟩) (by assumption) ?rest9
          case hy9 => intro wS hSw; (try dsimp only at hSw); go_simp; (try with_reducible rfl)
          try simp only [Act.put, List.setIfInBounds_toArray, List.set_cons_zero, List.set_cons_succ]
          refine wpAnyH_take (i := 9) (oi := _) (v := ?v10) rfl (by kernel_rfl) (by kernel_rfl) (by kernel_rfl) (fun _ _ _ h => h) (Or.inl ⟨by rfl, ?hy10⟩) (by assumption) ?rest10
          case hy10 => intro wS hSw; (try dsimp only at hSw); go_simp; (try with_reducible rfl)
          try simp only [Act.put, List.setIfInBounds_toArray, List.set_cons_zero, List.set_cons_succ]
          refine wpAnyH_take (i := 10) (oi := _) (v := ?v11) rfl (by kernel_rfl) (by kernel_rfl) (by kernel_rfl) (fun _ _ _ h => h) (Or.inl ⟨by rfl, ?hy11⟩) (by assumption) ?rest11
          case hy11 => intro wS hSw; (try dsimp only at hSw); go_simp; (try with_reducible rfl)
          try simp only [Act.put, List.setIfInBounds_toArray, List.set_cons_zero, List.set_cons_succ]
          refine wpAnyH_take (i := 11) (oi := _) (v := ?v12) rfl (by kernel_rfl) (by kernel_rfl) (by kernel_rfl) (fun _ _ _ h => h) (Or.inl ⟨by rfl, ?hy12⟩) (by assumption) ?rest12
          case hy12 => intro wS hSw; (try dsimp only at hSw); go_simp; (try with_reducible rfl)
          try simp only [Act.put, List.setIfInBounds_toArray, List.set_cons_zero, List.set_cons_succ]
          refine wpAnyH_take (i := 12) (oi := _) (v := ?v13) rfl (by kernel_rfl) (by kernel_rfl) (by kernel_rfl) (fun _ _ _ h => h) (Or.inl ⟨by rfl, ?hy13⟩) (by assumption) ?rest13
          case hy13 => intro wS hSw; (try dsimp only at hSw); go_simp; (try with_reducible rfl)
          try simp only [Act.put, List.setIfInBounds_toArray, List.set_cons_zero, List.set_cons_succ]
          refine wpAnyH_take (i := 13) (oi := _) (v := ?v14) rfl (by kernel_rfl) (by kernel_rfl) (by kernel_rfl) (fun _ _ _ h => h) (Or.inl ⟨by rfl, ?hy14⟩) (by assumption) ?rest14
          case hy14 => intro wS hSw; (try dsimp only at hSw); go_simp; (try with_reducible rfl)
          try simp only [Act.put, List.setIfInBounds_toArray, List.set_cons_zero, List.set_cons_succ]
          refine wpAnyH_take (i := 14) (oi := _) (v := ?v15) rfl (by kernel_rfl) (by kernel_rfl) (by kernel_rfl) (fun _ _ _ h => h) (Or.inl ⟨by rfl, ?hy15⟩) (by assumption) ?rest15
          case hy15 => intro wS hSw; (try dsimp only at hSw); go_simp; (try with_reducible rfl)
          try simp only [Act.put, List.setIfInBounds_toArray, List.set_cons_zero, List.set_cons_succ]
          refine wpAnyH_take (i := 15) (oi := _) (v := ?v16) rfl (by kernel_rfl) (by kernel_rfl) (by kernel_rfl) (fun _ _ _ h => h) (Or.inl ⟨by rfl, ?hy16⟩) (by assumption) ?rest16
          case hy16 => intro wS hSw; (try dsimp only at hSw); go_simp; (try with_reducible rfl)
          try simp only [Act.put, List.setIfInBounds_toArray, List.set_cons_zero, List.set_cons_succ]
          refine wpAnyH_done (by kernel_rfl) ?_ _
          simp only [lastQ, List.back?_toArray, List.getLast?_cons_cons, List.getLast?_singleton]
          go_simp
          refine NoPanic.normal ?_
          have hS3 := fun q => (hS2.out.setNum (o := o + k) HE3.out q).drew
          have hK3 := fun q => (hK2.out.setCell (p := ⟨b, o + k, none⟩) HE2.out (.int .u32 q)).drew
          have HS3 := Lib.hid hS3
          have HK3 := Lib.hid hK3
          clear hS3 hK3
          go_wp2_with fail
          go_roundw
          case rel => exact ⟨k + 1, by go_num, by omega, HS3.out _, HK3.out _⟩
          case measure => first | (simp [intOf]; done) | (simp [intOf]; omega)
        · obtain rfl : k = x.dl := by omega
          obtain ⟨p, hp5⟩ := hS2.out.pay i hlt
          have f5 : wr.frozen? ⟨g, i * 6 + 5, none⟩ = false := by obtain ⟨cs, hc⟩ := hS2.out.row; exact soft_blk hc
          have hS3 := fun q => hS2.out.setPay i q
          have hK3 := fun q => hK2.out.setCell (p := ⟨g, i * 6 + 5, none⟩) hS2.out.gP (.string q)
          have HS3 := Lib.hid hS3
          have HK3 := Lib.hid hK3
          clear hS3 hK3
          go_wp2_with fail
          go_roundw
          case rel => exact ⟨i + 1, by go_num, by omega, HS3.out _, HK3.out _⟩
          case measure => first | (simp [intOf]; done) | (simp [intOf]; omega)
    · obtain rfl : i = l.length := by omega
      go_wp2
      go_end0
      exact ⟨rfl, hK.out⟩
end Go.Proofs.Ytllmiaonlofeeaa
