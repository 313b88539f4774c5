/-
  The hold's Drop. No conditions beyond what each theorem states.
-/
import Derived.Test.YtllmiaonlofeeaaHg
namespace Go.Proofs.Ytllmiaonlofeeaa
open Go.RowKit Go.Sort

set_option maxHeartbeats 1000000 in
theorem c_hDrop_out (b : Nat) (p upto : Int) (w : World) (hp : ¬ (0 ≤ p ∧ p < 64)) (hu : 0 ≤ upto) :
    Calls Try.prog 33 #[.pointer (some ⟨b, 0, none⟩), .int .i64 p, .int .u32 upto] w fun e w' => e = .returned (.tuple #[]) ∧ w = w' := by
  have HP := Lib.hid hp
  have hm : min upto 0 = 0 := by omega
  clear hp
  go_enter Try.func33, Try.ntmps33
  go_wp2_with fail
  refine (c_hCount_out b p _ HP.out).mono ?_
  rintro e w' ⟨rfl, rfl⟩
  go_wp2_with fail
  refine (c_hLow_out b p _ HP.out).mono ?_
  rintro e w' ⟨rfl, rfl⟩
  go_wp2
  go_end0
  exact ⟨rfl, rfl⟩
set_option maxHeartbeats 1000000 in
theorem c_hDrop_less (b i : Nat) (p upto : Int) (low : Nat → Int) (v : Nat → Value) (a : Option Addr) (n c : Nat) (w : World) (h : HoldBlk w b low v) (hp : p = i) (hi : i < 64) (hv : v i = .slice a n c) (h0 : 0 ≤ low i) (h1 : low i + n ≤ 1000000)
    (hu : min upto (low i + n) ≤ low i) :
    Calls Try.prog 33 #[.pointer (some ⟨b, 0, none⟩), .int .i64 p, .int .u32 upto] w fun e w' => e = .returned (.tuple #[]) ∧ Gr w w' := by
  have HC := Lib.hid (c_hCount_in b i p low v a n c w h hp hi hv h0 (by omega))
  have HL := Lib.hid (fun (w' : World) (hg : Gr w w') => c_hLow_in b i p low v w' (hg.bw.blk h) hp hi)
  obtain ⟨u, hu2⟩ : ∃ u, min upto (low i + n) = u := ⟨_, rfl⟩
  rw [hu2] at hu
  clear h hv hp
  go_enter Try.func33, Try.ntmps33
  go_wp2_with fail
  refine HC.out.mono ?_
  rintro e w' ⟨rfl, hg⟩
  have HG := Lib.hid hg
  clear hg
  go_wp2_with fail
  refine (HL.out _ HG.out).mono ?_
  rintro e w' ⟨rfl, rfl⟩
  go_wp2
  go_end0
  exact ⟨rfl, HG.out⟩

theorem drop_end {w w2 : World} {b i s c2 : Nat} {u : Int} {a2 : Option Addr} {low : Nat → Int} {v : Nat → Value} {r : List Msg} (hb : b < s) (hs : w.heap.size ≤ s) (h2 : HoldBlk w2 b low v) (hi : i < 64) (ho : Own6 s w2 (.slice a2 r.length c2) r) (hB : Bw w w2) :
    ∃ v', Ending.returned (.tuple #[]) = .returned (.tuple #[]) ∧ HoldBlk ((w2.setCell ⟨b, 64 + i, none⟩ (.slice a2 r.length c2)).setCell ⟨b, i, none⟩ (.int .u32 u)) b (upd low i u) (upd v i v') ∧
      Own6 0 ((w2.setCell ⟨b, 64 + i, none⟩ (.slice a2 r.length c2)).setCell ⟨b, i, none⟩ (.int .u32 u)) v' r ∧ (∀ g, v'.ownBlock = some g → w.heap.size ≤ g) ∧ Keep (fun k => k ≠ b) w ((w2.setCell ⟨b, 64 + i, none⟩ (.slice a2 r.length c2)).setCell ⟨b, i, none⟩ (.int .u32 u)) := by
  have hn : ¬ (fun k => k ≠ b) b := fun e => e rfl
  refine ⟨.slice a2 r.length c2, rfl, HoldBlk.setLow (HoldBlk.setRow h2 hi _) hi u, Own6.keep (ho.mono (Nat.zero_le _)) (((Keep.refl (fun k => k ≠ b) _).setCell hn _).setCell hn _) (fun g hg => ?_), fun g hg => ?_, ((hB.keep _).setCell hn _).setCell hn _⟩
  · have := (World.ownsRow.lt ho g hg).1; show g ≠ b; omega
  · have := (World.ownsRow.lt ho g hg).1; omega

set_option linter.unusedSimpArgs false in
set_option maxRecDepth 100000 in
set_option maxHeartbeats 4000000 in
theorem c_hDrop_ok (b i : Nat) (p upto u : Int) (low : Nat → Int) (v : Nat → Value) (l : List Msg) (w : World) (h : HoldBlk w b low v) (hp : p = i) (hi : i < 64) (hv : Own6 0 w (v i) l) (h0 : 0 ≤ low i) (h1 : low i + l.length ≤ 1000000)
    (hu : min upto (low i + l.length) = u) (hlt : low i < u) :
    Calls Try.prog 33 #[.pointer (some ⟨b, 0, none⟩), .int .i64 p, .int .u32 upto] w fun e w' =>
      ∃ v', e = .returned (.tuple #[]) ∧ HoldBlk w' b (upd low i u) (upd v i v') ∧ Own6 0 w' v' (l.drop (u - low i).toNat) ∧ (∀ g, v'.ownBlock = some g → w.heap.size ≤ g) ∧ Keep (fun k => k ≠ b) w w' := by
  have mixed : Try.prog.follows .mixedOrders = true := by kernel_rfl
  obtain ⟨a, c, hvf⟩ := hv.at.form
  have hne : (0 : Nat) < l.length := by omega
  obtain ⟨g, hga, hcap⟩ : ∃ g, a = some ⟨g, 0, none⟩ ∧ l.length ≤ c := by
    rcases hv.2 with ⟨_, hln⟩ | ⟨g, cap, cur, hvs, _, _, hnc, _⟩
    · omega
    · rw [hvf] at hvs; simp only [Value.slice.injEq] at hvs; exact ⟨g, hvs.1, by omega⟩
  subst hga
  have HC := Lib.hid (c_hCount_in b i p low v _ l.length c w h hp hi hvf h0 (by omega))
  have HL := Lib.hid (fun (w' : World) (hg : Gr w w') => c_hLow_in b i p low v w' (hg.bw.blk h) hp hi)
  have HH := Lib.hid h
  have HV := Lib.hid hv
  have HVF := Lib.hid hvf
  obtain ⟨lo, hlo⟩ : ∃ lo, lo = low i := ⟨_, rfl⟩
  have HLO := Lib.hid hlo
  rw [← hlo] at h0 h1 hu hlt HC HL
  obtain ⟨j, hj⟩ : ∃ j : Nat, (j : Int) = u - lo := ⟨(u - lo).toNat, by omega⟩
  have j1 : (j : Int) ≤ (l.length : Int) := by omega
  have j2 : j ≤ l.length := by omega
  have j0 : (0 : Int) ≤ (j : Int) := by omega
  have e2 : IntKind.u32.wrap (u - lo) = (j : Int) := by rw [IntKind.wrap_u32]; omega
  have hiz : (i : Int) < 64 := by omega
  have hiz0 : (0 : Int) ≤ (i : Int) := by omega
  have HJ := Lib.hid hj
  have HP := Lib.hid hp
  rw [← hlo]
  subst hp
  clear h hv hvf hlo hj
  go_enter Try.func33, Try.ntmps33
  go_wp2_with fail
  refine HC.out.mono ?_
  rintro e w1 ⟨rfl, hg⟩
  have HG := Lib.hid hg
  clear hg
  go_wp2_with fail
  refine (HL.out _ HG.out).mono ?_
  rintro e w' ⟨rfl, rfl⟩
  have HB1 := Lib.hid (HG.out.bw.blk HH.out)
  have c0 : w1.cell? ⟨b, i, none⟩ = some (.int .u32 lo) := by rw [HLO.out]; exact HoldBlk.lowCell HB1.out hi
  have r0 : w1.cell? ⟨b, 64 + i, none⟩ = some (.slice (some ⟨g, 0, none⟩) l.length c) := by rw [← HVF.out]; exact HoldBlk.rowCell HB1.out hi
  have r0d : w1.drew.cell? ⟨b, 64 + i, none⟩ = some (.slice (some ⟨g, 0, none⟩) l.length c) := r0
  have hb1 : b < w1.heap.size := lt_blk HB1.out
  go_upto_region 2 with fail
  by_cases hcj : c = j
  · have hnj : l.length = j := by have := (hcap : l.length ≤ c); omega
    have hMA : MAt w1.drew (.slice (some ⟨g, 0, none⟩) 0 0) (l.drop j) := Or.inr (Or.inl ⟨_, _, rfl, List.drop_eq_nil_of_le (by omega)⟩)
    have hrl : (l.drop j).length ≤ 1000000 := by simp only [List.length_drop]; omega
    obtain ⟨rr, hrr⟩ : ∃ rr, rr = l.drop j := ⟨_, rfl⟩
    rw [← hrr] at hMA hrl
    have HCP := Lib.hid (c_CloneM _ _ _ hMA (by omega))
    have HRR := Lib.hid hrr
    clear hMA hrr hrl
    --GEN0
    refine wp_region_noPanic ?_
    refine wp_region_held_drew (S := (fun w' => w'.cell? ⟨b, i, none⟩ = some (.int .u32 lo))) (by kernel_rfl) (c0) (fun hHeld => ?_)
    refine wpAnyH_take (i := 0) (oi := _) (v := ?v1) rfl (by kernel_rfl) (by kernel_rfl) (by kernel_rfl) (fun _ _ _ h => h) (Or.inl ⟨by rfl, ?hy1⟩) (by assumption) ?rest1
    case hy1 => intro wS hSw; (try dsimp only at hSw); go_simp; (try with_reducible rfl)
    try simp only [Act.put, List.setIfInBounds_toArray, List.set_cons_zero, List.set_cons_succ]
    refine wpAnyH_take (i := 1) (oi := _) (v := ?v2) rfl (by kernel_rfl) (by kernel_rfl) (by kernel_rfl) (fun _ _ _ h => h) (Or.inl ⟨by rfl, ?hy2⟩) (by assumption) ?rest2
    case hy2 => intro wS hSw; (try dsimp only at hSw); go_simp; (try with_reducible rfl)
    try simp only [Act.put, List.setIfInBounds_toArray, List.set_cons_zero, List.set_cons_succ]
    refine wpAnyH_take (i := 2) (oi := _) (v := ?v3) rfl (by kernel_rfl) (by kernel_rfl) (by kernel_rfl) (fun _ _ _ h => h) (Or.inl ⟨by rfl, ?hy3⟩) (by assumption) ?rest3
    case hy3 => intro wS hSw; (try dsimp only at hSw); go_simp; (try with_reducible rfl)
    try simp only [Act.put, List.setIfInBounds_toArray, List.set_cons_zero, List.set_cons_succ]
    refine wpAnyH_take (i := 3) (oi := _) (v := ?v4) rfl (by kernel_rfl) (by kernel_rfl) (by kernel_rfl) (fun _ _ _ h => h) (Or.inl ⟨by rfl, ?hy4⟩) (by assumption) ?rest4
    case hy4 => intro wS hSw; (try dsimp only at hSw); go_simp; (try with_reducible rfl)
    try simp only [Act.put, List.setIfInBounds_toArray, List.set_cons_zero, List.set_cons_succ]
    refine wpAnyH_take (i := 4) (oi := _) (v := ?v5) rfl (by kernel_rfl) (by kernel_rfl) (by kernel_rfl) (fun _ _ _ h => h) (Or.inl ⟨by rfl, ?hy5⟩) (by assumption) ?rest5
    case hy5 => intro wS hSw; (try dsimp only at hSw); go_simp; (try with_reducible rfl)
    try simp only [Act.put, List.setIfInBounds_toArray, List.set_cons_zero, List.set_cons_succ]
    refine wpAnyH_take (i := 5) (oi := _) (v := ?v6) rfl (by kernel_rfl) (by kernel_rfl) (by kernel_rfl) (fun _ _ _ h => h) (Or.inl ⟨by rfl, ?hy6⟩) (by assumption) ?rest6
    case hy6 => intro wS hSw; (try dsimp only at hSw); go_simp; (try with_reducible rfl)
    try simp only [Act.put, List.setIfInBounds_toArray, List.set_cons_zero, List.set_cons_succ]
    refine wpAnyH_take (i := 6) (oi := _) (v := ?v7) rfl (by kernel_rfl) (by kernel_rfl) (by kernel_rfl) (fun _ _ _ h => h) (Or.inl ⟨by rfl, ?hy7⟩) (by assumption) ?rest7
    case hy7 => intro wS hSw; (try dsimp only at hSw); go_simp; (try with_reducible rfl)
    try simp only [Act.put, List.setIfInBounds_toArray, List.set_cons_zero, List.set_cons_succ]
    refine wpAnyH_take (i := 8) (oi := _) (v := ?v8) rfl (by kernel_rfl) (by kernel_rfl) (by kernel_rfl) (fun _ _ _ h => h) (Or.inl ⟨by rfl, ?hy8⟩) (by assumption) ?rest8
    case hy8 => intro wS hSw; (try dsimp only at hSw); go_simp; (try with_reducible rfl)
    try simp only [Act.put, List.setIfInBounds_toArray, List.set_cons_zero, List.set_cons_succ]
    refine wpAnyH_take (i := 9) (oi := _) (v := ?v9) rfl (by kernel_rfl) (by kernel_rfl) (by kernel_rfl) (fun _ _ _ h => h) (Or.inl ⟨by rfl, ?hy9⟩) (by assumption) ?rest9
    case hy9 => intro wS hSw; (try dsimp only at hSw); go_simp; (try with_reducible rfl)
    try simp only [Act.put, List.setIfInBounds_toArray, List.set_cons_zero, List.set_cons_succ]
    refine wpAnyH_take (i := 10) (oi := _) (v := ?v10) rfl (by kernel_rfl) (by kernel_rfl) (by kernel_rfl) (fun _ _ _ h => h) (Or.inl ⟨by rfl, ?hy10⟩) (by assumption) ?rest10
    case hy10 => intro wS hSw; (try dsimp only at hSw); go_simp; (try with_reducible rfl)
    try simp only [Act.put, List.setIfInBounds_toArray, List.set_cons_zero, List.set_cons_succ]
    refine wpAnyH_take (i := 11) (oi := _) (v := ?v11) rfl (by kernel_rfl) (by kernel_rfl) (by kernel_rfl) (fun _ _ _ h => h) (Or.inl ⟨by rfl, ?hy11⟩) (by assumption) ?rest11
    case hy11 => intro wS hSw; (try dsimp only at hSw); go_simp; (try with_reducible rfl)
    try simp only [Act.put, List.setIfInBounds_toArray, List.set_cons_zero, List.set_cons_succ]
    refine wpAnyH_take (i := 12) (oi := _) (v := ?v12) rfl (by kernel_rfl) (by kernel_rfl) (by kernel_rfl) (fun _ _ _ h => h) (Or.inl ⟨by rfl, ?hy12⟩) (by assumption) ?rest12
    case hy12 => intro wS hSw; (try dsimp only at hSw); go_simp; (try with_reducible rfl)
    try simp only [Act.put, List.setIfInBounds_toArray, List.set_cons_zero, List.set_cons_succ]
    refine wpAnyH_take (i := 13) (oi := _) (v := ?v13) rfl (by kernel_rfl) (by kernel_rfl) (by kernel_rfl) (fun _ _ _ h => h) (Or.inl ⟨by rfl, ?hy13⟩) (by assumption) ?rest13
    case hy13 => intro wS hSw; (try dsimp only at hSw); go_simp; (try with_reducible rfl)
    try simp only [Act.put, List.setIfInBounds_toArray, List.set_cons_zero, List.set_cons_succ]
    refine wpAnyH_take (i := 14) (oi := _) (v := ?v14) rfl (by kernel_rfl) (by kernel_rfl) (by kernel_rfl) (fun _ _ _ h => h) (Or.inl ⟨by rfl, ?hy14⟩) (by assumption) ?rest14
    case hy14 => intro wS hSw; (try dsimp only at hSw); go_simp; (try with_reducible rfl)
    try simp only [Act.put, List.setIfInBounds_toArray, List.set_cons_zero, List.set_cons_succ]
    refine wpAnyH_take (i := 15) (oi := _) (v := ?v15) rfl (by kernel_rfl) (by kernel_rfl) (by kernel_rfl) (fun _ _ _ h => h) (Or.inl ⟨by rfl, ?hy15⟩) (by assumption) ?rest15
    case hy15 => intro wS hSw; (try dsimp only at hSw); go_simp; (try with_reducible rfl)
    try simp only [Act.put, List.setIfInBounds_toArray, List.set_cons_zero, List.set_cons_succ]
    refine wpAnyH_take (i := 18) (oi := _) (v := ?v16) rfl (by kernel_rfl) (by kernel_rfl) (by kernel_rfl) (fun _ _ _ h => h) (Or.inl ⟨by rfl, ?hy16⟩) (by assumption) ?rest16
    case hy16 => intro wS hSw; (try dsimp only at hSw); go_simp; (try with_reducible rfl)
    try simp only [Act.put, List.setIfInBounds_toArray, List.set_cons_zero, List.set_cons_succ]
    refine wpAnyH_take (i := 19) (oi := _) (v := ?v17) rfl (by kernel_rfl) (by kernel_rfl) (by kernel_rfl) (fun _ _ _ h => h) (Or.inl ⟨by rfl, ?hy17⟩) (by assumption) ?rest17
    case hy17 => intro wS hSw; (try dsimp only at hSw); go_simp; (try with_reducible rfl)
    try simp only [Act.put, List.setIfInBounds_toArray, List.set_cons_zero, List.set_cons_succ]
    refine wpAnyH_ready (rs := [7]) (by kernel_rfl) (by simp) ?_
    refine AllReadyH.cons (o := _) rfl (fun K hK => ?_) ?_
    · go_simp
      refine hK.out _ _ (c0) (fun hHeld2 => ?_)
      clear hK K hHeld
      have hHeld := hHeld2
      clear hHeld2
      try simp only [Act.put, List.setIfInBounds_toArray, List.set_cons_zero, List.set_cons_succ]
      refine wpAnyH_take (i := 16) (oi := _) (v := ?v18) rfl (by kernel_rfl) (by kernel_rfl) (by kernel_rfl) (fun _ _ _ h => h) (Or.inl ⟨by rfl, ?hy18⟩) (by assumption) ?rest18
      case hy18 => intro wS hSw; (try dsimp only at hSw); go_simp; (try with_reducible rfl)
      try simp only [Act.put, List.setIfInBounds_toArray, List.set_cons_zero, List.set_cons_succ]
      refine wpAnyH_ready (rs := [17]) (by kernel_rfl) (by simp) ?_
      refine AllReadyH.cons (o := _) rfl (fun K hK => ?_) ?_
      · go_simp
        (go_at_call 52; refine HCP.out.mono ?_; rintro e w2 ⟨v2, rfl, ho2, hb2⟩; obtain ⟨a2, c2, rfl⟩ := ho2.at.form; have H2 := Lib.hid (hb2.blk ((Bw.drew _).blk HB1.out)); have HO2 := Lib.hid ho2; have HB2 := Lib.hid hb2; have r2 : w2.cell? ⟨b, 64 + i, none⟩ = some (.slice (some ⟨g, 0, none⟩) l.length c) := (by rw [← HVF.out]; exact HoldBlk.rowCell H2.out hi); have f2 : w2.frozen? ⟨b, 64 + i, none⟩ = false := soft_blk H2.out; have f2l : w2.frozen? ⟨b, i, none⟩ = false := soft_blk H2.out; have hb2z : b < w2.heap.size := lt_blk H2.out; clear ho2 hb2; dsimp only)
        refine hK.out _ _ (by rw [HLO.out]; exact HoldBlk.lowCell H2.out hi) (fun hHeld2 => ?_)
        clear hK K hHeld
        have hHeld := hHeld2
        clear hHeld2
        try simp only [Act.put, List.setIfInBounds_toArray, List.set_cons_zero, List.set_cons_succ]
        refine wpAnyH_take (i := 20) (oi := _) (v := ?v19) rfl (by kernel_rfl) (by kernel_rfl) (by kernel_rfl) (fun _ _ _ h => h) (Or.inl ⟨by rfl, ?hy19⟩) (by assumption) ?rest19
        case hy19 => intro wS hSw; (try dsimp only at hSw); go_simp; (try with_reducible rfl)
        try simp only [Act.put, List.setIfInBounds_toArray, List.set_cons_zero, List.set_cons_succ]
        refine wpAnyH_ready (rs := [21]) (by kernel_rfl) (by simp) ?_
        refine AllReadyH.cons (o := _) rfl (fun K hK => ?_) ?_
        · go_simp
          refine hK.out _ _ (by rw [HLO.out]; exact HoldBlk.lowCell (HoldBlk.setRow H2.out hi _) hi) (fun hHeld2 => ?_)
          clear hK K hHeld
          have hHeld := hHeld2
          clear hHeld2
          try simp only [Act.put, List.setIfInBounds_toArray, List.set_cons_zero, List.set_cons_succ]
          refine wpAnyH_done (by kernel_rfl) ?_ _
          refine NoPanic.normal ?_
          clear hHeld
          obtain ⟨w3, hw3⟩ : ∃ w3, w3 = w2.setCell ⟨b, 64 + i, none⟩ (.slice a2 rr.length c2) := ⟨_, rfl⟩
          have H3 := Lib.hid (HoldBlk.setRow H2.out hi (.slice a2 rr.length c2))
          rw [← hw3] at H3 ⊢
          have c3 : w3.cell? ⟨b, i, none⟩ = some (.int .u32 lo) := by rw [HLO.out]; exact HoldBlk.lowCell H3.out hi
          have f3 : w3.frozen? ⟨b, i, none⟩ = false := soft_blk H3.out
          have HW3 := Lib.hid hw3
          clear hw3 r2 f2 f2l c0 r0 r0d e2 hcap
          have HU := Lib.hid hu
          clear hu
          go_wp2_with fail
          go_end0
          rw [show u - lo = (j : Int) from HJ.out.symm, Int.toNat_natCast, ← HRR.out, HW3.out]
          exact drop_end (s := w1.drew.heap.size) hb1 HG.out.bw.size H2.out hi HO2.out ((HG.out.bw.trans (Bw.drew _)).trans HB2.out)
        exact AllReadyH.nil
      exact AllReadyH.nil
    exact AllReadyH.nil
    --NEG0
  · have hMA : MAt w1.drew (.slice (some ⟨g, j * 6, none⟩) (l.length - j) (c - j)) (l.drop j) := by have h1 := (HV.out.at.bw HG.out.bw).bw (Bw.drew _); rw [HVF.out] at h1; have h2 := h1.drop (k := j) j2 (c - j); rwa [Nat.zero_add] at h2
    have hrl : (l.drop j).length ≤ 1000000 := by simp only [List.length_drop]; omega
    obtain ⟨rr, hrr⟩ : ∃ rr, rr = l.drop j := ⟨_, rfl⟩
    rw [← hrr] at hMA hrl
    have HCP := Lib.hid (c_CloneM _ _ _ hMA (by omega))
    have HRR := Lib.hid hrr
    clear hMA hrr hrl
    --GEN1
    refine wp_region_noPanic ?_
    refine wp_region_held_drew (S := (fun w' => w'.cell? ⟨b, i, none⟩ = some (.int .u32 lo))) (by kernel_rfl) (c0) (fun hHeld => ?_)
    refine wpAnyH_take (i := 0) (oi := _) (v := ?v101) rfl (by kernel_rfl) (by kernel_rfl) (by kernel_rfl) (fun _ _ _ h => h) (Or.inl ⟨by rfl, ?hy101⟩) (by assumption) ?rest101
    case hy101 => intro wS hSw; (try dsimp only at hSw); go_simp; (try with_reducible rfl)
    try simp only [Act.put, List.setIfInBounds_toArray, List.set_cons_zero, List.set_cons_succ]
    refine wpAnyH_take (i := 1) (oi := _) (v := ?v102) rfl (by kernel_rfl) (by kernel_rfl) (by kernel_rfl) (fun _ _ _ h => h) (Or.inl ⟨by rfl, ?hy102⟩) (by assumption) ?rest102
    case hy102 => intro wS hSw; (try dsimp only at hSw); go_simp; (try with_reducible rfl)
    try simp only [Act.put, List.setIfInBounds_toArray, List.set_cons_zero, List.set_cons_succ]
    refine wpAnyH_take (i := 2) (oi := _) (v := ?v103) rfl (by kernel_rfl) (by kernel_rfl) (by kernel_rfl) (fun _ _ _ h => h) (Or.inl ⟨by rfl, ?hy103⟩) (by assumption) ?rest103
    case hy103 => intro wS hSw; (try dsimp only at hSw); go_simp; (try with_reducible rfl)
    try simp only [Act.put, List.setIfInBounds_toArray, List.set_cons_zero, List.set_cons_succ]
    refine wpAnyH_take (i := 3) (oi := _) (v := ?v104) rfl (by kernel_rfl) (by kernel_rfl) (by kernel_rfl) (fun _ _ _ h => h) (Or.inl ⟨by rfl, ?hy104⟩) (by assumption) ?rest104
    case hy104 => intro wS hSw; (try dsimp only at hSw); go_simp; (try with_reducible rfl)
    try simp only [Act.put, List.setIfInBounds_toArray, List.set_cons_zero, List.set_cons_succ]
    refine wpAnyH_take (i := 4) (oi := _) (v := ?v105) rfl (by kernel_rfl) (by kernel_rfl) (by kernel_rfl) (fun _ _ _ h => h) (Or.inl ⟨by rfl, ?hy105⟩) (by assumption) ?rest105
    case hy105 => intro wS hSw; (try dsimp only at hSw); go_simp; (try with_reducible rfl)
    try simp only [Act.put, List.setIfInBounds_toArray, List.set_cons_zero, List.set_cons_succ]
    refine wpAnyH_take (i := 5) (oi := _) (v := ?v106) rfl (by kernel_rfl) (by kernel_rfl) (by kernel_rfl) (fun _ _ _ h => h) (Or.inl ⟨by rfl, ?hy106⟩) (by assumption) ?rest106
    case hy106 => intro wS hSw; (try dsimp only at hSw); go_simp; (try with_reducible rfl)
    try simp only [Act.put, List.setIfInBounds_toArray, List.set_cons_zero, List.set_cons_succ]
    refine wpAnyH_take (i := 6) (oi := _) (v := ?v107) rfl (by kernel_rfl) (by kernel_rfl) (by kernel_rfl) (fun _ _ _ h => h) (Or.inl ⟨by rfl, ?hy107⟩) (by assumption) ?rest107
    case hy107 => intro wS hSw; (try dsimp only at hSw); go_simp; (try with_reducible rfl)
    try simp only [Act.put, List.setIfInBounds_toArray, List.set_cons_zero, List.set_cons_succ]
    refine wpAnyH_take (i := 8) (oi := _) (v := ?v108) rfl (by kernel_rfl) (by kernel_rfl) (by kernel_rfl) (fun _ _ _ h => h) (Or.inl ⟨by rfl, ?hy108⟩) (by assumption) ?rest108
    case hy108 => intro wS hSw; (try dsimp only at hSw); go_simp; (try with_reducible rfl)
    try simp only [Act.put, List.setIfInBounds_toArray, List.set_cons_zero, List.set_cons_succ]
    refine wpAnyH_take (i := 9) (oi := _) (v := ?v109) rfl (by kernel_rfl) (by kernel_rfl) (by kernel_rfl) (fun _ _ _ h => h) (Or.inl ⟨by rfl, ?hy109⟩) (by assumption) ?rest109
    case hy109 => intro wS hSw; (try dsimp only at hSw); go_simp; (try with_reducible rfl)
    try simp only [Act.put, List.setIfInBounds_toArray, List.set_cons_zero, List.set_cons_succ]
    refine wpAnyH_take (i := 10) (oi := _) (v := ?v110) rfl (by kernel_rfl) (by kernel_rfl) (by kernel_rfl) (fun _ _ _ h => h) (Or.inl ⟨by rfl, ?hy110⟩) (by assumption) ?rest110
    case hy110 => intro wS hSw; (try dsimp only at hSw); go_simp; (try with_reducible rfl)
    try simp only [Act.put, List.setIfInBounds_toArray, List.set_cons_zero, List.set_cons_succ]
    refine wpAnyH_take (i := 11) (oi := _) (v := ?v111) rfl (by kernel_rfl) (by kernel_rfl) (by kernel_rfl) (fun _ _ _ h => h) (Or.inl ⟨by rfl, ?hy111⟩) (by assumption) ?rest111
    case hy111 => intro wS hSw; (try dsimp only at hSw); go_simp; (try with_reducible rfl)
    try simp only [Act.put, List.setIfInBounds_toArray, List.set_cons_zero, List.set_cons_succ]
    refine wpAnyH_take (i := 12) (oi := _) (v := ?v112) rfl (by kernel_rfl) (by kernel_rfl) (by kernel_rfl) (fun _ _ _ h => h) (Or.inl ⟨by rfl, ?hy112⟩) (by assumption) ?rest112
    case hy112 => intro wS hSw; (try dsimp only at hSw); go_simp; (try with_reducible rfl)
    try simp only [Act.put, List.setIfInBounds_toArray, List.set_cons_zero, List.set_cons_succ]
    refine wpAnyH_take (i := 13) (oi := _) (v := ?v113) rfl (by kernel_rfl) (by kernel_rfl) (by kernel_rfl) (fun _ _ _ h => h) (Or.inl ⟨by rfl, ?hy113⟩) (by assumption) ?rest113
    case hy113 => intro wS hSw; (try dsimp only at hSw); go_simp; (try with_reducible rfl)
    try simp only [Act.put, List.setIfInBounds_toArray, List.set_cons_zero, List.set_cons_succ]
    refine wpAnyH_take (i := 14) (oi := _) (v := ?v114) rfl (by kernel_rfl) (by kernel_rfl) (by kernel_rfl) (fun _ _ _ h => h) (Or.inl ⟨by rfl, ?hy114⟩) (by assumption) ?rest114
    case hy114 => intro wS hSw; (try dsimp only at hSw); go_simp; (try with_reducible rfl)
    try simp only [Act.put, List.setIfInBounds_toArray, List.set_cons_zero, List.set_cons_succ]
    refine wpAnyH_take (i := 15) (oi := _) (v := ?v115) rfl (by kernel_rfl) (by kernel_rfl) (by kernel_rfl) (fun _ _ _ h => h) (Or.inl ⟨by rfl, ?hy115⟩) (by assumption) ?rest115
    case hy115 => intro wS hSw; (try dsimp only at hSw); go_simp; (try with_reducible rfl)
    try simp only [Act.put, List.setIfInBounds_toArray, List.set_cons_zero, List.set_cons_succ]
    refine wpAnyH_take (i := 18) (oi := _) (v := ?v116) rfl (by kernel_rfl) (by kernel_rfl) (by kernel_rfl) (fun _ _ _ h => h) (Or.inl ⟨by rfl, ?hy116⟩) (by assumption) ?rest116
    case hy116 => intro wS hSw; (try dsimp only at hSw); go_simp; (try with_reducible rfl)
    try simp only [Act.put, List.setIfInBounds_toArray, List.set_cons_zero, List.set_cons_succ]
    refine wpAnyH_take (i := 19) (oi := _) (v := ?v117) rfl (by kernel_rfl) (by kernel_rfl) (by kernel_rfl) (fun _ _ _ h => h) (Or.inl ⟨by rfl, ?hy117⟩) (by assumption) ?rest117
    case hy117 => intro wS hSw; (try dsimp only at hSw); go_simp; (try with_reducible rfl)
    try simp only [Act.put, List.setIfInBounds_toArray, List.set_cons_zero, List.set_cons_succ]
    refine wpAnyH_ready (rs := [7]) (by kernel_rfl) (by simp) ?_
    refine AllReadyH.cons (o := _) rfl (fun K hK => ?_) ?_
    · go_simp
      refine hK.out _ _ (c0) (fun hHeld2 => ?_)
      clear hK K hHeld
      have hHeld := hHeld2
      clear hHeld2
      try simp only [Act.put, List.setIfInBounds_toArray, List.set_cons_zero, List.set_cons_succ]
      refine wpAnyH_take (i := 16) (oi := _) (v := ?v118) rfl (by kernel_rfl) (by kernel_rfl) (by kernel_rfl) (fun _ _ _ h => h) (Or.inl ⟨by rfl, ?hy118⟩) (by assumption) ?rest118
      case hy118 => intro wS hSw; (try dsimp only at hSw); go_simp; (try with_reducible rfl)
      try simp only [Act.put, List.setIfInBounds_toArray, List.set_cons_zero, List.set_cons_succ]
      refine wpAnyH_ready (rs := [17]) (by kernel_rfl) (by simp) ?_
      refine AllReadyH.cons (o := _) rfl (fun K hK => ?_) ?_
      · go_simp
        (go_at_call 52; refine HCP.out.mono ?_; rintro e w2 ⟨v2, rfl, ho2, hb2⟩; obtain ⟨a2, c2, rfl⟩ := ho2.at.form; have H2 := Lib.hid (hb2.blk ((Bw.drew _).blk HB1.out)); have HO2 := Lib.hid ho2; have HB2 := Lib.hid hb2; have r2 : w2.cell? ⟨b, 64 + i, none⟩ = some (.slice (some ⟨g, 0, none⟩) l.length c) := (by rw [← HVF.out]; exact HoldBlk.rowCell H2.out hi); have f2 : w2.frozen? ⟨b, 64 + i, none⟩ = false := soft_blk H2.out; have f2l : w2.frozen? ⟨b, i, none⟩ = false := soft_blk H2.out; have hb2z : b < w2.heap.size := lt_blk H2.out; clear ho2 hb2; dsimp only)
        refine hK.out _ _ (by rw [HLO.out]; exact HoldBlk.lowCell H2.out hi) (fun hHeld2 => ?_)
        clear hK K hHeld
        have hHeld := hHeld2
        clear hHeld2
        try simp only [Act.put, List.setIfInBounds_toArray, List.set_cons_zero, List.set_cons_succ]
        refine wpAnyH_take (i := 20) (oi := _) (v := ?v119) rfl (by kernel_rfl) (by kernel_rfl) (by kernel_rfl) (fun _ _ _ h => h) (Or.inl ⟨by rfl, ?hy119⟩) (by assumption) ?rest119
        case hy119 => intro wS hSw; (try dsimp only at hSw); go_simp; (try with_reducible rfl)
        try simp only [Act.put, List.setIfInBounds_toArray, List.set_cons_zero, List.set_cons_succ]
        refine wpAnyH_ready (rs := [21]) (by kernel_rfl) (by simp) ?_
        refine AllReadyH.cons (o := _) rfl (fun K hK => ?_) ?_
        · go_simp
          refine hK.out _ _ (by rw [HLO.out]; exact HoldBlk.lowCell (HoldBlk.setRow H2.out hi _) hi) (fun hHeld2 => ?_)
          clear hK K hHeld
          have hHeld := hHeld2
          clear hHeld2
          try simp only [Act.put, List.setIfInBounds_toArray, List.set_cons_zero, List.set_cons_succ]
          refine wpAnyH_done (by kernel_rfl) ?_ _
          refine NoPanic.normal ?_
          clear hHeld
          obtain ⟨w3, hw3⟩ : ∃ w3, w3 = w2.setCell ⟨b, 64 + i, none⟩ (.slice a2 rr.length c2) := ⟨_, rfl⟩
          have H3 := Lib.hid (HoldBlk.setRow H2.out hi (.slice a2 rr.length c2))
          rw [← hw3] at H3 ⊢
          have c3 : w3.cell? ⟨b, i, none⟩ = some (.int .u32 lo) := by rw [HLO.out]; exact HoldBlk.lowCell H3.out hi
          have f3 : w3.frozen? ⟨b, i, none⟩ = false := soft_blk H3.out
          have HW3 := Lib.hid hw3
          clear hw3 r2 f2 f2l c0 r0 r0d e2 hcap
          have HU := Lib.hid hu
          clear hu
          go_wp2_with fail
          go_end0
          rw [show u - lo = (j : Int) from HJ.out.symm, Int.toNat_natCast, ← HRR.out, HW3.out]
          exact drop_end (s := w1.drew.heap.size) hb1 HG.out.bw.size H2.out hi HO2.out ((HG.out.bw.trans (Bw.drew _)).trans HB2.out)
        exact AllReadyH.nil
      exact AllReadyH.nil
    exact AllReadyH.nil
    --NEG1
end Go.Proofs.Ytllmiaonlofeeaa
