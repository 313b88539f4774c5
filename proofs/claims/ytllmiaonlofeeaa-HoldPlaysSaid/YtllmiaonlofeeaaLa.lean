/-
  KeySorts, walked. No conditions beyond what each theorem states.
-/
import Derived.Test.YtllmiaonlofeeaaKr
namespace Go.Proofs.Ytllmiaonlofeeaa
open Go.RowKit Go.Sort

theorem insM_mem {x y : Msg} : ∀ {l : List Msg}, y ∈ insM x l → y = x ∨ y ∈ l
  | [], h => by simp only [insM, List.mem_singleton] at h; exact Or.inl h
  | z :: l, h => by
    unfold insM at h
    split at h
    · rcases List.mem_cons.1 h with h | h
      · exact Or.inl h
      · exact Or.inr h
    · rcases List.mem_cons.1 h with h | h
      · exact Or.inr (h ▸ List.mem_cons_self)
      · rcases insM_mem h with h | h
        · exact Or.inl h
        · exact Or.inr (List.mem_cons_of_mem _ h)
theorem foldM_mem {y : Msg} : ∀ (l s : List Msg), y ∈ l.foldl (fun s x => insM x s) s → y ∈ l ∨ y ∈ s
  | [], _, h => Or.inr h
  | x :: l, s, h => by
    rcases foldM_mem l _ h with h | h
    · exact Or.inl (List.mem_cons_of_mem _ h)
    · rcases insM_mem h with h | h
      · exact Or.inl (h ▸ List.mem_cons_self)
      · exact Or.inr h
theorem ssort_mem {y : Msg} {l : List Msg} (h : y ∈ ssort l) : y ∈ l := by
  rcases foldM_mem l [] h with h | h
  · exact h
  · cases h

theorem DL.each {w : World} {l : List Msg} {L : List DM} (h : DL w l L) {x : Msg} (hx : x ∈ l) : ∃ D, Reads w x D := by
  obtain ⟨i, hi, rfl⟩ := List.mem_iff_getElem.1 hx
  have := h.2 i hi
  rw [getElem!_pos l i hi] at this
  exact ⟨_, this⟩
theorem DL.sub {w : World} {l l' : List Msg} {L : List DM} (h : DL w l L) : (∀ x ∈ l', x ∈ l) → ∃ L', DL w l' L' := by
  intro hs
  induction l' with
  | nil => exact ⟨[], rfl, by simp⟩
  | cons x l' ih =>
    obtain ⟨L', h1, h2⟩ := ih fun y hy => hs y (List.mem_cons_of_mem _ hy)
    obtain ⟨D, hD⟩ := h.each (hs x List.mem_cons_self)
    refine ⟨D :: L', by simp [h1], fun i hi => ?_⟩
    cases i with
    | zero => simpa using hD
    | succ i => simpa using h2 i (by simpa using hi)

set_option maxRecDepth 100000 in
set_option maxHeartbeats 1000000 in
theorem w_KeySorts (v : Value) (l : List Msg) (L : List DM) (w : World) (h : MAt w v l) (hD : DL w l L) (hd : ∀ x ∈ l, x.dl ≤ 9223372036854775807 ∧ x.pay.size ≤ 9223372036854775807) (hn : l.length ≤ 4611686018427387904) :
    Calls Try.prog 3 #[v] w fun e w' => e = .returned (.bool true) ∧ Bw w w' := by
  have HM1 := Lib.hid h
  have HD1 := Lib.hid hD
  have HS := Lib.hid hd
  have HN := Lib.hid hn
  clear h hD hd hn
  go_enter Try.func3, Try.ntmps3
  go_wp2_with fail
  refine (c_awake3 _).mono ?_
  rintro e w1 ⟨rfl, hb1⟩
  have B1 := Lib.hid hb1
  clear hb1
  go_wp2_with fail
  refine (c_Few3 v l w1 (HM1.out.bw B1.out) HN.out HS.out).mono ?_
  rintro e w2 ⟨b, rfl, hf, hb2⟩
  have B2 := Lib.hid (B1.out.trans hb2)
  clear hb2 B1
  cases b with
  | false =>
    go_wp2
    go_ret
    exact ⟨rfl, B2.out⟩
  | true =>
    have hl3 : l.length ≤ 300 := hf rfl
    clear hf
    have HL3 := Lib.hid hl3
    clear hl3
    have H0 := Lib.hid (World.ownsRow_lit (e := 43) (size := 6) w2 #[] 0 (Nat.le_refl _) (by unfold maxLen; omega) rfl)
    have LN : Hid (([] : List Msg).length + l.length ≤ 1000000000) := by have := HL3.out; show _ ≤ _; simp; omega
    have LB : Hid (w2.heap.size ≤ (w2.alloc (.cells #[] 43)).heap.size) := by show _ ≤ _; simp
    have HMA : Hid (MAt (w2.alloc (.cells #[] 43)) v l) := HM1.out.bw (B2.out.trans (Bw.alloc _ _))
    go_wp2_with (at_builtin; refine app6 rfl _ _ rfl w2.heap.size _ v [] l rfl rfl H0.out HMA.out LN.out LB.out ?_; intro v3 w3 ho3 hg3; rw [List.nil_append] at ho3; have HO3 := Lib.hid ho3; have hb3 : Bw w2 w3 := ((Below.refl _ w2).alloc (Nat.le_refl _) _).grown hg3 LB.out (by intro k hk; cases hk; exact Nat.le_refl _); have B3 := Lib.hid (B2.out.trans hb3); clear ho3 hg3 hb3 H0 LN LB HMA B2)
    refine (c_Sort v3 l w3 HO3.out.at (by have := HL3.out; omega)).mono ?_
    rintro e w4 ⟨v4, rfl, ho4, hb4⟩
    have HO4 := Lib.hid ho4
    have B4 := Lib.hid hb4
    clear ho4 hb4
    go_wp2_with fail
    refine (c_rSort v l w4 (HM1.out.bw (B3.out.trans B4.out)) (by have := HL3.out; omega)).mono ?_
    rintro e w5 ⟨v5, rfl, ho5, hb5⟩
    have HO5 := Lib.hid ho5
    have B5 := Lib.hid hb5
    clear ho5 hb5
    obtain ⟨L', hL'⟩ := HD1.out.sub (l' := ssort l) fun x hx => ssort_mem hx
    have HL' := Lib.hid hL'
    clear hL'
    have BW5 := Lib.hid ((B3.out.trans B4.out).trans B5.out)
    go_wp2_with fail
    refine (c_rAll v4 v5 (ssort l) (ssort l) L' L' w5 (HO4.out.at.bw B5.out) (HL'.out.bw BW5.out) HO5.out.at (HL'.out.bw BW5.out) (by rw [ssort_length]; have := HL3.out; omega) (fun x hx => (HS.out x (ssort_mem hx)).1)).mono ?_
    rw [decide_eq_true rfl]
    rintro e w6 ⟨rfl, hb6⟩
    have B6 := Lib.hid hb6
    clear hb6
    go_wp2_with fail
    refine (c_rAll v3 v l l L L w6 (HO3.out.at.bw ((B4.out.trans B5.out).trans B6.out)) (HD1.out.bw (BW5.out.trans B6.out)) (HM1.out.bw (BW5.out.trans B6.out)) (HD1.out.bw (BW5.out.trans B6.out)) (by have := HL3.out; omega) (fun x hx => (HS.out x hx).1)).mono ?_
    rw [decide_eq_true rfl]
    rintro e w7 ⟨rfl, hb7⟩
    have B7 := Lib.hid ((BW5.out.trans B6.out).trans hb7)
    clear hb7
    go_wp2
    go_ret
    exact ⟨rfl, B7.out⟩
end Go.Proofs.Ytllmiaonlofeeaa
