/-
  A region that draws its order and whose last operation waits for all others: that one may be parted off. No conditions beyond what each theorem states.
-/
import Derived.Deep.RegionHeld
import Derived.Deep.RegionHeld3
import Derived.KernelRfl
namespace Go.Proofs.Ytllmiaonlofeeaa

/-- No guards; each waits for earlier ones alone; the last one waits for all. -/
def lastB (ops : Array Oper) : Bool :=
  ops.all (fun o => o.guard.isNone) && (List.range ops.size).all (fun i => (ops[i]?.map fun o => o.after.all fun e => decide (e.on < i)).getD false) &&
  (List.range ops.pop.size).all (fun i => (ops.back?.map fun o => o.after.any fun e => decide (e.on = i) && Region.binds .any e).getD false)
/-- Behind the others comes the last one. -/
def lastQ (P : Program) (ops : Array Oper) (Q : Exit → Act → World → Prop) : Exit → Act → World → Prop
  | .normal, a, w => match ops.back? with
    | some o => o.wp P a w (Q .normal) Q
    | none => False
  | e, a, w => Q e a w
section
variable {P : Program} {Q : Exit → Act → World → Prop}
theorem lastQ_letsOut {ops : Array Oper} (h : LetsOut (lastQ P ops Q)) : LetsOut Q := h
theorem upon_last {ops : Array Oper} {o : Oper} {a : Act} {K K' : Act → World → Prop} {r : Result Next} (hK : ∀ a w, K a w → K' a w) (h : o.upon P a K (lastQ P ops Q) r) : o.upon P a K' Q r := by
  cases r with
  | ok n w' =>
    cases n <;> simp only [Oper.upon] at h ⊢ <;>
      first
        | exact hK _ _ h
        | exact Calls.mono h (fun e w'' he => by cases e <;> first | exact hK _ _ he | exact he)
        | exact Rows.mono h (fun _ _ he => hK _ _ he)
  | halt x w' => cases x <;> simp only [Oper.upon] at h ⊢ <;> exact h
theorem wanted_open {o : Oper} (h : o.guard = none) (y : Nat → Option Bool) : Region.wanted o y = true := by unfold Region.wanted; rw [h]

theorem wpAny_last {md : Region.Mode} {ops : Array Oper} {oL : Oper} {n : Nat} (hsz : ops.size = n + 1) (hL : ops[n]? = some oL) (hback : ops.back? = some oL) (hg : ∀ (i : Nat) (o : Oper), ops[i]? = some o → o.guard = none)
    (hdown : ∀ (i : Nat) (o : Oper), ops[i]? = some o → ∀ e ∈ o.after, e.on < i) (hall : ∀ i, i < n → ∃ e ∈ oL.after, Region.binds md e = true ∧ e.on = i) :
    ∀ (fuel : Nat) (listed listed' : Array Bool) (a : Act) (w : World), listed.size = n + 1 → listed'.size = n → listed.getD n true = false → (∀ i, i < n → listed.getD i true = listed'.getD i true) →
      wpAny P md ops.pop (lastQ P ops Q) fuel listed' a w → wpAny P md ops Q (fuel + 1) listed a w := by
  have hpop : ∀ i, i < n → ops.pop[i]? = ops[i]? := fun i hi => by rw [Array.getElem?_pop, if_pos (by omega)]
  have hpop' : ∀ i, n ≤ i → ops.pop[i]? = none := fun i hi => Array.getElem?_eq_none (by simp; omega)
  have gd : ∀ (l : Array Bool) (i : Nat), i < l.size → l.getD i true = l.getD i false := fun l i hi => by simp [Array.getElem?_eq_getElem hi]
  -- what comes up beside the last is the same on both sides
  have same : ∀ (listed listed' : Array Bool), listed.size = n + 1 → listed'.size = n → (∀ i, i < n → listed.getD i true = listed'.getD i true) → ∀ i, i < n → (i ∈ Region.ready md ops listed ↔ i ∈ Region.ready md ops.pop listed') := by
    intro listed listed' s1 s2 he i hi
    rw [mem_ready, mem_ready, hpop i hi, he i hi]
    constructor
    · rintro ⟨h0, o, ho, h⟩
      refine ⟨h0, o, ho, fun e hx hb => ?_⟩
      have hlt := hdown i o ho e hx
      rw [← gd listed' e.on (by omega), ← he e.on (by omega), gd listed e.on (by omega)]
      exact h e hx hb
    · rintro ⟨h0, o, ho, h⟩
      refine ⟨h0, o, ho, fun e hx hb => ?_⟩
      have hlt := hdown i o ho e hx
      rw [← gd listed e.on (by omega), he e.on (by omega), gd listed' e.on (by omega)]
      exact h e hx hb
  -- if nothing comes up beside the last, all others have come up
  have full : ∀ (listed' : Array Bool), listed'.size = n → Region.ready md ops.pop listed' = [] → ∀ i, i < n → listed'.getD i true = true := by
    intro listed' s2 hr i
    induction i using Nat.strongRecOn with
    | _ i ih =>
      intro hi
      cases hx : listed'.getD i true with
      | true => rfl
      | false =>
        exfalso
        have hlt : i < ops.size := by omega
        have : i ∈ Region.ready md ops.pop listed' := by
          rw [mem_ready, hpop i hi]
          refine ⟨hx, ops[i], by rw [Array.getElem?_eq_getElem hlt], fun e he hb => ?_⟩
          have h1 := hdown i _ (Array.getElem?_eq_getElem hlt) e he
          rw [← gd listed' e.on (by omega)]
          exact ih e.on h1 (by omega)
        rw [hr] at this
        cases this
  have noL : ∀ (listed : Array Bool), listed.size = n + 1 → n ∈ Region.ready md ops listed → ∀ i, i < n → listed.getD i true = true := by
    intro listed s1 h i hi
    rw [mem_ready] at h
    obtain ⟨_, o, ho, h⟩ := h
    rw [hL] at ho
    cases ho
    obtain ⟨e, he, hb, rfl⟩ := hall i hi
    rw [gd listed e.on (by omega)]
    exact h e he hb
  have lastStep : ∀ (fuel : Nat) (listed : Array Bool) (a : Act) (w : World), listed.size = n + 1 → (∀ i, i < n → listed.getD i true = true) → lastQ P ops Q .normal a w → wpOp P ops Q n (wpAny P md ops Q fuel (listed.setIfInBounds n true)) a w := by
    intro fuel listed a w s1 hf hq
    unfold wpOp
    simp only [hL]
    rw [if_pos (wanted_open (hg n oL hL) _)]
    left
    unfold lastQ at hq
    simp only [hback] at hq
    have hno : Region.ready md ops (listed.setIfInBounds n true) = [] := by
      rw [List.eq_nil_iff_forall_not_mem]
      intro j hj
      rw [mem_ready] at hj
      obtain ⟨h0, o, ho, _⟩ := hj
      have hjlt : j < ops.size := (Array.getElem?_eq_some_iff.1 ho).1
      by_cases e : n = j
      · subst e
        simp [s1] at h0
      · rw [getD_set_ne true e] at h0
        rw [hf j (by omega)] at h0
        cases h0
    refine Oper.wp_mono (fun a' w' hk => ?_) hq
    cases fuel with
    | zero => exact ⟨hno, hk⟩
    | succ fuel => exact ⟨fun _ => hk, fun j hj => by rw [hno] at hj; cases hj⟩
  intro fuel
  induction fuel with
  | zero =>
    intro listed listed' a w s1 s2 hn he h
    obtain ⟨hr, hq⟩ := h
    have hf := full listed' s2 hr
    have hf2 : ∀ i, i < n → listed.getD i true = true := fun i hi => by rw [he i hi]; exact hf i hi
    refine ⟨fun h0 => ?_, fun i hi => ?_⟩
    · exfalso
      have : n ∈ Region.ready md ops listed := by
        rw [mem_ready]
        refine ⟨hn, oL, hL, fun e hx hb => ?_⟩
        have := hdown n oL hL e hx
        rw [← gd listed e.on (by omega)]
        exact hf2 e.on this
      rw [h0] at this
      cases this
    · by_cases e : i = n
      · subst e
        exact lastStep 0 listed a w s1 hf2 hq
      · have hilt : i < n := by
          rw [mem_ready] at hi
          obtain ⟨_, o, ho, _⟩ := hi
          have := (Array.getElem?_eq_some_iff.1 ho).1
          omega
        have := (same listed listed' s1 s2 he i hilt).1 hi
        rw [hr] at this
        cases this
  | succ fuel ih =>
    intro listed listed' a w s1 s2 hn he h
    obtain ⟨hr, hq⟩ := h
    refine ⟨fun h0 => ?_, fun i hi => ?_⟩
    · have hr0 : Region.ready md ops.pop listed' = [] := by
        rw [List.eq_nil_iff_forall_not_mem]
        intro j hj
        have hjlt : j < n := by
          rw [mem_ready] at hj
          obtain ⟨_, o, ho, _⟩ := hj
          rcases Nat.lt_or_ge j n with h' | h'
          · exact h'
          · rw [hpop' j h'] at ho; cases ho
        have := (same listed listed' s1 s2 he j hjlt).2 hj
        rw [h0] at this
        cases this
      exfalso
      have hf := full listed' s2 hr0
      have : n ∈ Region.ready md ops listed := by
        rw [mem_ready]
        refine ⟨hn, oL, hL, fun e hx hb => ?_⟩
        have h1 := hdown n oL hL e hx
        rw [← gd listed e.on (by omega), he e.on h1]
        exact hf e.on h1
      rw [h0] at this
      cases this
    · by_cases e : i = n
      · subst e
        have hf := noL listed s1 hi
        have hf' : ∀ j, j < i → listed'.getD j true = true := fun j hj => by rw [← he j hj]; exact hf j hj
        have hr0 : Region.ready md ops.pop listed' = [] := by
          rw [List.eq_nil_iff_forall_not_mem]
          intro j hj
          rw [mem_ready] at hj
          obtain ⟨h0, o, ho, _⟩ := hj
          rcases Nat.lt_or_ge j i with h' | h'
          · rw [hf' j h'] at h0; cases h0
          · rw [hpop' j h'] at ho; cases ho
        exact lastStep (fuel + 1) listed a w s1 hf (hr hr0)
      · have hilt : i < n := by
          have hi2 := hi
          rw [mem_ready] at hi2
          obtain ⟨_, o, ho, _⟩ := hi2
          have := (Array.getElem?_eq_some_iff.1 ho).1
          omega
        have hin := (same listed listed' s1 s2 he i hilt).1 hi
        have h1 := hq i hin
        have hlt : i < ops.size := by omega
        have hio : ops[i]? = some ops[i] := Array.getElem?_eq_getElem hlt
        have hio' : ops.pop[i]? = some ops[i] := by rw [hpop i hilt]; exact hio
        unfold wpOp at h1 ⊢
        simp only [hio'] at h1
        simp only [hio]
        rw [if_pos (wanted_open (hg i _ hio) _)] at h1 ⊢
        have step : ∀ a' w', wpAny P md ops.pop (lastQ P ops Q) fuel (listed'.setIfInBounds i true) a' w' → wpAny P md ops Q (fuel + 1) (listed.setIfInBounds i true) a' w' := fun a' w' hk => by
          refine ih _ _ a' w' (by simp [s1]) (by simp [s2]) ?_ ?_ hk
          · rw [getD_set_ne true e]; exact hn
          · intro j hj
            by_cases ej : i = j
            · subst ej
              simp [s1, s2, hilt, Nat.lt_succ_of_lt hilt]
            · rw [getD_set_ne true ej, getD_set_ne true ej]; exact he j hj
        rcases h1 with h1 | h1
        · left
          unfold Oper.wp at h1 ⊢
          exact upon_last step h1
        · exact Or.inr h1

theorem wp_region_last {id : Nat} {ops : Array Oper} {a : Act} {w : World} {S : World → Prop} (hm : P.follows .mixedOrders = true) (hb : lastB ops = true) (hne : ops.size ≠ 0) (hS : S w.drew)
    (h : S w.drew → wpAnyH P .any ops.pop (lastQ P ops Q) S ops.pop.size (Array.replicate ops.pop.size false) a w.drew) : (Code.region id ops true).wp P Q a w := by
  unfold lastB at hb
  simp only [Bool.and_eq_true, List.all_eq_true, List.mem_range, Array.all_eq_true_iff_forall_mem] at hb
  obtain ⟨⟨h1, h2⟩, h3⟩ := hb
  obtain ⟨n, hn⟩ : ∃ n, ops.size = n + 1 := ⟨ops.size - 1, by omega⟩
  have hpn : ops.pop.size = n := by simp [hn]
  have hnlt : n < ops.size := by omega
  have hL : ops[n]? = some ops[n] := Array.getElem?_eq_getElem hnlt
  have hback : ops.back? = some ops[n] := by rw [Array.back?_eq_getElem?, show ops.size - 1 = n by omega]; exact hL
  have hw := wpAny_of_held _ _ _ _ (h hS)
  rw [hpn] at hw
  refine wp_region_any hm ?_
  rw [hn]
  refine wpAny_last (n := n) hn hL hback (fun i o ho => ?_) (fun i o ho e he => ?_) (fun i hi => ?_) n _ _ a _ (by simp) (by simp) (by simp) (fun i hi => ?_) hw
  · have := h1 o (Array.mem_of_getElem? ho)
    exact Option.isNone_iff_eq_none.1 this
  · have := h2 i (Array.getElem?_eq_some_iff.1 ho).1
    rw [ho] at this
    simp only [Option.map_some, Option.getD_some, Array.all_eq_true_iff_forall_mem, decide_eq_true_eq] at this
    exact this e he
  · have := h3 i (by omega)
    rw [hback] at this
    simp only [Option.map_some, Option.getD_some, Array.any_eq_true, Bool.and_eq_true, decide_eq_true_eq] at this
    obtain ⟨j, hj, h4, h5⟩ := this
    exact ⟨_, Array.getElem_mem hj, h5, h4⟩
  · simp only [Array.getD_eq_getD_getElem?]
    rw [Array.getElem?_replicate, Array.getElem?_replicate, if_pos (by omega), if_pos hi]
theorem lastQ_done {ops : Array Oper} {o : Oper} {a : Act} {w : World} (ho : ops.back? = some o) (h : o.wp P a w (Q .normal) Q) : lastQ P ops Q .normal a w := by
  unfold lastQ
  simp only [ho]
  exact h
end
end Go.Proofs.Ytllmiaonlofeeaa
