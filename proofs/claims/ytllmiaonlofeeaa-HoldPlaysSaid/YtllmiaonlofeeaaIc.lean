/-
  The reference's hold: Put. No conditions beyond what each theorem states.
-/
import Derived.Test.YtllmiaonlofeeaaIb
import Derived.Deep.AppendLies
namespace Go.Proofs.Ytllmiaonlofeeaa
open Go.RowKit Go.Sort

/-- The reference's answer to a Put. -/
def rE (LA : List DM) (D : DM) : Int := if InP D.frm then (if D.seq = (ofP LA D.frm).length + 1 then 0 else 13) else 1
/-- append of messages at a step of a region that draws. -/
theorem step_app6 {ops : Array Oper} {o : Oper} {a : Act} {K : Act → World → Prop} {Q : Exit → Act → World → Prop} {E : Prop} {w : World} (hgd : o.guard = none) (s x : Operand)
    (ho : o.op = .call { callee := .builtin .append, args := #[s, x], argTypes := #[22, 22] }) (base : Nat) (v vx : Value) (xs ys : List Msg) (hs : a.eval s = v) (hx : a.eval x = vx)
    (hown : Own6 base w v xs) (hsrc : MAt w vx ys) (hn : xs.length + ys.length ≤ 1000000000) (hbase : base ≤ w.heap.size)
    (h : ∀ v' w', Own6 base w' v' (xs ++ ys) → w.grownBy w' v.ownBlock → (v'.ownBlock = v.ownBlock ∨ v'.ownBlock = some w.heap.size) → K (a.put o.dst v') w') :
    if Region.wanted o (yielded ops a.tmps) = true then Oper.wp Try.prog o a w K Q else E := by
  obtain ⟨i0, hi, hz0, hz1, hz2⟩ := info_parts info_M
  rw [if_pos (by unfold Region.wanted; rw [hgd])]
  obtain ⟨rfl, rfl⟩ | ⟨sa, cap, rfl, hc⟩ : (vx = .slice none 0 0 ∧ ys = []) ∨ ∃ sa cap, vx = .slice (some sa) ys.length cap ∧ ∀ j u, (flatM ys)[j]? = some u → w.cell? (sa.add j) = some u := by
    rcases hsrc with h | ⟨a, cap, rfl, rfl⟩ | ⟨b, o, cap, rfl, hb, hc⟩
    · exact Or.inl h
    · exact Or.inr ⟨a, cap, rfl, fun j u hu => by simp [flatM] at hu⟩
    · exact Or.inr ⟨⟨b, o, none⟩, cap, rfl, fun j u hu => by rw [add_off]; exact hc j u hu⟩
  · have hrun := run_append_owned_none (P := Try.prog) (w := w) base 22 o.type 43 i0 6 Try.underlying22 hi v xs.length (flatM xs) hown
    unfold Oper.wp execOp
    simp only [ho, resolve, invoke, builtin, Sem.run_bind, Sem.run_pure, Result.andThen_ok, List.map_toArray, List.map_cons, List.map_nil, hs, hx, hrun]
    exact h v w (by simpa using hown) ⟨rfl, rfl, rfl, Nat.le_refl _, fun _ _ _ => rfl⟩ (Or.inl rfl)
  · obtain ⟨v', w', hr, h1, h2, _, h5⟩ := run_append_own_at (P := Try.prog) w base 22 o.type 43 i0 _ 6 72 Try.underlying22 hi hz0 hz1 hz2 rfl (by decide) v xs.length (flatM xs) hown sa ys.length cap (flatM ys) (flatM_length ys) hc (flatM_one ys) (by unfold maxLen; omega) (by omega) hbase
    unfold Oper.wp execOp
    simp only [ho, resolve, invoke, builtin, Sem.run_bind, Sem.run_pure, Result.andThen_ok, List.map_toArray, List.map_cons, List.map_nil, hs, hx, hr]
    refine h v' w' ?_ h2 h5
    unfold Own6
    rw [List.length_append, flatM_append]
    exact h1
end Go.Proofs.Ytllmiaonlofeeaa
