/-
  Acts: how they lie in memory, how they read; Few; one act. No conditions beyond what each theorem states.
-/
import Derived.Test.YtllmiaonlofeeaaHn
namespace Go.Proofs.Ytllmiaonlofeeaa
open Go.RowKit Go.Sort Go.ChangeShapes Go.WideShapes Go.Deep

/-- An act, as its cells hold it. -/
structure ActM where
  drop : Bool
  p : Int
  upto : Int
  m : Msg
instance : Inhabited ActM := ⟨⟨false, 0, 0, zeroM⟩⟩
/-- What it says. -/
structure ActD where
  drop : Bool
  p : Int
  upto : Int
  D : DM
instance : Inhabited ActD := ⟨⟨false, 0, 0, zeroD⟩⟩
structure ReadsA (w : World) (x : ActM) (X : ActD) : Prop where
  drop : x.drop = X.drop
  p : x.p = X.p
  upto : x.upto = X.upto
  m : Reads w x.m X.D
theorem ReadsA.bw {w w' : World} {x : ActM} {X : ActD} (h : ReadsA w x X) (k : Bw w w') : ReadsA w' x X := ⟨h.drop, h.p, h.upto, h.m.bw k⟩
def Nine (w : World) (b o : Nat) (x : ActM) : Prop :=
  w.cell? ⟨b, o, none⟩ = some (.bool x.drop) ∧ w.cell? ⟨b, o + 1, none⟩ = some (.int .i64 x.p) ∧ w.cell? ⟨b, o + 2, none⟩ = some (.int .u32 x.upto) ∧ w.cell? ⟨b, o + 3, none⟩ = some (.int .i64 x.m.frm) ∧ w.cell? ⟨b, o + 4, none⟩ = some (.int .u32 x.m.seq) ∧
  w.cell? ⟨b, o + 5, none⟩ = some (.int .u64 x.m.stamp) ∧ w.cell? ⟨b, o + 6, none⟩ = some (.int .i64 x.m.svc) ∧ w.cell? ⟨b, o + 7, none⟩ = some (.slice x.m.da x.m.dl x.m.dc) ∧ w.cell? ⟨b, o + 8, none⟩ = some (.string x.m.pay)
theorem Nine.bw {w w' : World} {b o : Nat} {x : ActM} (h : Nine w b o x) (k : Bw w w') (hb : b < w.heap.size) : Nine w' b o x := by
  obtain ⟨h0, h1, h2, h3, h4, h5, h6, h7, h8⟩ := h
  have g : ∀ j, w'.cell? ⟨b, j, none⟩ = w.cell? ⟨b, j, none⟩ := fun j => k.cell (p := ⟨b, j, none⟩) hb
  exact ⟨(g _).trans h0, (g _).trans h1, (g _).trans h2, (g _).trans h3, (g _).trans h4, (g _).trans h5, (g _).trans h6, (g _).trans h7, (g _).trans h8⟩
/-- The slice v holds the acts l. -/
def AAt (w : World) (v : Value) (l : List ActM) : Prop :=
  (v = .slice none 0 0 ∧ l = []) ∨ (∃ a cap, v = .slice (some a) 0 cap ∧ l = []) ∨ ∃ b o cap, v = .slice (some ⟨b, o, none⟩) l.length cap ∧ b < w.heap.size ∧ ∀ i, i < l.length → Nine w b (o + i * 9) l[i]!
theorem AAt.bw {w w' : World} {v : Value} {l : List ActM} (h : AAt w v l) (k : Bw w w') : AAt w' v l := by
  rcases h with h | h | ⟨b, o, cap, rfl, hb, hc⟩
  · exact Or.inl h
  · exact Or.inr (Or.inl h)
  · exact Or.inr (Or.inr ⟨b, o, cap, rfl, Nat.lt_of_lt_of_le hb k.size, fun i hi => (hc i hi).bw k hb⟩)
theorem AAt.form {w : World} {v : Value} {l : List ActM} (h : AAt w v l) : ∃ a cap, v = .slice a l.length cap := by
  rcases h with ⟨rfl, rfl⟩ | ⟨a, cap, rfl, rfl⟩ | ⟨b, o, cap, rfl, _⟩
  · exact ⟨none, 0, rfl⟩
  · exact ⟨_, _, rfl⟩
  · exact ⟨_, _, rfl⟩
theorem AAt.nine {w : World} {v : Value} {l : List ActM} (h : AAt w v l) (hl : 0 < l.length) : ∃ b o cap, v = .slice (some ⟨b, o, none⟩) l.length cap ∧ b < w.heap.size ∧ ∀ i, i < l.length → Nine w b (o + i * 9) l[i]! := by
  rcases h with ⟨_, rfl⟩ | ⟨_, _, _, rfl⟩ | h
  · simp at hl
  · simp at hl
  · exact h
def AL (w : World) (l : List ActM) (L : List ActD) : Prop := l.length = L.length ∧ ∀ i, i < l.length → ReadsA w l[i]! L[i]!
theorem AL.bw {w w' : World} {l : List ActM} {L : List ActD} (h : AL w l L) (k : Bw w w') : AL w' l L := ⟨h.1, fun i hi => (h.2 i hi).bw k⟩
structure ADok (X : ActD) : Prop where
  p : -9223372036854775808 ≤ X.p ∧ X.p ≤ 9223372036854775807
  upto : 0 ≤ X.upto ∧ X.upto ≤ 4294967295
  D : DMok X.D

/-! ### What an act does -/
def actLow (low : Nat → Int) (R : Nat → List DM) (X : ActD) : Nat → Int := if X.drop then dropLow low R X.p X.upto else low
def actR (low : Nat → Int) (R : Nat → List DM) (X : ActD) : Nat → List DM := if X.drop then dropR low R X.p X.upto else putR low R X.D
theorem put_bnd {low : Nat → Int} {R : Nat → List DM} {N : Nat} (h : HBnd low R N) (D : DM) : HBnd low (putR low R D) (N + 1) := by
  unfold putR
  by_cases c : putE low R D = 0
  · rw [if_pos c]
    intro j hj
    have hj0 := h j hj
    by_cases e : j = D.frm.toNat
    · subst e; rw [upd_at, List.length_append, List.length_singleton]; omega
    · rw [upd_ne _ _ e]; omega
  · rw [if_neg c]
    intro j hj
    have := h j hj
    omega
theorem drop_bnd {low : Nat → Int} {R : Nat → List DM} {N : Nat} (h : HBnd low R N) (p upto : Int) : HBnd (dropLow low R p upto) (dropR low R p upto) N := by
  unfold dropLow dropR
  by_cases c : InP p ∧ low p.toNat < dropU low R p upto
  · rw [if_pos c, if_pos c]
    intro j hj
    have hj0 := h j hj
    by_cases e : j = p.toNat
    · subst e
      rw [upd_at, upd_at, List.length_drop]
      have h2 := c.2
      unfold dropU at *
      omega
    · rw [upd_ne _ _ e, upd_ne _ _ e]; exact hj0
  · rw [if_neg c, if_neg c]; exact h
theorem act_bnd {low : Nat → Int} {R : Nat → List DM} {N : Nat} (h : HBnd low R N) (X : ActD) : HBnd (actLow low R X) (actR low R X) (N + 1) := by
  unfold actLow actR
  split
  · intro j hj
    have := drop_bnd h X.p X.upto j hj
    omega
  · exact put_bnd h X.D
theorem HBnd.mono {low : Nat → Int} {R : Nat → List DM} {N N' : Nat} (h : HBnd low R N) (hn : N ≤ N') : HBnd low R N' := fun j hj => by have := h j hj; omega
theorem flat_bound {α : Type} {R : Nat → List α} {N : Nat} : ∀ n, (∀ i, i < n → (R i).length ≤ N) → ((List.range n).flatMap R).length ≤ n * N
  | 0, _ => by simp
  | n + 1, h => by
    have e1 : ([n].flatMap R).length = (R n).length := by simp
    rw [List.range_succ, List.flatMap_append, List.length_append, Nat.add_mul, e1, Nat.one_mul]
    have h1 := flat_bound n fun i hi => h i (by omega)
    have h2 := h n (by omega)
    omega
theorem HBnd.tot {low : Nat → Int} {R : Nat → List DM} {N : Nat} (h : HBnd low R N) : totD R ≤ 64 * N := flat_bound 64 fun i hi => by have := h i hi; omega
/-- Acts, one behind the other. -/
def runLR : List ActD → (Nat → Int) × (Nat → List DM) → (Nat → Int) × (Nat → List DM)
  | [], s => s
  | X :: L, s => runLR L (actLow s.1 s.2 X, actR s.1 s.2 X)
theorem runLR_append : ∀ (L M : List ActD) (s : (Nat → Int) × (Nat → List DM)), runLR (L ++ M) s = runLR M (runLR L s)
  | [], _, _ => rfl
  | _ :: L, M, _ => runLR_append L M _
theorem runLR_snoc (L : List ActD) (X : ActD) (s : (Nat → Int) × (Nat → List DM)) : runLR (L ++ [X]) s = (actLow (runLR L s).1 (runLR L s).2 X, actR (runLR L s).1 (runLR L s).2 X) := by rw [runLR_append]; rfl
theorem runLR_bnd : ∀ (L : List ActD) (s : (Nat → Int) × (Nat → List DM)) (N : Nat), HBnd s.1 s.2 N → HBnd (runLR L s).1 (runLR L s).2 (N + L.length)
  | [], _, _, h => h
  | X :: L, s, N, h => by
    have := runLR_bnd L (actLow s.1 s.2 X, actR s.1 s.2 X) (N + 1) (act_bnd h X)
    rw [List.length_cons, show N + (L.length + 1) = N + 1 + L.length by omega]
    exact this

/-! ### Few -/
set_option maxRecDepth 100000 in
set_option maxHeartbeats 2000000 in
theorem c_Few12 (v : Value) (l : List ActM) (w : World) (h : AAt w v l) (hn : l.length ≤ 4611686018427387904) (hd : ∀ x ∈ l, x.m.dl ≤ 9223372036854775807 ∧ x.m.pay.size ≤ 9223372036854775807) :
    Calls Try.prog 31 #[v] w fun e w' => ∃ b : Bool, e = .returned (.bool b) ∧ (b = true → l.length ≤ 200 ∧ ∀ x ∈ l, x.m.dl ≤ 1000000) ∧ Bw w w' := by
  obtain ⟨a, cap, rfl⟩ := h.form
  have HM1 := Lib.hid h
  have HD := Lib.hid hd
  clear h hd
  go_enter Try.func31, Try.ntmps31
  go_wp2_with fail
  go_loopw [3, 4] (fun vo vi wr => ∃ (i : Nat) (o : List Msg), vi = .int .i64 i ∧ i ≤ l.length ∧ i ≤ 200 ∧ Hid (o = (l.take i).map (·.m)) ∧ Hid (Own6 w.heap.size wr vo o) ∧ Hid (Bw w wr)) (fun _ vi _ => l.length - (intOf vi).toNat)
  case atStart => exact ⟨0, [], rfl, by omega, by omega, rfl, World.ownsRow_nil _ _ _ _, Bw.refl _⟩
  case round =>
    obtain ⟨i, o, rfl, hi, hi2, hO, hW, hB⟩ := hrel
    by_cases hlt : i < l.length
    · have hltz : (i : Int) < (l.length : Int) := by omega
      obtain ⟨bl, of, c1, q1, hbl, h9⟩ := (HM1.out.bw hB.out).nine (by omega)
      simp only [Value.slice.injEq, true_and] at q1
      obtain ⟨rfl, rfl⟩ := q1
      have gx := h9 i hlt
      obtain ⟨x, hx⟩ : ∃ x, x = l[i]! := ⟨_, rfl⟩
      rw [← hx] at gx
      have HX := Lib.hid hx
      obtain ⟨x0, x1, x2, x3, x4, x5, x6, x7, x8⟩ := gx
      have HLN : Hid (o.length + 1 ≤ 1000000000) := by rw [hO.out]; show _ ≤ _; simp; omega
      have HO3 := Lib.hid (hW.out.bw (Bw.alloc wr (.cells #[.int .i64 x.m.frm, .int .u32 x.m.seq, .int .u64 x.m.stamp, .int .i64 x.m.svc, .slice x.m.da x.m.dl x.m.dc, .string x.m.pay] 43)))
      have wz : w.heap.size ≤ wr.heap.size := hB.out.size
      clear hx h9
      by_cases h200 : 200 ≤ (i : Int)
      · go_wp2_with (at_builtin; refine app6 rfl _ _ rfl w.heap.size _ (.slice _ 1 1) o [(⟨x.m.frm, x.m.seq, x.m.stamp, x.m.svc, x.m.da, x.m.dl, x.m.dc, x.m.pay⟩ : Msg)] rfl rfl HO3.out (MAt.one (⟨x.m.frm, x.m.seq, x.m.stamp, x.m.svc, x.m.da, x.m.dl, x.m.dc, x.m.pay⟩ : Msg) (heap_alloc_new _ _)) HLN.out (by simp; omega) ?_; intro v4 w4 ho4 hg4; have HO4 := Lib.hid ho4; have HG4 := Lib.hid hg4; clear ho4 hg4)
        have B4 : Hid (Bw w w4) := Below.trans hB.out ((Bw.alloc wr (.cells #[.int .i64 x.m.frm, .int .u32 x.m.seq, .int .u64 x.m.stamp, .int .i64 x.m.svc, .slice x.m.da x.m.dl x.m.dc, .string x.m.pay] 43)).below_of wz |>.trans (Below.grown (Below.refl _ _) HG4.out (by simp; omega) (Own6.row hW.out)))
        go_wp2_with fail
        go_ret
        exact ⟨false, rfl, (fun h => by cases h), B4.out⟩
      · have h2d : decide (200 ≤ (i : Int)) = false := decide_eq_false h200
        have h2l : (i : Int) < 200 := by omega
        go_wp2_with (at_builtin; refine app6 rfl _ _ rfl w.heap.size _ (.slice _ 1 1) o [(⟨x.m.frm, x.m.seq, x.m.stamp, x.m.svc, x.m.da, x.m.dl, x.m.dc, x.m.pay⟩ : Msg)] rfl rfl HO3.out (MAt.one (⟨x.m.frm, x.m.seq, x.m.stamp, x.m.svc, x.m.da, x.m.dl, x.m.dc, x.m.pay⟩ : Msg) (heap_alloc_new _ _)) HLN.out (by simp; omega) ?_; intro v4 w4 ho4 hg4; have HO4 := Lib.hid ho4; have HG4 := Lib.hid hg4; clear ho4 hg4)
        have B4 : Hid (Bw w w4) := Below.trans hB.out ((Bw.alloc wr (.cells #[.int .i64 x.m.frm, .int .u32 x.m.seq, .int .u64 x.m.stamp, .int .i64 x.m.svc, .slice x.m.da x.m.dl x.m.dc, .string x.m.pay] 43)).below_of wz |>.trans (Below.grown (Below.refl _ _) HG4.out (by simp; omega) (Own6.row hW.out)))
        go_wp2_with fail
        go_roundw
        case rel =>
          refine ⟨i + 1, o ++ [x.m], by go_num, by omega, by omega, (show _ = _ from ?_), HO4.out, B4.out⟩
          rw [List.take_succ_eq_append_getElem hlt, List.map_append, ← hO.out, HX.out, getElem!_pos l i hlt]; rfl
        case measure => first | (simp [intOf]; done) | (simp [intOf]; omega)
    · obtain rfl : i = l.length := by omega
      have hol : o.length = l.length := by rw [hO.out]; simp
      have hmem : ∀ x ∈ l, x.m ∈ o := fun x hx => by rw [hO.out, List.take_length]; exact List.mem_map_of_mem hx
      have HOL := Lib.hid hol
      have HMEM := Lib.hid hmem
      have hdo : ∀ x ∈ o, x.dl ≤ 9223372036854775807 ∧ x.pay.size ≤ 9223372036854775807 := fun x hx => by
        rw [hO.out, List.take_length] at hx
        obtain ⟨y, hy, rfl⟩ := List.mem_map.1 hx
        exact HD.out y hy
      have HDO := Lib.hid hdo
      clear hol hmem hdo
      go_wp2_with fail
      refine (c_FewD _ o wr hW.out.at (by rw [HOL.out]; exact hn) HDO.out).mono ?_
      rintro e w2 ⟨few, rfl, hf, hb2⟩
      go_wp2
      go_ret
      exact ⟨few, rfl, fun h => ⟨hi2, fun x hx => (hf h).2 x.m (HMEM.out x hx)⟩, hB.out.trans hb2⟩
end Go.Proofs.Ytllmiaonlofeeaa
