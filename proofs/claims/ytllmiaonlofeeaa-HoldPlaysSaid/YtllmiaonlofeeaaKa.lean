/-
  The basics of the key layer: comparisons, a message's key. No conditions beyond what each theorem states.
-/
import Derived.Test.YtllmiaonlofeeaaProg
import Derived.WalkKit
import Derived.Deep.QuietTactic
import Derived.BigQuiet
import Derived.StillTailTactics
import Derived.Handy
import Derived.Deep.RegionHeld3
import Derived.KernelRfl
import Derived.Lib.Hide
import Derived.Shelf.SlSortCmp.QuietGrown
namespace Go.Proofs.Ytllmiaonlofeeaa
open Go.RowKit Go.Sort

/-- Some draws, some new blocks. -/
def Gr (w w' : World) : Prop := ∃ q os, w' = grow (w.drewN q) os

theorem c_nanU (x : Int) (w : World) :
    Calls Try.prog 67 #[.int .u64 x] w fun e w' => e = .returned (.bool false) ∧ w = w' := by
  go_enter Try.func67, Try.ntmps67
  go_wp2
  go_ret
  exact ⟨by simp, rfl⟩

theorem c_nanI (x : Int) (w : World) :
    Calls Try.prog 68 #[.int .i64 x] w fun e w' => e = .returned (.bool false) ∧ w = w' := by
  go_enter Try.func68, Try.ntmps68
  go_wp2
  go_ret
  exact ⟨by simp, rfl⟩

/-- the sign of a comparison -/
def cmpZ (x y : Int) : Int := if x < y then -1 else if y < x then 1 else 0
theorem cmpZ_lt {x y : Int} (h : x < y) : cmpZ x y = -1 := by simp [cmpZ, h]
theorem cmpZ_gt {x y : Int} (h : y < x) : cmpZ x y = 1 := by simp only [cmpZ]; rw [if_neg (by omega), if_pos h]
theorem cmpZ_eq {x y : Int} (h : y ≤ x) (h' : x ≤ y) : cmpZ x y = 0 := by simp only [cmpZ]; rw [if_neg (by omega), if_neg (by omega)]
theorem ret_int {k : IntKind} {a b : Int} (h : a = b) : Ending.returned (.int k a) = .returned (.int k b) := by rw [h]

theorem c_cmpU (x y : Int) (w : World) :
    Calls Try.prog 56 #[.int .u64 x, .int .u64 y] w fun e w' => e = .returned (.int .i64 (cmpZ x y)) ∧ w = w' := by
  go_enter Try.func56, Try.ntmps56
  go_wp2_with (first | (go_at_call 67; refine (c_nanU _ _).mono ?_; rintro e w' ⟨rfl, rfl⟩))
  · go_ret; exact ⟨ret_int (cmpZ_lt ‹_›).symm, rfl⟩
  · go_ret; exact ⟨ret_int (cmpZ_gt ‹_›).symm, rfl⟩
  · go_ret; exact ⟨ret_int (cmpZ_eq ‹_› ‹_›).symm, rfl⟩

theorem c_cmpI (x y : Int) (w : World) :
    Calls Try.prog 57 #[.int .i64 x, .int .i64 y] w fun e w' => e = .returned (.int .i64 (cmpZ x y)) ∧ w = w' := by
  go_enter Try.func57, Try.ntmps57
  go_wp2_with (first | (go_at_call 68; refine (c_nanI _ _).mono ?_; rintro e w' ⟨rfl, rfl⟩))
  · go_ret; exact ⟨ret_int (cmpZ_lt ‹_›).symm, rfl⟩
  · go_ret; exact ⟨ret_int (cmpZ_gt ‹_›).symm, rfl⟩
  · go_ret; exact ⟨ret_int (cmpZ_eq ‹_› ‹_›).symm, rfl⟩

/-- cmp.Or of two. -/
def orZ (x y : Int) : Int := if x = 0 then y else x

theorem c_Or (x y : Int) (b o : Nat) (w : World) (h0 : w.cell? ⟨b, o, none⟩ = some (.int .i64 x)) (h1 : w.cell? ⟨b, o + 1, none⟩ = some (.int .i64 y)) :
    Calls Try.prog 55 #[.slice (some ⟨b, o, none⟩) 2 2] w fun e w' => e = .returned (.int .i64 (orZ x y)) ∧ w = w' := by
  by_cases hx : x = 0
  · subst hx
    by_cases hy : y = 0
    · subst hy
      go_enter Try.func55, Try.ntmps55
      go_wp2
      go_rounds 3
      go_ret
      exact ⟨rfl, rfl⟩
    · have hb : (y != 0) = true := by simpa using hy
      go_enter Try.func55, Try.ntmps55
      go_wp2
      go_rounds 2
      go_ret
      exact ⟨rfl, rfl⟩
  · have hb : (x != 0) = true := by simpa using hx
    go_enter Try.func55, Try.ntmps55
    go_wp2
    go_rounds 1
    go_ret
    exact ⟨ret_int (by simp [orZ, hx]), rfl⟩

def keyCmp (s1 f1 s2 f2 : Int) : Int := orZ (cmpZ s1 s2) (cmpZ f1 f2)

theorem c_Compare (s1 f1 s2 f2 : Int) (w : World) :
    Calls Try.prog 18 #[.agg #[.int .u64 s1, .int .i64 f1], .agg #[.int .u64 s2, .int .i64 f2]] w fun e w' => e = .returned (.int .i64 (keyCmp s1 f1 s2 f2)) ∧ Gr w w' := by
  go_enter Try.func18, Try.ntmps18
  go_wp2
  go_region_held3 (fun w' => w'.cell? ⟨w.heap.size, 0, none⟩ = some (.int .u64 s1) ∧ w'.cell? ⟨w.heap.size, 1, none⟩ = some (.int .i64 f1) ∧ w'.cell? ⟨w.heap.size + 1, 0, none⟩ = some (.int .u64 s2) ∧ w'.cell? ⟨w.heap.size + 1, 1, none⟩ = some (.int .i64 f2))
    (first | go_keep)
    (first | (go_at_call 56; refine (c_cmpU _ _ _).mono ?_; rintro e w' ⟨rfl, rfl⟩) | (go_at_call 57; refine (c_cmpI _ _ _).mono ?_; rintro e w' ⟨rfl, rfl⟩) | (go_at_call 55; refine (c_Or (cmpZ s1 s2) (cmpZ f1 f2) _ _ _ (by simp [go_sem]) (by simp [go_sem])).mono ?_; rintro e w' ⟨rfl, rfl⟩))
  go_wp2
  go_ret
  exact ⟨rfl, 1, _, by simp only [alloc_eq_grow, grow_grow]; rfl⟩

structure Msg where
  frm : Int
  seq : Int
  stamp : Int
  svc : Int
  da : Option Addr
  dl : Nat
  dc : Nat
  pay : ByteArray
  deriving Inhabited

def encM (m : Msg) : List Value := [.int .i64 m.frm, .int .u32 m.seq, .int .u64 m.stamp, .int .i64 m.svc, .slice m.da m.dl m.dc, .string m.pay]

theorem Gr.trans {a b c : World} (h : Gr a b) (k : Gr b c) : Gr a c := by
  obtain ⟨q, os, rfl⟩ := h
  obtain ⟨q', os', rfl⟩ := k
  exact ⟨q + q', os ++ os', by show grow (grow ((a.drewN q).drewN q') os) os' = _; rw [grow_grow, World.drewN_drewN]⟩
theorem Gr.refl (a : World) : Gr a a := ⟨0, #[], by simp [World.drewN_zero]⟩
theorem Gr.alloc (a : World) (o : Obj) : Gr a (a.alloc o) := ⟨0, #[o], by rw [alloc_eq_grow]; rfl⟩
theorem Gr.drew (a : World) : Gr a a.drew := ⟨1, #[], by simp; rfl⟩

theorem c_Of (f q s v : Int) (d : Value) (p : ByteArray) (w : World) :
    Calls Try.prog 22 #[.agg #[.int .i64 f, .int .u32 q, .int .u64 s, .int .i64 v, d, .string p]] w fun e w' => e = .returned (.agg #[.int .u64 s, .int .i64 f]) ∧ Gr w w' := by
  go_enter Try.func22, Try.ntmps22
  go_wp2
  refine bodyPost_ret (v := .agg #[.int .u64 s, .int .i64 f]) (by simp [results, Try.results22, go_sem]) rfl ⟨rfl, ?_⟩
  exact (Gr.alloc _ _).trans (Gr.alloc _ _)

def mcmp (x y : Msg) : Int := keyCmp x.stamp x.frm y.stamp y.frm

theorem grown_of_Gr {P : Program} {f : FuncId} {args : Array Value} {w : World} {n : Nat} {os : Array Obj} {v : Value}
    (h : Calls P f args (grow (w.drewN n) os) fun e w' => e = .returned v ∧ Gr (grow (w.drewN n) os) w') : Calls P f args (grow (w.drewN n) os) fun e w'' => e = .returned v ∧ ∃ p : GrownBy, w'' = grow (w.drewN p.n) p.os := Calls.grown_of h

end Go.Proofs.Ytllmiaonlofeeaa
