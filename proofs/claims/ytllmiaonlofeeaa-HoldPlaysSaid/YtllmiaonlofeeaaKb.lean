/-
  The comparison closure of key.Sort, in every world. No conditions beyond what each theorem states.
-/
import Derived.Test.YtllmiaonlofeeaaKa
import Derived.Shelf.SlSortCmp.InsertionK
namespace Go.Proofs.Ytllmiaonlofeeaa
open Go.RowKit Go.Sort

theorem c_Sort1 (x y : Msg) (w : World) :
    Calls Try.prog 54 #[.agg (encM x).toArray, .agg (encM y).toArray] w fun e w' => e = .returned (.int .i64 (mcmp x y)) ∧ Gr w w' := by
  have mixed : Try.prog.follows .mixedOrders = true := by kernel_rfl
  have hc : ∀ (c d : Array Value) (i n : Nat) (os : Array Obj) (v : Value), c[i]? = some v → (grow (((w.alloc (.cells c 43)).alloc (.cells d 43)).drewN n) os).cell? ⟨w.heap.size, i, none⟩ = some v := fun c d i n os v h => by
    rw [cell?_grow _ _ _ (by simp; omega)]
    simp [go_sem, h]
  have hd : ∀ (c d : Array Value) (i n : Nat) (os : Array Obj) (v : Value), d[i]? = some v → (grow (((w.alloc (.cells c 43)).alloc (.cells d 43)).drewN n) os).cell? ⟨w.heap.size + 1, i, none⟩ = some v := fun c d i n os v h => by
    rw [cell?_grow _ _ _ (by simp)]
    simp [go_sem, h]
  obtain ⟨W, hW⟩ : ∃ W, W = ((w.alloc (.cells (encM x).toArray 43)).alloc (.cells (encM y).toArray 43)) := ⟨_, rfl⟩
  have gW : Gr w W := hW ▸ (Gr.alloc _ _).trans (Gr.alloc _ _)
  have x0 : ∀ n os, (grow (W.drewN n) os).cell? ⟨w.heap.size, 0, none⟩ = some (.int .i64 x.frm) := fun n os => by rw [hW]; exact hc (encM x).toArray (encM y).toArray 0 n os _ rfl
  have x1 : ∀ n os, (grow (W.drewN n) os).cell? ⟨w.heap.size, 1, none⟩ = some (.int .u32 x.seq) := fun n os => by rw [hW]; exact hc (encM x).toArray (encM y).toArray 1 n os _ rfl
  have x2 : ∀ n os, (grow (W.drewN n) os).cell? ⟨w.heap.size, 2, none⟩ = some (.int .u64 x.stamp) := fun n os => by rw [hW]; exact hc (encM x).toArray (encM y).toArray 2 n os _ rfl
  have x3 : ∀ n os, (grow (W.drewN n) os).cell? ⟨w.heap.size, 3, none⟩ = some (.int .i64 x.svc) := fun n os => by rw [hW]; exact hc (encM x).toArray (encM y).toArray 3 n os _ rfl
  have x4 : ∀ n os, (grow (W.drewN n) os).cell? ⟨w.heap.size, 4, none⟩ = some (.slice x.da x.dl x.dc) := fun n os => by rw [hW]; exact hc (encM x).toArray (encM y).toArray 4 n os _ rfl
  have x5 : ∀ n os, (grow (W.drewN n) os).cell? ⟨w.heap.size, 5, none⟩ = some (.string x.pay) := fun n os => by rw [hW]; exact hc (encM x).toArray (encM y).toArray 5 n os _ rfl
  have y0 : ∀ n os, (grow (W.drewN n) os).cell? ⟨w.heap.size + 1, 0, none⟩ = some (.int .i64 y.frm) := fun n os => by rw [hW]; exact hd (encM x).toArray (encM y).toArray 0 n os _ rfl
  have y1 : ∀ n os, (grow (W.drewN n) os).cell? ⟨w.heap.size + 1, 1, none⟩ = some (.int .u32 y.seq) := fun n os => by rw [hW]; exact hd (encM x).toArray (encM y).toArray 1 n os _ rfl
  have y2 : ∀ n os, (grow (W.drewN n) os).cell? ⟨w.heap.size + 1, 2, none⟩ = some (.int .u64 y.stamp) := fun n os => by rw [hW]; exact hd (encM x).toArray (encM y).toArray 2 n os _ rfl
  have y3 : ∀ n os, (grow (W.drewN n) os).cell? ⟨w.heap.size + 1, 3, none⟩ = some (.int .i64 y.svc) := fun n os => by rw [hW]; exact hd (encM x).toArray (encM y).toArray 3 n os _ rfl
  have y4 : ∀ n os, (grow (W.drewN n) os).cell? ⟨w.heap.size + 1, 4, none⟩ = some (.slice y.da y.dl y.dc) := fun n os => by rw [hW]; exact hd (encM x).toArray (encM y).toArray 4 n os _ rfl
  have y5 : ∀ n os, (grow (W.drewN n) os).cell? ⟨w.heap.size + 1, 5, none⟩ = some (.string y.pay) := fun n os => by rw [hW]; exact hd (encM x).toArray (encM y).toArray 5 n os _ rfl
  have HW := Lib.hid hW
  have GW := Lib.hid gW
  clear hc hd hW gW
  go_enter Try.func54, Try.ntmps54
  go_wp2_with fail
  rw [← HW.out]
  go_quiet_grown (first | (go_at_call 22; with_reducible exact grown_of_Gr (c_Of _ _ _ _ _ _ _)) | (go_at_call 18; with_reducible exact grown_of_Gr (c_Compare _ _ _ _ _)))
  go_wp2
  go_ret
  exact ⟨rfl, GW.out.trans ⟨nq, osq, rfl⟩⟩

end Go.Proofs.Ytllmiaonlofeeaa
