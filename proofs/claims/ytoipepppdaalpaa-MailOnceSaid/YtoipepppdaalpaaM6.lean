/- term.Copy of a whole number. -/
import Derived.Test.YtoipepppdaalpaaM4
import Derived.Test.YtoipepppdaalpaaM5
namespace Go.Proofs.Ytoipepppdaalpaa
open Go.RowKit
attribute [local go_sem] run_store_complex

theorem below2 {w a b : World} (h : Below w.heap.size w a) (hb : Below a.heap.size a b) : Below w.heap.size w b := h.trans (hb.mono h.size)
theorem TmAt.of_block {w : World} {b : Nat} {k n : Int} {t : TypeId} (h : w.heap[b]? = some (.cells (tmC k n) t (0, 0))) : TmAt w b k n := by
  refine ⟨?_, ?_, ?_, ?_, ?_, ?_, ?_, ?_, ?_⟩ <;> simp [World.cell?, h]
theorem heap_new2 (w : World) (o o2 : Obj) : ((w.alloc o).alloc o2).heap[w.heap.size]? = some o := by
  have := ((Below.refl (w.alloc o).heap.size (w.alloc o)).alloc (Nat.le_refl _) o2).block w.heap.size (by simp)
  rw [this]
  exact heap_new w o
theorem setRow_below {B g : Nat} {w : World} {cs : Array Value} (h : B ≤ g) : Below B w (w.setRow g cs) :=
  ⟨rfl, rfl, rfl, by simp [World.setRow], fun k hk => by simp [World.setRow, Array.getElem?_modify, show ¬ g = k by omega]⟩
set_option maxHeartbeats 1000000 in
theorem copy_any (n : Int) (w : World) (h0 : 0 ≤ n) (h1 : n ≤ 1000) : Calls Try.prog 16 #[tm 1 n] w (RB w (tm 1 n)) := by
  have hi35 : (Try.prog.info? 35).map (·.size) = some (tmC 1 n).size := by kernel_rfl
  have hall : (tmC 1 n).all (·.oneCell') = true := by simp [Array.all, tmC, Value.oneCell']
  have hx1 := heap_new2 w (.cells (tmC 1 n) 35) (.cells (tmC 0 0) 35)
  have hx2 : ((w.alloc (.cells (tmC 1 n) 35)).alloc (.cells (tmC 0 0) 35)).heap[w.heap.size + 1]? = some (.cells (tmC 0 0) 35) := by
    have := heap_new (w.alloc (.cells (tmC 1 n) 35)) (.cells (tmC 0 0) 35)
    simpa using this
  have hB : Below w.heap.size w ((w.alloc (.cells (tmC 1 n) 35)).alloc (.cells (tmC 0 0) 35)) := ((Below.refl _ _).alloc (Nat.le_refl _) _).alloc (by simp) _
  have hsz : w.heap.size + 1 < ((w.alloc (.cells (tmC 1 n) 35)).alloc (.cells (tmC 0 0) 35)).heap.size := by simp
  have X1 := Lib.hid hx1
  have X2 := Lib.hid hx2
  have XB := Lib.hid hB
  clear hx1 hx2 hB
  go_enter Try.func16, Try.ntmps16
  go_wp2_with fail
  generalize (w.alloc (.cells (tmC 1 n) 35)).alloc (.cells (tmC 0 0) 35) = w0 at *
  refine (check_any n _ h0 h1).mono ?_
  rintro e w1 ⟨rfl, hb1⟩
  have ht1 : TmAt w1 w.heap.size 1 n := TmAt.of_block ((hb1.block _ (by omega)).trans X1.out)
  have Y2 := Lib.hid ((hb1.block (w.heap.size + 1) hsz).trans X2.out)
  have HB1 := Lib.hid (XB.out.trans (hb1.mono (by omega)))
  have hs1 : w.heap.size + 1 < w1.heap.size := by have := hb1.size; omega
  clear hb1 X1 X2 XB hsz
  obtain ⟨k0, k1, k2, k3, k4, k5, k6, k7, k8⟩ := ht1
  go_wp2_with fail
  refine (copied_any n _).mono ?_
  rintro e w2 ⟨rfl, hb2⟩
  have Z2 := Lib.hid ((hb2.block (w.heap.size + 1) hs1).trans Y2.out)
  have HB2 := Lib.hid (HB1.out.trans (hb2.mono (by omega)))
  clear hb2 k0 k1 k2 k3 k4 k5 k6 k7 k8 Y2
  go_wp2_with (refine wpList_store_row rfl 35 (.tmp 2) (.tmp 8) rfl (w.heap.size + 1) (tmC 1 n) rfl rfl 35 (tmC 0 0) Z2.out hi35 rfl hall ?_)
  have ht3 : TmAt (w2.setRow (w.heap.size + 1) (tmC 1 n)) (w.heap.size + 1) 1 n := TmAt.of_block (setRow_heap w2 _ _ _ _ _ Z2.out)
  have HB3 := Lib.hid (HB2.out.trans (setRow_below (w := w2) (cs := tmC 1 n) (Nat.le_succ w.heap.size)))
  generalize w2.setRow (w.heap.size + 1) (tmC 1 n) = w3 at *
  obtain ⟨k0, k1, k2, k3, k4, k5, k6, k7, k8⟩ := ht3
  exact bodyPost_ret (v := tm 1 n) (by simp [results, Try.results16, go_sem, k0, k1, k2, k3, k4, k5, k6, k7, k8]) rfl ⟨rfl, HB3.out⟩
end Go.Proofs.Ytoipepppdaalpaa
