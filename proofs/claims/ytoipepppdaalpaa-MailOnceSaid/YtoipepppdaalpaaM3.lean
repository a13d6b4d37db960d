/- term.Check of a whole number. -/
import Derived.Test.YtoipepppdaalpaaM2
import Derived.Deep.RegionHeld3
import Derived.StillTailTactics
namespace Go.Proofs.Ytoipepppdaalpaa
open Go.RowKit
attribute [local go_sem] run_store_complex run_store_func' run_store_nilFunc'

abbrev tmC (k n : Int) : Array Value := #[.int .i64 k, .int .i64 n, .complex .f64 0 0, .string ⟨#[]⟩, .int .i64 0, .int .u32 0, .int .u64 0, .slice none 0 0, .slice none 0 0]
/-- a term lies in a block -/
def TmAt (w : World) (b : Nat) (k n : Int) : Prop := w.cell? ⟨b, 0, none⟩ = some (.int .i64 k) ∧ w.cell? ⟨b, 1, none⟩ = some (.int .i64 n) ∧ w.cell? ⟨b, 2, none⟩ = some (.complex .f64 0 0) ∧ w.cell? ⟨b, 3, none⟩ = some (.string ⟨#[]⟩) ∧
  w.cell? ⟨b, 4, none⟩ = some (.int .i64 0) ∧ w.cell? ⟨b, 5, none⟩ = some (.int .u32 0) ∧ w.cell? ⟨b, 6, none⟩ = some (.int .u64 0) ∧ w.cell? ⟨b, 7, none⟩ = some (.slice none 0 0) ∧ w.cell? ⟨b, 8, none⟩ = some (.slice none 0 0)
theorem tm_cells (w : World) (k n : Int) : TmAt (w.alloc (.cells (tmC k n) 35)) w.heap.size k n := by
  refine ⟨?_, ?_, ?_, ?_, ?_, ?_, ?_, ?_, ?_⟩ <;> simp
theorem cell_set_off (w : World) (b o o' : Nat) (v : Value) (h : o ≠ o') : (w.setCell ⟨b, o, none⟩ v).cell? ⟨b, o', none⟩ = w.cell? ⟨b, o', none⟩ := by
  apply World.cell?_setCell_other
  simp [h]
theorem TmAt.block {w w' : World} {b : Nat} {k n : Int} (h : TmAt w b k n) (e : w'.heap[b]? = w.heap[b]?) : TmAt w' b k n := by
  have c : ∀ o, w'.cell? ⟨b, o, none⟩ = w.cell? ⟨b, o, none⟩ := fun o => World.cell?_of_block (w := w) e
  unfold TmAt
  simp only [c]
  exact h
set_option maxRecDepth 100000 in
set_option maxHeartbeats 1000000 in
theorem part_any (n : Int) (p : Nat) (w : World) (h0 : 0 ≤ n) (h1 : n ≤ 1000) (hp0 : w.cell? ⟨p, 0, none⟩ = some (.int .i64 0)) (hpf : w.frozen? ⟨p, 0, none⟩ = false) (hp3 : w.cell? ⟨p, 3, none⟩ = some (fv 30)) (hp4 : w.cell? ⟨p, 4, none⟩ = some (fv 23)) :
    Calls Try.prog 21 #[.pointer (some ⟨p, 0, none⟩), tm 1 n, .int .i64 1] w fun e w' => e = .returned (.int .i64 0) ∧ Turn (fun i => i = p) w w' := by
  have lp := cell_lt hp0
  go_enter Try.func21, Try.ntmps21
  go_wp2_with fail
  have HT := Lib.hid (Turn.alloc (fun i => i = p) w (.cells (tmC 1 n) 35))
  obtain ⟨k0, k1, k2, k3, k4, k5, k6, k7, k8⟩ := tm_cells w 1 n
  have q0 : (w.alloc (.cells (tmC 1 n) 35)).cell? ⟨p, 0, none⟩ = some (.int .i64 0) := (((Below.refl _ w).alloc (Nat.le_refl _) _).cell (p := ⟨p, 0, none⟩) lp).trans hp0
  have qf : (w.alloc (.cells (tmC 1 n) 35)).frozen? ⟨p, 0, none⟩ = false := (((Below.refl _ w).alloc (Nat.le_refl _) _).frozen (p := ⟨p, 0, none⟩) lp).trans hpf
  have q3 : (w.alloc (.cells (tmC 1 n) 35)).cell? ⟨p, 3, none⟩ = some (fv 30) := (((Below.refl _ w).alloc (Nat.le_refl _) _).cell (p := ⟨p, 3, none⟩) lp).trans hp3
  have q4 : (w.alloc (.cells (tmC 1 n) 35)).cell? ⟨p, 4, none⟩ = some (fv 23) := (((Below.refl _ w).alloc (Nat.le_refl _) _).cell (p := ⟨p, 4, none⟩) lp).trans hp4
  have hbp : p < w.heap.size := lp
  have hsz : w.heap.size < (w.alloc (.cells (tmC 1 n) 35)).heap.size := by simp
  generalize w.alloc (.cells (tmC 1 n) 35) = w2 at *
  have HT2 : Hid (Turn (fun i => i = p) w w2.drew) := HT.out.drew
  have hsz2 : w.heap.size < w2.drew.heap.size := hsz
  generalize w.heap.size = b at *
  clear hp0 hpf hp3 hp4 lp
  go_still_tail 11, (by kernel_rfl)
  change wpList _ _ _ _ _ w2.drew
  have r0 : w2.drew.cell? ⟨p, 0, none⟩ = some (.int .i64 0) := q0
  have rf : w2.drew.frozen? ⟨p, 0, none⟩ = false := qf
  have r3 : w2.drew.cell? ⟨p, 3, none⟩ = some (fv 30) := q3
  have r4 : w2.drew.cell? ⟨p, 4, none⟩ = some (fv 23) := q4
  have ht2 : TmAt w2.drew b 1 n := ⟨k0, k1, k2, k3, k4, k5, k6, k7, k8⟩
  clear k0 k1 k2 k3 k4 k5 k6 k7 k8 q0 qf q3 q4 hsz HT
  obtain ⟨k0, k1, k2, k3, k4, k5, k6, k7, k8⟩ := ht2
  generalize w2.drew = w3 at *
  go_wp2_with fail
  have HT4 := Lib.hid (HT2.out.trans (Turn.setCell w3 p 0 (.int .i64 1)))
  have hb4 : Below b w3 w3 := Below.refl _ _
  have e3 : (w3.setCell ⟨p, 0, none⟩ (.int .i64 1)).cell? ⟨p, 3, none⟩ = some (fv 30) := by rw [cell_set_off w3 p 0 3 _ (by decide)]; exact r3
  have e4 : (w3.setCell ⟨p, 0, none⟩ (.int .i64 1)).cell? ⟨p, 4, none⟩ = some (fv 23) := by rw [cell_set_off w3 p 0 4 _ (by decide)]; exact r4
  have ht4 : TmAt (w3.setCell ⟨p, 0, none⟩ (.int .i64 1)) b 1 n := TmAt.block ⟨k0, k1, k2, k3, k4, k5, k6, k7, k8⟩ (Below.heap_setCell _ _ _ _ (by simp; omega))
  clear k0 k1 k2 k3 k4 k5 k6 k7 k8 r0 rf r3 r4 HT2 hb4
  obtain ⟨k0, k1, k2, k3, k4, k5, k6, k7, k8⟩ := ht4
  have hs4 : b < (w3.setCell ⟨p, 0, none⟩ (.int .i64 1)).heap.size := by simp [World.setCell]; omega
  generalize w3.setCell ⟨p, 0, none⟩ (.int .i64 1) = w4 at *
  have n3 := World.new_ne w4 ⟨p, 3, none⟩ e3
  have n4 := World.new_ne w4 ⟨p, 4, none⟩ e4
  have n0 := World.new_ne w4 ⟨b, 0, none⟩ k0
  go_region_held3 (fun w' => w'.cell? ⟨p, 3, none⟩ = some (fv 30) ∧ w'.cell? ⟨p, 4, none⟩ = some (fv 23) ∧ w'.cell? ⟨b, 0, none⟩ = some (.int .i64 1)) (go_keep) (fail)
  have HB5 : Below w4.heap.size w4 (w4.alloc (.cells #[fv 30, fv 23] 55)).drew := ((Below.refl _ w4).alloc (Nat.le_refl _) _).drew
  have ht5 : TmAt (w4.alloc (.cells #[fv 30, fv 23] 55)).drew b 1 n := TmAt.block ⟨k0, k1, k2, k3, k4, k5, k6, k7, k8⟩ (HB5.block b hs4)
  have d0 : (w4.alloc (.cells #[fv 30, fv 23] 55)).drew.cell? ⟨w4.heap.size, 0, none⟩ = some (fv 30) := by simp
  have d1 : (w4.alloc (.cells #[fv 30, fv 23] 55)).drew.cell? ⟨w4.heap.size, 1, none⟩ = some (fv 23) := by simp
  have hs5 : w4.heap.size < (w4.alloc (.cells #[fv 30, fv 23] 55)).drew.heap.size := by simp
  have HT5 := Lib.hid (HT4.out.trans (Turn.of_below (S := fun i => i = p) HB5))
  clear k0 k1 k2 k3 k4 k5 k6 k7 k8 n0 n3 n4 e3 e4 HB5
  rename_i hHeld
  clear hHeld
  generalize (w4.alloc (.cells #[fv 30, fv 23] 55)).drew = w5 at *
  generalize w4.heap.size = dd at *
  clear HT4
  obtain ⟨k0, k1, k2, k3, k4, k5, k6, k7, k8⟩ := ht5
  go_wp2_with fail
  refine (bare_any n _).mono ?_
  rintro e w6 ⟨rfl, hb6⟩
  go_wp2_with fail
  refine (empty_any _).mono ?_
  rintro e w7 ⟨rfl, hb7⟩
  have hb57 := hb6.trans (hb7.mono hb6.size)
  have ht7 : TmAt w7 b 1 n := TmAt.block ⟨k0, k1, k2, k3, k4, k5, k6, k7, k8⟩ (hb57.block b (by omega))
  have e1 : w7.cell? ⟨dd, 1, none⟩ = some (fv 23) := (hb57.cell (p := ⟨dd, 1, none⟩) hs5).trans d1
  have HT7 := Lib.hid (HT5.out.trans (Turn.of_below (S := fun i => i = p) hb57))
  have hs7 : b < w7.heap.size := by have := hb57.size; omega
  clear hb6 hb7 hb57 k0 k1 k2 k3 k4 k5 k6 k7 k8 d0 d1 hs5 HT5
  obtain ⟨k0, k1, k2, k3, k4, k5, k6, k7, k8⟩ := ht7
  go_wp2_with fail
  refine (good_any n _ h0 h1).mono ?_
  rintro e w8 ⟨rfl, hb8⟩
  have ht8 : TmAt w8 b 1 n := TmAt.block ⟨k0, k1, k2, k3, k4, k5, k6, k7, k8⟩ (hb8.block b hs7)
  have HT8 := Lib.hid (HT7.out.trans (Turn.of_below (S := fun i => i = p) hb8))
  clear hb8 k0 k1 k2 k3 k4 k5 k6 k7 k8 e1
  obtain ⟨k0, k1, k2, k3, k4, k5, k6, k7, k8⟩ := ht8
  go_wp2_with fail
  refine wp_loop_rounds 1 ?_
  rw [rounds_succ]
  go_wp2_with fail
  go_ret
  exact ⟨rfl, HT8.out⟩
end Go.Proofs.Ytoipepppdaalpaa
