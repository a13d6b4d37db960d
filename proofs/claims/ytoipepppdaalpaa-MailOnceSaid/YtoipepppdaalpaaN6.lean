/- A mailbox's Take. -/
import Derived.Test.YtoipepppdaalpaaN4
import Derived.Test.YtoipepppdaalpaaN5
namespace Go.Proofs.Ytoipepppdaalpaa
open Go.RowKit
attribute [local go_sem] run_store_complex

theorem box_nine {B p R over : Nat} {w3 : World} {v' : Value} {ms : List Int} {n : Int} (hx : BoxAt B w3 p v' ms over) (hR : ¬ R = p) (hv : ∀ b, v'.ownBlock = some b → ¬ b = R) : BoxAt B (nine0 w3 R n) p v' ms over := by
  refine hx.keep fun i hi => (nine0_turn _ R n).block i ?_ ?_
  · rcases hi with rfl | hi
    · exact hx.lt
    · exact (hx.owns.lt i hi).2
  · rcases hi with rfl | hi
    · exact fun e => hR e.symm
    · exact hv i hi
set_option maxRecDepth 100000 in
set_option maxHeartbeats 1000000 in
theorem btake_yes (B p : Nat) (v : Value) (ms : List Int) (over : Nat) (w : World) (hB : B ≤ w.heap.size) (h : BoxAt B w p v ms over) (ho : over < ms.length) (hl : ms.length ≤ 256) :
    Calls Try.prog 9 #[.pointer (some ⟨p, 0, none⟩)] w fun e w' => e = .returned (.tuple #[tm 1 ms[over], .int .i64 0]) ∧ ∃ v', BoxAt B w' p v' (ms.take over ++ ms.drop (over + 1)) 0 ∧ Turn (fun i => i = p) w w' ∧ (∀ b, v'.ownBlock = some b → w.heap.size ≤ b) := by
  have hpl := h.lt
  have hB1 : Below w.heap.size w (w.alloc (.cells (tmC 0 0) 35)) := (Below.refl _ w).alloc (Nat.le_refl _) _
  have HX := Lib.hid (h.below hB1)
  have HR := Lib.hid (heap_new w (.cells (tmC 0 0) 35))
  have hsz : w.heap.size < (w.alloc (.cells (tmC 0 0) 35)).heap.size := by simp
  have HB1 := Lib.hid hB1
  have HTk := Lib.hid (fun (v : Value) (w : World) (hB : B ≤ w.heap.size) (h : BoxAt B w p v ms over) => take_any B p v ms over w hB h ho hl)
  clear hB1 h
  generalize ms[over] = n at *
  go_enter Try.func9, Try.ntmps9
  go_wp2_with fail
  generalize w.alloc (.cells (tmC 0 0) 35) = w0 at *
  generalize hbe : w.heap.size = b at *
  have HBE := Lib.hid hbe
  clear hbe
  refine (none_yes B p v ms over w0 HX.out ho).mono ?_
  rintro e w1 ⟨rfl, q, hq⟩
  have HX1 : Hid (BoxAt B w1 p v ms over) := by rw [hq]; exact HX.out.drewN q
  have HR1 : Hid (w1.heap[b]? = some (.cells (tmC 0 0) 35)) := by rw [hq]; exact HR.out
  have HB1d : Hid (Below b w w1) := by rw [hq]; exact ⟨HB1.out.os, HB1.out.tape, HB1.out.output, HB1.out.size, HB1.out.block⟩
  have hs1 : b < w1.heap.size := by rw [hq]; exact hsz
  clear hq HX HR HB1 hsz
  go_wp2_with fail
  refine (HTk.out v w1 (by omega) HX1.out).mono ?_
  rintro e w3 ⟨rfl, v', hx, ht, hfr⟩
  have hbp : ¬ b = p := by omega
  have hRc := (ht.block b hs1 hbp).trans HR1.out
  have HRc := Lib.hid hRc
  have hkr := TmAt.of_block hRc
  have hfz : ∀ o, w3.frozen? ⟨b, o, none⟩ = false := fun o => by simp [World.frozen?, hRc]
  have HX3 := Lib.hid hx
  have HT3 := Lib.hid ht
  have HFR := Lib.hid hfr
  clear hRc hx ht hfr
  obtain ⟨r0, r1, r2, r3, r4, r5, r6, r7, r8⟩ := hkr
  go_wp2_with fail
  have R1 := box_nine (R := b) (n := n) HX3.out hbp (fun k e => by have := HFR.out k e; omega)
  have R2 : Turn (fun i => i = p) w (nine0 w3 b n) := ((Turn.of_below (by rw [HBE.out]; exact HB1d.out)).trans HT3.out).andThen (nine0_turn w3 b n) (fun i e => .inr (by have := HBE.out; omega))
  have R3 : ∀ k, v'.ownBlock = some k → w.heap.size ≤ k := fun k e => by have := HFR.out k e; have := HBE.out; omega
  have R4 := TmAt.of_block (nine0_block n HRc.out)
  dsimp only [nine0] at R1 R2 R4
  clear r0 r1 r2 r3 r4 r5 r6 r7 r8
  generalize (((((((((w3.setCell ⟨b, 0, none⟩ (.int .i64 1)).setCell ⟨b, 1, none⟩ (.int .i64 n)).setCell ⟨b, 2, none⟩ (.complex .f64 0 0)).setCell ⟨b, 3, none⟩ (.string ⟨#[]⟩)).setCell ⟨b, 4, none⟩ (.int .i64 0)).setCell ⟨b, 5, none⟩ (.int .u32 0)).setCell ⟨b, 6, none⟩ (.int .u64 0)).setCell ⟨b, 7, none⟩ (.slice none 0 0)).setCell ⟨b, 8, none⟩ (.slice none 0 0)) = wf at *
  obtain ⟨r0, r1, r2, r3, r4, r5, r6, r7, r8⟩ := R4
  exact bodyPost_ret (v := .tuple #[tm 1 n, .int .i64 0]) (by simp [results, Try.results9, go_sem, r0, r1, r2, r3, r4, r5, r6, r7, r8]) rfl ⟨rfl, v', R1, R2, R3⟩
abbrev nineZ (w : World) (g : Nat) : World := (((((((((w.setCell ⟨g, 0, none⟩ (.int .i64 0)).setCell ⟨g, 1, none⟩ (.int .i64 0)).setCell ⟨g, 2, none⟩ (.complex .f64 0 0)).setCell ⟨g, 3, none⟩ (.string ⟨#[]⟩)).setCell ⟨g, 4, none⟩ (.int .i64 0)).setCell ⟨g, 5, none⟩ (.int .u32 0)).setCell ⟨g, 6, none⟩ (.int .u64 0)).setCell ⟨g, 7, none⟩ (.slice none 0 0)).setCell ⟨g, 8, none⟩ (.slice none 0 0))
theorem nineZ_turn (w : World) (g : Nat) : Turn (fun i => i = g) w (nineZ w g) := (((((((((Turn.setCell w g 0 _).trans (Turn.setCell _ g _ _)).trans (Turn.setCell _ g _ _)).trans (Turn.setCell _ g _ _)).trans (Turn.setCell _ g _ _)).trans (Turn.setCell _ g _ _)).trans (Turn.setCell _ g _ _)).trans (Turn.setCell _ g _ _)).trans (Turn.setCell _ g _ _))
theorem nineZ_block {w : World} {g : Nat} {t : TypeId} (h : w.heap[g]? = some (.cells (tmC 0 0) t (0, 0))) : (nineZ w g).heap[g]? = some (.cells (tmC 0 0) t (0, 0)) := by
  have s0 := heap_setCell_same _ g 0 _ _ (.int .i64 0) h
  simp only [List.setIfInBounds_toArray, List.set_cons_zero, List.set_cons_succ] at s0
  have s1 := heap_setCell_same _ g 1 _ _ (.int .i64 0) s0
  simp only [List.setIfInBounds_toArray, List.set_cons_zero, List.set_cons_succ] at s1
  have s2 := heap_setCell_same _ g 2 _ _ (.complex .f64 0 0) s1
  simp only [List.setIfInBounds_toArray, List.set_cons_zero, List.set_cons_succ] at s2
  have s3 := heap_setCell_same _ g 3 _ _ (.string ⟨#[]⟩) s2
  simp only [List.setIfInBounds_toArray, List.set_cons_zero, List.set_cons_succ] at s3
  have s4 := heap_setCell_same _ g 4 _ _ (.int .i64 0) s3
  simp only [List.setIfInBounds_toArray, List.set_cons_zero, List.set_cons_succ] at s4
  have s5 := heap_setCell_same _ g 5 _ _ (.int .u32 0) s4
  simp only [List.setIfInBounds_toArray, List.set_cons_zero, List.set_cons_succ] at s5
  have s6 := heap_setCell_same _ g 6 _ _ (.int .u64 0) s5
  simp only [List.setIfInBounds_toArray, List.set_cons_zero, List.set_cons_succ] at s6
  have s7 := heap_setCell_same _ g 7 _ _ (.slice none 0 0) s6
  simp only [List.setIfInBounds_toArray, List.set_cons_zero, List.set_cons_succ] at s7
  have s8 := heap_setCell_same _ g 8 _ _ (.slice none 0 0) s7
  simp only [List.setIfInBounds_toArray, List.set_cons_zero, List.set_cons_succ] at s8
  exact s8
set_option maxRecDepth 100000 in
set_option maxHeartbeats 1000000 in
theorem btake_no (B p : Nat) (v : Value) (ms : List Int) (over : Nat) (w : World) (h : BoxAt B w p v ms over) (ho : ¬ over < ms.length) :
    Calls Try.prog 9 #[.pointer (some ⟨p, 0, none⟩)] w fun e w' => e = .returned (.tuple #[tm 0 0, .int .i64 211]) ∧ BoxAt B w' p v ms over ∧ Turn (fun i => i = p) w w' := by
  have hpl := h.lt
  have hvl := Lib.hid (fun k (e : v.ownBlock = some k) => (h.owns.lt k e).2)
  have hB1 : Below w.heap.size w (w.alloc (.cells (tmC 0 0) 35)) := (Below.refl _ w).alloc (Nat.le_refl _) _
  have HX := Lib.hid (h.below hB1)
  have HR := Lib.hid (heap_new w (.cells (tmC 0 0) 35))
  have HB1 := Lib.hid hB1
  clear hB1 h
  go_enter Try.func9, Try.ntmps9
  go_wp2_with fail
  generalize w.alloc (.cells (tmC 0 0) 35) = w0 at *
  generalize hbe : w.heap.size = b at *
  have HBE := Lib.hid hbe
  clear hbe
  refine (none_no B p v ms over w0 HX.out ho).mono ?_
  rintro e w1 ⟨rfl, q, hq⟩
  have HX1 : Hid (BoxAt B w1 p v ms over) := by rw [hq]; exact HX.out.drewN q
  have hRc : w1.heap[b]? = some (.cells (tmC 0 0) 35) := by rw [hq]; exact HR.out
  have HB1d : Hid (Below b w w1) := by rw [hq]; exact ⟨HB1.out.os, HB1.out.tape, HB1.out.output, HB1.out.size, HB1.out.block⟩
  have HRc := Lib.hid hRc
  have hkr := TmAt.of_block hRc
  have hfz : ∀ o, w1.frozen? ⟨b, o, none⟩ = false := fun o => by simp [World.frozen?, hRc]
  have hbp : ¬ b = p := by omega
  clear hq HX HR HB1 hRc
  obtain ⟨r0, r1, r2, r3, r4, r5, r6, r7, r8⟩ := hkr
  go_wp2_with fail
  have R1 : BoxAt B (nineZ w1 b) p v ms over := HX1.out.keep fun i hi => (nineZ_turn w1 b).block i (by
    rcases hi with rfl | hi
    · exact HX1.out.lt
    · exact (HX1.out.owns.lt i hi).2) (by
    rcases hi with rfl | hi
    · exact fun e => hbp e.symm
    · have := hvl.out i hi; omega)
  have R2 : Turn (fun i => i = p) w (nineZ w1 b) := (Turn.of_below (by rw [HBE.out]; exact HB1d.out)).andThen (nineZ_turn w1 b) (fun i e => .inr (by have := HBE.out; omega))
  have R4 := TmAt.of_block (nineZ_block HRc.out)
  dsimp only [nineZ] at R1 R2 R4
  clear r0 r1 r2 r3 r4 r5 r6 r7 r8
  generalize (((((((((w1.setCell ⟨b, 0, none⟩ (.int .i64 0)).setCell ⟨b, 1, none⟩ (.int .i64 0)).setCell ⟨b, 2, none⟩ (.complex .f64 0 0)).setCell ⟨b, 3, none⟩ (.string ⟨#[]⟩)).setCell ⟨b, 4, none⟩ (.int .i64 0)).setCell ⟨b, 5, none⟩ (.int .u32 0)).setCell ⟨b, 6, none⟩ (.int .u64 0)).setCell ⟨b, 7, none⟩ (.slice none 0 0)).setCell ⟨b, 8, none⟩ (.slice none 0 0)) = wf at *
  obtain ⟨r0, r1, r2, r3, r4, r5, r6, r7, r8⟩ := R4
  exact bodyPost_ret (v := .tuple #[tm 0 0, .int .i64 211]) (by simp [results, Try.results9, go_sem, r0, r1, r2, r3, r4, r5, r6, r7, r8]) rfl ⟨rfl, R1, R2⟩
end Go.Proofs.Ytoipepppdaalpaa
