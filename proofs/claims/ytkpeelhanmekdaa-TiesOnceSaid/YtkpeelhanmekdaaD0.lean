/- term.Copy of a part without parts; term.Atom. -/
import Derived.Test.YtkpeelhanmekdaaA4
namespace Go.Proofs.Ytkpeelhanmekdaa
set_option linter.unusedVariables false
set_option linter.unusedSimpArgs false
set_option linter.constructorNameAsVariable false
open Go.RowKit Go.Maps
set_option maxRecDepth 100000
attribute [local go_sem] run_store_complex G.run_store_func' G.run_store_nilFunc'

abbrev lfC (k n : Int) (s : ByteArray) : Array Value := #[.int .i64 k, .int .i64 n, .complex .f64 0 0, .string s, .int .i64 0, .int .u32 0, .int .u64 0, nilV, nilV]
abbrev lfV (k n : Int) (s : ByteArray) : Value := .agg (lfC k n s)
theorem copied_leaf (k n : Int) (s : ByteArray) (w : World) : Calls Try.prog 29 #[lfV k n s] w (RB w (lfV k n s)) := by
  go_enter Try.func29, Try.ntmps29
  go_wp2_with fail
  refine wp_loop_rounds 1 ?_
  rw [rounds_succ]
  go_wp2_with fail
  exact bodyPost_ret (v := lfV k n s) (by simp [results, Try.results29, go_sem]) rfl ⟨rfl, ((Below.refl w.heap.size w).alloc (Nat.le_refl _) _).alloc (by simp) _⟩
/-- a part that term.Check finds right -/
def Right (k n : Int) (s : ByteArray) : Prop := ∀ w, Calls Try.prog 22 #[lfV k n s] w (RB w (.int .i64 0))
theorem right_int (n : Int) (h : inR n = true) : Right 1 n ⟨#[]⟩ := fun w => by
  refine (G.check_good (.mk { kind := 1, n := n } []) ⟨HdOk.int n h, by simp⟩ (by simp [sizeT, sizeTs]) (fun _ => False) _ w ?_ (fun b h => h.elim)).mono fun _ _ h => h.plain
  exact ⟨nilV, nilV, rfl, Row.nil _ _ _ _, [], Row.nil _ _ _ _, rfl⟩
theorem right_atom (s : ByteArray) (h : nameB s = true) : Right 3 0 s := fun w => by
  refine (G.check_good (.mk { kind := 3, s := s } []) ⟨HdOk.atom s h, by simp⟩ (by simp [sizeT, sizeTs]) (fun _ => False) _ w ?_ (fun b h => h.elim)).mono fun _ _ h => h.plain
  exact ⟨nilV, nilV, rfl, Row.nil _ _ _ _, [], Row.nil _ _ _ _, rfl⟩
theorem set_below {B g : Nat} {w : World} {cs : Array Value} (h : B ≤ g) : Below B w (w.setRow g cs) :=
  ⟨rfl, rfl, rfl, by simp [World.setRow], fun k hk => by simp [World.setRow, Array.getElem?_modify, show ¬ g = k by omega]⟩
theorem heap_new2 (w : World) (o o2 : Obj) : ((w.alloc o).alloc o2).heap[w.heap.size]? = some o := by
  have := ((Below.refl (w.alloc o).heap.size (w.alloc o)).alloc (Nat.le_refl _) o2).block w.heap.size (by simp)
  rw [this]
  exact heap_new w o
theorem nine_of {w : World} {b : Nat} {k n : Int} {s : ByteArray} {t : TypeId} (h : w.heap[b]? = some (.cells (lfC k n s) t (0, 0))) : G.NineAt w b k n 0 0 s 0 0 0 nilV nilV := by
  refine ⟨?_, ?_, ?_, ?_, ?_, ?_, ?_, ?_, ?_⟩ <;> simp [World.cell?, h]
set_option maxHeartbeats 1000000 in
theorem copy_leaf (k n : Int) (s : ByteArray) (hr : Right k n s) (w : World) : Calls Try.prog 23 #[lfV k n s] w (RB w (lfV k n s)) := by
  have hi35 : (Try.prog.info? 44).map (·.size) = some (lfC k n s).size := by kernel_rfl
  have hall : (lfC k n s).all (·.oneCell') = true := by simp [Array.all, Value.oneCell']
  have hx1 := heap_new2 w (.cells (lfC k n s) 44) (.cells (lfC 0 0 ⟨#[]⟩) 44)
  have hx2 : ((w.alloc (.cells (lfC k n s) 44)).alloc (.cells (lfC 0 0 ⟨#[]⟩) 44)).heap[w.heap.size + 1]? = some (.cells (lfC 0 0 ⟨#[]⟩) 44) := by
    have := heap_new (w.alloc (.cells (lfC k n s) 44)) (.cells (lfC 0 0 ⟨#[]⟩) 44)
    simpa using this
  have hB : Below w.heap.size w ((w.alloc (.cells (lfC k n s) 44)).alloc (.cells (lfC 0 0 ⟨#[]⟩) 44)) := ((Below.refl _ _).alloc (Nat.le_refl _) _).alloc (by simp) _
  have hsz : w.heap.size + 1 < ((w.alloc (.cells (lfC k n s) 44)).alloc (.cells (lfC 0 0 ⟨#[]⟩) 44)).heap.size := by simp
  have X1 := Lib.hid hx1
  have X2 := Lib.hid hx2
  have XB := Lib.hid hB
  have HR := Lib.hid hr
  clear hx1 hx2 hB hr
  go_enter Try.func23, Try.ntmps23
  go_wp2_with fail
  generalize (w.alloc (.cells (lfC k n s) 44)).alloc (.cells (lfC 0 0 ⟨#[]⟩) 44) = w0 at *
  refine (HR.out _).mono ?_
  rintro e w1 ⟨rfl, hb1⟩
  have ht1 := nine_of ((hb1.block _ (by omega)).trans X1.out)
  have Y2 := Lib.hid ((hb1.block (w.heap.size + 1) hsz).trans X2.out)
  have HB1 := Lib.hid (XB.out.trans (hb1.mono (by omega)))
  have hs1 : w.heap.size + 1 < w1.heap.size := by have := hb1.size; omega
  clear hb1 X1 X2 XB hsz HR
  obtain ⟨k0, k1, k2, k3, k4, k5, k6, k7, k8⟩ := ht1
  go_wp2_with fail
  refine (copied_leaf k n s _).mono ?_
  rintro e w2 ⟨rfl, hb2⟩
  have Z2 := Lib.hid ((hb2.block (w.heap.size + 1) hs1).trans Y2.out)
  have HB2 := Lib.hid (HB1.out.trans (hb2.mono (by omega)))
  clear hb2 k0 k1 k2 k3 k4 k5 k6 k7 k8 Y2
  go_wp2_with (refine wpList_store_row rfl 44 (.tmp 2) (.tmp 8) rfl (w.heap.size + 1) (lfC k n s) rfl rfl 44 (lfC 0 0 ⟨#[]⟩) Z2.out hi35 rfl hall ?_)
  have ht3 : G.NineAt (w2.setRow (w.heap.size + 1) (lfC k n s)) (w.heap.size + 1) k n 0 0 s 0 0 0 nilV nilV := nine_of (setRow_heap w2 _ _ _ _ _ Z2.out)
  have HB3 := Lib.hid (HB2.out.trans (set_below (w := w2) (cs := lfC k n s) (Nat.le_succ w.heap.size)))
  generalize w2.setRow (w.heap.size + 1) (lfC k n s) = w3 at *
  obtain ⟨k0, k1, k2, k3, k4, k5, k6, k7, k8⟩ := ht3
  exact bodyPost_ret (v := lfV k n s) (by simp [results, Try.results23, go_sem, k0, k1, k2, k3, k4, k5, k6, k7, k8]) rfl ⟨rfl, HB3.out⟩
theorem atom_any (s : ByteArray) (w : World) : Calls Try.prog 19 #[.string s] w (RB w (lfV 3 0 s)) := by
  go_enter Try.func19, Try.ntmps19
  go_wp2_with fail
  exact bodyPost_ret (v := lfV 3 0 s) (by simp [results, Try.results19, go_sem]) rfl ⟨rfl, (Below.refl w.heap.size w).alloc (Nat.le_refl _) _⟩
end Go.Proofs.Ytkpeelhanmekdaa
