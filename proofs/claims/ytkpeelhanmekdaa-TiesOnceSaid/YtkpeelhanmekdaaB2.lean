/- The order of two ids: ties.order, with the draws counted. -/
import Derived.Test.YtkpeelhanmekdaaB1
namespace Go.Proofs.Ytkpeelhanmekdaa.G
set_option linter.unusedVariables false
set_option linter.unusedSimpArgs false
set_option linter.constructorNameAsVariable false
open Go.RowKit
set_option maxRecDepth 100000
attribute [local go_sem] run_store_complex run_store_func' run_store_nilFunc'

abbrev pidC (x : Idd) : Array Value := #[.int .i64 5, .int .i64 0, .complex .f64 0 0, .string ⟨#[]⟩, .int .i64 x.node, .int .u32 x.boot, .int .u64 x.n, nilV, nilV]
/-- what term.order loads of two boxes -/
def SixAt (w : World) (b : Nat) (x y : Idd) : Prop :=
  w.cell? ⟨b, 4, none⟩ = some (.int .i64 x.node) ∧ w.cell? ⟨b, 5, none⟩ = some (.int .u32 x.boot) ∧ w.cell? ⟨b, 6, none⟩ = some (.int .u64 x.n) ∧
  w.cell? ⟨b + 1, 4, none⟩ = some (.int .i64 y.node) ∧ w.cell? ⟨b + 1, 5, none⟩ = some (.int .u32 y.boot) ∧ w.cell? ⟨b + 1, 6, none⟩ = some (.int .u64 y.n)
theorem six_of {w : World} {b : Nat} {x y : Idd} {t : TypeId} (h1 : w.heap[b]? = some (.cells (pidC x) t (0, 0))) (h2 : w.heap[b + 1]? = some (.cells (pidC y) t (0, 0))) : SixAt w b x y := by
  refine ⟨?_, ?_, ?_, ?_, ?_, ?_⟩ <;> simp [World.cell?, h1, h2]
set_option maxHeartbeats 4000000 in
theorem torder_pid (x y : Idd) (w : World) : Calls Try.prog 61 #[pidV x, pidV y] w (RB w (.int .i64 (cmpId x y))) := by
  have hx1 : ((w.alloc (.cells (pidC x) 44)).alloc (.cells (pidC y) 44)).heap[w.heap.size]? = some (.cells (pidC x) 44 (0, 0)) := by
    rw [((Below.refl (w.alloc (.cells (pidC x) 44)).heap.size (w.alloc (.cells (pidC x) 44))).alloc (Nat.le_refl _) (.cells (pidC y) 44)).block w.heap.size (by simp)]
    exact heap_new w _
  have hx2 : ((w.alloc (.cells (pidC x) 44)).alloc (.cells (pidC y) 44)).heap[w.heap.size + 1]? = some (.cells (pidC y) 44 (0, 0)) := by
    have := heap_new (w.alloc (.cells (pidC x) 44)) (.cells (pidC y) 44)
    simpa using this
  have HX := Lib.hid (six_of hx1 hx2)
  have HB := Lib.hid (((Below.refl w.heap.size w).alloc (Nat.le_refl _) (.cells (pidC x) 44)).alloc (by simp) (.cells (pidC y) 44))
  clear hx1 hx2
  go_enter Try.func61, Try.ntmps61
  go_upto_region 12 with fail
  generalize (w.alloc (.cells (pidC x) 44)).alloc (.cells (pidC y) 44) = w0 at *
  obtain ⟨x1, x2, x3, y1, y2, y3⟩ := HX.out
  have hlt : w.heap.size + 1 < w0.heap.size := cell_lt y1
  generalize hbs : w.heap.size = b at *
  have HN : Hid ((w0.alloc (.cells #[.int .i64 (sgn x.node y.node), .int .i64 (sgn x.boot y.boot), .int .i64 (sgn x.n y.n)] 3)).drew.heap[w0.heap.size]? = some (.cells #[.int .i64 (sgn x.node y.node), .int .i64 (sgn x.boot y.boot), .int .i64 (sgn x.n y.n)] 3 (0, 0))) := Lib.hid (heap_new w0 _)
  go_region_held3 (fun w' => w'.cell? ⟨b, 4, none⟩ = some (.int .i64 x.node) ∧ w'.cell? ⟨b, 5, none⟩ = some (.int .u32 x.boot) ∧ w'.cell? ⟨b, 6, none⟩ = some (.int .u64 x.n) ∧ w'.cell? ⟨b + 1, 4, none⟩ = some (.int .i64 y.node) ∧ w'.cell? ⟨b + 1, 5, none⟩ = some (.int .u32 y.boot) ∧ w'.cell? ⟨b + 1, 6, none⟩ = some (.int .u64 y.n)) (first
      | (with_reducible exact hS)
      | (with_reducible exact hSa _)
      | go_keep)
    (first
      | (go_at_call 67; refine (sign_int _ _ _).mono ?_; rintro e wa ⟨rfl, rfl⟩)
      | (go_at_call 71; refine (sign_u32 _ _ _).mono ?_; rintro e wa ⟨rfl, rfl⟩)
      | (go_at_call 72; refine (sign_u64 _ _ _).mono ?_; rintro e wa ⟨rfl, rfl⟩)
      | (go_at_call 70; refine (first_any _ _ _ _ _ HN.out).mono ?_; rintro e wa ⟨rfl, rfl⟩))
  all_goals
    go_wp2_with fail
    go_ret
    exact ⟨rfl, by rw [hbs]; exact (HB.out.alloc (by have := HB.out.size; omega) _).drew⟩
/-- nine cells of a box of an id's term -/
def PidAt (w : World) (b : Nat) (x : Idd) : Prop :=
  w.cell? ⟨b, 0, none⟩ = some (.int .i64 5) ∧ w.cell? ⟨b, 1, none⟩ = some (.int .i64 0) ∧ w.cell? ⟨b, 2, none⟩ = some (.complex .f64 0 0) ∧ w.cell? ⟨b, 3, none⟩ = some (.string ⟨#[]⟩) ∧ w.cell? ⟨b, 4, none⟩ = some (.int .i64 x.node) ∧
  w.cell? ⟨b, 5, none⟩ = some (.int .u32 x.boot) ∧ w.cell? ⟨b, 6, none⟩ = some (.int .u64 x.n) ∧ w.cell? ⟨b, 7, none⟩ = some nilV ∧ w.cell? ⟨b, 8, none⟩ = some nilV
theorem PidAt.block {w w' : World} {b : Nat} {x : Idd} (h : PidAt w b x) (e : w'.heap[b]? = w.heap[b]?) : PidAt w' b x := by
  have c : ∀ o, w'.cell? ⟨b, o, none⟩ = w.cell? ⟨b, o, none⟩ := fun o => World.cell?_of_block (w := w) e
  unfold PidAt
  simp only [c]
  exact h
theorem pid_of {w : World} {b : Nat} {x : Idd} {t : TypeId} (h : w.heap[b]? = some (.cells (pidC x) t (0, 0))) : PidAt w b x := by
  refine ⟨?_, ?_, ?_, ?_, ?_, ?_, ?_, ?_, ?_⟩ <;> simp [World.cell?, h]
theorem nine_pid (x y : Idd) (w : World) : w.heap.size + 1 < ((w.alloc (.cells (pidC x) 44)).alloc (.cells (pidC y) 44)).heap.size ∧ PidAt ((w.alloc (.cells (pidC x) 44)).alloc (.cells (pidC y) 44)) w.heap.size x ∧ PidAt ((w.alloc (.cells (pidC x) 44)).alloc (.cells (pidC y) 44)) (w.heap.size + 1) y := by
  refine ⟨by simp, pid_of (t := 44) ?_, pid_of (t := 44) ?_⟩
  · rw [((Below.refl (w.alloc (.cells (pidC x) 44)).heap.size (w.alloc (.cells (pidC x) 44))).alloc (Nat.le_refl _) (.cells (pidC y) 44)).block w.heap.size (by simp)]
    exact heap_new w _
  · have := heap_new (w.alloc (.cells (pidC x) 44)) (.cells (pidC y) 44)
    simpa using this
/-- term.Cmp of two right ids -/
theorem tcmp_pid (x y : Idd) (hx : IdOk x) (hy : IdOk y) (w : World) : Calls Try.prog 49 #[pidV x, pidV y] w (RB w (.tuple #[.int .i64 (cmpId x y), .int .i64 0])) := by
  have CX := Lib.hid (fun W => check_pid x hx W)
  have CY := Lib.hid (fun W => check_pid y hy W)
  have HB := Lib.hid (((Below.refl w.heap.size w).alloc (Nat.le_refl _) (.cells (pidC x) 44)).alloc (by simp) (.cells (pidC y) 44))
  have HX1 := Lib.hid (nine_pid x y w)
  clear hx hy
  go_enter Try.func49, Try.ntmps49
  go_wp2_with fail
  generalize (w.alloc (.cells (pidC x) 44)).alloc (.cells (pidC y) 44) = w0 at *
  obtain ⟨HS, HN1, HN2⟩ := HX1.out
  have HN1 := Lib.hid HN1
  have HN2 := Lib.hid HN2
  clear HX1
  generalize hbs : w.heap.size = b at *
  refine (CX.out _).mono ?_
  rintro e w1 ⟨rfl, hb1⟩
  have HB1 := Lib.hid (HB.out.trans (hb1.mono (by have := HB.out.size; omega)))
  have M1 := Lib.hid (HN1.out.block (hb1.block _ (by omega)))
  have M2 := Lib.hid (HN2.out.block (hb1.block _ (by omega)))
  have hs1 := hb1.size
  clear hb1 HN1 HN2 HB
  obtain ⟨k0, k1, k2, k3, k4, k5, k6, k7, k8⟩ := M2.out
  go_wp2_with fail
  refine (CY.out _).mono ?_
  rintro e w2 ⟨rfl, hb2⟩
  have HB2 := Lib.hid (HB1.out.trans (hb2.mono (by have := HB1.out.size; omega)))
  have L1 := Lib.hid (M1.out.block (hb2.block _ (by omega)))
  have L2 := Lib.hid (M2.out.block (hb2.block _ (by omega)))
  have hs2 := hb2.size
  clear hb2 M1 M2 HB1 k0 k1 k2 k3 k4 k5 k6 k7 k8
  obtain ⟨k0, k1, k2, k3, k4, k5, k6, k7, k8⟩ := L2.out
  obtain ⟨j0, j1, j2, j3, j4, j5, j6, j7, j8⟩ := L1.out
  go_wp2_with fail
  refine (torder_pid x y w2).mono ?_
  rintro e w3 ⟨rfl, hb3⟩
  have HB3 := Lib.hid (HB2.out.trans (hb3.mono (by have := HB2.out.size; omega)))
  clear hb3 L1 L2 HB2 k0 k1 k2 k3 k4 k5 k6 k7 k8 j0 j1 j2 j3 j4 j5 j6 j7 j8
  go_wp2_with fail
  go_ret2
  exact ⟨rfl, by rw [hbs]; exact HB3.out⟩
/-- two ids as ties.order boxes them -/
def IdAt (w : World) (b : Nat) (x : Idd) : Prop := w.cell? ⟨b, 0, none⟩ = some (.int .i64 x.node) ∧ w.cell? ⟨b, 1, none⟩ = some (.int .u32 x.boot) ∧ w.cell? ⟨b, 2, none⟩ = some (.int .u64 x.n)
theorem IdAt.block {w w' : World} {b : Nat} {x : Idd} (h : IdAt w b x) (e : w'.heap[b]? = w.heap[b]?) : IdAt w' b x := by
  have c : ∀ o, w'.cell? ⟨b, o, none⟩ = w.cell? ⟨b, o, none⟩ := fun o => World.cell?_of_block (w := w) e
  unfold IdAt
  simp only [c]
  exact h
theorem id_of {w : World} {b : Nat} {x : Idd} {t : TypeId} (h : w.heap[b]? = some (.cells (idC x) t (0, 0))) : IdAt w b x := by
  refine ⟨?_, ?_, ?_⟩ <;> simp [World.cell?, h]
theorem two_ids (x y : Idd) (w : World) : w.heap.size + 1 < ((w.alloc (.cells (idC x) 31)).alloc (.cells (idC y) 31)).heap.size ∧ IdAt ((w.alloc (.cells (idC x) 31)).alloc (.cells (idC y) 31)) w.heap.size x ∧ IdAt ((w.alloc (.cells (idC x) 31)).alloc (.cells (idC y) 31)) (w.heap.size + 1) y := by
  refine ⟨by simp, id_of (t := 31) ?_, id_of (t := 31) ?_⟩
  · rw [((Below.refl (w.alloc (.cells (idC x) 31)).heap.size (w.alloc (.cells (idC x) 31))).alloc (Nat.le_refl _) (.cells (idC y) 31)).block w.heap.size (by simp)]
    exact heap_new w _
  · have := heap_new (w.alloc (.cells (idC x) 31)) (.cells (idC y) 31)
    simpa using this
set_option maxHeartbeats 4000000 in
/-- ties.order of two right ids -/
theorem order_any (x y : Idd) (hx : IdOk x) (hy : IdOk y) (w : World) : Calls Try.prog 31 #[idV x, idV y] w (RB w (.int .i64 (cmpId x y))) := by
  have HB := Lib.hid (((Below.refl w.heap.size w).alloc (Nat.le_refl _) (.cells (idC x) 31)).alloc (by simp) (.cells (idC y) 31))
  have HX1 := Lib.hid (two_ids x y w)
  have CX := Lib.hid (tcmp_pid x y hx hy)
  clear hx hy
  go_enter Try.func31, Try.ntmps31
  go_upto_region 1 with fail
  generalize (w.alloc (.cells (idC x) 31)).alloc (.cells (idC y) 31) = w0 at *
  obtain ⟨HS, HN1, HN2⟩ := HX1.out
  clear HX1
  generalize hbs : w.heap.size = b at *
  have HSt : Hid (∀ w', Below w0.heap.size w0 w' → w'.cell? ⟨b, 0, none⟩ = some (.int .i64 x.node) ∧ w'.cell? ⟨b, 1, none⟩ = some (.int .u32 x.boot) ∧ w'.cell? ⟨b, 2, none⟩ = some (.int .u64 x.n) ∧ w'.cell? ⟨b + 1, 0, none⟩ = some (.int .i64 y.node) ∧ w'.cell? ⟨b + 1, 1, none⟩ = some (.int .u32 y.boot) ∧ w'.cell? ⟨b + 1, 2, none⟩ = some (.int .u64 y.n)) := Lib.hid (fun w' hb => by
    obtain ⟨a1, a2, a3⟩ := HN1.block (hb.block b (by omega))
    obtain ⟨b1, b2, b3⟩ := HN2.block (hb.block (b + 1) HS)
    exact ⟨a1, a2, a3, b1, b2, b3⟩)
  have HC : Hid (Below w0.heap.size w0 w0.drew) := Lib.hid ((Below.refl _ _).drew)
  obtain ⟨x1, x2, x3⟩ := HN1
  obtain ⟨y1, y2, y3⟩ := HN2
  go_region_held3 (fun w' => w'.cell? ⟨b, 0, none⟩ = some (.int .i64 x.node) ∧ w'.cell? ⟨b, 1, none⟩ = some (.int .u32 x.boot) ∧ w'.cell? ⟨b, 2, none⟩ = some (.int .u64 x.n) ∧ w'.cell? ⟨b + 1, 0, none⟩ = some (.int .i64 y.node) ∧ w'.cell? ⟨b + 1, 1, none⟩ = some (.int .u32 y.boot) ∧ w'.cell? ⟨b + 1, 2, none⟩ = some (.int .u64 y.n)) (first
      | (with_reducible exact hS)
      | go_keep)
    (first
      | (go_at_call 24; refine (pid_any _ _).mono ?_; rintro e wa ⟨rfl, hba⟩; have hH := HC.out.trans (hba.mono HC.out.size); clear HC; have HC := Lib.hid hH; clear hH hba; have hS := HSt.out _ HC.out)
      | (go_at_call 49; refine (CX.out _).mono ?_; rintro e wc ⟨rfl, hbc⟩; have hH := HC.out.trans (hbc.mono HC.out.size); clear HC; have HC := Lib.hid hH; clear hH hbc; have hS := HSt.out _ HC.out))
  all_goals
    go_wp2_with fail
    go_ret
    exact ⟨rfl, by rw [hbs]; exact HB.out.trans (HC.out.mono (by have := HB.out.size; omega))⟩
end Go.Proofs.Ytkpeelhanmekdaa.G
